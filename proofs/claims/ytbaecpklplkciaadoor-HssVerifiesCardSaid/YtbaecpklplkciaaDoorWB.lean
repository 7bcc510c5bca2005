import Derived.Test.YtbaecpklplkciaaDoorWA
import Derived.Test.YtbaecpklplkciaaDoorOp14
import Derived.Test.YtbaecpklplkciaaDoorProg
set_option linter.unusedSimpArgs false
set_option linter.unusedVariables false
set_option linter.unusedSectionVars false
namespace Go.Sl.W
open Go.Proofs Go.Sl Go.Sl.M
set_option maxRecDepth 100000 in
set_option maxHeartbeats 4000000 in
theorem c_lms_parted {G : GP} (hg0 : HG0 G) {p_b : List (BitVec 8)} {p_height : Int} {p_kind : Int} {r : T_lms_signature × Bool} (h : lms_parted p_b p_height p_kind = some r) : Ctr Tryd.prog G 62 [(sl u8).slot p_b, i64.slot p_height, i64.slot p_kind] [] (fun (_ : Unit) => tup [R_lms_signature.slot r.1, bl.slot r.2]) (fun (_ : Unit) => []) := by
  unfold lms_parted at h
  refine ctr_of_run Tryd.func62 rfl 68 rfl rfl fun m0 w0 b0 => ?_
  show Run _ _ _ [(0, (sl u8).slot p_b), (1, i64.slot p_height), (2, i64.slot p_kind)] _
  refine rs ?_
  refine rt ?_
  refine j_alloc (x := (0, ([] : List (BitVec 8)), ([] : List T_api_Hash))) (R := R_lms_signature) (zero_prod zero_i64 (zero_prod zero_sl zero_sl)) (by kernel_rfl) rfl fun b1 => ?_
  refine jp (pa has_bl) rfl rfl rfl ?_
  refine j_end ?_
  refine rs ?_
  refine rs ?_
  refine rt ?_
  refine jp (pm (ht rfl)) rfl rfl rfl ?_
  refine jp (pj_len_sl (sz := 1) (ht rfl) (by kernel_rfl)) rfl rfl rfl ?_
  refine jp (pm (ht rfl)) rfl rfl rfl ?_
  refine jp (pm (ht rfl)) rfl rfl rfl ?_
  obtain ⟨r1, e1, h⟩ := bind_some h
  refine jp (pj_call (hc (ht rfl) <| hc (ht rfl) <| hasL_nil) (by kernel_rfl) (c_lms_Size hg0 e1)) rfl rfl rfl ?_
  refine jp (pj_ineq (ht rfl) (ht rfl)) rfl rfl rfl ?_
  refine j_end ?_
  refine run_cond (ht rfl) (fun e2 => ?_) (fun e2 => ?_)
  · replace h := bt e2 h
    refine rs ?_
    refine rt ?_
    refine jp (pj_build (R := R_lms_signature) (zero_prod zero_i64 (zero_prod zero_sl zero_sl)) (by kernel_rfl) (by kernel_rfl) rfl .nil) rfl rfl rfl ?_
    obtain ⟨x1, e3, h⟩ := bind_some h
    refine j_store_boxx (r' := x1) (ht rfl) (ht rfl) .here (Path.all R_lms_signature) (by kernel_rfl) (oi e3) ?_
    refine jp (pa has_bl) rfl rfl rfl ?_
    refine j_end ?_
    obtain rfl := oi h
    exact run_ret fun a w hst => q_retN hst rfl (.cons (.cell rfl .here (by kernel_rfl)) <| .cons (.tmp rfl) <| .nil) rfl () (fun _ _ h => h) (.nil)
  · replace h := bf e2 h
    refine run_skip ?_
    refine rs ?_
    refine rt ?_
    refine jp (pm (ht rfl)) rfl rfl rfl ?_
    obtain ⟨r2, e4, h⟩ := bind_some h
    refine j_call (hc (ht rfl) <| hasL_nil) (by kernel_rfl) (c_wire_New e4) .nil rfl fun b2 => ?_
    refine jp (pa (ht rfl)) rfl rfl rfl ?_
    refine j_end ?_
    refine rs ?_
    refine rt ?_
    refine jp (pm (ht rfl)) rfl rfl rfl ?_
    obtain ⟨r3, e5, h⟩ := bind_some h
    refine j_call (hc (ht rfl) <| hasL_nil) (by kernel_rfl) (c_wire_Reader_U32 e5) (.cons .here <| .nil) rfl fun _ => ?_
    refine jp (pj_conv_ui (by decide) (by kernel_rfl) (ht rfl)) rfl rfl rfl ?_
    refine jp (pm (ht rfl)) rfl rfl rfl ?_
    refine jp (pm (ht rfl)) rfl rfl rfl ?_
    obtain ⟨r4, e6, h⟩ := bind_some h
    refine jp (pj_call (hc (ht rfl) <| hasL_nil) (by kernel_rfl) (c_lmots_Size hg0 e6)) rfl rfl rfl ?_
    obtain ⟨r5, e7, h⟩ := bind_some h
    refine j_call (hc (ht rfl) <| hc (ht rfl) <| hasL_nil) (by kernel_rfl) (c_wire_Reader_Plain e7) (.cons .here <| .nil) rfl fun _ => ?_
    refine j_own_nil 26 R_api_Hash none (jp (pj_buildX (R := (prod i64 (prod (sl u8) (exv (.slice none 0 0))))) (x := (0, ([] : List (BitVec 8)), ())) (zero_prod zero_i64 (zero_prod zero_sl zero_exv)) (by kernel_rfl) (by kernel_rfl) rfl (.cons (ht rfl) (sx_pathx (x1 := ((r3.2.toNat : Int), ([] : List (BitVec 8)), ())) (Path.fst i64 (prod (sl u8) (exv (.slice none 0 0)))) rfl) (by kernel_rfl) (.cons (ht rfl) (sx_pathx (x1 := ((r3.2.toNat : Int), r5.2, ())) (Path.then (Path.snd i64 (prod (sl u8) (exv (.slice none 0 0)))) (Path.fst (sl u8) (exv (.slice none 0 0)))) rfl) (by kernel_rfl) .nil))) rfl rfl rfl ?_)
    refine j_alloc (x := (0, ([] : List (BitVec 8)), ())) (R := (prod i64 (prod (sl u8) (exv (.slice none 0 0))))) (zero_prod zero_i64 (zero_prod zero_sl zero_exv)) (by kernel_rfl) rfl fun b3 => ?_
    refine j_store_all (ht rfl) (ht rfl) .here (by kernel_rfl) (by kernel_rfl) ?_
    refine j_end ?_
    refine rs ?_
    refine rt ?_
    refine jp (pm (ht rfl)) rfl rfl rfl ?_
    obtain ⟨r6, e8, h⟩ := bind_some h
    refine j_call (hc (ht rfl) <| hasL_nil) (by kernel_rfl) (c_wire_Reader_U32 e8) (.cons (.next (.next .here)) <| .nil) rfl fun _ => ?_
    refine jp (pj_conv_ui (by decide) (by kernel_rfl) (ht rfl)) rfl rfl rfl ?_
    refine jp (pa (ht rfl)) rfl rfl rfl ?_
    refine j_end ?_
    refine rs ?_
    refine rs ?_
    refine rt ?_
    refine jp (pm (ht rfl)) rfl rfl rfl ?_
    refine jp (pm has_i64) rfl rfl rfl ?_
    refine j_end ?_
    obtain ⟨⟨y5, y6, y7, y8⟩, e13, h⟩ := bind_some h
    refine run_loopS (Γi := fun (i : Value) (s : Int × (List (BitVec 8)) × Bool × (List T_api_Hash)) => [(1, i64.slot p_height), (2, i64.slot p_kind), (6, val (.pointer (some ⟨b1, 0, none⟩))), (8, val (.pointer (some ⟨b2, 0, none⟩))), (9, val (.pointer (some ⟨b3, 0, none⟩))), (10, i64.slot (r6.2.toNat : Int)), (31, i64.slot p_height), (32, i64.slot s.1)]) (Hi := fun (i : Value) (s : Int × (List (BitVec 8)) × Bool × (List T_api_Hash)) => [box b2 124 (prod (sl u8) bl) (s.2.1, s.2.2.1), box b3 94 (prod i64 (prod (sl u8) (exv i))) ((r3.2.toNat : Int), r5.2, ()), own 26 R_api_Hash i s.2.2.2, box b1 94 R_lms_signature (0, ([] : List (BitVec 8)), ([] : List T_api_Hash))]) e13 (.slice none 0 0) (fun a w hst => (hst.sub (.cons (.of_lk rfl) <| .cons (.of_lk rfl) <| .cons (.of_lk rfl) <| .cons (.of_lk rfl) <| .cons (.of_lk rfl) <| .cons (.of_lk rfl) <| .cons (.of_lk rfl) <| .cons (.of_lk rfl) <| .nil)).keep (.cons .here <| .cons .here <| .cons .here <| .cons .here <| .nil)) ?_ ?_
    · clear h e13
      rintro v1 ⟨y1, y2, y3, y4⟩ lr h
      change lms_parted_L1 p_height y1 y2 y3 y4 = some _ at h
      show Run _ _ _ [(1, i64.slot p_height), (2, i64.slot p_kind), (6, val (.pointer (some ⟨b1, 0, none⟩))), (8, val (.pointer (some ⟨b2, 0, none⟩))), (9, val (.pointer (some ⟨b3, 0, none⟩))), (10, i64.slot (r6.2.toNat : Int)), (31, i64.slot p_height), (32, i64.slot y1)] [box b2 124 (prod (sl u8) bl) (y2, y3), box b3 94 (prod i64 (prod (sl u8) (exv v1))) ((r3.2.toNat : Int), r5.2, ()), own 26 R_api_Hash v1 y4, box b1 94 R_lms_signature (0, ([] : List (BitVec 8)), ([] : List T_api_Hash))]
      unfold lms_parted_L1 at h
      refine rs ?_
      refine rt ?_
      refine jp (pj_ilss (ht rfl) (ht rfl)) rfl rfl rfl ?_
      refine j_end ?_
      refine rs ?_
      refine run_cond (ht rfl) (fun e9 => ?_) (fun e9 => ?_)
      · replace h := bt e9 h
        refine run_skip ?_
        refine rs ?_
        refine run_block ?_
        obtain ⟨r7, e10, h⟩ := bind_some h
        obtain ⟨x2, e11, h⟩ := bind_some h
        refine run_keep (H' := [box b2 124 (prod (sl u8) bl) (y2, y3), box b3 94 (prod i64 (prod (sl u8) (exv v1))) ((r3.2.toNat : Int), r5.2, ()), own 26 R_api_Hash v1 y4, box b1 94 R_lms_signature (0, ([] : List (BitVec 8)), ([] : List T_api_Hash))]) (.cons .here <| .cons .here <| .cons .here <| .cons .here <| .nil) ?_
        refine run_drawL (n := 7) (H := [box b3 94 (prod i64 (prod (sl u8) (exv v1))) ((r3.2.toNat : Int), r5.2, ()), own 26 R_api_Hash v1 y4, box b1 94 R_lms_signature (0, ([] : List (BitVec 8)), ([] : List T_api_Hash))]) (Ls := [⟨[box b2 124 (prod (sl u8) bl) (y2, y3)], [(3, ⟨Unit, fun (_ : Unit) => [box b2 124 (prod (sl u8) bl) (r7.1.1, r7.1.2)], fun (_ : Unit) => [(37, (sl u8).slot r7.2)]⟩)]⟩]) (by kernel_rfl) (by kernel_rfl) (by kernel_rfl) (by kernel_rfl) (by kernel_rfl) rfl (.read rfl (.plain rfl (pj_field_ptr (off := 2) (ht rfl) (by kernel_rfl))) <| .read rfl (.plain rfl (pj_load_box (ht rfl) .here (Path.then (Path.all (prod i64 (prod (sl u8) (exv v1)))) (Path.then (Path.snd i64 (prod (sl u8) (exv v1))) (Path.snd (sl u8) (exv v1)))) (by kernel_rfl))) <| .read rfl (.plain rfl (pm (ht rfl))) <| .step 0 rfl .here (.inl rfl) (fun i => ⟨_, _, fun _ => (), (w_call (hc (ht rfl) <| hc has_i64 <| hasL_nil) (by kernel_rfl) (c_wire_Reader_Plain e10) (.cons .here <| .nil) rfl), fun _ => rfl, slotIs, dst1⟩) <| .read rfl (.plain rfl (pj_s2apx (e := 5) (ht rfl) e11 rfl (by kernel_rfl))) <| .read rfl (.plain rfl (pl (ht rfl) (by kernel_rfl))) <| .read rfl (.plain rfl (pj_buildSlice (T := 26) (R := R_api_Hash) (.cons (ht rfl) .nil) rfl (by kernel_rfl) (by kernel_rfl))) <| .nil) ?_
        rintro _
        refine j_to (Γ' := [(1, i64.slot p_height), (2, i64.slot p_kind), (6, val (.pointer (some ⟨b1, 0, none⟩))), (8, val (.pointer (some ⟨b2, 0, none⟩))), (9, val (.pointer (some ⟨b3, 0, none⟩))), (10, i64.slot (r6.2.toNat : Int)), (31, i64.slot p_height), (32, i64.slot y1), (35, ov v1), (40, (sl R_api_Hash).slot ([x2]))]) (H' := [box b2 124 (prod (sl u8) bl) (r7.1.1, r7.1.2), box b3 94 (prod i64 (prod (sl u8) (exv v1))) ((r3.2.toNat : Int), r5.2, ()), own 26 R_api_Hash v1 y4, box b1 94 R_lms_signature (0, ([] : List (BitVec 8)), ([] : List T_api_Hash))]) (.cons (.of_lk rfl) <| .cons (.of_lk rfl) <| .cons (.of_lk rfl) <| .cons (.of_lk rfl) <| .cons (.of_lk rfl) <| .cons (.of_lk rfl) <| .cons (.of_lk rfl) <| .cons (.of_lk rfl) <| .cons (.of_lk rfl) <| .cons (.of_lk rfl) <| .nil) (.cons .here <| .cons .here <| .cons .here <| .cons .here <| .nil) ?_
        obtain ⟨e12, h⟩ := grd_some h
        refine j_append (T := 26) (E := 26) (ht rfl) (.next (.next .here)) (src_data (ht rfl)) (by kernel_rfl) (by kernel_rfl) e12 rfl fun v2 => ?_
        refine jp (pj_field_ptr (off := 2) (ht rfl) (by kernel_rfl)) rfl rfl rfl ?_
        refine j_store_se ((r3.2.toNat : Int), r5.2, ()) (ht rfl) (ht rfl) (.next (.next .here)) (se_snd i64 (r3.2.toNat : Int) (se_snd (sl u8) r5.2 se_here)) (by kernel_rfl) ?_
        refine j_end ?_
        refine run_endblock ?_
        refine rt ?_
        refine jp (pj_iadd (ht rfl) has_i64) rfl rfl rfl ?_
        refine jp (pm (ht rfl)) rfl rfl rfl ?_
        refine j_end ?_
        obtain rfl := oi h
        exact run_next v2 (.cons (.of_lk rfl) <| .cons (.of_lk rfl) <| .cons (.of_lk rfl) <| .cons (.of_lk rfl) <| .cons (.of_lk rfl) <| .cons (.of_lk rfl) <| .cons (.of_lk rfl) <| .cons (.of_lk rfl) <| .nil) (.cons (.next (.next .here)) <| .cons .here <| .cons .here <| .cons .here <| .nil)
      · replace h := bf e9 h
        obtain rfl := oi h
        exact run_brk v1 (.cons (.of_lk rfl) <| .cons (.of_lk rfl) <| .cons (.of_lk rfl) <| .cons (.of_lk rfl) <| .cons (.of_lk rfl) <| .cons (.of_lk rfl) <| .cons (.of_lk rfl) <| .cons (.of_lk rfl) <| .nil) (.cons .here <| .cons .here <| .cons .here <| .cons .here <| .nil)
    · rintro v3
      show Run _ _ _ [(1, i64.slot p_height), (2, i64.slot p_kind), (6, val (.pointer (some ⟨b1, 0, none⟩))), (8, val (.pointer (some ⟨b2, 0, none⟩))), (9, val (.pointer (some ⟨b3, 0, none⟩))), (10, i64.slot (r6.2.toNat : Int)), (31, i64.slot p_height), (32, i64.slot y5)] [box b2 124 (prod (sl u8) bl) (y6, y7), box b3 94 (prod i64 (prod (sl u8) (exv v3))) ((r3.2.toNat : Int), r5.2, ()), own 26 R_api_Hash v3 y8, box b1 94 R_lms_signature (0, ([] : List (BitVec 8)), ([] : List T_api_Hash))]
      refine run_to (Γ' := [(1, i64.slot p_height), (2, i64.slot p_kind), (6, val (.pointer (some ⟨b1, 0, none⟩))), (8, val (.pointer (some ⟨b2, 0, none⟩))), (9, val (.pointer (some ⟨b3, 0, none⟩))), (10, i64.slot (r6.2.toNat : Int))]) (H' := [box b2 124 (prod (sl u8) bl) (y6, y7), box b3 94 (prod i64 (prod (sl u8) (exv v3))) ((r3.2.toNat : Int), r5.2, ()), own 26 R_api_Hash v3 y8, box b1 94 R_lms_signature (0, ([] : List (BitVec 8)), ([] : List T_api_Hash))]) (.cons (.of_lk rfl) <| .cons (.of_lk rfl) <| .cons (.of_lk rfl) <| .cons (.of_lk rfl) <| .cons (.of_lk rfl) <| .cons (.of_lk rfl) <| .nil) (.cons .here <| .cons .here <| .cons .here <| .cons .here <| .nil) ?_
      refine rs ?_
      refine run_freezeIn ((r3.2.toNat : Int), r5.2, y8) (.next (.next .here)) (.next .here) (cv_snd i64 (r3.2.toNat : Int) (cv_snd (sl u8) r5.2 cv_at)) ?_
      obtain ⟨r8, e14, h⟩ := bind_some h
      obtain ⟨y9, e16, h⟩ := bind_some h
      obtain ⟨y10, e18, h⟩ := bind_some h
      obtain ⟨y11, e21, h⟩ := bind_some h
      refine run_keep (H' := [box b1 94 R_lms_signature (0, ([] : List (BitVec 8)), ([] : List T_api_Hash)), box b3 94 R_lms_signature ((r3.2.toNat : Int), r5.2, y8), box b2 124 (prod (sl u8) bl) (y6, y7)]) (.cons (.next (.next .here)) <| .cons .here <| .cons .here <| .nil) ?_
      refine (run_drawJ (n := 25) (Γ' := [(6, val (.pointer (some ⟨b1, 0, none⟩))), (67, bl.slot y11)]) (H' := [box b1 94 R_lms_signature ((r3.2.toNat : Int), r5.2, y8)]) ?_ fun J => ?_)
      · clear e16 e18 e21
        refine jp (pa (ht rfl)) rfl rfl rfl ?_
        refine j_end ?_
        obtain rfl := oi h
        exact run_ret fun a w hst => q_retN hst rfl (.cons (.cell rfl .here (by kernel_rfl)) <| .cons (.tmp rfl) <| .nil) rfl () (fun _ _ h => h) (.nil)
      · rcases bool_tf (r8) with e15 | e15
        · replace e16 := bt e15 e16
          rcases bool_tf (y9) with e17 | e17
          · replace e18 := bt e17 e18
            obtain ⟨e19, e18⟩ := grd_some e18
            rcases bool_tf (y10) with e20 | e20
            · replace e21 := bt e20 e21
              obtain ⟨r9, e22, e21⟩ := bind_some e21
              obtain ⟨r10, e23, e21⟩ := bind_some e21
              exact run_drawL (n := 25) (H := [box b3 94 R_lms_signature ((r3.2.toNat : Int), r5.2, y8), box b2 124 (prod (sl u8) bl) (y6, y7)]) (Ls := [⟨[box b1 94 R_lms_signature (0, ([] : List (BitVec 8)), ([] : List T_api_Hash))], [(24, ⟨Unit, fun (_ : Unit) => [box b1 94 R_lms_signature ((r3.2.toNat : Int), r5.2, y8)], fun (_ : Unit) => []⟩)]⟩, ⟨[], [(18, ⟨Nat, fun (b4 : Nat) => [box b4 124 (prod (sl u8) bl) (r9.1, r9.2)], fun (b4 : Nat) => [(62, val (.pointer (some ⟨b4, 0, none⟩)))]⟩), (19, ⟨Nat, fun (b4 : Nat) => [box b4 124 (prod (sl u8) bl) (r10.1.1, r10.1.2)], fun (b4 : Nat) => [(63, u32.slot r10.2), (62, val (.pointer (some ⟨b4, 0, none⟩)))]⟩)]⟩]) (by kernel_rfl) (by kernel_rfl) (by kernel_rfl) (by kernel_rfl) (by kernel_rfl) rfl (.read rfl (.plain rfl (pj_load_box (ht rfl) .here (Path.all R_lms_signature) (by kernel_rfl))) <| .read rfl (.plain rfl (pm (ht rfl))) <| .read rfl (.plain rfl (pj_callR (hc (ht rfl) <| hasL_nil) (.next .here) (by kernel_rfl) (fun _ => (c_wire_Reader_Done e14)))) <| .read rfl (.plain rfl (pm (ht rfl))) <| .read rfl (.yes ⟨3, true, _, 47, _, rfl, rfl, rfl, fun _ _ => bl_p.1, gd_yes e15⟩ (pm (ht rfl))) <| .read rfl (.yes ⟨3, true, _, 47, _, rfl, rfl, rfl, fun _ _ => bl_p.1, gd_yes e15⟩ (pm (ht rfl))) <| .read rfl (.yes ⟨3, true, _, 47, _, rfl, rfl, rfl, fun _ _ => bl_p.1, gd_yes e15⟩ (pj_ieql (ht rfl) (ht rfl))) <| .read rfl (.plain rfl (PJ.eqv (R := bl) (pj_pick (t := any) (ht rfl) (fun _ => (ht rfl)) (fun he => absurd (e15.symm.trans he) (by decide))) (oi e16))) <| .read rfl (.plain rfl (pm (ht rfl))) <| .read rfl (.yes ⟨8, true, _, 52, _, rfl, rfl, rfl, fun _ _ => bl_p.1, gd_yes e17⟩ (pj_field_ptr (off := 0) (ht rfl) (by kernel_rfl))) <| .read rfl (.yes ⟨8, true, _, 52, _, rfl, rfl, rfl, fun _ _ => bl_p.1, gd_yes e17⟩ (pj_load_box (ht rfl) .here (Path.then (Path.all R_lms_signature) (Path.fst i64 (prod (sl u8) (sl R_api_Hash)))) (by kernel_rfl))) <| .read rfl (.yes ⟨8, true, _, 52, _, rfl, rfl, rfl, fun _ _ => bl_p.1, gd_yes e17⟩ (pm (ht rfl))) <| .read rfl (.yes ⟨8, true, _, 52, _, rfl, rfl, rfl, fun _ _ => bl_p.1, gd_yes e17⟩ (pj_ishl has_i64 (ht rfl) isInt_i64 e19)) <| .read rfl (.yes ⟨8, true, _, 52, _, rfl, rfl, rfl, fun _ _ => bl_p.1, gd_yes e17⟩ (pj_ilss (ht rfl) (ht rfl))) <| .read rfl (.plain rfl (PJ.eqv (R := bl) (pj_pick (t := any) (ht rfl) (fun _ => (ht rfl)) (fun he => absurd (e17.symm.trans he) (by decide))) (oi e18))) <| .read rfl (.plain rfl (pm (ht rfl))) <| .read rfl (.yes ⟨15, true, _, 59, _, rfl, rfl, rfl, fun _ _ => bl_p.1, gd_yes e20⟩ (pj_field_ptr (off := 1) (ht rfl) (by kernel_rfl))) <| .read rfl (.yes ⟨15, true, _, 59, _, rfl, rfl, rfl, fun _ _ => bl_p.1, gd_yes e20⟩ (pj_load_box (ht rfl) .here (Path.then (Path.all R_lms_signature) (Path.then (Path.snd i64 (prod (sl u8) (sl R_api_Hash))) (Path.fst (sl u8) (sl R_api_Hash)))) (by kernel_rfl))) <| .step 1 rfl .here (.inr ⟨15, true, _, 59, _, rfl, rfl, rfl, fun _ _ => bl_p.1, gd_yes e20⟩) (fun i => ⟨_, _, fun j => j, (w_call (hc (ht rfl) <| hasL_nil) (by kernel_rfl) (c_wire_New e22) .nil rfl), fun _ => rfl, slotAny, dst1⟩) <| .step 1 rfl (.next .here) (.inr ⟨15, true, _, 59, _, rfl, rfl, rfl, fun _ _ => bl_p.1, gd_yes e20⟩) (fun i => ⟨_, _, fun _ => i, (w_call (hc (ht rfl) <| hasL_nil) (by kernel_rfl) (c_wire_Reader_U32 e23) (.cons .here <| .nil) rfl), fun _ => rfl, slotIs, dst1⟩) <| .read rfl (.yes ⟨15, true, _, 59, _, rfl, rfl, rfl, fun _ _ => bl_p.1, gd_yes e20⟩ (pj_conv_ui (by decide) (by kernel_rfl) (ht rfl))) <| .read rfl (.yes ⟨15, true, _, 59, _, rfl, rfl, rfl, fun _ _ => bl_p.1, gd_yes e20⟩ (pm (ht rfl))) <| .read rfl (.yes ⟨15, true, _, 59, _, rfl, rfl, rfl, fun _ _ => bl_p.1, gd_yes e20⟩ (pj_ieql (ht rfl) (ht rfl))) <| .read rfl (.plain rfl (PJ.eqv (R := bl) (pj_pick (t := any) (ht rfl) (fun _ => (ht rfl)) (fun he => absurd (e20.symm.trans he) (by decide))) (oi e21))) <| .step 0 rfl .here (.inl rfl) (fun i => ⟨_, _, fun _ => (), (w_store (r' := ((r3.2.toNat : Int), r5.2, y8)) (ht rfl) (ht rfl) .here (Path.all R_lms_signature) (by kernel_rfl) rfl), fun _ => rfl, (slotNo (s := any)), dst0⟩) <| .nil) (fun _ b4 => j_to (Γ' := [(6, val (.pointer (some ⟨b1, 0, none⟩))), (67, bl.slot y11)]) (H' := [box b1 94 R_lms_signature ((r3.2.toNat : Int), r5.2, y8)]) (.cons (.of_lk rfl) <| .cons (.of_lk rfl) <| .nil) (.cons .here <| .nil) J)
            · replace e21 := bf e20 e21
              exact run_drawL (n := 25) (H := [box b3 94 R_lms_signature ((r3.2.toNat : Int), r5.2, y8), box b2 124 (prod (sl u8) bl) (y6, y7)]) (Ls := [⟨[box b1 94 R_lms_signature (0, ([] : List (BitVec 8)), ([] : List T_api_Hash))], [(24, ⟨Unit, fun (_ : Unit) => [box b1 94 R_lms_signature ((r3.2.toNat : Int), r5.2, y8)], fun (_ : Unit) => []⟩)]⟩]) (by kernel_rfl) (by kernel_rfl) (by kernel_rfl) (by kernel_rfl) (by kernel_rfl) rfl (.read rfl (.plain rfl (pj_load_box (ht rfl) .here (Path.all R_lms_signature) (by kernel_rfl))) <| .read rfl (.plain rfl (pm (ht rfl))) <| .read rfl (.plain rfl (pj_callR (hc (ht rfl) <| hasL_nil) (.next .here) (by kernel_rfl) (fun _ => (c_wire_Reader_Done e14)))) <| .read rfl (.plain rfl (pm (ht rfl))) <| .read rfl (.yes ⟨3, true, _, 47, _, rfl, rfl, rfl, fun _ _ => bl_p.1, gd_yes e15⟩ (pm (ht rfl))) <| .read rfl (.yes ⟨3, true, _, 47, _, rfl, rfl, rfl, fun _ _ => bl_p.1, gd_yes e15⟩ (pm (ht rfl))) <| .read rfl (.yes ⟨3, true, _, 47, _, rfl, rfl, rfl, fun _ _ => bl_p.1, gd_yes e15⟩ (pj_ieql (ht rfl) (ht rfl))) <| .read rfl (.plain rfl (PJ.eqv (R := bl) (pj_pick (t := any) (ht rfl) (fun _ => (ht rfl)) (fun he => absurd (e15.symm.trans he) (by decide))) (oi e16))) <| .read rfl (.plain rfl (pm (ht rfl))) <| .read rfl (.yes ⟨8, true, _, 52, _, rfl, rfl, rfl, fun _ _ => bl_p.1, gd_yes e17⟩ (pj_field_ptr (off := 0) (ht rfl) (by kernel_rfl))) <| .read rfl (.yes ⟨8, true, _, 52, _, rfl, rfl, rfl, fun _ _ => bl_p.1, gd_yes e17⟩ (pj_load_box (ht rfl) .here (Path.then (Path.all R_lms_signature) (Path.fst i64 (prod (sl u8) (sl R_api_Hash)))) (by kernel_rfl))) <| .read rfl (.yes ⟨8, true, _, 52, _, rfl, rfl, rfl, fun _ _ => bl_p.1, gd_yes e17⟩ (pm (ht rfl))) <| .read rfl (.yes ⟨8, true, _, 52, _, rfl, rfl, rfl, fun _ _ => bl_p.1, gd_yes e17⟩ (pj_ishl has_i64 (ht rfl) isInt_i64 e19)) <| .read rfl (.yes ⟨8, true, _, 52, _, rfl, rfl, rfl, fun _ _ => bl_p.1, gd_yes e17⟩ (pj_ilss (ht rfl) (ht rfl))) <| .read rfl (.plain rfl (PJ.eqv (R := bl) (pj_pick (t := any) (ht rfl) (fun _ => (ht rfl)) (fun he => absurd (e17.symm.trans he) (by decide))) (oi e18))) <| .read rfl (.plain rfl (pm (ht rfl))) <| .read rfl (.no ⟨15, true, _, 59, _, rfl, rfl, rfl, fun _ _ => bl_p.1, gd_no e20⟩) <| .read rfl (.no ⟨15, true, _, 59, _, rfl, rfl, rfl, fun _ _ => bl_p.1, gd_no e20⟩) <| .read rfl (.no ⟨15, true, _, 59, _, rfl, rfl, rfl, fun _ _ => bl_p.1, gd_no e20⟩) <| .read rfl (.no ⟨15, true, _, 59, _, rfl, rfl, rfl, fun _ _ => bl_p.1, gd_no e20⟩) <| .read rfl (.no ⟨15, true, _, 59, _, rfl, rfl, rfl, fun _ _ => bl_p.1, gd_no e20⟩) <| .read rfl (.no ⟨15, true, _, 59, _, rfl, rfl, rfl, fun _ _ => bl_p.1, gd_no e20⟩) <| .read rfl (.no ⟨15, true, _, 59, _, rfl, rfl, rfl, fun _ _ => bl_p.1, gd_no e20⟩) <| .read rfl (.plain rfl (PJ.eqv (R := bl) (pj_pick (t := any) (ht rfl) (fun he => absurd (e20.symm.trans he) (by decide)) (fun _ => has_bl)) (oi e21))) <| .step 0 rfl .here (.inl rfl) (fun i => ⟨_, _, fun _ => (), (w_store (r' := ((r3.2.toNat : Int), r5.2, y8)) (ht rfl) (ht rfl) .here (Path.all R_lms_signature) (by kernel_rfl) rfl), fun _ => rfl, (slotNo (s := any)), dst0⟩) <| .nil) (fun _ => j_to (Γ' := [(6, val (.pointer (some ⟨b1, 0, none⟩))), (67, bl.slot y11)]) (H' := [box b1 94 R_lms_signature ((r3.2.toNat : Int), r5.2, y8)]) (.cons (.of_lk rfl) <| .cons (.of_lk rfl) <| .nil) (.cons .here <| .nil) J)
          · replace e18 := bf e17 e18
            rcases bool_tf (y10) with e20 | e20
            · exact absurd ((oi e18).trans e20) (by decide)
            · replace e21 := bf e20 e21
              exact run_drawL (n := 25) (H := [box b3 94 R_lms_signature ((r3.2.toNat : Int), r5.2, y8), box b2 124 (prod (sl u8) bl) (y6, y7)]) (Ls := [⟨[box b1 94 R_lms_signature (0, ([] : List (BitVec 8)), ([] : List T_api_Hash))], [(24, ⟨Unit, fun (_ : Unit) => [box b1 94 R_lms_signature ((r3.2.toNat : Int), r5.2, y8)], fun (_ : Unit) => []⟩)]⟩]) (by kernel_rfl) (by kernel_rfl) (by kernel_rfl) (by kernel_rfl) (by kernel_rfl) rfl (.read rfl (.plain rfl (pj_load_box (ht rfl) .here (Path.all R_lms_signature) (by kernel_rfl))) <| .read rfl (.plain rfl (pm (ht rfl))) <| .read rfl (.plain rfl (pj_callR (hc (ht rfl) <| hasL_nil) (.next .here) (by kernel_rfl) (fun _ => (c_wire_Reader_Done e14)))) <| .read rfl (.plain rfl (pm (ht rfl))) <| .read rfl (.yes ⟨3, true, _, 47, _, rfl, rfl, rfl, fun _ _ => bl_p.1, gd_yes e15⟩ (pm (ht rfl))) <| .read rfl (.yes ⟨3, true, _, 47, _, rfl, rfl, rfl, fun _ _ => bl_p.1, gd_yes e15⟩ (pm (ht rfl))) <| .read rfl (.yes ⟨3, true, _, 47, _, rfl, rfl, rfl, fun _ _ => bl_p.1, gd_yes e15⟩ (pj_ieql (ht rfl) (ht rfl))) <| .read rfl (.plain rfl (PJ.eqv (R := bl) (pj_pick (t := any) (ht rfl) (fun _ => (ht rfl)) (fun he => absurd (e15.symm.trans he) (by decide))) (oi e16))) <| .read rfl (.plain rfl (pm (ht rfl))) <| .read rfl (.no ⟨8, true, _, 52, _, rfl, rfl, rfl, fun _ _ => bl_p.1, gd_no e17⟩) <| .read rfl (.no ⟨8, true, _, 52, _, rfl, rfl, rfl, fun _ _ => bl_p.1, gd_no e17⟩) <| .read rfl (.no ⟨8, true, _, 52, _, rfl, rfl, rfl, fun _ _ => bl_p.1, gd_no e17⟩) <| .read rfl (.no ⟨8, true, _, 52, _, rfl, rfl, rfl, fun _ _ => bl_p.1, gd_no e17⟩) <| .read rfl (.no ⟨8, true, _, 52, _, rfl, rfl, rfl, fun _ _ => bl_p.1, gd_no e17⟩) <| .read rfl (.plain rfl (PJ.eqv (R := bl) (pj_pick (t := any) (ht rfl) (fun he => absurd (e17.symm.trans he) (by decide)) (fun _ => has_bl)) (oi e18))) <| .read rfl (.plain rfl (pm (ht rfl))) <| .read rfl (.no ⟨15, true, _, 59, _, rfl, rfl, rfl, fun _ _ => bl_p.1, gd_no e20⟩) <| .read rfl (.no ⟨15, true, _, 59, _, rfl, rfl, rfl, fun _ _ => bl_p.1, gd_no e20⟩) <| .read rfl (.no ⟨15, true, _, 59, _, rfl, rfl, rfl, fun _ _ => bl_p.1, gd_no e20⟩) <| .read rfl (.no ⟨15, true, _, 59, _, rfl, rfl, rfl, fun _ _ => bl_p.1, gd_no e20⟩) <| .read rfl (.no ⟨15, true, _, 59, _, rfl, rfl, rfl, fun _ _ => bl_p.1, gd_no e20⟩) <| .read rfl (.no ⟨15, true, _, 59, _, rfl, rfl, rfl, fun _ _ => bl_p.1, gd_no e20⟩) <| .read rfl (.no ⟨15, true, _, 59, _, rfl, rfl, rfl, fun _ _ => bl_p.1, gd_no e20⟩) <| .read rfl (.plain rfl (PJ.eqv (R := bl) (pj_pick (t := any) (ht rfl) (fun he => absurd (e20.symm.trans he) (by decide)) (fun _ => has_bl)) (oi e21))) <| .step 0 rfl .here (.inl rfl) (fun i => ⟨_, _, fun _ => (), (w_store (r' := ((r3.2.toNat : Int), r5.2, y8)) (ht rfl) (ht rfl) .here (Path.all R_lms_signature) (by kernel_rfl) rfl), fun _ => rfl, (slotNo (s := any)), dst0⟩) <| .nil) (fun _ => j_to (Γ' := [(6, val (.pointer (some ⟨b1, 0, none⟩))), (67, bl.slot y11)]) (H' := [box b1 94 R_lms_signature ((r3.2.toNat : Int), r5.2, y8)]) (.cons (.of_lk rfl) <| .cons (.of_lk rfl) <| .nil) (.cons .here <| .nil) J)
        · replace e16 := bf e15 e16
          rcases bool_tf (y9) with e17 | e17
          · exact absurd ((oi e16).trans e17) (by decide)
          · replace e18 := bf e17 e18
            rcases bool_tf (y10) with e20 | e20
            · exact absurd ((oi e18).trans e20) (by decide)
            · replace e21 := bf e20 e21
              exact run_drawL (n := 25) (H := [box b3 94 R_lms_signature ((r3.2.toNat : Int), r5.2, y8), box b2 124 (prod (sl u8) bl) (y6, y7)]) (Ls := [⟨[box b1 94 R_lms_signature (0, ([] : List (BitVec 8)), ([] : List T_api_Hash))], [(24, ⟨Unit, fun (_ : Unit) => [box b1 94 R_lms_signature ((r3.2.toNat : Int), r5.2, y8)], fun (_ : Unit) => []⟩)]⟩]) (by kernel_rfl) (by kernel_rfl) (by kernel_rfl) (by kernel_rfl) (by kernel_rfl) rfl (.read rfl (.plain rfl (pj_load_box (ht rfl) .here (Path.all R_lms_signature) (by kernel_rfl))) <| .read rfl (.plain rfl (pm (ht rfl))) <| .read rfl (.plain rfl (pj_callR (hc (ht rfl) <| hasL_nil) (.next .here) (by kernel_rfl) (fun _ => (c_wire_Reader_Done e14)))) <| .read rfl (.plain rfl (pm (ht rfl))) <| .read rfl (.no ⟨3, true, _, 47, _, rfl, rfl, rfl, fun _ _ => bl_p.1, gd_no e15⟩) <| .read rfl (.no ⟨3, true, _, 47, _, rfl, rfl, rfl, fun _ _ => bl_p.1, gd_no e15⟩) <| .read rfl (.no ⟨3, true, _, 47, _, rfl, rfl, rfl, fun _ _ => bl_p.1, gd_no e15⟩) <| .read rfl (.plain rfl (PJ.eqv (R := bl) (pj_pick (t := any) (ht rfl) (fun he => absurd (e15.symm.trans he) (by decide)) (fun _ => has_bl)) (oi e16))) <| .read rfl (.plain rfl (pm (ht rfl))) <| .read rfl (.no ⟨8, true, _, 52, _, rfl, rfl, rfl, fun _ _ => bl_p.1, gd_no e17⟩) <| .read rfl (.no ⟨8, true, _, 52, _, rfl, rfl, rfl, fun _ _ => bl_p.1, gd_no e17⟩) <| .read rfl (.no ⟨8, true, _, 52, _, rfl, rfl, rfl, fun _ _ => bl_p.1, gd_no e17⟩) <| .read rfl (.no ⟨8, true, _, 52, _, rfl, rfl, rfl, fun _ _ => bl_p.1, gd_no e17⟩) <| .read rfl (.no ⟨8, true, _, 52, _, rfl, rfl, rfl, fun _ _ => bl_p.1, gd_no e17⟩) <| .read rfl (.plain rfl (PJ.eqv (R := bl) (pj_pick (t := any) (ht rfl) (fun he => absurd (e17.symm.trans he) (by decide)) (fun _ => has_bl)) (oi e18))) <| .read rfl (.plain rfl (pm (ht rfl))) <| .read rfl (.no ⟨15, true, _, 59, _, rfl, rfl, rfl, fun _ _ => bl_p.1, gd_no e20⟩) <| .read rfl (.no ⟨15, true, _, 59, _, rfl, rfl, rfl, fun _ _ => bl_p.1, gd_no e20⟩) <| .read rfl (.no ⟨15, true, _, 59, _, rfl, rfl, rfl, fun _ _ => bl_p.1, gd_no e20⟩) <| .read rfl (.no ⟨15, true, _, 59, _, rfl, rfl, rfl, fun _ _ => bl_p.1, gd_no e20⟩) <| .read rfl (.no ⟨15, true, _, 59, _, rfl, rfl, rfl, fun _ _ => bl_p.1, gd_no e20⟩) <| .read rfl (.no ⟨15, true, _, 59, _, rfl, rfl, rfl, fun _ _ => bl_p.1, gd_no e20⟩) <| .read rfl (.no ⟨15, true, _, 59, _, rfl, rfl, rfl, fun _ _ => bl_p.1, gd_no e20⟩) <| .read rfl (.plain rfl (PJ.eqv (R := bl) (pj_pick (t := any) (ht rfl) (fun he => absurd (e20.symm.trans he) (by decide)) (fun _ => has_bl)) (oi e21))) <| .step 0 rfl .here (.inl rfl) (fun i => ⟨_, _, fun _ => (), (w_store (r' := ((r3.2.toNat : Int), r5.2, y8)) (ht rfl) (ht rfl) .here (Path.all R_lms_signature) (by kernel_rfl) rfl), fun _ => rfl, (slotNo (s := any)), dst0⟩) <| .nil) (fun _ => j_to (Γ' := [(6, val (.pointer (some ⟨b1, 0, none⟩))), (67, bl.slot y11)]) (H' := [box b1 94 R_lms_signature ((r3.2.toNat : Int), r5.2, y8)]) (.cons (.of_lk rfl) <| .cons (.of_lk rfl) <| .nil) (.cons .here <| .nil) J)
set_option maxRecDepth 100000 in
set_option maxHeartbeats 4000000 in
theorem c_lmots_form_cut {G : GP} {Sy : Type} {p_f : T_lmots_form} {p_b : List (BitVec 8)} {yl : Sy → Int → Option Sy} {s0 : Sy} {L : Nat} {rc : Loop} {E : Sy → Ent} {r : Sy} (hY : ∀ s d s', yl s d = some s' → YieldC Tryd.prog G L rc (i64.slot d) (E s) (E s')) (h : lmots_form_cut p_f p_b yl s0 = some r) : CtrY Tryd.prog G L rc 103 [R_lmots_form.slot p_f, (sl u8).slot p_b, val (yv L)] [E s0] (fun (_ : Unit) => tup []) (fun (_ : Unit) => [E r]) := by
  unfold lmots_form_cut at h
  refine ctrY_of_run Tryd.func103 rfl 35 rfl rfl fun m0 w0 b0 hl hb => ?_
  show Run _ _ _ [(0, R_lmots_form.slot p_f), (1, (sl u8).slot p_b), (2, val (yv L))] _
  refine rs ?_
  refine rt ?_
  refine jp (pj_box_to (ht rfl)) rfl rfl rfl ?_
  refine j_end ?_
  refine rs ?_
  refine rt ?_
  refine jp (pm (ht rfl)) rfl rfl rfl ?_
  refine jp (pj_len_sl (sz := 1) (ht rfl) (by kernel_rfl)) rfl rfl rfl ?_
  refine jp (pm has_i64) rfl rfl rfl ?_
  refine j_end ?_
  obtain ⟨⟨y8, y9⟩, e9, h⟩ := bind_some h
  refine run_loopS (Γi := fun (i : Unit) (s : Int × Sy) => [(2, val (yv L)), (3, ptrTo R_lmots_form p_f), (9, (sl u8).slot p_b), (10, i64.slot (p_b.length : Int)), (11, i64.slot s.1)]) (Hi := fun (i : Unit) (s : Int × Sy) => [E s.2]) e9 () (fun a w hst => (hst.sub (.cons (.of_lk rfl) <| .cons (.of_lk rfl) <| .cons (.of_lk rfl) <| .cons (.of_lk rfl) <| .cons (.of_lk rfl) <| .nil)).keep (.cons .here <| .nil)) ?_ ?_
  · clear h e9
    rintro _ ⟨y1, y2⟩ lr h
    change lmots_form_cut_L1 p_b p_f yl y1 y2 = some _ at h
    show Run _ _ _ [(2, val (yv L)), (3, ptrTo R_lmots_form p_f), (9, (sl u8).slot p_b), (10, i64.slot (p_b.length : Int)), (11, i64.slot y1)] [E y2]
    unfold lmots_form_cut_L1 at h
    refine rs ?_
    refine rt ?_
    refine jp (pj_ilss (ht rfl) (ht rfl)) rfl rfl rfl ?_
    refine j_end ?_
    refine rs ?_
    refine run_cond (ht rfl) (fun e1 => ?_) (fun e1 => ?_)
    · replace h := bt e1 h
      refine run_skip ?_
      refine rs ?_
      refine run_block ?_
      refine rs ?_
      refine rt ?_
      obtain ⟨x1, e2, h⟩ := bind_some h
      refine jp (pj_index_slx (ht rfl) (ht rfl) isInt_i64 e2 (by kernel_rfl)) rfl rfl rfl ?_
      refine jp (pl (ht rfl) (by kernel_rfl)) rfl rfl rfl ?_
      refine jp (pa (ht rfl)) rfl rfl rfl ?_
      refine j_end ?_
      refine rs ?_
      refine rt ?_
      refine jp (pj_field_to (ht rfl) (Path.fst i64 (prod i64 i64)) (by kernel_rfl)) rfl rfl rfl ?_
      refine jp (pl (ht rfl) (by kernel_rfl)) rfl rfl rfl ?_
      refine jp (pj_isub has_i64 (ht rfl)) rfl rfl rfl ?_
      refine jp (pa (ht rfl)) rfl rfl rfl ?_
      refine j_end ?_
      obtain ⟨⟨y6, y7⟩, e8, h⟩ := bind_some h
      refine run_loopS (Γi := fun (i : Unit) (s : Int × Sy) => [(2, val (yv L)), (3, ptrTo R_lmots_form p_f), (7, u8.slot x1), (8, i64.slot s.1), (9, (sl u8).slot p_b), (10, i64.slot (p_b.length : Int)), (11, i64.slot y1)]) (Hi := fun (i : Unit) (s : Int × Sy) => [E s.2]) e8 () (fun a w hst => (hst.sub (.cons (.of_lk rfl) <| .cons (.of_lk rfl) <| .cons (.of_lk rfl) <| .cons (.of_lk rfl) <| .cons (.of_lk rfl) <| .cons (.of_lk rfl) <| .cons (.of_lk rfl) <| .nil)).keep (.cons .here <| .nil)) ?_ ?_
      · clear h e8
        rintro _ ⟨y3, y4⟩ lr h
        change lmots_form_cut_L2 p_f yl x1 y3 y4 = some _ at h
        show Run _ _ _ [(2, val (yv L)), (3, ptrTo R_lmots_form p_f), (7, u8.slot x1), (8, i64.slot y3), (9, (sl u8).slot p_b), (10, i64.slot (p_b.length : Int)), (11, i64.slot y1)] [E y4]
        unfold lmots_form_cut_L2 at h
        refine rs ?_
        refine rs ?_
        refine rt ?_
        refine jp (pm (ht rfl)) rfl rfl rfl ?_
        refine jp (pj_igeq (ht rfl) has_i64) rfl rfl rfl ?_
        refine j_end ?_
        refine run_cond (ht rfl) (fun e3 => ?_) (fun e3 => ?_)
        · replace h := bt e3 h
          refine run_skip ?_
          refine rs ?_
          refine run_block ?_
          refine rs ?_
          obtain ⟨e4, h⟩ := grd_some h
          obtain ⟨r1, e5, h⟩ := bind_some h
          refine run_draw (n := 8) (by kernel_rfl) (by kernel_rfl) (by kernel_rfl) (by kernel_rfl) (.read (.plain rfl (pm (ht rfl))) <| .read (.plain rfl (pm (ht rfl))) <| .read (.plain rfl (pj_conv_ui (by decide) (by kernel_rfl) (ht rfl))) <| .read (.plain rfl (pm (ht rfl))) <| .read (.plain rfl (pj_ishr (ht rfl) (ht rfl) isInt_i64 e4)) <| .read (.plain rfl (pl (ht rfl) (by kernel_rfl))) <| .read (.plain rfl (pj_call (hc (ht rfl) <| hasL_nil) (by kernel_rfl) (c_lmots_form_most e5))) <| .read (.plain rfl (pj_iand (ht rfl) (ht rfl))) <| .nil) (j_to (Γ' := [(2, val (yv L)), (3, ptrTo R_lmots_form p_f), (7, u8.slot x1), (8, i64.slot y3), (9, (sl u8).slot p_b), (10, i64.slot (p_b.length : Int)), (11, i64.slot y1), (24, val (yv L)), (31, i64.slot (iand (ishr (x1.toNat : Int) y3) r1))]) (H' := [E y4]) (.cons (.of_lk rfl) <| .cons (.of_lk rfl) <| .cons (.of_lk rfl) <| .cons (.of_lk rfl) <| .cons (.of_lk rfl) <| .cons (.of_lk rfl) <| .cons (.of_lk rfl) <| .cons (.of_lk rfl) <| .cons (.of_lk rfl) <| .nil) (.cons .here <| .nil) ?_)
          obtain ⟨y5, e6, h⟩ := bind_some h
          refine j_yield (ht rfl) (ht rfl) hl hb (hY _ _ _ e6) rfl ?_
          refine jp (pj_not (ht rfl)) rfl rfl rfl ?_
          refine j_end ?_
          refine run_cond_f (ht rfl) rfl ?_
          refine run_skip ?_
          refine run_endblock ?_
          refine rt ?_
          refine jp (pm (ht rfl)) rfl rfl rfl ?_
          refine jp (pj_field_to (ht rfl) (Path.fst i64 (prod i64 i64)) (by kernel_rfl)) rfl rfl rfl ?_
          refine jp (pl (ht rfl) (by kernel_rfl)) rfl rfl rfl ?_
          refine jp (pj_isub (ht rfl) (ht rfl)) rfl rfl rfl ?_
          refine jp (pa (ht rfl)) rfl rfl rfl ?_
          refine j_end ?_
          obtain rfl := oi h
          exact run_next () (.cons (.of_lk rfl) <| .cons (.of_lk rfl) <| .cons (.of_lk rfl) <| .cons (.of_lk rfl) <| .cons (.of_lk rfl) <| .cons (.of_lk rfl) <| .cons (.of_lk rfl) <| .nil) (.cons .here <| .nil)
        · replace h := bf e3 h
          obtain rfl := oi h
          exact run_brk () (.cons (.of_lk rfl) <| .cons (.of_lk rfl) <| .cons (.of_lk rfl) <| .cons (.of_lk rfl) <| .cons (.of_lk rfl) <| .cons (.of_lk rfl) <| .cons (.of_lk rfl) <| .nil) (.cons .here <| .nil)
      · rintro _
        show Run _ _ _ [(2, val (yv L)), (3, ptrTo R_lmots_form p_f), (7, u8.slot x1), (8, i64.slot y6), (9, (sl u8).slot p_b), (10, i64.slot (p_b.length : Int)), (11, i64.slot y1)] [E y7]
        refine run_to (Γ' := [(2, val (yv L)), (3, ptrTo R_lmots_form p_f), (9, (sl u8).slot p_b), (10, i64.slot (p_b.length : Int)), (11, i64.slot y1)]) (H' := [E y7]) (.cons (.of_lk rfl) <| .cons (.of_lk rfl) <| .cons (.of_lk rfl) <| .cons (.of_lk rfl) <| .cons (.of_lk rfl) <| .nil) (.cons .here <| .nil) ?_
        refine run_endblock ?_
        refine rt ?_
        refine jp (pj_iadd (ht rfl) has_i64) rfl rfl rfl ?_
        refine jp (pm (ht rfl)) rfl rfl rfl ?_
        refine j_end ?_
        obtain rfl := oi h
        exact run_next () (.cons (.of_lk rfl) <| .cons (.of_lk rfl) <| .cons (.of_lk rfl) <| .cons (.of_lk rfl) <| .cons (.of_lk rfl) <| .nil) (.cons .here <| .nil)
    · replace h := bf e1 h
      obtain rfl := oi h
      exact run_brk () (.cons (.of_lk rfl) <| .cons (.of_lk rfl) <| .cons (.of_lk rfl) <| .cons (.of_lk rfl) <| .cons (.of_lk rfl) <| .nil) (.cons .here <| .nil)
  · rintro _
    show Run _ _ _ [(2, val (yv L)), (3, ptrTo R_lmots_form p_f), (9, (sl u8).slot p_b), (10, i64.slot (p_b.length : Int)), (11, i64.slot y8)] [E y9]
    refine run_to (Γ' := []) (H' := [E y9]) (.nil) (.cons .here <| .nil) ?_
    obtain rfl := oi h
    exact run_nil fun a w hst => q_retN_n hst rfl (.nil) rfl () (fun _ _ h => h) (.cons .here <| .nil)
set_option maxRecDepth 100000 in
set_option maxHeartbeats 4000000 in
theorem c_lmots_form_sum_1 {G : GP} {Sy : Type} {yl : Sy → Int → Option Sy} {q_0 : T_lmots_form} {q_1 : T_api_Hash} {s0 : Sy} {L : Nat} {rc : Loop} {E : Sy → Ent} {r : Sy} (hY : ∀ s d s', yl s d = some s' → YieldC Tryd.prog G L rc (i64.slot d) (E s) (E s')) (h : lmots_form_sum_1 yl q_0 q_1 s0 = some r) : CtrY Tryd.prog G L rc 114 [val (yv L), ptrTo R_lmots_form q_0, ptrTo R_api_Hash q_1] [E s0] (fun (_ : Unit) => tup []) (fun (_ : Unit) => [E r]) := by
  unfold lmots_form_sum_1 at h
  refine ctrY_of_run Tryd.func114 rfl 8 rfl rfl fun m0 w0 b0 hl hb => ?_
  show Run _ _ _ [(0, val (yv L)), (1, ptrTo R_lmots_form q_0), (2, ptrTo R_api_Hash q_1)] _
  refine run_draw (n := 3) (by kernel_rfl) (by kernel_rfl) (by kernel_rfl) (by kernel_rfl) (.read (.plain rfl (pl (ht rfl) (by kernel_rfl))) <| .read (.plain rfl (pj_slice_toF (ht rfl) (by decide) (by kernel_rfl))) <| .read (.plain rfl (pm (ht rfl))) <| .nil) (j_to (Γ' := [(4, R_lmots_form.slot q_0), (5, (sl u8).slot q_1.toList), (6, val (yv L))]) (H' := [E s0]) (.cons (.of_lk rfl) <| .cons (.of_lk rfl) <| .cons (.of_lk rfl) <| .nil) (.cons .here <| .nil) ?_)
  obtain ⟨y1, e2, h⟩ := bind_some h
  refine j_callY (hc (ht rfl) <| hc (ht rfl) <| hc (ht rfl) <| hasL_nil) (by kernel_rfl) hl hb (c_lmots_form_cut hY e2) rfl ?_
  refine j_end ?_
  obtain rfl := oi h
  exact run_nil fun a w hst => q_retN_n hst rfl (.nil) rfl () (fun _ _ h => h) (.cons .here <| .nil)
set_option maxRecDepth 100000 in
set_option maxHeartbeats 4000000 in
theorem c_lmots_form_sum {G : GP} {p_f : T_lmots_form} {p_h : T_api_Hash} {r : (List (BitVec 8))} (h : lmots_form_sum p_f p_h = some r) : Ctr Tryd.prog G 101 [R_lmots_form.slot p_f, R_api_Hash.slot p_h] [] (fun (u0 : Value) => ov u0) (fun (u0 : Value) => [own 5 u8 u0 r]) := by
  unfold lmots_form_sum at h
  refine ctr_of_runM Tryd.func101 rfl 25 rfl rfl fun m0 w0 b0 => ?_
  show Run _ _ _ [(0, R_lmots_form.slot p_f), (1, R_api_Hash.slot p_h)] _
  refine rs ?_
  refine rt ?_
  refine jp (pj_box_to (ht rfl)) rfl rfl rfl ?_
  refine jp (pj_box_to (ht rfl)) rfl rfl rfl ?_
  refine j_assign_nil (T := 5) u8 rfl fun v1 => ?_
  refine j_end ?_
  refine rs ?_
  refine rt ?_
  refine j_alloc (x := 0) (R := i64) zero_i64 (by kernel_rfl) rfl fun b1 => ?_
  refine j_store_boxx (r' := (0 : Int)) (ht rfl) has_i64 .here (Path.all i64) (by kernel_rfl) rfl ?_
  refine j_end ?_
  refine rs ?_
  refine rs ?_
  refine rt ?_
  refine jp (pj_makeFunc (hc (ht rfl) <| hc (ht rfl) <| hasL_nil)) rfl rfl rfl ?_
  refine j_end ?_
  refine run_block ?_
  refine run_to (Γ' := [(2, ptrTo R_lmots_form p_f), (5, val (.pointer (some ⟨b1, 0, none⟩))), (7, fnS 114 [ptrTo R_lmots_form p_f, ptrTo R_api_Hash p_h])]) (H' := [box b1 3 i64 (0 : Int)]) (.cons (.of_lk rfl) <| .cons (.of_lk rfl) <| .cons (.of_lk rfl) <| .nil) (.cons .here <| .nil) ?_
  obtain ⟨y2, e2, h⟩ := bind_some h
  refine run_rangeFunc (σ := Int) (α := Int) (κ := Unit) (Es := fun (i : Unit) (s : Int) => [box b1 3 i64 s]) (y := (fun (s : Int) (d : Int) => lmots_form_sum_L1 p_f s d)) (sd := fun d => i64.slot d) (Γ1 := fun d => [(2, ptrTo R_lmots_form p_f), (5, val (.pointer (some ⟨b1, 0, none⟩))), (6, i64.slot d)]) () (ht rfl) (by kernel_rfl) rfl (.cons .here <| .nil) (fun l rc G' hG hY => (c_lmots_form_sum_1 (E := fun (s : Int) => packE fun (i : Unit) => [box b1 3 i64 s]) hY e2)) ?_ ?_ ?_
  · clear h e2
    rintro lz mz wz bz _ y1 d s2 h
    show Run _ _ _ ((8, i64.slot d) :: [(2, ptrTo R_lmots_form p_f), (5, val (.pointer (some ⟨b1, 0, none⟩))), (7, fnS 114 [ptrTo R_lmots_form p_f, ptrTo R_api_Hash p_h])]) [box b1 3 i64 y1]
    refine rt ?_
    refine jp (pa (ht rfl)) rfl rfl rfl ?_
    refine j_end ?_
    exact run_nil fun a w hst => ⟨rfl, (hst.sub (.cons (.of_lk rfl) <| .cons (.of_lk rfl) <| .cons (.of_lk rfl) <| .nil)).keep (.cons .here <| .nil)⟩
  · clear h e2
    rintro lz mz wz bz _ y1 d s2 h
    change lmots_form_sum_L1 p_f y1 d = some _ at h
    show Run _ _ _ [(2, ptrTo R_lmots_form p_f), (5, val (.pointer (some ⟨b1, 0, none⟩))), (6, i64.slot d)] [box b1 3 i64 y1]
    unfold lmots_form_sum_L1 at h
    refine run_block ?_
    obtain ⟨r1, e1, h⟩ := bind_some h
    refine run_draw (n := 5) (by kernel_rfl) (by kernel_rfl) (by kernel_rfl) (by kernel_rfl) (.read (.plain rfl (pj_load_box (ht rfl) .here (Path.all i64) (by kernel_rfl))) <| .read (.plain rfl (pl (ht rfl) (by kernel_rfl))) <| .read (.plain rfl (pj_call (hc (ht rfl) <| hasL_nil) (by kernel_rfl) (c_lmots_form_most e1))) <| .read (.plain rfl (pm (ht rfl))) <| .read (.plain rfl (pj_isub (ht rfl) (ht rfl))) <| .nil) (j_to (Γ' := [(5, val (.pointer (some ⟨b1, 0, none⟩))), (9, i64.slot y1), (13, i64.slot (w64 (r1 - d)))]) (H' := [box b1 3 i64 y1]) (.cons (.of_lk rfl) <| .cons (.of_lk rfl) <| .cons (.of_lk rfl) <| .nil) (.cons .here <| .nil) ?_)
    refine jp (pj_iadd (ht rfl) (ht rfl)) rfl rfl rfl ?_
    refine j_store_boxx (r' := w64 (y1 + (w64 (r1 - d)))) (ht rfl) (ht rfl) .here (Path.all i64) (by kernel_rfl) rfl ?_
    refine j_end ?_
    refine run_endblock ?_
    obtain rfl := oi h
    exact run_nil fun a w hst => ⟨rfl, (), (hst.sub .nil).keep (.cons .here <| .nil)⟩
  · rintro _
    show Run _ _ _ [(2, ptrTo R_lmots_form p_f), (5, val (.pointer (some ⟨b1, 0, none⟩))), (7, fnS 114 [ptrTo R_lmots_form p_f, ptrTo R_api_Hash p_h])] [box b1 3 i64 y2]
    refine run_to (Γ' := [(2, ptrTo R_lmots_form p_f), (5, val (.pointer (some ⟨b1, 0, none⟩)))]) (H' := [box b1 3 i64 y2]) (.cons (.of_lk rfl) <| .cons (.of_lk rfl) <| .nil) (.cons .here <| .nil) ?_
    refine run_endblock ?_
    refine rs ?_
    refine rt ?_
    refine jp (pj_load_box (ht rfl) .here (Path.all i64) (by kernel_rfl)) rfl rfl rfl ?_
    refine jp (pj_field_to (ht rfl) (Path.then (Path.snd i64 (prod i64 i64)) (Path.snd i64 i64)) (by kernel_rfl)) rfl rfl rfl ?_
    refine jp (pl (ht rfl) (by kernel_rfl)) rfl rfl rfl ?_
    obtain ⟨e3, h⟩ := grd_some h
    refine jp (pj_ishl (ht rfl) (ht rfl) isInt_i64 e3) rfl rfl rfl ?_
    refine j_store_boxx (r' := ishl y2 p_f.2.2) (ht rfl) (ht rfl) .here (Path.all i64) (by kernel_rfl) rfl ?_
    refine j_end ?_
    refine rs ?_
    refine rt ?_
    refine jp (pj_load_box (ht rfl) .here (Path.all i64) (by kernel_rfl)) rfl rfl rfl ?_
    refine jp (pj_ishr (ht rfl) (has_un (x := 8#64) rfl) isInt_un (Int.natCast_nonneg _)) rfl rfl rfl ?_
    refine jp (pj_conv_un (k := .u8) (b := 8) rfl rfl (by kernel_rfl) (ht rfl) isInt_i64) rfl rfl rfl ?_
    refine jp (pj_load_box (ht rfl) .here (Path.all i64) (by kernel_rfl)) rfl rfl rfl ?_
    refine jp (pj_conv_un (k := .u8) (b := 8) rfl rfl (by kernel_rfl) (ht rfl) isInt_i64) rfl rfl rfl ?_
    refine j_buildSlice (T := 5) (R := u8) (.cons (ht rfl) (.cons (ht rfl) .nil)) rfl (by kernel_rfl) (by kernel_rfl) rfl fun v2 => ?_
    refine jp (pa (ht rfl)) rfl rfl rfl ?_
    refine j_end ?_
    obtain rfl := oi h
    exact run_ret fun a w hst => q_ret1M hst rfl (.tmp rfl) v2 (fun _ _ h => h) (.cons .here <| .nil)
set_option maxRecDepth 100000 in
set_option maxHeartbeats 4000000 in
theorem c_lmots_form_digits_1 {G : GP} {Sy : Type} {yl : Sy → Int → Option Sy} {q_0 : T_lmots_form} {q_1 : List (BitVec 8)} {s0 : Sy} {L : Nat} {rc : Loop} {E : Sy → Ent} {r : Sy} (hY : ∀ s d s', yl s d = some s' → YieldC Tryd.prog G L rc (i64.slot d) (E s) (E s')) (h : lmots_form_digits_1 yl q_0 q_1 s0 = some r) : CtrY Tryd.prog G L rc 102 [val (yv L), ptrTo R_lmots_form q_0, ptrTo (sl u8) q_1] [E s0] (fun (_ : Unit) => tup []) (fun (_ : Unit) => [E r]) := by
  unfold lmots_form_digits_1 at h
  refine ctrY_of_run Tryd.func102 rfl 8 rfl rfl fun m0 w0 b0 hl hb => ?_
  show Run _ _ _ [(0, val (yv L)), (1, ptrTo R_lmots_form q_0), (2, ptrTo (sl u8) q_1)] _
  refine rt ?_
  refine jp (pl (ht rfl) (by kernel_rfl)) rfl rfl rfl ?_
  refine jp (pl (ht rfl) (by kernel_rfl)) rfl rfl rfl ?_
  refine jp (pm (ht rfl)) rfl rfl rfl ?_
  obtain ⟨y1, e2, h⟩ := bind_some h
  refine j_callY (hc (ht rfl) <| hc (ht rfl) <| hc (ht rfl) <| hasL_nil) (by kernel_rfl) hl hb (c_lmots_form_cut hY e2) rfl ?_
  refine j_end ?_
  obtain rfl := oi h
  exact run_nil fun a w hst => q_retN_n hst rfl (.nil) rfl () (fun _ _ h => h) (.cons .here <| .nil)
set_option maxRecDepth 100000 in
set_option maxHeartbeats 4000000 in
theorem c_lmots_form_digits {G : GP} {p_f : T_lmots_form} {p_h : T_api_Hash} {r : (List Int)} (h : lmots_form_digits p_f p_h = some r) : Ctr Tryd.prog G 84 [R_lmots_form.slot p_f, R_api_Hash.slot p_h] [] (fun (u0 : Value) => ov u0) (fun (u0 : Value) => [own 3 i64 u0 r]) := by
  unfold lmots_form_digits at h
  refine ctr_of_runM Tryd.func84 rfl 28 rfl rfl fun m0 w0 b0 => ?_
  show Run _ _ _ [(0, R_lmots_form.slot p_f), (1, R_api_Hash.slot p_h)] _
  refine rs ?_
  refine rt ?_
  refine jp (pj_box_to (ht rfl)) rfl rfl rfl ?_
  refine j_box (ht rfl) rfl fun b1 => ?_
  refine j_assign_nil (T := 3) i64 rfl fun v1 => ?_
  refine j_end ?_
  refine rs ?_
  refine rt ?_
  refine jp (pj_field_to (ht rfl) (Path.then (Path.snd i64 (prod i64 i64)) (Path.fst i64 i64)) (by kernel_rfl)) rfl rfl rfl ?_
  refine jp (pl (ht rfl) (by kernel_rfl)) rfl rfl rfl ?_
  obtain ⟨e1, h⟩ := grd_some h
  refine j_makeSlice (T := 3) (R := i64) (z := 0) has_i64 (ht rfl) (by decide) e1.1 e1.2 (by kernel_rfl) zero_i64 (by kernel_rfl) rfl fun v2 => ?_
  refine j_alloc (x := ([] : List Int)) (R := (sl i64)) zero_sl (by kernel_rfl) rfl fun b2 => ?_
  refine j_store_ow (ht rfl) (ht rfl) .here (by kernel_rfl) (by kernel_rfl) ?_
  refine j_end ?_
  refine rs ?_
  obtain ⟨r1, e2, h⟩ := bind_some h
  obtain ⟨e3, h⟩ := grd_some h
  refine run_keep (H' := [box b2 114 (exv v2) (), own 3 i64 v2 ([] : List Int), own 3 i64 v1 ([] : List Int), box b1 26 R_api_Hash p_h]) (.cons .here <| .cons .here <| .cons .here <| .cons .here <| .nil) ?_
  refine run_drawL (n := 6) (H := [box b2 114 (exv v2) (), own 3 i64 v2 ([] : List Int), own 3 i64 v1 ([] : List Int), box b1 26 R_api_Hash p_h]) (Ls := [⟨[], [(4, ⟨Value, fun (v3 : Value) => [own 5 u8 v3 (p_h.toList ++ r1)], fun (v3 : Value) => [(15, ov v3)]⟩)]⟩, ⟨[], [(5, ⟨Nat, fun (b3 : Nat) => [box b3 38 (sl u8) ([] : List (BitVec 8))], fun (b3 : Nat) => [(6, val (.pointer (some ⟨b3, 0, none⟩)))]⟩)]⟩]) (by kernel_rfl) (by kernel_rfl) (by kernel_rfl) (by kernel_rfl) (by kernel_rfl) rfl (.read rfl (.plain rfl (pj_slice_arrc (lo := 0) (sz := 1) (n := 32) (ht rfl) .no .no 32 32 rfl (by kernel_rfl))) <| .read rfl (.plain rfl (pl (ht rfl) (by kernel_rfl))) <| .read rfl (.plain rfl (pj_load_box (ht rfl) (.next (.next (.next .here))) (Path.all R_api_Hash) (by kernel_rfl))) <| .read rfl (.plain rfl (pj_call (hc (ht rfl) <| hc (ht rfl) <| hasL_nil) (by kernel_rfl) (Ctr.froze (c_lmots_form_sum e2)))) <| .step 0 rfl .here (.inl rfl) (fun i => ⟨_, _, fun j => j, (w_appendF (T := 5) (E := 5) (ht rfl) (src_arrF (ht rfl) (.next (.next (.next .here)))) (src_data (ht rfl)) (by kernel_rfl) (by kernel_rfl) e3 rfl), fun _ => rfl, slotAny, dst1⟩) <| .step 1 rfl .here (.inl rfl) (fun i => ⟨_, _, fun j => j, (w_alloc (x := ([] : List (BitVec 8))) (R := (sl u8)) zero_sl (by kernel_rfl) rfl), fun _ => rfl, slotAny, dst1⟩) <| .nil) ?_
  rintro v3 b3
  refine j_to (Γ' := [(2, ptrTo R_lmots_form p_f), (5, val (.pointer (some ⟨b2, 0, none⟩))), (6, val (.pointer (some ⟨b3, 0, none⟩))), (15, ov v3)]) (H' := [own 5 u8 v3 (p_h.toList ++ r1), box b3 38 (sl u8) ([] : List (BitVec 8)), box b2 114 (exv v2) (), own 3 i64 v2 ([] : List Int)]) (.cons (.of_lk rfl) <| .cons (.of_lk rfl) <| .cons (.of_lk rfl) <| .cons (.of_lk rfl) <| .nil) (.cons .here <| .cons .here <| .cons .here <| .cons .here <| .nil) ?_
  refine j_freeze [15] .here (frz_cons (.of_lk rfl) <| frz_nil) ?_
  refine j_store_boxx (r' := (p_h.toList ++ r1)) (ht rfl) (ht rfl) .here (Path.all (sl u8)) (by kernel_rfl) rfl ?_
  refine j_freezeTo (t := 6) .here (.of_lk rfl) ?_
  refine j_end ?_
  refine rs ?_
  refine rs ?_
  refine rt ?_
  refine jp (pj_makeFunc (hc (ht rfl) <| hc (ht rfl) <| hasL_nil)) rfl rfl rfl ?_
  refine j_end ?_
  refine run_block ?_
  refine run_to (Γ' := [(2, ptrTo R_lmots_form p_f), (5, val (.pointer (some ⟨b2, 0, none⟩))), (16, fnS 102 [ptrTo R_lmots_form p_f, ptrTo (sl u8) (p_h.toList ++ r1)])]) (H' := [box b2 114 (exv v2) (), own 3 i64 v2 ([] : List Int)]) (.cons (.of_lk rfl) <| .cons (.of_lk rfl) <| .cons (.of_lk rfl) <| .nil) (.cons .here <| .cons .here <| .nil) ?_
  obtain ⟨y2, e6, h⟩ := bind_some h
  refine run_rangeFunc (σ := (List Int)) (α := Int) (κ := Value) (Es := fun (i : Value) (s : (List Int)) => [box b2 114 (exv i) (), own 3 i64 i s]) (y := (fun (s : (List Int)) (d : Int) => lmots_form_digits_L1 p_f s d)) (sd := fun d => i64.slot d) (Γ1 := fun d => [(2, ptrTo R_lmots_form p_f), (5, val (.pointer (some ⟨b2, 0, none⟩))), (7, i64.slot d)]) v2 (ht rfl) (by kernel_rfl) rfl (.cons .here <| .cons .here <| .nil) (fun l rc G' hG hY => (c_lmots_form_digits_1 (E := fun (s : (List Int)) => packE fun (i : Value) => [box b2 114 (exv i) (), own 3 i64 i s]) hY e6)) ?_ ?_ ?_
  · clear h e6
    rintro lz mz wz bz v4 y1 d s2 h
    show Run _ _ _ ((17, i64.slot d) :: [(2, ptrTo R_lmots_form p_f), (5, val (.pointer (some ⟨b2, 0, none⟩))), (16, fnS 102 [ptrTo R_lmots_form p_f, ptrTo (sl u8) (p_h.toList ++ r1)])]) [box b2 114 (exv v4) (), own 3 i64 v4 y1]
    refine rt ?_
    refine jp (pa (ht rfl)) rfl rfl rfl ?_
    refine j_end ?_
    exact run_nil fun a w hst => ⟨rfl, (hst.sub (.cons (.of_lk rfl) <| .cons (.of_lk rfl) <| .cons (.of_lk rfl) <| .nil)).keep (.cons .here <| .cons .here <| .nil)⟩
  · clear h e6
    rintro lz mz wz bz v4 y1 d s2 h
    change lmots_form_digits_L1 p_f y1 d = some _ at h
    show Run _ _ _ [(2, ptrTo R_lmots_form p_f), (5, val (.pointer (some ⟨b2, 0, none⟩))), (7, i64.slot d)] [box b2 114 (exv v4) (), own 3 i64 v4 y1]
    unfold lmots_form_digits_L1 at h
    refine run_block ?_
    refine rs ?_
    refine rt ?_
    refine jp (pj_load_box (ht rfl) .here (Path.all (exv v4)) (by kernel_rfl)) rfl rfl rfl ?_
    refine jp (pj_len_own (sz := 1) (ht rfl) (.next .here) (by kernel_rfl)) rfl rfl rfl ?_
    refine jp (pj_field_to (ht rfl) (Path.then (Path.snd i64 (prod i64 i64)) (Path.fst i64 i64)) (by kernel_rfl)) rfl rfl rfl ?_
    refine jp (pl (ht rfl) (by kernel_rfl)) rfl rfl rfl ?_
    refine jp (pj_ilss (ht rfl) (ht rfl)) rfl rfl rfl ?_
    refine j_end ?_
    refine run_cond (ht rfl) (fun e4 => ?_) (fun e4 => ?_)
    · replace h := bt e4 h
      refine rt ?_
      refine jp (pj_load_box (ht rfl) .here (Path.all (exv v4)) (by kernel_rfl)) rfl rfl rfl ?_
      refine jp (pm (ht rfl)) rfl rfl rfl ?_
      refine jp (pj_buildSlice (T := 3) (R := i64) (.cons (ht rfl) .nil) rfl (by kernel_rfl) (by kernel_rfl)) rfl rfl rfl ?_
      obtain ⟨e5, h⟩ := grd_some h
      refine j_append (T := 3) (E := 3) (ht rfl) (.next .here) (src_data (ht rfl)) (by kernel_rfl) (by kernel_rfl) e5 rfl fun v5 => ?_
      refine j_store_ow (ht rfl) (ht rfl) (.next .here) (by kernel_rfl) (by kernel_rfl) ?_
      refine j_end ?_
      refine run_endblock ?_
      obtain rfl := oi h
      exact run_nil fun a w hst => ⟨rfl, v5, (hst.sub .nil).keep (.cons .here <| .cons .here <| .nil)⟩
    · replace h := bf e4 h
      refine run_skip ?_
      refine run_endblock ?_
      obtain rfl := oi h
      exact run_nil fun a w hst => ⟨rfl, v4, (hst.sub .nil).keep (.cons .here <| .cons .here <| .nil)⟩
  · rintro v6
    show Run _ _ _ [(2, ptrTo R_lmots_form p_f), (5, val (.pointer (some ⟨b2, 0, none⟩))), (16, fnS 102 [ptrTo R_lmots_form p_f, ptrTo (sl u8) (p_h.toList ++ r1)])] [box b2 114 (exv v6) (), own 3 i64 v6 y2]
    refine run_to (Γ' := [(5, val (.pointer (some ⟨b2, 0, none⟩)))]) (H' := [box b2 114 (exv v6) (), own 3 i64 v6 y2]) (.cons (.of_lk rfl) <| .nil) (.cons .here <| .cons .here <| .nil) ?_
    refine run_endblock ?_
    refine rs ?_
    refine rt ?_
    refine jp (pj_load_box (ht rfl) .here (Path.all (exv v6)) (by kernel_rfl)) rfl rfl rfl ?_
    refine jp (pa (ht rfl)) rfl rfl rfl ?_
    refine j_end ?_
    obtain rfl := oi h
    exact run_ret fun a w hst => q_ret1M hst rfl (.tmp rfl) v6 (fun _ _ h => h) (.cons (.next .here) <| .nil)
set_option maxRecDepth 100000 in
set_option maxHeartbeats 4000000 in
theorem c_lmots_Recover {G : GP} (hg0 : HG0 G) (hg1 : HG1 G) (hg2 : HG2 G) {p_id : T_api_ID} {p_q : BitVec 32} {p_message : List (BitVec 8)} {p_signature : List (BitVec 8)} {r : T_api_Hash × Bool} (h : lmots_Recover p_id p_q p_message p_signature = some r) : Ctr Tryd.prog G 63 [R_api_ID.slot p_id, u32.slot p_q, (sl u8).slot p_message, (sl u8).slot p_signature] [] (fun (_ : Unit) => tup [R_api_Hash.slot r.1, bl.slot r.2]) (fun (_ : Unit) => []) := by
  unfold lmots_Recover at h
  refine ctr_of_run Tryd.func63 rfl 77 rfl rfl fun m0 w0 b0 => ?_
  show Run _ _ _ [(0, R_api_ID.slot p_id), (1, u32.slot p_q), (2, (sl u8).slot p_message), (3, (sl u8).slot p_signature)] _
  refine rs ?_
  refine rt ?_
  refine jp (pj_box_to (ht rfl)) rfl rfl rfl ?_
  refine j_alloc (x := (Vector.replicate 32 (0#8))) (R := R_api_Hash) (zero_vec 32 zero_un) (by kernel_rfl) rfl fun b1 => ?_
  refine jp (pa has_bl) rfl rfl rfl ?_
  refine j_end ?_
  refine rs ?_
  refine rt ?_
  refine jp (pm (ht rfl)) rfl rfl rfl ?_
  obtain ⟨r1, e1, h⟩ := bind_some h
  refine j_call (hc (ht rfl) <| hasL_nil) (by kernel_rfl) (c_wire_New e1) .nil rfl fun b2 => ?_
  refine jp (pa (ht rfl)) rfl rfl rfl ?_
  refine j_end ?_
  refine rs ?_
  refine rt ?_
  refine jp (pm (ht rfl)) rfl rfl rfl ?_
  obtain ⟨r2, e2, h⟩ := bind_some h
  refine j_call (hc (ht rfl) <| hasL_nil) (by kernel_rfl) (c_wire_Reader_U32 e2) (.cons .here <| .nil) rfl fun _ => ?_
  refine jp (pa (ht rfl)) rfl rfl rfl ?_
  refine j_end ?_
  refine rs ?_
  refine rt ?_
  refine jp (pm (ht rfl)) rfl rfl rfl ?_
  refine jp (pj_conv_ui (by decide) (by kernel_rfl) (ht rfl)) rfl rfl rfl ?_
  obtain ⟨r3, e3, h⟩ := bind_some h
  refine jp (pj_call (hc (ht rfl) <| hasL_nil) (by kernel_rfl) (c_lmots_of hg0 e3)) rfl rfl rfl ?_
  refine jp (pm (ht rfl)) rfl rfl rfl ?_
  refine jp (pj_extract (ht rfl) rfl) rfl rfl rfl ?_
  refine jp (pj_extract (ht rfl) rfl) rfl rfl rfl ?_
  refine j_alloc (x := (0, 0, 0)) (R := R_lmots_form) (zero_prod zero_i64 (zero_prod zero_i64 zero_i64)) (by kernel_rfl) rfl fun b3 => ?_
  refine j_store_boxx (r' := r3.1) (ht rfl) (ht rfl) .here (Path.all R_lmots_form) (by kernel_rfl) rfl ?_
  refine j_freezeTo (t := 12) .here (.of_lk rfl) ?_
  refine jp (pa (ht rfl)) rfl rfl rfl ?_
  refine j_end ?_
  refine rs ?_
  refine rs ?_
  refine rt ?_
  refine jp (pm (ht rfl)) rfl rfl rfl ?_
  refine jp (pj_not (ht rfl)) rfl rfl rfl ?_
  refine jp (pm (ht rfl)) rfl rfl rfl ?_
  obtain ⟨y1, e5, h⟩ := bind_some h
  refine j_joinx (ι := Unit) (Γ' := fun _ => [(1, u32.slot p_q), (2, (sl u8).slot p_message), (4, ptrTo R_api_ID p_id), (8, val (.pointer (some ⟨b1, 0, none⟩))), (10, val (.pointer (some ⟨b2, 0, none⟩))), (12, ptrTo R_lmots_form r3.1), (37, bl.slot y1)]) (H' := fun _ => [box b2 124 (prod (sl u8) bl) (r2.1.1, r2.1.2), box b1 26 R_api_Hash (Vector.replicate 32 (0#8))]) 7 ?_ fun J => ?_
  · intro _
    clear e5
    show OpsJ _ _ _ [(1, u32.slot p_q), (2, (sl u8).slot p_message), (4, ptrTo R_api_ID p_id), (8, val (.pointer (some ⟨b1, 0, none⟩))), (10, val (.pointer (some ⟨b2, 0, none⟩))), (12, ptrTo R_lmots_form r3.1), (37, bl.slot y1)] [box b2 124 (prod (sl u8) bl) (r2.1.1, r2.1.2), box b1 26 R_api_Hash (Vector.replicate 32 (0#8))] _
    refine j_end ?_
    refine run_cond (ht rfl) (fun e7 => ?_) (fun e7 => ?_)
    · replace h := bt e7 h
      refine rs ?_
      refine rt ?_
      refine jp (pj_build (R := R_api_Hash) (zero_vec 32 zero_un) (by kernel_rfl) (by kernel_rfl) rfl .nil) rfl rfl rfl ?_
      refine j_store_boxx (r' := (Vector.replicate 32 (0#8))) (ht rfl) (ht rfl) (.next .here) (Path.all R_api_Hash) (by kernel_rfl) rfl ?_
      refine jp (pa has_bl) rfl rfl rfl ?_
      refine j_end ?_
      obtain rfl := oi h
      exact run_ret fun a w hst => q_retN hst rfl (.cons (.cell rfl .here (by kernel_rfl)) <| .cons (.tmp rfl) <| .nil) rfl () (fun _ _ h => h) (.nil)
    · replace h := bf e7 h
      refine run_skip ?_
      refine rs ?_
      refine rt ?_
      refine jp (pm (ht rfl)) rfl rfl rfl ?_
      obtain ⟨r5, e8, h⟩ := bind_some h
      refine j_call (hc (ht rfl) <| hc has_i64 <| hasL_nil) (by kernel_rfl) (c_wire_Reader_Plain e8) (.cons .here <| .nil) rfl fun _ => ?_
      refine jp (pa (ht rfl)) rfl rfl rfl ?_
      refine j_end ?_
      refine rs ?_
      refine rt ?_
      refine jp (pj_field_to (ht rfl) (Path.then (Path.snd i64 (prod i64 i64)) (Path.fst i64 i64)) (by kernel_rfl)) rfl rfl rfl ?_
      refine jp (pl (ht rfl) (by kernel_rfl)) rfl rfl rfl ?_
      obtain ⟨e9, h⟩ := grd_some h
      obtain ⟨x1, e10, h⟩ := bind_some h
      refine j_makeSlicex (T := 26) (R := R_api_Hash) (z := (Vector.replicate 32 (0#8))) (ht rfl) (ht rfl) e9.1 (Int.le_refl _) e9.2 (by kernel_rfl) (zero_vec 32 zero_un) (by kernel_rfl) (oi e10) rfl fun v1 => ?_
      refine jp (pa (ht rfl)) rfl rfl rfl ?_
      refine j_end ?_
      refine rs ?_
      refine rs ?_
      obtain ⟨r6, e11, h⟩ := bind_some h
      obtain ⟨r7, e12, h⟩ := bind_some h
      refine run_draw (n := 10) (by kernel_rfl) (by kernel_rfl) (by kernel_rfl) (by kernel_rfl) (.read (.plain rfl (pl (ht rfl) (by kernel_rfl))) <| .read (.plain rfl (pl (ht rfl) (by kernel_rfl))) <| .read (.plain rfl (pm (ht rfl))) <| .read (.plain rfl (pm (ht rfl))) <| .read (.plain rfl (pm (ht rfl))) <| .read (.plain rfl (pj_buildSlice (T := 38) (R := (sl u8)) (.cons (ht rfl) (.cons (ht rfl) .nil)) rfl (by kernel_rfl) (by kernel_rfl))) <| .read (.plain rfl (pj_call (hc (ht rfl) <| hc (ht rfl) <| hc has_i64 <| hc (ht rfl) <| hasL_nil) (by kernel_rfl) (c_lmots_under hg1 hg2 e11))) <| .read (.plain rfl (pj_call (hc (ht rfl) <| hc (ht rfl) <| hasL_nil) (by kernel_rfl) (Ctr.froze (c_lmots_form_digits e12)))) <| .read (.plain rfl (pj_len_sl (sz := 1) (ht rfl) (by kernel_rfl))) <| .read (.plain rfl (pm has_i64)) <| .nil) (j_to (Γ' := [(1, u32.slot p_q), (4, ptrTo R_api_ID p_id), (8, val (.pointer (some ⟨b1, 0, none⟩))), (10, val (.pointer (some ⟨b2, 0, none⟩))), (12, ptrTo R_lmots_form r3.1), (15, ov v1), (51, (sl i64).slot r7), (52, i64.slot (r7.length : Int)), (53, i64.slot (0 : Int))]) (H' := [own 26 R_api_Hash v1 x1, box b2 124 (prod (sl u8) bl) (r5.1.1, r5.1.2), box b1 26 R_api_Hash (Vector.replicate 32 (0#8))]) (.cons (.of_lk rfl) <| .cons (.of_lk rfl) <| .cons (.of_lk rfl) <| .cons (.of_lk rfl) <| .cons (.of_lk rfl) <| .cons (.of_lk rfl) <| .cons (.of_lk rfl) <| .cons (.of_lk rfl) <| .cons (.of_lk rfl) <| .nil) (.cons .here <| .cons .here <| .cons .here <| .nil) ?_)
      refine j_end ?_
      obtain ⟨⟨y6, y7, y8, y9⟩, e20, h⟩ := bind_some h
      refine run_loopS (Γi := fun (i : Unit) (s : Int × (List T_api_Hash) × (List (BitVec 8)) × Bool) => [(1, u32.slot p_q), (4, ptrTo R_api_ID p_id), (8, val (.pointer (some ⟨b1, 0, none⟩))), (10, val (.pointer (some ⟨b2, 0, none⟩))), (12, ptrTo R_lmots_form r3.1), (15, ov v1), (51, (sl i64).slot r7), (52, i64.slot (r7.length : Int)), (53, i64.slot s.1)]) (Hi := fun (i : Unit) (s : Int × (List T_api_Hash) × (List (BitVec 8)) × Bool) => [own 26 R_api_Hash v1 s.2.1, box b2 124 (prod (sl u8) bl) (s.2.2.1, s.2.2.2), box b1 26 R_api_Hash (Vector.replicate 32 (0#8))]) e20 () (fun a w hst => (hst.sub (.cons (.of_lk rfl) <| .cons (.of_lk rfl) <| .cons (.of_lk rfl) <| .cons (.of_lk rfl) <| .cons (.of_lk rfl) <| .cons (.of_lk rfl) <| .cons (.of_lk rfl) <| .cons (.of_lk rfl) <| .cons (.of_lk rfl) <| .nil)).keep (.cons .here <| .cons .here <| .cons .here <| .nil)) ?_ ?_
      · clear h e20
        rintro _ ⟨y2, y3, y4, y5⟩ lr h
        change lmots_Recover_L1 r7 r3 p_id p_q y2 y3 y4 y5 = some _ at h
        show Run _ _ _ [(1, u32.slot p_q), (4, ptrTo R_api_ID p_id), (8, val (.pointer (some ⟨b1, 0, none⟩))), (10, val (.pointer (some ⟨b2, 0, none⟩))), (12, ptrTo R_lmots_form r3.1), (15, ov v1), (51, (sl i64).slot r7), (52, i64.slot (r7.length : Int)), (53, i64.slot y2)] [own 26 R_api_Hash v1 y3, box b2 124 (prod (sl u8) bl) (y4, y5), box b1 26 R_api_Hash (Vector.replicate 32 (0#8))]
        unfold lmots_Recover_L1 at h
        refine rs ?_
        refine rt ?_
        refine jp (pj_ilss (ht rfl) (ht rfl)) rfl rfl rfl ?_
        refine j_end ?_
        refine rs ?_
        refine run_cond (ht rfl) (fun e13 => ?_) (fun e13 => ?_)
        · replace h := bt e13 h
          refine run_skip ?_
          refine rs ?_
          refine run_block ?_
          refine rs ?_
          refine rt ?_
          refine jp (pm (ht rfl)) rfl rfl rfl ?_
          obtain ⟨x2, e14, h⟩ := bind_some h
          refine jp (pj_index_slx (ht rfl) (ht rfl) isInt_i64 e14 (by kernel_rfl)) rfl rfl rfl ?_
          refine jp (pl (ht rfl) (by kernel_rfl)) rfl rfl rfl ?_
          refine jp (pa (ht rfl)) rfl rfl rfl ?_
          refine jp (pa (ht rfl)) rfl rfl rfl ?_
          refine j_end ?_
          obtain ⟨r8, e15, h⟩ := bind_some h
          obtain ⟨x3, e16, h⟩ := bind_some h
          obtain ⟨r9, e17, h⟩ := bind_some h
          obtain ⟨r10, e18, h⟩ := bind_some h
          refine run_keep (H' := [box b2 124 (prod (sl u8) bl) (y4, y5), own 26 R_api_Hash v1 y3, box b1 26 R_api_Hash (Vector.replicate 32 (0#8))]) (.cons (.next .here) <| .cons .here <| .cons .here <| .nil) ?_
          refine run_drawL (n := 13) (H := [own 26 R_api_Hash v1 y3, box b1 26 R_api_Hash (Vector.replicate 32 (0#8))]) (Ls := [⟨[box b2 124 (prod (sl u8) bl) (y4, y5)], [(6, ⟨Unit, fun (_ : Unit) => [box b2 124 (prod (sl u8) bl) (r8.1.1, r8.1.2)], fun (_ : Unit) => [(64, (sl u8).slot r8.2)]⟩)]⟩]) (by kernel_rfl) (by kernel_rfl) (by kernel_rfl) (by kernel_rfl) (by kernel_rfl) rfl (.read rfl (.plain rfl (pm (ht rfl))) <| .read rfl (.plain rfl (pm (ht rfl))) <| .read rfl (.plain rfl (pl (ht rfl) (by kernel_rfl))) <| .read rfl (.plain rfl (pm (ht rfl))) <| .read rfl (.plain rfl (pm (ht rfl))) <| .read rfl (.plain rfl (pm (ht rfl))) <| .step 0 rfl .here (.inl rfl) (fun i => ⟨_, _, fun _ => (), (w_call (hc (ht rfl) <| hc has_i64 <| hasL_nil) (by kernel_rfl) (c_wire_Reader_Plain e15) (.cons .here <| .nil) rfl), fun _ => rfl, slotIs, dst1⟩) <| .read rfl (.plain rfl (pj_s2apx (e := 5) (ht rfl) e16 rfl (by kernel_rfl))) <| .read rfl (.plain rfl (pl (ht rfl) (by kernel_rfl))) <| .read rfl (.plain rfl (pm (ht rfl))) <| .read rfl (.plain rfl (pl (ht rfl) (by kernel_rfl))) <| .read rfl (.plain rfl (pj_call (hc (ht rfl) <| hasL_nil) (by kernel_rfl) (c_lmots_form_most e17))) <| .read rfl (.plain rfl (pj_call (hc (ht rfl) <| hc (ht rfl) <| hc (ht rfl) <| hc (ht rfl) <| hc (ht rfl) <| hc (ht rfl) <| hasL_nil) (by kernel_rfl) (c_lmots_chain hg1 hg2 e18))) <| .nil) ?_
          rintro _
          refine j_to (Γ' := [(1, u32.slot p_q), (4, ptrTo R_api_ID p_id), (8, val (.pointer (some ⟨b1, 0, none⟩))), (10, val (.pointer (some ⟨b2, 0, none⟩))), (12, ptrTo R_lmots_form r3.1), (15, ov v1), (51, (sl i64).slot r7), (52, i64.slot (r7.length : Int)), (53, i64.slot y2), (58, ov v1), (59, i64.slot y2), (70, R_api_Hash.slot r10)]) (H' := [box b2 124 (prod (sl u8) bl) (r8.1.1, r8.1.2), own 26 R_api_Hash v1 y3, box b1 26 R_api_Hash (Vector.replicate 32 (0#8))]) (.cons (.of_lk rfl) <| .cons (.of_lk rfl) <| .cons (.of_lk rfl) <| .cons (.of_lk rfl) <| .cons (.of_lk rfl) <| .cons (.of_lk rfl) <| .cons (.of_lk rfl) <| .cons (.of_lk rfl) <| .cons (.of_lk rfl) <| .cons (.of_lk rfl) <| .cons (.of_lk rfl) <| .cons (.of_lk rfl) <| .nil) (.cons .here <| .cons .here <| .cons .here <| .nil) ?_
          obtain ⟨e19, h⟩ := grd_some h
          refine jp (pj_index_own (ht rfl) (.next .here) (ht rfl) isInt_i64 e19.1 (lt_nat e19) (by kernel_rfl)) rfl rfl rfl ?_
          refine j_store_own0 R_api_Hash (y2.toNat) (ht rfl) (ht rfl) (.next .here) (lt_nat e19) (by kernel_rfl) ?_
          refine j_end ?_
          refine run_endblock ?_
          refine rt ?_
          refine jp (pj_iadd (ht rfl) has_i64) rfl rfl rfl ?_
          refine jp (pm (ht rfl)) rfl rfl rfl ?_
          refine j_end ?_
          obtain rfl := oi h
          exact run_next () (.cons (.of_lk rfl) <| .cons (.of_lk rfl) <| .cons (.of_lk rfl) <| .cons (.of_lk rfl) <| .cons (.of_lk rfl) <| .cons (.of_lk rfl) <| .cons (.of_lk rfl) <| .cons (.of_lk rfl) <| .cons (.of_lk rfl) <| .nil) (.cons .here <| .cons .here <| .cons .here <| .nil)
        · replace h := bf e13 h
          obtain rfl := oi h
          exact run_brk () (.cons (.of_lk rfl) <| .cons (.of_lk rfl) <| .cons (.of_lk rfl) <| .cons (.of_lk rfl) <| .cons (.of_lk rfl) <| .cons (.of_lk rfl) <| .cons (.of_lk rfl) <| .cons (.of_lk rfl) <| .cons (.of_lk rfl) <| .nil) (.cons .here <| .cons .here <| .cons .here <| .nil)
      · rintro _
        show Run _ _ _ [(1, u32.slot p_q), (4, ptrTo R_api_ID p_id), (8, val (.pointer (some ⟨b1, 0, none⟩))), (10, val (.pointer (some ⟨b2, 0, none⟩))), (12, ptrTo R_lmots_form r3.1), (15, ov v1), (51, (sl i64).slot r7), (52, i64.slot (r7.length : Int)), (53, i64.slot y6)] [own 26 R_api_Hash v1 y7, box b2 124 (prod (sl u8) bl) (y8, y9), box b1 26 R_api_Hash (Vector.replicate 32 (0#8))]
        refine run_to (Γ' := [(1, u32.slot p_q), (4, ptrTo R_api_ID p_id), (8, val (.pointer (some ⟨b1, 0, none⟩))), (15, ov v1)]) (H' := [own 26 R_api_Hash v1 y7, box b1 26 R_api_Hash (Vector.replicate 32 (0#8))]) (.cons (.of_lk rfl) <| .cons (.of_lk rfl) <| .cons (.of_lk rfl) <| .cons (.of_lk rfl) <| .nil) (.cons .here <| .cons (.next .here) <| .nil) ?_
        refine rs ?_
        refine rt ?_
        refine jp (pl (ht rfl) (by kernel_rfl)) rfl rfl rfl ?_
        refine jp (pm (ht rfl)) rfl rfl rfl ?_
        refine jp (pm (ht rfl)) rfl rfl rfl ?_
        obtain ⟨r11, e21, h⟩ := bind_some h
        refine jp (pj_callB (hasBL_cons (hasB_of (ht rfl)) <| hasBL_cons (hasB_of (ht rfl)) <| hasBL_cons (hasB_own (ht rfl) .here) <| hasBL_nil) (by kernel_rfl) (c_lmots_folded hg1 hg2 e21) (Rep.flat_slot (flat_vec _ (flat_un _ _)) _)) rfl rfl rfl ?_
        refine j_store_boxx (r' := r11) (ht rfl) (ht rfl) (.next .here) (Path.all R_api_Hash) (by kernel_rfl) rfl ?_
        refine jp (pa has_bl) rfl rfl rfl ?_
        refine j_end ?_
        obtain rfl := oi h
        exact run_ret fun a w hst => q_retN hst rfl (.cons (.cell rfl .here (by kernel_rfl)) <| .cons (.tmp rfl) <| .nil) rfl () (fun _ _ h => h) (.nil)
  · rcases bool_tf (!r3.2) with e4 | e4
    · replace e5 := bt e4 e5
      refine j_guard_no2 (j := 2) (want := false) rfl rfl rfl rfl (bl_isx e4) rfl rfl rfl ?_
      refine j_guard_no2 (j := 2) (want := false) rfl rfl rfl rfl (bl_isx e4) rfl rfl rfl ?_
      refine j_guard_no2 (j := 2) (want := false) rfl rfl rfl rfl (bl_isx e4) rfl rfl rfl ?_
      refine j_guard_no2 (j := 2) (want := false) rfl rfl rfl rfl (bl_isx e4) rfl rfl rfl ?_
      refine j_guard_no2 (j := 2) (want := false) rfl rfl rfl rfl (bl_isx e4) rfl rfl rfl ?_
      refine j_guard_no2 (j := 2) (want := false) rfl rfl rfl rfl (bl_isx e4) rfl rfl rfl ?_
      refine jp (PJ.eqv (R := bl) (pj_pick (t := any) (ht rfl) (fun _ => has_bl) (fun he => absurd (e4.symm.trans he) (by decide))) (oi e5)) rfl rfl rfl ?_
      exact j_to (.cons (.of_lk rfl) <| .cons (.of_lk rfl) <| .cons (.of_lk rfl) <| .cons (.of_lk rfl) <| .cons (.of_lk rfl) <| .cons (.of_lk rfl) <| .cons (.of_lk rfl) <| .nil) (.cons .here <| .cons .here <| .nil) (J ())
    · replace e5 := bf e4 e5
      refine jy (pm (ht rfl)) rfl rfl rfl rfl (bl_isx e4) rfl rfl ?_
      refine jy (pj_len_sl (sz := 1) (ht rfl) (by kernel_rfl)) rfl rfl rfl rfl (bl_isx e4) rfl rfl ?_
      refine jy (pm (ht rfl)) rfl rfl rfl rfl (bl_isx e4) rfl rfl ?_
      refine jy (pj_conv_ui (by decide) (by kernel_rfl) (ht rfl)) rfl rfl rfl rfl (bl_isx e4) rfl rfl ?_
      obtain ⟨r4, e6, e5⟩ := bind_some e5
      refine jy (pj_call (hc (ht rfl) <| hasL_nil) (by kernel_rfl) (c_lmots_Size hg0 e6)) rfl rfl rfl rfl (bl_isx e4) rfl rfl ?_
      refine jy (pj_ineq (ht rfl) (ht rfl)) rfl rfl rfl rfl (bl_isx e4) rfl rfl ?_
      refine jp (PJ.eqv (R := bl) (pj_pick (t := any) (ht rfl) (fun he => absurd (e4.symm.trans he) (by decide)) (fun _ => (ht rfl))) (oi e5)) rfl rfl rfl ?_
      exact j_to (.cons (.of_lk rfl) <| .cons (.of_lk rfl) <| .cons (.of_lk rfl) <| .cons (.of_lk rfl) <| .cons (.of_lk rfl) <| .cons (.of_lk rfl) <| .cons (.of_lk rfl) <| .nil) (.cons .here <| .cons .here <| .nil) (J ())
set_option maxRecDepth 100000 in
set_option maxHeartbeats 4000000 in
theorem c_lms_climb {G : GP} (hg1 : HG1 G) (hg2 : HG2 G) {p_id : T_api_ID} {p_r : Int} {p_h : T_api_Hash} {p_path : List T_api_Hash} {r : T_api_Hash} (h : lms_climb p_id p_r p_h p_path = some r) : Ctr Tryd.prog G 64 [R_api_ID.slot p_id, i64.slot p_r, R_api_Hash.slot p_h, (sl R_api_Hash).slot p_path] [] (fun (_ : Unit) => R_api_Hash.slot r) (fun (_ : Unit) => []) := by
  unfold lms_climb at h
  refine ctr_of_run Tryd.func64 rfl 35 rfl rfl fun m0 w0 b0 => ?_
  show Run _ _ _ [(0, R_api_ID.slot p_id), (1, i64.slot p_r), (2, R_api_Hash.slot p_h), (3, (sl R_api_Hash).slot p_path)] _
  refine rs ?_
  refine rt ?_
  refine jp (pj_box_to (ht rfl)) rfl rfl rfl ?_
  refine j_box (ht rfl) rfl fun b1 => ?_
  refine j_alloc (x := (Vector.replicate 32 (0#8))) (R := R_api_Hash) (zero_vec 32 zero_un) (by kernel_rfl) rfl fun b2 => ?_
  refine j_end ?_
  refine rs ?_
  refine rs ?_
  refine rt ?_
  refine jp (pm (ht rfl)) rfl rfl rfl ?_
  refine jp (pj_len_sl (sz := 32) (ht rfl) (by kernel_rfl)) rfl rfl rfl ?_
  refine jp (pm has_i64) rfl rfl rfl ?_
  refine j_end ?_
  obtain ⟨⟨y6, y7, y8⟩, e6, h⟩ := bind_some h
  refine run_loopS (Γi := fun (i : Unit) (s : Int × Int × T_api_Hash) => [(1, i64.slot s.1), (4, ptrTo R_api_ID p_id), (6, val (.pointer (some ⟨b1, 0, none⟩))), (8, val (.pointer (some ⟨b2, 0, none⟩))), (13, (sl R_api_Hash).slot p_path), (14, i64.slot (p_path.length : Int)), (15, i64.slot s.2.1)]) (Hi := fun (i : Unit) (s : Int × Int × T_api_Hash) => [box b2 26 R_api_Hash (Vector.replicate 32 (0#8)), box b1 26 R_api_Hash s.2.2]) e6 () (fun a w hst => (hst.sub (.cons (.of_lk rfl) <| .cons (.of_lk rfl) <| .cons (.of_lk rfl) <| .cons (.of_lk rfl) <| .cons (.of_lk rfl) <| .cons (.of_lk rfl) <| .cons (.of_lk rfl) <| .nil)).keep (.cons .here <| .cons .here <| .nil)) ?_ ?_
  · clear h e6
    rintro _ ⟨y1, y2, y3⟩ lr h
    change lms_climb_L1 p_path p_id y1 y2 y3 = some _ at h
    show Run _ _ _ [(1, i64.slot y1), (4, ptrTo R_api_ID p_id), (6, val (.pointer (some ⟨b1, 0, none⟩))), (8, val (.pointer (some ⟨b2, 0, none⟩))), (13, (sl R_api_Hash).slot p_path), (14, i64.slot (p_path.length : Int)), (15, i64.slot y2)] [box b2 26 R_api_Hash (Vector.replicate 32 (0#8)), box b1 26 R_api_Hash y3]
    unfold lms_climb_L1 at h
    refine rs ?_
    refine rt ?_
    refine jp (pj_ilss (ht rfl) (ht rfl)) rfl rfl rfl ?_
    refine j_end ?_
    refine rs ?_
    refine run_cond (ht rfl) (fun e1 => ?_) (fun e1 => ?_)
    · replace h := bt e1 h
      refine run_skip ?_
      refine rs ?_
      refine run_block ?_
      refine rs ?_
      refine rt ?_
      obtain ⟨x1, e2, h⟩ := bind_some h
      refine jp (pj_index_slx (ht rfl) (ht rfl) isInt_i64 e2 (by kernel_rfl)) rfl rfl rfl ?_
      refine jp (pl (ht rfl) (by kernel_rfl)) rfl rfl rfl ?_
      refine j_alloc (x := (Vector.replicate 32 (0#8))) (R := R_api_Hash) (zero_vec 32 zero_un) (by kernel_rfl) rfl fun b3 => ?_
      refine j_store_boxx (r' := x1) (ht rfl) (ht rfl) .here (Path.all R_api_Hash) (by kernel_rfl) rfl ?_
      refine j_freezeTo (t := 10) .here (.of_lk rfl) ?_
      refine j_end ?_
      refine rs ?_
      refine run_keep (H' := [box b2 26 R_api_Hash (Vector.replicate 32 (0#8)), box b1 26 R_api_Hash y3]) (.cons .here <| .cons .here <| .nil) ?_
      refine run_drawL (n := 5) (H := [box b2 26 R_api_Hash (Vector.replicate 32 (0#8)), box b1 26 R_api_Hash y3]) (Ls := [⟨[], [(2, ⟨Nat, fun (b4 : Nat) => [box b4 26 R_api_Hash (Vector.replicate 32 (0#8))], fun (b4 : Nat) => [(11, val (.pointer (some ⟨b4, 0, none⟩)))]⟩), (4, ⟨Nat, fun (b4 : Nat) => [box b4 26 R_api_Hash y3], fun (b4 : Nat) => [(11, val (.pointer (some ⟨b4, 0, none⟩)))]⟩)]⟩, ⟨[], [(3, ⟨Nat, fun (b5 : Nat) => [box b5 26 R_api_Hash (Vector.replicate 32 (0#8))], fun (b5 : Nat) => [(12, val (.pointer (some ⟨b5, 0, none⟩)))]⟩)]⟩]) (by kernel_rfl) (by kernel_rfl) (by kernel_rfl) (by kernel_rfl) (by kernel_rfl) rfl (.read rfl (.plain rfl (pj_load_box (ht rfl) (.next .here) (Path.all R_api_Hash) (by kernel_rfl))) <| .read rfl (.plain rfl (pl (ht rfl) (by kernel_rfl))) <| .step 0 rfl .here (.inl rfl) (fun i => ⟨_, _, fun j => j, (w_alloc (x := (Vector.replicate 32 (0#8))) (R := R_api_Hash) (zero_vec 32 zero_un) (by kernel_rfl) rfl), fun _ => rfl, slotAny, dst1⟩) <| .step 1 rfl .here (.inl rfl) (fun i => ⟨_, _, fun j => j, (w_alloc (x := (Vector.replicate 32 (0#8))) (R := R_api_Hash) (zero_vec 32 zero_un) (by kernel_rfl) rfl), fun _ => rfl, slotAny, dst1⟩) <| .step 0 rfl (.next .here) (.inl rfl) (fun i => ⟨_, _, fun _ => i, (w_store (r' := y3) (ht rfl) (ht rfl) .here (Path.all R_api_Hash) (by kernel_rfl) rfl), fun _ => rfl, (slotNo (s := any)), dst0⟩) <| .nil) ?_
      rintro b4 b5
      refine j_to (Γ' := [(1, i64.slot y1), (4, ptrTo R_api_ID p_id), (6, val (.pointer (some ⟨b1, 0, none⟩))), (8, val (.pointer (some ⟨b2, 0, none⟩))), (10, ptrTo R_api_Hash x1), (11, val (.pointer (some ⟨b4, 0, none⟩))), (12, val (.pointer (some ⟨b5, 0, none⟩))), (13, (sl R_api_Hash).slot p_path), (14, i64.slot (p_path.length : Int)), (15, i64.slot y2), (20, R_api_Hash.slot x1)]) (H' := [box b4 26 R_api_Hash y3, box b5 26 R_api_Hash (Vector.replicate 32 (0#8)), box b2 26 R_api_Hash (Vector.replicate 32 (0#8)), box b1 26 R_api_Hash y3]) (.cons (.of_lk rfl) <| .cons (.of_lk rfl) <| .cons (.of_lk rfl) <| .cons (.of_lk rfl) <| .cons (.of_lk rfl) <| .cons (.of_lk rfl) <| .cons (.of_lk rfl) <| .cons (.of_lk rfl) <| .cons (.of_lk rfl) <| .cons (.of_lk rfl) <| .cons (.of_lk rfl) <| .nil) (.cons .here <| .cons .here <| .cons .here <| .cons .here <| .nil) ?_
      refine j_store_boxx (r' := x1) (ht rfl) (ht rfl) (.next .here) (Path.all R_api_Hash) (by kernel_rfl) rfl ?_
      refine j_end ?_
      refine rs ?_
      refine rs ?_
      refine rt ?_
      refine jp (pm (ht rfl)) rfl rfl rfl ?_
      refine jp (pj_irem (ht rfl) has_i64 (by decide)) rfl rfl rfl ?_
      refine jp (pj_ieql (ht rfl) has_i64) rfl rfl rfl ?_
      refine j_end ?_
      obtain ⟨⟨y4, y5⟩, e4, h⟩ := bind_some h
      refine run_joinx (ι := Unit) (Γ' := fun (_ : Unit) => [(1, i64.slot y1), (4, ptrTo R_api_ID p_id), (6, val (.pointer (some ⟨b1, 0, none⟩))), (8, val (.pointer (some ⟨b2, 0, none⟩))), (11, val (.pointer (some ⟨b4, 0, none⟩))), (12, val (.pointer (some ⟨b5, 0, none⟩))), (13, (sl R_api_Hash).slot p_path), (14, i64.slot (p_path.length : Int)), (15, i64.slot y2)]) (H' := fun (_ : Unit) => [box b5 26 R_api_Hash y4, box b4 26 R_api_Hash y5, box b2 26 R_api_Hash (Vector.replicate 32 (0#8)), box b1 26 R_api_Hash y3]) ?_ fun J => ?_
      · intro _
        clear e4
        show Run _ _ _ [(1, i64.slot y1), (4, ptrTo R_api_ID p_id), (6, val (.pointer (some ⟨b1, 0, none⟩))), (8, val (.pointer (some ⟨b2, 0, none⟩))), (11, val (.pointer (some ⟨b4, 0, none⟩))), (12, val (.pointer (some ⟨b5, 0, none⟩))), (13, (sl R_api_Hash).slot p_path), (14, i64.slot (p_path.length : Int)), (15, i64.slot y2)] [box b5 26 R_api_Hash y4, box b4 26 R_api_Hash y5, box b2 26 R_api_Hash (Vector.replicate 32 (0#8)), box b1 26 R_api_Hash y3]
        refine rs ?_
        refine rt ?_
        refine jp (pm (ht rfl)) rfl rfl rfl ?_
        refine jp (pj_iquo (ht rfl) has_i64 (by decide)) rfl rfl rfl ?_
        refine jp (pa (ht rfl)) rfl rfl rfl ?_
        refine j_end ?_
        refine rt ?_
        refine jp (pl (ht rfl) (by kernel_rfl)) rfl rfl rfl ?_
        refine jp (pm (ht rfl)) rfl rfl rfl ?_
        refine jp (pj_load_box (ht rfl) (.next .here) (Path.all R_api_Hash) (by kernel_rfl)) rfl rfl rfl ?_
        refine jp (pj_load_box (ht rfl) .here (Path.all R_api_Hash) (by kernel_rfl)) rfl rfl rfl ?_
        obtain ⟨r1, e5, h⟩ := bind_some h
        refine jp (pj_call (hc (ht rfl) <| hc (ht rfl) <| hc (ht rfl) <| hc (ht rfl) <| hasL_nil) (by kernel_rfl) (c_lms_inner hg1 hg2 e5)) rfl rfl rfl ?_
        refine j_store_boxx (r' := r1) (ht rfl) (ht rfl) (.next (.next (.next .here))) (Path.all R_api_Hash) (by kernel_rfl) rfl ?_
        refine j_end ?_
        refine run_endblock ?_
        refine rt ?_
        refine jp (pj_iadd (ht rfl) has_i64) rfl rfl rfl ?_
        refine jp (pm (ht rfl)) rfl rfl rfl ?_
        refine j_end ?_
        obtain rfl := oi h
        exact run_next () (.cons (.of_lk rfl) <| .cons (.of_lk rfl) <| .cons (.of_lk rfl) <| .cons (.of_lk rfl) <| .cons (.of_lk rfl) <| .cons (.of_lk rfl) <| .cons (.of_lk rfl) <| .nil) (.cons (.next (.next (.next .here))) <| .cons .here <| .nil)
      · refine run_cond (ht rfl) (fun e3 => ?_) (fun e3 => ?_)
        · replace h := bt e3 e4
          refine run_keep (H' := [box b4 26 R_api_Hash y3, box b5 26 R_api_Hash x1, box b2 26 R_api_Hash (Vector.replicate 32 (0#8)), box b1 26 R_api_Hash y3]) (.cons (.next .here) <| .cons .here <| .cons .here <| .cons .here <| .nil) ?_
          refine run_drawL (n := 3) (H := [box b5 26 R_api_Hash x1, box b2 26 R_api_Hash (Vector.replicate 32 (0#8)), box b1 26 R_api_Hash y3]) (Ls := [⟨[box b4 26 R_api_Hash y3], [(2, ⟨Unit, fun (_ : Unit) => [box b4 26 R_api_Hash x1], fun (_ : Unit) => []⟩)]⟩]) (by kernel_rfl) (by kernel_rfl) (by kernel_rfl) (by kernel_rfl) (by kernel_rfl) rfl (.read rfl (.plain rfl (pl (ht rfl) (by kernel_rfl))) <| .read rfl (.plain rfl (pj_load_box (ht rfl) (.next (.next .here)) (Path.all R_api_Hash) (by kernel_rfl))) <| .step 0 rfl .here (.inl rfl) (fun i => ⟨_, _, fun _ => (), (w_store (r' := x1) (ht rfl) (ht rfl) .here (Path.all R_api_Hash) (by kernel_rfl) rfl), fun _ => rfl, (slotNo (s := any)), dst0⟩) <| .nil) ?_
          rintro _
          refine j_to (Γ' := [(1, i64.slot y1), (4, ptrTo R_api_ID p_id), (6, val (.pointer (some ⟨b1, 0, none⟩))), (8, val (.pointer (some ⟨b2, 0, none⟩))), (11, val (.pointer (some ⟨b4, 0, none⟩))), (12, val (.pointer (some ⟨b5, 0, none⟩))), (13, (sl R_api_Hash).slot p_path), (14, i64.slot (p_path.length : Int)), (15, i64.slot y2), (25, R_api_Hash.slot y3)]) (H' := [box b4 26 R_api_Hash x1, box b5 26 R_api_Hash x1, box b2 26 R_api_Hash (Vector.replicate 32 (0#8)), box b1 26 R_api_Hash y3]) (.cons (.of_lk rfl) <| .cons (.of_lk rfl) <| .cons (.of_lk rfl) <| .cons (.of_lk rfl) <| .cons (.of_lk rfl) <| .cons (.of_lk rfl) <| .cons (.of_lk rfl) <| .cons (.of_lk rfl) <| .cons (.of_lk rfl) <| .cons (.of_lk rfl) <| .nil) (.cons .here <| .cons .here <| .cons .here <| .cons .here <| .nil) ?_
          refine j_store_boxx (r' := y3) (ht rfl) (ht rfl) (.next .here) (Path.all R_api_Hash) (by kernel_rfl) rfl ?_
          refine j_end ?_
          obtain ⟨rfl, rfl⟩ := Prod.mk.inj (oi h)
          exact run_to (.cons (.of_lk rfl) <| .cons (.of_lk rfl) <| .cons (.of_lk rfl) <| .cons (.of_lk rfl) <| .cons (.of_lk rfl) <| .cons (.of_lk rfl) <| .cons (.of_lk rfl) <| .cons (.of_lk rfl) <| .cons (.of_lk rfl) <| .nil) (.cons .here <| .cons .here <| .cons .here <| .cons .here <| .nil) (J ())
        · replace h := bf e3 e4
          refine run_skip ?_
          obtain ⟨rfl, rfl⟩ := Prod.mk.inj (oi h)
          exact run_to (.cons (.of_lk rfl) <| .cons (.of_lk rfl) <| .cons (.of_lk rfl) <| .cons (.of_lk rfl) <| .cons (.of_lk rfl) <| .cons (.of_lk rfl) <| .cons (.of_lk rfl) <| .cons (.of_lk rfl) <| .cons (.of_lk rfl) <| .nil) (.cons .here <| .cons .here <| .cons .here <| .cons .here <| .nil) (J ())
    · replace h := bf e1 h
      obtain rfl := oi h
      exact run_brk () (.cons (.of_lk rfl) <| .cons (.of_lk rfl) <| .cons (.of_lk rfl) <| .cons (.of_lk rfl) <| .cons (.of_lk rfl) <| .cons (.of_lk rfl) <| .cons (.of_lk rfl) <| .nil) (.cons .here <| .cons .here <| .nil)
  · rintro _
    show Run _ _ _ [(1, i64.slot y6), (4, ptrTo R_api_ID p_id), (6, val (.pointer (some ⟨b1, 0, none⟩))), (8, val (.pointer (some ⟨b2, 0, none⟩))), (13, (sl R_api_Hash).slot p_path), (14, i64.slot (p_path.length : Int)), (15, i64.slot y7)] [box b2 26 R_api_Hash (Vector.replicate 32 (0#8)), box b1 26 R_api_Hash y8]
    refine run_to (Γ' := [(6, val (.pointer (some ⟨b1, 0, none⟩))), (8, val (.pointer (some ⟨b2, 0, none⟩)))]) (H' := [box b2 26 R_api_Hash (Vector.replicate 32 (0#8)), box b1 26 R_api_Hash y8]) (.cons (.of_lk rfl) <| .cons (.of_lk rfl) <| .nil) (.cons .here <| .cons .here <| .nil) ?_
    refine rs ?_
    refine rt ?_
    refine jp (pj_load_box (ht rfl) (.next .here) (Path.all R_api_Hash) (by kernel_rfl)) rfl rfl rfl ?_
    refine j_store_boxx (r' := y8) (ht rfl) (ht rfl) .here (Path.all R_api_Hash) (by kernel_rfl) rfl ?_
    refine j_end ?_
    obtain rfl := oi h
    exact run_ret fun a w hst => q_ret1 hst rfl (.cell rfl .here (by kernel_rfl)) () (fun _ _ h => h) (.nil)
set_option maxRecDepth 100000 in
set_option maxHeartbeats 4000000 in
theorem c_slices_Equal_byte_byte {G : GP} {p_s1 : List (BitVec 8)} {p_s2 : List (BitVec 8)} {r : Bool} (h : slices_Equal_byte_byte p_s1 p_s2 = some r) : Ctr Tryd.prog G 65 [(sl u8).slot p_s1, (sl u8).slot p_s2] [] (fun (_ : Unit) => bl.slot r) (fun (_ : Unit) => []) := by
  unfold slices_Equal_byte_byte at h
  refine ctr_of_run Tryd.func65 rfl 26 rfl rfl fun m0 w0 b0 => ?_
  refine run_ret0 fun Qf hq1 hq2 => ?_
  show Run _ _ _ [(0, (sl u8).slot p_s1), (1, (sl u8).slot p_s2)] _
  refine rs ?_
  refine rt ?_
  refine jp (pa has_bl) rfl rfl rfl ?_
  refine j_end ?_
  refine rs ?_
  refine rs ?_
  refine rt ?_
  refine jp (pm (ht rfl)) rfl rfl rfl ?_
  refine jp (pj_len_sl (sz := 1) (ht rfl) (by kernel_rfl)) rfl rfl rfl ?_
  refine jp (pm (ht rfl)) rfl rfl rfl ?_
  refine jp (pj_len_sl (sz := 1) (ht rfl) (by kernel_rfl)) rfl rfl rfl ?_
  refine jp (pj_ineq (ht rfl) (ht rfl)) rfl rfl rfl ?_
  refine j_end ?_
  refine run_cond (ht rfl) (fun e1 => ?_) (fun e1 => ?_)
  · replace h := bt e1 h
    refine rs ?_
    refine rt ?_
    refine jp (pa has_bl) rfl rfl rfl ?_
    refine j_end ?_
    obtain rfl := oi h
    exact run_ret fun a w hst => q_ret1 hst rfl (.tmp rfl) () (fun _ _ h => h) (.nil)
  · replace h := bf e1 h
    refine run_skip ?_
    refine rs ?_
    refine rs ?_
    refine rt ?_
    refine jp (pm (ht rfl)) rfl rfl rfl ?_
    refine jp (pj_len_sl (sz := 1) (ht rfl) (by kernel_rfl)) rfl rfl rfl ?_
    refine jp (pm has_i64) rfl rfl rfl ?_
    refine j_end ?_
    obtain ⟨o, e6, h⟩ := bind_some h
    refine run_loop (Γi := fun (i : Unit) (s : Int) => [(0, (sl u8).slot p_s1), (1, (sl u8).slot p_s2), (12, i64.slot (p_s1.length : Int)), (13, i64.slot s)]) (Hi := fun (i : Unit) (s : Int) => []) (R := fun x a w => x = r → Qf a w) e6 () (fun a w hst => (hst.sub (.cons (.of_lk rfl) <| .cons (.of_lk rfl) <| .cons (.of_lk rfl) <| .cons (.of_lk rfl) <| .nil)).keep (.nil)) ?_ ?_ ?_
    · clear h e6
      rintro _ y1 lr h
      change slices_Equal_byte_byte_L1 p_s1 p_s2 y1 = some _ at h
      show Run _ _ _ [(0, (sl u8).slot p_s1), (1, (sl u8).slot p_s2), (12, i64.slot (p_s1.length : Int)), (13, i64.slot y1)] []
      unfold slices_Equal_byte_byte_L1 at h
      refine rs ?_
      refine rt ?_
      refine jp (pj_ilss (ht rfl) (ht rfl)) rfl rfl rfl ?_
      refine j_end ?_
      refine rs ?_
      refine run_cond (ht rfl) (fun e2 => ?_) (fun e2 => ?_)
      · replace h := bt e2 h
        refine run_skip ?_
        refine rs ?_
        refine run_block ?_
        refine rs ?_
        refine rt ?_
        refine jp (pm (ht rfl)) rfl rfl rfl ?_
        refine jp (pa (ht rfl)) rfl rfl rfl ?_
        refine j_end ?_
        refine rs ?_
        obtain ⟨x1, e3, h⟩ := bind_some h
        obtain ⟨x2, e4, h⟩ := bind_some h
        refine run_draw (n := 8) (by kernel_rfl) (by kernel_rfl) (by kernel_rfl) (by kernel_rfl) (.read (.plain rfl (pm (ht rfl))) <| .read (.plain rfl (pm (ht rfl))) <| .read (.plain rfl (pj_index_slx (ht rfl) (ht rfl) isInt_i64 e3 (by kernel_rfl))) <| .read (.plain rfl (pl (ht rfl) (by kernel_rfl))) <| .read (.plain rfl (pm (ht rfl))) <| .read (.plain rfl (pm (ht rfl))) <| .read (.plain rfl (pj_index_slx (ht rfl) (ht rfl) isInt_i64 e4 (by kernel_rfl))) <| .read (.plain rfl (pl (ht rfl) (by kernel_rfl))) <| .nil) (j_to (Γ' := [(0, (sl u8).slot p_s1), (1, (sl u8).slot p_s2), (12, i64.slot (p_s1.length : Int)), (13, i64.slot y1), (19, u8.slot x1), (23, u8.slot x2)]) (H' := []) (.cons (.of_lk rfl) <| .cons (.of_lk rfl) <| .cons (.of_lk rfl) <| .cons (.of_lk rfl) <| .cons (.of_lk rfl) <| .cons (.of_lk rfl) <| .nil) (.nil) ?_)
        refine jp (pj_uneq (k := .u8) (b := 8) (ht rfl) (ht rfl)) rfl rfl rfl ?_
        refine j_end ?_
        refine run_cond (ht rfl) (fun e5 => ?_) (fun e5 => ?_)
        · replace h := bt e5 h
          refine rs ?_
          refine rt ?_
          refine jp (pa has_bl) rfl rfl rfl ?_
          refine j_end ?_
          obtain rfl := oi h
          refine run_ret fun a w hst => ⟨rfl, fun hr => ?_⟩
          subst hr
          exact hq2 a w (q_ret1 hst rfl (.tmp rfl) () (fun _ _ h => h) (.nil))
        · replace h := bf e5 h
          refine run_skip ?_
          refine run_endblock ?_
          refine rt ?_
          refine jp (pj_iadd (ht rfl) has_i64) rfl rfl rfl ?_
          refine jp (pm (ht rfl)) rfl rfl rfl ?_
          refine j_end ?_
          obtain rfl := oi h
          exact run_next () (.cons (.of_lk rfl) <| .cons (.of_lk rfl) <| .cons (.of_lk rfl) <| .cons (.of_lk rfl) <| .nil) (.nil)
      · replace h := bf e2 h
        obtain rfl := oi h
        exact run_brk () (.cons (.of_lk rfl) <| .cons (.of_lk rfl) <| .cons (.of_lk rfl) <| .cons (.of_lk rfl) <| .nil) (.nil)
    · rintro _ y2 ho
      subst ho
      show Run _ _ _ [(0, (sl u8).slot p_s1), (1, (sl u8).slot p_s2), (12, i64.slot (p_s1.length : Int)), (13, i64.slot y2)] []
      refine run_to (Γ' := []) (H' := []) (.nil) (.nil) ?_
      refine rs ?_
      refine rt ?_
      refine jp (pa has_bl) rfl rfl rfl ?_
      refine j_end ?_
      obtain rfl := oi h
      exact run_ret fun a w hst => q_ret1 hst rfl (.tmp rfl) () (fun _ _ h => h) (.nil)
    · intro x a w ho hR
      subst ho
      exact hq1 a w (hR (oi h))
set_option maxRecDepth 100000 in
set_option maxHeartbeats 4000000 in
theorem c_lms_Verify {G : GP} (hg0 : HG0 G) (hg1 : HG1 G) (hg2 : HG2 G) {p_public : List (BitVec 8)} {p_message : List (BitVec 8)} {p_sig : List (BitVec 8)} {r : Bool} (h : lms_Verify p_public p_message p_sig = some r) : Ctr Tryd.prog G 36 [(sl u8).slot p_public, (sl u8).slot p_message, (sl u8).slot p_sig] [] (fun (_ : Unit) => bl.slot r) (fun (_ : Unit) => []) := by
  unfold lms_Verify at h
  refine ctr_of_run Tryd.func36 rfl 77 rfl rfl fun m0 w0 b0 => ?_
  show Run _ _ _ [(0, (sl u8).slot p_public), (1, (sl u8).slot p_message), (2, (sl u8).slot p_sig)] _
  refine rs ?_
  refine rt ?_
  refine jp (pa has_bl) rfl rfl rfl ?_
  refine j_end ?_
  refine rs ?_
  refine rs ?_
  refine rt ?_
  refine jp (pm (ht rfl)) rfl rfl rfl ?_
  refine jp (pj_len_sl (sz := 1) (ht rfl) (by kernel_rfl)) rfl rfl rfl ?_
  refine jp (pj_ineq (ht rfl) has_i64) rfl rfl rfl ?_
  refine j_end ?_
  refine run_cond (ht rfl) (fun e1 => ?_) (fun e1 => ?_)
  · replace h := bt e1 h
    refine rs ?_
    refine rt ?_
    refine jp (pa has_bl) rfl rfl rfl ?_
    refine j_end ?_
    obtain rfl := oi h
    exact run_ret fun a w hst => q_ret1 hst rfl (.tmp rfl) () (fun _ _ h => h) (.nil)
  · replace h := bf e1 h
    refine run_skip ?_
    refine rs ?_
    refine rt ?_
    refine jp (pm (ht rfl)) rfl rfl rfl ?_
    obtain ⟨r1, e2, h⟩ := bind_some h
    refine j_call (hc (ht rfl) <| hasL_nil) (by kernel_rfl) (c_wire_New e2) .nil rfl fun b1 => ?_
    refine jp (pa (ht rfl)) rfl rfl rfl ?_
    refine j_end ?_
    refine rs ?_
    refine rt ?_
    refine jp (pm (ht rfl)) rfl rfl rfl ?_
    obtain ⟨r2, e3, h⟩ := bind_some h
    refine j_call (hc (ht rfl) <| hasL_nil) (by kernel_rfl) (c_wire_Reader_U32 e3) (.cons .here <| .nil) rfl fun _ => ?_
    refine jp (pj_conv_ui (by decide) (by kernel_rfl) (ht rfl)) rfl rfl rfl ?_
    refine jp (pm (ht rfl)) rfl rfl rfl ?_
    obtain ⟨r3, e4, h⟩ := bind_some h
    refine j_call (hc (ht rfl) <| hasL_nil) (by kernel_rfl) (c_wire_Reader_U32 e4) (.cons .here <| .nil) rfl fun _ => ?_
    refine jp (pj_conv_ui (by decide) (by kernel_rfl) (ht rfl)) rfl rfl rfl ?_
    refine jp (pa (ht rfl)) rfl rfl rfl ?_
    refine jp (pa (ht rfl)) rfl rfl rfl ?_
    refine j_end ?_
    refine rs ?_
    obtain ⟨r4, e5, h⟩ := bind_some h
    obtain ⟨x1, e6, h⟩ := bind_some h
    obtain ⟨r5, e7, h⟩ := bind_some h
    refine run_keep (H' := [box b1 124 (prod (sl u8) bl) (r3.1.1, r3.1.2)]) (.cons .here <| .nil) ?_
    refine run_drawL (n := 7) (H := []) (Ls := [⟨[box b1 124 (prod (sl u8) bl) (r3.1.1, r3.1.2)], [(1, ⟨Unit, fun (_ : Unit) => [box b1 124 (prod (sl u8) bl) (r4.1.1, r4.1.2)], fun (_ : Unit) => [(29, (sl u8).slot r4.2)]⟩), (5, ⟨Unit, fun (_ : Unit) => [box b1 124 (prod (sl u8) bl) (r5.1.1, r5.1.2)], fun (_ : Unit) => [(33, (sl u8).slot r5.2), (29, (sl u8).slot r4.2)]⟩)]⟩, ⟨[], [(6, ⟨Nat, fun (b2 : Nat) => [box b2 23 R_api_ID (Vector.replicate 16 (0#8))], fun (b2 : Nat) => [(10, val (.pointer (some ⟨b2, 0, none⟩)))]⟩)]⟩]) (by kernel_rfl) (by kernel_rfl) (by kernel_rfl) (by kernel_rfl) (by kernel_rfl) rfl (.read rfl (.plain rfl (pm (ht rfl))) <| .step 0 rfl .here (.inl rfl) (fun i => ⟨_, _, fun _ => (), (w_call (hc (ht rfl) <| hc has_i64 <| hasL_nil) (by kernel_rfl) (c_wire_Reader_Plain e5) (.cons .here <| .nil) rfl), fun _ => rfl, slotIs, dst1⟩) <| .read rfl (.plain rfl (pj_s2apx (e := 5) (ht rfl) e6 rfl (by kernel_rfl))) <| .read rfl (.plain rfl (pl (ht rfl) (by kernel_rfl))) <| .read rfl (.plain rfl (pm (ht rfl))) <| .step 0 rfl (.next .here) (.inl rfl) (fun i => ⟨_, _, fun _ => (), (w_call (hc (ht rfl) <| hc has_i64 <| hasL_nil) (by kernel_rfl) (c_wire_Reader_Plain e7) (.cons .here <| .nil) rfl), fun _ => rfl, slotIs, dst1⟩) <| .step 1 rfl .here (.inl rfl) (fun i => ⟨_, _, fun j => j, (w_alloc (x := (Vector.replicate 16 (0#8))) (R := R_api_ID) (zero_vec 16 zero_un) (by kernel_rfl) rfl), fun _ => rfl, slotAny, dst1⟩) <| .nil) ?_
    rintro _ b2
    refine j_to (Γ' := [(1, (sl u8).slot p_message), (2, (sl u8).slot p_sig), (8, i64.slot (r2.2.toNat : Int)), (9, i64.slot (r3.2.toNat : Int)), (10, val (.pointer (some ⟨b2, 0, none⟩))), (31, R_api_ID.slot x1), (33, (sl u8).slot r5.2)]) (H' := [box b2 23 R_api_ID (Vector.replicate 16 (0#8))]) (.cons (.of_lk rfl) <| .cons (.of_lk rfl) <| .cons (.of_lk rfl) <| .cons (.of_lk rfl) <| .cons (.of_lk rfl) <| .cons (.of_lk rfl) <| .cons (.of_lk rfl) <| .nil) (.cons (.next .here) <| .nil) ?_
    refine j_store_boxx (r' := x1) (ht rfl) (ht rfl) .here (Path.all R_api_ID) (by kernel_rfl) rfl ?_
    refine j_freezeTo (t := 10) .here (.of_lk rfl) ?_
    refine jp (pa (ht rfl)) rfl rfl rfl ?_
    refine j_end ?_
    refine rs ?_
    refine rs ?_
    refine rt ?_
    refine jp (pm (ht rfl)) rfl rfl rfl ?_
    refine jp (pm (ht rfl)) rfl rfl rfl ?_
    obtain ⟨r6, e8, h⟩ := bind_some h
    refine jp (pj_call (hc (ht rfl) <| hc (ht rfl) <| hasL_nil) (by kernel_rfl) (c_lms_may hg0 e8)) rfl rfl rfl ?_
    refine jp (pj_not (ht rfl)) rfl rfl rfl ?_
    refine j_end ?_
    refine run_cond (ht rfl) (fun e9 => ?_) (fun e9 => ?_)
    · replace h := bt e9 h
      refine rs ?_
      refine rt ?_
      refine jp (pa has_bl) rfl rfl rfl ?_
      refine j_end ?_
      obtain rfl := oi h
      exact run_ret fun a w hst => q_ret1 hst rfl (.tmp rfl) () (fun _ _ h => h) (.nil)
    · replace h := bf e9 h
      refine run_skip ?_
      refine rs ?_
      refine rt ?_
      refine jp (pm (ht rfl)) rfl rfl rfl ?_
      refine jp (pm (ht rfl)) rfl rfl rfl ?_
      refine jp (pm (ht rfl)) rfl rfl rfl ?_
      obtain ⟨r7, e10, h⟩ := bind_some h
      refine jp (pj_call (hc (ht rfl) <| hc (ht rfl) <| hc (ht rfl) <| hasL_nil) (by kernel_rfl) (c_lms_parted hg0 e10)) rfl rfl rfl ?_
      refine jp (pm (ht rfl)) rfl rfl rfl ?_
      refine jp (pj_extract (ht rfl) rfl) rfl rfl rfl ?_
      refine jp (pj_extract (ht rfl) rfl) rfl rfl rfl ?_
      refine j_alloc (x := (0, ([] : List (BitVec 8)), ([] : List T_api_Hash))) (R := R_lms_signature) (zero_prod zero_i64 (zero_prod zero_sl zero_sl)) (by kernel_rfl) rfl fun b3 => ?_
      refine j_store_boxx (r' := r7.1) (ht rfl) (ht rfl) .here (Path.all R_lms_signature) (by kernel_rfl) rfl ?_
      refine j_freezeTo (t := 12) .here (.of_lk rfl) ?_
      refine jp (pa (ht rfl)) rfl rfl rfl ?_
      refine j_end ?_
      refine rs ?_
      refine rs ?_
      refine rt ?_
      refine jp (pm (ht rfl)) rfl rfl rfl ?_
      refine jp (pj_not (ht rfl)) rfl rfl rfl ?_
      refine j_end ?_
      refine run_cond (ht rfl) (fun e11 => ?_) (fun e11 => ?_)
      · replace h := bt e11 h
        refine rs ?_
        refine rt ?_
        refine jp (pa has_bl) rfl rfl rfl ?_
        refine j_end ?_
        obtain rfl := oi h
        exact run_ret fun a w hst => q_ret1 hst rfl (.tmp rfl) () (fun _ _ h => h) (.nil)
      · replace h := bf e11 h
        refine run_skip ?_
        refine rs ?_
        refine rt ?_
        refine jp (pl (ht rfl) (by kernel_rfl)) rfl rfl rfl ?_
        refine jp (pj_field_to (ht rfl) (Path.fst i64 (prod (sl u8) (sl R_api_Hash))) (by kernel_rfl)) rfl rfl rfl ?_
        refine jp (pl (ht rfl) (by kernel_rfl)) rfl rfl rfl ?_
        refine jp (pj_conv_un (k := .u32) (b := 32) rfl rfl (by kernel_rfl) (ht rfl) isInt_i64) rfl rfl rfl ?_
        refine jp (pm (ht rfl)) rfl rfl rfl ?_
        refine jp (pj_field_to (ht rfl) (Path.then (Path.snd i64 (prod (sl u8) (sl R_api_Hash))) (Path.fst (sl u8) (sl R_api_Hash))) (by kernel_rfl)) rfl rfl rfl ?_
        refine jp (pl (ht rfl) (by kernel_rfl)) rfl rfl rfl ?_
        obtain ⟨r8, e12, h⟩ := bind_some h
        refine jp (pj_call (hc (ht rfl) <| hc (ht rfl) <| hc (ht rfl) <| hc (ht rfl) <| hasL_nil) (by kernel_rfl) (c_lmots_Recover hg0 hg1 hg2 e12)) rfl rfl rfl ?_
        refine jp (pm (ht rfl)) rfl rfl rfl ?_
        refine jp (pj_extract (ht rfl) rfl) rfl rfl rfl ?_
        refine jp (pj_extract (ht rfl) rfl) rfl rfl rfl ?_
        refine j_alloc (x := (Vector.replicate 32 (0#8))) (R := R_api_Hash) (zero_vec 32 zero_un) (by kernel_rfl) rfl fun b4 => ?_
        refine j_store_boxx (r' := r8.1) (ht rfl) (ht rfl) .here (Path.all R_api_Hash) (by kernel_rfl) rfl ?_
        refine j_freezeTo (t := 14) .here (.of_lk rfl) ?_
        refine jp (pa (ht rfl)) rfl rfl rfl ?_
        refine j_end ?_
        refine rs ?_
        refine rs ?_
        refine rt ?_
        refine jp (pm (ht rfl)) rfl rfl rfl ?_
        refine jp (pj_not (ht rfl)) rfl rfl rfl ?_
        refine j_end ?_
        refine run_cond (ht rfl) (fun e13 => ?_) (fun e13 => ?_)
        · replace h := bt e13 h
          refine rs ?_
          refine rt ?_
          refine jp (pa has_bl) rfl rfl rfl ?_
          refine j_end ?_
          obtain rfl := oi h
          exact run_ret fun a w hst => q_ret1 hst rfl (.tmp rfl) () (fun _ _ h => h) (.nil)
        · replace h := bf e13 h
          refine run_skip ?_
          refine rs ?_
          obtain ⟨e14, h⟩ := grd_some h
          refine run_draw (n := 4) (by kernel_rfl) (by kernel_rfl) (by kernel_rfl) (by kernel_rfl) (.read (.plain rfl (pm (ht rfl))) <| .read (.plain rfl (pj_ishl has_i64 (ht rfl) isInt_i64 e14)) <| .read (.plain rfl (pj_field_to (ht rfl) (Path.fst i64 (prod (sl u8) (sl R_api_Hash))) (by kernel_rfl))) <| .read (.plain rfl (pl (ht rfl) (by kernel_rfl))) <| .nil) (j_to (Γ' := [(10, ptrTo R_api_ID x1), (11, (sl u8).slot r5.2), (12, ptrTo R_lms_signature r7.1), (14, ptrTo R_api_Hash r8.1), (61, i64.slot (ishl (1 : Int) (r2.2.toNat : Int))), (63, i64.slot r7.1.1)]) (H' := []) (.cons (.of_lk rfl) <| .cons (.of_lk rfl) <| .cons (.of_lk rfl) <| .cons (.of_lk rfl) <| .cons (.of_lk rfl) <| .cons (.of_lk rfl) <| .nil) (.nil) ?_)
          refine jp (pj_iadd (ht rfl) (ht rfl)) rfl rfl rfl ?_
          obtain ⟨x2, e15, h⟩ := bind_some h
          refine jp (PJ.eqv (pa (ht rfl)) (oi e15)) rfl rfl rfl ?_
          refine j_end ?_
          refine rs ?_
          obtain ⟨r9, e16, h⟩ := bind_some h
          obtain ⟨r10, e17, h⟩ := bind_some h
          refine run_keep (H' := []) (.nil) ?_
          refine run_drawL (n := 10) (H := []) (Ls := [⟨[], [(9, ⟨Nat, fun (b5 : Nat) => [box b5 26 R_api_Hash (Vector.replicate 32 (0#8))], fun (b5 : Nat) => [(16, val (.pointer (some ⟨b5, 0, none⟩)))]⟩)]⟩]) (by kernel_rfl) (by kernel_rfl) (by kernel_rfl) (by kernel_rfl) (by kernel_rfl) rfl (.read rfl (.plain rfl (pl (ht rfl) (by kernel_rfl))) <| .read rfl (.plain rfl (pm (ht rfl))) <| .read rfl (.plain rfl (pl (ht rfl) (by kernel_rfl))) <| .read rfl (.plain rfl (pm (ht rfl))) <| .read rfl (.plain rfl (pl (ht rfl) (by kernel_rfl))) <| .read rfl (.plain rfl (pj_call (hc (ht rfl) <| hc (ht rfl) <| hc (ht rfl) <| hasL_nil) (by kernel_rfl) (c_lms_leaf hg1 hg2 e16))) <| .read rfl (.plain rfl (pj_field_to (ht rfl) (Path.then (Path.snd i64 (prod (sl u8) (sl R_api_Hash))) (Path.snd (sl u8) (sl R_api_Hash))) (by kernel_rfl))) <| .read rfl (.plain rfl (pl (ht rfl) (by kernel_rfl))) <| .read rfl (.plain rfl (pj_call (hc (ht rfl) <| hc (ht rfl) <| hc (ht rfl) <| hc (ht rfl) <| hasL_nil) (by kernel_rfl) (c_lms_climb hg1 hg2 e17))) <| .step 0 rfl .here (.inl rfl) (fun i => ⟨_, _, fun j => j, (w_alloc (x := (Vector.replicate 32 (0#8))) (R := R_api_Hash) (zero_vec 32 zero_un) (by kernel_rfl) rfl), fun _ => rfl, slotAny, dst1⟩) <| .nil) ?_
          rintro b5
          refine j_to (Γ' := [(11, (sl u8).slot r5.2), (16, val (.pointer (some ⟨b5, 0, none⟩))), (73, R_api_Hash.slot r10)]) (H' := [box b5 26 R_api_Hash (Vector.replicate 32 (0#8))]) (.cons (.of_lk rfl) <| .cons (.of_lk rfl) <| .cons (.of_lk rfl) <| .nil) (.cons .here <| .nil) ?_
          refine j_store_boxx (r' := r10) (ht rfl) (ht rfl) .here (Path.all R_api_Hash) (by kernel_rfl) rfl ?_
          refine j_freezeTo (t := 16) .here (.of_lk rfl) ?_
          refine j_end ?_
          refine rs ?_
          refine rt ?_
          refine jp (pj_slice_toF (ht rfl) (by decide) (by kernel_rfl)) rfl rfl rfl ?_
          refine jp (pm (ht rfl)) rfl rfl rfl ?_
          obtain ⟨r11, e18, h⟩ := bind_some h
          refine jp (pj_call (hc (ht rfl) <| hc (ht rfl) <| hasL_nil) (by kernel_rfl) (c_slices_Equal_byte_byte e18)) rfl rfl rfl ?_
          refine jp (pa (ht rfl)) rfl rfl rfl ?_
          refine j_end ?_
          obtain rfl := oi h
          exact run_ret fun a w hst => q_ret1 hst rfl (.tmp rfl) () (fun _ _ h => h) (.nil)
set_option maxRecDepth 100000 in
set_option maxHeartbeats 4000000 in
theorem c_hss_Verify {G : GP} (hg0 : HG0 G) (hg1 : HG1 G) (hg2 : HG2 G) {p_public : List (BitVec 8)} {p_message : List (BitVec 8)} {p_signature : List (BitVec 8)} {r : Bool} (h : hss_Verify p_public p_message p_signature = some r) : Ctr Tryd.prog G 40 [(sl u8).slot p_public, (sl u8).slot p_message, (sl u8).slot p_signature] [] (fun (_ : Unit) => bl.slot r) (fun (_ : Unit) => []) := by
  unfold hss_Verify at h
  refine ctr_of_run Tryd.func40 rfl 60 rfl rfl fun m0 w0 b0 => ?_
  show Run _ _ _ [(0, (sl u8).slot p_public), (1, (sl u8).slot p_message), (2, (sl u8).slot p_signature)] _
  refine rs ?_
  refine rt ?_
  refine jp (pa has_bl) rfl rfl rfl ?_
  refine j_end ?_
  refine rs ?_
  refine rs ?_
  refine rt ?_
  refine jp (pm (ht rfl)) rfl rfl rfl ?_
  refine jp (pj_len_sl (sz := 1) (ht rfl) (by kernel_rfl)) rfl rfl rfl ?_
  refine jp (pj_ineq (ht rfl) has_i64) rfl rfl rfl ?_
  refine j_end ?_
  refine run_cond (ht rfl) (fun e1 => ?_) (fun e1 => ?_)
  · replace h := bt e1 h
    refine rs ?_
    refine rt ?_
    refine jp (pa has_bl) rfl rfl rfl ?_
    refine j_end ?_
    obtain rfl := oi h
    exact run_ret fun a w hst => q_ret1 hst rfl (.tmp rfl) () (fun _ _ h => h) (.nil)
  · replace h := bf e1 h
    refine run_skip ?_
    refine rs ?_
    refine rt ?_
    refine jp (pm (ht rfl)) rfl rfl rfl ?_
    obtain ⟨r1, e2, h⟩ := bind_some h
    refine j_call (hc (ht rfl) <| hasL_nil) (by kernel_rfl) (c_wire_New e2) .nil rfl fun b1 => ?_
    refine jp (pa (ht rfl)) rfl rfl rfl ?_
    refine j_end ?_
    refine rs ?_
    refine rs ?_
    refine rt ?_
    refine jp (pm (ht rfl)) rfl rfl rfl ?_
    obtain ⟨r2, e3, h⟩ := bind_some h
    refine j_call (hc (ht rfl) <| hasL_nil) (by kernel_rfl) (c_wire_Reader_U32 e3) (.cons .here <| .nil) rfl fun _ => ?_
    refine jp (pj_uneq (k := .u32) (b := 32) (ht rfl) (has_un (x := 2#32) rfl)) rfl rfl rfl ?_
    refine j_end ?_
    refine run_cond (ht rfl) (fun e4 => ?_) (fun e4 => ?_)
    · replace h := bt e4 h
      refine rs ?_
      refine rt ?_
      refine jp (pa has_bl) rfl rfl rfl ?_
      refine j_end ?_
      obtain rfl := oi h
      exact run_ret fun a w hst => q_ret1 hst rfl (.tmp rfl) () (fun _ _ h => h) (.nil)
    · replace h := bf e4 h
      refine run_skip ?_
      refine rs ?_
      refine rt ?_
      refine jp (pm (ht rfl)) rfl rfl rfl ?_
      obtain ⟨r3, e5, h⟩ := bind_some h
      refine j_call (hc (ht rfl) <| hasL_nil) (by kernel_rfl) (c_wire_Reader_U32 e5) (.cons .here <| .nil) rfl fun _ => ?_
      refine jp (pj_conv_ui (by decide) (by kernel_rfl) (ht rfl)) rfl rfl rfl ?_
      refine jp (pm (ht rfl)) rfl rfl rfl ?_
      obtain ⟨r4, e6, h⟩ := bind_some h
      refine j_call (hc (ht rfl) <| hasL_nil) (by kernel_rfl) (c_wire_Reader_U32 e6) (.cons .here <| .nil) rfl fun _ => ?_
      refine jp (pj_conv_ui (by decide) (by kernel_rfl) (ht rfl)) rfl rfl rfl ?_
      refine jp (pa (ht rfl)) rfl rfl rfl ?_
      refine jp (pa (ht rfl)) rfl rfl rfl ?_
      refine j_end ?_
      refine rs ?_
      refine rt ?_
      refine jp (pm (ht rfl)) rfl rfl rfl ?_
      obtain ⟨r5, e7, h⟩ := bind_some h
      refine j_call (hc (ht rfl) <| hasL_nil) (by kernel_rfl) (c_wire_New e7) .nil rfl fun b2 => ?_
      refine jp (pa (ht rfl)) rfl rfl rfl ?_
      refine j_end ?_
      refine rs ?_
      refine rs ?_
      refine rt ?_
      refine jp (pm (ht rfl)) rfl rfl rfl ?_
      obtain ⟨r6, e8, h⟩ := bind_some h
      refine j_call (hc (ht rfl) <| hasL_nil) (by kernel_rfl) (c_wire_Reader_U32 e8) (.cons .here <| .nil) rfl fun _ => ?_
      refine jp (pj_uneq (k := .u32) (b := 32) (ht rfl) (has_un (x := 1#32) rfl)) rfl rfl rfl ?_
      refine j_end ?_
      refine run_cond (ht rfl) (fun e9 => ?_) (fun e9 => ?_)
      · replace h := bt e9 h
        refine rs ?_
        refine rt ?_
        refine jp (pa has_bl) rfl rfl rfl ?_
        refine j_end ?_
        obtain rfl := oi h
        exact run_ret fun a w hst => q_ret1 hst rfl (.tmp rfl) () (fun _ _ h => h) (.nil)
      · replace h := bf e9 h
        refine run_skip ?_
        refine rs ?_
        refine rt ?_
        refine jp (pm (ht rfl)) rfl rfl rfl ?_
        refine jp (pm (ht rfl)) rfl rfl rfl ?_
        refine jp (pm (ht rfl)) rfl rfl rfl ?_
        obtain ⟨r7, e10, h⟩ := bind_some h
        refine jp (pj_call (hc (ht rfl) <| hc (ht rfl) <| hasL_nil) (by kernel_rfl) (c_lms_Size hg0 e10)) rfl rfl rfl ?_
        obtain ⟨r8, e11, h⟩ := bind_some h
        refine j_call (hc (ht rfl) <| hc (ht rfl) <| hasL_nil) (by kernel_rfl) (c_wire_Reader_Plain e11) (.cons .here <| .nil) rfl fun _ => ?_
        refine jp (pa (ht rfl)) rfl rfl rfl ?_
        refine j_end ?_
        refine rs ?_
        refine rt ?_
        refine jp (pm (ht rfl)) rfl rfl rfl ?_
        obtain ⟨r9, e12, h⟩ := bind_some h
        refine j_call (hc (ht rfl) <| hc has_i64 <| hasL_nil) (by kernel_rfl) (c_wire_Reader_Plain e12) (.cons .here <| .nil) rfl fun _ => ?_
        refine jp (pa (ht rfl)) rfl rfl rfl ?_
        refine j_end ?_
        refine rs ?_
        refine rt ?_
        refine jp (pm (ht rfl)) rfl rfl rfl ?_
        refine jp (pm (ht rfl)) rfl rfl rfl ?_
        obtain ⟨r10, e13, h⟩ := bind_some h
        refine jp (pj_callR (hc (ht rfl) <| hasL_nil) .here (by kernel_rfl) (fun _ => (c_wire_Reader_Left e13))) rfl rfl rfl ?_
        obtain ⟨r11, e14, h⟩ := bind_some h
        refine j_call (hc (ht rfl) <| hc (ht rfl) <| hasL_nil) (by kernel_rfl) (c_wire_Reader_Plain e14) (.cons .here <| .nil) rfl fun _ => ?_
        refine jp (pa (ht rfl)) rfl rfl rfl ?_
        refine j_end ?_
        refine rs ?_
        refine rt ?_
        refine jp (pm (ht rfl)) rfl rfl rfl ?_
        obtain ⟨r12, e15, h⟩ := bind_some h
        refine jp (pj_callR (hc (ht rfl) <| hasL_nil) .here (by kernel_rfl) (fun _ => (c_wire_Reader_Fails e15))) rfl rfl rfl ?_
        refine jp (pj_not (ht rfl)) rfl rfl rfl ?_
        refine jp (pm (ht rfl)) rfl rfl rfl ?_
        obtain ⟨y1, e17, h⟩ := bind_some h
        refine j_joinx (ι := Unit) (Γ' := fun _ => [(1, (sl u8).slot p_message), (12, (sl u8).slot r9.2), (13, (sl u8).slot r11.2), (53, bl.slot y1)]) (H' := fun _ => []) 6 ?_ fun J => ?_
        · intro _
          clear e17
          show OpsJ _ _ _ [(1, (sl u8).slot p_message), (12, (sl u8).slot r9.2), (13, (sl u8).slot r11.2), (53, bl.slot y1)] [] _
          refine jp (pm (ht rfl)) rfl rfl rfl ?_
          obtain ⟨y2, e21, h⟩ := bind_some h
          refine j_joinx (ι := Unit) (Γ' := fun _ => [(59, bl.slot y2)]) (H' := fun _ => []) 5 ?_ fun J => ?_
          · intro _
            clear e21
            show OpsJ _ _ _ [(59, bl.slot y2)] [] _
            refine jp (pa (ht rfl)) rfl rfl rfl ?_
            refine j_end ?_
            obtain rfl := oi h
            exact run_ret fun a w hst => q_ret1 hst rfl (.tmp rfl) () (fun _ _ h => h) (.nil)
          · rcases bool_tf (y1) with e20 | e20
            · replace e21 := bt e20 e21
              refine jy (pm (ht rfl)) rfl rfl rfl rfl (bl_isx e20) rfl rfl ?_
              refine jy (pm (ht rfl)) rfl rfl rfl rfl (bl_isx e20) rfl rfl ?_
              refine jy (pm (ht rfl)) rfl rfl rfl rfl (bl_isx e20) rfl rfl ?_
              obtain ⟨r14, e22, e21⟩ := bind_some e21
              refine jy (pj_call (hc (ht rfl) <| hc (ht rfl) <| hc (ht rfl) <| hasL_nil) (by kernel_rfl) (c_lms_Verify hg0 hg1 hg2 e22)) rfl rfl rfl rfl (bl_isx e20) rfl rfl ?_
              refine jp (PJ.eqv (R := bl) (pj_pick (t := any) (ht rfl) (fun _ => (ht rfl)) (fun he => absurd (e20.symm.trans he) (by decide))) (oi e21)) rfl rfl rfl ?_
              exact j_to (.cons (.of_lk rfl) <| .nil) (.nil) (J ())
            · replace e21 := bf e20 e21
              refine j_guard_no2 (j := 10) (want := true) rfl rfl rfl rfl (bl_isx e20) rfl rfl rfl ?_
              refine j_guard_no2 (j := 10) (want := true) rfl rfl rfl rfl (bl_isx e20) rfl rfl rfl ?_
              refine j_guard_no2 (j := 10) (want := true) rfl rfl rfl rfl (bl_isx e20) rfl rfl rfl ?_
              refine j_guard_no2 (j := 10) (want := true) rfl rfl rfl rfl (bl_isx e20) rfl rfl rfl ?_
              refine jp (PJ.eqv (R := bl) (pj_pick (t := any) (ht rfl) (fun he => absurd (e20.symm.trans he) (by decide)) (fun _ => has_bl)) (oi e21)) rfl rfl rfl ?_
              exact j_to (.cons (.of_lk rfl) <| .nil) (.nil) (J ())
        · rcases bool_tf (!r12) with e16 | e16
          · replace e17 := bt e16 e17
            refine jy (pm (ht rfl)) rfl rfl rfl rfl (bl_isx e16) rfl rfl ?_
            obtain ⟨x1, e18, e17⟩ := bind_some e17
            refine jy (pj_slice_slx (ht rfl) (.yes has_i64 isInt_i64) .no e18 (by kernel_rfl)) rfl rfl rfl rfl (bl_isx e16) rfl rfl ?_
            refine jy (pm (ht rfl)) rfl rfl rfl rfl (bl_isx e16) rfl rfl ?_
            refine jy (pm (ht rfl)) rfl rfl rfl rfl (bl_isx e16) rfl rfl ?_
            obtain ⟨r13, e19, e17⟩ := bind_some e17
            refine jy (pj_call (hc (ht rfl) <| hc (ht rfl) <| hc (ht rfl) <| hasL_nil) (by kernel_rfl) (c_lms_Verify hg0 hg1 hg2 e19)) rfl rfl rfl rfl (bl_isx e16) rfl rfl ?_
            refine jp (PJ.eqv (R := bl) (pj_pick (t := any) (ht rfl) (fun _ => (ht rfl)) (fun he => absurd (e16.symm.trans he) (by decide))) (oi e17)) rfl rfl rfl ?_
            exact j_to (.cons (.of_lk rfl) <| .cons (.of_lk rfl) <| .cons (.of_lk rfl) <| .cons (.of_lk rfl) <| .nil) (.nil) (J ())
          · replace e17 := bf e16 e17
            refine j_guard_no2 (j := 3) (want := true) rfl rfl rfl rfl (bl_isx e16) rfl rfl rfl ?_
            refine j_guard_no2 (j := 3) (want := true) rfl rfl rfl rfl (bl_isx e16) rfl rfl rfl ?_
            refine j_guard_no2 (j := 3) (want := true) rfl rfl rfl rfl (bl_isx e16) rfl rfl rfl ?_
            refine j_guard_no2 (j := 3) (want := true) rfl rfl rfl rfl (bl_isx e16) rfl rfl rfl ?_
            refine j_guard_no2 (j := 3) (want := true) rfl rfl rfl rfl (bl_isx e16) rfl rfl rfl ?_
            refine jp (PJ.eqv (R := bl) (pj_pick (t := any) (ht rfl) (fun he => absurd (e16.symm.trans he) (by decide)) (fun _ => has_bl)) (oi e17)) rfl rfl rfl ?_
            exact j_to (.cons (.of_lk rfl) <| .cons (.of_lk rfl) <| .cons (.of_lk rfl) <| .cons (.of_lk rfl) <| .nil) (.nil) (J ())
set_option maxRecDepth 100000 in
set_option maxHeartbeats 4000000 in
theorem c_rolodexref04_Bits {G : GP} {p_kind : Int} {r : Int} (h : rolodexref04_Bits p_kind = some r) : Ctr Tryd.prog G 45 [i64.slot p_kind] [] (fun (_ : Unit) => i64.slot r) (fun (_ : Unit) => []) := by
  unfold rolodexref04_Bits at h
  refine ctr_of_run Tryd.func45 rfl 12 rfl rfl fun m0 w0 b0 => ?_
  show Run _ _ _ [(0, i64.slot p_kind)] _
  refine rs ?_
  refine rt ?_
  refine jp (pa has_i64) rfl rfl rfl ?_
  refine j_end ?_
  refine rs ?_
  refine rs ?_
  refine rt ?_
  refine jp (pm (ht rfl)) rfl rfl rfl ?_
  refine j_end ?_
  refine run_block ?_
  refine rs ?_
  refine rs ?_
  refine rt ?_
  refine jp (pj_ieql (ht rfl) has_i64) rfl rfl rfl ?_
  refine jp (pa (ht rfl)) rfl rfl rfl ?_
  refine j_end ?_
  obtain ⟨y1, e2, h⟩ := bind_some h
  refine run_joinx (ι := Unit) (Γ' := fun (_ : Unit) => [(0, i64.slot p_kind), (3, i64.slot p_kind), (4, bl.slot y1)]) (H' := fun (_ : Unit) => []) ?_ fun J => ?_
  · intro _
    clear e2
    show Run _ _ _ [(0, i64.slot p_kind), (3, i64.slot p_kind), (4, bl.slot y1)] []
    refine run_cond (ht rfl) (fun e3 => ?_) (fun e3 => ?_)
    · replace h := bt e3 h
      refine rs ?_
      refine rt ?_
      refine jp (pm (ht rfl)) rfl rfl rfl ?_
      refine jp (pa (ht rfl)) rfl rfl rfl ?_
      refine j_end ?_
      obtain rfl := oi h
      exact run_ret fun a w hst => q_ret1 hst rfl (.tmp rfl) () (fun _ _ h => h) (.nil)
    · replace h := bf e3 h
      refine rs ?_
      refine rt ?_
      refine jp (pj_ieql (ht rfl) has_i64) rfl rfl rfl ?_
      refine jp (pa (ht rfl)) rfl rfl rfl ?_
      refine j_end ?_
      refine run_cond (ht rfl) (fun e4 => ?_) (fun e4 => ?_)
      · replace h := bt e4 h
        refine rs ?_
        refine rt ?_
        refine jp (pa has_i64) rfl rfl rfl ?_
        refine j_end ?_
        obtain rfl := oi h
        exact run_ret fun a w hst => q_ret1 hst rfl (.tmp rfl) () (fun _ _ h => h) (.nil)
      · replace h := bf e4 h
        refine rs ?_
        refine rt ?_
        refine jp (pj_ieql (ht rfl) has_i64) rfl rfl rfl ?_
        refine jp (pa (ht rfl)) rfl rfl rfl ?_
        refine j_end ?_
        refine run_cond (ht rfl) (fun e5 => ?_) (fun e5 => ?_)
        · replace h := bt e5 h
          refine rs ?_
          refine rt ?_
          refine jp (pa has_i64) rfl rfl rfl ?_
          refine j_end ?_
          obtain rfl := oi h
          exact run_ret fun a w hst => q_ret1 hst rfl (.tmp rfl) () (fun _ _ h => h) (.nil)
        · replace h := bf e5 h
          refine run_skip ?_
          refine run_endblock ?_
          refine rs ?_
          refine rt ?_
          refine jp (pa has_i64) rfl rfl rfl ?_
          refine j_end ?_
          obtain rfl := oi h
          exact run_ret fun a w hst => q_ret1 hst rfl (.tmp rfl) () (fun _ _ h => h) (.nil)
  · refine run_cond (ht rfl) (fun e1 => ?_) (fun e1 => ?_)
    · replace h := bt e1 e2
      refine run_skip ?_
      obtain rfl := oi h
      exact run_to (.cons (.of_lk rfl) <| .cons (.of_lk rfl) <| .cons (.of_lk rfl) <| .nil) (.nil) (J ())
    · replace h := bf e1 e2
      refine rt ?_
      refine jp (pj_ieql (ht rfl) has_i64) rfl rfl rfl ?_
      refine jp (pa (ht rfl)) rfl rfl rfl ?_
      refine j_end ?_
      obtain rfl := oi h
      exact run_to (.cons (.of_lk rfl) <| .cons (.of_lk rfl) <| .cons (.of_lk rfl) <| .nil) (.nil) (J ())
set_option maxRecDepth 100000 in
set_option maxHeartbeats 4000000 in
theorem c_rolodexref05_Keys {G : GP} {p_height : Int} {p_kind : Int} {r : Int} (h : rolodexref05_Keys p_height p_kind = some r) : Ctr Tryd.prog G 18 [i64.slot p_height, i64.slot p_kind] [] (fun (_ : Unit) => i64.slot r) (fun (_ : Unit) => []) := by
  unfold rolodexref05_Keys at h
  refine ctr_of_run Tryd.func18 rfl 26 rfl rfl fun m0 w0 b0 => ?_
  show Run _ _ _ [(0, i64.slot p_height), (1, i64.slot p_kind)] _
  refine rs ?_
  refine rt ?_
  refine jp (pa has_i64) rfl rfl rfl ?_
  refine j_end ?_
  refine rs ?_
  refine rs ?_
  refine rt ?_
  refine jp (pm (ht rfl)) rfl rfl rfl ?_
  refine jp (pj_ilss (ht rfl) has_i64) rfl rfl rfl ?_
  refine jp (pm (ht rfl)) rfl rfl rfl ?_
  obtain ⟨y1, e2, h⟩ := bind_some h
  refine j_joinx (ι := Unit) (Γ' := fun _ => [(0, i64.slot p_height), (1, i64.slot p_kind), (12, bl.slot y1)]) (H' := fun _ => []) 3 ?_ fun J => ?_
  · intro _
    clear e2
    show OpsJ _ _ _ [(0, i64.slot p_height), (1, i64.slot p_kind), (12, bl.slot y1)] [] _
    refine jp (pm (ht rfl)) rfl rfl rfl ?_
    obtain ⟨y2, e4, h⟩ := bind_some h
    refine j_joinx (ι := Unit) (Γ' := fun _ => [(0, i64.slot p_height), (17, bl.slot y2)]) (H' := fun _ => []) 4 ?_ fun J => ?_
    · intro _
      clear e4
      show OpsJ _ _ _ [(0, i64.slot p_height), (17, bl.slot y2)] [] _
      refine j_end ?_
      refine run_cond (ht rfl) (fun e6 => ?_) (fun e6 => ?_)
      · replace h := bt e6 h
        refine rs ?_
        refine rt ?_
        refine jp (pa has_i64) rfl rfl rfl ?_
        refine j_end ?_
        obtain rfl := oi h
        exact run_ret fun a w hst => q_ret1 hst rfl (.tmp rfl) () (fun _ _ h => h) (.nil)
      · replace h := bf e6 h
        refine run_skip ?_
        refine rs ?_
        refine rt ?_
        refine jp (pa has_i64) rfl rfl rfl ?_
        refine j_end ?_
        refine rs ?_
        refine rs ?_
        refine rt ?_
        refine jp (pa has_i64) rfl rfl rfl ?_
        refine j_end ?_
        obtain ⟨⟨y5, y6⟩, e8, h⟩ := bind_some h
        refine run_loopS (Γi := fun (i : Unit) (s : Int × Int) => [(0, i64.slot p_height), (5, i64.slot s.1), (6, i64.slot s.2)]) (Hi := fun (i : Unit) (s : Int × Int) => []) e8 () (fun a w hst => (hst.sub (.cons (.of_lk rfl) <| .cons (.of_lk rfl) <| .cons (.of_lk rfl) <| .nil)).keep (.nil)) ?_ ?_
        · clear h e8
          rintro _ ⟨y3, y4⟩ lr h
          change rolodexref05_Keys_L1 p_height y3 y4 = some _ at h
          show Run _ _ _ [(0, i64.slot p_height), (5, i64.slot y3), (6, i64.slot y4)] []
          unfold rolodexref05_Keys_L1 at h
          refine rs ?_
          refine rs ?_
          refine rt ?_
          refine jp (pm (ht rfl)) rfl rfl rfl ?_
          refine jp (pm (ht rfl)) rfl rfl rfl ?_
          refine jp (pj_ilss (ht rfl) (ht rfl)) rfl rfl rfl ?_
          refine j_end ?_
          refine run_cond (ht rfl) (fun e7 => ?_) (fun e7 => ?_)
          · replace h := bt e7 h
            refine run_skip ?_
            refine rs ?_
            refine run_block ?_
            refine rt ?_
            refine jp (pm (ht rfl)) rfl rfl rfl ?_
            refine jp (pj_imul has_i64 (ht rfl)) rfl rfl rfl ?_
            refine jp (pa (ht rfl)) rfl rfl rfl ?_
            refine j_end ?_
            refine run_endblock ?_
            refine rt ?_
            refine jp (pm (ht rfl)) rfl rfl rfl ?_
            refine jp (pj_iadd (ht rfl) has_i64) rfl rfl rfl ?_
            refine jp (pa (ht rfl)) rfl rfl rfl ?_
            refine j_end ?_
            obtain rfl := oi h
            exact run_next () (.cons (.of_lk rfl) <| .cons (.of_lk rfl) <| .cons (.of_lk rfl) <| .nil) (.nil)
          · replace h := bf e7 h
            obtain rfl := oi h
            exact run_brk () (.cons (.of_lk rfl) <| .cons (.of_lk rfl) <| .cons (.of_lk rfl) <| .nil) (.nil)
        · rintro _
          show Run _ _ _ [(0, i64.slot p_height), (5, i64.slot y5), (6, i64.slot y6)] []
          refine run_to (Γ' := [(5, i64.slot y5)]) (H' := []) (.cons (.of_lk rfl) <| .nil) (.nil) ?_
          refine rs ?_
          refine rt ?_
          refine jp (pm (ht rfl)) rfl rfl rfl ?_
          refine jp (pa (ht rfl)) rfl rfl rfl ?_
          refine j_end ?_
          obtain rfl := oi h
          exact run_ret fun a w hst => q_ret1 hst rfl (.tmp rfl) () (fun _ _ h => h) (.nil)
    · rcases bool_tf (y1) with e3 | e3
      · replace e4 := bt e3 e4
        refine j_guard_no2 (j := 6) (want := false) rfl rfl rfl rfl (bl_isx e3) rfl rfl rfl ?_
        refine j_guard_no2 (j := 6) (want := false) rfl rfl rfl rfl (bl_isx e3) rfl rfl rfl ?_
        refine j_guard_no2 (j := 6) (want := false) rfl rfl rfl rfl (bl_isx e3) rfl rfl rfl ?_
        refine jp (PJ.eqv (R := bl) (pj_pick (t := any) (ht rfl) (fun _ => has_bl) (fun he => absurd (e3.symm.trans he) (by decide))) (oi e4)) rfl rfl rfl ?_
        exact j_to (.cons (.of_lk rfl) <| .cons (.of_lk rfl) <| .nil) (.nil) (J ())
      · replace e4 := bf e3 e4
        refine jy (pm (ht rfl)) rfl rfl rfl rfl (bl_isx e3) rfl rfl ?_
        obtain ⟨r1, e5, e4⟩ := bind_some e4
        refine jy (pj_call (hc (ht rfl) <| hasL_nil) (by kernel_rfl) (c_rolodexref04_Bits e5)) rfl rfl rfl rfl (bl_isx e3) rfl rfl ?_
        refine jy (pj_ieql (ht rfl) has_i64) rfl rfl rfl rfl (bl_isx e3) rfl rfl ?_
        refine jp (PJ.eqv (R := bl) (pj_pick (t := any) (ht rfl) (fun he => absurd (e3.symm.trans he) (by decide)) (fun _ => (ht rfl))) (oi e4)) rfl rfl rfl ?_
        exact j_to (.cons (.of_lk rfl) <| .cons (.of_lk rfl) <| .nil) (.nil) (J ())
  · rcases bool_tf (decide (p_height < (1 : Int))) with e1 | e1
    · replace e2 := bt e1 e2
      refine j_guard_no2 (j := 2) (want := false) rfl rfl rfl rfl (bl_isx e1) rfl rfl rfl ?_
      refine j_guard_no2 (j := 2) (want := false) rfl rfl rfl rfl (bl_isx e1) rfl rfl rfl ?_
      refine jp (PJ.eqv (R := bl) (pj_pick (t := any) (ht rfl) (fun _ => has_bl) (fun he => absurd (e1.symm.trans he) (by decide))) (oi e2)) rfl rfl rfl ?_
      exact j_to (.cons (.of_lk rfl) <| .cons (.of_lk rfl) <| .cons (.of_lk rfl) <| .nil) (.nil) (J ())
    · replace e2 := bf e1 e2
      refine jy (pm (ht rfl)) rfl rfl rfl rfl (bl_isx e1) rfl rfl ?_
      refine jy (pj_igtr (ht rfl) has_i64) rfl rfl rfl rfl (bl_isx e1) rfl rfl ?_
      refine jp (PJ.eqv (R := bl) (pj_pick (t := any) (ht rfl) (fun he => absurd (e1.symm.trans he) (by decide)) (fun _ => (ht rfl))) (oi e2)) rfl rfl rfl ?_
      exact j_to (.cons (.of_lk rfl) <| .cons (.of_lk rfl) <| .cons (.of_lk rfl) <| .nil) (.nil) (J ())
set_option maxRecDepth 100000 in
set_option maxHeartbeats 4000000 in
theorem c_rolodexref04_Chains {G : GP} {p_kind : Int} {r : Int} (h : rolodexref04_Chains p_kind = some r) : Ctr Tryd.prog G 75 [i64.slot p_kind] [] (fun (_ : Unit) => i64.slot r) (fun (_ : Unit) => []) := by
  unfold rolodexref04_Chains at h
  refine ctr_of_run Tryd.func75 rfl 12 rfl rfl fun m0 w0 b0 => ?_
  show Run _ _ _ [(0, i64.slot p_kind)] _
  refine rs ?_
  refine rt ?_
  refine jp (pa has_i64) rfl rfl rfl ?_
  refine j_end ?_
  refine rs ?_
  refine rs ?_
  refine rt ?_
  refine jp (pm (ht rfl)) rfl rfl rfl ?_
  refine j_end ?_
  refine run_block ?_
  refine rs ?_
  refine rt ?_
  refine jp (pj_ieql (ht rfl) has_i64) rfl rfl rfl ?_
  refine jp (pa (ht rfl)) rfl rfl rfl ?_
  refine j_end ?_
  refine run_cond (ht rfl) (fun e1 => ?_) (fun e1 => ?_)
  · replace h := bt e1 h
    refine rs ?_
    refine rt ?_
    refine jp (pa has_i64) rfl rfl rfl ?_
    refine j_end ?_
    obtain rfl := oi h
    exact run_ret fun a w hst => q_ret1 hst rfl (.tmp rfl) () (fun _ _ h => h) (.nil)
  · replace h := bf e1 h
    refine rs ?_
    refine rt ?_
    refine jp (pj_ieql (ht rfl) has_i64) rfl rfl rfl ?_
    refine jp (pa (ht rfl)) rfl rfl rfl ?_
    refine j_end ?_
    refine run_cond (ht rfl) (fun e2 => ?_) (fun e2 => ?_)
    · replace h := bt e2 h
      refine rs ?_
      refine rt ?_
      refine jp (pa has_i64) rfl rfl rfl ?_
      refine j_end ?_
      obtain rfl := oi h
      exact run_ret fun a w hst => q_ret1 hst rfl (.tmp rfl) () (fun _ _ h => h) (.nil)
    · replace h := bf e2 h
      refine rs ?_
      refine rt ?_
      refine jp (pj_ieql (ht rfl) has_i64) rfl rfl rfl ?_
      refine jp (pa (ht rfl)) rfl rfl rfl ?_
      refine j_end ?_
      refine run_cond (ht rfl) (fun e3 => ?_) (fun e3 => ?_)
      · replace h := bt e3 h
        refine rs ?_
        refine rt ?_
        refine jp (pa has_i64) rfl rfl rfl ?_
        refine j_end ?_
        obtain rfl := oi h
        exact run_ret fun a w hst => q_ret1 hst rfl (.tmp rfl) () (fun _ _ h => h) (.nil)
      · replace h := bf e3 h
        refine rs ?_
        refine rt ?_
        refine jp (pj_ieql (ht rfl) has_i64) rfl rfl rfl ?_
        refine jp (pa (ht rfl)) rfl rfl rfl ?_
        refine j_end ?_
        refine run_cond (ht rfl) (fun e4 => ?_) (fun e4 => ?_)
        · replace h := bt e4 h
          refine rs ?_
          refine rt ?_
          refine jp (pa has_i64) rfl rfl rfl ?_
          refine j_end ?_
          obtain rfl := oi h
          exact run_ret fun a w hst => q_ret1 hst rfl (.tmp rfl) () (fun _ _ h => h) (.nil)
        · replace h := bf e4 h
          refine run_skip ?_
          refine run_endblock ?_
          refine rs ?_
          refine rt ?_
          refine jp (pa has_i64) rfl rfl rfl ?_
          refine j_end ?_
          obtain rfl := oi h
          exact run_ret fun a w hst => q_ret1 hst rfl (.tmp rfl) () (fun _ _ h => h) (.nil)
set_option maxRecDepth 100000 in
set_option maxHeartbeats 4000000 in
theorem c_rolodexref04_Size {G : GP} {p_kind : Int} {r : Int} (h : rolodexref04_Size p_kind = some r) : Ctr Tryd.prog G 44 [i64.slot p_kind] [] (fun (_ : Unit) => i64.slot r) (fun (_ : Unit) => []) := by
  unfold rolodexref04_Size at h
  refine ctr_of_run Tryd.func44 rfl 10 rfl rfl fun m0 w0 b0 => ?_
  show Run _ _ _ [(0, i64.slot p_kind)] _
  refine rs ?_
  refine rt ?_
  refine jp (pa has_i64) rfl rfl rfl ?_
  refine j_end ?_
  refine rs ?_
  refine rs ?_
  refine rt ?_
  refine jp (pm (ht rfl)) rfl rfl rfl ?_
  obtain ⟨r1, e1, h⟩ := bind_some h
  refine jp (pj_call (hc (ht rfl) <| hasL_nil) (by kernel_rfl) (c_rolodexref04_Bits e1)) rfl rfl rfl ?_
  refine jp (pj_ieql (ht rfl) has_i64) rfl rfl rfl ?_
  refine j_end ?_
  refine run_cond (ht rfl) (fun e2 => ?_) (fun e2 => ?_)
  · replace h := bt e2 h
    refine rs ?_
    refine rt ?_
    refine jp (pa has_i64) rfl rfl rfl ?_
    refine j_end ?_
    obtain rfl := oi h
    exact run_ret fun a w hst => q_ret1 hst rfl (.tmp rfl) () (fun _ _ h => h) (.nil)
  · replace h := bf e2 h
    refine run_skip ?_
    refine rs ?_
    refine rt ?_
    refine jp (pm (ht rfl)) rfl rfl rfl ?_
    obtain ⟨r2, e3, h⟩ := bind_some h
    refine jp (pj_call (hc (ht rfl) <| hasL_nil) (by kernel_rfl) (c_rolodexref04_Chains e3)) rfl rfl rfl ?_
    refine jp (pj_imul has_i64 (ht rfl)) rfl rfl rfl ?_
    refine jp (pj_iadd has_i64 (ht rfl)) rfl rfl rfl ?_
    obtain ⟨x1, e4, h⟩ := bind_some h
    refine jp (PJ.eqv (pa (ht rfl)) (oi e4)) rfl rfl rfl ?_
    refine j_end ?_
    obtain rfl := oi h
    exact run_ret fun a w hst => q_ret1 hst rfl (.tmp rfl) () (fun _ _ h => h) (.nil)
set_option maxRecDepth 100000 in
set_option maxHeartbeats 4000000 in
theorem c_rolodexref05_Size {G : GP} {p_height : Int} {p_kind : Int} {r : Int} (h : rolodexref05_Size p_height p_kind = some r) : Ctr Tryd.prog G 17 [i64.slot p_height, i64.slot p_kind] [] (fun (_ : Unit) => i64.slot r) (fun (_ : Unit) => []) := by
  unfold rolodexref05_Size at h
  refine ctr_of_run Tryd.func17 rfl 16 rfl rfl fun m0 w0 b0 => ?_
  show Run _ _ _ [(0, i64.slot p_height), (1, i64.slot p_kind)] _
  refine rs ?_
  refine rt ?_
  refine jp (pa has_i64) rfl rfl rfl ?_
  refine j_end ?_
  refine rs ?_
  refine rs ?_
  refine rt ?_
  refine jp (pm (ht rfl)) rfl rfl rfl ?_
  refine jp (pm (ht rfl)) rfl rfl rfl ?_
  obtain ⟨r1, e1, h⟩ := bind_some h
  refine jp (pj_call (hc (ht rfl) <| hc (ht rfl) <| hasL_nil) (by kernel_rfl) (c_rolodexref05_Keys e1)) rfl rfl rfl ?_
  refine jp (pj_ieql (ht rfl) has_i64) rfl rfl rfl ?_
  refine j_end ?_
  refine run_cond (ht rfl) (fun e2 => ?_) (fun e2 => ?_)
  · replace h := bt e2 h
    refine rs ?_
    refine rt ?_
    refine jp (pa has_i64) rfl rfl rfl ?_
    refine j_end ?_
    obtain rfl := oi h
    exact run_ret fun a w hst => q_ret1 hst rfl (.tmp rfl) () (fun _ _ h => h) (.nil)
  · replace h := bf e2 h
    refine run_skip ?_
    refine rs ?_
    refine rt ?_
    refine jp (pm (ht rfl)) rfl rfl rfl ?_
    obtain ⟨r2, e3, h⟩ := bind_some h
    refine jp (pj_call (hc (ht rfl) <| hasL_nil) (by kernel_rfl) (c_rolodexref04_Size e3)) rfl rfl rfl ?_
    refine jp (pj_iadd has_i64 (ht rfl)) rfl rfl rfl ?_
    refine jp (pj_iadd (ht rfl) has_i64) rfl rfl rfl ?_
    refine jp (pm (ht rfl)) rfl rfl rfl ?_
    refine jp (pj_imul has_i64 (ht rfl)) rfl rfl rfl ?_
    refine jp (pj_iadd (ht rfl) (ht rfl)) rfl rfl rfl ?_
    obtain ⟨x1, e4, h⟩ := bind_some h
    refine jp (PJ.eqv (pa (ht rfl)) (oi e4)) rfl rfl rfl ?_
    refine j_end ?_
    obtain rfl := oi h
    exact run_ret fun a w hst => q_ret1 hst rfl (.tmp rfl) () (fun _ _ h => h) (.nil)
set_option maxRecDepth 100000 in
set_option maxHeartbeats 4000000 in
theorem c_rolodexref01_Same {G : GP} {p_a : List (BitVec 8)} {p_b : List (BitVec 8)} {r : Bool} (h : rolodexref01_Same p_a p_b = some r) : Ctr Tryd.prog G 22 [(sl u8).slot p_a, (sl u8).slot p_b] [] (fun (_ : Unit) => bl.slot r) (fun (_ : Unit) => []) := by
  unfold rolodexref01_Same at h
  refine ctr_of_run Tryd.func22 rfl 26 rfl rfl fun m0 w0 b0 => ?_
  refine run_ret0 fun Qf hq1 hq2 => ?_
  show Run _ _ _ [(0, (sl u8).slot p_a), (1, (sl u8).slot p_b)] _
  refine rs ?_
  refine rt ?_
  refine jp (pa has_bl) rfl rfl rfl ?_
  refine j_end ?_
  refine rs ?_
  refine rs ?_
  refine rt ?_
  refine jp (pm (ht rfl)) rfl rfl rfl ?_
  refine jp (pj_len_sl (sz := 1) (ht rfl) (by kernel_rfl)) rfl rfl rfl ?_
  refine jp (pm (ht rfl)) rfl rfl rfl ?_
  refine jp (pj_len_sl (sz := 1) (ht rfl) (by kernel_rfl)) rfl rfl rfl ?_
  refine jp (pj_ineq (ht rfl) (ht rfl)) rfl rfl rfl ?_
  refine j_end ?_
  refine run_cond (ht rfl) (fun e1 => ?_) (fun e1 => ?_)
  · replace h := bt e1 h
    refine rs ?_
    refine rt ?_
    refine jp (pa has_bl) rfl rfl rfl ?_
    refine j_end ?_
    obtain rfl := oi h
    exact run_ret fun a w hst => q_ret1 hst rfl (.tmp rfl) () (fun _ _ h => h) (.nil)
  · replace h := bf e1 h
    refine run_skip ?_
    refine rs ?_
    refine rs ?_
    refine rt ?_
    refine jp (pa has_i64) rfl rfl rfl ?_
    refine j_end ?_
    obtain ⟨o, e6, h⟩ := bind_some h
    refine run_loop (Γi := fun (i : Unit) (s : Int) => [(0, (sl u8).slot p_a), (1, (sl u8).slot p_b), (5, i64.slot s)]) (Hi := fun (i : Unit) (s : Int) => []) (R := fun x a w => x = r → Qf a w) e6 () (fun a w hst => (hst.sub (.cons (.of_lk rfl) <| .cons (.of_lk rfl) <| .cons (.of_lk rfl) <| .nil)).keep (.nil)) ?_ ?_ ?_
    · clear h e6
      rintro _ y1 lr h
      change rolodexref01_Same_L1 p_a p_b y1 = some _ at h
      show Run _ _ _ [(0, (sl u8).slot p_a), (1, (sl u8).slot p_b), (5, i64.slot y1)] []
      unfold rolodexref01_Same_L1 at h
      refine rs ?_
      refine rs ?_
      refine rt ?_
      refine jp (pm (ht rfl)) rfl rfl rfl ?_
      refine jp (pm (ht rfl)) rfl rfl rfl ?_
      refine jp (pj_len_sl (sz := 1) (ht rfl) (by kernel_rfl)) rfl rfl rfl ?_
      refine jp (pj_ilss (ht rfl) (ht rfl)) rfl rfl rfl ?_
      refine j_end ?_
      refine run_cond (ht rfl) (fun e2 => ?_) (fun e2 => ?_)
      · replace h := bt e2 h
        refine run_skip ?_
        refine rs ?_
        refine run_block ?_
        refine rs ?_
        obtain ⟨x1, e3, h⟩ := bind_some h
        obtain ⟨x2, e4, h⟩ := bind_some h
        refine run_draw (n := 8) (by kernel_rfl) (by kernel_rfl) (by kernel_rfl) (by kernel_rfl) (.read (.plain rfl (pm (ht rfl))) <| .read (.plain rfl (pm (ht rfl))) <| .read (.plain rfl (pj_index_slx (ht rfl) (ht rfl) isInt_i64 e3 (by kernel_rfl))) <| .read (.plain rfl (pl (ht rfl) (by kernel_rfl))) <| .read (.plain rfl (pm (ht rfl))) <| .read (.plain rfl (pm (ht rfl))) <| .read (.plain rfl (pj_index_slx (ht rfl) (ht rfl) isInt_i64 e4 (by kernel_rfl))) <| .read (.plain rfl (pl (ht rfl) (by kernel_rfl))) <| .nil) (j_to (Γ' := [(0, (sl u8).slot p_a), (1, (sl u8).slot p_b), (5, i64.slot y1), (20, u8.slot x1), (24, u8.slot x2)]) (H' := []) (.cons (.of_lk rfl) <| .cons (.of_lk rfl) <| .cons (.of_lk rfl) <| .cons (.of_lk rfl) <| .cons (.of_lk rfl) <| .nil) (.nil) ?_)
        refine jp (pj_uneq (k := .u8) (b := 8) (ht rfl) (ht rfl)) rfl rfl rfl ?_
        refine j_end ?_
        refine run_cond (ht rfl) (fun e5 => ?_) (fun e5 => ?_)
        · replace h := bt e5 h
          refine rs ?_
          refine rt ?_
          refine jp (pa has_bl) rfl rfl rfl ?_
          refine j_end ?_
          obtain rfl := oi h
          refine run_ret fun a w hst => ⟨rfl, fun hr => ?_⟩
          subst hr
          exact hq2 a w (q_ret1 hst rfl (.tmp rfl) () (fun _ _ h => h) (.nil))
        · replace h := bf e5 h
          refine run_skip ?_
          refine run_endblock ?_
          refine rt ?_
          refine jp (pm (ht rfl)) rfl rfl rfl ?_
          refine jp (pj_iadd (ht rfl) has_i64) rfl rfl rfl ?_
          refine jp (pa (ht rfl)) rfl rfl rfl ?_
          refine j_end ?_
          obtain rfl := oi h
          exact run_next () (.cons (.of_lk rfl) <| .cons (.of_lk rfl) <| .cons (.of_lk rfl) <| .nil) (.nil)
      · replace h := bf e2 h
        obtain rfl := oi h
        exact run_brk () (.cons (.of_lk rfl) <| .cons (.of_lk rfl) <| .cons (.of_lk rfl) <| .nil) (.nil)
    · rintro _ y2 ho
      subst ho
      show Run _ _ _ [(0, (sl u8).slot p_a), (1, (sl u8).slot p_b), (5, i64.slot y2)] []
      refine run_to (Γ' := []) (H' := []) (.nil) (.nil) ?_
      refine rs ?_
      refine rt ?_
      refine jp (pa has_bl) rfl rfl rfl ?_
      refine j_end ?_
      obtain rfl := oi h
      exact run_ret fun a w hst => q_ret1 hst rfl (.tmp rfl) () (fun _ _ h => h) (.nil)
    · intro x a w ho hR
      subst ho
      exact hq1 a w (hR (oi h))
set_option maxRecDepth 100000 in
set_option maxHeartbeats 4000000 in
theorem c_rolodexref01_Value {G : GP} {p_b : List (BitVec 8)} {r : (BitVec 64)} (h : rolodexref01_Value p_b = some r) : Ctr Tryd.prog G 66 [(sl u8).slot p_b] [] (fun (_ : Unit) => u64.slot r) (fun (_ : Unit) => []) := by
  unfold rolodexref01_Value at h
  refine ctr_of_run Tryd.func66 rfl 20 rfl rfl fun m0 w0 b0 => ?_
  show Run _ _ _ [(0, (sl u8).slot p_b)] _
  refine rs ?_
  refine rt ?_
  refine jp (pa (has_un (x := 0#64) rfl)) rfl rfl rfl ?_
  refine j_end ?_
  refine rs ?_
  refine rt ?_
  refine jp (pa (has_un (x := 0#64) rfl)) rfl rfl rfl ?_
  refine j_end ?_
  refine rs ?_
  refine rs ?_
  refine rt ?_
  refine jp (pa has_i64) rfl rfl rfl ?_
  refine j_end ?_
  obtain ⟨⟨y3, y4⟩, e3, h⟩ := bind_some h
  refine run_loopS (Γi := fun (i : Unit) (s : (BitVec 64) × Int) => [(0, (sl u8).slot p_b), (3, u64.slot s.1), (4, i64.slot s.2)]) (Hi := fun (i : Unit) (s : (BitVec 64) × Int) => []) e3 () (fun a w hst => (hst.sub (.cons (.of_lk rfl) <| .cons (.of_lk rfl) <| .cons (.of_lk rfl) <| .nil)).keep (.nil)) ?_ ?_
  · clear h e3
    rintro _ ⟨y1, y2⟩ lr h
    change rolodexref01_Value_L1 p_b y1 y2 = some _ at h
    show Run _ _ _ [(0, (sl u8).slot p_b), (3, u64.slot y1), (4, i64.slot y2)] []
    unfold rolodexref01_Value_L1 at h
    refine rs ?_
    refine rs ?_
    refine rt ?_
    refine jp (pm (ht rfl)) rfl rfl rfl ?_
    refine jp (pm (ht rfl)) rfl rfl rfl ?_
    refine jp (pj_len_sl (sz := 1) (ht rfl) (by kernel_rfl)) rfl rfl rfl ?_
    refine jp (pj_ilss (ht rfl) (ht rfl)) rfl rfl rfl ?_
    refine j_end ?_
    refine run_cond (ht rfl) (fun e1 => ?_) (fun e1 => ?_)
    · replace h := bt e1 h
      refine run_skip ?_
      refine rs ?_
      refine run_block ?_
      refine rt ?_
      refine jp (pm (ht rfl)) rfl rfl rfl ?_
      refine jp (pj_umul (k := .u64) (b := 64) rfl rfl (ht rfl) (has_un (x := 256#64) rfl)) rfl rfl rfl ?_
      refine jp (pm (ht rfl)) rfl rfl rfl ?_
      refine jp (pm (ht rfl)) rfl rfl rfl ?_
      obtain ⟨x1, e2, h⟩ := bind_some h
      refine jp (pj_index_slx (ht rfl) (ht rfl) isInt_i64 e2 (by kernel_rfl)) rfl rfl rfl ?_
      refine jp (pl (ht rfl) (by kernel_rfl)) rfl rfl rfl ?_
      refine jp (pj_conv_uu (k := .u64) (b := 64) rfl rfl (by kernel_rfl) (ht rfl)) rfl rfl rfl ?_
      refine jp (pj_uadd (k := .u64) (b := 64) rfl rfl (ht rfl) (ht rfl)) rfl rfl rfl ?_
      refine jp (pa (ht rfl)) rfl rfl rfl ?_
      refine j_end ?_
      refine run_endblock ?_
      refine rt ?_
      refine jp (pm (ht rfl)) rfl rfl rfl ?_
      refine jp (pj_iadd (ht rfl) has_i64) rfl rfl rfl ?_
      refine jp (pa (ht rfl)) rfl rfl rfl ?_
      refine j_end ?_
      obtain rfl := oi h
      exact run_next () (.cons (.of_lk rfl) <| .cons (.of_lk rfl) <| .cons (.of_lk rfl) <| .nil) (.nil)
    · replace h := bf e1 h
      obtain rfl := oi h
      exact run_brk () (.cons (.of_lk rfl) <| .cons (.of_lk rfl) <| .cons (.of_lk rfl) <| .nil) (.nil)
  · rintro _
    show Run _ _ _ [(0, (sl u8).slot p_b), (3, u64.slot y3), (4, i64.slot y4)] []
    refine run_to (Γ' := [(3, u64.slot y3)]) (H' := []) (.cons (.of_lk rfl) <| .nil) (.nil) ?_
    refine rs ?_
    refine rt ?_
    refine jp (pm (ht rfl)) rfl rfl rfl ?_
    refine jp (pa (ht rfl)) rfl rfl rfl ?_
    refine j_end ?_
    obtain rfl := oi h
    exact run_ret fun a w hst => q_ret1 hst rfl (.tmp rfl) () (fun _ _ h => h) (.nil)
set_option maxRecDepth 100000 in
set_option maxHeartbeats 4000000 in
theorem c_rolodexref01_Number {G : GP} {p_x : BitVec 64} {p_bytes : Int} {r : (List (BitVec 8))} (h : rolodexref01_Number p_x p_bytes = some r) : Ctr Tryd.prog G 53 [u64.slot p_x, i64.slot p_bytes] [] (fun (u0 : Value) => ov u0) (fun (u0 : Value) => [own 5 u8 u0 r]) := by
  unfold rolodexref01_Number at h
  refine ctr_of_run Tryd.func53 rfl 36 rfl rfl fun m0 w0 b0 => ?_
  show Run _ _ _ [(0, u64.slot p_x), (1, i64.slot p_bytes)] _
  refine rs ?_
  refine rt ?_
  refine j_assign_nil (T := 5) u8 rfl fun v1 => ?_
  refine j_end ?_
  refine rs ?_
  refine rt ?_
  refine j_assign_nil (T := 5) u8 rfl fun v2 => ?_
  refine j_assign_nil (T := 5) u8 rfl fun v3 => ?_
  refine j_end ?_
  refine rs ?_
  refine rs ?_
  refine rt ?_
  refine jp (pa has_i64) rfl rfl rfl ?_
  refine j_end ?_
  obtain ⟨⟨y4, y5, y6⟩, e3, h⟩ := bind_some h
  refine run_loopS (Γi := fun (i : Value) (s : (BitVec 64) × Int × (List (BitVec 8))) => [(0, u64.slot s.1), (1, i64.slot p_bytes), (5, ov i), (6, ov v3), (7, i64.slot s.2.1)]) (Hi := fun (i : Value) (s : (BitVec 64) × Int × (List (BitVec 8))) => [own 5 u8 v3 ([] : List (BitVec 8)), own 5 u8 i s.2.2]) e3 v2 (fun a w hst => (hst.sub (.cons (.of_lk rfl) <| .cons (.of_lk rfl) <| .cons (.of_lk rfl) <| .cons (.of_lk rfl) <| .cons (.of_lk rfl) <| .nil)).keep (.cons .here <| .cons .here <| .nil)) ?_ ?_
  · clear h e3
    rintro v4 ⟨y1, y2, y3⟩ lr h
    change rolodexref01_Number_L1 p_bytes y1 y2 y3 = some _ at h
    show Run _ _ _ [(0, u64.slot y1), (1, i64.slot p_bytes), (5, ov v4), (6, ov v3), (7, i64.slot y2)] [own 5 u8 v3 ([] : List (BitVec 8)), own 5 u8 v4 y3]
    unfold rolodexref01_Number_L1 at h
    refine rs ?_
    refine rs ?_
    refine rt ?_
    refine jp (pm (ht rfl)) rfl rfl rfl ?_
    refine jp (pm (ht rfl)) rfl rfl rfl ?_
    refine jp (pj_ilss (ht rfl) (ht rfl)) rfl rfl rfl ?_
    refine j_end ?_
    refine run_cond (ht rfl) (fun e1 => ?_) (fun e1 => ?_)
    · replace h := bt e1 h
      refine run_skip ?_
      refine rs ?_
      refine run_block ?_
      refine rs ?_
      refine rt ?_
      refine jp (pm (ht rfl)) rfl rfl rfl ?_
      refine jp (pm (ht rfl)) rfl rfl rfl ?_
      refine jp (pj_urem (k := .u64) (b := 64) (ht rfl) (has_un (x := 256#64) rfl) (by decide)) rfl rfl rfl ?_
      refine jp (pj_conv_uu (k := .u8) (b := 8) rfl rfl (by kernel_rfl) (ht rfl)) rfl rfl rfl ?_
      refine jp (pj_buildSlice (T := 5) (R := u8) (.cons (ht rfl) .nil) rfl (by kernel_rfl) (by kernel_rfl)) rfl rfl rfl ?_
      obtain ⟨e2, h⟩ := grd_some h
      refine j_append (T := 5) (E := 5) (ht rfl) (.next .here) (src_data (ht rfl)) (by kernel_rfl) (by kernel_rfl) e2 rfl fun v5 => ?_
      refine jp (pa (ht rfl)) rfl rfl rfl ?_
      refine j_end ?_
      refine rt ?_
      refine jp (pm (ht rfl)) rfl rfl rfl ?_
      refine jp (pj_uquo (k := .u64) (b := 64) rfl rfl (ht rfl) (has_un (x := 256#64) rfl) (by decide)) rfl rfl rfl ?_
      refine jp (pa (ht rfl)) rfl rfl rfl ?_
      refine j_end ?_
      refine run_endblock ?_
      refine rt ?_
      refine jp (pm (ht rfl)) rfl rfl rfl ?_
      refine jp (pj_iadd (ht rfl) has_i64) rfl rfl rfl ?_
      refine jp (pa (ht rfl)) rfl rfl rfl ?_
      refine j_end ?_
      obtain rfl := oi h
      exact run_next v5 (.cons (.of_lk rfl) <| .cons (.of_lk rfl) <| .cons (.of_lk rfl) <| .cons (.of_lk rfl) <| .cons (.of_lk rfl) <| .nil) (.cons (.next .here) <| .cons .here <| .nil)
    · replace h := bf e1 h
      obtain rfl := oi h
      exact run_brk v4 (.cons (.of_lk rfl) <| .cons (.of_lk rfl) <| .cons (.of_lk rfl) <| .cons (.of_lk rfl) <| .cons (.of_lk rfl) <| .nil) (.cons .here <| .cons .here <| .nil)
  · rintro v6
    show Run _ _ _ [(0, u64.slot y4), (1, i64.slot p_bytes), (5, ov v6), (6, ov v3), (7, i64.slot y5)] [own 5 u8 v3 ([] : List (BitVec 8)), own 5 u8 v6 y6]
    refine run_to (Γ' := [(1, i64.slot p_bytes), (5, ov v6), (6, ov v3)]) (H' := [own 5 u8 v3 ([] : List (BitVec 8)), own 5 u8 v6 y6]) (.cons (.of_lk rfl) <| .cons (.of_lk rfl) <| .cons (.of_lk rfl) <| .nil) (.cons .here <| .cons .here <| .nil) ?_
    refine rs ?_
    refine rs ?_
    refine rt ?_
    refine jp (pm (ht rfl)) rfl rfl rfl ?_
    refine jp (pj_isub (ht rfl) has_i64) rfl rfl rfl ?_
    refine jp (pa (ht rfl)) rfl rfl rfl ?_
    refine j_end ?_
    obtain ⟨⟨y9, y10⟩, e7, h⟩ := bind_some h
    refine run_loopS (Γi := fun (i : Value) (s : Int × (List (BitVec 8))) => [(5, ov v6), (6, ov i), (8, i64.slot s.1)]) (Hi := fun (i : Value) (s : Int × (List (BitVec 8))) => [own 5 u8 i s.2, own 5 u8 v6 y6]) e7 v3 (fun a w hst => (hst.sub (.cons (.of_lk rfl) <| .cons (.of_lk rfl) <| .cons (.of_lk rfl) <| .nil)).keep (.cons .here <| .cons .here <| .nil)) ?_ ?_
    · clear h e7
      rintro v7 ⟨y7, y8⟩ lr h
      change rolodexref01_Number_L2 y6 y7 y8 = some _ at h
      show Run _ _ _ [(5, ov v6), (6, ov v7), (8, i64.slot y7)] [own 5 u8 v7 y8, own 5 u8 v6 y6]
      unfold rolodexref01_Number_L2 at h
      refine rs ?_
      refine rs ?_
      refine rt ?_
      refine jp (pm (ht rfl)) rfl rfl rfl ?_
      refine jp (pj_igeq (ht rfl) has_i64) rfl rfl rfl ?_
      refine j_end ?_
      refine run_cond (ht rfl) (fun e4 => ?_) (fun e4 => ?_)
      · replace h := bt e4 h
        refine run_skip ?_
        refine rs ?_
        refine run_block ?_
        refine rt ?_
        refine jp (pm (ht rfl)) rfl rfl rfl ?_
        refine jp (pm (ht rfl)) rfl rfl rfl ?_
        refine jp (pm (ht rfl)) rfl rfl rfl ?_
        obtain ⟨x1, e5, h⟩ := bind_some h
        refine jp (pj_index_own (ht rfl) (.next .here) (ht rfl) isInt_i64 (lget_some e5).1 (lget_some e5).2.1 (by kernel_rfl)) rfl rfl rfl ?_
        refine jp (PJ.eqv (pj_load_own0 u8 (y7.toNat) (ht rfl) (.next .here) (lget_some e5).2.1 (by kernel_rfl)) (lget_eq e5 (lget_some e5).2.1)) rfl rfl rfl ?_
        refine jp (pj_buildSlice (T := 5) (R := u8) (.cons (ht rfl) .nil) rfl (by kernel_rfl) (by kernel_rfl)) rfl rfl rfl ?_
        obtain ⟨e6, h⟩ := grd_some h
        refine j_append (T := 5) (E := 5) (ht rfl) .here (src_data (ht rfl)) (by kernel_rfl) (by kernel_rfl) e6 rfl fun v8 => ?_
        refine jp (pa (ht rfl)) rfl rfl rfl ?_
        refine j_end ?_
        refine run_endblock ?_
        refine rt ?_
        refine jp (pm (ht rfl)) rfl rfl rfl ?_
        refine jp (pj_isub (ht rfl) has_i64) rfl rfl rfl ?_
        refine jp (pa (ht rfl)) rfl rfl rfl ?_
        refine j_end ?_
        obtain rfl := oi h
        exact run_next v8 (.cons (.of_lk rfl) <| .cons (.of_lk rfl) <| .cons (.of_lk rfl) <| .nil) (.cons .here <| .cons .here <| .nil)
      · replace h := bf e4 h
        obtain rfl := oi h
        exact run_brk v7 (.cons (.of_lk rfl) <| .cons (.of_lk rfl) <| .cons (.of_lk rfl) <| .nil) (.cons .here <| .cons .here <| .nil)
    · rintro v9
      show Run _ _ _ [(5, ov v6), (6, ov v9), (8, i64.slot y9)] [own 5 u8 v9 y10, own 5 u8 v6 y6]
      refine run_to (Γ' := [(6, ov v9)]) (H' := [own 5 u8 v9 y10]) (.cons (.of_lk rfl) <| .nil) (.cons .here <| .nil) ?_
      refine rs ?_
      refine rt ?_
      refine jp (pm (ht rfl)) rfl rfl rfl ?_
      refine jp (pa (ht rfl)) rfl rfl rfl ?_
      refine j_end ?_
      obtain rfl := oi h
      exact run_ret fun a w hst => q_ret1 hst rfl (.tmp rfl) v9 (fun _ _ h => h) (.cons .here <| .nil)
set_option maxRecDepth 100000 in
set_option maxHeartbeats 4000000 in
theorem c_rolodexref04_Most {G : GP} {p_kind : Int} {r : Int} (h : rolodexref04_Most p_kind = some r) : Ctr Tryd.prog G 96 [i64.slot p_kind] [] (fun (_ : Unit) => i64.slot r) (fun (_ : Unit) => []) := by
  unfold rolodexref04_Most at h
  refine ctr_of_run Tryd.func96 rfl 15 rfl rfl fun m0 w0 b0 => ?_
  show Run _ _ _ [(0, i64.slot p_kind)] _
  refine rs ?_
  refine rt ?_
  refine jp (pa has_i64) rfl rfl rfl ?_
  refine j_end ?_
  refine rs ?_
  refine rt ?_
  refine jp (pa has_i64) rfl rfl rfl ?_
  refine j_end ?_
  refine rs ?_
  refine rs ?_
  refine rt ?_
  refine jp (pa has_i64) rfl rfl rfl ?_
  refine j_end ?_
  obtain ⟨⟨y3, y4⟩, e3, h⟩ := bind_some h
  refine run_loopS (Γi := fun (i : Unit) (s : Int × Int) => [(0, i64.slot p_kind), (3, i64.slot s.1), (4, i64.slot s.2)]) (Hi := fun (i : Unit) (s : Int × Int) => []) e3 () (fun a w hst => (hst.sub (.cons (.of_lk rfl) <| .cons (.of_lk rfl) <| .cons (.of_lk rfl) <| .nil)).keep (.nil)) ?_ ?_
  · clear h e3
    rintro _ ⟨y1, y2⟩ lr h
    change rolodexref04_Most_L1 p_kind y1 y2 = some _ at h
    show Run _ _ _ [(0, i64.slot p_kind), (3, i64.slot y1), (4, i64.slot y2)] []
    unfold rolodexref04_Most_L1 at h
    refine rs ?_
    refine rs ?_
    refine rt ?_
    refine jp (pm (ht rfl)) rfl rfl rfl ?_
    refine jp (pm (ht rfl)) rfl rfl rfl ?_
    obtain ⟨r1, e1, h⟩ := bind_some h
    refine jp (pj_call (hc (ht rfl) <| hasL_nil) (by kernel_rfl) (c_rolodexref04_Bits e1)) rfl rfl rfl ?_
    refine jp (pj_ilss (ht rfl) (ht rfl)) rfl rfl rfl ?_
    refine j_end ?_
    refine run_cond (ht rfl) (fun e2 => ?_) (fun e2 => ?_)
    · replace h := bt e2 h
      refine run_skip ?_
      refine rs ?_
      refine run_block ?_
      refine rt ?_
      refine jp (pm (ht rfl)) rfl rfl rfl ?_
      refine jp (pj_imul has_i64 (ht rfl)) rfl rfl rfl ?_
      refine jp (pa (ht rfl)) rfl rfl rfl ?_
      refine j_end ?_
      refine run_endblock ?_
      refine rt ?_
      refine jp (pm (ht rfl)) rfl rfl rfl ?_
      refine jp (pj_iadd (ht rfl) has_i64) rfl rfl rfl ?_
      refine jp (pa (ht rfl)) rfl rfl rfl ?_
      refine j_end ?_
      obtain rfl := oi h
      exact run_next () (.cons (.of_lk rfl) <| .cons (.of_lk rfl) <| .cons (.of_lk rfl) <| .nil) (.nil)
    · replace h := bf e2 h
      obtain rfl := oi h
      exact run_brk () (.cons (.of_lk rfl) <| .cons (.of_lk rfl) <| .cons (.of_lk rfl) <| .nil) (.nil)
  · rintro _
    show Run _ _ _ [(0, i64.slot p_kind), (3, i64.slot y3), (4, i64.slot y4)] []
    refine run_to (Γ' := [(3, i64.slot y3)]) (H' := []) (.cons (.of_lk rfl) <| .nil) (.nil) ?_
    refine rs ?_
    refine rt ?_
    refine jp (pm (ht rfl)) rfl rfl rfl ?_
    refine jp (pj_isub (ht rfl) has_i64) rfl rfl rfl ?_
    refine jp (pa (ht rfl)) rfl rfl rfl ?_
    refine j_end ?_
    obtain rfl := oi h
    exact run_ret fun a w hst => q_ret1 hst rfl (.tmp rfl) () (fun _ _ h => h) (.nil)
set_option maxRecDepth 100000 in
set_option maxHeartbeats 4000000 in
theorem c_rolodexref04_digit {G : GP} {p_b : List (BitVec 8)} {p_n : Int} {p_bits : Int} {r : Int} (h : rolodexref04_digit p_b p_n p_bits = some r) : Ctr Tryd.prog G 105 [(sl u8).slot p_b, i64.slot p_n, i64.slot p_bits] [] (fun (_ : Unit) => i64.slot r) (fun (_ : Unit) => []) := by
  unfold rolodexref04_digit at h
  refine ctr_of_run Tryd.func105 rfl 48 rfl rfl fun m0 w0 b0 => ?_
  show Run _ _ _ [(0, (sl u8).slot p_b), (1, i64.slot p_n), (2, i64.slot p_bits)] _
  refine rs ?_
  refine rt ?_
  refine jp (pa has_i64) rfl rfl rfl ?_
  refine j_end ?_
  refine rs ?_
  refine rt ?_
  refine jp (pm (ht rfl)) rfl rfl rfl ?_
  obtain ⟨e1, h⟩ := grd_some h
  refine jp (pj_iquo has_i64 (ht rfl) e1) rfl rfl rfl ?_
  refine jp (pa (ht rfl)) rfl rfl rfl ?_
  refine j_end ?_
  refine rs ?_
  refine rt ?_
  refine jp (pm (ht rfl)) rfl rfl rfl ?_
  refine jp (pm (ht rfl)) rfl rfl rfl ?_
  refine jp (pm (ht rfl)) rfl rfl rfl ?_
  obtain ⟨e2, h⟩ := grd_some h
  refine jp (pj_iquo (ht rfl) (ht rfl) e2) rfl rfl rfl ?_
  obtain ⟨x1, e3, h⟩ := bind_some h
  refine jp (pj_index_slx (ht rfl) (ht rfl) isInt_i64 e3 (by kernel_rfl)) rfl rfl rfl ?_
  refine jp (pl (ht rfl) (by kernel_rfl)) rfl rfl rfl ?_
  refine jp (pj_conv_ui (by decide) (by kernel_rfl) (ht rfl)) rfl rfl rfl ?_
  refine jp (pa (ht rfl)) rfl rfl rfl ?_
  refine j_end ?_
  refine rs ?_
  refine rs ?_
  refine rt ?_
  refine jp (pm (ht rfl)) rfl rfl rfl ?_
  refine jp (pm (ht rfl)) rfl rfl rfl ?_
  obtain ⟨e4, h⟩ := grd_some h
  refine jp (pj_irem (ht rfl) (ht rfl) e4) rfl rfl rfl ?_
  obtain ⟨x2, e5, h⟩ := bind_some h
  refine jp (PJ.eqv (pa (ht rfl)) (oi e5)) rfl rfl rfl ?_
  refine j_end ?_
  obtain ⟨⟨y7, y8⟩, e9, h⟩ := bind_some h
  refine run_loopS (Γi := fun (i : Unit) (s : Int × Int) => [(2, i64.slot p_bits), (7, i64.slot (w64 (Int.tdiv (8 : Int) p_bits))), (8, i64.slot s.1), (9, i64.slot s.2)]) (Hi := fun (i : Unit) (s : Int × Int) => []) e9 () (fun a w hst => (hst.sub (.cons (.of_lk rfl) <| .cons (.of_lk rfl) <| .cons (.of_lk rfl) <| .cons (.of_lk rfl) <| .nil)).keep (.nil)) ?_ ?_
  · clear h e9
    rintro _ ⟨y1, y2⟩ lr h
    change rolodexref04_digit_L1 p_bits y1 y2 = some _ at h
    show Run _ _ _ [(2, i64.slot p_bits), (7, i64.slot (w64 (Int.tdiv (8 : Int) p_bits))), (8, i64.slot y1), (9, i64.slot y2)] []
    unfold rolodexref04_digit_L1 at h
    refine rs ?_
    refine rs ?_
    refine rt ?_
    refine jp (pm (ht rfl)) rfl rfl rfl ?_
    refine jp (pm (ht rfl)) rfl rfl rfl ?_
    refine jp (pj_isub (ht rfl) has_i64) rfl rfl rfl ?_
    refine jp (pj_ilss (ht rfl) (ht rfl)) rfl rfl rfl ?_
    refine j_end ?_
    refine run_cond (ht rfl) (fun e6 => ?_) (fun e6 => ?_)
    · replace h := bt e6 h
      refine run_skip ?_
      refine rs ?_
      refine run_block ?_
      refine rs ?_
      refine rt ?_
      refine jp (pa has_i64) rfl rfl rfl ?_
      refine j_end ?_
      obtain ⟨⟨y5, y6⟩, e8, h⟩ := bind_some h
      refine run_loopS (Γi := fun (i : Unit) (s : Int × Int) => [(2, i64.slot p_bits), (7, i64.slot (w64 (Int.tdiv (8 : Int) p_bits))), (8, i64.slot s.1), (9, i64.slot y2), (10, i64.slot s.2)]) (Hi := fun (i : Unit) (s : Int × Int) => []) e8 () (fun a w hst => (hst.sub (.cons (.of_lk rfl) <| .cons (.of_lk rfl) <| .cons (.of_lk rfl) <| .cons (.of_lk rfl) <| .cons (.of_lk rfl) <| .nil)).keep (.nil)) ?_ ?_
      · clear h e8
        rintro _ ⟨y3, y4⟩ lr h
        change rolodexref04_digit_L2 p_bits y3 y4 = some _ at h
        show Run _ _ _ [(2, i64.slot p_bits), (7, i64.slot (w64 (Int.tdiv (8 : Int) p_bits))), (8, i64.slot y3), (9, i64.slot y2), (10, i64.slot y4)] []
        unfold rolodexref04_digit_L2 at h
        refine rs ?_
        refine rs ?_
        refine rt ?_
        refine jp (pm (ht rfl)) rfl rfl rfl ?_
        refine jp (pm (ht rfl)) rfl rfl rfl ?_
        refine jp (pj_ilss (ht rfl) (ht rfl)) rfl rfl rfl ?_
        refine j_end ?_
        refine run_cond (ht rfl) (fun e7 => ?_) (fun e7 => ?_)
        · replace h := bt e7 h
          refine run_skip ?_
          refine rs ?_
          refine run_block ?_
          refine rt ?_
          refine jp (pm (ht rfl)) rfl rfl rfl ?_
          refine jp (pj_iquo (ht rfl) has_i64 (by decide)) rfl rfl rfl ?_
          refine jp (pa (ht rfl)) rfl rfl rfl ?_
          refine j_end ?_
          refine run_endblock ?_
          refine rt ?_
          refine jp (pm (ht rfl)) rfl rfl rfl ?_
          refine jp (pj_iadd (ht rfl) has_i64) rfl rfl rfl ?_
          refine jp (pa (ht rfl)) rfl rfl rfl ?_
          refine j_end ?_
          obtain rfl := oi h
          exact run_next () (.cons (.of_lk rfl) <| .cons (.of_lk rfl) <| .cons (.of_lk rfl) <| .cons (.of_lk rfl) <| .cons (.of_lk rfl) <| .nil) (.nil)
        · replace h := bf e7 h
          obtain rfl := oi h
          exact run_brk () (.cons (.of_lk rfl) <| .cons (.of_lk rfl) <| .cons (.of_lk rfl) <| .cons (.of_lk rfl) <| .cons (.of_lk rfl) <| .nil) (.nil)
      · rintro _
        show Run _ _ _ [(2, i64.slot p_bits), (7, i64.slot (w64 (Int.tdiv (8 : Int) p_bits))), (8, i64.slot y5), (9, i64.slot y2), (10, i64.slot y6)] []
        refine run_to (Γ' := [(2, i64.slot p_bits), (7, i64.slot (w64 (Int.tdiv (8 : Int) p_bits))), (8, i64.slot y5), (9, i64.slot y2)]) (H' := []) (.cons (.of_lk rfl) <| .cons (.of_lk rfl) <| .cons (.of_lk rfl) <| .cons (.of_lk rfl) <| .nil) (.nil) ?_
        refine run_endblock ?_
        refine rt ?_
        refine jp (pm (ht rfl)) rfl rfl rfl ?_
        refine jp (pj_iadd (ht rfl) has_i64) rfl rfl rfl ?_
        refine jp (pa (ht rfl)) rfl rfl rfl ?_
        refine j_end ?_
        obtain rfl := oi h
        exact run_next () (.cons (.of_lk rfl) <| .cons (.of_lk rfl) <| .cons (.of_lk rfl) <| .cons (.of_lk rfl) <| .nil) (.nil)
    · replace h := bf e6 h
      obtain rfl := oi h
      exact run_brk () (.cons (.of_lk rfl) <| .cons (.of_lk rfl) <| .cons (.of_lk rfl) <| .cons (.of_lk rfl) <| .nil) (.nil)
  · rintro _
    show Run _ _ _ [(2, i64.slot p_bits), (7, i64.slot (w64 (Int.tdiv (8 : Int) p_bits))), (8, i64.slot y7), (9, i64.slot y8)] []
    refine run_to (Γ' := [(2, i64.slot p_bits), (8, i64.slot y7)]) (H' := []) (.cons (.of_lk rfl) <| .cons (.of_lk rfl) <| .nil) (.nil) ?_
    refine rs ?_
    refine rt ?_
    refine jp (pa has_i64) rfl rfl rfl ?_
    refine j_end ?_
    refine rs ?_
    refine rs ?_
    refine rt ?_
    refine jp (pa has_i64) rfl rfl rfl ?_
    refine j_end ?_
    obtain ⟨⟨y11, y12⟩, e11, h⟩ := bind_some h
    refine run_loopS (Γi := fun (i : Unit) (s : Int × Int) => [(2, i64.slot p_bits), (8, i64.slot y7), (11, i64.slot s.1), (12, i64.slot s.2)]) (Hi := fun (i : Unit) (s : Int × Int) => []) e11 () (fun a w hst => (hst.sub (.cons (.of_lk rfl) <| .cons (.of_lk rfl) <| .cons (.of_lk rfl) <| .cons (.of_lk rfl) <| .nil)).keep (.nil)) ?_ ?_
    · clear h e11
      rintro _ ⟨y9, y10⟩ lr h
      change rolodexref04_digit_L3 p_bits y9 y10 = some _ at h
      show Run _ _ _ [(2, i64.slot p_bits), (8, i64.slot y7), (11, i64.slot y9), (12, i64.slot y10)] []
      unfold rolodexref04_digit_L3 at h
      refine rs ?_
      refine rs ?_
      refine rt ?_
      refine jp (pm (ht rfl)) rfl rfl rfl ?_
      refine jp (pm (ht rfl)) rfl rfl rfl ?_
      refine jp (pj_ilss (ht rfl) (ht rfl)) rfl rfl rfl ?_
      refine j_end ?_
      refine run_cond (ht rfl) (fun e10 => ?_) (fun e10 => ?_)
      · replace h := bt e10 h
        refine run_skip ?_
        refine rs ?_
        refine run_block ?_
        refine rt ?_
        refine jp (pm (ht rfl)) rfl rfl rfl ?_
        refine jp (pj_imul has_i64 (ht rfl)) rfl rfl rfl ?_
        refine jp (pa (ht rfl)) rfl rfl rfl ?_
        refine j_end ?_
        refine run_endblock ?_
        refine rt ?_
        refine jp (pm (ht rfl)) rfl rfl rfl ?_
        refine jp (pj_iadd (ht rfl) has_i64) rfl rfl rfl ?_
        refine jp (pa (ht rfl)) rfl rfl rfl ?_
        refine j_end ?_
        obtain rfl := oi h
        exact run_next () (.cons (.of_lk rfl) <| .cons (.of_lk rfl) <| .cons (.of_lk rfl) <| .cons (.of_lk rfl) <| .nil) (.nil)
      · replace h := bf e10 h
        obtain rfl := oi h
        exact run_brk () (.cons (.of_lk rfl) <| .cons (.of_lk rfl) <| .cons (.of_lk rfl) <| .cons (.of_lk rfl) <| .nil) (.nil)
    · rintro _
      show Run _ _ _ [(2, i64.slot p_bits), (8, i64.slot y7), (11, i64.slot y11), (12, i64.slot y12)] []
      refine run_to (Γ' := [(8, i64.slot y7), (11, i64.slot y11)]) (H' := []) (.cons (.of_lk rfl) <| .cons (.of_lk rfl) <| .nil) (.nil) ?_
      refine rs ?_
      refine rt ?_
      refine jp (pm (ht rfl)) rfl rfl rfl ?_
      refine jp (pm (ht rfl)) rfl rfl rfl ?_
      obtain ⟨e12, h⟩ := grd_some h
      refine jp (pj_irem (ht rfl) (ht rfl) e12) rfl rfl rfl ?_
      refine jp (pa (ht rfl)) rfl rfl rfl ?_
      refine j_end ?_
      obtain rfl := oi h
      exact run_ret fun a w hst => q_ret1 hst rfl (.tmp rfl) () (fun _ _ h => h) (.nil)
set_option maxRecDepth 100000 in
set_option maxHeartbeats 4000000 in
theorem c_rolodexref04_Digits {G : GP} {p_kind : Int} {p_h : T_api_Hash} {r : (List Int)} (h : rolodexref04_Digits p_kind p_h = some r) : Ctr Tryd.prog G 87 [i64.slot p_kind, R_api_Hash.slot p_h] [] (fun (u0 : Value) => ov u0) (fun (u0 : Value) => [own 3 i64 u0 r]) := by
  unfold rolodexref04_Digits at h
  refine ctr_of_run Tryd.func87 rfl 66 rfl rfl fun m0 w0 b0 => ?_
  show Run _ _ _ [(0, i64.slot p_kind), (1, R_api_Hash.slot p_h)] _
  refine rs ?_
  refine rt ?_
  refine jp (pj_box_to (ht rfl)) rfl rfl rfl ?_
  refine j_assign_nil (T := 3) i64 rfl fun v1 => ?_
  refine j_end ?_
  refine rs ?_
  refine rt ?_
  refine jp (pm (ht rfl)) rfl rfl rfl ?_
  obtain ⟨r1, e1, h⟩ := bind_some h
  refine jp (pj_call (hc (ht rfl) <| hasL_nil) (by kernel_rfl) (c_rolodexref04_Bits e1)) rfl rfl rfl ?_
  refine jp (pa (ht rfl)) rfl rfl rfl ?_
  refine j_end ?_
  refine rs ?_
  refine rs ?_
  refine rt ?_
  refine jp (pm (ht rfl)) rfl rfl rfl ?_
  refine jp (pj_ieql (ht rfl) has_i64) rfl rfl rfl ?_
  refine j_end ?_
  refine run_cond (ht rfl) (fun e2 => ?_) (fun e2 => ?_)
  · replace h := bt e2 h
    refine rs ?_
    refine rt ?_
    refine j_assign_nil (T := 3) i64 rfl fun v2 => ?_
    refine j_end ?_
    obtain rfl := oi h
    exact run_ret fun a w hst => q_ret1 hst rfl (.tmp rfl) v2 (fun _ _ h => h) (.cons .here <| .nil)
  · replace h := bf e2 h
    refine run_skip ?_
    refine rs ?_
    refine rt ?_
    refine jp (pj_slice_toF (ht rfl) (by decide) (by kernel_rfl)) rfl rfl rfl ?_
    refine jp (pa (ht rfl)) rfl rfl rfl ?_
    refine j_end ?_
    refine rs ?_
    refine rt ?_
    refine jp (pa has_i64) rfl rfl rfl ?_
    refine j_end ?_
    refine rs ?_
    refine rs ?_
    refine rt ?_
    refine jp (pa has_i64) rfl rfl rfl ?_
    refine j_end ?_
    obtain ⟨⟨y3, y4⟩, e7, h⟩ := bind_some h
    refine run_loopS (Γi := fun (i : Unit) (s : Int × Int) => [(0, i64.slot p_kind), (3, ptrTo R_api_Hash p_h), (5, i64.slot r1), (6, (sl u8).slot p_h.toList), (7, i64.slot s.1), (8, i64.slot s.2)]) (Hi := fun (i : Unit) (s : Int × Int) => []) e7 () (fun a w hst => (hst.sub (.cons (.of_lk rfl) <| .cons (.of_lk rfl) <| .cons (.of_lk rfl) <| .cons (.of_lk rfl) <| .cons (.of_lk rfl) <| .cons (.of_lk rfl) <| .nil)).keep (.nil)) ?_ ?_
    · clear h e7
      rintro _ ⟨y1, y2⟩ lr h
      change rolodexref04_Digits_L1 r1 p_kind p_h y1 y2 = some _ at h
      show Run _ _ _ [(0, i64.slot p_kind), (3, ptrTo R_api_Hash p_h), (5, i64.slot r1), (6, (sl u8).slot p_h.toList), (7, i64.slot y1), (8, i64.slot y2)] []
      unfold rolodexref04_Digits_L1 at h
      refine rs ?_
      refine rs ?_
      refine rt ?_
      refine jp (pm (ht rfl)) rfl rfl rfl ?_
      refine jp (pm (ht rfl)) rfl rfl rfl ?_
      obtain ⟨e3, h⟩ := grd_some h
      refine jp (pj_iquo has_i64 (ht rfl) e3) rfl rfl rfl ?_
      refine jp (pj_ilss (ht rfl) (ht rfl)) rfl rfl rfl ?_
      refine j_end ?_
      refine run_cond (ht rfl) (fun e4 => ?_) (fun e4 => ?_)
      · replace h := bt e4 h
        refine run_skip ?_
        refine rs ?_
        refine run_block ?_
        refine rt ?_
        refine jp (pm (ht rfl)) rfl rfl rfl ?_
        refine jp (pm (ht rfl)) rfl rfl rfl ?_
        obtain ⟨r2, e5, h⟩ := bind_some h
        refine jp (pj_call (hc (ht rfl) <| hasL_nil) (by kernel_rfl) (c_rolodexref04_Most e5)) rfl rfl rfl ?_
        refine jp (pm (ht rfl)) rfl rfl rfl ?_
        refine jp (pm (ht rfl)) rfl rfl rfl ?_
        refine jp (pm (ht rfl)) rfl rfl rfl ?_
        obtain ⟨r3, e6, h⟩ := bind_some h
        refine jp (pj_call (hc (ht rfl) <| hc (ht rfl) <| hc (ht rfl) <| hasL_nil) (by kernel_rfl) (c_rolodexref04_digit e6)) rfl rfl rfl ?_
        refine jp (pj_isub (ht rfl) (ht rfl)) rfl rfl rfl ?_
        refine jp (pj_iadd (ht rfl) (ht rfl)) rfl rfl rfl ?_
        refine jp (pa (ht rfl)) rfl rfl rfl ?_
        refine j_end ?_
        refine run_endblock ?_
        refine rt ?_
        refine jp (pm (ht rfl)) rfl rfl rfl ?_
        refine jp (pj_iadd (ht rfl) has_i64) rfl rfl rfl ?_
        refine jp (pa (ht rfl)) rfl rfl rfl ?_
        refine j_end ?_
        obtain rfl := oi h
        exact run_next () (.cons (.of_lk rfl) <| .cons (.of_lk rfl) <| .cons (.of_lk rfl) <| .cons (.of_lk rfl) <| .cons (.of_lk rfl) <| .cons (.of_lk rfl) <| .nil) (.nil)
      · replace h := bf e4 h
        obtain rfl := oi h
        exact run_brk () (.cons (.of_lk rfl) <| .cons (.of_lk rfl) <| .cons (.of_lk rfl) <| .cons (.of_lk rfl) <| .cons (.of_lk rfl) <| .cons (.of_lk rfl) <| .nil) (.nil)
    · rintro _
      show Run _ _ _ [(0, i64.slot p_kind), (3, ptrTo R_api_Hash p_h), (5, i64.slot r1), (6, (sl u8).slot p_h.toList), (7, i64.slot y3), (8, i64.slot y4)] []
      refine run_to (Γ' := [(0, i64.slot p_kind), (3, ptrTo R_api_Hash p_h), (5, i64.slot r1), (7, i64.slot y3)]) (H' := []) (.cons (.of_lk rfl) <| .cons (.of_lk rfl) <| .cons (.of_lk rfl) <| .cons (.of_lk rfl) <| .nil) (.nil) ?_
      refine rs ?_
      refine rt ?_
      obtain ⟨x1, e8, h⟩ := bind_some h
      refine jp (PJ.eqv (pj_buildArr (z0 := 0) (zero_vec 5 zero_i64) (by kernel_rfl) (.cons has_i64 (.cons has_i64 (.cons has_i64 (.cons has_i64 (.cons has_i64 .nil))))) (by kernel_rfl) rfl) (oi e8)) rfl rfl rfl ?_
      refine jp (pm (ht rfl)) rfl rfl rfl ?_
      obtain ⟨x2, e9, h⟩ := bind_some h
      refine jp (pj_index_valx (e := 3) (ht rfl) (ht rfl) isInt_i64 e9 (by kernel_rfl) (by kernel_rfl)) rfl rfl rfl ?_
      refine jp (pa (ht rfl)) rfl rfl rfl ?_
      refine j_end ?_
      refine rs ?_
      refine rs ?_
      refine rt ?_
      refine jp (pa has_i64) rfl rfl rfl ?_
      refine j_end ?_
      obtain ⟨⟨y7, y8⟩, e11, h⟩ := bind_some h
      refine run_loopS (Γi := fun (i : Unit) (s : Int × Int) => [(0, i64.slot p_kind), (3, ptrTo R_api_Hash p_h), (5, i64.slot r1), (7, i64.slot s.1), (9, i64.slot x2), (10, i64.slot s.2)]) (Hi := fun (i : Unit) (s : Int × Int) => []) e11 () (fun a w hst => (hst.sub (.cons (.of_lk rfl) <| .cons (.of_lk rfl) <| .cons (.of_lk rfl) <| .cons (.of_lk rfl) <| .cons (.of_lk rfl) <| .cons (.of_lk rfl) <| .nil)).keep (.nil)) ?_ ?_
      · clear h e11
        rintro _ ⟨y5, y6⟩ lr h
        change rolodexref04_Digits_L2 x2 y5 y6 = some _ at h
        show Run _ _ _ [(0, i64.slot p_kind), (3, ptrTo R_api_Hash p_h), (5, i64.slot r1), (7, i64.slot y5), (9, i64.slot x2), (10, i64.slot y6)] []
        unfold rolodexref04_Digits_L2 at h
        refine rs ?_
        refine rs ?_
        refine rt ?_
        refine jp (pm (ht rfl)) rfl rfl rfl ?_
        refine jp (pm (ht rfl)) rfl rfl rfl ?_
        refine jp (pj_ilss (ht rfl) (ht rfl)) rfl rfl rfl ?_
        refine j_end ?_
        refine run_cond (ht rfl) (fun e10 => ?_) (fun e10 => ?_)
        · replace h := bt e10 h
          refine run_skip ?_
          refine rs ?_
          refine run_block ?_
          refine rt ?_
          refine jp (pm (ht rfl)) rfl rfl rfl ?_
          refine jp (pj_imul has_i64 (ht rfl)) rfl rfl rfl ?_
          refine jp (pa (ht rfl)) rfl rfl rfl ?_
          refine j_end ?_
          refine run_endblock ?_
          refine rt ?_
          refine jp (pm (ht rfl)) rfl rfl rfl ?_
          refine jp (pj_iadd (ht rfl) has_i64) rfl rfl rfl ?_
          refine jp (pa (ht rfl)) rfl rfl rfl ?_
          refine j_end ?_
          obtain rfl := oi h
          exact run_next () (.cons (.of_lk rfl) <| .cons (.of_lk rfl) <| .cons (.of_lk rfl) <| .cons (.of_lk rfl) <| .cons (.of_lk rfl) <| .cons (.of_lk rfl) <| .nil) (.nil)
        · replace h := bf e10 h
          obtain rfl := oi h
          exact run_brk () (.cons (.of_lk rfl) <| .cons (.of_lk rfl) <| .cons (.of_lk rfl) <| .cons (.of_lk rfl) <| .cons (.of_lk rfl) <| .cons (.of_lk rfl) <| .nil) (.nil)
      · rintro _
        show Run _ _ _ [(0, i64.slot p_kind), (3, ptrTo R_api_Hash p_h), (5, i64.slot r1), (7, i64.slot y7), (9, i64.slot x2), (10, i64.slot y8)] []
        refine run_to (Γ' := [(0, i64.slot p_kind), (3, ptrTo R_api_Hash p_h), (5, i64.slot r1), (7, i64.slot y7)]) (H' := []) (.cons (.of_lk rfl) <| .cons (.of_lk rfl) <| .cons (.of_lk rfl) <| .cons (.of_lk rfl) <| .nil) (.nil) ?_
        refine rs ?_
        refine rt ?_
        refine j_assign_nil (T := 5) u8 rfl fun v3 => ?_
        refine j_end ?_
        refine rs ?_
        refine rt ?_
        refine jp (pm (ht rfl)) rfl rfl rfl ?_
        refine jp (pj_slice_toF (ht rfl) (by decide) (by kernel_rfl)) rfl rfl rfl ?_
        obtain ⟨e12, h⟩ := grd_some h
        refine j_append (T := 5) (E := 5) (ht rfl) .here (src_data (ht rfl)) (by kernel_rfl) (by kernel_rfl) e12 rfl fun v4 => ?_
        refine jp (pa (ht rfl)) rfl rfl rfl ?_
        refine j_end ?_
        refine rs ?_
        refine rt ?_
        refine jp (pm (ht rfl)) rfl rfl rfl ?_
        refine jp (pm (ht rfl)) rfl rfl rfl ?_
        refine jp (pj_conv_un (k := .u64) (b := 64) rfl rfl (by kernel_rfl) (ht rfl) isInt_i64) rfl rfl rfl ?_
        obtain ⟨r4, e13, h⟩ := bind_some h
        refine jp (pj_call (hc (ht rfl) <| hc has_i64 <| hasL_nil) (by kernel_rfl) (Ctr.froze (c_rolodexref01_Number e13))) rfl rfl rfl ?_
        obtain ⟨e14, h⟩ := grd_some h
        refine j_append (T := 5) (E := 5) (ht rfl) .here (src_data (ht rfl)) (by kernel_rfl) (by kernel_rfl) e14 rfl fun v5 => ?_
        refine jp (pa (ht rfl)) rfl rfl rfl ?_
        refine j_end ?_
        refine rs ?_
        refine rt ?_
        refine j_assign_nil (T := 3) i64 rfl fun v6 => ?_
        refine j_end ?_
        refine rs ?_
        refine rs ?_
        refine rt ?_
        refine jp (pa has_i64) rfl rfl rfl ?_
        refine j_end ?_
        obtain ⟨⟨y11, y12⟩, e19, h⟩ := bind_some h
        refine run_loopS (Γi := fun (i : Value) (s : Int × (List Int)) => [(0, i64.slot p_kind), (5, i64.slot r1), (11, ov v5), (12, ov i), (13, i64.slot s.1)]) (Hi := fun (i : Value) (s : Int × (List Int)) => [own 3 i64 i s.2, own 5 u8 v5 ((([] : List (BitVec 8)) ++ p_h.toList) ++ r4)]) e19 v6 (fun a w hst => (hst.sub (.cons (.of_lk rfl) <| .cons (.of_lk rfl) <| .cons (.of_lk rfl) <| .cons (.of_lk rfl) <| .cons (.of_lk rfl) <| .nil)).keep (.cons .here <| .cons .here <| .nil)) ?_ ?_
        · clear h e19
          rintro v7 ⟨y9, y10⟩ lr h
          change rolodexref04_Digits_L3 p_kind p_h r4 r1 y9 y10 = some _ at h
          show Run _ _ _ [(0, i64.slot p_kind), (5, i64.slot r1), (11, ov v5), (12, ov v7), (13, i64.slot y9)] [own 3 i64 v7 y10, own 5 u8 v5 ((([] : List (BitVec 8)) ++ p_h.toList) ++ r4)]
          unfold rolodexref04_Digits_L3 at h
          refine rs ?_
          refine rs ?_
          refine rt ?_
          refine jp (pm (ht rfl)) rfl rfl rfl ?_
          refine jp (pm (ht rfl)) rfl rfl rfl ?_
          obtain ⟨r5, e15, h⟩ := bind_some h
          refine jp (pj_call (hc (ht rfl) <| hasL_nil) (by kernel_rfl) (c_rolodexref04_Chains e15)) rfl rfl rfl ?_
          refine jp (pj_ilss (ht rfl) (ht rfl)) rfl rfl rfl ?_
          refine j_end ?_
          refine run_cond (ht rfl) (fun e16 => ?_) (fun e16 => ?_)
          · replace h := bt e16 h
            refine run_skip ?_
            refine rs ?_
            refine run_block ?_
            refine rt ?_
            refine jp (pm (ht rfl)) rfl rfl rfl ?_
            refine jp (pm (ht rfl)) rfl rfl rfl ?_
            refine jp (pm (ht rfl)) rfl rfl rfl ?_
            refine jp (pm (ht rfl)) rfl rfl rfl ?_
            obtain ⟨r6, e17, h⟩ := bind_some h
            refine jp (pj_callB (hasBL_cons (hasB_own (ht rfl) (.next .here)) <| hasBL_cons (hasB_of (ht rfl)) <| hasBL_cons (hasB_of (ht rfl)) <| hasBL_nil) (by kernel_rfl) (c_rolodexref04_digit e17) (Rep.flat_slot flat_i64 _)) rfl rfl rfl ?_
            refine jp (pj_buildSlice (T := 3) (R := i64) (.cons (ht rfl) .nil) rfl (by kernel_rfl) (by kernel_rfl)) rfl rfl rfl ?_
            obtain ⟨e18, h⟩ := grd_some h
            refine j_append (T := 3) (E := 3) (ht rfl) .here (src_data (ht rfl)) (by kernel_rfl) (by kernel_rfl) e18 rfl fun v8 => ?_
            refine jp (pa (ht rfl)) rfl rfl rfl ?_
            refine j_end ?_
            refine run_endblock ?_
            refine rt ?_
            refine jp (pm (ht rfl)) rfl rfl rfl ?_
            refine jp (pj_iadd (ht rfl) has_i64) rfl rfl rfl ?_
            refine jp (pa (ht rfl)) rfl rfl rfl ?_
            refine j_end ?_
            obtain rfl := oi h
            exact run_next v8 (.cons (.of_lk rfl) <| .cons (.of_lk rfl) <| .cons (.of_lk rfl) <| .cons (.of_lk rfl) <| .cons (.of_lk rfl) <| .nil) (.cons .here <| .cons .here <| .nil)
          · replace h := bf e16 h
            obtain rfl := oi h
            exact run_brk v7 (.cons (.of_lk rfl) <| .cons (.of_lk rfl) <| .cons (.of_lk rfl) <| .cons (.of_lk rfl) <| .cons (.of_lk rfl) <| .nil) (.cons .here <| .cons .here <| .nil)
        · rintro v9
          show Run _ _ _ [(0, i64.slot p_kind), (5, i64.slot r1), (11, ov v5), (12, ov v9), (13, i64.slot y11)] [own 3 i64 v9 y12, own 5 u8 v5 ((([] : List (BitVec 8)) ++ p_h.toList) ++ r4)]
          refine run_to (Γ' := [(12, ov v9)]) (H' := [own 3 i64 v9 y12]) (.cons (.of_lk rfl) <| .nil) (.cons .here <| .nil) ?_
          refine rs ?_
          refine rt ?_
          refine jp (pm (ht rfl)) rfl rfl rfl ?_
          refine jp (pa (ht rfl)) rfl rfl rfl ?_
          refine j_end ?_
          obtain rfl := oi h
          exact run_ret fun a w hst => q_ret1 hst rfl (.tmp rfl) v9 (fun _ _ h => h) (.cons .here <| .nil)
set_option maxRecDepth 100000 in
set_option maxHeartbeats 4000000 in
theorem c_rolodexref02_Start {G : GP} {r : (Vector (BitVec 32) 8)} (h : rolodexref02_Start = some r) : Ctr Tryd.prog G 109 [] [] (fun (_ : Unit) => (vec 8 u32).slot r) (fun (_ : Unit) => []) := by
  unfold rolodexref02_Start at h
  refine ctr_of_run Tryd.func109 rfl 2 rfl rfl fun m0 w0 b0 => ?_
  show Run _ _ _ [] _
  refine rs ?_
  refine rt ?_
  refine j_alloc (x := (Vector.replicate 8 (0#32))) (R := (vec 8 u32)) (zero_vec 8 zero_un) (by kernel_rfl) rfl fun b1 => ?_
  refine j_end ?_
  refine rs ?_
  refine rt ?_
  obtain ⟨x1, e1, h⟩ := bind_some h
  refine jp (PJ.eqv (pj_buildArr (z0 := 0#32) (zero_vec 8 zero_un) (by kernel_rfl) (.cons (has_un (x := 1779033703#32) rfl) (.cons (has_un (x := 3144134277#32) rfl) (.cons (has_un (x := 1013904242#32) rfl) (.cons (has_un (x := 2773480762#32) rfl) (.cons (has_un (x := 1359893119#32) rfl) (.cons (has_un (x := 2600822924#32) rfl) (.cons (has_un (x := 528734635#32) rfl) (.cons (has_un (x := 1541459225#32) rfl) .nil)))))))) (by kernel_rfl) rfl) (oi e1)) rfl rfl rfl ?_
  refine j_store_boxx (r' := x1) (ht rfl) (ht rfl) .here (Path.all (vec 8 u32)) (by kernel_rfl) rfl ?_
  refine j_end ?_
  obtain rfl := oi h
  exact run_ret fun a w hst => q_ret1 hst rfl (.cell rfl .here (by kernel_rfl)) () (fun _ _ h => h) (.nil)
set_option maxRecDepth 100000 in
set_option maxHeartbeats 4000000 in
theorem c_rolodexref02_Padded {G : GP} {p_b : List (BitVec 8)} {r : (List (BitVec 8))} (h : rolodexref02_Padded p_b = some r) : Ctr Tryd.prog G 110 [(sl u8).slot p_b] [] (fun (u0 : Value) => ov u0) (fun (u0 : Value) => [own 5 u8 u0 r]) := by
  unfold rolodexref02_Padded at h
  refine ctr_of_run Tryd.func110 rfl 24 rfl rfl fun m0 w0 b0 => ?_
  show Run _ _ _ [(0, (sl u8).slot p_b)] _
  refine rs ?_
  refine rt ?_
  refine j_assign_nil (T := 5) u8 rfl fun v1 => ?_
  refine j_end ?_
  refine rs ?_
  refine rt ?_
  refine j_assign_nil (T := 5) u8 rfl fun v2 => ?_
  refine j_end ?_
  refine rs ?_
  refine rt ?_
  refine jp (pm (ht rfl)) rfl rfl rfl ?_
  refine jp (pm (ht rfl)) rfl rfl rfl ?_
  obtain ⟨e1, h⟩ := grd_some h
  refine j_append (T := 5) (E := 5) (ht rfl) .here (src_data (ht rfl)) (by kernel_rfl) (by kernel_rfl) e1 rfl fun v3 => ?_
  refine jp (pa (ht rfl)) rfl rfl rfl ?_
  refine j_end ?_
  refine rs ?_
  refine rt ?_
  refine jp (pm (ht rfl)) rfl rfl rfl ?_
  refine jp (pj_buildSlice (T := 5) (R := u8) (.cons (has_un (x := 128#8) rfl) .nil) rfl (by kernel_rfl) (by kernel_rfl)) rfl rfl rfl ?_
  obtain ⟨e2, h⟩ := grd_some h
  refine j_append (T := 5) (E := 5) (ht rfl) .here (src_data (ht rfl)) (by kernel_rfl) (by kernel_rfl) e2 rfl fun v4 => ?_
  refine jp (pa (ht rfl)) rfl rfl rfl ?_
  refine j_end ?_
  refine rs ?_
  obtain ⟨y2, e5, h⟩ := bind_some h
  refine run_loopS (Γi := fun (i : Value) (s : (List (BitVec 8))) => [(0, (sl u8).slot p_b), (3, ov i)]) (Hi := fun (i : Value) (s : (List (BitVec 8))) => [own 5 u8 i s]) e5 v4 (fun a w hst => (hst.sub (.cons (.of_lk rfl) <| .cons (.of_lk rfl) <| .nil)).keep (.cons .here <| .nil)) ?_ ?_
  · clear h e5
    rintro v5 y1 lr h
    change rolodexref02_Padded_L1 y1 = some _ at h
    show Run _ _ _ [(0, (sl u8).slot p_b), (3, ov v5)] [own 5 u8 v5 y1]
    unfold rolodexref02_Padded_L1 at h
    refine rs ?_
    refine rs ?_
    refine rt ?_
    refine jp (pm (ht rfl)) rfl rfl rfl ?_
    refine jp (pj_len_own (sz := 1) (ht rfl) .here (by kernel_rfl)) rfl rfl rfl ?_
    refine jp (pj_irem (ht rfl) has_i64 (by decide)) rfl rfl rfl ?_
    refine jp (pj_ineq (ht rfl) has_i64) rfl rfl rfl ?_
    refine j_end ?_
    refine run_cond (ht rfl) (fun e3 => ?_) (fun e3 => ?_)
    · replace h := bt e3 h
      refine run_skip ?_
      refine run_block ?_
      refine rt ?_
      refine jp (pm (ht rfl)) rfl rfl rfl ?_
      refine jp (pj_buildSlice (T := 5) (R := u8) (.cons (has_un (x := 0#8) rfl) .nil) rfl (by kernel_rfl) (by kernel_rfl)) rfl rfl rfl ?_
      obtain ⟨e4, h⟩ := grd_some h
      refine j_append (T := 5) (E := 5) (ht rfl) .here (src_data (ht rfl)) (by kernel_rfl) (by kernel_rfl) e4 rfl fun v6 => ?_
      refine jp (pa (ht rfl)) rfl rfl rfl ?_
      refine j_end ?_
      refine run_endblock ?_
      obtain rfl := oi h
      exact run_next v6 (.cons (.of_lk rfl) <| .cons (.of_lk rfl) <| .nil) (.cons .here <| .nil)
    · replace h := bf e3 h
      obtain rfl := oi h
      exact run_brk v5 (.cons (.of_lk rfl) <| .cons (.of_lk rfl) <| .nil) (.cons .here <| .nil)
  · rintro v7
    show Run _ _ _ [(0, (sl u8).slot p_b), (3, ov v7)] [own 5 u8 v7 y2]
    refine run_to (Γ' := [(0, (sl u8).slot p_b), (3, ov v7)]) (H' := [own 5 u8 v7 y2]) (.cons (.of_lk rfl) <| .cons (.of_lk rfl) <| .nil) (.cons .here <| .nil) ?_
    refine rs ?_
    refine rt ?_
    refine jp (pm (ht rfl)) rfl rfl rfl ?_
    refine jp (pm (ht rfl)) rfl rfl rfl ?_
    refine jp (pj_len_sl (sz := 1) (ht rfl) (by kernel_rfl)) rfl rfl rfl ?_
    refine jp (pj_conv_un (k := .u64) (b := 64) rfl rfl (by kernel_rfl) (ht rfl) isInt_i64) rfl rfl rfl ?_
    refine jp (pj_umul (k := .u64) (b := 64) rfl rfl (has_un (x := 8#64) rfl) (ht rfl)) rfl rfl rfl ?_
    obtain ⟨r1, e6, h⟩ := bind_some h
    refine jp (pj_call (hc (ht rfl) <| hc has_i64 <| hasL_nil) (by kernel_rfl) (Ctr.froze (c_rolodexref01_Number e6))) rfl rfl rfl ?_
    obtain ⟨e7, h⟩ := grd_some h
    refine j_append (T := 5) (E := 5) (ht rfl) .here (src_data (ht rfl)) (by kernel_rfl) (by kernel_rfl) e7 rfl fun v8 => ?_
    refine jp (pa (ht rfl)) rfl rfl rfl ?_
    refine j_end ?_
    obtain rfl := oi h
    exact run_ret fun a w hst => q_ret1 hst rfl (.tmp rfl) v8 (fun _ _ h => h) (.cons .here <| .nil)
set_option maxRecDepth 100000 in
set_option maxHeartbeats 4000000 in
theorem c_rolodexref02_turned {G : GP} {p_x : BitVec 32} {p_n : BitVec 32} {r : (BitVec 32)} (h : rolodexref02_turned p_x p_n = some r) : Ctr Tryd.prog G 117 [u32.slot p_x, u32.slot p_n] [] (fun (_ : Unit) => u32.slot r) (fun (_ : Unit) => []) := by
  unfold rolodexref02_turned at h
  refine ctr_of_run Tryd.func117 rfl 13 rfl rfl fun m0 w0 b0 => ?_
  show Run _ _ _ [(0, u32.slot p_x), (1, u32.slot p_n)] _
  refine rs ?_
  refine rt ?_
  refine jp (pa (has_un (x := 0#32) rfl)) rfl rfl rfl ?_
  refine j_end ?_
  refine rs ?_
  refine rt ?_
  refine jp (pm (ht rfl)) rfl rfl rfl ?_
  refine jp (pm (ht rfl)) rfl rfl rfl ?_
  refine jp (pj_ushr (k := .u32) (b := 32) rfl (ht rfl) (ht rfl) isInt_un (Int.natCast_nonneg _)) rfl rfl rfl ?_
  refine jp (pm (ht rfl)) rfl rfl rfl ?_
  refine jp (pm (ht rfl)) rfl rfl rfl ?_
  refine jp (pj_usub (k := .u32) (b := 32) rfl rfl (has_un (x := 32#32) rfl) (ht rfl)) rfl rfl rfl ?_
  refine jp (pj_ushl (k := .u32) (b := 32) rfl rfl (ht rfl) (ht rfl) isInt_un (Int.natCast_nonneg _)) rfl rfl rfl ?_
  refine jp (pj_uor (k := .u32) (b := 32) rfl rfl (ht rfl) (ht rfl)) rfl rfl rfl ?_
  obtain ⟨x1, e1, h⟩ := bind_some h
  refine jp (PJ.eqv (pa (ht rfl)) (oi e1)) rfl rfl rfl ?_
  refine j_end ?_
  obtain rfl := oi h
  exact run_ret fun a w hst => q_ret1 hst rfl (.tmp rfl) () (fun _ _ h => h) (.nil)
set_option maxRecDepth 100000 in
set_option maxHeartbeats 4000000 in
theorem c_rolodexref02_words {G : GP} {p_b : List (BitVec 8)} {r : (Vector (BitVec 32) 64)} (h : rolodexref02_words p_b = some r) : Ctr Tryd.prog G 115 [(sl u8).slot p_b] [] (fun (_ : Unit) => (vec 64 u32).slot r) (fun (_ : Unit) => []) := by
  unfold rolodexref02_words at h
  refine ctr_of_run Tryd.func115 rfl 65 rfl rfl fun m0 w0 b0 => ?_
  show Run _ _ _ [(0, (sl u8).slot p_b)] _
  refine rs ?_
  refine rt ?_
  refine j_alloc (x := (Vector.replicate 64 (0#32))) (R := (vec 64 u32)) (zero_vec 64 zero_un) (by kernel_rfl) rfl fun b1 => ?_
  refine j_end ?_
  refine rs ?_
  refine rt ?_
  refine j_alloc (x := (Vector.replicate 64 (0#32))) (R := (vec 64 u32)) (zero_vec 64 zero_un) (by kernel_rfl) rfl fun b2 => ?_
  refine j_end ?_
  refine rs ?_
  refine rs ?_
  refine rt ?_
  refine jp (pa has_i64) rfl rfl rfl ?_
  refine j_end ?_
  obtain ⟨⟨y3, y4⟩, e6, h⟩ := bind_some h
  refine run_loopS (Γi := fun (i : Unit) (s : Int × (Vector (BitVec 32) 64)) => [(0, (sl u8).slot p_b), (2, val (.pointer (some ⟨b1, 0, none⟩))), (3, val (.pointer (some ⟨b2, 0, none⟩))), (4, i64.slot s.1)]) (Hi := fun (i : Unit) (s : Int × (Vector (BitVec 32) 64)) => [box b2 148 (vec 64 u32) s.2, box b1 148 (vec 64 u32) (Vector.replicate 64 (0#32))]) e6 () (fun a w hst => (hst.sub (.cons (.of_lk rfl) <| .cons (.of_lk rfl) <| .cons (.of_lk rfl) <| .cons (.of_lk rfl) <| .nil)).keep (.cons .here <| .cons .here <| .nil)) ?_ ?_
  · clear h e6
    rintro _ ⟨y1, y2⟩ lr h
    change rolodexref02_words_L1 p_b y1 y2 = some _ at h
    show Run _ _ _ [(0, (sl u8).slot p_b), (2, val (.pointer (some ⟨b1, 0, none⟩))), (3, val (.pointer (some ⟨b2, 0, none⟩))), (4, i64.slot y1)] [box b2 148 (vec 64 u32) y2, box b1 148 (vec 64 u32) (Vector.replicate 64 (0#32))]
    unfold rolodexref02_words_L1 at h
    refine rs ?_
    refine rs ?_
    refine rt ?_
    refine jp (pm (ht rfl)) rfl rfl rfl ?_
    refine jp (pj_ilss (ht rfl) has_i64) rfl rfl rfl ?_
    refine j_end ?_
    refine run_cond (ht rfl) (fun e1 => ?_) (fun e1 => ?_)
    · replace h := bt e1 h
      refine run_skip ?_
      refine rs ?_
      refine run_block ?_
      refine rt ?_
      refine jp (pm (ht rfl)) rfl rfl rfl ?_
      refine jp (pm (ht rfl)) rfl rfl rfl ?_
      refine jp (pm (ht rfl)) rfl rfl rfl ?_
      refine jp (pj_imul has_i64 (ht rfl)) rfl rfl rfl ?_
      refine jp (pm (ht rfl)) rfl rfl rfl ?_
      refine jp (pj_imul has_i64 (ht rfl)) rfl rfl rfl ?_
      refine jp (pj_iadd (ht rfl) has_i64) rfl rfl rfl ?_
      obtain ⟨x1, e2, h⟩ := bind_some h
      refine jp (pj_slice_slx (ht rfl) (.yes (ht rfl) isInt_i64) (.yes (ht rfl) isInt_i64) e2 (by kernel_rfl)) rfl rfl rfl ?_
      obtain ⟨r1, e3, h⟩ := bind_some h
      refine jp (pj_call (hc (ht rfl) <| hasL_nil) (by kernel_rfl) (c_rolodexref01_Value e3)) rfl rfl rfl ?_
      refine jp (pj_conv_uu (k := .u32) (b := 32) rfl rfl (by kernel_rfl) (ht rfl)) rfl rfl rfl ?_
      obtain ⟨e4, h⟩ := grd_some h
      refine jp (pj_index_arr (n := 64) (sz := 1) (ht rfl) (ht rfl) isInt_i64 e4.1 e4.2 (by kernel_rfl)) rfl rfl rfl ?_
      obtain ⟨x2, e5, h⟩ := bind_some h
      refine j_store_boxx (r' := x2) (ht rfl) (ht rfl) .here (Path.then (Path.all (vec 64 u32)) (Path.atI 64 u32 y1.toNat (lt_nat e4))) (by kernel_rfl) (oi e5) ?_
      refine j_end ?_
      refine run_endblock ?_
      refine rt ?_
      refine jp (pm (ht rfl)) rfl rfl rfl ?_
      refine jp (pj_iadd (ht rfl) has_i64) rfl rfl rfl ?_
      refine jp (pa (ht rfl)) rfl rfl rfl ?_
      refine j_end ?_
      obtain rfl := oi h
      exact run_next () (.cons (.of_lk rfl) <| .cons (.of_lk rfl) <| .cons (.of_lk rfl) <| .cons (.of_lk rfl) <| .nil) (.cons .here <| .cons .here <| .nil)
    · replace h := bf e1 h
      obtain rfl := oi h
      exact run_brk () (.cons (.of_lk rfl) <| .cons (.of_lk rfl) <| .cons (.of_lk rfl) <| .cons (.of_lk rfl) <| .nil) (.cons .here <| .cons .here <| .nil)
  · rintro _
    show Run _ _ _ [(0, (sl u8).slot p_b), (2, val (.pointer (some ⟨b1, 0, none⟩))), (3, val (.pointer (some ⟨b2, 0, none⟩))), (4, i64.slot y3)] [box b2 148 (vec 64 u32) y4, box b1 148 (vec 64 u32) (Vector.replicate 64 (0#32))]
    refine run_to (Γ' := [(2, val (.pointer (some ⟨b1, 0, none⟩))), (3, val (.pointer (some ⟨b2, 0, none⟩)))]) (H' := [box b2 148 (vec 64 u32) y4, box b1 148 (vec 64 u32) (Vector.replicate 64 (0#32))]) (.cons (.of_lk rfl) <| .cons (.of_lk rfl) <| .nil) (.cons .here <| .cons .here <| .nil) ?_
    refine rs ?_
    refine rs ?_
    refine rt ?_
    refine jp (pa has_i64) rfl rfl rfl ?_
    refine j_end ?_
    obtain ⟨⟨y7, y8⟩, e18, h⟩ := bind_some h
    refine run_loopS (Γi := fun (i : Unit) (s : Int × (Vector (BitVec 32) 64)) => [(2, val (.pointer (some ⟨b1, 0, none⟩))), (3, val (.pointer (some ⟨b2, 0, none⟩))), (5, i64.slot s.1)]) (Hi := fun (i : Unit) (s : Int × (Vector (BitVec 32) 64)) => [box b2 148 (vec 64 u32) s.2, box b1 148 (vec 64 u32) (Vector.replicate 64 (0#32))]) e18 () (fun a w hst => (hst.sub (.cons (.of_lk rfl) <| .cons (.of_lk rfl) <| .cons (.of_lk rfl) <| .nil)).keep (.cons .here <| .cons .here <| .nil)) ?_ ?_
    · clear h e18
      rintro _ ⟨y5, y6⟩ lr h
      change rolodexref02_words_L2 y5 y6 = some _ at h
      show Run _ _ _ [(2, val (.pointer (some ⟨b1, 0, none⟩))), (3, val (.pointer (some ⟨b2, 0, none⟩))), (5, i64.slot y5)] [box b2 148 (vec 64 u32) y6, box b1 148 (vec 64 u32) (Vector.replicate 64 (0#32))]
      unfold rolodexref02_words_L2 at h
      refine rs ?_
      refine rs ?_
      refine rt ?_
      refine jp (pm (ht rfl)) rfl rfl rfl ?_
      refine jp (pj_ilss (ht rfl) has_i64) rfl rfl rfl ?_
      refine j_end ?_
      refine run_cond (ht rfl) (fun e7 => ?_) (fun e7 => ?_)
      · replace h := bt e7 h
        refine run_skip ?_
        refine rs ?_
        refine run_block ?_
        refine rs ?_
        refine rt ?_
        refine jp (pm (ht rfl)) rfl rfl rfl ?_
        refine jp (pj_isub (ht rfl) has_i64) rfl rfl rfl ?_
        obtain ⟨x3, e8, h⟩ := bind_some h
        refine jp (pj_index_arr (n := 64) (sz := 1) (ht rfl) (ht rfl) isInt_i64 (vget_some e8).1 (vget_lt e8) (by kernel_rfl)) rfl rfl rfl ?_
        refine jp (PJ.eqv (pj_load_box (ht rfl) .here (Path.then (Path.all (vec 64 u32)) (Path.atI 64 u32 ((w64 (y5 - (15 : Int))).toNat) (vget_some e8).2.1)) (by kernel_rfl)) (vget_eq e8 (vget_some e8).2.1)) rfl rfl rfl ?_
        refine jp (pa (ht rfl)) rfl rfl rfl ?_
        refine j_end ?_
        refine rs ?_
        refine rt ?_
        refine jp (pm (ht rfl)) rfl rfl rfl ?_
        refine jp (pj_isub (ht rfl) has_i64) rfl rfl rfl ?_
        obtain ⟨x4, e9, h⟩ := bind_some h
        refine jp (pj_index_arr (n := 64) (sz := 1) (ht rfl) (ht rfl) isInt_i64 (vget_some e9).1 (vget_lt e9) (by kernel_rfl)) rfl rfl rfl ?_
        refine jp (PJ.eqv (pj_load_box (ht rfl) .here (Path.then (Path.all (vec 64 u32)) (Path.atI 64 u32 ((w64 (y5 - (2 : Int))).toNat) (vget_some e9).2.1)) (by kernel_rfl)) (vget_eq e9 (vget_some e9).2.1)) rfl rfl rfl ?_
        refine jp (pa (ht rfl)) rfl rfl rfl ?_
        refine j_end ?_
        obtain ⟨x5, e10, h⟩ := bind_some h
        obtain ⟨r2, e11, h⟩ := bind_some h
        obtain ⟨r3, e12, h⟩ := bind_some h
        obtain ⟨x6, e13, h⟩ := bind_some h
        obtain ⟨r4, e14, h⟩ := bind_some h
        obtain ⟨r5, e15, h⟩ := bind_some h
        refine run_draw (n := 28) (by kernel_rfl) (by kernel_rfl) (by kernel_rfl) (by kernel_rfl) (.read (.plain rfl (pm (ht rfl))) <| .read (.plain rfl (pm (ht rfl))) <| .read (.plain rfl (pj_isub (ht rfl) has_i64)) <| .read (.plain rfl (pj_index_arr (n := 64) (sz := 1) (ht rfl) (ht rfl) isInt_i64 (vget_some e10).1 (vget_lt e10) (by kernel_rfl))) <| .read (.plain rfl (PJ.eqv (pj_load_box (ht rfl) .here (Path.then (Path.all (vec 64 u32)) (Path.atI 64 u32 ((w64 (y5 - (16 : Int))).toNat) (vget_some e10).2.1)) (by kernel_rfl)) (vget_eq e10 (vget_some e10).2.1))) <| .read (.plain rfl (pm (ht rfl))) <| .read (.plain rfl (pj_call (hc (ht rfl) <| hc (has_un (x := 7#32) rfl) <| hasL_nil) (by kernel_rfl) (c_rolodexref02_turned e11))) <| .read (.plain rfl (pm (ht rfl))) <| .read (.plain rfl (pj_call (hc (ht rfl) <| hc (has_un (x := 18#32) rfl) <| hasL_nil) (by kernel_rfl) (c_rolodexref02_turned e12))) <| .read (.plain rfl (pj_uxor (k := .u32) (b := 32) rfl rfl (ht rfl) (ht rfl))) <| .read (.plain rfl (pm (ht rfl))) <| .read (.plain rfl (pj_uquo (k := .u32) (b := 32) rfl rfl (ht rfl) (has_un (x := 8#32) rfl) (by decide))) <| .read (.plain rfl (pj_uxor (k := .u32) (b := 32) rfl rfl (ht rfl) (ht rfl))) <| .read (.plain rfl (pj_uadd (k := .u32) (b := 32) rfl rfl (ht rfl) (ht rfl))) <| .read (.plain rfl (pm (ht rfl))) <| .read (.plain rfl (pj_isub (ht rfl) has_i64)) <| .read (.plain rfl (pj_index_arr (n := 64) (sz := 1) (ht rfl) (ht rfl) isInt_i64 (vget_some e13).1 (vget_lt e13) (by kernel_rfl))) <| .read (.plain rfl (PJ.eqv (pj_load_box (ht rfl) .here (Path.then (Path.all (vec 64 u32)) (Path.atI 64 u32 ((w64 (y5 - (7 : Int))).toNat) (vget_some e13).2.1)) (by kernel_rfl)) (vget_eq e13 (vget_some e13).2.1))) <| .read (.plain rfl (pj_uadd (k := .u32) (b := 32) rfl rfl (ht rfl) (ht rfl))) <| .read (.plain rfl (pm (ht rfl))) <| .read (.plain rfl (pj_call (hc (ht rfl) <| hc (has_un (x := 17#32) rfl) <| hasL_nil) (by kernel_rfl) (c_rolodexref02_turned e14))) <| .read (.plain rfl (pm (ht rfl))) <| .read (.plain rfl (pj_call (hc (ht rfl) <| hc (has_un (x := 19#32) rfl) <| hasL_nil) (by kernel_rfl) (c_rolodexref02_turned e15))) <| .read (.plain rfl (pj_uxor (k := .u32) (b := 32) rfl rfl (ht rfl) (ht rfl))) <| .read (.plain rfl (pm (ht rfl))) <| .read (.plain rfl (pj_uquo (k := .u32) (b := 32) rfl rfl (ht rfl) (has_un (x := 1024#32) rfl) (by decide))) <| .read (.plain rfl (pj_uxor (k := .u32) (b := 32) rfl rfl (ht rfl) (ht rfl))) <| .read (.plain rfl (pj_uadd (k := .u32) (b := 32) rfl rfl (ht rfl) (ht rfl))) <| .nil) (j_to (Γ' := [(2, val (.pointer (some ⟨b1, 0, none⟩))), (3, val (.pointer (some ⟨b2, 0, none⟩))), (5, i64.slot y5), (35, i64.slot y5), (62, u32.slot (((x5 + ((r2 ^^^ r3) ^^^ (x3 / (8#32)))) + x6) + ((r4 ^^^ r5) ^^^ (x4 / (1024#32)))))]) (H' := [box b2 148 (vec 64 u32) y6, box b1 148 (vec 64 u32) (Vector.replicate 64 (0#32))]) (.cons (.of_lk rfl) <| .cons (.of_lk rfl) <| .cons (.of_lk rfl) <| .cons (.of_lk rfl) <| .cons (.of_lk rfl) <| .nil) (.cons .here <| .cons .here <| .nil) ?_)
        obtain ⟨e16, h⟩ := grd_some h
        refine jp (pj_index_arr (n := 64) (sz := 1) (ht rfl) (ht rfl) isInt_i64 e16.1 e16.2 (by kernel_rfl)) rfl rfl rfl ?_
        obtain ⟨x7, e17, h⟩ := bind_some h
        refine j_store_boxx (r' := x7) (ht rfl) (ht rfl) .here (Path.then (Path.all (vec 64 u32)) (Path.atI 64 u32 y5.toNat (lt_nat e16))) (by kernel_rfl) (oi e17) ?_
        refine j_end ?_
        refine run_endblock ?_
        refine rt ?_
        refine jp (pm (ht rfl)) rfl rfl rfl ?_
        refine jp (pj_iadd (ht rfl) has_i64) rfl rfl rfl ?_
        refine jp (pa (ht rfl)) rfl rfl rfl ?_
        refine j_end ?_
        obtain rfl := oi h
        exact run_next () (.cons (.of_lk rfl) <| .cons (.of_lk rfl) <| .cons (.of_lk rfl) <| .nil) (.cons .here <| .cons .here <| .nil)
      · replace h := bf e7 h
        obtain rfl := oi h
        exact run_brk () (.cons (.of_lk rfl) <| .cons (.of_lk rfl) <| .cons (.of_lk rfl) <| .nil) (.cons .here <| .cons .here <| .nil)
    · rintro _
      show Run _ _ _ [(2, val (.pointer (some ⟨b1, 0, none⟩))), (3, val (.pointer (some ⟨b2, 0, none⟩))), (5, i64.slot y7)] [box b2 148 (vec 64 u32) y8, box b1 148 (vec 64 u32) (Vector.replicate 64 (0#32))]
      refine run_to (Γ' := [(2, val (.pointer (some ⟨b1, 0, none⟩))), (3, val (.pointer (some ⟨b2, 0, none⟩)))]) (H' := [box b2 148 (vec 64 u32) y8, box b1 148 (vec 64 u32) (Vector.replicate 64 (0#32))]) (.cons (.of_lk rfl) <| .cons (.of_lk rfl) <| .nil) (.cons .here <| .cons .here <| .nil) ?_
      refine rs ?_
      refine rt ?_
      refine jp (pj_load_box (ht rfl) .here (Path.all (vec 64 u32)) (by kernel_rfl)) rfl rfl rfl ?_
      refine j_store_boxx (r' := y8) (ht rfl) (ht rfl) (.next .here) (Path.all (vec 64 u32)) (by kernel_rfl) rfl ?_
      refine j_end ?_
      obtain rfl := oi h
      exact run_ret fun a w hst => q_ret1 hst rfl (.cell rfl .here (by kernel_rfl)) () (fun _ _ h => h) (.nil)
set_option maxRecDepth 100000 in
set_option maxHeartbeats 4000000 in
theorem c_rolodexref02_K {G : GP} {r : (Vector (BitVec 32) 64)} (h : rolodexref02_K = some r) : Ctr Tryd.prog G 116 [] [] (fun (_ : Unit) => (vec 64 u32).slot r) (fun (_ : Unit) => []) := by
  unfold rolodexref02_K at h
  refine ctr_of_run Tryd.func116 rfl 2 rfl rfl fun m0 w0 b0 => ?_
  show Run _ _ _ [] _
  refine rs ?_
  refine rt ?_
  refine j_alloc (x := (Vector.replicate 64 (0#32))) (R := (vec 64 u32)) (zero_vec 64 zero_un) (by kernel_rfl) rfl fun b1 => ?_
  refine j_end ?_
  refine rs ?_
  refine rt ?_
  obtain ⟨x1, e1, h⟩ := bind_some h
  refine jp (PJ.eqv (pj_buildArr (z0 := 0#32) (zero_vec 64 zero_un) (by kernel_rfl) (.cons (has_un (x := 1116352408#32) rfl) (.cons (has_un (x := 1899447441#32) rfl) (.cons (has_un (x := 3049323471#32) rfl) (.cons (has_un (x := 3921009573#32) rfl) (.cons (has_un (x := 961987163#32) rfl) (.cons (has_un (x := 1508970993#32) rfl) (.cons (has_un (x := 2453635748#32) rfl) (.cons (has_un (x := 2870763221#32) rfl) (.cons (has_un (x := 3624381080#32) rfl) (.cons (has_un (x := 310598401#32) rfl) (.cons (has_un (x := 607225278#32) rfl) (.cons (has_un (x := 1426881987#32) rfl) (.cons (has_un (x := 1925078388#32) rfl) (.cons (has_un (x := 2162078206#32) rfl) (.cons (has_un (x := 2614888103#32) rfl) (.cons (has_un (x := 3248222580#32) rfl) (.cons (has_un (x := 3835390401#32) rfl) (.cons (has_un (x := 4022224774#32) rfl) (.cons (has_un (x := 264347078#32) rfl) (.cons (has_un (x := 604807628#32) rfl) (.cons (has_un (x := 770255983#32) rfl) (.cons (has_un (x := 1249150122#32) rfl) (.cons (has_un (x := 1555081692#32) rfl) (.cons (has_un (x := 1996064986#32) rfl) (.cons (has_un (x := 2554220882#32) rfl) (.cons (has_un (x := 2821834349#32) rfl) (.cons (has_un (x := 2952996808#32) rfl) (.cons (has_un (x := 3210313671#32) rfl) (.cons (has_un (x := 3336571891#32) rfl) (.cons (has_un (x := 3584528711#32) rfl) (.cons (has_un (x := 113926993#32) rfl) (.cons (has_un (x := 338241895#32) rfl) (.cons (has_un (x := 666307205#32) rfl) (.cons (has_un (x := 773529912#32) rfl) (.cons (has_un (x := 1294757372#32) rfl) (.cons (has_un (x := 1396182291#32) rfl) (.cons (has_un (x := 1695183700#32) rfl) (.cons (has_un (x := 1986661051#32) rfl) (.cons (has_un (x := 2177026350#32) rfl) (.cons (has_un (x := 2456956037#32) rfl) (.cons (has_un (x := 2730485921#32) rfl) (.cons (has_un (x := 2820302411#32) rfl) (.cons (has_un (x := 3259730800#32) rfl) (.cons (has_un (x := 3345764771#32) rfl) (.cons (has_un (x := 3516065817#32) rfl) (.cons (has_un (x := 3600352804#32) rfl) (.cons (has_un (x := 4094571909#32) rfl) (.cons (has_un (x := 275423344#32) rfl) (.cons (has_un (x := 430227734#32) rfl) (.cons (has_un (x := 506948616#32) rfl) (.cons (has_un (x := 659060556#32) rfl) (.cons (has_un (x := 883997877#32) rfl) (.cons (has_un (x := 958139571#32) rfl) (.cons (has_un (x := 1322822218#32) rfl) (.cons (has_un (x := 1537002063#32) rfl) (.cons (has_un (x := 1747873779#32) rfl) (.cons (has_un (x := 1955562222#32) rfl) (.cons (has_un (x := 2024104815#32) rfl) (.cons (has_un (x := 2227730452#32) rfl) (.cons (has_un (x := 2361852424#32) rfl) (.cons (has_un (x := 2428436474#32) rfl) (.cons (has_un (x := 2756734187#32) rfl) (.cons (has_un (x := 3204031479#32) rfl) (.cons (has_un (x := 3329325298#32) rfl) .nil)))))))))))))))))))))))))))))))))))))))))))))))))))))))))))))))) (by kernel_rfl) rfl) (oi e1)) rfl rfl rfl ?_
  refine j_store_boxx (r' := x1) (ht rfl) (ht rfl) .here (Path.all (vec 64 u32)) (by kernel_rfl) rfl ?_
  refine j_end ?_
  obtain rfl := oi h
  exact run_ret fun a w hst => q_ret1 hst rfl (.cell rfl .here (by kernel_rfl)) () (fun _ _ h => h) (.nil)
set_option maxRecDepth 100000 in
set_option maxHeartbeats 4000000 in
theorem c_rolodexref02_take {G : GP} {p_h : Vector (BitVec 32) 8} {p_block : List (BitVec 8)} {r : (Vector (BitVec 32) 8)} (h : rolodexref02_take p_h p_block = some r) : Ctr Tryd.prog G 111 [(vec 8 u32).slot p_h, (sl u8).slot p_block] [] (fun (_ : Unit) => (vec 8 u32).slot r) (fun (_ : Unit) => []) := by
  unfold rolodexref02_take at h
  refine ctr_of_run Tryd.func111 rfl 121 rfl rfl fun m0 w0 b0 => ?_
  show Run _ _ _ [(0, (vec 8 u32).slot p_h), (1, (sl u8).slot p_block)] _
  refine rs ?_
  refine rt ?_
  refine j_box (ht rfl) rfl fun b1 => ?_
  refine j_alloc (x := (Vector.replicate 8 (0#32))) (R := (vec 8 u32)) (zero_vec 8 zero_un) (by kernel_rfl) rfl fun b2 => ?_
  refine j_end ?_
  refine rs ?_
  refine rt ?_
  refine jp (pm (ht rfl)) rfl rfl rfl ?_
  obtain ⟨r1, e1, h⟩ := bind_some h
  refine jp (pj_call (hc (ht rfl) <| hasL_nil) (by kernel_rfl) (c_rolodexref02_words e1)) rfl rfl rfl ?_
  refine j_alloc (x := (Vector.replicate 64 (0#32))) (R := (vec 64 u32)) (zero_vec 64 zero_un) (by kernel_rfl) rfl fun b3 => ?_
  refine j_store_boxx (r' := r1) (ht rfl) (ht rfl) .here (Path.all (vec 64 u32)) (by kernel_rfl) rfl ?_
  refine j_freezeTo (t := 5) .here (.of_lk rfl) ?_
  refine j_end ?_
  refine rs ?_
  refine rt ?_
  obtain ⟨r2, e2, h⟩ := bind_some h
  refine jp (pj_call (hasL_nil) (by kernel_rfl) (c_rolodexref02_K e2)) rfl rfl rfl ?_
  refine j_alloc (x := (Vector.replicate 64 (0#32))) (R := (vec 64 u32)) (zero_vec 64 zero_un) (by kernel_rfl) rfl fun b4 => ?_
  refine j_store_boxx (r' := r2) (ht rfl) (ht rfl) .here (Path.all (vec 64 u32)) (by kernel_rfl) rfl ?_
  refine j_freezeTo (t := 6) .here (.of_lk rfl) ?_
  refine j_end ?_
  refine rs ?_
  refine rt ?_
  refine jp (pj_load_box (ht rfl) (.next .here) (Path.all (vec 8 u32)) (by kernel_rfl)) rfl rfl rfl ?_
  refine j_alloc (x := (Vector.replicate 8 (0#32))) (R := (vec 8 u32)) (zero_vec 8 zero_un) (by kernel_rfl) rfl fun b5 => ?_
  refine j_store_boxx (r' := p_h) (ht rfl) (ht rfl) .here (Path.all (vec 8 u32)) (by kernel_rfl) rfl ?_
  refine j_end ?_
  refine rs ?_
  refine rs ?_
  refine rt ?_
  refine jp (pa has_i64) rfl rfl rfl ?_
  refine j_end ?_
  obtain ⟨⟨y3, y4⟩, e16, h⟩ := bind_some h
  refine run_loopS (Γi := fun (i : Unit) (s : Int × (Vector (BitVec 32) 8)) => [(2, val (.pointer (some ⟨b1, 0, none⟩))), (4, val (.pointer (some ⟨b2, 0, none⟩))), (5, ptrTo (vec 64 u32) r1), (6, ptrTo (vec 64 u32) r2), (7, val (.pointer (some ⟨b5, 0, none⟩))), (8, i64.slot s.1)]) (Hi := fun (i : Unit) (s : Int × (Vector (BitVec 32) 8)) => [box b5 142 (vec 8 u32) s.2, box b2 142 (vec 8 u32) (Vector.replicate 8 (0#32)), box b1 142 (vec 8 u32) p_h]) e16 () (fun a w hst => (hst.sub (.cons (.of_lk rfl) <| .cons (.of_lk rfl) <| .cons (.of_lk rfl) <| .cons (.of_lk rfl) <| .cons (.of_lk rfl) <| .cons (.of_lk rfl) <| .nil)).keep (.cons .here <| .cons .here <| .cons .here <| .nil)) ?_ ?_
  · clear h e16
    rintro _ ⟨y1, y2⟩ lr h
    change rolodexref02_take_L1 r2 r1 y1 y2 = some _ at h
    show Run _ _ _ [(2, val (.pointer (some ⟨b1, 0, none⟩))), (4, val (.pointer (some ⟨b2, 0, none⟩))), (5, ptrTo (vec 64 u32) r1), (6, ptrTo (vec 64 u32) r2), (7, val (.pointer (some ⟨b5, 0, none⟩))), (8, i64.slot y1)] [box b5 142 (vec 8 u32) y2, box b2 142 (vec 8 u32) (Vector.replicate 8 (0#32)), box b1 142 (vec 8 u32) p_h]
    unfold rolodexref02_take_L1 at h
    refine rs ?_
    refine rs ?_
    refine rt ?_
    refine jp (pm (ht rfl)) rfl rfl rfl ?_
    refine jp (pj_ilss (ht rfl) has_i64) rfl rfl rfl ?_
    refine j_end ?_
    refine run_cond (ht rfl) (fun e3 => ?_) (fun e3 => ?_)
    · replace h := bt e3 h
      refine run_skip ?_
      refine rs ?_
      refine run_block ?_
      refine rs ?_
      refine rt ?_
      refine jp (pj_index_arr (n := 8) (sz := 1) (ht rfl) has_i64 isInt_i64 (by decide) (by decide) (by kernel_rfl)) rfl rfl rfl ?_
      refine jp (pj_load_box (ht rfl) .here (Path.then (Path.all (vec 8 u32)) (Path.at 8 u32 4 (by decide))) (by kernel_rfl)) rfl rfl rfl ?_
      refine jp (pj_index_arr (n := 8) (sz := 1) (ht rfl) has_i64 isInt_i64 (by decide) (by decide) (by kernel_rfl)) rfl rfl rfl ?_
      refine jp (pj_load_box (ht rfl) .here (Path.then (Path.all (vec 8 u32)) (Path.at 8 u32 5 (by decide))) (by kernel_rfl)) rfl rfl rfl ?_
      refine jp (pj_uand (k := .u32) (b := 32) rfl rfl (ht rfl) (ht rfl)) rfl rfl rfl ?_
      refine jp (pj_index_arr (n := 8) (sz := 1) (ht rfl) has_i64 isInt_i64 (by decide) (by decide) (by kernel_rfl)) rfl rfl rfl ?_
      refine jp (pj_load_box (ht rfl) .here (Path.then (Path.all (vec 8 u32)) (Path.at 8 u32 4 (by decide))) (by kernel_rfl)) rfl rfl rfl ?_
      refine jp (pj_usub (k := .u32) (b := 32) rfl rfl (has_un (x := 4294967295#32) rfl) (ht rfl)) rfl rfl rfl ?_
      refine jp (pj_index_arr (n := 8) (sz := 1) (ht rfl) has_i64 isInt_i64 (by decide) (by decide) (by kernel_rfl)) rfl rfl rfl ?_
      refine jp (pj_load_box (ht rfl) .here (Path.then (Path.all (vec 8 u32)) (Path.at 8 u32 6 (by decide))) (by kernel_rfl)) rfl rfl rfl ?_
      refine jp (pj_uand (k := .u32) (b := 32) rfl rfl (ht rfl) (ht rfl)) rfl rfl rfl ?_
      refine jp (pj_uor (k := .u32) (b := 32) rfl rfl (ht rfl) (ht rfl)) rfl rfl rfl ?_
      obtain ⟨x1, e4, h⟩ := bind_some h
      refine jp (PJ.eqv (pa (ht rfl)) (oi e4)) rfl rfl rfl ?_
      refine j_end ?_
      refine rs ?_
      refine rt ?_
      refine jp (pj_index_arr (n := 8) (sz := 1) (ht rfl) has_i64 isInt_i64 (by decide) (by decide) (by kernel_rfl)) rfl rfl rfl ?_
      refine jp (pj_load_box (ht rfl) .here (Path.then (Path.all (vec 8 u32)) (Path.at 8 u32 0 (by decide))) (by kernel_rfl)) rfl rfl rfl ?_
      refine jp (pj_index_arr (n := 8) (sz := 1) (ht rfl) has_i64 isInt_i64 (by decide) (by decide) (by kernel_rfl)) rfl rfl rfl ?_
      refine jp (pj_load_box (ht rfl) .here (Path.then (Path.all (vec 8 u32)) (Path.at 8 u32 1 (by decide))) (by kernel_rfl)) rfl rfl rfl ?_
      refine jp (pj_uand (k := .u32) (b := 32) rfl rfl (ht rfl) (ht rfl)) rfl rfl rfl ?_
      refine jp (pj_index_arr (n := 8) (sz := 1) (ht rfl) has_i64 isInt_i64 (by decide) (by decide) (by kernel_rfl)) rfl rfl rfl ?_
      refine jp (pj_load_box (ht rfl) .here (Path.then (Path.all (vec 8 u32)) (Path.at 8 u32 0 (by decide))) (by kernel_rfl)) rfl rfl rfl ?_
      refine jp (pj_index_arr (n := 8) (sz := 1) (ht rfl) has_i64 isInt_i64 (by decide) (by decide) (by kernel_rfl)) rfl rfl rfl ?_
      refine jp (pj_load_box (ht rfl) .here (Path.then (Path.all (vec 8 u32)) (Path.at 8 u32 2 (by decide))) (by kernel_rfl)) rfl rfl rfl ?_
      refine jp (pj_uand (k := .u32) (b := 32) rfl rfl (ht rfl) (ht rfl)) rfl rfl rfl ?_
      refine jp (pj_uor (k := .u32) (b := 32) rfl rfl (ht rfl) (ht rfl)) rfl rfl rfl ?_
      refine jp (pj_index_arr (n := 8) (sz := 1) (ht rfl) has_i64 isInt_i64 (by decide) (by decide) (by kernel_rfl)) rfl rfl rfl ?_
      refine jp (pj_load_box (ht rfl) .here (Path.then (Path.all (vec 8 u32)) (Path.at 8 u32 1 (by decide))) (by kernel_rfl)) rfl rfl rfl ?_
      refine jp (pj_index_arr (n := 8) (sz := 1) (ht rfl) has_i64 isInt_i64 (by decide) (by decide) (by kernel_rfl)) rfl rfl rfl ?_
      refine jp (pj_load_box (ht rfl) .here (Path.then (Path.all (vec 8 u32)) (Path.at 8 u32 2 (by decide))) (by kernel_rfl)) rfl rfl rfl ?_
      refine jp (pj_uand (k := .u32) (b := 32) rfl rfl (ht rfl) (ht rfl)) rfl rfl rfl ?_
      refine jp (pj_uor (k := .u32) (b := 32) rfl rfl (ht rfl) (ht rfl)) rfl rfl rfl ?_
      obtain ⟨x2, e5, h⟩ := bind_some h
      refine jp (PJ.eqv (pa (ht rfl)) (oi e5)) rfl rfl rfl ?_
      refine j_end ?_
      refine rs ?_
      obtain ⟨r3, e6, h⟩ := bind_some h
      obtain ⟨r4, e7, h⟩ := bind_some h
      obtain ⟨r5, e8, h⟩ := bind_some h
      obtain ⟨x3, e9, h⟩ := bind_some h
      obtain ⟨x4, e10, h⟩ := bind_some h
      refine run_draw (n := 23) (by kernel_rfl) (by kernel_rfl) (by kernel_rfl) (by kernel_rfl) (.read (.plain rfl (pj_index_arr (n := 8) (sz := 1) (ht rfl) has_i64 isInt_i64 (by decide) (by decide) (by kernel_rfl))) <| .read (.plain rfl (pj_load_box (ht rfl) .here (Path.then (Path.all (vec 8 u32)) (Path.at 8 u32 7 (by decide))) (by kernel_rfl))) <| .read (.plain rfl (pj_index_arr (n := 8) (sz := 1) (ht rfl) has_i64 isInt_i64 (by decide) (by decide) (by kernel_rfl))) <| .read (.plain rfl (pj_load_box (ht rfl) .here (Path.then (Path.all (vec 8 u32)) (Path.at 8 u32 4 (by decide))) (by kernel_rfl))) <| .read (.plain rfl (pj_call (hc (ht rfl) <| hc (has_un (x := 6#32) rfl) <| hasL_nil) (by kernel_rfl) (c_rolodexref02_turned e6))) <| .read (.plain rfl (pj_index_arr (n := 8) (sz := 1) (ht rfl) has_i64 isInt_i64 (by decide) (by decide) (by kernel_rfl))) <| .read (.plain rfl (pj_load_box (ht rfl) .here (Path.then (Path.all (vec 8 u32)) (Path.at 8 u32 4 (by decide))) (by kernel_rfl))) <| .read (.plain rfl (pj_call (hc (ht rfl) <| hc (has_un (x := 11#32) rfl) <| hasL_nil) (by kernel_rfl) (c_rolodexref02_turned e7))) <| .read (.plain rfl (pj_uxor (k := .u32) (b := 32) rfl rfl (ht rfl) (ht rfl))) <| .read (.plain rfl (pj_index_arr (n := 8) (sz := 1) (ht rfl) has_i64 isInt_i64 (by decide) (by decide) (by kernel_rfl))) <| .read (.plain rfl (pj_load_box (ht rfl) .here (Path.then (Path.all (vec 8 u32)) (Path.at 8 u32 4 (by decide))) (by kernel_rfl))) <| .read (.plain rfl (pj_call (hc (ht rfl) <| hc (has_un (x := 25#32) rfl) <| hasL_nil) (by kernel_rfl) (c_rolodexref02_turned e8))) <| .read (.plain rfl (pj_uxor (k := .u32) (b := 32) rfl rfl (ht rfl) (ht rfl))) <| .read (.plain rfl (pj_uadd (k := .u32) (b := 32) rfl rfl (ht rfl) (ht rfl))) <| .read (.plain rfl (pm (ht rfl))) <| .read (.plain rfl (pj_uadd (k := .u32) (b := 32) rfl rfl (ht rfl) (ht rfl))) <| .read (.plain rfl (pm (ht rfl))) <| .read (.plain rfl (pj_index_tox (ht rfl) (ht rfl) isInt_i64 e9 (by kernel_rfl))) <| .read (.plain rfl (pl (ht rfl) (by kernel_rfl))) <| .read (.plain rfl (pj_uadd (k := .u32) (b := 32) rfl rfl (ht rfl) (ht rfl))) <| .read (.plain rfl (pm (ht rfl))) <| .read (.plain rfl (pj_index_tox (ht rfl) (ht rfl) isInt_i64 e10 (by kernel_rfl))) <| .read (.plain rfl (pl (ht rfl) (by kernel_rfl))) <| .nil) (j_to (Γ' := [(2, val (.pointer (some ⟨b1, 0, none⟩))), (4, val (.pointer (some ⟨b2, 0, none⟩))), (5, ptrTo (vec 64 u32) r1), (6, ptrTo (vec 64 u32) r2), (7, val (.pointer (some ⟨b5, 0, none⟩))), (8, i64.slot y1), (10, u32.slot x2), (70, u32.slot ((((y2[7]) + ((r3 ^^^ r4) ^^^ r5)) + x1) + x3)), (73, u32.slot x4)]) (H' := [box b5 142 (vec 8 u32) y2, box b2 142 (vec 8 u32) (Vector.replicate 8 (0#32)), box b1 142 (vec 8 u32) p_h]) (.cons (.of_lk rfl) <| .cons (.of_lk rfl) <| .cons (.of_lk rfl) <| .cons (.of_lk rfl) <| .cons (.of_lk rfl) <| .cons (.of_lk rfl) <| .cons (.of_lk rfl) <| .cons (.of_lk rfl) <| .cons (.of_lk rfl) <| .nil) (.cons .here <| .cons .here <| .cons .here <| .nil) ?_)
      refine jp (pj_uadd (k := .u32) (b := 32) rfl rfl (ht rfl) (ht rfl)) rfl rfl rfl ?_
      obtain ⟨x5, e11, h⟩ := bind_some h
      refine jp (PJ.eqv (pa (ht rfl)) (oi e11)) rfl rfl rfl ?_
      refine j_end ?_
      refine rs ?_
      obtain ⟨r6, e12, h⟩ := bind_some h
      obtain ⟨r7, e13, h⟩ := bind_some h
      obtain ⟨r8, e14, h⟩ := bind_some h
      refine run_draw (n := 12) (by kernel_rfl) (by kernel_rfl) (by kernel_rfl) (by kernel_rfl) (.read (.plain rfl (pj_index_arr (n := 8) (sz := 1) (ht rfl) has_i64 isInt_i64 (by decide) (by decide) (by kernel_rfl))) <| .read (.plain rfl (pj_load_box (ht rfl) .here (Path.then (Path.all (vec 8 u32)) (Path.at 8 u32 0 (by decide))) (by kernel_rfl))) <| .read (.plain rfl (pj_call (hc (ht rfl) <| hc (has_un (x := 2#32) rfl) <| hasL_nil) (by kernel_rfl) (c_rolodexref02_turned e12))) <| .read (.plain rfl (pj_index_arr (n := 8) (sz := 1) (ht rfl) has_i64 isInt_i64 (by decide) (by decide) (by kernel_rfl))) <| .read (.plain rfl (pj_load_box (ht rfl) .here (Path.then (Path.all (vec 8 u32)) (Path.at 8 u32 0 (by decide))) (by kernel_rfl))) <| .read (.plain rfl (pj_call (hc (ht rfl) <| hc (has_un (x := 13#32) rfl) <| hasL_nil) (by kernel_rfl) (c_rolodexref02_turned e13))) <| .read (.plain rfl (pj_uxor (k := .u32) (b := 32) rfl rfl (ht rfl) (ht rfl))) <| .read (.plain rfl (pj_index_arr (n := 8) (sz := 1) (ht rfl) has_i64 isInt_i64 (by decide) (by decide) (by kernel_rfl))) <| .read (.plain rfl (pj_load_box (ht rfl) .here (Path.then (Path.all (vec 8 u32)) (Path.at 8 u32 0 (by decide))) (by kernel_rfl))) <| .read (.plain rfl (pj_call (hc (ht rfl) <| hc (has_un (x := 22#32) rfl) <| hasL_nil) (by kernel_rfl) (c_rolodexref02_turned e14))) <| .read (.plain rfl (pj_uxor (k := .u32) (b := 32) rfl rfl (ht rfl) (ht rfl))) <| .read (.plain rfl (pm (ht rfl))) <| .nil) (j_to (Γ' := [(2, val (.pointer (some ⟨b1, 0, none⟩))), (4, val (.pointer (some ⟨b2, 0, none⟩))), (5, ptrTo (vec 64 u32) r1), (6, ptrTo (vec 64 u32) r2), (7, val (.pointer (some ⟨b5, 0, none⟩))), (8, i64.slot y1), (11, u32.slot x5), (85, u32.slot ((r6 ^^^ r7) ^^^ r8)), (86, u32.slot x2)]) (H' := [box b5 142 (vec 8 u32) y2, box b2 142 (vec 8 u32) (Vector.replicate 8 (0#32)), box b1 142 (vec 8 u32) p_h]) (.cons (.of_lk rfl) <| .cons (.of_lk rfl) <| .cons (.of_lk rfl) <| .cons (.of_lk rfl) <| .cons (.of_lk rfl) <| .cons (.of_lk rfl) <| .cons (.of_lk rfl) <| .cons (.of_lk rfl) <| .cons (.of_lk rfl) <| .nil) (.cons .here <| .cons .here <| .cons .here <| .nil) ?_)
      refine jp (pj_uadd (k := .u32) (b := 32) rfl rfl (ht rfl) (ht rfl)) rfl rfl rfl ?_
      refine jp (pa (ht rfl)) rfl rfl rfl ?_
      refine j_end ?_
      refine rt ?_
      refine jp (pm (ht rfl)) rfl rfl rfl ?_
      refine jp (pm (ht rfl)) rfl rfl rfl ?_
      refine jp (pj_uadd (k := .u32) (b := 32) rfl rfl (ht rfl) (ht rfl)) rfl rfl rfl ?_
      refine jp (pj_index_arr (n := 8) (sz := 1) (ht rfl) has_i64 isInt_i64 (by decide) (by decide) (by kernel_rfl)) rfl rfl rfl ?_
      refine jp (pj_load_box (ht rfl) .here (Path.then (Path.all (vec 8 u32)) (Path.at 8 u32 0 (by decide))) (by kernel_rfl)) rfl rfl rfl ?_
      refine jp (pj_index_arr (n := 8) (sz := 1) (ht rfl) has_i64 isInt_i64 (by decide) (by decide) (by kernel_rfl)) rfl rfl rfl ?_
      refine jp (pj_load_box (ht rfl) .here (Path.then (Path.all (vec 8 u32)) (Path.at 8 u32 1 (by decide))) (by kernel_rfl)) rfl rfl rfl ?_
      refine jp (pj_index_arr (n := 8) (sz := 1) (ht rfl) has_i64 isInt_i64 (by decide) (by decide) (by kernel_rfl)) rfl rfl rfl ?_
      refine jp (pj_load_box (ht rfl) .here (Path.then (Path.all (vec 8 u32)) (Path.at 8 u32 2 (by decide))) (by kernel_rfl)) rfl rfl rfl ?_
      refine jp (pj_index_arr (n := 8) (sz := 1) (ht rfl) has_i64 isInt_i64 (by decide) (by decide) (by kernel_rfl)) rfl rfl rfl ?_
      refine jp (pj_load_box (ht rfl) .here (Path.then (Path.all (vec 8 u32)) (Path.at 8 u32 3 (by decide))) (by kernel_rfl)) rfl rfl rfl ?_
      refine jp (pm (ht rfl)) rfl rfl rfl ?_
      refine jp (pj_uadd (k := .u32) (b := 32) rfl rfl (ht rfl) (ht rfl)) rfl rfl rfl ?_
      refine jp (pj_index_arr (n := 8) (sz := 1) (ht rfl) has_i64 isInt_i64 (by decide) (by decide) (by kernel_rfl)) rfl rfl rfl ?_
      refine jp (pj_load_box (ht rfl) .here (Path.then (Path.all (vec 8 u32)) (Path.at 8 u32 4 (by decide))) (by kernel_rfl)) rfl rfl rfl ?_
      refine jp (pj_index_arr (n := 8) (sz := 1) (ht rfl) has_i64 isInt_i64 (by decide) (by decide) (by kernel_rfl)) rfl rfl rfl ?_
      refine jp (pj_load_box (ht rfl) .here (Path.then (Path.all (vec 8 u32)) (Path.at 8 u32 5 (by decide))) (by kernel_rfl)) rfl rfl rfl ?_
      refine jp (pj_index_arr (n := 8) (sz := 1) (ht rfl) has_i64 isInt_i64 (by decide) (by decide) (by kernel_rfl)) rfl rfl rfl ?_
      refine jp (pj_load_box (ht rfl) .here (Path.then (Path.all (vec 8 u32)) (Path.at 8 u32 6 (by decide))) (by kernel_rfl)) rfl rfl rfl ?_
      obtain ⟨x6, e15, h⟩ := bind_some h
      refine jp (PJ.eqv (pj_buildArr (z0 := 0#32) (zero_vec 8 zero_un) (by kernel_rfl) (.cons (ht rfl) (.cons (ht rfl) (.cons (ht rfl) (.cons (ht rfl) (.cons (ht rfl) (.cons (ht rfl) (.cons (ht rfl) (.cons (ht rfl) .nil)))))))) (by kernel_rfl) rfl) (oi e15)) rfl rfl rfl ?_
      refine j_store_boxx (r' := x6) (ht rfl) (ht rfl) .here (Path.all (vec 8 u32)) (by kernel_rfl) rfl ?_
      refine j_end ?_
      refine run_endblock ?_
      refine rt ?_
      refine jp (pm (ht rfl)) rfl rfl rfl ?_
      refine jp (pj_iadd (ht rfl) has_i64) rfl rfl rfl ?_
      refine jp (pa (ht rfl)) rfl rfl rfl ?_
      refine j_end ?_
      obtain rfl := oi h
      exact run_next () (.cons (.of_lk rfl) <| .cons (.of_lk rfl) <| .cons (.of_lk rfl) <| .cons (.of_lk rfl) <| .cons (.of_lk rfl) <| .cons (.of_lk rfl) <| .nil) (.cons .here <| .cons .here <| .cons .here <| .nil)
    · replace h := bf e3 h
      obtain rfl := oi h
      exact run_brk () (.cons (.of_lk rfl) <| .cons (.of_lk rfl) <| .cons (.of_lk rfl) <| .cons (.of_lk rfl) <| .cons (.of_lk rfl) <| .cons (.of_lk rfl) <| .nil) (.cons .here <| .cons .here <| .cons .here <| .nil)
  · rintro _
    show Run _ _ _ [(2, val (.pointer (some ⟨b1, 0, none⟩))), (4, val (.pointer (some ⟨b2, 0, none⟩))), (5, ptrTo (vec 64 u32) r1), (6, ptrTo (vec 64 u32) r2), (7, val (.pointer (some ⟨b5, 0, none⟩))), (8, i64.slot y3)] [box b5 142 (vec 8 u32) y4, box b2 142 (vec 8 u32) (Vector.replicate 8 (0#32)), box b1 142 (vec 8 u32) p_h]
    refine run_to (Γ' := [(2, val (.pointer (some ⟨b1, 0, none⟩))), (4, val (.pointer (some ⟨b2, 0, none⟩))), (7, val (.pointer (some ⟨b5, 0, none⟩)))]) (H' := [box b5 142 (vec 8 u32) y4, box b2 142 (vec 8 u32) (Vector.replicate 8 (0#32)), box b1 142 (vec 8 u32) p_h]) (.cons (.of_lk rfl) <| .cons (.of_lk rfl) <| .cons (.of_lk rfl) <| .nil) (.cons .here <| .cons .here <| .cons .here <| .nil) ?_
    refine rs ?_
    refine rs ?_
    refine rt ?_
    refine jp (pa has_i64) rfl rfl rfl ?_
    refine j_end ?_
    obtain ⟨⟨y7, y8⟩, e21, h⟩ := bind_some h
    refine run_loopS (Γi := fun (i : Unit) (s : Int × (Vector (BitVec 32) 8)) => [(2, val (.pointer (some ⟨b1, 0, none⟩))), (4, val (.pointer (some ⟨b2, 0, none⟩))), (7, val (.pointer (some ⟨b5, 0, none⟩))), (13, i64.slot s.1)]) (Hi := fun (i : Unit) (s : Int × (Vector (BitVec 32) 8)) => [box b5 142 (vec 8 u32) y4, box b2 142 (vec 8 u32) (Vector.replicate 8 (0#32)), box b1 142 (vec 8 u32) s.2]) e21 () (fun a w hst => (hst.sub (.cons (.of_lk rfl) <| .cons (.of_lk rfl) <| .cons (.of_lk rfl) <| .cons (.of_lk rfl) <| .nil)).keep (.cons .here <| .cons .here <| .cons .here <| .nil)) ?_ ?_
    · clear h e21
      rintro _ ⟨y5, y6⟩ lr h
      change rolodexref02_take_L2 y4 y5 y6 = some _ at h
      show Run _ _ _ [(2, val (.pointer (some ⟨b1, 0, none⟩))), (4, val (.pointer (some ⟨b2, 0, none⟩))), (7, val (.pointer (some ⟨b5, 0, none⟩))), (13, i64.slot y5)] [box b5 142 (vec 8 u32) y4, box b2 142 (vec 8 u32) (Vector.replicate 8 (0#32)), box b1 142 (vec 8 u32) y6]
      unfold rolodexref02_take_L2 at h
      refine rs ?_
      refine rs ?_
      refine rt ?_
      refine jp (pm (ht rfl)) rfl rfl rfl ?_
      refine jp (pj_ilss (ht rfl) has_i64) rfl rfl rfl ?_
      refine j_end ?_
      refine run_cond (ht rfl) (fun e17 => ?_) (fun e17 => ?_)
      · replace h := bt e17 h
        refine run_skip ?_
        refine rs ?_
        refine run_block ?_
        obtain ⟨x7, e18, h⟩ := bind_some h
        obtain ⟨x8, e19, h⟩ := bind_some h
        refine run_draw (n := 6) (by kernel_rfl) (by kernel_rfl) (by kernel_rfl) (by kernel_rfl) (.read (.plain rfl (pm (ht rfl))) <| .read (.plain rfl (pj_index_arr (n := 8) (sz := 1) (ht rfl) (ht rfl) isInt_i64 (vget_some e18).1 (vget_lt e18) (by kernel_rfl))) <| .read (.plain rfl (PJ.eqv (pj_load_box (ht rfl) (.next (.next .here)) (Path.then (Path.all (vec 8 u32)) (Path.atI 8 u32 y5.toNat (vget_some e18).2.1)) (by kernel_rfl)) (vget_eq e18 (vget_some e18).2.1))) <| .read (.plain rfl (pm (ht rfl))) <| .read (.plain rfl (pj_index_arr (n := 8) (sz := 1) (ht rfl) (ht rfl) isInt_i64 (vget_some e19).1 (vget_lt e19) (by kernel_rfl))) <| .read (.plain rfl (PJ.eqv (pj_load_box (ht rfl) .here (Path.then (Path.all (vec 8 u32)) (Path.atI 8 u32 y5.toNat (vget_some e19).2.1)) (by kernel_rfl)) (vget_eq e19 (vget_some e19).2.1))) <| .nil) (j_to (Γ' := [(2, val (.pointer (some ⟨b1, 0, none⟩))), (4, val (.pointer (some ⟨b2, 0, none⟩))), (7, val (.pointer (some ⟨b5, 0, none⟩))), (13, i64.slot y5), (112, i64.slot y5), (114, u32.slot x7), (117, u32.slot x8)]) (H' := [box b5 142 (vec 8 u32) y4, box b2 142 (vec 8 u32) (Vector.replicate 8 (0#32)), box b1 142 (vec 8 u32) y6]) (.cons (.of_lk rfl) <| .cons (.of_lk rfl) <| .cons (.of_lk rfl) <| .cons (.of_lk rfl) <| .cons (.of_lk rfl) <| .cons (.of_lk rfl) <| .cons (.of_lk rfl) <| .nil) (.cons .here <| .cons .here <| .cons .here <| .nil) ?_)
        refine jp (pj_uadd (k := .u32) (b := 32) rfl rfl (ht rfl) (ht rfl)) rfl rfl rfl ?_
        obtain ⟨e20, h⟩ := grd_some h
        refine jp (pj_index_arr (n := 8) (sz := 1) (ht rfl) (ht rfl) isInt_i64 e20.1 e20.2 (by kernel_rfl)) rfl rfl rfl ?_
        refine j_store_boxx (r' := (y6.setIfInBounds y5.toNat (x7 + x8))) (ht rfl) (ht rfl) (.next (.next .here)) (Path.then (Path.all (vec 8 u32)) (Path.atI 8 u32 y5.toNat (lt_nat e20))) (by kernel_rfl) rfl ?_
        refine j_end ?_
        refine run_endblock ?_
        refine rt ?_
        refine jp (pm (ht rfl)) rfl rfl rfl ?_
        refine jp (pj_iadd (ht rfl) has_i64) rfl rfl rfl ?_
        refine jp (pa (ht rfl)) rfl rfl rfl ?_
        refine j_end ?_
        obtain rfl := oi h
        exact run_next () (.cons (.of_lk rfl) <| .cons (.of_lk rfl) <| .cons (.of_lk rfl) <| .cons (.of_lk rfl) <| .nil) (.cons (.next .here) <| .cons (.next .here) <| .cons .here <| .nil)
      · replace h := bf e17 h
        obtain rfl := oi h
        exact run_brk () (.cons (.of_lk rfl) <| .cons (.of_lk rfl) <| .cons (.of_lk rfl) <| .cons (.of_lk rfl) <| .nil) (.cons .here <| .cons .here <| .cons .here <| .nil)
    · rintro _
      show Run _ _ _ [(2, val (.pointer (some ⟨b1, 0, none⟩))), (4, val (.pointer (some ⟨b2, 0, none⟩))), (7, val (.pointer (some ⟨b5, 0, none⟩))), (13, i64.slot y7)] [box b5 142 (vec 8 u32) y4, box b2 142 (vec 8 u32) (Vector.replicate 8 (0#32)), box b1 142 (vec 8 u32) y8]
      refine run_to (Γ' := [(2, val (.pointer (some ⟨b1, 0, none⟩))), (4, val (.pointer (some ⟨b2, 0, none⟩)))]) (H' := [box b2 142 (vec 8 u32) (Vector.replicate 8 (0#32)), box b1 142 (vec 8 u32) y8]) (.cons (.of_lk rfl) <| .cons (.of_lk rfl) <| .nil) (.cons (.next .here) <| .cons (.next .here) <| .nil) ?_
      refine rs ?_
      refine rt ?_
      refine jp (pj_load_box (ht rfl) (.next .here) (Path.all (vec 8 u32)) (by kernel_rfl)) rfl rfl rfl ?_
      refine j_store_boxx (r' := y8) (ht rfl) (ht rfl) .here (Path.all (vec 8 u32)) (by kernel_rfl) rfl ?_
      refine j_end ?_
      obtain rfl := oi h
      exact run_ret fun a w hst => q_ret1 hst rfl (.cell rfl .here (by kernel_rfl)) () (fun _ _ h => h) (.nil)
set_option maxRecDepth 100000 in
set_option maxHeartbeats 4000000 in
theorem c_rolodexref02_Sum {G : GP} {p_b : List (BitVec 8)} {r : T_api_Hash} (h : rolodexref02_Sum p_b = some r) : Ctr Tryd.prog G 98 [(sl u8).slot p_b] [] (fun (_ : Unit) => R_api_Hash.slot r) (fun (_ : Unit) => []) := by
  unfold rolodexref02_Sum at h
  refine ctr_of_run Tryd.func98 rfl 42 rfl rfl fun m0 w0 b0 => ?_
  show Run _ _ _ [(0, (sl u8).slot p_b)] _
  refine rs ?_
  refine rt ?_
  refine j_alloc (x := (Vector.replicate 32 (0#8))) (R := R_api_Hash) (zero_vec 32 zero_un) (by kernel_rfl) rfl fun b1 => ?_
  refine j_end ?_
  refine rs ?_
  refine rt ?_
  obtain ⟨r1, e1, h⟩ := bind_some h
  refine jp (pj_call (hasL_nil) (by kernel_rfl) (c_rolodexref02_Start e1)) rfl rfl rfl ?_
  refine j_alloc (x := (Vector.replicate 8 (0#32))) (R := (vec 8 u32)) (zero_vec 8 zero_un) (by kernel_rfl) rfl fun b2 => ?_
  refine j_store_boxx (r' := r1) (ht rfl) (ht rfl) .here (Path.all (vec 8 u32)) (by kernel_rfl) rfl ?_
  refine j_end ?_
  refine rs ?_
  refine rt ?_
  refine jp (pm (ht rfl)) rfl rfl rfl ?_
  obtain ⟨r2, e2, h⟩ := bind_some h
  refine jp (pj_call (hc (ht rfl) <| hasL_nil) (by kernel_rfl) (Ctr.froze (c_rolodexref02_Padded e2))) rfl rfl rfl ?_
  refine jp (pa (ht rfl)) rfl rfl rfl ?_
  refine j_end ?_
  refine rs ?_
  refine rs ?_
  refine rt ?_
  refine jp (pa has_i64) rfl rfl rfl ?_
  refine j_end ?_
  obtain ⟨⟨y3, y4⟩, e6, h⟩ := bind_some h
  refine run_loopS (Γi := fun (i : Unit) (s : Int × (Vector (BitVec 32) 8)) => [(2, val (.pointer (some ⟨b1, 0, none⟩))), (3, val (.pointer (some ⟨b2, 0, none⟩))), (4, (sl u8).slot r2), (5, i64.slot s.1)]) (Hi := fun (i : Unit) (s : Int × (Vector (BitVec 32) 8)) => [box b2 142 (vec 8 u32) s.2, box b1 26 R_api_Hash (Vector.replicate 32 (0#8))]) e6 () (fun a w hst => (hst.sub (.cons (.of_lk rfl) <| .cons (.of_lk rfl) <| .cons (.of_lk rfl) <| .cons (.of_lk rfl) <| .nil)).keep (.cons .here <| .cons .here <| .nil)) ?_ ?_
  · clear h e6
    rintro _ ⟨y1, y2⟩ lr h
    change rolodexref02_Sum_L1 r2 y1 y2 = some _ at h
    show Run _ _ _ [(2, val (.pointer (some ⟨b1, 0, none⟩))), (3, val (.pointer (some ⟨b2, 0, none⟩))), (4, (sl u8).slot r2), (5, i64.slot y1)] [box b2 142 (vec 8 u32) y2, box b1 26 R_api_Hash (Vector.replicate 32 (0#8))]
    unfold rolodexref02_Sum_L1 at h
    refine rs ?_
    refine rs ?_
    refine rt ?_
    refine jp (pm (ht rfl)) rfl rfl rfl ?_
    refine jp (pm (ht rfl)) rfl rfl rfl ?_
    refine jp (pj_len_sl (sz := 1) (ht rfl) (by kernel_rfl)) rfl rfl rfl ?_
    refine jp (pj_ilss (ht rfl) (ht rfl)) rfl rfl rfl ?_
    refine j_end ?_
    refine run_cond (ht rfl) (fun e3 => ?_) (fun e3 => ?_)
    · replace h := bt e3 h
      refine run_skip ?_
      refine rs ?_
      refine run_block ?_
      obtain ⟨x1, e4, h⟩ := bind_some h
      refine run_draw (n := 6) (by kernel_rfl) (by kernel_rfl) (by kernel_rfl) (by kernel_rfl) (.read (.plain rfl (pj_load_box (ht rfl) .here (Path.all (vec 8 u32)) (by kernel_rfl))) <| .read (.plain rfl (pm (ht rfl))) <| .read (.plain rfl (pm (ht rfl))) <| .read (.plain rfl (pm (ht rfl))) <| .read (.plain rfl (pj_iadd (ht rfl) has_i64)) <| .read (.plain rfl (pj_slice_slx (ht rfl) (.yes (ht rfl) isInt_i64) (.yes (ht rfl) isInt_i64) e4 (by kernel_rfl))) <| .nil) (j_to (Γ' := [(2, val (.pointer (some ⟨b1, 0, none⟩))), (3, val (.pointer (some ⟨b2, 0, none⟩))), (4, (sl u8).slot r2), (5, i64.slot y1), (17, (vec 8 u32).slot y2), (22, (sl u8).slot x1)]) (H' := [box b2 142 (vec 8 u32) y2, box b1 26 R_api_Hash (Vector.replicate 32 (0#8))]) (.cons (.of_lk rfl) <| .cons (.of_lk rfl) <| .cons (.of_lk rfl) <| .cons (.of_lk rfl) <| .cons (.of_lk rfl) <| .cons (.of_lk rfl) <| .nil) (.cons .here <| .cons .here <| .nil) ?_)
      obtain ⟨r3, e5, h⟩ := bind_some h
      refine jp (pj_call (hc (ht rfl) <| hc (ht rfl) <| hasL_nil) (by kernel_rfl) (c_rolodexref02_take e5)) rfl rfl rfl ?_
      refine j_store_boxx (r' := r3) (ht rfl) (ht rfl) .here (Path.all (vec 8 u32)) (by kernel_rfl) rfl ?_
      refine j_end ?_
      refine run_endblock ?_
      refine rt ?_
      refine jp (pm (ht rfl)) rfl rfl rfl ?_
      refine jp (pj_iadd (ht rfl) has_i64) rfl rfl rfl ?_
      refine jp (pa (ht rfl)) rfl rfl rfl ?_
      refine j_end ?_
      obtain rfl := oi h
      exact run_next () (.cons (.of_lk rfl) <| .cons (.of_lk rfl) <| .cons (.of_lk rfl) <| .cons (.of_lk rfl) <| .nil) (.cons .here <| .cons .here <| .nil)
    · replace h := bf e3 h
      obtain rfl := oi h
      exact run_brk () (.cons (.of_lk rfl) <| .cons (.of_lk rfl) <| .cons (.of_lk rfl) <| .cons (.of_lk rfl) <| .nil) (.cons .here <| .cons .here <| .nil)
  · rintro _
    show Run _ _ _ [(2, val (.pointer (some ⟨b1, 0, none⟩))), (3, val (.pointer (some ⟨b2, 0, none⟩))), (4, (sl u8).slot r2), (5, i64.slot y3)] [box b2 142 (vec 8 u32) y4, box b1 26 R_api_Hash (Vector.replicate 32 (0#8))]
    refine run_to (Γ' := [(2, val (.pointer (some ⟨b1, 0, none⟩))), (3, val (.pointer (some ⟨b2, 0, none⟩)))]) (H' := [box b2 142 (vec 8 u32) y4, box b1 26 R_api_Hash (Vector.replicate 32 (0#8))]) (.cons (.of_lk rfl) <| .cons (.of_lk rfl) <| .nil) (.cons .here <| .cons .here <| .nil) ?_
    refine rs ?_
    refine rt ?_
    refine j_alloc (x := (Vector.replicate 32 (0#8))) (R := R_api_Hash) (zero_vec 32 zero_un) (by kernel_rfl) rfl fun b3 => ?_
    refine j_end ?_
    refine rs ?_
    refine rs ?_
    refine rt ?_
    refine jp (pa has_i64) rfl rfl rfl ?_
    refine j_end ?_
    obtain ⟨⟨y7, y8⟩, e11, h⟩ := bind_some h
    refine run_loopS (Γi := fun (i : Unit) (s : Int × T_api_Hash) => [(2, val (.pointer (some ⟨b1, 0, none⟩))), (3, val (.pointer (some ⟨b2, 0, none⟩))), (6, val (.pointer (some ⟨b3, 0, none⟩))), (7, i64.slot s.1)]) (Hi := fun (i : Unit) (s : Int × T_api_Hash) => [box b3 26 R_api_Hash s.2, box b2 142 (vec 8 u32) y4, box b1 26 R_api_Hash (Vector.replicate 32 (0#8))]) e11 () (fun a w hst => (hst.sub (.cons (.of_lk rfl) <| .cons (.of_lk rfl) <| .cons (.of_lk rfl) <| .cons (.of_lk rfl) <| .nil)).keep (.cons .here <| .cons .here <| .cons .here <| .nil)) ?_ ?_
    · clear h e11
      rintro _ ⟨y5, y6⟩ lr h
      change rolodexref02_Sum_L2 y4 y5 y6 = some _ at h
      show Run _ _ _ [(2, val (.pointer (some ⟨b1, 0, none⟩))), (3, val (.pointer (some ⟨b2, 0, none⟩))), (6, val (.pointer (some ⟨b3, 0, none⟩))), (7, i64.slot y5)] [box b3 26 R_api_Hash y6, box b2 142 (vec 8 u32) y4, box b1 26 R_api_Hash (Vector.replicate 32 (0#8))]
      unfold rolodexref02_Sum_L2 at h
      refine rs ?_
      refine rs ?_
      refine rt ?_
      refine jp (pm (ht rfl)) rfl rfl rfl ?_
      refine jp (pj_ilss (ht rfl) has_i64) rfl rfl rfl ?_
      refine j_end ?_
      refine run_cond (ht rfl) (fun e7 => ?_) (fun e7 => ?_)
      · replace h := bt e7 h
        refine run_skip ?_
        refine rs ?_
        refine run_block ?_
        refine rt ?_
        refine jp (pm (ht rfl)) rfl rfl rfl ?_
        refine jp (pm (ht rfl)) rfl rfl rfl ?_
        refine jp (pj_iquo (ht rfl) has_i64 (by decide)) rfl rfl rfl ?_
        obtain ⟨x2, e8, h⟩ := bind_some h
        refine jp (pj_index_arr (n := 8) (sz := 1) (ht rfl) (ht rfl) isInt_i64 (vget_some e8).1 (vget_lt e8) (by kernel_rfl)) rfl rfl rfl ?_
        refine jp (PJ.eqv (pj_load_box (ht rfl) (.next .here) (Path.then (Path.all (vec 8 u32)) (Path.atI 8 u32 ((w64 (Int.tdiv y5 (4 : Int))).toNat) (vget_some e8).2.1)) (by kernel_rfl)) (vget_eq e8 (vget_some e8).2.1)) rfl rfl rfl ?_
        refine jp (pm (ht rfl)) rfl rfl rfl ?_
        refine jp (pj_irem (ht rfl) has_i64 (by decide)) rfl rfl rfl ?_
        refine jp (pj_conv_un (k := .u32) (b := 32) rfl rfl (by kernel_rfl) (ht rfl) isInt_i64) rfl rfl rfl ?_
        refine jp (pj_umul (k := .u32) (b := 32) rfl rfl (has_un (x := 8#32) rfl) (ht rfl)) rfl rfl rfl ?_
        refine jp (pj_usub (k := .u32) (b := 32) rfl rfl (has_un (x := 24#32) rfl) (ht rfl)) rfl rfl rfl ?_
        refine jp (pj_ushr (k := .u32) (b := 32) rfl (ht rfl) (ht rfl) isInt_un (Int.natCast_nonneg _)) rfl rfl rfl ?_
        refine jp (pj_conv_uu (k := .u8) (b := 8) rfl rfl (by kernel_rfl) (ht rfl)) rfl rfl rfl ?_
        obtain ⟨e9, h⟩ := grd_some h
        refine jp (pj_index_arr (n := 32) (sz := 1) (ht rfl) (ht rfl) isInt_i64 e9.1 e9.2 (by kernel_rfl)) rfl rfl rfl ?_
        obtain ⟨x3, e10, h⟩ := bind_some h
        refine j_store_boxx (r' := x3) (ht rfl) (ht rfl) .here (Path.then (Path.all R_api_Hash) (Path.atI 32 u8 y5.toNat (lt_nat e9))) (by kernel_rfl) (oi e10) ?_
        refine j_end ?_
        refine run_endblock ?_
        refine rt ?_
        refine jp (pm (ht rfl)) rfl rfl rfl ?_
        refine jp (pj_iadd (ht rfl) has_i64) rfl rfl rfl ?_
        refine jp (pa (ht rfl)) rfl rfl rfl ?_
        refine j_end ?_
        obtain rfl := oi h
        exact run_next () (.cons (.of_lk rfl) <| .cons (.of_lk rfl) <| .cons (.of_lk rfl) <| .cons (.of_lk rfl) <| .nil) (.cons .here <| .cons .here <| .cons .here <| .nil)
      · replace h := bf e7 h
        obtain rfl := oi h
        exact run_brk () (.cons (.of_lk rfl) <| .cons (.of_lk rfl) <| .cons (.of_lk rfl) <| .cons (.of_lk rfl) <| .nil) (.cons .here <| .cons .here <| .cons .here <| .nil)
    · rintro _
      show Run _ _ _ [(2, val (.pointer (some ⟨b1, 0, none⟩))), (3, val (.pointer (some ⟨b2, 0, none⟩))), (6, val (.pointer (some ⟨b3, 0, none⟩))), (7, i64.slot y7)] [box b3 26 R_api_Hash y8, box b2 142 (vec 8 u32) y4, box b1 26 R_api_Hash (Vector.replicate 32 (0#8))]
      refine run_to (Γ' := [(2, val (.pointer (some ⟨b1, 0, none⟩))), (6, val (.pointer (some ⟨b3, 0, none⟩)))]) (H' := [box b3 26 R_api_Hash y8, box b1 26 R_api_Hash (Vector.replicate 32 (0#8))]) (.cons (.of_lk rfl) <| .cons (.of_lk rfl) <| .nil) (.cons .here <| .cons (.next .here) <| .nil) ?_
      refine rs ?_
      refine rt ?_
      refine jp (pj_load_box (ht rfl) .here (Path.all R_api_Hash) (by kernel_rfl)) rfl rfl rfl ?_
      refine j_store_boxx (r' := y8) (ht rfl) (ht rfl) (.next .here) (Path.all R_api_Hash) (by kernel_rfl) rfl ?_
      refine j_end ?_
      obtain rfl := oi h
      exact run_ret fun a w hst => q_ret1 hst rfl (.cell rfl .here (by kernel_rfl)) () (fun _ _ h => h) (.nil)
set_option maxRecDepth 100000 in
set_option maxHeartbeats 4000000 in
theorem c_rolodexref04_Under {G : GP} {p_id : T_api_ID} {p_q : BitVec 32} {p_i : Int} {p_b : List (BitVec 8)} {r : T_api_Hash} (h : rolodexref04_Under p_id p_q p_i p_b = some r) : Ctr Tryd.prog G 97 [R_api_ID.slot p_id, u32.slot p_q, i64.slot p_i, (sl u8).slot p_b] [] (fun (_ : Unit) => R_api_Hash.slot r) (fun (_ : Unit) => []) := by
  unfold rolodexref04_Under at h
  refine ctr_of_run Tryd.func97 rfl 28 rfl rfl fun m0 w0 b0 => ?_
  show Run _ _ _ [(0, R_api_ID.slot p_id), (1, u32.slot p_q), (2, i64.slot p_i), (3, (sl u8).slot p_b)] _
  refine rs ?_
  refine rt ?_
  refine jp (pj_box_to (ht rfl)) rfl rfl rfl ?_
  refine j_alloc (x := (Vector.replicate 32 (0#8))) (R := R_api_Hash) (zero_vec 32 zero_un) (by kernel_rfl) rfl fun b1 => ?_
  refine j_end ?_
  refine rs ?_
  refine rt ?_
  refine j_assign_nil (T := 5) u8 rfl fun v1 => ?_
  refine j_end ?_
  refine rs ?_
  refine rt ?_
  refine jp (pm (ht rfl)) rfl rfl rfl ?_
  refine jp (pj_slice_toF (ht rfl) (by decide) (by kernel_rfl)) rfl rfl rfl ?_
  obtain ⟨e1, h⟩ := grd_some h
  refine j_append (T := 5) (E := 5) (ht rfl) .here (src_data (ht rfl)) (by kernel_rfl) (by kernel_rfl) e1 rfl fun v2 => ?_
  refine jp (pa (ht rfl)) rfl rfl rfl ?_
  refine j_end ?_
  refine rs ?_
  refine rt ?_
  refine jp (pm (ht rfl)) rfl rfl rfl ?_
  refine jp (pm (ht rfl)) rfl rfl rfl ?_
  refine jp (pj_conv_uu (k := .u64) (b := 64) rfl rfl (by kernel_rfl) (ht rfl)) rfl rfl rfl ?_
  obtain ⟨r1, e2, h⟩ := bind_some h
  refine jp (pj_call (hc (ht rfl) <| hc has_i64 <| hasL_nil) (by kernel_rfl) (Ctr.froze (c_rolodexref01_Number e2))) rfl rfl rfl ?_
  obtain ⟨e3, h⟩ := grd_some h
  refine j_append (T := 5) (E := 5) (ht rfl) .here (src_data (ht rfl)) (by kernel_rfl) (by kernel_rfl) e3 rfl fun v3 => ?_
  refine jp (pa (ht rfl)) rfl rfl rfl ?_
  refine j_end ?_
  refine rs ?_
  refine rt ?_
  refine jp (pm (ht rfl)) rfl rfl rfl ?_
  refine jp (pm (ht rfl)) rfl rfl rfl ?_
  refine jp (pj_conv_un (k := .u64) (b := 64) rfl rfl (by kernel_rfl) (ht rfl) isInt_i64) rfl rfl rfl ?_
  obtain ⟨r2, e4, h⟩ := bind_some h
  refine jp (pj_call (hc (ht rfl) <| hc has_i64 <| hasL_nil) (by kernel_rfl) (Ctr.froze (c_rolodexref01_Number e4))) rfl rfl rfl ?_
  obtain ⟨e5, h⟩ := grd_some h
  refine j_append (T := 5) (E := 5) (ht rfl) .here (src_data (ht rfl)) (by kernel_rfl) (by kernel_rfl) e5 rfl fun v4 => ?_
  refine jp (pa (ht rfl)) rfl rfl rfl ?_
  refine j_end ?_
  refine rs ?_
  refine rt ?_
  refine jp (pm (ht rfl)) rfl rfl rfl ?_
  refine jp (pm (ht rfl)) rfl rfl rfl ?_
  obtain ⟨e6, h⟩ := grd_some h
  refine j_append (T := 5) (E := 5) (ht rfl) .here (src_data (ht rfl)) (by kernel_rfl) (by kernel_rfl) e6 rfl fun v5 => ?_
  refine jp (pa (ht rfl)) rfl rfl rfl ?_
  refine j_end ?_
  refine rs ?_
  refine rt ?_
  refine jp (pm (ht rfl)) rfl rfl rfl ?_
  obtain ⟨r3, e7, h⟩ := bind_some h
  refine jp (pj_callB (hasBL_cons (hasB_own (ht rfl) .here) <| hasBL_nil) (by kernel_rfl) (c_rolodexref02_Sum e7) (Rep.flat_slot (flat_vec _ (flat_un _ _)) _)) rfl rfl rfl ?_
  refine j_store_boxx (r' := r3) (ht rfl) (ht rfl) (.next .here) (Path.all R_api_Hash) (by kernel_rfl) rfl ?_
  refine j_end ?_
  obtain rfl := oi h
  exact run_ret fun a w hst => q_ret1 hst rfl (.cell rfl .here (by kernel_rfl)) () (fun _ _ h => h) (.nil)
set_option maxRecDepth 100000 in
set_option maxHeartbeats 4000000 in
theorem c_rolodexref04_Hashed {G : GP} {p_id : T_api_ID} {p_q : BitVec 32} {p_salt : List (BitVec 8)} {p_message : List (BitVec 8)} {r : T_api_Hash} (h : rolodexref04_Hashed p_id p_q p_salt p_message = some r) : Ctr Tryd.prog G 88 [R_api_ID.slot p_id, u32.slot p_q, (sl u8).slot p_salt, (sl u8).slot p_message] [] (fun (_ : Unit) => R_api_Hash.slot r) (fun (_ : Unit) => []) := by
  unfold rolodexref04_Hashed at h
  refine ctr_of_run Tryd.func88 rfl 20 rfl rfl fun m0 w0 b0 => ?_
  show Run _ _ _ [(0, R_api_ID.slot p_id), (1, u32.slot p_q), (2, (sl u8).slot p_salt), (3, (sl u8).slot p_message)] _
  refine rs ?_
  refine rt ?_
  refine jp (pj_box_to (ht rfl)) rfl rfl rfl ?_
  refine j_alloc (x := (Vector.replicate 32 (0#8))) (R := R_api_Hash) (zero_vec 32 zero_un) (by kernel_rfl) rfl fun b1 => ?_
  refine j_end ?_
  refine rs ?_
  refine rt ?_
  refine j_assign_nil (T := 5) u8 rfl fun v1 => ?_
  refine j_end ?_
  refine rs ?_
  refine rt ?_
  refine jp (pm (ht rfl)) rfl rfl rfl ?_
  refine jp (pm (ht rfl)) rfl rfl rfl ?_
  obtain ⟨e1, h⟩ := grd_some h
  refine j_append (T := 5) (E := 5) (ht rfl) .here (src_data (ht rfl)) (by kernel_rfl) (by kernel_rfl) e1 rfl fun v2 => ?_
  refine jp (pa (ht rfl)) rfl rfl rfl ?_
  refine j_end ?_
  refine rs ?_
  refine rt ?_
  refine jp (pm (ht rfl)) rfl rfl rfl ?_
  refine jp (pm (ht rfl)) rfl rfl rfl ?_
  obtain ⟨e2, h⟩ := grd_some h
  refine j_append (T := 5) (E := 5) (ht rfl) .here (src_data (ht rfl)) (by kernel_rfl) (by kernel_rfl) e2 rfl fun v3 => ?_
  refine jp (pa (ht rfl)) rfl rfl rfl ?_
  refine j_end ?_
  refine rs ?_
  refine rt ?_
  refine jp (pl (ht rfl) (by kernel_rfl)) rfl rfl rfl ?_
  refine jp (pm (ht rfl)) rfl rfl rfl ?_
  refine jp (pm (ht rfl)) rfl rfl rfl ?_
  obtain ⟨r1, e3, h⟩ := bind_some h
  refine jp (pj_callB (hasBL_cons (hasB_of (ht rfl)) <| hasBL_cons (hasB_of (ht rfl)) <| hasBL_cons (hasB_of has_i64) <| hasBL_cons (hasB_own (ht rfl) .here) <| hasBL_nil) (by kernel_rfl) (c_rolodexref04_Under e3) (Rep.flat_slot (flat_vec _ (flat_un _ _)) _)) rfl rfl rfl ?_
  refine j_store_boxx (r' := r1) (ht rfl) (ht rfl) (.next .here) (Path.all R_api_Hash) (by kernel_rfl) rfl ?_
  refine j_end ?_
  obtain rfl := oi h
  exact run_ret fun a w hst => q_ret1 hst rfl (.cell rfl .here (by kernel_rfl)) () (fun _ _ h => h) (.nil)
set_option maxRecDepth 100000 in
set_option maxHeartbeats 4000000 in
theorem c_rolodexref04_with {G : GP} {p_c : BitVec 8} {p_b : List (BitVec 8)} {r : (List (BitVec 8))} (h : rolodexref04_with p_c p_b = some r) : Ctr Tryd.prog G 104 [u8.slot p_c, (sl u8).slot p_b] [] (fun (u0 : Value) => ov u0) (fun (u0 : Value) => [own 5 u8 u0 r]) := by
  unfold rolodexref04_with at h
  refine ctr_of_run Tryd.func104 rfl 11 rfl rfl fun m0 w0 b0 => ?_
  show Run _ _ _ [(0, u8.slot p_c), (1, (sl u8).slot p_b)] _
  refine rs ?_
  refine rt ?_
  refine j_assign_nil (T := 5) u8 rfl fun v1 => ?_
  refine j_end ?_
  refine rs ?_
  refine rt ?_
  refine jp (pm (ht rfl)) rfl rfl rfl ?_
  refine j_buildSlice (T := 5) (R := u8) (.cons (ht rfl) .nil) rfl (by kernel_rfl) (by kernel_rfl) rfl fun v2 => ?_
  refine jp (pa (ht rfl)) rfl rfl rfl ?_
  refine j_end ?_
  refine rs ?_
  refine rt ?_
  refine jp (pm (ht rfl)) rfl rfl rfl ?_
  refine jp (pm (ht rfl)) rfl rfl rfl ?_
  obtain ⟨e1, h⟩ := grd_some h
  refine j_append (T := 5) (E := 5) (ht rfl) .here (src_data (ht rfl)) (by kernel_rfl) (by kernel_rfl) e1 rfl fun v3 => ?_
  refine jp (pa (ht rfl)) rfl rfl rfl ?_
  refine j_end ?_
  obtain rfl := oi h
  exact run_ret fun a w hst => q_ret1 hst rfl (.tmp rfl) v3 (fun _ _ h => h) (.cons .here <| .nil)
end Go.Sl.W
