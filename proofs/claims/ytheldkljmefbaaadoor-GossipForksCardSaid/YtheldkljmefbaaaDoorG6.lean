import Derived.Test.YtheldkljmefbaaaDoorG5
import Derived.Test.YtheldkljmefbaaaDoorG2
import Derived.Test.YtheldkljmefbaaaDoorProg
set_option linter.unusedSimpArgs false
set_option linter.unusedVariables false
set_option linter.unusedSectionVars false
namespace Go.Sl.W
open Go.Proofs Go.Sl Go.Sl.M
set_option maxRecDepth 100000 in
set_option maxHeartbeats 4000000 in
theorem c_gossip_Pool_Put {G : GP} (hg0 : HG0 G) (hg1 : HG1 G) (hg2 : HG2 G) {p_p : (List (BitVec 8)) × (List T_head_Signed) × (List T_gossip_Fork) × (List T_gossip_link)} {p_s : T_head_Signed} {b_p : Nat} {v_p1 : Value} {v_p2 : Value} {v_p3 : Value} {r : ((List (BitVec 8)) × (List T_head_Signed) × (List T_gossip_Fork) × (List T_gossip_link)) × Int} (h : gossip_Pool_Put p_p p_s = some r) : Ctr Tryd.prog G 22 [val (.pointer (some ⟨b_p, 0, none⟩)), R_head_Signed.slot p_s] [box b_p 83 (prod (sl u8) (prod (exv v_p1) (prod (exv v_p2) (exv v_p3)))) (p_p.1, (), (), ()), own 44 R_head_Signed v_p1 p_p.2.1, own 59 R_gossip_Fork v_p2 p_p.2.2.1, own 144 R_gossip_link v_p3 p_p.2.2.2] (fun (i : Value × Value × Value) => i64.slot r.2) (fun (i : Value × Value × Value) => [box b_p 83 (prod (sl u8) (prod (exv i.1) (prod (exv i.2.1) (exv i.2.2)))) (r.1.1, (), (), ()), own 44 R_head_Signed i.1 r.1.2.1, own 59 R_gossip_Fork i.2.1 r.1.2.2.1, own 144 R_gossip_link i.2.2 r.1.2.2.2]) := by
  unfold gossip_Pool_Put at h
  refine ctr_of_run Tryd.func22 rfl 88 rfl rfl fun m0 w0 b0 => ?_
  show Run _ _ _ [(0, val (.pointer (some ⟨b_p, 0, none⟩))), (1, R_head_Signed.slot p_s)] _
  refine rs ?_
  refine rt ?_
  refine jp (pj_box_to (ht rfl)) rfl rfl rfl ?_
  refine jp (pa has_i64) rfl rfl rfl ?_
  refine j_end ?_
  refine rs ?_
  refine run_block ?_
  refine rs ?_
  refine rt ?_
  refine jp (pm (ht rfl)) rfl rfl rfl ?_
  refine jp (pj_eq_nil_val (E := 83) (by kernel_rfl) (ht rfl)) rfl rfl rfl ?_
  refine jp (pa (ht rfl)) rfl rfl rfl ?_
  refine j_end ?_
  refine run_cond_f (ht rfl) rfl ?_
  refine rs ?_
  refine run_draw (n := 5) (by kernel_rfl) (by kernel_rfl) (by kernel_rfl) (by kernel_rfl) (.read (.plain rfl (pl (ht rfl) (by kernel_rfl))) <| .read (.plain rfl (pm (ht rfl))) <| .read (.plain rfl (pj_nilCheck_ptr (ht rfl))) <| .read (.plain rfl (pj_field_ptr (off := 0) (ht rfl) (by kernel_rfl))) <| .read (.plain rfl (pj_load_box (ht rfl) .here (Path.then (Path.all (prod (sl u8) (prod (exv v_p1) (prod (exv v_p2) (exv v_p3))))) (Path.fst (sl u8) (prod (exv v_p1) (prod (exv v_p2) (exv v_p3))))) (by kernel_rfl))) <| .nil) (j_to (Γ' := [(0, val (.pointer (some ⟨b_p, 0, none⟩))), (3, ptrTo R_head_Signed p_s), (11, R_head_Signed.slot p_s), (15, (sl u8).slot p_p.1)]) (H' := [box b_p 83 (prod (sl u8) (prod (exv v_p1) (prod (exv v_p2) (exv v_p3)))) (p_p.1, (), (), ()), own 44 R_head_Signed v_p1 p_p.2.1, own 59 R_gossip_Fork v_p2 p_p.2.2.1, own 144 R_gossip_link v_p3 p_p.2.2.2]) (.cons (.of_lk rfl) <| .cons (.of_lk rfl) <| .cons (.of_lk rfl) <| .cons (.of_lk rfl) <| .nil) (.cons .here <| .cons .here <| .cons .here <| .cons .here <| .nil) ?_)
  obtain ⟨r1, e2, h⟩ := bind_some h
  refine jp (pj_call (hc (ht rfl) <| hc (ht rfl) <| hasL_nil) (by kernel_rfl) (c_head_Right hg0 hg1 hg2 e2)) rfl rfl rfl ?_
  refine jp (pj_not (ht rfl)) rfl rfl rfl ?_
  refine jp (pa (ht rfl)) rfl rfl rfl ?_
  refine j_end ?_
  refine run_cond (ht rfl) (fun e3 => ?_) (fun e3 => ?_)
  · replace h := bt e3 h
    refine rs ?_
    refine rt ?_
    refine jp (pa has_i64) rfl rfl rfl ?_
    refine j_end ?_
    obtain rfl := oi h
    exact run_ret fun a w hst => q_ret1 hst rfl (.tmp rfl) (v_p1, v_p2, v_p3) (fun _ _ h => h) (.cons .here <| .cons .here <| .cons .here <| .cons .here <| .nil)
  · replace h := bf e3 h
    refine run_skip ?_
    refine run_endblock ?_
    refine rs ?_
    refine rt ?_
    refine jp (pm (ht rfl)) rfl rfl rfl ?_
    refine jp (pj_field_to (ht rfl) (Path.fst R_head_Head (sl u8)) (by kernel_rfl)) rfl rfl rfl ?_
    refine jp (pj_field_to (ht rfl) (Path.fst i64 (prod i64 (prod R_api_Hash R_api_Hash))) (by kernel_rfl)) rfl rfl rfl ?_
    refine jp (pl (ht rfl) (by kernel_rfl)) rfl rfl rfl ?_
    obtain ⟨r2, e4, h⟩ := bind_some h
    refine jp (pj_callB (hasBL_cons (hasB_obj (ht rfl) .here (ocv_step (.next .here) (cv_snd (sl u8) p_p.1 (cv_fst (prod (exv v_p2) (exv v_p3)) ((), ()) cv_at)) <| ocv_step (.next (.next .here)) (cv_snd (sl u8) p_p.1 (cv_snd (sl R_head_Signed) p_p.2.1 (cv_fst (exv v_p3) () cv_at))) <| ocv_step (.next (.next (.next .here))) (cv_snd (sl u8) p_p.1 (cv_snd (sl R_head_Signed) p_p.2.1 (cv_snd (sl R_gossip_Fork) p_p.2.2.1 cv_at))) <| ocv_refl)) <| hasBL_cons (hasB_of (ht rfl)) <| hasBL_nil) (by kernel_rfl) (c_gossip_Pool_place e4) (flat_tup (flatL_cons (Rep.flat_slot flat_i64 _) (flatL_cons (Rep.flat_slot flat_bl _) (flatL_nil))))) rfl rfl rfl ?_
    refine jp (pm (ht rfl)) rfl rfl rfl ?_
    refine jp (pj_extract (ht rfl) rfl) rfl rfl rfl ?_
    refine jp (pj_extract (ht rfl) rfl) rfl rfl rfl ?_
    refine jp (pa (ht rfl)) rfl rfl rfl ?_
    refine jp (pa (ht rfl)) rfl rfl rfl ?_
    refine j_end ?_
    refine rs ?_
    refine run_block ?_
    refine rs ?_
    obtain ⟨y1, e6, h⟩ := bind_some h
    refine (run_drawJ (n := 14) (Γ' := [(0, val (.pointer (some ⟨b_p, 0, none⟩))), (3, ptrTo R_head_Signed p_s), (5, i64.slot r2.1), (6, bl.slot r2.2), (40, bl.slot y1)]) (H' := [box b_p 83 (prod (sl u8) (prod (exv v_p1) (prod (exv v_p2) (exv v_p3)))) (p_p.1, (), (), ()), own 44 R_head_Signed v_p1 p_p.2.1, own 59 R_gossip_Fork v_p2 p_p.2.2.1, own 144 R_gossip_link v_p3 p_p.2.2.2]) ?_ fun J => ?_)
    · clear e6
      refine jp (pa (ht rfl)) rfl rfl rfl ?_
      refine j_end ?_
      refine run_cond (ht rfl) (fun e8 => ?_) (fun e8 => ?_)
      · replace h := bt e8 h
        refine rs ?_
        refine rt ?_
        refine jp (pa has_i64) rfl rfl rfl ?_
        refine j_end ?_
        obtain rfl := oi h
        exact run_ret fun a w hst => q_ret1 hst rfl (.tmp rfl) (v_p1, v_p2, v_p3) (fun _ _ h => h) (.cons .here <| .cons .here <| .cons .here <| .cons .here <| .nil)
      · replace h := bf e8 h
        refine rs ?_
        refine rt ?_
        refine jp (pm (ht rfl)) rfl rfl rfl ?_
        refine jp (pa (ht rfl)) rfl rfl rfl ?_
        refine j_end ?_
        refine run_cond (ht rfl) (fun e9 => ?_) (fun e9 => ?_)
        · replace h := bt e9 h
          refine rs ?_
          refine rs ?_
          refine rt ?_
          refine jp (pm (ht rfl)) rfl rfl rfl ?_
          refine jp (pj_field_to (ht rfl) (Path.fst R_head_Head (sl u8)) (by kernel_rfl)) rfl rfl rfl ?_
          refine jp (pj_field_to (ht rfl) (Path.fst i64 (prod i64 (prod R_api_Hash R_api_Hash))) (by kernel_rfl)) rfl rfl rfl ?_
          refine jp (pl (ht rfl) (by kernel_rfl)) rfl rfl rfl ?_
          obtain ⟨r3, e10, h⟩ := bind_some h
          refine jp (pj_callB (hasBL_cons (hasB_obj (ht rfl) .here (ocv_step (.next .here) (cv_snd (sl u8) p_p.1 (cv_fst (prod (exv v_p2) (exv v_p3)) ((), ()) cv_at)) <| ocv_step (.next (.next .here)) (cv_snd (sl u8) p_p.1 (cv_snd (sl R_head_Signed) p_p.2.1 (cv_fst (exv v_p3) () cv_at))) <| ocv_step (.next (.next (.next .here))) (cv_snd (sl u8) p_p.1 (cv_snd (sl R_head_Signed) p_p.2.1 (cv_snd (sl R_gossip_Fork) p_p.2.2.1 cv_at))) <| ocv_refl)) <| hasBL_cons (hasB_of (ht rfl)) <| hasBL_nil) (by kernel_rfl) (c_gossip_Pool_forked e10) (Rep.flat_slot flat_bl _)) rfl rfl rfl ?_
          refine jp (pj_not (ht rfl)) rfl rfl rfl ?_
          refine j_end ?_
          obtain ⟨y2, e17, h⟩ := bind_some h
          refine run_joinx (ι := Value) (Γ' := fun (v1 : Value) => []) (H' := fun (v1 : Value) => [box b_p 83 (prod (sl u8) (prod (exv v_p1) (prod (exv v1) (exv v_p3)))) (p_p.1, (), (), ()), own 59 R_gossip_Fork v1 y2, own 44 R_head_Signed v_p1 p_p.2.1, own 144 R_gossip_link v_p3 p_p.2.2.2]) ?_ fun J => ?_
          · intro v1
            clear e17
            show Run _ _ _ [] [box b_p 83 (prod (sl u8) (prod (exv v_p1) (prod (exv v1) (exv v_p3)))) (p_p.1, (), (), ()), own 59 R_gossip_Fork v1 y2, own 44 R_head_Signed v_p1 p_p.2.1, own 144 R_gossip_link v_p3 p_p.2.2.2]
            refine rs ?_
            refine rt ?_
            refine jp (pa has_i64) rfl rfl rfl ?_
            refine j_end ?_
            obtain rfl := oi h
            exact run_ret fun a w hst => q_ret1 hst rfl (.tmp rfl) (v_p1, v1, v_p3) (fun _ _ h => h) (.cons .here <| .cons (.next .here) <| .cons .here <| .cons .here <| .nil)
          · refine run_cond (ht rfl) (fun e11 => ?_) (fun e11 => ?_)
            · replace h := bt e11 e17
              obtain ⟨x2, e12, h⟩ := bind_some h
              obtain ⟨r4, e13, h⟩ := bind_some h
              obtain ⟨r5, e14, h⟩ := bind_some h
              obtain ⟨x3, e15, h⟩ := bind_some h
              obtain ⟨e16, h⟩ := grd_some h
              refine run_keep (H' := [own 59 R_gossip_Fork v_p2 p_p.2.2.1, box b_p 83 (prod (sl u8) (prod (exv v_p1) (prod (exv v_p2) (exv v_p3)))) (p_p.1, (), (), ()), own 44 R_head_Signed v_p1 p_p.2.1, own 144 R_gossip_link v_p3 p_p.2.2.2]) (.cons (.next (.next .here)) <| .cons .here <| .cons .here <| .cons .here <| .nil) ?_
              refine run_drawL (n := 18) (H := [box b_p 83 (prod (sl u8) (prod (exv v_p1) (prod (exv v_p2) (exv v_p3)))) (p_p.1, (), (), ()), own 44 R_head_Signed v_p1 p_p.2.1, own 144 R_gossip_link v_p3 p_p.2.2.2]) (Ls := [⟨[own 59 R_gossip_Fork v_p2 p_p.2.2.1], [(17, ⟨Value, fun (v2 : Value) => [own 59 R_gossip_Fork v2 (p_p.2.2.1 ++ ([x3]))], fun (v2 : Value) => [(66, ov v2)]⟩)]⟩]) (by kernel_rfl) (by kernel_rfl) (by kernel_rfl) (by kernel_rfl) (by kernel_rfl) rfl (.read rfl (.plain rfl (pm (ht rfl))) <| .read rfl (.plain rfl (pm (ht rfl))) <| .read rfl (.plain rfl (pj_nilCheck_ptr (ht rfl))) <| .read rfl (.plain rfl (pj_field_ptr (off := 2) (ht rfl) (by kernel_rfl))) <| .read rfl (.plain rfl (pj_load_box (ht rfl) .here (Path.then (Path.all (prod (sl u8) (prod (exv v_p1) (prod (exv v_p2) (exv v_p3))))) (Path.then (Path.snd (sl u8) (prod (exv v_p1) (prod (exv v_p2) (exv v_p3)))) (Path.then (Path.snd (exv v_p1) (prod (exv v_p2) (exv v_p3))) (Path.fst (exv v_p2) (exv v_p3))))) (by kernel_rfl))) <| .read rfl (.plain rfl (pm (ht rfl))) <| .read rfl (.plain rfl (pj_nilCheck_ptr (ht rfl))) <| .read rfl (.plain rfl (pj_field_ptr (off := 1) (ht rfl) (by kernel_rfl))) <| .read rfl (.plain rfl (pj_load_box (ht rfl) .here (Path.then (Path.all (prod (sl u8) (prod (exv v_p1) (prod (exv v_p2) (exv v_p3))))) (Path.then (Path.snd (sl u8) (prod (exv v_p1) (prod (exv v_p2) (exv v_p3)))) (Path.fst (exv v_p1) (prod (exv v_p2) (exv v_p3))))) (by kernel_rfl))) <| .read rfl (.plain rfl (pm (ht rfl))) <| .read rfl (.plain rfl (pj_index_own (ht rfl) (.next .here) (ht rfl) isInt_i64 (lget_some e12).1 (lget_some e12).2.1 (by kernel_rfl))) <| .read rfl (.plain rfl (PJ.eqv (pj_load_own0 R_head_Signed (r2.1.toNat) (ht rfl) (.next .here) (lget_some e12).2.1 (by kernel_rfl)) (lget_eq e12 (lget_some e12).2.1))) <| .read rfl (.plain rfl (pj_call (hc (ht rfl) <| hasL_nil) (by kernel_rfl) (c_gossip_copied e13))) <| .read rfl (.plain rfl (pl (ht rfl) (by kernel_rfl))) <| .read rfl (.plain rfl (pj_call (hc (ht rfl) <| hasL_nil) (by kernel_rfl) (c_gossip_copied e14))) <| .read rfl (.plain rfl (PJ.eqv (pj_build (R := R_gossip_Fork) (zero_prod (zero_prod (zero_prod zero_i64 (zero_prod zero_i64 (zero_prod (zero_vec 32 zero_un) (zero_vec 32 zero_un)))) zero_sl) (zero_prod (zero_prod zero_i64 (zero_prod zero_i64 (zero_prod (zero_vec 32 zero_un) (zero_vec 32 zero_un)))) zero_sl)) (by kernel_rfl) (by kernel_rfl) rfl (.cons (ht rfl) (Path.fst R_head_Signed R_head_Signed) (by kernel_rfl) (.cons (ht rfl) (Path.snd R_head_Signed R_head_Signed) (by kernel_rfl) .nil))) (oi e15))) <| .read rfl (.plain rfl (pj_buildSlice (T := 59) (R := R_gossip_Fork) (.cons (ht rfl) .nil) rfl (by kernel_rfl) (by kernel_rfl))) <| .step 0 rfl .here (.inl rfl) (fun i => ⟨_, _, fun j => j, (w_append (T := 59) (E := 59) (ht rfl) .here (src_data (ht rfl)) (by kernel_rfl) (by kernel_rfl) e16 rfl), fun _ => rfl, slotAny, dst1⟩) <| .nil) ?_
              rintro v2
              refine j_to (Γ' := [(49, val (.pointer (some ⟨b_p, 0, none⟩))), (66, ov v2)]) (H' := [own 59 R_gossip_Fork v2 (p_p.2.2.1 ++ ([x3])), box b_p 83 (prod (sl u8) (prod (exv v_p1) (prod (exv v_p2) (exv v_p3)))) (p_p.1, (), (), ()), own 44 R_head_Signed v_p1 p_p.2.1, own 144 R_gossip_link v_p3 p_p.2.2.2]) (.cons (.of_lk rfl) <| .cons (.of_lk rfl) <| .nil) (.cons .here <| .cons .here <| .cons .here <| .cons .here <| .nil) ?_
              refine jp (pj_nilCheck_ptr (ht rfl)) rfl rfl rfl ?_
              refine jp (pj_field_ptr (off := 2) (ht rfl) (by kernel_rfl)) rfl rfl rfl ?_
              refine j_store_se (p_p.1, (), (), ()) (ht rfl) (ht rfl) (.next .here) (se_snd (sl u8) p_p.1 (se_snd (exv v_p1) () (se_fst (exv v_p3) () se_here))) (by kernel_rfl) ?_
              refine j_end ?_
              obtain rfl := oi h
              exact run_to (.nil) (.cons .here <| .cons .here <| .cons .here <| .cons .here <| .nil) (J v2)
            · replace h := bf e11 e17
              refine run_skip ?_
              obtain rfl := oi h
              exact run_to (.nil) (.cons .here <| .cons (.next .here) <| .cons .here <| .cons .here <| .nil) (J v_p2)
        · replace h := bf e9 h
          refine rs ?_
          refine rt ?_
          refine jp (pm (ht rfl)) rfl rfl rfl ?_
          refine jp (pj_nilCheck_ptr (ht rfl)) rfl rfl rfl ?_
          refine jp (pj_field_ptr (off := 1) (ht rfl) (by kernel_rfl)) rfl rfl rfl ?_
          refine jp (pj_load_box (ht rfl) .here (Path.then (Path.all (prod (sl u8) (prod (exv v_p1) (prod (exv v_p2) (exv v_p3))))) (Path.then (Path.snd (sl u8) (prod (exv v_p1) (prod (exv v_p2) (exv v_p3)))) (Path.fst (exv v_p1) (prod (exv v_p2) (exv v_p3))))) (by kernel_rfl)) rfl rfl rfl ?_
          refine jp (pj_len_own (sz := 67) (ht rfl) (.next .here) (by kernel_rfl)) rfl rfl rfl ?_
          refine jp (pj_igeq (ht rfl) has_i64) rfl rfl rfl ?_
          obtain ⟨x4, e18, h⟩ := bind_some h
          refine jp (PJ.eqv (pa (ht rfl)) (oi e18)) rfl rfl rfl ?_
          refine j_end ?_
          refine run_cond (ht rfl) (fun e19 => ?_) (fun e19 => ?_)
          · replace h := bt e19 h
            refine rs ?_
            refine rt ?_
            refine jp (pa has_i64) rfl rfl rfl ?_
            refine j_end ?_
            obtain rfl := oi h
            exact run_ret fun a w hst => q_ret1 hst rfl (.tmp rfl) (v_p1, v_p2, v_p3) (fun _ _ h => h) (.cons .here <| .cons .here <| .cons .here <| .cons .here <| .nil)
          · replace h := bf e19 h
            refine run_skip ?_
            refine run_endblock ?_
            refine rs ?_
            obtain ⟨r6, e20, h⟩ := bind_some h
            obtain ⟨r7, e21, h⟩ := bind_some h
            refine run_keep (H' := [own 44 R_head_Signed v_p1 p_p.2.1, box b_p 83 (prod (sl u8) (prod (exv v_p1) (prod (exv v_p2) (exv v_p3)))) (p_p.1, (), (), ()), own 59 R_gossip_Fork v_p2 p_p.2.2.1, own 144 R_gossip_link v_p3 p_p.2.2.2]) (.cons (.next .here) <| .cons .here <| .cons .here <| .cons .here <| .nil) ?_
            refine run_drawL (n := 10) (H := [box b_p 83 (prod (sl u8) (prod (exv v_p1) (prod (exv v_p2) (exv v_p3)))) (p_p.1, (), (), ()), own 59 R_gossip_Fork v_p2 p_p.2.2.1, own 144 R_gossip_link v_p3 p_p.2.2.2]) (Ls := [⟨[own 44 R_head_Signed v_p1 p_p.2.1], [(8, ⟨Value, fun (v3 : Value) => [own 44 R_head_Signed v3 ([r6]), own 44 R_head_Signed v_p1 p_p.2.1], fun (v3 : Value) => [(84, ov v3)]⟩), (9, ⟨Value × Value, fun (i : Value × Value) => [own 44 R_head_Signed i.2 r7], fun (i : Value × Value) => [(85, ov i.2), (84, ov i.1)]⟩)]⟩]) (by kernel_rfl) (by kernel_rfl) (by kernel_rfl) (by kernel_rfl) (by kernel_rfl) rfl (.read rfl (.plain rfl (pm (ht rfl))) <| .read rfl (.plain rfl (pm (ht rfl))) <| .read rfl (.plain rfl (pj_nilCheck_ptr (ht rfl))) <| .read rfl (.plain rfl (pj_field_ptr (off := 1) (ht rfl) (by kernel_rfl))) <| .read rfl (.plain rfl (pj_load_box (ht rfl) .here (Path.then (Path.all (prod (sl u8) (prod (exv v_p1) (prod (exv v_p2) (exv v_p3))))) (Path.then (Path.snd (sl u8) (prod (exv v_p1) (prod (exv v_p2) (exv v_p3)))) (Path.fst (exv v_p1) (prod (exv v_p2) (exv v_p3))))) (by kernel_rfl))) <| .read rfl (.plain rfl (pm (ht rfl))) <| .read rfl (.plain rfl (pl (ht rfl) (by kernel_rfl))) <| .read rfl (.plain rfl (pj_call (hc (ht rfl) <| hasL_nil) (by kernel_rfl) (c_gossip_copied e20))) <| .step 0 rfl .here (.inl rfl) (fun i => ⟨_, _, fun j => j, (w_buildSlice (T := 44) (R := R_head_Signed) (.cons (ht rfl) .nil) rfl (by kernel_rfl) (by kernel_rfl) rfl), fun _ => rfl, slotAny, dst1⟩) <| .step 0 rfl (.next .here) (.inl rfl) (fun i => ⟨_, _, fun j => (i, j), (w_call (hc (ht rfl) <| hc (ht rfl) <| hc (ht rfl) <| hasL_nil) (by kernel_rfl) (c_slices_Insert_head_Signed_head_Signed e21) (.cons (.next .here) <| .cons .here <| .nil) rfl), fun _ => rfl, slotAny, dst1⟩) <| .nil) ?_
            rintro ⟨v3, v4⟩
            refine j_to (Γ' := [(76, val (.pointer (some ⟨b_p, 0, none⟩))), (85, ov v4)]) (H' := [own 44 R_head_Signed v4 r7, box b_p 83 (prod (sl u8) (prod (exv v_p1) (prod (exv v_p2) (exv v_p3)))) (p_p.1, (), (), ()), own 59 R_gossip_Fork v_p2 p_p.2.2.1, own 144 R_gossip_link v_p3 p_p.2.2.2]) (.cons (.of_lk rfl) <| .cons (.of_lk rfl) <| .nil) (.cons .here <| .cons .here <| .cons .here <| .cons .here <| .nil) ?_
            refine jp (pj_nilCheck_ptr (ht rfl)) rfl rfl rfl ?_
            refine jp (pj_field_ptr (off := 1) (ht rfl) (by kernel_rfl)) rfl rfl rfl ?_
            refine j_store_se (p_p.1, (), (), ()) (ht rfl) (ht rfl) (.next .here) (se_snd (sl u8) p_p.1 (se_fst (prod (exv v_p2) (exv v_p3)) ((), ()) se_here)) (by kernel_rfl) ?_
            refine j_end ?_
            refine rs ?_
            refine rt ?_
            refine jp (pa has_i64) rfl rfl rfl ?_
            refine j_end ?_
            obtain rfl := oi h
            exact run_ret fun a w hst => q_ret1 hst rfl (.tmp rfl) (v4, v_p2, v_p3) (fun _ _ h => h) (.cons .here <| .cons .here <| .cons .here <| .cons .here <| .nil)
    · rcases bool_tf (r2.2) with e5 | e5
      · replace e6 := bt e5 e6
        obtain ⟨x1, e7, e6⟩ := bind_some e6
        exact run_draw (n := 14) (by kernel_rfl) (by kernel_rfl) (by kernel_rfl) (by kernel_rfl) (.read (.plain rfl (pm (ht rfl))) <| .read (.plain rfl (pm (ht rfl))) <| .read (.yes ⟨1, true, _, 28, _, rfl, rfl, rfl, fun _ _ => bl_p.1, gd_yes e5⟩ (pm (ht rfl))) <| .read (.yes ⟨1, true, _, 28, _, rfl, rfl, rfl, fun _ _ => bl_p.1, gd_yes e5⟩ (pj_nilCheck_ptr (ht rfl))) <| .read (.yes ⟨1, true, _, 28, _, rfl, rfl, rfl, fun _ _ => bl_p.1, gd_yes e5⟩ (pj_field_ptr (off := 1) (ht rfl) (by kernel_rfl))) <| .read (.yes ⟨1, true, _, 28, _, rfl, rfl, rfl, fun _ _ => bl_p.1, gd_yes e5⟩ (pj_load_box (ht rfl) .here (Path.then (Path.all (prod (sl u8) (prod (exv v_p1) (prod (exv v_p2) (exv v_p3))))) (Path.then (Path.snd (sl u8) (prod (exv v_p1) (prod (exv v_p2) (exv v_p3)))) (Path.fst (exv v_p1) (prod (exv v_p2) (exv v_p3))))) (by kernel_rfl))) <| .read (.yes ⟨1, true, _, 28, _, rfl, rfl, rfl, fun _ _ => bl_p.1, gd_yes e5⟩ (pm (ht rfl))) <| .read (.yes ⟨1, true, _, 28, _, rfl, rfl, rfl, fun _ _ => bl_p.1, gd_yes e5⟩ (pj_index_own (ht rfl) (.next .here) (ht rfl) isInt_i64 (lget_some e7).1 (lget_some e7).2.1 (by kernel_rfl))) <| .read (.yes ⟨1, true, _, 28, _, rfl, rfl, rfl, fun _ _ => bl_p.1, gd_yes e5⟩ (pj_field_own0 (off := 0) (ht rfl) (by kernel_rfl))) <| .read (.yes ⟨1, true, _, 28, _, rfl, rfl, rfl, fun _ _ => bl_p.1, gd_yes e5⟩ (pj_load_own1 R_head_Signed r2.1 (ht rfl) (.next .here) e7 (Path.then (Path.all R_head_Signed) (Path.fst R_head_Head (sl u8))) (by kernel_rfl) rfl)) <| .read (.yes ⟨1, true, _, 28, _, rfl, rfl, rfl, fun _ _ => bl_p.1, gd_yes e5⟩ (pj_field_to (ht rfl) (Path.fst R_head_Head (sl u8)) (by kernel_rfl))) <| .read (.yes ⟨1, true, _, 28, _, rfl, rfl, rfl, fun _ _ => bl_p.1, gd_yes e5⟩ (pl (ht rfl) (by kernel_rfl))) <| .read (.yes ⟨1, true, _, 28, _, rfl, rfl, rfl, fun _ _ => bl_p.1, gd_yes e5⟩ (pj_eql (n := 3) (eq_struct (fs := #[Field.mk "Epoch" 3 0 false "" "" 0, Field.mk "Tick" 3 1 false "" "" 8, Field.mk "Tree" 23 2 false "" "" 16, Field.mk "Log" 23 34 false "" "" 48]) (by kernel_rfl) (by kernel_rfl) rfl (.cons rfl (by kernel_rfl) (by kernel_rfl) (EqOK.mono (by omega) (eq_i64 (by kernel_rfl))) (.cons rfl (by kernel_rfl) (by kernel_rfl) (EqOK.mono (by omega) (eq_i64 (by kernel_rfl))) (.cons rfl (by kernel_rfl) (by kernel_rfl) (eq_vec (e := 5) (by kernel_rfl) (by kernel_rfl) (eq_un (by kernel_rfl))) (.one rfl (by kernel_rfl) (by kernel_rfl) (eq_vec (e := 5) (by kernel_rfl) (by kernel_rfl) (eq_un (by kernel_rfl)))))))) (by decide) rfl (by kernel_rfl) (ht rfl) (ht rfl))) <| .read (.plain rfl (PJ.eqv (R := bl) (pj_pick (t := any) (ht rfl) (fun _ => (ht rfl)) (fun he => absurd (e5.symm.trans he) (by decide))) (oi e6))) <| .nil) (j_to (Γ' := [(0, val (.pointer (some ⟨b_p, 0, none⟩))), (3, ptrTo R_head_Signed p_s), (5, i64.slot r2.1), (6, bl.slot r2.2), (40, bl.slot y1)]) (H' := [box b_p 83 (prod (sl u8) (prod (exv v_p1) (prod (exv v_p2) (exv v_p3)))) (p_p.1, (), (), ()), own 44 R_head_Signed v_p1 p_p.2.1, own 59 R_gossip_Fork v_p2 p_p.2.2.1, own 144 R_gossip_link v_p3 p_p.2.2.2]) (.cons (.of_lk rfl) <| .cons (.of_lk rfl) <| .cons (.of_lk rfl) <| .cons (.of_lk rfl) <| .cons (.of_lk rfl) <| .nil) (.cons .here <| .cons .here <| .cons .here <| .cons .here <| .nil) J)
      · replace e6 := bf e5 e6
        exact run_draw (n := 14) (by kernel_rfl) (by kernel_rfl) (by kernel_rfl) (by kernel_rfl) (.read (.plain rfl (pm (ht rfl))) <| .read (.plain rfl (pm (ht rfl))) <| .read (.no ⟨1, true, _, 28, _, rfl, rfl, rfl, fun _ _ => bl_p.1, gd_no e5⟩) <| .read (.no ⟨1, true, _, 28, _, rfl, rfl, rfl, fun _ _ => bl_p.1, gd_no e5⟩) <| .read (.no ⟨1, true, _, 28, _, rfl, rfl, rfl, fun _ _ => bl_p.1, gd_no e5⟩) <| .read (.no ⟨1, true, _, 28, _, rfl, rfl, rfl, fun _ _ => bl_p.1, gd_no e5⟩) <| .read (.no ⟨1, true, _, 28, _, rfl, rfl, rfl, fun _ _ => bl_p.1, gd_no e5⟩) <| .read (.no ⟨1, true, _, 28, _, rfl, rfl, rfl, fun _ _ => bl_p.1, gd_no e5⟩) <| .read (.no ⟨1, true, _, 28, _, rfl, rfl, rfl, fun _ _ => bl_p.1, gd_no e5⟩) <| .read (.no ⟨1, true, _, 28, _, rfl, rfl, rfl, fun _ _ => bl_p.1, gd_no e5⟩) <| .read (.no ⟨1, true, _, 28, _, rfl, rfl, rfl, fun _ _ => bl_p.1, gd_no e5⟩) <| .read (.no ⟨1, true, _, 28, _, rfl, rfl, rfl, fun _ _ => bl_p.1, gd_no e5⟩) <| .read (.no ⟨1, true, _, 28, _, rfl, rfl, rfl, fun _ _ => bl_p.1, gd_no e5⟩) <| .read (.plain rfl (PJ.eqv (R := bl) (pj_pick (t := any) (ht rfl) (fun he => absurd (e5.symm.trans he) (by decide)) (fun _ => has_bl)) (oi e6))) <| .nil) (j_to (Γ' := [(0, val (.pointer (some ⟨b_p, 0, none⟩))), (3, ptrTo R_head_Signed p_s), (5, i64.slot r2.1), (6, bl.slot r2.2), (40, bl.slot y1)]) (H' := [box b_p 83 (prod (sl u8) (prod (exv v_p1) (prod (exv v_p2) (exv v_p3)))) (p_p.1, (), (), ()), own 44 R_head_Signed v_p1 p_p.2.1, own 59 R_gossip_Fork v_p2 p_p.2.2.1, own 144 R_gossip_link v_p3 p_p.2.2.2]) (.cons (.of_lk rfl) <| .cons (.of_lk rfl) <| .cons (.of_lk rfl) <| .cons (.of_lk rfl) <| .cons (.of_lk rfl) <| .nil) (.cons .here <| .cons .here <| .cons .here <| .cons .here <| .nil) J)
set_option maxRecDepth 100000 in
set_option maxHeartbeats 4000000 in
theorem c_gossip_Pool_Heads {G : GP} {p_p : (List (BitVec 8)) × (List T_head_Signed) × (List T_gossip_Fork) × (List T_gossip_link)} {b_p : Nat} {v_p1 : Value} {v_p2 : Value} {v_p3 : Value} {hx0 : Hp} {hx1 : Hp} {hx2 : Hp} {hx3 : Hp} {r : (List T_head_Signed)} (h : gossip_Pool_Heads p_p = some r) : Ctr Tryd.prog G 24 [val (.pointer (some ⟨b_p, 0, none⟩))] [exE (box b_p 83 (prod (sl u8) (prod (exv v_p1) (prod (exv v_p2) (exv v_p3)))) (p_p.1, (), (), ())) hx0, exE (own 44 R_head_Signed v_p1 p_p.2.1) hx1, exE (own 59 R_gossip_Fork v_p2 p_p.2.2.1) hx2, exE (own 144 R_gossip_link v_p3 p_p.2.2.2) hx3] (fun (u0 : Value) => ov u0) (fun (u0 : Value) => [exE (box b_p 83 (prod (sl u8) (prod (exv v_p1) (prod (exv v_p2) (exv v_p3)))) (p_p.1, (), (), ())) hx0, exE (own 44 R_head_Signed v_p1 p_p.2.1) hx1, exE (own 59 R_gossip_Fork v_p2 p_p.2.2.1) hx2, exE (own 144 R_gossip_link v_p3 p_p.2.2.2) hx3, own 44 R_head_Signed u0 r]) := by
  unfold gossip_Pool_Heads at h
  refine ctr_of_run Tryd.func24 rfl 24 rfl rfl fun m0 w0 b0 => ?_
  show Run _ _ _ [(0, val (.pointer (some ⟨b_p, 0, none⟩)))] _
  refine rs ?_
  refine rt ?_
  refine j_assign_nil (T := 44) R_head_Signed rfl fun v1 => ?_
  refine j_end ?_
  refine rs ?_
  refine rs ?_
  refine rt ?_
  refine jp (PJ.xe (xe_keep (xe_ex (xe_ex (xe_ex (xe_ex xe_refl))))) (pm (ht rfl))) rfl rfl rfl ?_
  refine jp (PJ.xe (xe_keep (xe_ex (xe_ex (xe_ex (xe_ex xe_refl))))) (pj_eq_nil_val (E := 83) (by kernel_rfl) (ht rfl))) rfl rfl rfl ?_
  refine j_end ?_
  refine run_cond_f (ht rfl) rfl ?_
  refine run_skip ?_
  refine rs ?_
  refine rt ?_
  refine j_assign_nil (T := 44) R_head_Signed rfl fun v2 => ?_
  refine j_end ?_
  refine rs ?_
  refine rs ?_
  refine rt ?_
  refine jp (PJ.xe (xe_keep (xe_keep (xe_ex (xe_ex (xe_ex (xe_ex xe_refl)))))) (pm (ht rfl))) rfl rfl rfl ?_
  refine jp (PJ.xe (xe_keep (xe_keep (xe_ex (xe_ex (xe_ex (xe_ex xe_refl)))))) (pj_nilCheck_ptr (ht rfl))) rfl rfl rfl ?_
  refine jp (PJ.xe (xe_keep (xe_keep (xe_ex (xe_ex (xe_ex (xe_ex xe_refl)))))) (pj_field_ptr (off := 1) (ht rfl) (by kernel_rfl))) rfl rfl rfl ?_
  refine jp (PJ.xe (xe_keep (xe_keep (xe_ex (xe_ex (xe_ex (xe_ex xe_refl)))))) (pj_load_box (ht rfl) (.next (.next .here)) (Path.then (Path.all (prod (sl u8) (prod (exv v_p1) (prod (exv v_p2) (exv v_p3))))) (Path.then (Path.snd (sl u8) (prod (exv v_p1) (prod (exv v_p2) (exv v_p3)))) (Path.fst (exv v_p1) (prod (exv v_p2) (exv v_p3))))) (by kernel_rfl))) rfl rfl rfl ?_
  refine jp (PJ.xe (xe_keep (xe_keep (xe_ex (xe_ex (xe_ex (xe_ex xe_refl)))))) (pj_len_own (sz := 67) (ht rfl) (.next (.next (.next .here))) (by kernel_rfl))) rfl rfl rfl ?_
  refine jp (PJ.xe (xe_keep (xe_keep (xe_ex (xe_ex (xe_ex (xe_ex xe_refl)))))) (pm has_i64)) rfl rfl rfl ?_
  refine j_end ?_
  obtain ⟨⟨y3, y4⟩, e6, h⟩ := bind_some h
  refine run_loopS (Γi := fun (i : Value) (s : Int × (List T_head_Signed)) => [(3, ov i), (11, ov v_p1), (12, i64.slot (p_p.2.1.length : Int)), (13, i64.slot s.1)]) (Hi := fun (i : Value) (s : Int × (List T_head_Signed)) => [own 44 R_head_Signed i s.2, exE (box b_p 83 (prod (sl u8) (prod (exv v_p1) (prod (exv v_p2) (exv v_p3)))) (p_p.1, (), (), ())) hx0, exE (own 44 R_head_Signed v_p1 p_p.2.1) hx1, exE (own 59 R_gossip_Fork v_p2 p_p.2.2.1) hx2, exE (own 144 R_gossip_link v_p3 p_p.2.2.2) hx3]) e6 v2 (fun a w hst => (hst.sub (.cons (.of_lk rfl) <| .cons (.of_lk rfl) <| .cons (.of_lk rfl) <| .cons (.of_lk rfl) <| .nil)).keep (.cons .here <| .cons (.next .here) <| .cons (.next .here) <| .cons (.next .here) <| .cons (.next .here) <| .nil)) ?_ ?_
  · clear h e6
    rintro v3 ⟨y1, y2⟩ lr h
    change gossip_Pool_Heads_L1 p_p y1 y2 = some _ at h
    show Run _ _ _ [(3, ov v3), (11, ov v_p1), (12, i64.slot (p_p.2.1.length : Int)), (13, i64.slot y1)] [own 44 R_head_Signed v3 y2, exE (box b_p 83 (prod (sl u8) (prod (exv v_p1) (prod (exv v_p2) (exv v_p3)))) (p_p.1, (), (), ())) hx0, exE (own 44 R_head_Signed v_p1 p_p.2.1) hx1, exE (own 59 R_gossip_Fork v_p2 p_p.2.2.1) hx2, exE (own 144 R_gossip_link v_p3 p_p.2.2.2) hx3]
    unfold gossip_Pool_Heads_L1 at h
    refine rs ?_
    refine rt ?_
    refine jp (PJ.xe (xe_keep (xe_ex (xe_ex (xe_ex (xe_ex xe_refl))))) (pj_ilss (ht rfl) (ht rfl))) rfl rfl rfl ?_
    refine j_end ?_
    refine rs ?_
    refine run_cond (ht rfl) (fun e2 => ?_) (fun e2 => ?_)
    · replace h := bt e2 h
      refine run_skip ?_
      refine rs ?_
      refine run_block ?_
      refine rs ?_
      refine rt ?_
      obtain ⟨x1, e3, h⟩ := bind_some h
      refine jp (PJ.xe (xe_keep (xe_ex (xe_ex (xe_ex (xe_ex xe_refl))))) (pj_index_own (ht rfl) (.next (.next .here)) (ht rfl) isInt_i64 (lget_some e3).1 (lget_some e3).2.1 (by kernel_rfl))) rfl rfl rfl ?_
      refine jp (PJ.xe (xe_keep (xe_ex (xe_ex (xe_ex (xe_ex xe_refl))))) (PJ.eqv (pj_load_own0 R_head_Signed (y1.toNat) (ht rfl) (.next (.next .here)) (lget_some e3).2.1 (by kernel_rfl)) (lget_eq e3 (lget_some e3).2.1))) rfl rfl rfl ?_
      refine j_alloc (x := ((0, 0, (Vector.replicate 32 (0#8)), (Vector.replicate 32 (0#8))), ([] : List (BitVec 8)))) (R := R_head_Signed) (zero_prod (zero_prod zero_i64 (zero_prod zero_i64 (zero_prod (zero_vec 32 zero_un) (zero_vec 32 zero_un)))) zero_sl) (by kernel_rfl) rfl fun b1 => ?_
      refine j_store_boxx (r' := x1) (ht rfl) (ht rfl) .here (Path.all R_head_Signed) (by kernel_rfl) rfl ?_
      refine j_freezeTo (t := 5) .here (.of_lk rfl) ?_
      refine j_end ?_
      refine rt ?_
      refine jp (PJ.xe (xe_keep (xe_ex (xe_ex (xe_ex (xe_ex xe_refl))))) (pm (ht rfl))) rfl rfl rfl ?_
      refine jp (PJ.xe (xe_keep (xe_ex (xe_ex (xe_ex (xe_ex xe_refl))))) (pl (ht rfl) (by kernel_rfl))) rfl rfl rfl ?_
      obtain ⟨r1, e4, h⟩ := bind_some h
      refine jp (PJ.xe (xe_keep (xe_ex (xe_ex (xe_ex (xe_ex xe_refl))))) (pj_call (hc (ht rfl) <| hasL_nil) (by kernel_rfl) (c_gossip_copied e4))) rfl rfl rfl ?_
      refine jp (PJ.xe (xe_keep (xe_ex (xe_ex (xe_ex (xe_ex xe_refl))))) (pj_buildSlice (T := 44) (R := R_head_Signed) (.cons (ht rfl) .nil) rfl (by kernel_rfl) (by kernel_rfl))) rfl rfl rfl ?_
      obtain ⟨e5, h⟩ := grd_some h
      refine j_append (T := 44) (E := 44) (ht rfl) .here (src_data (ht rfl)) (by kernel_rfl) (by kernel_rfl) e5 rfl fun v4 => ?_
      refine jp (PJ.xe (xe_keep (xe_ex (xe_ex (xe_ex (xe_ex xe_refl))))) (pa (ht rfl))) rfl rfl rfl ?_
      refine j_end ?_
      refine run_endblock ?_
      refine rt ?_
      refine jp (PJ.xe (xe_keep (xe_ex (xe_ex (xe_ex (xe_ex xe_refl))))) (pj_iadd (ht rfl) has_i64)) rfl rfl rfl ?_
      refine jp (PJ.xe (xe_keep (xe_ex (xe_ex (xe_ex (xe_ex xe_refl))))) (pm (ht rfl))) rfl rfl rfl ?_
      refine j_end ?_
      obtain rfl := oi h
      exact run_next v4 (.cons (.of_lk rfl) <| .cons (.of_lk rfl) <| .cons (.of_lk rfl) <| .cons (.of_lk rfl) <| .nil) (.cons .here <| .cons .here <| .cons .here <| .cons .here <| .cons .here <| .nil)
    · replace h := bf e2 h
      obtain rfl := oi h
      exact run_brk v3 (.cons (.of_lk rfl) <| .cons (.of_lk rfl) <| .cons (.of_lk rfl) <| .cons (.of_lk rfl) <| .nil) (.cons .here <| .cons .here <| .cons .here <| .cons .here <| .cons .here <| .nil)
  · rintro v5
    show Run _ _ _ [(3, ov v5), (11, ov v_p1), (12, i64.slot (p_p.2.1.length : Int)), (13, i64.slot y3)] [own 44 R_head_Signed v5 y4, exE (box b_p 83 (prod (sl u8) (prod (exv v_p1) (prod (exv v_p2) (exv v_p3)))) (p_p.1, (), (), ())) hx0, exE (own 44 R_head_Signed v_p1 p_p.2.1) hx1, exE (own 59 R_gossip_Fork v_p2 p_p.2.2.1) hx2, exE (own 144 R_gossip_link v_p3 p_p.2.2.2) hx3]
    refine run_to (Γ' := [(3, ov v5)]) (H' := [own 44 R_head_Signed v5 y4, exE (box b_p 83 (prod (sl u8) (prod (exv v_p1) (prod (exv v_p2) (exv v_p3)))) (p_p.1, (), (), ())) hx0, exE (own 44 R_head_Signed v_p1 p_p.2.1) hx1, exE (own 59 R_gossip_Fork v_p2 p_p.2.2.1) hx2, exE (own 144 R_gossip_link v_p3 p_p.2.2.2) hx3]) (.cons (.of_lk rfl) <| .nil) (.cons .here <| .cons .here <| .cons .here <| .cons .here <| .cons .here <| .nil) ?_
    refine rs ?_
    refine rt ?_
    refine jp (PJ.xe (xe_keep (xe_ex (xe_ex (xe_ex (xe_ex xe_refl))))) (pm (ht rfl))) rfl rfl rfl ?_
    refine jp (PJ.xe (xe_keep (xe_ex (xe_ex (xe_ex (xe_ex xe_refl))))) (pa (ht rfl))) rfl rfl rfl ?_
    refine j_end ?_
    obtain rfl := oi h
    exact run_ret fun a w hst => q_ret1 hst rfl (.tmp rfl) v5 (fun _ _ h => h) (.cons (.next .here) <| .cons (.next .here) <| .cons (.next .here) <| .cons (.next .here) <| .cons .here <| .nil)
set_option maxRecDepth 100000 in
set_option maxHeartbeats 4000000 in
theorem c_gossip_Pool_ahead {G : GP} {p_p : Option T_gossip_Pool} {p_e : Int} : Ctr Tryd.prog G 59 [(ptr R_gossip_Pool).slot p_p, i64.slot p_e] [] (fun (_ : Unit) => fnS 87 [ptrTo (ptr R_gossip_Pool) p_p, ptrTo i64 p_e]) (fun (_ : Unit) => []) := by
  refine ctr_of_run Tryd.func59 rfl 6 rfl rfl fun m0 w0 b0 => ?_
  show Run _ _ _ [(0, (ptr R_gossip_Pool).slot p_p), (1, i64.slot p_e)] _
  refine rs ?_
  refine rt ?_
  refine jp (pj_box_to (ht rfl)) rfl rfl rfl ?_
  refine jp (pj_box_to (ht rfl)) rfl rfl rfl ?_
  refine jp (pa (s := any) (fun _ _ _ => trivial)) rfl rfl rfl ?_
  refine j_end ?_
  refine rs ?_
  refine rt ?_
  refine jp (pj_makeFunc (hc (ht rfl) <| hc (ht rfl) <| hasL_nil)) rfl rfl rfl ?_
  refine jp (pa (ht rfl)) rfl rfl rfl ?_
  refine j_end ?_
  exact run_ret fun a w hst => q_ret1 hst rfl (.tmp rfl) () (fun _ _ h => h) .nil
set_option maxRecDepth 100000 in
set_option maxHeartbeats 4000000 in
theorem c_gossip_Pool_ahead_1 {G : GP} {Sy : Type} {yl : Sy → Int → Option Sy} {q_0 : Option T_gossip_Pool} {q_1 : Int} {s0 : Sy} {L : Nat} {rc : Loop} {E : Sy → Ent} {r : Sy} (hY : ∀ s d s', yl s d = some s' → YieldC Tryd.prog G L rc (i64.slot d) (E s) (E s')) (h : gossip_Pool_ahead_1 yl q_0 q_1 s0 = some r) : CtrY Tryd.prog G L rc 87 [val (yv L), ptrTo (ptr R_gossip_Pool) q_0, ptrTo i64 q_1] [E s0] (fun (_ : Unit) => tup []) (fun (_ : Unit) => [E r]) := by
  unfold gossip_Pool_ahead_1 at h
  refine ctrY_of_run Tryd.func87 rfl 27 rfl rfl fun m0 w0 b0 hl hb => ?_
  show Run _ _ _ [(0, val (yv L)), (1, ptrTo (ptr R_gossip_Pool) q_0), (2, ptrTo i64 q_1)] _
  refine rs ?_
  refine rt ?_
  refine jp (pl (ht rfl) (by kernel_rfl)) rfl rfl rfl ?_
  obtain ⟨x1, e1, h⟩ := bind_some h
  refine jp (pj_nilCheck_some (ht rfl) e1) rfl rfl rfl ?_
  refine jp (pj_field_to (ht rfl) (Path.then (Path.snd (sl u8) (prod (sl R_head_Signed) (prod (sl R_gossip_Fork) (sl R_gossip_link)))) (Path.then (Path.snd (sl R_head_Signed) (prod (sl R_gossip_Fork) (sl R_gossip_link))) (Path.snd (sl R_gossip_Fork) (sl R_gossip_link)))) (by kernel_rfl)) rfl rfl rfl ?_
  refine jp (pl (ht rfl) (by kernel_rfl)) rfl rfl rfl ?_
  refine jp (pj_len_sl (sz := 2) (ht rfl) (by kernel_rfl)) rfl rfl rfl ?_
  refine jp (pm has_i64) rfl rfl rfl ?_
  refine j_end ?_
  obtain ⟨⟨y4, y5⟩, e8, h⟩ := bind_some h
  refine run_loopS (Γi := fun (i : Unit) (s : Int × Sy) => [(0, val (yv L)), (2, ptrTo i64 q_1), (9, (sl R_gossip_link).slot x1.2.2.2), (10, i64.slot (x1.2.2.2.length : Int)), (11, i64.slot s.1)]) (Hi := fun (i : Unit) (s : Int × Sy) => [E s.2]) e8 () (fun a w hst => (hst.sub (.cons (.of_lk rfl) <| .cons (.of_lk rfl) <| .cons (.of_lk rfl) <| .cons (.of_lk rfl) <| .cons (.of_lk rfl) <| .nil)).keep (.cons .here <| .nil)) ?_ ?_
  · clear h e8
    rintro _ ⟨y1, y2⟩ lr h
    change gossip_Pool_ahead_1_L1 x1 q_1 yl y1 y2 = some _ at h
    show Run _ _ _ [(0, val (yv L)), (2, ptrTo i64 q_1), (9, (sl R_gossip_link).slot x1.2.2.2), (10, i64.slot (x1.2.2.2.length : Int)), (11, i64.slot y1)] [E y2]
    unfold gossip_Pool_ahead_1_L1 at h
    refine rs ?_
    refine rt ?_
    refine jp (pj_ilss (ht rfl) (ht rfl)) rfl rfl rfl ?_
    refine j_end ?_
    refine rs ?_
    refine run_cond (ht rfl) (fun e2 => ?_) (fun e2 => ?_)
    · replace h := bt e2 h
      refine run_skip ?_
      refine rs ?_
      refine run_block ?_
      refine rs ?_
      refine rt ?_
      obtain ⟨x2, e3, h⟩ := bind_some h
      refine jp (pj_index_slx (ht rfl) (ht rfl) isInt_i64 e3 (by kernel_rfl)) rfl rfl rfl ?_
      refine jp (pl (ht rfl) (by kernel_rfl)) rfl rfl rfl ?_
      refine j_alloc (x := (0, 0)) (R := R_gossip_link) (zero_prod zero_i64 zero_i64) (by kernel_rfl) rfl fun b1 => ?_
      refine j_store_boxx (r' := x2) (ht rfl) (ht rfl) .here (Path.all R_gossip_link) (by kernel_rfl) rfl ?_
      refine j_freezeTo (t := 5) .here (.of_lk rfl) ?_
      refine j_end ?_
      refine rs ?_
      refine rt ?_
      refine jp (pj_field_to (ht rfl) (Path.fst i64 i64) (by kernel_rfl)) rfl rfl rfl ?_
      refine jp (pl (ht rfl) (by kernel_rfl)) rfl rfl rfl ?_
      refine jp (pl (ht rfl) (by kernel_rfl)) rfl rfl rfl ?_
      refine jp (pj_ieql (ht rfl) (ht rfl)) rfl rfl rfl ?_
      refine jp (pm (ht rfl)) rfl rfl rfl ?_
      rcases bool_tf (decide (x2.1 = q_1)) with e4 | e4
      · replace h := bt e4 h
        refine jy (pm (ht rfl)) rfl rfl rfl rfl (bl_isx e4) rfl rfl ?_
        refine jy (pj_field_to (ht rfl) (Path.snd i64 i64) (by kernel_rfl)) rfl rfl rfl rfl (bl_isx e4) rfl rfl ?_
        refine jy (pl (ht rfl) (by kernel_rfl)) rfl rfl rfl rfl (bl_isx e4) rfl rfl ?_
        obtain ⟨y3, e5, h⟩ := bind_some h
        refine j_guard_yes rfl rfl rfl rfl (bl_isx e4) (j_yield (ht rfl) (ht rfl) hl hb (hY _ _ _ e5) rfl ?_)
        refine jy (pj_not (ht rfl)) rfl rfl rfl rfl (bl_isx e4) rfl rfl ?_
        refine jp (pj_pick (t := any) (ht rfl) (fun _ => (ht rfl)) (fun he => absurd (e4.symm.trans he) (by decide))) rfl rfl rfl ?_
        refine j_end ?_
        refine run_cond_f (ht rfl) rfl ?_
        refine run_skip ?_
        refine run_endblock ?_
        refine rt ?_
        refine jp (pj_iadd (ht rfl) has_i64) rfl rfl rfl ?_
        refine jp (pm (ht rfl)) rfl rfl rfl ?_
        refine j_end ?_
        obtain rfl := oi h
        exact run_next () (.cons (.of_lk rfl) <| .cons (.of_lk rfl) <| .cons (.of_lk rfl) <| .cons (.of_lk rfl) <| .cons (.of_lk rfl) <| .nil) (.cons .here <| .nil)
      · replace h := bf e4 h
        refine j_guard_no2 (j := 4) (want := true) rfl rfl rfl rfl (bl_isx e4) rfl rfl rfl ?_
        refine j_guard_no2 (j := 4) (want := true) rfl rfl rfl rfl (bl_isx e4) rfl rfl rfl ?_
        refine j_guard_no2 (j := 4) (want := true) rfl rfl rfl rfl (bl_isx e4) rfl rfl rfl ?_
        refine j_guard_no2 (j := 4) (want := true) rfl rfl rfl rfl (bl_isx e4) rfl rfl rfl ?_
        refine j_guard_no2 (j := 4) (want := true) rfl rfl rfl rfl (bl_isx e4) rfl rfl rfl ?_
        refine jp (pj_pick (t := any) (ht rfl) (fun he => absurd (e4.symm.trans he) (by decide)) (fun _ => has_bl)) rfl rfl rfl ?_
        refine j_end ?_
        refine run_cond_f (ht rfl) rfl ?_
        refine run_skip ?_
        refine run_endblock ?_
        refine rt ?_
        refine jp (pj_iadd (ht rfl) has_i64) rfl rfl rfl ?_
        refine jp (pm (ht rfl)) rfl rfl rfl ?_
        refine j_end ?_
        obtain rfl := oi h
        exact run_next () (.cons (.of_lk rfl) <| .cons (.of_lk rfl) <| .cons (.of_lk rfl) <| .cons (.of_lk rfl) <| .cons (.of_lk rfl) <| .nil) (.cons .here <| .nil)
    · replace h := bf e2 h
      obtain rfl := oi h
      exact run_brk () (.cons (.of_lk rfl) <| .cons (.of_lk rfl) <| .cons (.of_lk rfl) <| .cons (.of_lk rfl) <| .cons (.of_lk rfl) <| .nil) (.cons .here <| .nil)
  · rintro _
    show Run _ _ _ [(0, val (yv L)), (2, ptrTo i64 q_1), (9, (sl R_gossip_link).slot x1.2.2.2), (10, i64.slot (x1.2.2.2.length : Int)), (11, i64.slot y4)] [E y5]
    refine run_to (Γ' := []) (H' := [E y5]) (.nil) (.cons .here <| .nil) ?_
    obtain rfl := oi h
    exact run_nil fun a w hst => q_retN_n hst rfl (.nil) rfl () (fun _ _ h => h) (.cons .here <| .nil)
set_option maxRecDepth 100000 in
set_option maxHeartbeats 4000000 in
theorem c_gossip_Pool_Linked {G : GP} {p_p : Option T_gossip_Pool} {p_m : Int} {p_n : Int} {r : Bool} (h : gossip_Pool_Linked p_p p_m p_n = some r) : Ctr Tryd.prog G 38 [(ptr R_gossip_Pool).slot p_p, i64.slot p_m, i64.slot p_n] [] (fun (_ : Unit) => bl.slot r) (fun (_ : Unit) => []) := by
  unfold gossip_Pool_Linked at h
  refine ctr_of_runM Tryd.func38 rfl 71 rfl rfl fun m0 w0 b0 => ?_
  refine run_ret0 fun Qf hq1 hq2 => ?_
  show Run _ _ _ [(0, (ptr R_gossip_Pool).slot p_p), (1, i64.slot p_m), (2, i64.slot p_n)] _
  refine rs ?_
  refine rt ?_
  refine jp (pa has_bl) rfl rfl rfl ?_
  refine j_end ?_
  refine rs ?_
  refine rs ?_
  refine rt ?_
  refine jp (pm (ht rfl)) rfl rfl rfl ?_
  refine jp (pj_eq_nil (E := 83) (by kernel_rfl) (ht rfl)) rfl rfl rfl ?_
  refine j_end ?_
  refine run_cond (ht rfl) (fun e1 => ?_) (fun e1 => ?_)
  · replace h := bt e1 h
    refine rs ?_
    refine rt ?_
    refine jp (pa has_bl) rfl rfl rfl ?_
    refine j_end ?_
    obtain rfl := oi h
    exact run_ret fun a w hst => q_ret1M hst rfl (.tmp rfl) () (fun _ _ h => h) (.nil)
  · replace h := bf e1 h
    refine run_skip ?_
    refine rs ?_
    refine rt ?_
    refine jp (pm (ht rfl)) rfl rfl rfl ?_
    refine jp (pm (ht rfl)) rfl rfl rfl ?_
    obtain ⟨r1, e2, h⟩ := bind_some h
    refine jp (pj_call (hc (ht rfl) <| hc (ht rfl) <| hasL_nil) (by kernel_rfl) (c_gossip_Pool_place e2)) rfl rfl rfl ?_
    refine jp (pm (ht rfl)) rfl rfl rfl ?_
    refine jp (pj_extract (ht rfl) rfl) rfl rfl rfl ?_
    refine jp (pj_extract (ht rfl) rfl) rfl rfl rfl ?_
    refine jp (pa (ht rfl)) rfl rfl rfl ?_
    refine jp (pa (ht rfl)) rfl rfl rfl ?_
    refine j_end ?_
    refine rs ?_
    refine rt ?_
    refine jp (pm (ht rfl)) rfl rfl rfl ?_
    refine jp (pm (ht rfl)) rfl rfl rfl ?_
    obtain ⟨r2, e3, h⟩ := bind_some h
    refine jp (pj_call (hc (ht rfl) <| hc (ht rfl) <| hasL_nil) (by kernel_rfl) (c_gossip_Pool_place e3)) rfl rfl rfl ?_
    refine jp (pm (ht rfl)) rfl rfl rfl ?_
    refine jp (pj_extract (ht rfl) rfl) rfl rfl rfl ?_
    refine jp (pj_extract (ht rfl) rfl) rfl rfl rfl ?_
    refine jp (pa (ht rfl)) rfl rfl rfl ?_
    refine jp (pa (ht rfl)) rfl rfl rfl ?_
    refine j_end ?_
    refine rs ?_
    refine rs ?_
    refine rt ?_
    refine jp (pm (ht rfl)) rfl rfl rfl ?_
    refine jp (pj_not (ht rfl)) rfl rfl rfl ?_
    refine jp (pm (ht rfl)) rfl rfl rfl ?_
    obtain ⟨y1, e5, h⟩ := bind_some h
    refine j_joinx (ι := Unit) (Γ' := fun _ => [(0, (ptr R_gossip_Pool).slot p_p), (1, i64.slot p_m), (2, i64.slot p_n), (35, bl.slot y1)]) (H' := fun _ => []) 3 ?_ fun J => ?_
    · intro _
      clear e5
      show OpsJ _ _ _ [(0, (ptr R_gossip_Pool).slot p_p), (1, i64.slot p_m), (2, i64.slot p_n), (35, bl.slot y1)] [] _
      refine j_end ?_
      refine run_cond (ht rfl) (fun e6 => ?_) (fun e6 => ?_)
      · replace h := bt e6 h
        refine rs ?_
        refine rt ?_
        refine jp (pa has_bl) rfl rfl rfl ?_
        refine j_end ?_
        obtain rfl := oi h
        exact run_ret fun a w hst => q_ret1M hst rfl (.tmp rfl) () (fun _ _ h => h) (.nil)
      · replace h := bf e6 h
        refine run_skip ?_
        refine rs ?_
        refine rt ?_
        refine jp (pm (ht rfl)) rfl rfl rfl ?_
        refine j_buildSlice (T := 3) (R := i64) (.cons (ht rfl) .nil) rfl (by kernel_rfl) (by kernel_rfl) rfl fun v1 => ?_
        refine j_alloc (x := ([] : List Int)) (R := (sl i64)) zero_sl (by kernel_rfl) rfl fun b1 => ?_
        refine j_store_ow (ht rfl) (ht rfl) .here (by kernel_rfl) (by kernel_rfl) ?_
        refine j_end ?_
        refine rs ?_
        refine rs ?_
        refine rt ?_
        refine jp (pa has_i64) rfl rfl rfl ?_
        refine j_end ?_
        obtain ⟨o, e17, h⟩ := bind_some h
        refine run_loop (Γi := fun (i : Value) (s : Int × (List Int)) => [(0, (ptr R_gossip_Pool).slot p_p), (2, i64.slot p_n), (11, val (.pointer (some ⟨b1, 0, none⟩))), (12, i64.slot s.1)]) (Hi := fun (i : Value) (s : Int × (List Int)) => [box b1 102 (exv i) (), own 3 i64 i s.2]) (R := fun x a w => x = r → Qf a w) e17 v1 (fun a w hst => (hst.sub (.cons (.of_lk rfl) <| .cons (.of_lk rfl) <| .cons (.of_lk rfl) <| .cons (.of_lk rfl) <| .nil)).keep (.cons .here <| .cons .here <| .nil)) ?_ ?_ ?_
        · clear h e17
          rintro v2 ⟨y2, y3⟩ lr h
          change gossip_Pool_Linked_L1 p_n p_p y2 y3 = some _ at h
          show Run _ _ _ [(0, (ptr R_gossip_Pool).slot p_p), (2, i64.slot p_n), (11, val (.pointer (some ⟨b1, 0, none⟩))), (12, i64.slot y2)] [box b1 102 (exv v2) (), own 3 i64 v2 y3]
          unfold gossip_Pool_Linked_L1 at h
          refine rs ?_
          refine rs ?_
          refine rt ?_
          refine jp (pm (ht rfl)) rfl rfl rfl ?_
          refine jp (pj_load_box (ht rfl) .here (Path.all (exv v2)) (by kernel_rfl)) rfl rfl rfl ?_
          refine jp (pj_len_own (sz := 1) (ht rfl) (.next .here) (by kernel_rfl)) rfl rfl rfl ?_
          refine jp (pj_ilss (ht rfl) (ht rfl)) rfl rfl rfl ?_
          refine j_end ?_
          refine run_cond (ht rfl) (fun e7 => ?_) (fun e7 => ?_)
          · replace h := bt e7 h
            refine run_skip ?_
            refine rs ?_
            refine run_block ?_
            refine run_scope (ng_bq ng_lq) ?_
            refine rs ?_
            refine rs ?_
            refine rt ?_
            refine jp (pj_load_box (ht rfl) .here (Path.all (exv v2)) (by kernel_rfl)) rfl rfl rfl ?_
            refine jp (pm (ht rfl)) rfl rfl rfl ?_
            obtain ⟨x1, e8, h⟩ := bind_some h
            refine jp (pj_index_own (ht rfl) (.next .here) (ht rfl) isInt_i64 (lget_some e8).1 (lget_some e8).2.1 (by kernel_rfl)) rfl rfl rfl ?_
            refine jp (PJ.eqv (pj_load_own0 i64 (y2.toNat) (ht rfl) (.next .here) (lget_some e8).2.1 (by kernel_rfl)) (lget_eq e8 (lget_some e8).2.1)) rfl rfl rfl ?_
            refine jp (pm (ht rfl)) rfl rfl rfl ?_
            refine jp (pj_ieql (ht rfl) (ht rfl)) rfl rfl rfl ?_
            refine j_end ?_
            refine run_cond (ht rfl) (fun e9 => ?_) (fun e9 => ?_)
            · replace h := bt e9 h
              refine rs ?_
              refine rt ?_
              refine jp (pa has_bl) rfl rfl rfl ?_
              refine j_end ?_
              obtain rfl := oi h
              refine run_ret fun a w hst => ⟨rfl, fun hr => ?_⟩
              subst hr
              exact hq2 a w (q_ret1M hst rfl (.tmp rfl) () (fun _ _ h => h) (.nil))
            · replace h := bf e9 h
              refine run_skip ?_
              refine rs ?_
              refine run_label ?_
              refine rs ?_
              refine rt ?_
              refine jp (pm (ht rfl)) rfl rfl rfl ?_
              refine jp (pj_load_box (ht rfl) .here (Path.all (exv v2)) (by kernel_rfl)) rfl rfl rfl ?_
              refine jp (pm (ht rfl)) rfl rfl rfl ?_
              obtain ⟨x2, e10, h⟩ := bind_some h
              refine jp (pj_index_own (ht rfl) (.next .here) (ht rfl) isInt_i64 (lget_some e10).1 (lget_some e10).2.1 (by kernel_rfl)) rfl rfl rfl ?_
              refine jp (PJ.eqv (pj_load_own0 i64 (y2.toNat) (ht rfl) (.next .here) (lget_some e10).2.1 (by kernel_rfl)) (lget_eq e10 (lget_some e10).2.1)) rfl rfl rfl ?_
              refine jp (pj_call (hc (ht rfl) <| hc (ht rfl) <| hasL_nil) (by kernel_rfl) c_gossip_Pool_ahead) rfl rfl rfl ?_
              refine j_end ?_
              refine run_block ?_
              refine run_to (Γ' := [(0, (ptr R_gossip_Pool).slot p_p), (2, i64.slot p_n), (11, val (.pointer (some ⟨b1, 0, none⟩))), (12, i64.slot y2), (55, fnS 87 [ptrTo (ptr R_gossip_Pool) p_p, ptrTo i64 x2])]) (H' := [box b1 102 (exv v2) (), own 3 i64 v2 y3]) (.cons (.of_lk rfl) <| .cons (.of_lk rfl) <| .cons (.of_lk rfl) <| .cons (.of_lk rfl) <| .cons (.of_lk rfl) <| .nil) (.cons .here <| .cons .here <| .nil) ?_
              obtain ⟨y8, e16, h⟩ := bind_some h
              refine run_rangeFunc (σ := (List Int)) (α := Int) (κ := Value) (Es := fun (i : Value) (s : (List Int)) => [box b1 102 (exv i) (), own 3 i64 i s]) (y := (fun (s : (List Int)) (d : Int) => gossip_Pool_Linked_L2 s d)) (sd := fun d => i64.slot d) (Γ1 := fun d => [(11, val (.pointer (some ⟨b1, 0, none⟩))), (13, i64.slot d)]) v2 (ht rfl) (by kernel_rfl) rfl (.cons .here <| .cons .here <| .nil) (fun l rc G' hG hY => (c_gossip_Pool_ahead_1 (E := fun (s : (List Int)) => packE fun (i : Value) => [box b1 102 (exv i) (), own 3 i64 i s]) hY e16)) ?_ ?_ ?_
              · clear h e16
                rintro lz mz wz bz v3 y4 d s2 h
                show Run _ _ _ ((56, i64.slot d) :: [(0, (ptr R_gossip_Pool).slot p_p), (2, i64.slot p_n), (11, val (.pointer (some ⟨b1, 0, none⟩))), (12, i64.slot y2), (55, fnS 87 [ptrTo (ptr R_gossip_Pool) p_p, ptrTo i64 x2])]) [box b1 102 (exv v3) (), own 3 i64 v3 y4]
                refine rt ?_
                refine jp (pa (ht rfl)) rfl rfl rfl ?_
                refine j_end ?_
                exact run_nil fun a w hst => ⟨rfl, (hst.sub (.cons (.of_lk rfl) <| .cons (.of_lk rfl) <| .nil)).keep (.cons .here <| .cons .here <| .nil)⟩
              · clear h e16
                rintro lz mz wz bz v3 y4 d s2 h
                change gossip_Pool_Linked_L2 y4 d = some _ at h
                show Run _ _ _ [(11, val (.pointer (some ⟨b1, 0, none⟩))), (13, i64.slot d)] [box b1 102 (exv v3) (), own 3 i64 v3 y4]
                unfold gossip_Pool_Linked_L2 at h
                refine run_block ?_
                refine rs ?_
                refine rs ?_
                refine rt ?_
                refine jp (pj_load_box (ht rfl) .here (Path.all (exv v3)) (by kernel_rfl)) rfl rfl rfl ?_
                refine jp (pj_len_own (sz := 1) (ht rfl) (.next .here) (by kernel_rfl)) rfl rfl rfl ?_
                refine jp (pm has_i64) rfl rfl rfl ?_
                refine j_end ?_
                obtain ⟨o, e14, h⟩ := bind_some h
                refine run_loopX (id2 := 3) (Γi := fun (i : Unit) (s : Int) => [(11, val (.pointer (some ⟨b1, 0, none⟩))), (13, i64.slot d), (57, ov v3), (58, i64.slot (y4.length : Int)), (59, i64.slot s)]) (Hi := fun (i : Unit) (s : Int) => [box b1 102 (exv v3) (), own 3 i64 v3 y4]) e14 rfl () (fun a w hst => (hst.sub (.cons (.of_lk rfl) <| .cons (.of_lk rfl) <| .cons (.of_lk rfl) <| .cons (.of_lk rfl) <| .cons (.of_lk rfl) <| .nil)).keep (.cons .here <| .cons .here <| .nil)) ?_ ?_ ?_
                · clear h e14
                  rintro _ y5 lr h
                  change gossip_Pool_Linked_L3 y4 d y5 = some _ at h
                  show Run _ _ _ [(11, val (.pointer (some ⟨b1, 0, none⟩))), (13, i64.slot d), (57, ov v3), (58, i64.slot (y4.length : Int)), (59, i64.slot y5)] [box b1 102 (exv v3) (), own 3 i64 v3 y4]
                  unfold gossip_Pool_Linked_L3 at h
                  refine rs ?_
                  refine rt ?_
                  refine jp (pj_ilss (ht rfl) (ht rfl)) rfl rfl rfl ?_
                  refine j_end ?_
                  refine rs ?_
                  refine run_cond (ht rfl) (fun e11 => ?_) (fun e11 => ?_)
                  · replace h := bt e11 h
                    refine run_skip ?_
                    refine rs ?_
                    refine run_block ?_
                    refine rs ?_
                    refine rt ?_
                    obtain ⟨x3, e12, h⟩ := bind_some h
                    refine jp (pj_index_own (ht rfl) (.next .here) (ht rfl) isInt_i64 (lget_some e12).1 (lget_some e12).2.1 (by kernel_rfl)) rfl rfl rfl ?_
                    refine jp (PJ.eqv (pj_load_own0 i64 (y5.toNat) (ht rfl) (.next .here) (lget_some e12).2.1 (by kernel_rfl)) (lget_eq e12 (lget_some e12).2.1)) rfl rfl rfl ?_
                    refine jp (pa (ht rfl)) rfl rfl rfl ?_
                    refine j_end ?_
                    refine rs ?_
                    refine rt ?_
                    refine jp (pm (ht rfl)) rfl rfl rfl ?_
                    refine jp (pm (ht rfl)) rfl rfl rfl ?_
                    refine jp (pj_ieql (ht rfl) (ht rfl)) rfl rfl rfl ?_
                    refine j_end ?_
                    refine run_cond (ht rfl) (fun e13 => ?_) (fun e13 => ?_)
                    · replace h := bt e13 h
                      refine run_exit fun a w hst => ?_
                      refine bq_exit_ne rfl ?_
                      obtain rfl := oi h
                      exact lqx_out () (.cons (.of_lk rfl) <| .cons (.of_lk rfl) <| .cons (.of_lk rfl) <| .cons (.of_lk rfl) <| .cons (.of_lk rfl) <| .nil) (.cons .here <| .cons .here <| .nil) hst
                    · replace h := bf e13 h
                      refine run_skip ?_
                      refine run_endblock ?_
                      refine rt ?_
                      refine jp (pj_iadd (ht rfl) has_i64) rfl rfl rfl ?_
                      refine jp (pm (ht rfl)) rfl rfl rfl ?_
                      refine j_end ?_
                      obtain rfl := oi h
                      exact run_nextX () (.cons (.of_lk rfl) <| .cons (.of_lk rfl) <| .cons (.of_lk rfl) <| .cons (.of_lk rfl) <| .cons (.of_lk rfl) <| .nil) (.cons .here <| .cons .here <| .nil)
                  · replace h := bf e11 h
                    obtain rfl := oi h
                    exact run_brkX () (.cons (.of_lk rfl) <| .cons (.of_lk rfl) <| .cons (.of_lk rfl) <| .cons (.of_lk rfl) <| .cons (.of_lk rfl) <| .nil) (.cons .here <| .cons .here <| .nil)
                · rintro _ y6 ho
                  subst ho
                  show Run _ _ _ [(11, val (.pointer (some ⟨b1, 0, none⟩))), (13, i64.slot d), (57, ov v3), (58, i64.slot (y4.length : Int)), (59, i64.slot y6)] [box b1 102 (exv v3) (), own 3 i64 v3 y4]
                  refine run_to (Γ' := [(11, val (.pointer (some ⟨b1, 0, none⟩))), (13, i64.slot d)]) (H' := [box b1 102 (exv v3) (), own 3 i64 v3 y4]) (.cons (.of_lk rfl) <| .cons (.of_lk rfl) <| .nil) (.cons .here <| .cons .here <| .nil) ?_
                  refine rt ?_
                  refine jp (pj_load_box (ht rfl) .here (Path.all (exv v3)) (by kernel_rfl)) rfl rfl rfl ?_
                  refine jp (pm (ht rfl)) rfl rfl rfl ?_
                  refine jp (pj_buildSlice (T := 3) (R := i64) (.cons (ht rfl) .nil) rfl (by kernel_rfl) (by kernel_rfl)) rfl rfl rfl ?_
                  obtain ⟨e15, h⟩ := grd_some h
                  refine j_append (T := 3) (E := 3) (ht rfl) (.next .here) (src_data (ht rfl)) (by kernel_rfl) (by kernel_rfl) e15 rfl fun v4 => ?_
                  refine j_store_ow (ht rfl) (ht rfl) (.next .here) (by kernel_rfl) (by kernel_rfl) ?_
                  refine j_end ?_
                  refine run_endblock ?_
                  obtain rfl := oi h
                  exact run_nil fun a w hst => ⟨rfl, v4, (hst.sub .nil).keep (.cons .here <| .cons .here <| .nil)⟩
                · rintro _ y7 a w ho hst
                  subst ho
                  refine bq_exit ((?_ : Run _ _ _ _ _) a w hst)
                  clear hst
                  show Run _ _ _ [(11, val (.pointer (some ⟨b1, 0, none⟩))), (13, i64.slot d), (57, ov v3), (58, i64.slot (y4.length : Int)), (59, i64.slot y7)] [box b1 102 (exv v3) (), own 3 i64 v3 y4]
                  obtain rfl := oi h
                  exact run_nil fun a w hst => ⟨rfl, v3, (hst.sub .nil).keep (.cons .here <| .cons .here <| .nil)⟩
              · rintro v5
                show Run _ _ _ [(0, (ptr R_gossip_Pool).slot p_p), (2, i64.slot p_n), (11, val (.pointer (some ⟨b1, 0, none⟩))), (12, i64.slot y2), (55, fnS 87 [ptrTo (ptr R_gossip_Pool) p_p, ptrTo i64 x2])] [box b1 102 (exv v5) (), own 3 i64 v5 y8]
                refine run_to (Γ' := [(0, (ptr R_gossip_Pool).slot p_p), (2, i64.slot p_n), (11, val (.pointer (some ⟨b1, 0, none⟩))), (12, i64.slot y2)]) (H' := [box b1 102 (exv v5) (), own 3 i64 v5 y8]) (.cons (.of_lk rfl) <| .cons (.of_lk rfl) <| .cons (.of_lk rfl) <| .cons (.of_lk rfl) <| .nil) (.cons .here <| .cons .here <| .nil) ?_
                refine run_endblock ?_
                refine run_endblock ?_
                refine rt ?_
                refine jp (pm (ht rfl)) rfl rfl rfl ?_
                refine jp (pj_iadd (ht rfl) has_i64) rfl rfl rfl ?_
                refine jp (pa (ht rfl)) rfl rfl rfl ?_
                refine j_end ?_
                obtain rfl := oi h
                exact run_next v5 (.cons (.of_lk rfl) <| .cons (.of_lk rfl) <| .cons (.of_lk rfl) <| .cons (.of_lk rfl) <| .nil) (.cons .here <| .cons .here <| .nil)
          · replace h := bf e7 h
            obtain rfl := oi h
            exact run_brk v2 (.cons (.of_lk rfl) <| .cons (.of_lk rfl) <| .cons (.of_lk rfl) <| .cons (.of_lk rfl) <| .nil) (.cons .here <| .cons .here <| .nil)
        · rintro v6 ⟨y9, y10⟩ ho
          subst ho
          show Run _ _ _ [(0, (ptr R_gossip_Pool).slot p_p), (2, i64.slot p_n), (11, val (.pointer (some ⟨b1, 0, none⟩))), (12, i64.slot y9)] [box b1 102 (exv v6) (), own 3 i64 v6 y10]
          refine run_to (Γ' := []) (H' := []) (.nil) (.nil) ?_
          refine rs ?_
          refine rt ?_
          refine jp (pa has_bl) rfl rfl rfl ?_
          refine j_end ?_
          obtain rfl := oi h
          exact run_ret fun a w hst => q_ret1M hst rfl (.tmp rfl) () (fun _ _ h => h) (.nil)
        · intro x a w ho hR
          subst ho
          exact hq1 a w (hR (oi h))
    · rcases bool_tf (!r1.2) with e4 | e4
      · replace e5 := bt e4 e5
        refine j_guard_no2 (j := 2) (want := false) rfl rfl rfl rfl (bl_isx e4) rfl rfl rfl ?_
        refine j_guard_no2 (j := 2) (want := false) rfl rfl rfl rfl (bl_isx e4) rfl rfl rfl ?_
        refine jp (PJ.eqv (R := bl) (pj_pick (t := any) (ht rfl) (fun _ => has_bl) (fun he => absurd (e4.symm.trans he) (by decide))) (oi e5)) rfl rfl rfl ?_
        exact j_to (.cons (.of_lk rfl) <| .cons (.of_lk rfl) <| .cons (.of_lk rfl) <| .cons (.of_lk rfl) <| .nil) (.nil) (J ())
      · replace e5 := bf e4 e5
        refine jy (pm (ht rfl)) rfl rfl rfl rfl (bl_isx e4) rfl rfl ?_
        refine jy (pj_not (ht rfl)) rfl rfl rfl rfl (bl_isx e4) rfl rfl ?_
        refine jp (PJ.eqv (R := bl) (pj_pick (t := any) (ht rfl) (fun he => absurd (e4.symm.trans he) (by decide)) (fun _ => (ht rfl))) (oi e5)) rfl rfl rfl ?_
        exact j_to (.cons (.of_lk rfl) <| .cons (.of_lk rfl) <| .cons (.of_lk rfl) <| .cons (.of_lk rfl) <| .nil) (.nil) (J ())
set_option maxRecDepth 100000 in
set_option maxHeartbeats 4000000 in
theorem c_rolodexlaw27_awake {G : GP} (hg0 : HG0 G) (hg1 : HG1 G) (hg2 : HG2 G) {r : Bool} (h : rolodexlaw27_awake = some r) : Ctr Tryd.prog G 16 [] [] (fun (_ : Unit) => bl.slot r) (fun (_ : Unit) => []) := by
  unfold rolodexlaw27_awake at h
  refine ctr_of_run Tryd.func16 rfl 23 rfl rfl fun m0 w0 b0 => ?_
  show Run _ _ _ [] _
  refine rs ?_
  refine rt ?_
  refine jp (pa has_bl) rfl rfl rfl ?_
  refine j_end ?_
  refine rs ?_
  refine rt ?_
  obtain ⟨r1, e1, h⟩ := bind_some h
  refine j_call (hasL_nil) (by kernel_rfl) (c_rolodexlaw27_Signer hg0 hg1 hg2 e1) .nil rfl fun b1 => ?_
  refine jp (pa (ht rfl)) rfl rfl rfl ?_
  refine j_end ?_
  refine rs ?_
  refine rt ?_
  refine jp (pm (ht rfl)) rfl rfl rfl ?_
  obtain ⟨r2, e2, h⟩ := bind_some h
  refine jp (pj_callR (hc (ht rfl) <| hasL_nil) .here (by kernel_rfl) (Ctr.frozeR (fun _ => (c_hss_Signer_Public e2)))) rfl rfl rfl ?_
  obtain ⟨r3, e3, h⟩ := bind_some h
  refine j_call (hc (ht rfl) <| hasL_nil) (by kernel_rfl) (c_gossip_New e3) .nil rfl fun ⟨b2, v1, v2, v3⟩ => ?_
  refine jp (pa (ht rfl)) rfl rfl rfl ?_
  refine j_end ?_
  refine rs ?_
  refine rt ?_
  refine jp (pm (ht rfl)) rfl rfl rfl ?_
  refine jp (pm (ht rfl)) rfl rfl rfl ?_
  obtain ⟨x1, e4, h⟩ := bind_some h
  refine jp (PJ.eqv (pj_build (R := R_rolodexref17_Head) (zero_prod zero_i64 (zero_prod zero_i64 (zero_prod (zero_vec 32 zero_un) (zero_vec 32 zero_un)))) (by kernel_rfl) (by kernel_rfl) rfl (.cons has_i64 (Path.fst i64 (prod i64 (prod R_api_Hash R_api_Hash))) (by kernel_rfl) (.cons has_i64 (Path.then (Path.snd i64 (prod i64 (prod R_api_Hash R_api_Hash))) (Path.fst i64 (prod R_api_Hash R_api_Hash))) (by kernel_rfl) .nil))) (oi e4)) rfl rfl rfl ?_
  obtain ⟨r4, e5, h⟩ := bind_some h
  refine j_call (hc (ht rfl) <| hc (ht rfl) <| hasL_nil) (by kernel_rfl) (c_rolodexlaw27_Signed hg0 hg1 hg2 e5) (.cons (.next (.next (.next (.next .here)))) <| .nil) rfl fun _ => ?_
  obtain ⟨r5, e6, h⟩ := bind_some h
  refine j_call (hc (ht rfl) <| hc (ht rfl) <| hasL_nil) (by kernel_rfl) (c_gossip_Pool_Put hg0 hg1 hg2 e6) (.cons (.next .here) <| .cons (.next .here) <| .cons (.next .here) <| .cons (.next .here) <| .nil) rfl fun ⟨v4, v5, v6⟩ => ?_
  refine jp (pj_ieql (ht rfl) has_i64) rfl rfl rfl ?_
  refine jp (pm (ht rfl)) rfl rfl rfl ?_
  obtain ⟨y1, e8, h⟩ := bind_some h
  refine j_joinx (ι := Unit) (Γ' := fun _ => [(2, val (.pointer (some ⟨b2, 0, none⟩))), (18, bl.slot y1)]) (H' := fun _ => [box b2 83 (prod (sl u8) (prod (exv v4) (prod (exv v5) (exv v6)))) (r5.1.1, (), (), ()), own 44 R_head_Signed v4 r5.1.2.1, own 59 R_gossip_Fork v5 r5.1.2.2.1, own 144 R_gossip_link v6 r5.1.2.2.2]) 5 ?_ fun J => ?_
  · intro _
    clear e8
    show OpsJ _ _ _ [(2, val (.pointer (some ⟨b2, 0, none⟩))), (18, bl.slot y1)] [box b2 83 (prod (sl u8) (prod (exv v4) (prod (exv v5) (exv v6)))) (r5.1.1, (), (), ()), own 44 R_head_Signed v4 r5.1.2.1, own 59 R_gossip_Fork v5 r5.1.2.2.1, own 144 R_gossip_link v6 r5.1.2.2.2] _
    refine jp (pm (ht rfl)) rfl rfl rfl ?_
    obtain ⟨y2, e11, h⟩ := bind_some h
    refine j_joinx (ι := Unit) (Γ' := fun _ => [(22, bl.slot y2)]) (H' := fun _ => []) 3 ?_ fun J => ?_
    · intro _
      clear e11
      show OpsJ _ _ _ [(22, bl.slot y2)] [] _
      refine jp (pa (ht rfl)) rfl rfl rfl ?_
      refine j_end ?_
      obtain rfl := oi h
      exact run_ret fun a w hst => q_ret1 hst rfl (.tmp rfl) () (fun _ _ h => h) (.nil)
    · rcases bool_tf (y1) with e10 | e10
      · replace e11 := bt e10 e11
        refine jy (pm (ht rfl)) rfl rfl rfl rfl (bl_isx e10) rfl rfl ?_
        obtain ⟨r7, e12, e11⟩ := bind_some e11
        refine jy (pj_callB (hasBL_cons (hasB_obj (ht rfl) .here (ocv_step (.next .here) (cv_snd (sl u8) r5.1.1 (cv_fst (prod (exv v5) (exv v6)) ((), ()) cv_at)) <| ocv_step (.next (.next .here)) (cv_snd (sl u8) r5.1.1 (cv_snd (sl R_head_Signed) r5.1.2.1 (cv_fst (exv v6) () cv_at))) <| ocv_step (.next (.next (.next .here))) (cv_snd (sl u8) r5.1.1 (cv_snd (sl R_head_Signed) r5.1.2.1 (cv_snd (sl R_gossip_Fork) r5.1.2.2.1 cv_at))) <| ocv_refl)) <| hasBL_cons (hasB_of has_i64) <| hasBL_cons (hasB_of has_i64) <| hasBL_nil) (by kernel_rfl) (c_gossip_Pool_Linked e12) (Rep.flat_slot flat_bl _)) rfl rfl rfl rfl (bl_isx e10) rfl rfl ?_
        refine jp (PJ.eqv (R := bl) (pj_pick (t := any) (ht rfl) (fun _ => (ht rfl)) (fun he => absurd (e10.symm.trans he) (by decide))) (oi e11)) rfl rfl rfl ?_
        exact j_to (.cons (.of_lk rfl) <| .nil) (.nil) (J ())
      · replace e11 := bf e10 e11
        refine j_guard_no2 (j := 12) (want := true) rfl rfl rfl rfl (bl_isx e10) rfl rfl rfl ?_
        refine j_guard_no2 (j := 12) (want := true) rfl rfl rfl rfl (bl_isx e10) rfl rfl rfl ?_
        refine jp (PJ.eqv (R := bl) (pj_pick (t := any) (ht rfl) (fun he => absurd (e10.symm.trans he) (by decide)) (fun _ => has_bl)) (oi e11)) rfl rfl rfl ?_
        exact j_to (.cons (.of_lk rfl) <| .nil) (.nil) (J ())
  · rcases bool_tf (decide (r5.2 = (0 : Int))) with e7 | e7
    · replace e8 := bt e7 e8
      refine jy (pm (ht rfl)) rfl rfl rfl rfl (bl_isx e7) rfl rfl ?_
      obtain ⟨r6, e9, e8⟩ := bind_some e8
      refine jy (pj_callXL (fun i : Hp × Hp × Hp × Hp => [exE (box b2 83 (prod (sl u8) (prod (exv v4) (prod (exv v5) (exv v6)))) (r5.1.1, (), (), ())) i.1, exE (own 44 R_head_Signed v4 r5.1.2.1) i.2.1, exE (own 59 R_gossip_Fork v5 r5.1.2.2.1) i.2.2.1, exE (own 144 R_gossip_link v6 r5.1.2.2.2) i.2.2.2]) (hc (ht rfl) <| hasL_nil) (.cons .here <| .cons .here <| .cons .here <| .cons .here <| .nil) x4_sat x4_exact (by kernel_rfl) (fun _ => Ctr.frozeL (c_gossip_Pool_Heads e9))) rfl rfl rfl rfl (bl_isx e7) rfl rfl ?_
      refine jy (pj_len_sl (sz := 67) (ht rfl) (by kernel_rfl)) rfl rfl rfl rfl (bl_isx e7) rfl rfl ?_
      refine jy (pj_ieql (ht rfl) has_i64) rfl rfl rfl rfl (bl_isx e7) rfl rfl ?_
      refine jp (PJ.eqv (R := bl) (pj_pick (t := any) (ht rfl) (fun _ => (ht rfl)) (fun he => absurd (e7.symm.trans he) (by decide))) (oi e8)) rfl rfl rfl ?_
      exact j_to (.cons (.of_lk rfl) <| .cons (.of_lk rfl) <| .nil) (.cons .here <| .cons .here <| .cons .here <| .cons .here <| .nil) (J ())
    · replace e8 := bf e7 e8
      refine j_guard_no2 (j := 6) (want := true) rfl rfl rfl rfl (bl_isx e7) rfl rfl rfl ?_
      refine j_guard_no2 (j := 6) (want := true) rfl rfl rfl rfl (bl_isx e7) rfl rfl rfl ?_
      refine j_guard_no2 (j := 6) (want := true) rfl rfl rfl rfl (bl_isx e7) rfl rfl rfl ?_
      refine j_guard_no2 (j := 6) (want := true) rfl rfl rfl rfl (bl_isx e7) rfl rfl rfl ?_
      refine jp (PJ.eqv (R := bl) (pj_pick (t := any) (ht rfl) (fun he => absurd (e7.symm.trans he) (by decide)) (fun _ => has_bl)) (oi e8)) rfl rfl rfl ?_
      exact j_to (.cons (.of_lk rfl) <| .cons (.of_lk rfl) <| .nil) (.cons .here <| .cons .here <| .cons .here <| .cons .here <| .nil) (J ())
set_option maxRecDepth 100000 in
set_option maxHeartbeats 4000000 in
theorem c_rolodexref17_Is {G : GP} {p_h : T_rolodexref17_Head} {r : Bool} (h : rolodexref17_Is p_h = some r) : Ctr Tryd.prog G 17 [R_rolodexref17_Head.slot p_h] [] (fun (_ : Unit) => bl.slot r) (fun (_ : Unit) => []) := by
  unfold rolodexref17_Is at h
  refine ctr_of_run Tryd.func17 rfl 21 rfl rfl fun m0 w0 b0 => ?_
  show Run _ _ _ [(0, R_rolodexref17_Head.slot p_h)] _
  refine rs ?_
  refine rt ?_
  refine jp (pj_box_to (ht rfl)) rfl rfl rfl ?_
  refine jp (pa has_bl) rfl rfl rfl ?_
  refine j_end ?_
  refine rs ?_
  refine rt ?_
  refine jp (pj_field_to (ht rfl) (Path.fst i64 (prod i64 (prod R_api_Hash R_api_Hash))) (by kernel_rfl)) rfl rfl rfl ?_
  refine jp (pl (ht rfl) (by kernel_rfl)) rfl rfl rfl ?_
  refine jp (pj_igeq (ht rfl) has_i64) rfl rfl rfl ?_
  refine jp (pm (ht rfl)) rfl rfl rfl ?_
  obtain ⟨y1, e2, h⟩ := bind_some h
  refine j_joinx (ι := Unit) (Γ' := fun _ => [(1, ptrTo R_rolodexref17_Head p_h), (10, bl.slot y1)]) (H' := fun _ => []) 4 ?_ fun J => ?_
  · intro _
    clear e2
    show OpsJ _ _ _ [(1, ptrTo R_rolodexref17_Head p_h), (10, bl.slot y1)] [] _
    refine jp (pm (ht rfl)) rfl rfl rfl ?_
    obtain ⟨y2, e4, h⟩ := bind_some h
    refine j_joinx (ι := Unit) (Γ' := fun _ => [(1, ptrTo R_rolodexref17_Head p_h), (15, bl.slot y2)]) (H' := fun _ => []) 4 ?_ fun J => ?_
    · intro _
      clear e4
      show OpsJ _ _ _ [(1, ptrTo R_rolodexref17_Head p_h), (15, bl.slot y2)] [] _
      refine jp (pm (ht rfl)) rfl rfl rfl ?_
      obtain ⟨y3, e6, h⟩ := bind_some h
      refine j_joinx (ι := Unit) (Γ' := fun _ => [(20, bl.slot y3)]) (H' := fun _ => []) 4 ?_ fun J => ?_
      · intro _
        clear e6
        show OpsJ _ _ _ [(20, bl.slot y3)] [] _
        refine jp (pa (ht rfl)) rfl rfl rfl ?_
        refine j_end ?_
        obtain rfl := oi h
        exact run_ret fun a w hst => q_ret1 hst rfl (.tmp rfl) () (fun _ _ h => h) (.nil)
      · rcases bool_tf (y2) with e5 | e5
        · replace e6 := bt e5 e6
          refine jy (pj_field_to (ht rfl) (Path.then (Path.snd i64 (prod i64 (prod R_api_Hash R_api_Hash))) (Path.fst i64 (prod R_api_Hash R_api_Hash))) (by kernel_rfl)) rfl rfl rfl rfl (bl_isx e5) rfl rfl ?_
          refine jy (pl (ht rfl) (by kernel_rfl)) rfl rfl rfl rfl (bl_isx e5) rfl rfl ?_
          refine jy (pj_ileq (ht rfl) has_i64) rfl rfl rfl rfl (bl_isx e5) rfl rfl ?_
          refine jp (PJ.eqv (R := bl) (pj_pick (t := any) (ht rfl) (fun _ => (ht rfl)) (fun he => absurd (e5.symm.trans he) (by decide))) (oi e6)) rfl rfl rfl ?_
          exact j_to (.cons (.of_lk rfl) <| .nil) (.nil) (J ())
        · replace e6 := bf e5 e6
          refine j_guard_no2 (j := 13) (want := true) rfl rfl rfl rfl (bl_isx e5) rfl rfl rfl ?_
          refine j_guard_no2 (j := 13) (want := true) rfl rfl rfl rfl (bl_isx e5) rfl rfl rfl ?_
          refine j_guard_no2 (j := 13) (want := true) rfl rfl rfl rfl (bl_isx e5) rfl rfl rfl ?_
          refine jp (PJ.eqv (R := bl) (pj_pick (t := any) (ht rfl) (fun he => absurd (e5.symm.trans he) (by decide)) (fun _ => has_bl)) (oi e6)) rfl rfl rfl ?_
          exact j_to (.cons (.of_lk rfl) <| .nil) (.nil) (J ())
    · rcases bool_tf (y1) with e3 | e3
      · replace e4 := bt e3 e4
        refine jy (pj_field_to (ht rfl) (Path.then (Path.snd i64 (prod i64 (prod R_api_Hash R_api_Hash))) (Path.fst i64 (prod R_api_Hash R_api_Hash))) (by kernel_rfl)) rfl rfl rfl rfl (bl_isx e3) rfl rfl ?_
        refine jy (pl (ht rfl) (by kernel_rfl)) rfl rfl rfl rfl (bl_isx e3) rfl rfl ?_
        refine jy (pj_igeq (ht rfl) has_i64) rfl rfl rfl rfl (bl_isx e3) rfl rfl ?_
        refine jp (PJ.eqv (R := bl) (pj_pick (t := any) (ht rfl) (fun _ => (ht rfl)) (fun he => absurd (e3.symm.trans he) (by decide))) (oi e4)) rfl rfl rfl ?_
        exact j_to (.cons (.of_lk rfl) <| .cons (.of_lk rfl) <| .nil) (.nil) (J ())
      · replace e4 := bf e3 e4
        refine j_guard_no2 (j := 8) (want := true) rfl rfl rfl rfl (bl_isx e3) rfl rfl rfl ?_
        refine j_guard_no2 (j := 8) (want := true) rfl rfl rfl rfl (bl_isx e3) rfl rfl rfl ?_
        refine j_guard_no2 (j := 8) (want := true) rfl rfl rfl rfl (bl_isx e3) rfl rfl rfl ?_
        refine jp (PJ.eqv (R := bl) (pj_pick (t := any) (ht rfl) (fun he => absurd (e3.symm.trans he) (by decide)) (fun _ => has_bl)) (oi e4)) rfl rfl rfl ?_
        exact j_to (.cons (.of_lk rfl) <| .cons (.of_lk rfl) <| .nil) (.nil) (J ())
  · rcases bool_tf (decide ((1 : Int) ≤ p_h.1)) with e1 | e1
    · replace e2 := bt e1 e2
      refine jy (pj_field_to (ht rfl) (Path.fst i64 (prod i64 (prod R_api_Hash R_api_Hash))) (by kernel_rfl)) rfl rfl rfl rfl (bl_isx e1) rfl rfl ?_
      refine jy (pl (ht rfl) (by kernel_rfl)) rfl rfl rfl rfl (bl_isx e1) rfl rfl ?_
      refine jy (pj_ileq (ht rfl) has_i64) rfl rfl rfl rfl (bl_isx e1) rfl rfl ?_
      refine jp (PJ.eqv (R := bl) (pj_pick (t := any) (ht rfl) (fun _ => (ht rfl)) (fun he => absurd (e1.symm.trans he) (by decide))) (oi e2)) rfl rfl rfl ?_
      exact j_to (.cons (.of_lk rfl) <| .cons (.of_lk rfl) <| .nil) (.nil) (J ())
    · replace e2 := bf e1 e2
      refine j_guard_no2 (j := 3) (want := true) rfl rfl rfl rfl (bl_isx e1) rfl rfl rfl ?_
      refine j_guard_no2 (j := 3) (want := true) rfl rfl rfl rfl (bl_isx e1) rfl rfl rfl ?_
      refine j_guard_no2 (j := 3) (want := true) rfl rfl rfl rfl (bl_isx e1) rfl rfl rfl ?_
      refine jp (PJ.eqv (R := bl) (pj_pick (t := any) (ht rfl) (fun he => absurd (e1.symm.trans he) (by decide)) (fun _ => has_bl)) (oi e2)) rfl rfl rfl ?_
      exact j_to (.cons (.of_lk rfl) <| .cons (.of_lk rfl) <| .nil) (.nil) (J ())
set_option maxRecDepth 100000 in
set_option maxHeartbeats 4000000 in
theorem c_gossip_Pool_Forks {G : GP} {p_p : (List (BitVec 8)) × (List T_head_Signed) × (List T_gossip_Fork) × (List T_gossip_link)} {b_p : Nat} {v_p1 : Value} {v_p2 : Value} {v_p3 : Value} {hx0 : Hp} {hx1 : Hp} {hx2 : Hp} {hx3 : Hp} {r : (List T_gossip_Fork)} (h : gossip_Pool_Forks p_p = some r) : Ctr Tryd.prog G 23 [val (.pointer (some ⟨b_p, 0, none⟩))] [exE (box b_p 83 (prod (sl u8) (prod (exv v_p1) (prod (exv v_p2) (exv v_p3)))) (p_p.1, (), (), ())) hx0, exE (own 44 R_head_Signed v_p1 p_p.2.1) hx1, exE (own 59 R_gossip_Fork v_p2 p_p.2.2.1) hx2, exE (own 144 R_gossip_link v_p3 p_p.2.2.2) hx3] (fun (u0 : Value) => ov u0) (fun (u0 : Value) => [exE (box b_p 83 (prod (sl u8) (prod (exv v_p1) (prod (exv v_p2) (exv v_p3)))) (p_p.1, (), (), ())) hx0, exE (own 44 R_head_Signed v_p1 p_p.2.1) hx1, exE (own 59 R_gossip_Fork v_p2 p_p.2.2.1) hx2, exE (own 144 R_gossip_link v_p3 p_p.2.2.2) hx3, own 59 R_gossip_Fork u0 r]) := by
  unfold gossip_Pool_Forks at h
  refine ctr_of_run Tryd.func23 rfl 29 rfl rfl fun m0 w0 b0 => ?_
  show Run _ _ _ [(0, val (.pointer (some ⟨b_p, 0, none⟩)))] _
  refine rs ?_
  refine rt ?_
  refine j_assign_nil (T := 59) R_gossip_Fork rfl fun v1 => ?_
  refine j_end ?_
  refine rs ?_
  refine rs ?_
  refine rt ?_
  refine jp (PJ.xe (xe_keep (xe_ex (xe_ex (xe_ex (xe_ex xe_refl))))) (pm (ht rfl))) rfl rfl rfl ?_
  refine jp (PJ.xe (xe_keep (xe_ex (xe_ex (xe_ex (xe_ex xe_refl))))) (pj_eq_nil_val (E := 83) (by kernel_rfl) (ht rfl))) rfl rfl rfl ?_
  refine j_end ?_
  refine run_cond_f (ht rfl) rfl ?_
  refine run_skip ?_
  refine rs ?_
  refine rt ?_
  refine j_assign_nil (T := 59) R_gossip_Fork rfl fun v2 => ?_
  refine j_end ?_
  refine rs ?_
  refine rs ?_
  refine rt ?_
  refine jp (PJ.xe (xe_keep (xe_keep (xe_ex (xe_ex (xe_ex (xe_ex xe_refl)))))) (pm (ht rfl))) rfl rfl rfl ?_
  refine jp (PJ.xe (xe_keep (xe_keep (xe_ex (xe_ex (xe_ex (xe_ex xe_refl)))))) (pj_nilCheck_ptr (ht rfl))) rfl rfl rfl ?_
  refine jp (PJ.xe (xe_keep (xe_keep (xe_ex (xe_ex (xe_ex (xe_ex xe_refl)))))) (pj_field_ptr (off := 2) (ht rfl) (by kernel_rfl))) rfl rfl rfl ?_
  refine jp (PJ.xe (xe_keep (xe_keep (xe_ex (xe_ex (xe_ex (xe_ex xe_refl)))))) (pj_load_box (ht rfl) (.next (.next .here)) (Path.then (Path.all (prod (sl u8) (prod (exv v_p1) (prod (exv v_p2) (exv v_p3))))) (Path.then (Path.snd (sl u8) (prod (exv v_p1) (prod (exv v_p2) (exv v_p3)))) (Path.then (Path.snd (exv v_p1) (prod (exv v_p2) (exv v_p3))) (Path.fst (exv v_p2) (exv v_p3))))) (by kernel_rfl))) rfl rfl rfl ?_
  refine jp (PJ.xe (xe_keep (xe_keep (xe_ex (xe_ex (xe_ex (xe_ex xe_refl)))))) (pj_len_own (sz := 134) (ht rfl) (.next (.next (.next (.next .here)))) (by kernel_rfl))) rfl rfl rfl ?_
  refine jp (PJ.xe (xe_keep (xe_keep (xe_ex (xe_ex (xe_ex (xe_ex xe_refl)))))) (pm has_i64)) rfl rfl rfl ?_
  refine j_end ?_
  obtain ⟨⟨y3, y4⟩, e8, h⟩ := bind_some h
  refine run_loopS (Γi := fun (i : Value) (s : Int × (List T_gossip_Fork)) => [(3, ov i), (11, ov v_p2), (12, i64.slot (p_p.2.2.1.length : Int)), (13, i64.slot s.1)]) (Hi := fun (i : Value) (s : Int × (List T_gossip_Fork)) => [own 59 R_gossip_Fork i s.2, exE (box b_p 83 (prod (sl u8) (prod (exv v_p1) (prod (exv v_p2) (exv v_p3)))) (p_p.1, (), (), ())) hx0, exE (own 44 R_head_Signed v_p1 p_p.2.1) hx1, exE (own 59 R_gossip_Fork v_p2 p_p.2.2.1) hx2, exE (own 144 R_gossip_link v_p3 p_p.2.2.2) hx3]) e8 v2 (fun a w hst => (hst.sub (.cons (.of_lk rfl) <| .cons (.of_lk rfl) <| .cons (.of_lk rfl) <| .cons (.of_lk rfl) <| .nil)).keep (.cons .here <| .cons (.next .here) <| .cons (.next .here) <| .cons (.next .here) <| .cons (.next .here) <| .nil)) ?_ ?_
  · clear h e8
    rintro v3 ⟨y1, y2⟩ lr h
    change gossip_Pool_Forks_L1 p_p y1 y2 = some _ at h
    show Run _ _ _ [(3, ov v3), (11, ov v_p2), (12, i64.slot (p_p.2.2.1.length : Int)), (13, i64.slot y1)] [own 59 R_gossip_Fork v3 y2, exE (box b_p 83 (prod (sl u8) (prod (exv v_p1) (prod (exv v_p2) (exv v_p3)))) (p_p.1, (), (), ())) hx0, exE (own 44 R_head_Signed v_p1 p_p.2.1) hx1, exE (own 59 R_gossip_Fork v_p2 p_p.2.2.1) hx2, exE (own 144 R_gossip_link v_p3 p_p.2.2.2) hx3]
    unfold gossip_Pool_Forks_L1 at h
    refine rs ?_
    refine rt ?_
    refine jp (PJ.xe (xe_keep (xe_ex (xe_ex (xe_ex (xe_ex xe_refl))))) (pj_ilss (ht rfl) (ht rfl))) rfl rfl rfl ?_
    refine j_end ?_
    refine rs ?_
    refine run_cond (ht rfl) (fun e2 => ?_) (fun e2 => ?_)
    · replace h := bt e2 h
      refine run_skip ?_
      refine rs ?_
      refine run_block ?_
      refine rs ?_
      refine rt ?_
      obtain ⟨x1, e3, h⟩ := bind_some h
      refine jp (PJ.xe (xe_keep (xe_ex (xe_ex (xe_ex (xe_ex xe_refl))))) (pj_index_own (ht rfl) (.next (.next (.next .here))) (ht rfl) isInt_i64 (lget_some e3).1 (lget_some e3).2.1 (by kernel_rfl))) rfl rfl rfl ?_
      refine jp (PJ.xe (xe_keep (xe_ex (xe_ex (xe_ex (xe_ex xe_refl))))) (PJ.eqv (pj_load_own0 R_gossip_Fork (y1.toNat) (ht rfl) (.next (.next (.next .here))) (lget_some e3).2.1 (by kernel_rfl)) (lget_eq e3 (lget_some e3).2.1))) rfl rfl rfl ?_
      refine j_alloc (x := (((0, 0, (Vector.replicate 32 (0#8)), (Vector.replicate 32 (0#8))), ([] : List (BitVec 8))), ((0, 0, (Vector.replicate 32 (0#8)), (Vector.replicate 32 (0#8))), ([] : List (BitVec 8))))) (R := R_gossip_Fork) (zero_prod (zero_prod (zero_prod zero_i64 (zero_prod zero_i64 (zero_prod (zero_vec 32 zero_un) (zero_vec 32 zero_un)))) zero_sl) (zero_prod (zero_prod zero_i64 (zero_prod zero_i64 (zero_prod (zero_vec 32 zero_un) (zero_vec 32 zero_un)))) zero_sl)) (by kernel_rfl) rfl fun b1 => ?_
      refine j_store_boxx (r' := x1) (ht rfl) (ht rfl) .here (Path.all R_gossip_Fork) (by kernel_rfl) rfl ?_
      refine j_freezeTo (t := 5) .here (.of_lk rfl) ?_
      refine j_end ?_
      obtain ⟨r1, e4, h⟩ := bind_some h
      obtain ⟨r2, e5, h⟩ := bind_some h
      obtain ⟨x2, e6, h⟩ := bind_some h
      refine run_draw (n := 9) (by kernel_rfl) (by kernel_rfl) (by kernel_rfl) (by kernel_rfl) (.read (.plain rfl (PJ.xe (xe_keep (xe_ex (xe_ex (xe_ex (xe_ex xe_refl))))) (pm (ht rfl)))) <| .read (.plain rfl (PJ.xe (xe_keep (xe_ex (xe_ex (xe_ex (xe_ex xe_refl))))) (pj_field_to (ht rfl) (Path.fst R_head_Signed R_head_Signed) (by kernel_rfl)))) <| .read (.plain rfl (PJ.xe (xe_keep (xe_ex (xe_ex (xe_ex (xe_ex xe_refl))))) (pl (ht rfl) (by kernel_rfl)))) <| .read (.plain rfl (PJ.xe (xe_keep (xe_ex (xe_ex (xe_ex (xe_ex xe_refl))))) (pj_call (hc (ht rfl) <| hasL_nil) (by kernel_rfl) (c_gossip_copied e4)))) <| .read (.plain rfl (PJ.xe (xe_keep (xe_ex (xe_ex (xe_ex (xe_ex xe_refl))))) (pj_field_to (ht rfl) (Path.snd R_head_Signed R_head_Signed) (by kernel_rfl)))) <| .read (.plain rfl (PJ.xe (xe_keep (xe_ex (xe_ex (xe_ex (xe_ex xe_refl))))) (pl (ht rfl) (by kernel_rfl)))) <| .read (.plain rfl (PJ.xe (xe_keep (xe_ex (xe_ex (xe_ex (xe_ex xe_refl))))) (pj_call (hc (ht rfl) <| hasL_nil) (by kernel_rfl) (c_gossip_copied e5)))) <| .read (.plain rfl (PJ.xe (xe_keep (xe_ex (xe_ex (xe_ex (xe_ex xe_refl))))) (PJ.eqv (pj_build (R := R_gossip_Fork) (zero_prod (zero_prod (zero_prod zero_i64 (zero_prod zero_i64 (zero_prod (zero_vec 32 zero_un) (zero_vec 32 zero_un)))) zero_sl) (zero_prod (zero_prod zero_i64 (zero_prod zero_i64 (zero_prod (zero_vec 32 zero_un) (zero_vec 32 zero_un)))) zero_sl)) (by kernel_rfl) (by kernel_rfl) rfl (.cons (ht rfl) (Path.fst R_head_Signed R_head_Signed) (by kernel_rfl) (.cons (ht rfl) (Path.snd R_head_Signed R_head_Signed) (by kernel_rfl) .nil))) (oi e6)))) <| .read (.plain rfl (PJ.xe (xe_keep (xe_ex (xe_ex (xe_ex (xe_ex xe_refl))))) (pj_buildSlice (T := 59) (R := R_gossip_Fork) (.cons (ht rfl) .nil) rfl (by kernel_rfl) (by kernel_rfl)))) <| .nil) (j_to (Γ' := [(11, ov v_p2), (12, i64.slot (p_p.2.2.1.length : Int)), (13, i64.slot y1), (17, ov v3), (25, (sl R_gossip_Fork).slot ([x2]))]) (H' := [own 59 R_gossip_Fork v3 y2, exE (box b_p 83 (prod (sl u8) (prod (exv v_p1) (prod (exv v_p2) (exv v_p3)))) (p_p.1, (), (), ())) hx0, exE (own 44 R_head_Signed v_p1 p_p.2.1) hx1, exE (own 59 R_gossip_Fork v_p2 p_p.2.2.1) hx2, exE (own 144 R_gossip_link v_p3 p_p.2.2.2) hx3]) (.cons (.of_lk rfl) <| .cons (.of_lk rfl) <| .cons (.of_lk rfl) <| .cons (.of_lk rfl) <| .cons (.of_lk rfl) <| .nil) (.cons .here <| .cons .here <| .cons .here <| .cons .here <| .cons .here <| .nil) ?_)
      obtain ⟨e7, h⟩ := grd_some h
      refine j_append (T := 59) (E := 59) (ht rfl) .here (src_data (ht rfl)) (by kernel_rfl) (by kernel_rfl) e7 rfl fun v4 => ?_
      refine jp (PJ.xe (xe_keep (xe_ex (xe_ex (xe_ex (xe_ex xe_refl))))) (pa (ht rfl))) rfl rfl rfl ?_
      refine j_end ?_
      refine run_endblock ?_
      refine rt ?_
      refine jp (PJ.xe (xe_keep (xe_ex (xe_ex (xe_ex (xe_ex xe_refl))))) (pj_iadd (ht rfl) has_i64)) rfl rfl rfl ?_
      refine jp (PJ.xe (xe_keep (xe_ex (xe_ex (xe_ex (xe_ex xe_refl))))) (pm (ht rfl))) rfl rfl rfl ?_
      refine j_end ?_
      obtain rfl := oi h
      exact run_next v4 (.cons (.of_lk rfl) <| .cons (.of_lk rfl) <| .cons (.of_lk rfl) <| .cons (.of_lk rfl) <| .nil) (.cons .here <| .cons .here <| .cons .here <| .cons .here <| .cons .here <| .nil)
    · replace h := bf e2 h
      obtain rfl := oi h
      exact run_brk v3 (.cons (.of_lk rfl) <| .cons (.of_lk rfl) <| .cons (.of_lk rfl) <| .cons (.of_lk rfl) <| .nil) (.cons .here <| .cons .here <| .cons .here <| .cons .here <| .cons .here <| .nil)
  · rintro v5
    show Run _ _ _ [(3, ov v5), (11, ov v_p2), (12, i64.slot (p_p.2.2.1.length : Int)), (13, i64.slot y3)] [own 59 R_gossip_Fork v5 y4, exE (box b_p 83 (prod (sl u8) (prod (exv v_p1) (prod (exv v_p2) (exv v_p3)))) (p_p.1, (), (), ())) hx0, exE (own 44 R_head_Signed v_p1 p_p.2.1) hx1, exE (own 59 R_gossip_Fork v_p2 p_p.2.2.1) hx2, exE (own 144 R_gossip_link v_p3 p_p.2.2.2) hx3]
    refine run_to (Γ' := [(3, ov v5)]) (H' := [own 59 R_gossip_Fork v5 y4, exE (box b_p 83 (prod (sl u8) (prod (exv v_p1) (prod (exv v_p2) (exv v_p3)))) (p_p.1, (), (), ())) hx0, exE (own 44 R_head_Signed v_p1 p_p.2.1) hx1, exE (own 59 R_gossip_Fork v_p2 p_p.2.2.1) hx2, exE (own 144 R_gossip_link v_p3 p_p.2.2.2) hx3]) (.cons (.of_lk rfl) <| .nil) (.cons .here <| .cons .here <| .cons .here <| .cons .here <| .cons .here <| .nil) ?_
    refine rs ?_
    refine rt ?_
    refine jp (PJ.xe (xe_keep (xe_ex (xe_ex (xe_ex (xe_ex xe_refl))))) (pm (ht rfl))) rfl rfl rfl ?_
    refine jp (PJ.xe (xe_keep (xe_ex (xe_ex (xe_ex (xe_ex xe_refl))))) (pa (ht rfl))) rfl rfl rfl ?_
    refine j_end ?_
    obtain rfl := oi h
    exact run_ret fun a w hst => q_ret1 hst rfl (.tmp rfl) v5 (fun _ _ h => h) (.cons (.next .here) <| .cons (.next .here) <| .cons (.next .here) <| .cons (.next .here) <| .cons .here <| .nil)
set_option maxRecDepth 100000 in
set_option maxHeartbeats 4000000 in
theorem c_rolodexlaw27_GossipForks {G : GP} (hg0 : HG0 G) (hg1 : HG1 G) (hg2 : HG2 G) {p_a : T_rolodexref17_Head} {p_b : T_rolodexref17_Head} {p_key : List (BitVec 8)} {r : Bool} (h : rolodexlaw27_GossipForks p_a p_b p_key = some r) : Ctr Tryd.prog G 5 [R_rolodexref17_Head.slot p_a, R_rolodexref17_Head.slot p_b, (sl u8).slot p_key] [] (fun (_ : Unit) => bl.slot r) (fun (_ : Unit) => []) := by
  unfold rolodexlaw27_GossipForks at h
  refine ctr_of_run Tryd.func5 rfl 133 rfl rfl fun m0 w0 b0 => ?_
  show Run _ _ _ [(0, R_rolodexref17_Head.slot p_a), (1, R_rolodexref17_Head.slot p_b), (2, (sl u8).slot p_key)] _
  refine rs ?_
  refine rt ?_
  refine jp (pj_box_to (ht rfl)) rfl rfl rfl ?_
  refine j_box (ht rfl) rfl fun b1 => ?_
  refine jp (pa has_bl) rfl rfl rfl ?_
  refine j_end ?_
  refine rs ?_
  refine rt ?_
  refine jp (pj_field_to (ht rfl) (Path.fst i64 (prod i64 (prod R_api_Hash R_api_Hash))) (by kernel_rfl)) rfl rfl rfl ?_
  refine jp (pl (ht rfl) (by kernel_rfl)) rfl rfl rfl ?_
  refine jp (pj_field_ptr (off := 0) (ht rfl) (by kernel_rfl)) rfl rfl rfl ?_
  refine j_store_boxx (r' := (p_a.1, p_b.2.1, p_b.2.2.1, p_b.2.2.2)) (ht rfl) (ht rfl) .here (Path.then (Path.all R_rolodexref17_Head) (Path.fst i64 (prod i64 (prod R_api_Hash R_api_Hash)))) (by kernel_rfl) rfl ?_
  refine j_end ?_
  refine rs ?_
  refine rs ?_
  refine rt ?_
  obtain ⟨r1, e1, h⟩ := bind_some h
  refine jp (pj_call (hasL_nil) (by kernel_rfl) (c_rolodexlaw27_awake hg0 hg1 hg2 e1)) rfl rfl rfl ?_
  refine jp (pj_not (ht rfl)) rfl rfl rfl ?_
  refine jp (pm (ht rfl)) rfl rfl rfl ?_
  obtain ⟨y1, e3, h⟩ := bind_some h
  refine j_joinx (ι := Unit) (Γ' := fun _ => [(3, ptrTo R_rolodexref17_Head p_a), (4, val (.pointer (some ⟨b1, 0, none⟩))), (24, bl.slot y1)]) (H' := fun _ => [box b1 25 R_rolodexref17_Head (p_a.1, p_b.2.1, p_b.2.2.1, p_b.2.2.2)]) 4 ?_ fun J => ?_
  · intro _
    clear e3
    show OpsJ _ _ _ [(3, ptrTo R_rolodexref17_Head p_a), (4, val (.pointer (some ⟨b1, 0, none⟩))), (24, bl.slot y1)] [box b1 25 R_rolodexref17_Head (p_a.1, p_b.2.1, p_b.2.2.1, p_b.2.2.2)] _
    refine jp (pm (ht rfl)) rfl rfl rfl ?_
    obtain ⟨y2, e5, h⟩ := bind_some h
    refine j_joinx (ι := Unit) (Γ' := fun _ => [(3, ptrTo R_rolodexref17_Head p_a), (4, val (.pointer (some ⟨b1, 0, none⟩))), (29, bl.slot y2)]) (H' := fun _ => [box b1 25 R_rolodexref17_Head (p_a.1, p_b.2.1, p_b.2.2.1, p_b.2.2.2)]) 4 ?_ fun J => ?_
    · intro _
      clear e5
      show OpsJ _ _ _ [(3, ptrTo R_rolodexref17_Head p_a), (4, val (.pointer (some ⟨b1, 0, none⟩))), (29, bl.slot y2)] [box b1 25 R_rolodexref17_Head (p_a.1, p_b.2.1, p_b.2.2.1, p_b.2.2.2)] _
      refine jp (pm (ht rfl)) rfl rfl rfl ?_
      obtain ⟨y3, e8, h⟩ := bind_some h
      refine j_joinx (ι := Unit) (Γ' := fun _ => [(3, ptrTo R_rolodexref17_Head p_a), (4, val (.pointer (some ⟨b1, 0, none⟩))), (34, bl.slot y3)]) (H' := fun _ => [box b1 25 R_rolodexref17_Head (p_a.1, p_b.2.1, p_b.2.2.1, p_b.2.2.2)]) 4 ?_ fun J => ?_
      · intro _
        clear e8
        show OpsJ _ _ _ [(3, ptrTo R_rolodexref17_Head p_a), (4, val (.pointer (some ⟨b1, 0, none⟩))), (34, bl.slot y3)] [box b1 25 R_rolodexref17_Head (p_a.1, p_b.2.1, p_b.2.2.1, p_b.2.2.2)] _
        refine j_end ?_
        refine run_cond (ht rfl) (fun e10 => ?_) (fun e10 => ?_)
        · replace h := bt e10 h
          refine rs ?_
          refine rt ?_
          obtain ⟨r4, e11, h⟩ := bind_some h
          refine jp (pj_call (hasL_nil) (by kernel_rfl) (c_rolodexlaw27_awake hg0 hg1 hg2 e11)) rfl rfl rfl ?_
          refine jp (pa (ht rfl)) rfl rfl rfl ?_
          refine j_end ?_
          obtain rfl := oi h
          exact run_ret fun a w hst => q_ret1 hst rfl (.tmp rfl) () (fun _ _ h => h) (.nil)
        · replace h := bf e10 h
          refine run_skip ?_
          refine rs ?_
          refine rt ?_
          obtain ⟨r5, e12, h⟩ := bind_some h
          refine j_call (hasL_nil) (by kernel_rfl) (c_rolodexlaw27_Signer hg0 hg1 hg2 e12) .nil rfl fun b2 => ?_
          refine jp (pa (ht rfl)) rfl rfl rfl ?_
          refine j_end ?_
          refine rs ?_
          refine rt ?_
          refine jp (pm (ht rfl)) rfl rfl rfl ?_
          obtain ⟨r6, e13, h⟩ := bind_some h
          refine jp (pj_callR (hc (ht rfl) <| hasL_nil) .here (by kernel_rfl) (Ctr.frozeR (fun _ => (c_hss_Signer_Public e13)))) rfl rfl rfl ?_
          obtain ⟨r7, e14, h⟩ := bind_some h
          refine j_call (hc (ht rfl) <| hasL_nil) (by kernel_rfl) (c_gossip_New e14) .nil rfl fun ⟨b3, v1, v2, v3⟩ => ?_
          refine jp (pa (ht rfl)) rfl rfl rfl ?_
          refine j_end ?_
          refine rs ?_
          obtain ⟨r8, e15, h⟩ := bind_some h
          obtain ⟨r9, e16, h⟩ := bind_some h
          refine run_keep (H' := [box b2 87 (prod i64 (prod i64 (prod R_api_Hash (prod (ptr R_lms_Tree) (prod (ptr R_lms_Tree) i64))))) (r5.1, r5.2.1, r5.2.2.1, r5.2.2.2.1, r5.2.2.2.2.1, r5.2.2.2.2.2), box b3 83 (prod (sl u8) (prod (exv v1) (prod (exv v2) (exv v3)))) (r7.1, (), (), ()), own 44 R_head_Signed v1 r7.2.1, own 59 R_gossip_Fork v2 r7.2.2.1, own 144 R_gossip_link v3 r7.2.2.2, box b1 25 R_rolodexref17_Head (p_a.1, p_b.2.1, p_b.2.2.1, p_b.2.2.2)]) (.cons (.next (.next (.next (.next .here)))) <| .cons .here <| .cons .here <| .cons .here <| .cons .here <| .cons .here <| .nil) ?_
          refine run_drawL (n := 8) (H := [box b3 83 (prod (sl u8) (prod (exv v1) (prod (exv v2) (exv v3)))) (r7.1, (), (), ()), own 44 R_head_Signed v1 r7.2.1, own 59 R_gossip_Fork v2 r7.2.2.1, own 144 R_gossip_link v3 r7.2.2.2, box b1 25 R_rolodexref17_Head (p_a.1, p_b.2.1, p_b.2.2.1, p_b.2.2.2)]) (Ls := [⟨[box b2 87 (prod i64 (prod i64 (prod R_api_Hash (prod (ptr R_lms_Tree) (prod (ptr R_lms_Tree) i64))))) (r5.1, r5.2.1, r5.2.2.1, r5.2.2.2.1, r5.2.2.2.2.1, r5.2.2.2.2.2)], [(2, ⟨Unit, fun (_ : Unit) => [box b2 87 (prod i64 (prod i64 (prod R_api_Hash (prod (ptr R_lms_Tree) (prod (ptr R_lms_Tree) i64))))) (r8.1.1, r8.1.2.1, r8.1.2.2.1, r8.1.2.2.2.1, r8.1.2.2.2.2.1, r8.1.2.2.2.2.2)], fun (_ : Unit) => [(42, R_head_Signed.slot r8.2)]⟩), (5, ⟨Unit, fun (_ : Unit) => [box b2 87 (prod i64 (prod i64 (prod R_api_Hash (prod (ptr R_lms_Tree) (prod (ptr R_lms_Tree) i64))))) (r9.1.1, r9.1.2.1, r9.1.2.2.1, r9.1.2.2.2.1, r9.1.2.2.2.2.1, r9.1.2.2.2.2.2)], fun (_ : Unit) => [(45, R_head_Signed.slot r9.2), (42, R_head_Signed.slot r8.2)]⟩)]⟩, ⟨[], [(6, ⟨Nat, fun (b4 : Nat) => [box b4 44 R_head_Signed ((0, 0, (Vector.replicate 32 (0#8)), (Vector.replicate 32 (0#8))), ([] : List (BitVec 8)))], fun (b4 : Nat) => [(9, val (.pointer (some ⟨b4, 0, none⟩)))]⟩)]⟩, ⟨[], [(7, ⟨Nat, fun (b5 : Nat) => [box b5 44 R_head_Signed ((0, 0, (Vector.replicate 32 (0#8)), (Vector.replicate 32 (0#8))), ([] : List (BitVec 8)))], fun (b5 : Nat) => [(10, val (.pointer (some ⟨b5, 0, none⟩)))]⟩)]⟩]) (by kernel_rfl) (by kernel_rfl) (by kernel_rfl) (by kernel_rfl) (by kernel_rfl) rfl (.read rfl (.plain rfl (pm (ht rfl))) <| .read rfl (.plain rfl (pl (ht rfl) (by kernel_rfl))) <| .step 0 rfl .here (.inl rfl) (fun i => ⟨_, _, fun _ => (), (w_call (hc (ht rfl) <| hc (ht rfl) <| hasL_nil) (by kernel_rfl) (c_rolodexlaw27_Signed hg0 hg1 hg2 e15) (.cons .here <| .nil) rfl), fun _ => rfl, slotIs, dst1⟩) <| .read rfl (.plain rfl (pm (ht rfl))) <| .read rfl (.plain rfl (pj_load_box (ht rfl) (.next (.next (.next (.next .here)))) (Path.all R_rolodexref17_Head) (by kernel_rfl))) <| .step 0 rfl (.next .here) (.inl rfl) (fun i => ⟨_, _, fun _ => (), (w_call (hc (ht rfl) <| hc (ht rfl) <| hasL_nil) (by kernel_rfl) (c_rolodexlaw27_Signed hg0 hg1 hg2 e16) (.cons .here <| .nil) rfl), fun _ => rfl, slotIs, dst1⟩) <| .step 1 rfl .here (.inl rfl) (fun i => ⟨_, _, fun j => j, (w_alloc (x := ((0, 0, (Vector.replicate 32 (0#8)), (Vector.replicate 32 (0#8))), ([] : List (BitVec 8)))) (R := R_head_Signed) (zero_prod (zero_prod zero_i64 (zero_prod zero_i64 (zero_prod (zero_vec 32 zero_un) (zero_vec 32 zero_un)))) zero_sl) (by kernel_rfl) rfl), fun _ => rfl, slotAny, dst1⟩) <| .step 2 rfl .here (.inl rfl) (fun i => ⟨_, _, fun j => j, (w_alloc (x := ((0, 0, (Vector.replicate 32 (0#8)), (Vector.replicate 32 (0#8))), ([] : List (BitVec 8)))) (R := R_head_Signed) (zero_prod (zero_prod zero_i64 (zero_prod zero_i64 (zero_prod (zero_vec 32 zero_un) (zero_vec 32 zero_un)))) zero_sl) (by kernel_rfl) rfl), fun _ => rfl, slotAny, dst1⟩) <| .nil) ?_
          rintro _ b4 b5
          refine j_to (Γ' := [(3, ptrTo R_rolodexref17_Head p_a), (4, val (.pointer (some ⟨b1, 0, none⟩))), (7, val (.pointer (some ⟨b2, 0, none⟩))), (8, val (.pointer (some ⟨b3, 0, none⟩))), (9, val (.pointer (some ⟨b4, 0, none⟩))), (10, val (.pointer (some ⟨b5, 0, none⟩))), (42, R_head_Signed.slot r8.2), (45, R_head_Signed.slot r9.2)]) (H' := [box b2 87 (prod i64 (prod i64 (prod R_api_Hash (prod (ptr R_lms_Tree) (prod (ptr R_lms_Tree) i64))))) (r9.1.1, r9.1.2.1, r9.1.2.2.1, r9.1.2.2.2.1, r9.1.2.2.2.2.1, r9.1.2.2.2.2.2), box b4 44 R_head_Signed ((0, 0, (Vector.replicate 32 (0#8)), (Vector.replicate 32 (0#8))), ([] : List (BitVec 8))), box b5 44 R_head_Signed ((0, 0, (Vector.replicate 32 (0#8)), (Vector.replicate 32 (0#8))), ([] : List (BitVec 8))), box b3 83 (prod (sl u8) (prod (exv v1) (prod (exv v2) (exv v3)))) (r7.1, (), (), ()), own 44 R_head_Signed v1 r7.2.1, own 59 R_gossip_Fork v2 r7.2.2.1, own 144 R_gossip_link v3 r7.2.2.2, box b1 25 R_rolodexref17_Head (p_a.1, p_b.2.1, p_b.2.2.1, p_b.2.2.2)]) (.cons (.of_lk rfl) <| .cons (.of_lk rfl) <| .cons (.of_lk rfl) <| .cons (.of_lk rfl) <| .cons (.of_lk rfl) <| .cons (.of_lk rfl) <| .cons (.of_lk rfl) <| .cons (.of_lk rfl) <| .nil) (.cons .here <| .cons .here <| .cons .here <| .cons .here <| .cons .here <| .cons .here <| .cons .here <| .cons .here <| .nil) ?_
          refine j_store_boxx (r' := r8.2) (ht rfl) (ht rfl) (.next .here) (Path.all R_head_Signed) (by kernel_rfl) rfl ?_
          refine j_freezeTo (t := 9) .here (.of_lk rfl) ?_
          refine j_store_boxx (r' := r9.2) (ht rfl) (ht rfl) (.next .here) (Path.all R_head_Signed) (by kernel_rfl) rfl ?_
          refine j_freezeTo (t := 10) .here (.of_lk rfl) ?_
          refine j_end ?_
          refine rs ?_
          refine rt ?_
          refine jp (pm (ht rfl)) rfl rfl rfl ?_
          refine jp (pl (ht rfl) (by kernel_rfl)) rfl rfl rfl ?_
          obtain ⟨r10, e17, h⟩ := bind_some h
          refine j_call (hc (ht rfl) <| hc (ht rfl) <| hasL_nil) (by kernel_rfl) (c_gossip_Pool_Put hg0 hg1 hg2 e17) (.cons (.next .here) <| .cons (.next .here) <| .cons (.next .here) <| .cons (.next .here) <| .nil) rfl fun ⟨v4, v5, v6⟩ => ?_
          refine jp (pa (ht rfl)) rfl rfl rfl ?_
          refine j_end ?_
          refine rs ?_
          refine rt ?_
          refine jp (pm (ht rfl)) rfl rfl rfl ?_
          refine jp (pl (ht rfl) (by kernel_rfl)) rfl rfl rfl ?_
          obtain ⟨r11, e18, h⟩ := bind_some h
          refine j_call (hc (ht rfl) <| hc (ht rfl) <| hasL_nil) (by kernel_rfl) (c_gossip_Pool_Put hg0 hg1 hg2 e18) (.cons .here <| .cons .here <| .cons .here <| .cons .here <| .nil) rfl fun ⟨v7, v8, v9⟩ => ?_
          refine jp (pa (ht rfl)) rfl rfl rfl ?_
          refine j_end ?_
          refine rs ?_
          refine rt ?_
          refine jp (pm (ht rfl)) rfl rfl rfl ?_
          refine jp (pl (ht rfl) (by kernel_rfl)) rfl rfl rfl ?_
          obtain ⟨r12, e19, h⟩ := bind_some h
          refine j_call (hc (ht rfl) <| hc (ht rfl) <| hasL_nil) (by kernel_rfl) (c_gossip_Pool_Put hg0 hg1 hg2 e19) (.cons .here <| .cons .here <| .cons .here <| .cons .here <| .nil) rfl fun ⟨v10, v11, v12⟩ => ?_
          refine jp (pa (ht rfl)) rfl rfl rfl ?_
          refine j_end ?_
          refine rs ?_
          refine rs ?_
          refine rt ?_
          refine jp (pl (ht rfl) (by kernel_rfl)) rfl rfl rfl ?_
          refine jp (pj_load_box (ht rfl) (.next (.next (.next (.next (.next .here))))) (Path.all R_rolodexref17_Head) (by kernel_rfl)) rfl rfl rfl ?_
          refine jp (pj_eql (n := 3) (eq_struct (fs := #[Field.mk "Epoch" 3 0 false "" "" 0, Field.mk "Tick" 3 1 false "" "" 8, Field.mk "Tree" 23 2 false "" "" 16, Field.mk "Log" 23 34 false "" "" 48]) (by kernel_rfl) (by kernel_rfl) rfl (.cons rfl (by kernel_rfl) (by kernel_rfl) (EqOK.mono (by omega) (eq_i64 (by kernel_rfl))) (.cons rfl (by kernel_rfl) (by kernel_rfl) (EqOK.mono (by omega) (eq_i64 (by kernel_rfl))) (.cons rfl (by kernel_rfl) (by kernel_rfl) (eq_vec (e := 5) (by kernel_rfl) (by kernel_rfl) (eq_un (by kernel_rfl))) (.one rfl (by kernel_rfl) (by kernel_rfl) (eq_vec (e := 5) (by kernel_rfl) (by kernel_rfl) (eq_un (by kernel_rfl)))))))) (by decide) rfl (by kernel_rfl) (ht rfl) (ht rfl)) rfl rfl rfl ?_
          refine j_end ?_
          refine run_cond (ht rfl) (fun e20 => ?_) (fun e20 => ?_)
          · replace h := bt e20 h
            refine rs ?_
            refine rt ?_
            refine jp (pm (ht rfl)) rfl rfl rfl ?_
            refine jp (pj_ieql (ht rfl) has_i64) rfl rfl rfl ?_
            refine jp (pm (ht rfl)) rfl rfl rfl ?_
            obtain ⟨y4, e22, h⟩ := bind_some h
            refine j_joinx (ι := Unit) (Γ' := fun _ => [(8, val (.pointer (some ⟨b3, 0, none⟩))), (13, i64.slot r12.2), (63, bl.slot y4)]) (H' := fun _ => [box b3 83 (prod (sl u8) (prod (exv v10) (prod (exv v11) (exv v12)))) (r12.1.1, (), (), ()), own 44 R_head_Signed v10 r12.1.2.1, own 59 R_gossip_Fork v11 r12.1.2.2.1, own 144 R_gossip_link v12 r12.1.2.2.2]) 3 ?_ fun J => ?_
            · intro _
              clear e22
              show OpsJ _ _ _ [(8, val (.pointer (some ⟨b3, 0, none⟩))), (13, i64.slot r12.2), (63, bl.slot y4)] [box b3 83 (prod (sl u8) (prod (exv v10) (prod (exv v11) (exv v12)))) (r12.1.1, (), (), ()), own 44 R_head_Signed v10 r12.1.2.1, own 59 R_gossip_Fork v11 r12.1.2.2.1, own 144 R_gossip_link v12 r12.1.2.2.2] _
              refine jp (pm (ht rfl)) rfl rfl rfl ?_
              obtain ⟨y5, e24, h⟩ := bind_some h
              refine j_joinx (ι := Unit) (Γ' := fun _ => [(8, val (.pointer (some ⟨b3, 0, none⟩))), (67, bl.slot y5)]) (H' := fun _ => [box b3 83 (prod (sl u8) (prod (exv v10) (prod (exv v11) (exv v12)))) (r12.1.1, (), (), ()), own 44 R_head_Signed v10 r12.1.2.1, own 59 R_gossip_Fork v11 r12.1.2.2.1, own 144 R_gossip_link v12 r12.1.2.2.2]) 3 ?_ fun J => ?_
              · intro _
                clear e24
                show OpsJ _ _ _ [(8, val (.pointer (some ⟨b3, 0, none⟩))), (67, bl.slot y5)] [box b3 83 (prod (sl u8) (prod (exv v10) (prod (exv v11) (exv v12)))) (r12.1.1, (), (), ()), own 44 R_head_Signed v10 r12.1.2.1, own 59 R_gossip_Fork v11 r12.1.2.2.1, own 144 R_gossip_link v12 r12.1.2.2.2] _
                refine jp (pm (ht rfl)) rfl rfl rfl ?_
                obtain ⟨y6, e26, h⟩ := bind_some h
                refine j_joinx (ι := Unit) (Γ' := fun _ => [(73, bl.slot y6)]) (H' := fun _ => []) 5 ?_ fun J => ?_
                · intro _
                  clear e26
                  show OpsJ _ _ _ [(73, bl.slot y6)] [] _
                  refine jp (pa (ht rfl)) rfl rfl rfl ?_
                  refine j_end ?_
                  obtain rfl := oi h
                  exact run_ret fun a w hst => q_ret1 hst rfl (.tmp rfl) () (fun _ _ h => h) (.nil)
                · rcases bool_tf (y5) with e25 | e25
                  · replace e26 := bt e25 e26
                    refine jy (pm (ht rfl)) rfl rfl rfl rfl (bl_isx e25) rfl rfl ?_
                    obtain ⟨r13, e27, e26⟩ := bind_some e26
                    refine jy (pj_callXL (fun i : Hp × Hp × Hp × Hp => [exE (box b3 83 (prod (sl u8) (prod (exv v10) (prod (exv v11) (exv v12)))) (r12.1.1, (), (), ())) i.1, exE (own 44 R_head_Signed v10 r12.1.2.1) i.2.1, exE (own 59 R_gossip_Fork v11 r12.1.2.2.1) i.2.2.1, exE (own 144 R_gossip_link v12 r12.1.2.2.2) i.2.2.2]) (hc (ht rfl) <| hasL_nil) (.cons .here <| .cons .here <| .cons .here <| .cons .here <| .nil) x4_sat x4_exact (by kernel_rfl) (fun _ => Ctr.frozeL (c_gossip_Pool_Forks e27))) rfl rfl rfl rfl (bl_isx e25) rfl rfl ?_
                    refine jy (pj_len_sl (sz := 134) (ht rfl) (by kernel_rfl)) rfl rfl rfl rfl (bl_isx e25) rfl rfl ?_
                    refine jy (pj_ieql (ht rfl) has_i64) rfl rfl rfl rfl (bl_isx e25) rfl rfl ?_
                    refine jp (PJ.eqv (R := bl) (pj_pick (t := any) (ht rfl) (fun _ => (ht rfl)) (fun he => absurd (e25.symm.trans he) (by decide))) (oi e26)) rfl rfl rfl ?_
                    exact j_to (.cons (.of_lk rfl) <| .nil) (.nil) (J ())
                  · replace e26 := bf e25 e26
                    refine j_guard_no2 (j := 10) (want := true) rfl rfl rfl rfl (bl_isx e25) rfl rfl rfl ?_
                    refine j_guard_no2 (j := 10) (want := true) rfl rfl rfl rfl (bl_isx e25) rfl rfl rfl ?_
                    refine j_guard_no2 (j := 10) (want := true) rfl rfl rfl rfl (bl_isx e25) rfl rfl rfl ?_
                    refine j_guard_no2 (j := 10) (want := true) rfl rfl rfl rfl (bl_isx e25) rfl rfl rfl ?_
                    refine jp (PJ.eqv (R := bl) (pj_pick (t := any) (ht rfl) (fun he => absurd (e25.symm.trans he) (by decide)) (fun _ => has_bl)) (oi e26)) rfl rfl rfl ?_
                    exact j_to (.cons (.of_lk rfl) <| .nil) (.nil) (J ())
              · rcases bool_tf (y4) with e23 | e23
                · replace e24 := bt e23 e24
                  refine jy (pm (ht rfl)) rfl rfl rfl rfl (bl_isx e23) rfl rfl ?_
                  refine jy (pj_ieql (ht rfl) has_i64) rfl rfl rfl rfl (bl_isx e23) rfl rfl ?_
                  refine jp (PJ.eqv (R := bl) (pj_pick (t := any) (ht rfl) (fun _ => (ht rfl)) (fun he => absurd (e23.symm.trans he) (by decide))) (oi e24)) rfl rfl rfl ?_
                  exact j_to (.cons (.of_lk rfl) <| .cons (.of_lk rfl) <| .nil) (.cons .here <| .cons .here <| .cons .here <| .cons .here <| .nil) (J ())
                · replace e24 := bf e23 e24
                  refine j_guard_no2 (j := 6) (want := true) rfl rfl rfl rfl (bl_isx e23) rfl rfl rfl ?_
                  refine j_guard_no2 (j := 6) (want := true) rfl rfl rfl rfl (bl_isx e23) rfl rfl rfl ?_
                  refine jp (PJ.eqv (R := bl) (pj_pick (t := any) (ht rfl) (fun he => absurd (e23.symm.trans he) (by decide)) (fun _ => has_bl)) (oi e24)) rfl rfl rfl ?_
                  exact j_to (.cons (.of_lk rfl) <| .cons (.of_lk rfl) <| .nil) (.cons .here <| .cons .here <| .cons .here <| .cons .here <| .nil) (J ())
            · rcases bool_tf (decide (r10.2 = (0 : Int))) with e21 | e21
              · replace e22 := bt e21 e22
                refine jy (pm (ht rfl)) rfl rfl rfl rfl (bl_isx e21) rfl rfl ?_
                refine jy (pj_ieql (ht rfl) has_i64) rfl rfl rfl rfl (bl_isx e21) rfl rfl ?_
                refine jp (PJ.eqv (R := bl) (pj_pick (t := any) (ht rfl) (fun _ => (ht rfl)) (fun he => absurd (e21.symm.trans he) (by decide))) (oi e22)) rfl rfl rfl ?_
                exact j_to (.cons (.of_lk rfl) <| .cons (.of_lk rfl) <| .cons (.of_lk rfl) <| .nil) (.cons .here <| .cons .here <| .cons .here <| .cons .here <| .nil) (J ())
              · replace e22 := bf e21 e22
                refine j_guard_no2 (j := 2) (want := true) rfl rfl rfl rfl (bl_isx e21) rfl rfl rfl ?_
                refine j_guard_no2 (j := 2) (want := true) rfl rfl rfl rfl (bl_isx e21) rfl rfl rfl ?_
                refine jp (PJ.eqv (R := bl) (pj_pick (t := any) (ht rfl) (fun he => absurd (e21.symm.trans he) (by decide)) (fun _ => has_bl)) (oi e22)) rfl rfl rfl ?_
                exact j_to (.cons (.of_lk rfl) <| .cons (.of_lk rfl) <| .cons (.of_lk rfl) <| .nil) (.cons .here <| .cons .here <| .cons .here <| .cons .here <| .nil) (J ())
          · replace h := bf e20 h
            refine run_skip ?_
            refine rs ?_
            refine rt ?_
            refine jp (pm (ht rfl)) rfl rfl rfl ?_
            obtain ⟨r14, e28, h⟩ := bind_some h
            refine jp (pj_callXL (fun i : Hp × Hp × Hp × Hp => [exE (box b3 83 (prod (sl u8) (prod (exv v10) (prod (exv v11) (exv v12)))) (r12.1.1, (), (), ())) i.1, exE (own 44 R_head_Signed v10 r12.1.2.1) i.2.1, exE (own 59 R_gossip_Fork v11 r12.1.2.2.1) i.2.2.1, exE (own 144 R_gossip_link v12 r12.1.2.2.2) i.2.2.2]) (hc (ht rfl) <| hasL_nil) (.cons .here <| .cons .here <| .cons .here <| .cons .here <| .nil) x4_sat x4_exact (by kernel_rfl) (fun _ => Ctr.frozeL (c_gossip_Pool_Forks e28))) rfl rfl rfl ?_
            refine jp (pa (ht rfl)) rfl rfl rfl ?_
            refine j_end ?_
            refine rs ?_
            refine rs ?_
            refine rt ?_
            refine jp (pm (ht rfl)) rfl rfl rfl ?_
            refine jp (pj_ineq (ht rfl) has_i64) rfl rfl rfl ?_
            refine jp (pm (ht rfl)) rfl rfl rfl ?_
            obtain ⟨y7, e30, h⟩ := bind_some h
            refine j_joinx (ι := Unit) (Γ' := fun _ => [(7, val (.pointer (some ⟨b2, 0, none⟩))), (8, val (.pointer (some ⟨b3, 0, none⟩))), (9, ptrTo R_head_Signed r8.2), (10, ptrTo R_head_Signed r9.2), (13, i64.slot r12.2), (14, (sl R_gossip_Fork).slot r14), (81, bl.slot y7)]) (H' := fun _ => [box b3 83 (prod (sl u8) (prod (exv v10) (prod (exv v11) (exv v12)))) (r12.1.1, (), (), ()), own 44 R_head_Signed v10 r12.1.2.1, own 59 R_gossip_Fork v11 r12.1.2.2.1, own 144 R_gossip_link v12 r12.1.2.2.2, box b2 87 (prod i64 (prod i64 (prod R_api_Hash (prod (ptr R_lms_Tree) (prod (ptr R_lms_Tree) i64))))) (r9.1.1, r9.1.2.1, r9.1.2.2.1, r9.1.2.2.2.1, r9.1.2.2.2.2.1, r9.1.2.2.2.2.2)]) 3 ?_ fun J => ?_
            · intro _
              clear e30
              show OpsJ _ _ _ [(7, val (.pointer (some ⟨b2, 0, none⟩))), (8, val (.pointer (some ⟨b3, 0, none⟩))), (9, ptrTo R_head_Signed r8.2), (10, ptrTo R_head_Signed r9.2), (13, i64.slot r12.2), (14, (sl R_gossip_Fork).slot r14), (81, bl.slot y7)] [box b3 83 (prod (sl u8) (prod (exv v10) (prod (exv v11) (exv v12)))) (r12.1.1, (), (), ()), own 44 R_head_Signed v10 r12.1.2.1, own 59 R_gossip_Fork v11 r12.1.2.2.1, own 144 R_gossip_link v12 r12.1.2.2.2, box b2 87 (prod i64 (prod i64 (prod R_api_Hash (prod (ptr R_lms_Tree) (prod (ptr R_lms_Tree) i64))))) (r9.1.1, r9.1.2.1, r9.1.2.2.1, r9.1.2.2.2.1, r9.1.2.2.2.2.1, r9.1.2.2.2.2.2)] _
              refine jp (pm (ht rfl)) rfl rfl rfl ?_
              obtain ⟨y8, e32, h⟩ := bind_some h
              refine j_joinx (ι := Unit) (Γ' := fun _ => [(7, val (.pointer (some ⟨b2, 0, none⟩))), (8, val (.pointer (some ⟨b3, 0, none⟩))), (9, ptrTo R_head_Signed r8.2), (10, ptrTo R_head_Signed r9.2), (14, (sl R_gossip_Fork).slot r14), (85, bl.slot y8)]) (H' := fun _ => [box b3 83 (prod (sl u8) (prod (exv v10) (prod (exv v11) (exv v12)))) (r12.1.1, (), (), ()), own 44 R_head_Signed v10 r12.1.2.1, own 59 R_gossip_Fork v11 r12.1.2.2.1, own 144 R_gossip_link v12 r12.1.2.2.2, box b2 87 (prod i64 (prod i64 (prod R_api_Hash (prod (ptr R_lms_Tree) (prod (ptr R_lms_Tree) i64))))) (r9.1.1, r9.1.2.1, r9.1.2.2.1, r9.1.2.2.2.1, r9.1.2.2.2.2.1, r9.1.2.2.2.2.2)]) 3 ?_ fun J => ?_
              · intro _
                clear e32
                show OpsJ _ _ _ [(7, val (.pointer (some ⟨b2, 0, none⟩))), (8, val (.pointer (some ⟨b3, 0, none⟩))), (9, ptrTo R_head_Signed r8.2), (10, ptrTo R_head_Signed r9.2), (14, (sl R_gossip_Fork).slot r14), (85, bl.slot y8)] [box b3 83 (prod (sl u8) (prod (exv v10) (prod (exv v11) (exv v12)))) (r12.1.1, (), (), ()), own 44 R_head_Signed v10 r12.1.2.1, own 59 R_gossip_Fork v11 r12.1.2.2.1, own 144 R_gossip_link v12 r12.1.2.2.2, box b2 87 (prod i64 (prod i64 (prod R_api_Hash (prod (ptr R_lms_Tree) (prod (ptr R_lms_Tree) i64))))) (r9.1.1, r9.1.2.1, r9.1.2.2.1, r9.1.2.2.2.1, r9.1.2.2.2.2.1, r9.1.2.2.2.2.2)] _
                refine jp (pm (ht rfl)) rfl rfl rfl ?_
                obtain ⟨y9, e34, h⟩ := bind_some h
                refine j_joinx (ι := Unit) (Γ' := fun _ => [(7, val (.pointer (some ⟨b2, 0, none⟩))), (8, val (.pointer (some ⟨b3, 0, none⟩))), (9, ptrTo R_head_Signed r8.2), (10, ptrTo R_head_Signed r9.2), (14, (sl R_gossip_Fork).slot r14), (90, bl.slot y9)]) (H' := fun _ => [box b3 83 (prod (sl u8) (prod (exv v10) (prod (exv v11) (exv v12)))) (r12.1.1, (), (), ()), own 44 R_head_Signed v10 r12.1.2.1, own 59 R_gossip_Fork v11 r12.1.2.2.1, own 144 R_gossip_link v12 r12.1.2.2.2, box b2 87 (prod i64 (prod i64 (prod R_api_Hash (prod (ptr R_lms_Tree) (prod (ptr R_lms_Tree) i64))))) (r9.1.1, r9.1.2.1, r9.1.2.2.1, r9.1.2.2.2.1, r9.1.2.2.2.2.1, r9.1.2.2.2.2.2)]) 4 ?_ fun J => ?_
                · intro _
                  clear e34
                  show OpsJ _ _ _ [(7, val (.pointer (some ⟨b2, 0, none⟩))), (8, val (.pointer (some ⟨b3, 0, none⟩))), (9, ptrTo R_head_Signed r8.2), (10, ptrTo R_head_Signed r9.2), (14, (sl R_gossip_Fork).slot r14), (90, bl.slot y9)] [box b3 83 (prod (sl u8) (prod (exv v10) (prod (exv v11) (exv v12)))) (r12.1.1, (), (), ()), own 44 R_head_Signed v10 r12.1.2.1, own 59 R_gossip_Fork v11 r12.1.2.2.1, own 144 R_gossip_link v12 r12.1.2.2.2, box b2 87 (prod i64 (prod i64 (prod R_api_Hash (prod (ptr R_lms_Tree) (prod (ptr R_lms_Tree) i64))))) (r9.1.1, r9.1.2.1, r9.1.2.2.1, r9.1.2.2.2.1, r9.1.2.2.2.2.1, r9.1.2.2.2.2.2)] _
                  refine jp (pm (ht rfl)) rfl rfl rfl ?_
                  obtain ⟨y10, e36, h⟩ := bind_some h
                  refine j_joinx (ι := Unit) (Γ' := fun _ => [(7, val (.pointer (some ⟨b2, 0, none⟩))), (9, ptrTo R_head_Signed r8.2), (10, ptrTo R_head_Signed r9.2), (14, (sl R_gossip_Fork).slot r14), (96, bl.slot y10)]) (H' := fun _ => [box b2 87 (prod i64 (prod i64 (prod R_api_Hash (prod (ptr R_lms_Tree) (prod (ptr R_lms_Tree) i64))))) (r9.1.1, r9.1.2.1, r9.1.2.2.1, r9.1.2.2.2.1, r9.1.2.2.2.2.1, r9.1.2.2.2.2.2)]) 5 ?_ fun J => ?_
                  · intro _
                    clear e36
                    show OpsJ _ _ _ [(7, val (.pointer (some ⟨b2, 0, none⟩))), (9, ptrTo R_head_Signed r8.2), (10, ptrTo R_head_Signed r9.2), (14, (sl R_gossip_Fork).slot r14), (96, bl.slot y10)] [box b2 87 (prod i64 (prod i64 (prod R_api_Hash (prod (ptr R_lms_Tree) (prod (ptr R_lms_Tree) i64))))) (r9.1.1, r9.1.2.1, r9.1.2.2.1, r9.1.2.2.2.1, r9.1.2.2.2.2.1, r9.1.2.2.2.2.2)] _
                    refine j_end ?_
                    refine run_cond (ht rfl) (fun e38 => ?_) (fun e38 => ?_)
                    · replace h := bt e38 h
                      refine rs ?_
                      refine rt ?_
                      refine jp (pa has_bl) rfl rfl rfl ?_
                      refine j_end ?_
                      obtain rfl := oi h
                      exact run_ret fun a w hst => q_ret1 hst rfl (.tmp rfl) () (fun _ _ h => h) (.nil)
                    · replace h := bf e38 h
                      refine run_skip ?_
                      refine rs ?_
                      obtain ⟨x1, e39, h⟩ := bind_some h
                      obtain ⟨y11, e41, h⟩ := bind_some h
                      obtain ⟨y12, e44, h⟩ := bind_some h
                      obtain ⟨y13, e49, h⟩ := bind_some h
                      refine (run_drawJ (n := 36) (Γ' := [(132, bl.slot y13)]) (H' := []) ?_ fun J => ?_)
                      · clear e41 e44 e49
                        refine jp (pa (ht rfl)) rfl rfl rfl ?_
                        refine j_end ?_
                        obtain rfl := oi h
                        exact run_ret fun a w hst => q_ret1 hst rfl (.tmp rfl) () (fun _ _ h => h) (.nil)
                      · rcases bool_tf (decide (x1.1.1 = r8.2.1)) with e40 | e40
                        · replace e41 := bt e40 e41
                          obtain ⟨x2, e42, e41⟩ := bind_some e41
                          rcases bool_tf (y11) with e43 | e43
                          · replace e44 := bt e43 e44
                            obtain ⟨x3, e45, e44⟩ := bind_some e44
                            obtain ⟨r16, e46, e44⟩ := bind_some e44
                            obtain ⟨r17, e47, e44⟩ := bind_some e44
                            rcases bool_tf (y12) with e48 | e48
                            · replace e49 := bt e48 e49
                              obtain ⟨x4, e50, e49⟩ := bind_some e49
                              obtain ⟨r18, e51, e49⟩ := bind_some e49
                              obtain ⟨r19, e52, e49⟩ := bind_some e49
                              exact run_draw (n := 36) (by kernel_rfl) (by kernel_rfl) (by kernel_rfl) (by kernel_rfl) (.read (.plain rfl (pm (ht rfl))) <| .read (.plain rfl (pj_index_slx (ht rfl) has_i64 isInt_i64 e39 (by kernel_rfl))) <| .read (.plain rfl (pj_field_to (ht rfl) (Path.fst R_head_Signed R_head_Signed) (by kernel_rfl))) <| .read (.plain rfl (pj_field_to (ht rfl) (Path.fst R_head_Head (sl u8)) (by kernel_rfl))) <| .read (.plain rfl (pl (ht rfl) (by kernel_rfl))) <| .read (.plain rfl (pj_field_to (ht rfl) (Path.fst R_head_Head (sl u8)) (by kernel_rfl))) <| .read (.plain rfl (pl (ht rfl) (by kernel_rfl))) <| .read (.plain rfl (pj_eql (n := 3) (eq_struct (fs := #[Field.mk "Epoch" 3 0 false "" "" 0, Field.mk "Tick" 3 1 false "" "" 8, Field.mk "Tree" 23 2 false "" "" 16, Field.mk "Log" 23 34 false "" "" 48]) (by kernel_rfl) (by kernel_rfl) rfl (.cons rfl (by kernel_rfl) (by kernel_rfl) (EqOK.mono (by omega) (eq_i64 (by kernel_rfl))) (.cons rfl (by kernel_rfl) (by kernel_rfl) (EqOK.mono (by omega) (eq_i64 (by kernel_rfl))) (.cons rfl (by kernel_rfl) (by kernel_rfl) (eq_vec (e := 5) (by kernel_rfl) (by kernel_rfl) (eq_un (by kernel_rfl))) (.one rfl (by kernel_rfl) (by kernel_rfl) (eq_vec (e := 5) (by kernel_rfl) (by kernel_rfl) (eq_un (by kernel_rfl)))))))) (by decide) rfl (by kernel_rfl) (ht rfl) (ht rfl))) <| .read (.plain rfl (pm (ht rfl))) <| .read (.yes ⟨8, true, _, 105, _, rfl, rfl, rfl, fun _ _ => bl_p.1, gd_yes e40⟩ (pm (ht rfl))) <| .read (.yes ⟨8, true, _, 105, _, rfl, rfl, rfl, fun _ _ => bl_p.1, gd_yes e40⟩ (pj_index_slx (ht rfl) has_i64 isInt_i64 e42 (by kernel_rfl))) <| .read (.yes ⟨8, true, _, 105, _, rfl, rfl, rfl, fun _ _ => bl_p.1, gd_yes e40⟩ (pj_field_to (ht rfl) (Path.snd R_head_Signed R_head_Signed) (by kernel_rfl))) <| .read (.yes ⟨8, true, _, 105, _, rfl, rfl, rfl, fun _ _ => bl_p.1, gd_yes e40⟩ (pj_field_to (ht rfl) (Path.fst R_head_Head (sl u8)) (by kernel_rfl))) <| .read (.yes ⟨8, true, _, 105, _, rfl, rfl, rfl, fun _ _ => bl_p.1, gd_yes e40⟩ (pl (ht rfl) (by kernel_rfl))) <| .read (.yes ⟨8, true, _, 105, _, rfl, rfl, rfl, fun _ _ => bl_p.1, gd_yes e40⟩ (pj_field_to (ht rfl) (Path.fst R_head_Head (sl u8)) (by kernel_rfl))) <| .read (.yes ⟨8, true, _, 105, _, rfl, rfl, rfl, fun _ _ => bl_p.1, gd_yes e40⟩ (pl (ht rfl) (by kernel_rfl))) <| .read (.yes ⟨8, true, _, 105, _, rfl, rfl, rfl, fun _ _ => bl_p.1, gd_yes e40⟩ (pj_eql (n := 3) (eq_struct (fs := #[Field.mk "Epoch" 3 0 false "" "" 0, Field.mk "Tick" 3 1 false "" "" 8, Field.mk "Tree" 23 2 false "" "" 16, Field.mk "Log" 23 34 false "" "" 48]) (by kernel_rfl) (by kernel_rfl) rfl (.cons rfl (by kernel_rfl) (by kernel_rfl) (EqOK.mono (by omega) (eq_i64 (by kernel_rfl))) (.cons rfl (by kernel_rfl) (by kernel_rfl) (EqOK.mono (by omega) (eq_i64 (by kernel_rfl))) (.cons rfl (by kernel_rfl) (by kernel_rfl) (eq_vec (e := 5) (by kernel_rfl) (by kernel_rfl) (eq_un (by kernel_rfl))) (.one rfl (by kernel_rfl) (by kernel_rfl) (eq_vec (e := 5) (by kernel_rfl) (by kernel_rfl) (eq_un (by kernel_rfl)))))))) (by decide) rfl (by kernel_rfl) (ht rfl) (ht rfl))) <| .read (.plain rfl (PJ.eqv (R := bl) (pj_pick (t := any) (ht rfl) (fun _ => (ht rfl)) (fun he => absurd (e40.symm.trans he) (by decide))) (oi e41))) <| .read (.plain rfl (pm (ht rfl))) <| .read (.yes ⟨18, true, _, 115, _, rfl, rfl, rfl, fun _ _ => bl_p.1, gd_yes e43⟩ (pm (ht rfl))) <| .read (.yes ⟨18, true, _, 115, _, rfl, rfl, rfl, fun _ _ => bl_p.1, gd_yes e43⟩ (pj_index_slx (ht rfl) has_i64 isInt_i64 e45 (by kernel_rfl))) <| .read (.yes ⟨18, true, _, 115, _, rfl, rfl, rfl, fun _ _ => bl_p.1, gd_yes e43⟩ (pj_field_to (ht rfl) (Path.fst R_head_Signed R_head_Signed) (by kernel_rfl))) <| .read (.yes ⟨18, true, _, 115, _, rfl, rfl, rfl, fun _ _ => bl_p.1, gd_yes e43⟩ (pl (ht rfl) (by kernel_rfl))) <| .read (.yes ⟨18, true, _, 115, _, rfl, rfl, rfl, fun _ _ => bl_p.1, gd_yes e43⟩ (pm (ht rfl))) <| .read (.yes ⟨18, true, _, 115, _, rfl, rfl, rfl, fun _ _ => bl_p.1, gd_yes e43⟩ (pj_callR (hc (ht rfl) <| hasL_nil) .here (by kernel_rfl) (Ctr.frozeR (fun _ => (c_hss_Signer_Public e46))))) <| .read (.yes ⟨18, true, _, 115, _, rfl, rfl, rfl, fun _ _ => bl_p.1, gd_yes e43⟩ (pj_call (hc (ht rfl) <| hc (ht rfl) <| hasL_nil) (by kernel_rfl) (c_head_Right hg0 hg1 hg2 e47))) <| .read (.plain rfl (PJ.eqv (R := bl) (pj_pick (t := any) (ht rfl) (fun _ => (ht rfl)) (fun he => absurd (e43.symm.trans he) (by decide))) (oi e44))) <| .read (.plain rfl (pm (ht rfl))) <| .read (.yes ⟨27, true, _, 124, _, rfl, rfl, rfl, fun _ _ => bl_p.1, gd_yes e48⟩ (pm (ht rfl))) <| .read (.yes ⟨27, true, _, 124, _, rfl, rfl, rfl, fun _ _ => bl_p.1, gd_yes e48⟩ (pj_index_slx (ht rfl) has_i64 isInt_i64 e50 (by kernel_rfl))) <| .read (.yes ⟨27, true, _, 124, _, rfl, rfl, rfl, fun _ _ => bl_p.1, gd_yes e48⟩ (pj_field_to (ht rfl) (Path.snd R_head_Signed R_head_Signed) (by kernel_rfl))) <| .read (.yes ⟨27, true, _, 124, _, rfl, rfl, rfl, fun _ _ => bl_p.1, gd_yes e48⟩ (pl (ht rfl) (by kernel_rfl))) <| .read (.yes ⟨27, true, _, 124, _, rfl, rfl, rfl, fun _ _ => bl_p.1, gd_yes e48⟩ (pm (ht rfl))) <| .read (.yes ⟨27, true, _, 124, _, rfl, rfl, rfl, fun _ _ => bl_p.1, gd_yes e48⟩ (pj_callR (hc (ht rfl) <| hasL_nil) .here (by kernel_rfl) (Ctr.frozeR (fun _ => (c_hss_Signer_Public e51))))) <| .read (.yes ⟨27, true, _, 124, _, rfl, rfl, rfl, fun _ _ => bl_p.1, gd_yes e48⟩ (pj_call (hc (ht rfl) <| hc (ht rfl) <| hasL_nil) (by kernel_rfl) (c_head_Right hg0 hg1 hg2 e52))) <| .read (.plain rfl (PJ.eqv (R := bl) (pj_pick (t := any) (ht rfl) (fun _ => (ht rfl)) (fun he => absurd (e48.symm.trans he) (by decide))) (oi e49))) <| .nil) (j_to (Γ' := [(132, bl.slot y13)]) (H' := []) (.cons (.of_lk rfl) <| .nil) (.nil) J)
                            · replace e49 := bf e48 e49
                              exact run_draw (n := 36) (by kernel_rfl) (by kernel_rfl) (by kernel_rfl) (by kernel_rfl) (.read (.plain rfl (pm (ht rfl))) <| .read (.plain rfl (pj_index_slx (ht rfl) has_i64 isInt_i64 e39 (by kernel_rfl))) <| .read (.plain rfl (pj_field_to (ht rfl) (Path.fst R_head_Signed R_head_Signed) (by kernel_rfl))) <| .read (.plain rfl (pj_field_to (ht rfl) (Path.fst R_head_Head (sl u8)) (by kernel_rfl))) <| .read (.plain rfl (pl (ht rfl) (by kernel_rfl))) <| .read (.plain rfl (pj_field_to (ht rfl) (Path.fst R_head_Head (sl u8)) (by kernel_rfl))) <| .read (.plain rfl (pl (ht rfl) (by kernel_rfl))) <| .read (.plain rfl (pj_eql (n := 3) (eq_struct (fs := #[Field.mk "Epoch" 3 0 false "" "" 0, Field.mk "Tick" 3 1 false "" "" 8, Field.mk "Tree" 23 2 false "" "" 16, Field.mk "Log" 23 34 false "" "" 48]) (by kernel_rfl) (by kernel_rfl) rfl (.cons rfl (by kernel_rfl) (by kernel_rfl) (EqOK.mono (by omega) (eq_i64 (by kernel_rfl))) (.cons rfl (by kernel_rfl) (by kernel_rfl) (EqOK.mono (by omega) (eq_i64 (by kernel_rfl))) (.cons rfl (by kernel_rfl) (by kernel_rfl) (eq_vec (e := 5) (by kernel_rfl) (by kernel_rfl) (eq_un (by kernel_rfl))) (.one rfl (by kernel_rfl) (by kernel_rfl) (eq_vec (e := 5) (by kernel_rfl) (by kernel_rfl) (eq_un (by kernel_rfl)))))))) (by decide) rfl (by kernel_rfl) (ht rfl) (ht rfl))) <| .read (.plain rfl (pm (ht rfl))) <| .read (.yes ⟨8, true, _, 105, _, rfl, rfl, rfl, fun _ _ => bl_p.1, gd_yes e40⟩ (pm (ht rfl))) <| .read (.yes ⟨8, true, _, 105, _, rfl, rfl, rfl, fun _ _ => bl_p.1, gd_yes e40⟩ (pj_index_slx (ht rfl) has_i64 isInt_i64 e42 (by kernel_rfl))) <| .read (.yes ⟨8, true, _, 105, _, rfl, rfl, rfl, fun _ _ => bl_p.1, gd_yes e40⟩ (pj_field_to (ht rfl) (Path.snd R_head_Signed R_head_Signed) (by kernel_rfl))) <| .read (.yes ⟨8, true, _, 105, _, rfl, rfl, rfl, fun _ _ => bl_p.1, gd_yes e40⟩ (pj_field_to (ht rfl) (Path.fst R_head_Head (sl u8)) (by kernel_rfl))) <| .read (.yes ⟨8, true, _, 105, _, rfl, rfl, rfl, fun _ _ => bl_p.1, gd_yes e40⟩ (pl (ht rfl) (by kernel_rfl))) <| .read (.yes ⟨8, true, _, 105, _, rfl, rfl, rfl, fun _ _ => bl_p.1, gd_yes e40⟩ (pj_field_to (ht rfl) (Path.fst R_head_Head (sl u8)) (by kernel_rfl))) <| .read (.yes ⟨8, true, _, 105, _, rfl, rfl, rfl, fun _ _ => bl_p.1, gd_yes e40⟩ (pl (ht rfl) (by kernel_rfl))) <| .read (.yes ⟨8, true, _, 105, _, rfl, rfl, rfl, fun _ _ => bl_p.1, gd_yes e40⟩ (pj_eql (n := 3) (eq_struct (fs := #[Field.mk "Epoch" 3 0 false "" "" 0, Field.mk "Tick" 3 1 false "" "" 8, Field.mk "Tree" 23 2 false "" "" 16, Field.mk "Log" 23 34 false "" "" 48]) (by kernel_rfl) (by kernel_rfl) rfl (.cons rfl (by kernel_rfl) (by kernel_rfl) (EqOK.mono (by omega) (eq_i64 (by kernel_rfl))) (.cons rfl (by kernel_rfl) (by kernel_rfl) (EqOK.mono (by omega) (eq_i64 (by kernel_rfl))) (.cons rfl (by kernel_rfl) (by kernel_rfl) (eq_vec (e := 5) (by kernel_rfl) (by kernel_rfl) (eq_un (by kernel_rfl))) (.one rfl (by kernel_rfl) (by kernel_rfl) (eq_vec (e := 5) (by kernel_rfl) (by kernel_rfl) (eq_un (by kernel_rfl)))))))) (by decide) rfl (by kernel_rfl) (ht rfl) (ht rfl))) <| .read (.plain rfl (PJ.eqv (R := bl) (pj_pick (t := any) (ht rfl) (fun _ => (ht rfl)) (fun he => absurd (e40.symm.trans he) (by decide))) (oi e41))) <| .read (.plain rfl (pm (ht rfl))) <| .read (.yes ⟨18, true, _, 115, _, rfl, rfl, rfl, fun _ _ => bl_p.1, gd_yes e43⟩ (pm (ht rfl))) <| .read (.yes ⟨18, true, _, 115, _, rfl, rfl, rfl, fun _ _ => bl_p.1, gd_yes e43⟩ (pj_index_slx (ht rfl) has_i64 isInt_i64 e45 (by kernel_rfl))) <| .read (.yes ⟨18, true, _, 115, _, rfl, rfl, rfl, fun _ _ => bl_p.1, gd_yes e43⟩ (pj_field_to (ht rfl) (Path.fst R_head_Signed R_head_Signed) (by kernel_rfl))) <| .read (.yes ⟨18, true, _, 115, _, rfl, rfl, rfl, fun _ _ => bl_p.1, gd_yes e43⟩ (pl (ht rfl) (by kernel_rfl))) <| .read (.yes ⟨18, true, _, 115, _, rfl, rfl, rfl, fun _ _ => bl_p.1, gd_yes e43⟩ (pm (ht rfl))) <| .read (.yes ⟨18, true, _, 115, _, rfl, rfl, rfl, fun _ _ => bl_p.1, gd_yes e43⟩ (pj_callR (hc (ht rfl) <| hasL_nil) .here (by kernel_rfl) (Ctr.frozeR (fun _ => (c_hss_Signer_Public e46))))) <| .read (.yes ⟨18, true, _, 115, _, rfl, rfl, rfl, fun _ _ => bl_p.1, gd_yes e43⟩ (pj_call (hc (ht rfl) <| hc (ht rfl) <| hasL_nil) (by kernel_rfl) (c_head_Right hg0 hg1 hg2 e47))) <| .read (.plain rfl (PJ.eqv (R := bl) (pj_pick (t := any) (ht rfl) (fun _ => (ht rfl)) (fun he => absurd (e43.symm.trans he) (by decide))) (oi e44))) <| .read (.plain rfl (pm (ht rfl))) <| .read (.no ⟨27, true, _, 124, _, rfl, rfl, rfl, fun _ _ => bl_p.1, gd_no e48⟩) <| .read (.no ⟨27, true, _, 124, _, rfl, rfl, rfl, fun _ _ => bl_p.1, gd_no e48⟩) <| .read (.no ⟨27, true, _, 124, _, rfl, rfl, rfl, fun _ _ => bl_p.1, gd_no e48⟩) <| .read (.no ⟨27, true, _, 124, _, rfl, rfl, rfl, fun _ _ => bl_p.1, gd_no e48⟩) <| .read (.no ⟨27, true, _, 124, _, rfl, rfl, rfl, fun _ _ => bl_p.1, gd_no e48⟩) <| .read (.no ⟨27, true, _, 124, _, rfl, rfl, rfl, fun _ _ => bl_p.1, gd_no e48⟩) <| .read (.no ⟨27, true, _, 124, _, rfl, rfl, rfl, fun _ _ => bl_p.1, gd_no e48⟩) <| .read (.plain rfl (PJ.eqv (R := bl) (pj_pick (t := any) (ht rfl) (fun he => absurd (e48.symm.trans he) (by decide)) (fun _ => has_bl)) (oi e49))) <| .nil) (j_to (Γ' := [(132, bl.slot y13)]) (H' := []) (.cons (.of_lk rfl) <| .nil) (.nil) J)
                          · replace e44 := bf e43 e44
                            rcases bool_tf (y12) with e48 | e48
                            · exact absurd ((oi e44).trans e48) (by decide)
                            · replace e49 := bf e48 e49
                              exact run_draw (n := 36) (by kernel_rfl) (by kernel_rfl) (by kernel_rfl) (by kernel_rfl) (.read (.plain rfl (pm (ht rfl))) <| .read (.plain rfl (pj_index_slx (ht rfl) has_i64 isInt_i64 e39 (by kernel_rfl))) <| .read (.plain rfl (pj_field_to (ht rfl) (Path.fst R_head_Signed R_head_Signed) (by kernel_rfl))) <| .read (.plain rfl (pj_field_to (ht rfl) (Path.fst R_head_Head (sl u8)) (by kernel_rfl))) <| .read (.plain rfl (pl (ht rfl) (by kernel_rfl))) <| .read (.plain rfl (pj_field_to (ht rfl) (Path.fst R_head_Head (sl u8)) (by kernel_rfl))) <| .read (.plain rfl (pl (ht rfl) (by kernel_rfl))) <| .read (.plain rfl (pj_eql (n := 3) (eq_struct (fs := #[Field.mk "Epoch" 3 0 false "" "" 0, Field.mk "Tick" 3 1 false "" "" 8, Field.mk "Tree" 23 2 false "" "" 16, Field.mk "Log" 23 34 false "" "" 48]) (by kernel_rfl) (by kernel_rfl) rfl (.cons rfl (by kernel_rfl) (by kernel_rfl) (EqOK.mono (by omega) (eq_i64 (by kernel_rfl))) (.cons rfl (by kernel_rfl) (by kernel_rfl) (EqOK.mono (by omega) (eq_i64 (by kernel_rfl))) (.cons rfl (by kernel_rfl) (by kernel_rfl) (eq_vec (e := 5) (by kernel_rfl) (by kernel_rfl) (eq_un (by kernel_rfl))) (.one rfl (by kernel_rfl) (by kernel_rfl) (eq_vec (e := 5) (by kernel_rfl) (by kernel_rfl) (eq_un (by kernel_rfl)))))))) (by decide) rfl (by kernel_rfl) (ht rfl) (ht rfl))) <| .read (.plain rfl (pm (ht rfl))) <| .read (.yes ⟨8, true, _, 105, _, rfl, rfl, rfl, fun _ _ => bl_p.1, gd_yes e40⟩ (pm (ht rfl))) <| .read (.yes ⟨8, true, _, 105, _, rfl, rfl, rfl, fun _ _ => bl_p.1, gd_yes e40⟩ (pj_index_slx (ht rfl) has_i64 isInt_i64 e42 (by kernel_rfl))) <| .read (.yes ⟨8, true, _, 105, _, rfl, rfl, rfl, fun _ _ => bl_p.1, gd_yes e40⟩ (pj_field_to (ht rfl) (Path.snd R_head_Signed R_head_Signed) (by kernel_rfl))) <| .read (.yes ⟨8, true, _, 105, _, rfl, rfl, rfl, fun _ _ => bl_p.1, gd_yes e40⟩ (pj_field_to (ht rfl) (Path.fst R_head_Head (sl u8)) (by kernel_rfl))) <| .read (.yes ⟨8, true, _, 105, _, rfl, rfl, rfl, fun _ _ => bl_p.1, gd_yes e40⟩ (pl (ht rfl) (by kernel_rfl))) <| .read (.yes ⟨8, true, _, 105, _, rfl, rfl, rfl, fun _ _ => bl_p.1, gd_yes e40⟩ (pj_field_to (ht rfl) (Path.fst R_head_Head (sl u8)) (by kernel_rfl))) <| .read (.yes ⟨8, true, _, 105, _, rfl, rfl, rfl, fun _ _ => bl_p.1, gd_yes e40⟩ (pl (ht rfl) (by kernel_rfl))) <| .read (.yes ⟨8, true, _, 105, _, rfl, rfl, rfl, fun _ _ => bl_p.1, gd_yes e40⟩ (pj_eql (n := 3) (eq_struct (fs := #[Field.mk "Epoch" 3 0 false "" "" 0, Field.mk "Tick" 3 1 false "" "" 8, Field.mk "Tree" 23 2 false "" "" 16, Field.mk "Log" 23 34 false "" "" 48]) (by kernel_rfl) (by kernel_rfl) rfl (.cons rfl (by kernel_rfl) (by kernel_rfl) (EqOK.mono (by omega) (eq_i64 (by kernel_rfl))) (.cons rfl (by kernel_rfl) (by kernel_rfl) (EqOK.mono (by omega) (eq_i64 (by kernel_rfl))) (.cons rfl (by kernel_rfl) (by kernel_rfl) (eq_vec (e := 5) (by kernel_rfl) (by kernel_rfl) (eq_un (by kernel_rfl))) (.one rfl (by kernel_rfl) (by kernel_rfl) (eq_vec (e := 5) (by kernel_rfl) (by kernel_rfl) (eq_un (by kernel_rfl)))))))) (by decide) rfl (by kernel_rfl) (ht rfl) (ht rfl))) <| .read (.plain rfl (PJ.eqv (R := bl) (pj_pick (t := any) (ht rfl) (fun _ => (ht rfl)) (fun he => absurd (e40.symm.trans he) (by decide))) (oi e41))) <| .read (.plain rfl (pm (ht rfl))) <| .read (.no ⟨18, true, _, 115, _, rfl, rfl, rfl, fun _ _ => bl_p.1, gd_no e43⟩) <| .read (.no ⟨18, true, _, 115, _, rfl, rfl, rfl, fun _ _ => bl_p.1, gd_no e43⟩) <| .read (.no ⟨18, true, _, 115, _, rfl, rfl, rfl, fun _ _ => bl_p.1, gd_no e43⟩) <| .read (.no ⟨18, true, _, 115, _, rfl, rfl, rfl, fun _ _ => bl_p.1, gd_no e43⟩) <| .read (.no ⟨18, true, _, 115, _, rfl, rfl, rfl, fun _ _ => bl_p.1, gd_no e43⟩) <| .read (.no ⟨18, true, _, 115, _, rfl, rfl, rfl, fun _ _ => bl_p.1, gd_no e43⟩) <| .read (.no ⟨18, true, _, 115, _, rfl, rfl, rfl, fun _ _ => bl_p.1, gd_no e43⟩) <| .read (.plain rfl (PJ.eqv (R := bl) (pj_pick (t := any) (ht rfl) (fun he => absurd (e43.symm.trans he) (by decide)) (fun _ => has_bl)) (oi e44))) <| .read (.plain rfl (pm (ht rfl))) <| .read (.no ⟨27, true, _, 124, _, rfl, rfl, rfl, fun _ _ => bl_p.1, gd_no e48⟩) <| .read (.no ⟨27, true, _, 124, _, rfl, rfl, rfl, fun _ _ => bl_p.1, gd_no e48⟩) <| .read (.no ⟨27, true, _, 124, _, rfl, rfl, rfl, fun _ _ => bl_p.1, gd_no e48⟩) <| .read (.no ⟨27, true, _, 124, _, rfl, rfl, rfl, fun _ _ => bl_p.1, gd_no e48⟩) <| .read (.no ⟨27, true, _, 124, _, rfl, rfl, rfl, fun _ _ => bl_p.1, gd_no e48⟩) <| .read (.no ⟨27, true, _, 124, _, rfl, rfl, rfl, fun _ _ => bl_p.1, gd_no e48⟩) <| .read (.no ⟨27, true, _, 124, _, rfl, rfl, rfl, fun _ _ => bl_p.1, gd_no e48⟩) <| .read (.plain rfl (PJ.eqv (R := bl) (pj_pick (t := any) (ht rfl) (fun he => absurd (e48.symm.trans he) (by decide)) (fun _ => has_bl)) (oi e49))) <| .nil) (j_to (Γ' := [(132, bl.slot y13)]) (H' := []) (.cons (.of_lk rfl) <| .nil) (.nil) J)
                        · replace e41 := bf e40 e41
                          rcases bool_tf (y11) with e43 | e43
                          · exact absurd ((oi e41).trans e43) (by decide)
                          · replace e44 := bf e43 e44
                            rcases bool_tf (y12) with e48 | e48
                            · exact absurd ((oi e44).trans e48) (by decide)
                            · replace e49 := bf e48 e49
                              exact run_draw (n := 36) (by kernel_rfl) (by kernel_rfl) (by kernel_rfl) (by kernel_rfl) (.read (.plain rfl (pm (ht rfl))) <| .read (.plain rfl (pj_index_slx (ht rfl) has_i64 isInt_i64 e39 (by kernel_rfl))) <| .read (.plain rfl (pj_field_to (ht rfl) (Path.fst R_head_Signed R_head_Signed) (by kernel_rfl))) <| .read (.plain rfl (pj_field_to (ht rfl) (Path.fst R_head_Head (sl u8)) (by kernel_rfl))) <| .read (.plain rfl (pl (ht rfl) (by kernel_rfl))) <| .read (.plain rfl (pj_field_to (ht rfl) (Path.fst R_head_Head (sl u8)) (by kernel_rfl))) <| .read (.plain rfl (pl (ht rfl) (by kernel_rfl))) <| .read (.plain rfl (pj_eql (n := 3) (eq_struct (fs := #[Field.mk "Epoch" 3 0 false "" "" 0, Field.mk "Tick" 3 1 false "" "" 8, Field.mk "Tree" 23 2 false "" "" 16, Field.mk "Log" 23 34 false "" "" 48]) (by kernel_rfl) (by kernel_rfl) rfl (.cons rfl (by kernel_rfl) (by kernel_rfl) (EqOK.mono (by omega) (eq_i64 (by kernel_rfl))) (.cons rfl (by kernel_rfl) (by kernel_rfl) (EqOK.mono (by omega) (eq_i64 (by kernel_rfl))) (.cons rfl (by kernel_rfl) (by kernel_rfl) (eq_vec (e := 5) (by kernel_rfl) (by kernel_rfl) (eq_un (by kernel_rfl))) (.one rfl (by kernel_rfl) (by kernel_rfl) (eq_vec (e := 5) (by kernel_rfl) (by kernel_rfl) (eq_un (by kernel_rfl)))))))) (by decide) rfl (by kernel_rfl) (ht rfl) (ht rfl))) <| .read (.plain rfl (pm (ht rfl))) <| .read (.no ⟨8, true, _, 105, _, rfl, rfl, rfl, fun _ _ => bl_p.1, gd_no e40⟩) <| .read (.no ⟨8, true, _, 105, _, rfl, rfl, rfl, fun _ _ => bl_p.1, gd_no e40⟩) <| .read (.no ⟨8, true, _, 105, _, rfl, rfl, rfl, fun _ _ => bl_p.1, gd_no e40⟩) <| .read (.no ⟨8, true, _, 105, _, rfl, rfl, rfl, fun _ _ => bl_p.1, gd_no e40⟩) <| .read (.no ⟨8, true, _, 105, _, rfl, rfl, rfl, fun _ _ => bl_p.1, gd_no e40⟩) <| .read (.no ⟨8, true, _, 105, _, rfl, rfl, rfl, fun _ _ => bl_p.1, gd_no e40⟩) <| .read (.no ⟨8, true, _, 105, _, rfl, rfl, rfl, fun _ _ => bl_p.1, gd_no e40⟩) <| .read (.no ⟨8, true, _, 105, _, rfl, rfl, rfl, fun _ _ => bl_p.1, gd_no e40⟩) <| .read (.plain rfl (PJ.eqv (R := bl) (pj_pick (t := any) (ht rfl) (fun he => absurd (e40.symm.trans he) (by decide)) (fun _ => has_bl)) (oi e41))) <| .read (.plain rfl (pm (ht rfl))) <| .read (.no ⟨18, true, _, 115, _, rfl, rfl, rfl, fun _ _ => bl_p.1, gd_no e43⟩) <| .read (.no ⟨18, true, _, 115, _, rfl, rfl, rfl, fun _ _ => bl_p.1, gd_no e43⟩) <| .read (.no ⟨18, true, _, 115, _, rfl, rfl, rfl, fun _ _ => bl_p.1, gd_no e43⟩) <| .read (.no ⟨18, true, _, 115, _, rfl, rfl, rfl, fun _ _ => bl_p.1, gd_no e43⟩) <| .read (.no ⟨18, true, _, 115, _, rfl, rfl, rfl, fun _ _ => bl_p.1, gd_no e43⟩) <| .read (.no ⟨18, true, _, 115, _, rfl, rfl, rfl, fun _ _ => bl_p.1, gd_no e43⟩) <| .read (.no ⟨18, true, _, 115, _, rfl, rfl, rfl, fun _ _ => bl_p.1, gd_no e43⟩) <| .read (.plain rfl (PJ.eqv (R := bl) (pj_pick (t := any) (ht rfl) (fun he => absurd (e43.symm.trans he) (by decide)) (fun _ => has_bl)) (oi e44))) <| .read (.plain rfl (pm (ht rfl))) <| .read (.no ⟨27, true, _, 124, _, rfl, rfl, rfl, fun _ _ => bl_p.1, gd_no e48⟩) <| .read (.no ⟨27, true, _, 124, _, rfl, rfl, rfl, fun _ _ => bl_p.1, gd_no e48⟩) <| .read (.no ⟨27, true, _, 124, _, rfl, rfl, rfl, fun _ _ => bl_p.1, gd_no e48⟩) <| .read (.no ⟨27, true, _, 124, _, rfl, rfl, rfl, fun _ _ => bl_p.1, gd_no e48⟩) <| .read (.no ⟨27, true, _, 124, _, rfl, rfl, rfl, fun _ _ => bl_p.1, gd_no e48⟩) <| .read (.no ⟨27, true, _, 124, _, rfl, rfl, rfl, fun _ _ => bl_p.1, gd_no e48⟩) <| .read (.no ⟨27, true, _, 124, _, rfl, rfl, rfl, fun _ _ => bl_p.1, gd_no e48⟩) <| .read (.plain rfl (PJ.eqv (R := bl) (pj_pick (t := any) (ht rfl) (fun he => absurd (e48.symm.trans he) (by decide)) (fun _ => has_bl)) (oi e49))) <| .nil) (j_to (Γ' := [(132, bl.slot y13)]) (H' := []) (.cons (.of_lk rfl) <| .nil) (.nil) J)
                  · rcases bool_tf (y9) with e35 | e35
                    · replace e36 := bt e35 e36
                      refine j_guard_no2 (j := 15) (want := false) rfl rfl rfl rfl (bl_isx e35) rfl rfl rfl ?_
                      refine j_guard_no2 (j := 15) (want := false) rfl rfl rfl rfl (bl_isx e35) rfl rfl rfl ?_
                      refine j_guard_no2 (j := 15) (want := false) rfl rfl rfl rfl (bl_isx e35) rfl rfl rfl ?_
                      refine j_guard_no2 (j := 15) (want := false) rfl rfl rfl rfl (bl_isx e35) rfl rfl rfl ?_
                      refine jp (PJ.eqv (R := bl) (pj_pick (t := any) (ht rfl) (fun _ => has_bl) (fun he => absurd (e35.symm.trans he) (by decide))) (oi e36)) rfl rfl rfl ?_
                      exact j_to (.cons (.of_lk rfl) <| .cons (.of_lk rfl) <| .cons (.of_lk rfl) <| .cons (.of_lk rfl) <| .cons (.of_lk rfl) <| .nil) (.cons (.next (.next (.next (.next .here)))) <| .nil) (J ())
                    · replace e36 := bf e35 e36
                      refine jy (pm (ht rfl)) rfl rfl rfl rfl (bl_isx e35) rfl rfl ?_
                      obtain ⟨r15, e37, e36⟩ := bind_some e36
                      refine jy (pj_callXL (fun i : Hp × Hp × Hp × Hp => [exE (box b3 83 (prod (sl u8) (prod (exv v10) (prod (exv v11) (exv v12)))) (r12.1.1, (), (), ())) i.1, exE (own 44 R_head_Signed v10 r12.1.2.1) i.2.1, exE (own 59 R_gossip_Fork v11 r12.1.2.2.1) i.2.2.1, exE (own 144 R_gossip_link v12 r12.1.2.2.2) i.2.2.2]) (hc (ht rfl) <| hasL_nil) (.cons .here <| .cons .here <| .cons .here <| .cons .here <| .nil) x4_sat x4_exact (by kernel_rfl) (fun _ => Ctr.frozeL (c_gossip_Pool_Heads e37))) rfl rfl rfl rfl (bl_isx e35) rfl rfl ?_
                      refine jy (pj_len_sl (sz := 67) (ht rfl) (by kernel_rfl)) rfl rfl rfl rfl (bl_isx e35) rfl rfl ?_
                      refine jy (pj_ineq (ht rfl) has_i64) rfl rfl rfl rfl (bl_isx e35) rfl rfl ?_
                      refine jp (PJ.eqv (R := bl) (pj_pick (t := any) (ht rfl) (fun he => absurd (e35.symm.trans he) (by decide)) (fun _ => (ht rfl))) (oi e36)) rfl rfl rfl ?_
                      exact j_to (.cons (.of_lk rfl) <| .cons (.of_lk rfl) <| .cons (.of_lk rfl) <| .cons (.of_lk rfl) <| .cons (.of_lk rfl) <| .nil) (.cons (.next (.next (.next (.next .here)))) <| .nil) (J ())
                · rcases bool_tf (y8) with e33 | e33
                  · replace e34 := bt e33 e34
                    refine j_guard_no2 (j := 10) (want := false) rfl rfl rfl rfl (bl_isx e33) rfl rfl rfl ?_
                    refine j_guard_no2 (j := 10) (want := false) rfl rfl rfl rfl (bl_isx e33) rfl rfl rfl ?_
                    refine j_guard_no2 (j := 10) (want := false) rfl rfl rfl rfl (bl_isx e33) rfl rfl rfl ?_
                    refine jp (PJ.eqv (R := bl) (pj_pick (t := any) (ht rfl) (fun _ => has_bl) (fun he => absurd (e33.symm.trans he) (by decide))) (oi e34)) rfl rfl rfl ?_
                    exact j_to (.cons (.of_lk rfl) <| .cons (.of_lk rfl) <| .cons (.of_lk rfl) <| .cons (.of_lk rfl) <| .cons (.of_lk rfl) <| .cons (.of_lk rfl) <| .nil) (.cons .here <| .cons .here <| .cons .here <| .cons .here <| .cons .here <| .nil) (J ())
                  · replace e34 := bf e33 e34
                    refine jy (pm (ht rfl)) rfl rfl rfl rfl (bl_isx e33) rfl rfl ?_
                    refine jy (pj_len_sl (sz := 134) (ht rfl) (by kernel_rfl)) rfl rfl rfl rfl (bl_isx e33) rfl rfl ?_
                    refine jy (pj_ineq (ht rfl) has_i64) rfl rfl rfl rfl (bl_isx e33) rfl rfl ?_
                    refine jp (PJ.eqv (R := bl) (pj_pick (t := any) (ht rfl) (fun he => absurd (e33.symm.trans he) (by decide)) (fun _ => (ht rfl))) (oi e34)) rfl rfl rfl ?_
                    exact j_to (.cons (.of_lk rfl) <| .cons (.of_lk rfl) <| .cons (.of_lk rfl) <| .cons (.of_lk rfl) <| .cons (.of_lk rfl) <| .cons (.of_lk rfl) <| .nil) (.cons .here <| .cons .here <| .cons .here <| .cons .here <| .cons .here <| .nil) (J ())
              · rcases bool_tf (y7) with e31 | e31
                · replace e32 := bt e31 e32
                  refine j_guard_no2 (j := 6) (want := false) rfl rfl rfl rfl (bl_isx e31) rfl rfl rfl ?_
                  refine j_guard_no2 (j := 6) (want := false) rfl rfl rfl rfl (bl_isx e31) rfl rfl rfl ?_
                  refine jp (PJ.eqv (R := bl) (pj_pick (t := any) (ht rfl) (fun _ => has_bl) (fun he => absurd (e31.symm.trans he) (by decide))) (oi e32)) rfl rfl rfl ?_
                  exact j_to (.cons (.of_lk rfl) <| .cons (.of_lk rfl) <| .cons (.of_lk rfl) <| .cons (.of_lk rfl) <| .cons (.of_lk rfl) <| .cons (.of_lk rfl) <| .nil) (.cons .here <| .cons .here <| .cons .here <| .cons .here <| .cons .here <| .nil) (J ())
                · replace e32 := bf e31 e32
                  refine jy (pm (ht rfl)) rfl rfl rfl rfl (bl_isx e31) rfl rfl ?_
                  refine jy (pj_ineq (ht rfl) has_i64) rfl rfl rfl rfl (bl_isx e31) rfl rfl ?_
                  refine jp (PJ.eqv (R := bl) (pj_pick (t := any) (ht rfl) (fun he => absurd (e31.symm.trans he) (by decide)) (fun _ => (ht rfl))) (oi e32)) rfl rfl rfl ?_
                  exact j_to (.cons (.of_lk rfl) <| .cons (.of_lk rfl) <| .cons (.of_lk rfl) <| .cons (.of_lk rfl) <| .cons (.of_lk rfl) <| .cons (.of_lk rfl) <| .nil) (.cons .here <| .cons .here <| .cons .here <| .cons .here <| .cons .here <| .nil) (J ())
            · rcases bool_tf (!decide (r10.2 = (0 : Int))) with e29 | e29
              · replace e30 := bt e29 e30
                refine j_guard_no2 (j := 2) (want := false) rfl rfl rfl rfl (bl_isx e29) rfl rfl rfl ?_
                refine j_guard_no2 (j := 2) (want := false) rfl rfl rfl rfl (bl_isx e29) rfl rfl rfl ?_
                refine jp (PJ.eqv (R := bl) (pj_pick (t := any) (ht rfl) (fun _ => has_bl) (fun he => absurd (e29.symm.trans he) (by decide))) (oi e30)) rfl rfl rfl ?_
                exact j_to (.cons (.of_lk rfl) <| .cons (.of_lk rfl) <| .cons (.of_lk rfl) <| .cons (.of_lk rfl) <| .cons (.of_lk rfl) <| .cons (.of_lk rfl) <| .cons (.of_lk rfl) <| .nil) (.cons .here <| .cons .here <| .cons .here <| .cons .here <| .cons .here <| .nil) (J ())
              · replace e30 := bf e29 e30
                refine jy (pm (ht rfl)) rfl rfl rfl rfl (bl_isx e29) rfl rfl ?_
                refine jy (pj_ineq (ht rfl) has_i64) rfl rfl rfl rfl (bl_isx e29) rfl rfl ?_
                refine jp (PJ.eqv (R := bl) (pj_pick (t := any) (ht rfl) (fun he => absurd (e29.symm.trans he) (by decide)) (fun _ => (ht rfl))) (oi e30)) rfl rfl rfl ?_
                exact j_to (.cons (.of_lk rfl) <| .cons (.of_lk rfl) <| .cons (.of_lk rfl) <| .cons (.of_lk rfl) <| .cons (.of_lk rfl) <| .cons (.of_lk rfl) <| .cons (.of_lk rfl) <| .nil) (.cons .here <| .cons .here <| .cons .here <| .cons .here <| .cons .here <| .nil) (J ())
      · rcases bool_tf (y2) with e7 | e7
        · replace e8 := bt e7 e8
          refine j_guard_no2 (j := 12) (want := false) rfl rfl rfl rfl (bl_isx e7) rfl rfl rfl ?_
          refine j_guard_no2 (j := 12) (want := false) rfl rfl rfl rfl (bl_isx e7) rfl rfl rfl ?_
          refine j_guard_no2 (j := 12) (want := false) rfl rfl rfl rfl (bl_isx e7) rfl rfl rfl ?_
          refine jp (PJ.eqv (R := bl) (pj_pick (t := any) (ht rfl) (fun _ => has_bl) (fun he => absurd (e7.symm.trans he) (by decide))) (oi e8)) rfl rfl rfl ?_
          exact j_to (.cons (.of_lk rfl) <| .cons (.of_lk rfl) <| .cons (.of_lk rfl) <| .nil) (.cons .here <| .nil) (J ())
        · replace e8 := bf e7 e8
          refine jy (pj_load_box (ht rfl) .here (Path.all R_rolodexref17_Head) (by kernel_rfl)) rfl rfl rfl rfl (bl_isx e7) rfl rfl ?_
          obtain ⟨r3, e9, e8⟩ := bind_some e8
          refine jy (pj_call (hc (ht rfl) <| hasL_nil) (by kernel_rfl) (c_rolodexref17_Is e9)) rfl rfl rfl rfl (bl_isx e7) rfl rfl ?_
          refine jy (pj_not (ht rfl)) rfl rfl rfl rfl (bl_isx e7) rfl rfl ?_
          refine jp (PJ.eqv (R := bl) (pj_pick (t := any) (ht rfl) (fun he => absurd (e7.symm.trans he) (by decide)) (fun _ => (ht rfl))) (oi e8)) rfl rfl rfl ?_
          exact j_to (.cons (.of_lk rfl) <| .cons (.of_lk rfl) <| .cons (.of_lk rfl) <| .nil) (.cons .here <| .nil) (J ())
    · rcases bool_tf (y1) with e4 | e4
      · replace e5 := bt e4 e5
        refine j_guard_no2 (j := 7) (want := false) rfl rfl rfl rfl (bl_isx e4) rfl rfl rfl ?_
        refine j_guard_no2 (j := 7) (want := false) rfl rfl rfl rfl (bl_isx e4) rfl rfl rfl ?_
        refine j_guard_no2 (j := 7) (want := false) rfl rfl rfl rfl (bl_isx e4) rfl rfl rfl ?_
        refine jp (PJ.eqv (R := bl) (pj_pick (t := any) (ht rfl) (fun _ => has_bl) (fun he => absurd (e4.symm.trans he) (by decide))) (oi e5)) rfl rfl rfl ?_
        exact j_to (.cons (.of_lk rfl) <| .cons (.of_lk rfl) <| .cons (.of_lk rfl) <| .nil) (.cons .here <| .nil) (J ())
      · replace e5 := bf e4 e5
        refine jy (pl (ht rfl) (by kernel_rfl)) rfl rfl rfl rfl (bl_isx e4) rfl rfl ?_
        obtain ⟨r2, e6, e5⟩ := bind_some e5
        refine jy (pj_call (hc (ht rfl) <| hasL_nil) (by kernel_rfl) (c_rolodexref17_Is e6)) rfl rfl rfl rfl (bl_isx e4) rfl rfl ?_
        refine jy (pj_not (ht rfl)) rfl rfl rfl rfl (bl_isx e4) rfl rfl ?_
        refine jp (PJ.eqv (R := bl) (pj_pick (t := any) (ht rfl) (fun he => absurd (e4.symm.trans he) (by decide)) (fun _ => (ht rfl))) (oi e5)) rfl rfl rfl ?_
        exact j_to (.cons (.of_lk rfl) <| .cons (.of_lk rfl) <| .cons (.of_lk rfl) <| .nil) (.cons .here <| .nil) (J ())
  · rcases bool_tf (!r1) with e2 | e2
    · replace e3 := bt e2 e3
      refine j_guard_no2 (j := 2) (want := false) rfl rfl rfl rfl (bl_isx e2) rfl rfl rfl ?_
      refine j_guard_no2 (j := 2) (want := false) rfl rfl rfl rfl (bl_isx e2) rfl rfl rfl ?_
      refine j_guard_no2 (j := 2) (want := false) rfl rfl rfl rfl (bl_isx e2) rfl rfl rfl ?_
      refine jp (PJ.eqv (R := bl) (pj_pick (t := any) (ht rfl) (fun _ => has_bl) (fun he => absurd (e2.symm.trans he) (by decide))) (oi e3)) rfl rfl rfl ?_
      exact j_to (.cons (.of_lk rfl) <| .cons (.of_lk rfl) <| .cons (.of_lk rfl) <| .nil) (.cons .here <| .nil) (J ())
    · replace e3 := bf e2 e3
      refine jy (pm (ht rfl)) rfl rfl rfl rfl (bl_isx e2) rfl rfl ?_
      refine jy (pj_len_sl (sz := 1) (ht rfl) (by kernel_rfl)) rfl rfl rfl rfl (bl_isx e2) rfl rfl ?_
      refine jy (pj_igtr (ht rfl) has_i64) rfl rfl rfl rfl (bl_isx e2) rfl rfl ?_
      refine jp (PJ.eqv (R := bl) (pj_pick (t := any) (ht rfl) (fun he => absurd (e2.symm.trans he) (by decide)) (fun _ => (ht rfl))) (oi e3)) rfl rfl rfl ?_
      exact j_to (.cons (.of_lk rfl) <| .cons (.of_lk rfl) <| .cons (.of_lk rfl) <| .nil) (.cons .here <| .nil) (J ())
end Go.Sl.W
