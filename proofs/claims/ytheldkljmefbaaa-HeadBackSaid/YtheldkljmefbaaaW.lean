import Derived.Test.YtheldkljmefbaaaM
import Derived.Test.YtheldkljmefbaaaOp14
import Derived.Test.YtheldkljmefbaaaProg
set_option linter.unusedSimpArgs false
set_option linter.unusedVariables false
set_option linter.unusedSectionVars false
namespace Go.Sl.W
open Go.Proofs Go.Sl Go.Sl.M
abbrev R_api_Hash : Rep T_api_Hash := vec 32 u8
abbrev R_head_Head : Rep T_head_Head := (prod i64 (prod i64 (prod R_api_Hash R_api_Hash)))
abbrev R_wire_Reader : Rep T_wire_Reader := (prod (sl u8) bl)
abbrev R_rolodexref17_Head : Rep T_rolodexref17_Head := (prod i64 (prod i64 (prod R_api_Hash R_api_Hash)))

set_option maxRecDepth 100000 in
set_option maxHeartbeats 4000000 in
theorem c_slices_Clone_byte_byte {G : GP} {p_s : List (BitVec 8)} {r : (List (BitVec 8))} (h : slices_Clone_byte_byte p_s = some r) : Ctr Try.prog G 26 [(sl u8).slot p_s] [] (fun (u0 : Value) => ov u0) (fun (u0 : Value) => [own 5 u8 u0 r]) := by
  unfold slices_Clone_byte_byte at h
  refine ctr_of_run Try.func26 rfl 8 rfl rfl fun m0 w0 b0 => ?_
  show Run _ _ _ [(0, (sl u8).slot p_s)] _
  refine run_seq ?_
  refine run_text ?_
  refine j_assign_nil (T := 5) u8 rfl fun v1 => ?_
  refine j_end ?_
  refine run_seq ?_
  refine run_seq ?_
  refine run_text ?_
  refine j_pure (pj_move (has_tmp rfl)) rfl rfl rfl ?_
  refine j_pure (pj_isnil (E := 5) (by kernel_rfl) (has_tmp rfl)) rfl rfl rfl ?_
  refine j_end ?_
  refine run_cond_nil (has_tmp rfl) (fun e0 => ?_) ?_
  · subst e0
    obtain ⟨e1, h⟩ := grd_some h
    obtain rfl := Option.some.inj h
    refine run_seq ?_
    refine run_text ?_
    refine j_assign_nil (T := 5) u8 rfl fun v2 => ?_
    refine j_end ?_
    exact run_ret fun a w hst => q_ret1 hst rfl (.tmp rfl) v2 (fun _ _ h => h) (.cons .here <| .nil)
  refine run_skip ?_
  refine run_seq ?_
  refine run_text ?_
  refine j_buildSlice (T := 5) (R := u8) .nil rfl (by kernel_rfl) (by kernel_rfl) rfl fun v2 => ?_
  refine j_pure (pj_move (has_tmp rfl)) rfl rfl rfl ?_
  obtain ⟨e1, h⟩ := grd_some h
  refine j_append (T := 5) (E := 5) (has_tmp rfl) .here (src_data (has_tmp rfl)) (by kernel_rfl) (by kernel_rfl) e1 rfl fun v3 => ?_
  refine j_pure (pj_assign (has_tmp rfl)) rfl rfl rfl ?_
  refine j_end ?_
  obtain rfl := Option.some.inj h
  exact run_ret fun a w hst => q_ret1 hst rfl (.tmp rfl) v3 (fun _ _ h => h) (.cons .here <| .nil)
set_option maxRecDepth 100000 in
set_option maxHeartbeats 4000000 in
theorem c_wire_Writer_Out {G : GP} {p_w : (List (BitVec 8)) × Bool} {b_w : Nat} {v_w0 : Value} {r : ((List (BitVec 8)) × Bool) × (List (BitVec 8)) × Int} (h : wire_Writer_Out p_w = some r) : Ctr Try.prog G 10 [val (.pointer (some ⟨b_w, 0, none⟩))] [box b_w 40 (prod (exv v_w0) bl) ((), p_w.2), own 5 u8 v_w0 p_w.1] (fun (i : Value × Value) => tup [ov i.2, i64.slot r.2.2]) (fun (i : Value × Value) => [box b_w 40 (prod (exv i.1) bl) ((), r.1.2), own 5 u8 i.1 r.1.1, own 5 u8 i.2 r.2.1]) := by
  unfold wire_Writer_Out at h
  refine ctr_of_run Try.func10 rfl 17 rfl rfl fun m0 w0 b0 => ?_
  show Run _ _ _ [(0, val (.pointer (some ⟨b_w, 0, none⟩)))] _
  refine run_seq ?_
  refine run_text ?_
  refine j_assign_nil (T := 5) u8 rfl fun v1 => ?_
  refine j_pure (pj_assign has_i64) rfl rfl rfl ?_
  refine j_end ?_
  refine run_seq ?_
  refine run_block ?_
  refine run_seq ?_
  refine run_text ?_
  refine j_pure (pj_move (has_tmp rfl)) rfl rfl rfl ?_
  refine j_pure (pj_eq_nil_val (E := 40) (by kernel_rfl) (has_tmp rfl)) rfl rfl rfl ?_
  refine j_pure (pj_assign (has_tmp rfl)) rfl rfl rfl ?_
  refine j_end ?_
  refine run_cond_f (has_tmp rfl) rfl ?_
  refine run_seq ?_
  refine run_text ?_
  refine j_pure (pj_move (has_tmp rfl)) rfl rfl rfl ?_
  refine j_pure (pj_nilCheck_ptr (has_tmp rfl)) rfl rfl rfl ?_
  refine j_pure (pj_field_ptr (off := 1) (has_tmp rfl) (by kernel_rfl)) rfl rfl rfl ?_
  refine j_pure (pj_load_box (has_tmp rfl) (.next .here) (Path.then (Path.all (prod (exv v_w0) bl)) (Path.snd (exv v_w0) bl)) (by kernel_rfl)) rfl rfl rfl ?_
  refine j_pure (pj_assign (has_tmp rfl)) rfl rfl rfl ?_
  refine j_end ?_
  refine run_cond (has_tmp rfl) (fun e2 => ?_) (fun e2 => ?_)
  · replace h := bt e2 h
    refine run_seq ?_
    refine run_text ?_
    refine j_assign_nil (T := 5) u8 rfl fun v2 => ?_
    refine j_pure (pj_assign has_i64) rfl rfl rfl ?_
    refine j_end ?_
    obtain rfl := Option.some.inj h
    exact run_ret fun a w hst => q_retN hst rfl (.cons (.tmp rfl) <| .cons (.tmp rfl) <| .nil) rfl (v_w0, v2) (fun _ _ h => h) (.cons (.next (.next .here)) <| .cons (.next (.next .here)) <| .cons .here <| .nil)
  · replace h := bf e2 h
    refine run_skip ?_
    refine run_endblock ?_
    refine run_seq ?_
    refine run_text ?_
    refine j_pure (pj_move (has_tmp rfl)) rfl rfl rfl ?_
    refine j_pure (pj_nilCheck_ptr (has_tmp rfl)) rfl rfl rfl ?_
    refine j_pure (pj_field_ptr (off := 0) (has_tmp rfl) (by kernel_rfl)) rfl rfl rfl ?_
    refine j_pure (pj_load_box (has_tmp rfl) (.next .here) (Path.then (Path.all (prod (exv v_w0) bl)) (Path.fst (exv v_w0) bl)) (by kernel_rfl)) rfl rfl rfl ?_
    obtain ⟨r1, e3, h⟩ := bind_some h
    refine j_callB (hasBL_cons (hasB_own (has_tmp rfl) (.next (.next .here))) <| hasBL_nil) (by kernel_rfl) (c_slices_Clone_byte_byte e3) (fun i => Rep.flat_slot (flat_exv i) _) (fun i e he => by rw [List.mem_singleton.1 he]; exact own_flat (flat_un _ _) _ _) rfl fun v3 => ?_
    refine j_pure (pj_assign (has_tmp rfl)) rfl rfl rfl ?_
    refine j_pure (pj_assign has_i64) rfl rfl rfl ?_
    refine j_end ?_
    obtain rfl := Option.some.inj h
    exact run_ret fun a w hst => q_retN hst rfl (.cons (.tmp rfl) <| .cons (.tmp rfl) <| .nil) rfl (v_w0, v3) (fun _ _ h => h) (.cons (.next (.next .here)) <| .cons (.next (.next .here)) <| .cons .here <| .nil)
set_option maxRecDepth 100000 in
set_option maxHeartbeats 4000000 in
theorem c_head_Head_is {G : GP} {p_h : T_head_Head} {r : Bool} (h : head_Head_is p_h = some r) : Ctr Try.prog G 19 [R_head_Head.slot p_h] [] (fun (_ : Unit) => bl.slot r) (fun (_ : Unit) => []) := by
  unfold head_Head_is at h
  refine ctr_of_run Try.func19 rfl 21 rfl rfl fun m0 w0 b0 => ?_
  show Run _ _ _ [(0, R_head_Head.slot p_h)] _
  refine run_seq ?_
  refine run_text ?_
  refine j_pure (pj_box_to (has_tmp rfl)) rfl rfl rfl ?_
  refine j_pure (pj_assign has_bl) rfl rfl rfl ?_
  refine j_end ?_
  refine run_seq ?_
  refine run_text ?_
  refine j_pure (pj_field_to (has_tmp rfl) (Path.fst i64 (prod i64 (prod R_api_Hash R_api_Hash))) (by kernel_rfl)) rfl rfl rfl ?_
  refine j_pure (pj_load_to (has_tmp rfl) (by kernel_rfl)) rfl rfl rfl ?_
  refine j_pure (pj_igeq (has_tmp rfl) has_i64) rfl rfl rfl ?_
  refine j_pure (pj_move (has_tmp rfl)) rfl rfl rfl ?_
  obtain ⟨y1, e2, h⟩ := bind_some h
  refine j_joinx (ι := Unit) (Γ' := fun _ => [(1, ptrTo R_head_Head p_h), (10, bl.slot y1)]) (H' := fun _ => []) 4 ?_ fun J => ?_
  · intro _
    clear e2
    show OpsJ _ _ _ [(1, ptrTo R_head_Head p_h), (10, bl.slot y1)] [] _
    refine j_pure (pj_move (has_tmp rfl)) rfl rfl rfl ?_
    obtain ⟨y2, e4, h⟩ := bind_some h
    refine j_joinx (ι := Unit) (Γ' := fun _ => [(1, ptrTo R_head_Head p_h), (15, bl.slot y2)]) (H' := fun _ => []) 4 ?_ fun J => ?_
    · intro _
      clear e4
      show OpsJ _ _ _ [(1, ptrTo R_head_Head p_h), (15, bl.slot y2)] [] _
      refine j_pure (pj_move (has_tmp rfl)) rfl rfl rfl ?_
      obtain ⟨y3, e6, h⟩ := bind_some h
      refine j_joinx (ι := Unit) (Γ' := fun _ => [(20, bl.slot y3)]) (H' := fun _ => []) 4 ?_ fun J => ?_
      · intro _
        clear e6
        show OpsJ _ _ _ [(20, bl.slot y3)] [] _
        refine j_pure (pj_assign (has_tmp rfl)) rfl rfl rfl ?_
        refine j_end ?_
        obtain rfl := Option.some.inj h
        exact run_ret fun a w hst => q_ret1 hst rfl (.tmp rfl) () (fun _ _ h => h) (.nil)
      · rcases bool_tf (y2) with e5 | e5
        · replace e6 := bt e5 e6
          refine j_pure_y (pj_field_to (has_tmp rfl) (Path.then (Path.snd i64 (prod i64 (prod R_api_Hash R_api_Hash))) (Path.fst i64 (prod R_api_Hash R_api_Hash))) (by kernel_rfl)) rfl rfl rfl rfl (bl_isx e5) rfl rfl ?_
          refine j_pure_y (pj_load_to (has_tmp rfl) (by kernel_rfl)) rfl rfl rfl rfl (bl_isx e5) rfl rfl ?_
          refine j_pure_y (pj_ilss (has_tmp rfl) has_i64) rfl rfl rfl rfl (bl_isx e5) rfl rfl ?_
          refine j_pure (PJ.eqv (R := bl) (pj_pick (t := any) (has_tmp rfl) (fun _ => (has_tmp rfl)) (fun he => absurd (e5.symm.trans he) (by decide))) (Option.some.inj e6)) rfl rfl rfl ?_
          exact j_to (.cons (.of_lk rfl) <| .nil) (.nil) (J ())
        · replace e6 := bf e5 e6
          refine j_guard_no2 (j := 13) (want := true) rfl rfl rfl rfl (bl_isx e5) rfl rfl rfl ?_
          refine j_guard_no2 (j := 13) (want := true) rfl rfl rfl rfl (bl_isx e5) rfl rfl rfl ?_
          refine j_guard_no2 (j := 13) (want := true) rfl rfl rfl rfl (bl_isx e5) rfl rfl rfl ?_
          refine j_pure (PJ.eqv (R := bl) (pj_pick (t := any) (has_tmp rfl) (fun he => absurd (e5.symm.trans he) (by decide)) (fun _ => has_bl)) (Option.some.inj e6)) rfl rfl rfl ?_
          exact j_to (.cons (.of_lk rfl) <| .nil) (.nil) (J ())
    · rcases bool_tf (y1) with e3 | e3
      · replace e4 := bt e3 e4
        refine j_pure_y (pj_field_to (has_tmp rfl) (Path.then (Path.snd i64 (prod i64 (prod R_api_Hash R_api_Hash))) (Path.fst i64 (prod R_api_Hash R_api_Hash))) (by kernel_rfl)) rfl rfl rfl rfl (bl_isx e3) rfl rfl ?_
        refine j_pure_y (pj_load_to (has_tmp rfl) (by kernel_rfl)) rfl rfl rfl rfl (bl_isx e3) rfl rfl ?_
        refine j_pure_y (pj_igeq (has_tmp rfl) has_i64) rfl rfl rfl rfl (bl_isx e3) rfl rfl ?_
        refine j_pure (PJ.eqv (R := bl) (pj_pick (t := any) (has_tmp rfl) (fun _ => (has_tmp rfl)) (fun he => absurd (e3.symm.trans he) (by decide))) (Option.some.inj e4)) rfl rfl rfl ?_
        exact j_to (.cons (.of_lk rfl) <| .cons (.of_lk rfl) <| .nil) (.nil) (J ())
      · replace e4 := bf e3 e4
        refine j_guard_no2 (j := 8) (want := true) rfl rfl rfl rfl (bl_isx e3) rfl rfl rfl ?_
        refine j_guard_no2 (j := 8) (want := true) rfl rfl rfl rfl (bl_isx e3) rfl rfl rfl ?_
        refine j_guard_no2 (j := 8) (want := true) rfl rfl rfl rfl (bl_isx e3) rfl rfl rfl ?_
        refine j_pure (PJ.eqv (R := bl) (pj_pick (t := any) (has_tmp rfl) (fun he => absurd (e3.symm.trans he) (by decide)) (fun _ => has_bl)) (Option.some.inj e4)) rfl rfl rfl ?_
        exact j_to (.cons (.of_lk rfl) <| .cons (.of_lk rfl) <| .nil) (.nil) (J ())
  · rcases bool_tf (decide ((1 : Int) ≤ p_h.1)) with e1 | e1
    · replace e2 := bt e1 e2
      refine j_pure_y (pj_field_to (has_tmp rfl) (Path.fst i64 (prod i64 (prod R_api_Hash R_api_Hash))) (by kernel_rfl)) rfl rfl rfl rfl (bl_isx e1) rfl rfl ?_
      refine j_pure_y (pj_load_to (has_tmp rfl) (by kernel_rfl)) rfl rfl rfl rfl (bl_isx e1) rfl rfl ?_
      refine j_pure_y (pj_ilss (has_tmp rfl) has_i64) rfl rfl rfl rfl (bl_isx e1) rfl rfl ?_
      refine j_pure (PJ.eqv (R := bl) (pj_pick (t := any) (has_tmp rfl) (fun _ => (has_tmp rfl)) (fun he => absurd (e1.symm.trans he) (by decide))) (Option.some.inj e2)) rfl rfl rfl ?_
      exact j_to (.cons (.of_lk rfl) <| .cons (.of_lk rfl) <| .nil) (.nil) (J ())
    · replace e2 := bf e1 e2
      refine j_guard_no2 (j := 3) (want := true) rfl rfl rfl rfl (bl_isx e1) rfl rfl rfl ?_
      refine j_guard_no2 (j := 3) (want := true) rfl rfl rfl rfl (bl_isx e1) rfl rfl rfl ?_
      refine j_guard_no2 (j := 3) (want := true) rfl rfl rfl rfl (bl_isx e1) rfl rfl rfl ?_
      refine j_pure (PJ.eqv (R := bl) (pj_pick (t := any) (has_tmp rfl) (fun he => absurd (e1.symm.trans he) (by decide)) (fun _ => has_bl)) (Option.some.inj e2)) rfl rfl rfl ?_
      exact j_to (.cons (.of_lk rfl) <| .cons (.of_lk rfl) <| .nil) (.nil) (J ())
set_option maxRecDepth 100000 in
set_option maxHeartbeats 4000000 in
theorem c_wire_Writer_number {G : GP} {p_w : (List (BitVec 8)) × Bool} {p_x : BitVec 64} {p_bytes : Int} {b_w : Nat} {v_w0 : Value} {r : ((List (BitVec 8)) × Bool)} (h : wire_Writer_number p_w p_x p_bytes = some r) : Ctr Try.prog G 32 [val (.pointer (some ⟨b_w, 0, none⟩)), u64.slot p_x, i64.slot p_bytes] [box b_w 40 (prod (exv v_w0) bl) ((), p_w.2), own 5 u8 v_w0 p_w.1] (fun (u0 : Value) => tup []) (fun (u0 : Value) => [box b_w 40 (prod (exv u0) bl) ((), r.2), own 5 u8 u0 r.1]) := by
  unfold wire_Writer_number at h
  refine ctr_of_run Try.func32 rfl 35 rfl rfl fun m0 w0 b0 => ?_
  show Run _ _ _ [(0, val (.pointer (some ⟨b_w, 0, none⟩))), (1, u64.slot p_x), (2, i64.slot p_bytes)] _
  refine run_seq ?_
  refine run_seq ?_
  refine run_text ?_
  refine j_pure (pj_move (has_tmp rfl)) rfl rfl rfl ?_
  refine j_pure (pj_eq_nil_val (E := 40) (by kernel_rfl) (has_tmp rfl)) rfl rfl rfl ?_
  refine j_pure (pj_move (has_tmp rfl)) rfl rfl rfl ?_
  obtain ⟨y1, e2, h⟩ := bind_some h
  refine j_joinx (ι := Unit) (Γ' := fun _ => [(0, val (.pointer (some ⟨b_w, 0, none⟩))), (1, u64.slot p_x), (2, i64.slot p_bytes), (14, bl.slot y1)]) (H' := fun _ => [box b_w 40 (prod (exv v_w0) bl) ((), p_w.2), own 5 u8 v_w0 p_w.1]) 5 ?_ fun J => ?_
  · intro _
    clear e2
    show OpsJ _ _ _ [(0, val (.pointer (some ⟨b_w, 0, none⟩))), (1, u64.slot p_x), (2, i64.slot p_bytes), (14, bl.slot y1)] [box b_w 40 (prod (exv v_w0) bl) ((), p_w.2), own 5 u8 v_w0 p_w.1] _
    refine j_end ?_
    refine run_cond (has_tmp rfl) (fun e3 => ?_) (fun e3 => ?_)
    · replace h := bt e3 h
      obtain rfl := Option.some.inj h
      exact run_ret fun a w hst => q_retN hst rfl (.nil) rfl v_w0 (fun _ _ h => h) (.cons .here <| .cons .here <| .nil)
    · replace h := bf e3 h
      refine run_skip ?_
      refine run_seq ?_
      refine run_text ?_
      refine j_pure (pj_move (has_tmp rfl)) rfl rfl rfl ?_
      refine j_pure (pj_isub (has_tmp rfl) has_i64) rfl rfl rfl ?_
      refine j_pure (pj_assign (has_tmp rfl)) rfl rfl rfl ?_
      refine j_end ?_
      obtain ⟨⟨y4, y5⟩, e7, h⟩ := bind_some h
      refine run_loopS (Γi := fun (i : Value) (s : Int × (List (BitVec 8))) => [(0, val (.pointer (some ⟨b_w, 0, none⟩))), (1, u64.slot p_x), (6, i64.slot s.1)]) (Hi := fun (i : Value) (s : Int × (List (BitVec 8))) => [box b_w 40 (prod (exv i) bl) ((), p_w.2), own 5 u8 i s.2]) e7 v_w0 (fun a w hst => (hst.sub (.cons (.of_lk rfl) <| .cons (.of_lk rfl) <| .cons (.of_lk rfl) <| .nil)).keep (.cons .here <| .cons .here <| .nil)) ?_ ?_
      · clear h e7
        rintro v1 ⟨y2, y3⟩ lr h
        change wire_Writer_number_L1 p_x y2 y3 = some _ at h
        show Run _ _ _ [(0, val (.pointer (some ⟨b_w, 0, none⟩))), (1, u64.slot p_x), (6, i64.slot y2)] [box b_w 40 (prod (exv v1) bl) ((), p_w.2), own 5 u8 v1 y3]
        unfold wire_Writer_number_L1 at h
        refine run_seq ?_
        refine run_seq ?_
        refine run_text ?_
        refine j_pure (pj_move (has_tmp rfl)) rfl rfl rfl ?_
        refine j_pure (pj_igeq (has_tmp rfl) has_i64) rfl rfl rfl ?_
        refine j_end ?_
        refine run_cond (has_tmp rfl) (fun e4 => ?_) (fun e4 => ?_)
        · replace h := bt e4 h
          refine run_skip ?_
          refine run_seq ?_
          refine run_block ?_
          obtain ⟨e5, h⟩ := grd_some h
          obtain ⟨e6, h⟩ := grd_some h
          refine run_keep (H' := [own 5 u8 v1 y3, box b_w 40 (prod (exv v1) bl) ((), p_w.2)]) (.cons (.next .here) <| .cons .here <| .nil) ?_
          refine run_drawL (n := 12) (H := [box b_w 40 (prod (exv v1) bl) ((), p_w.2)]) (Ls := [⟨[own 5 u8 v1 y3], [(11, ⟨Value, fun (v2 : Value) => [own 5 u8 v2 (y3 ++ ([(p_x >>> ((w64 ((8 : Int) * y2)).toNat)).setWidth 8]))], fun (v2 : Value) => [(32, ov v2)]⟩)]⟩]) (by kernel_rfl) (by kernel_rfl) (by kernel_rfl) (by kernel_rfl) (by kernel_rfl) rfl (.read rfl (.plain rfl (pj_move (has_tmp rfl))) <| .read rfl (.plain rfl (pj_move (has_tmp rfl))) <| .read rfl (.plain rfl (pj_nilCheck_ptr (has_tmp rfl))) <| .read rfl (.plain rfl (pj_field_ptr (off := 0) (has_tmp rfl) (by kernel_rfl))) <| .read rfl (.plain rfl (pj_load_box (has_tmp rfl) .here (Path.then (Path.all (prod (exv v1) bl)) (Path.fst (exv v1) bl)) (by kernel_rfl))) <| .read rfl (.plain rfl (pj_move (has_tmp rfl))) <| .read rfl (.plain rfl (pj_move (has_tmp rfl))) <| .read rfl (.plain rfl (pj_imul has_i64 (has_tmp rfl))) <| .read rfl (.plain rfl (pj_ushr (k := .u64) (b := 64) rfl (has_tmp rfl) (has_tmp rfl) isInt_i64 e5)) <| .read rfl (.plain rfl (pj_conv_uu (k := .u8) (b := 8) rfl rfl (by kernel_rfl) (has_tmp rfl))) <| .read rfl (.plain rfl (pj_buildSlice (T := 5) (R := u8) (.cons (has_tmp rfl) .nil) rfl (by kernel_rfl) (by kernel_rfl))) <| .step 0 rfl .here (.inl rfl) (fun i => ⟨_, _, fun j => j, (w_append (T := 5) (E := 5) (has_tmp rfl) .here (src_data (has_tmp rfl)) (by kernel_rfl) (by kernel_rfl) e6 rfl), fun _ => rfl, slotAny, dst1⟩) <| .nil) ?_
          rintro v2
          refine j_to (Γ' := [(0, val (.pointer (some ⟨b_w, 0, none⟩))), (1, u64.slot p_x), (6, i64.slot y2), (21, val (.pointer (some ⟨b_w, 0, none⟩))), (32, ov v2)]) (H' := [own 5 u8 v2 (y3 ++ ([(p_x >>> ((w64 ((8 : Int) * y2)).toNat)).setWidth 8])), box b_w 40 (prod (exv v1) bl) ((), p_w.2)]) (.cons (.of_lk rfl) <| .cons (.of_lk rfl) <| .cons (.of_lk rfl) <| .cons (.of_lk rfl) <| .cons (.of_lk rfl) <| .nil) (.cons .here <| .cons .here <| .nil) ?_
          refine j_pure (pj_nilCheck_ptr (has_tmp rfl)) rfl rfl rfl ?_
          refine j_pure (pj_field_ptr (off := 0) (has_tmp rfl) (by kernel_rfl)) rfl rfl rfl ?_
          refine j_store_exv (has_tmp rfl) (has_tmp rfl) (.next .here) (by kernel_rfl) ?_
          refine j_end ?_
          refine run_endblock ?_
          refine run_text ?_
          refine j_pure (pj_move (has_tmp rfl)) rfl rfl rfl ?_
          refine j_pure (pj_isub (has_tmp rfl) has_i64) rfl rfl rfl ?_
          refine j_pure (pj_assign (has_tmp rfl)) rfl rfl rfl ?_
          refine j_end ?_
          obtain rfl := Option.some.inj h
          exact run_next v2 (.cons (.of_lk rfl) <| .cons (.of_lk rfl) <| .cons (.of_lk rfl) <| .nil) (.cons .here <| .cons .here <| .nil)
        · replace h := bf e4 h
          obtain rfl := Option.some.inj h
          exact run_brk v1 (.cons (.of_lk rfl) <| .cons (.of_lk rfl) <| .cons (.of_lk rfl) <| .nil) (.cons .here <| .cons .here <| .nil)
      · rintro v3
        show Run _ _ _ [(0, val (.pointer (some ⟨b_w, 0, none⟩))), (1, u64.slot p_x), (6, i64.slot y4)] [box b_w 40 (prod (exv v3) bl) ((), p_w.2), own 5 u8 v3 y5]
        refine run_to (Γ' := []) (H' := [box b_w 40 (prod (exv v3) bl) ((), p_w.2), own 5 u8 v3 y5]) (.nil) (.cons .here <| .cons .here <| .nil) ?_
        obtain rfl := Option.some.inj h
        exact run_nil fun a w hst => q_retN_n hst rfl (.nil) rfl v3 (fun _ _ h => h) (.cons .here <| .cons .here <| .nil)
  · have e1 : (false) = false := rfl
    refine j_pure_y (pj_move (has_tmp rfl)) rfl rfl rfl rfl (bl_isx e1) rfl rfl ?_
    refine j_pure_y (pj_nilCheck_ptr (has_tmp rfl)) rfl rfl rfl rfl (bl_isx e1) rfl rfl ?_
    refine j_pure_y (pj_field_ptr (off := 1) (has_tmp rfl) (by kernel_rfl)) rfl rfl rfl rfl (bl_isx e1) rfl rfl ?_
    refine j_pure_y (pj_load_box (has_tmp rfl) .here (Path.then (Path.all (prod (exv v_w0) bl)) (Path.snd (exv v_w0) bl)) (by kernel_rfl)) rfl rfl rfl rfl (bl_isx e1) rfl rfl ?_
    refine j_pure (PJ.eqv (R := bl) (pj_pick (t := any) (has_tmp rfl) (fun he => absurd (e1.symm.trans he) (by decide)) (fun _ => (has_tmp rfl))) (Option.some.inj e2)) rfl rfl rfl ?_
    exact j_to (.cons (.of_lk rfl) <| .cons (.of_lk rfl) <| .cons (.of_lk rfl) <| .cons (.of_lk rfl) <| .nil) (.cons .here <| .cons .here <| .nil) (J ())
set_option maxRecDepth 100000 in
set_option maxHeartbeats 4000000 in
theorem c_wire_Writer_U32 {G : GP} {p_w : (List (BitVec 8)) × Bool} {p_x : BitVec 32} {b_w : Nat} {v_w0 : Value} {r : ((List (BitVec 8)) × Bool)} (h : wire_Writer_U32 p_w p_x = some r) : Ctr Try.prog G 20 [val (.pointer (some ⟨b_w, 0, none⟩)), u32.slot p_x] [box b_w 40 (prod (exv v_w0) bl) ((), p_w.2), own 5 u8 v_w0 p_w.1] (fun (u0 : Value) => tup []) (fun (u0 : Value) => [box b_w 40 (prod (exv u0) bl) ((), r.2), own 5 u8 u0 r.1]) := by
  unfold wire_Writer_U32 at h
  refine ctr_of_run Try.func20 rfl 8 rfl rfl fun m0 w0 b0 => ?_
  show Run _ _ _ [(0, val (.pointer (some ⟨b_w, 0, none⟩))), (1, u32.slot p_x)] _
  refine run_text ?_
  refine j_pure (pj_move (has_tmp rfl)) rfl rfl rfl ?_
  refine j_pure (pj_move (has_tmp rfl)) rfl rfl rfl ?_
  refine j_pure (pj_conv_uu (k := .u64) (b := 64) rfl rfl (by kernel_rfl) (has_tmp rfl)) rfl rfl rfl ?_
  obtain ⟨r1, e1, h⟩ := bind_some h
  refine j_call (hasL_cons (has_tmp rfl) <| hasL_cons (has_tmp rfl) <| hasL_cons has_i64 <| hasL_nil) (by kernel_rfl) (c_wire_Writer_number e1) (.cons .here <| .cons .here <| .nil) rfl fun v1 => ?_
  refine j_end ?_
  obtain rfl := Option.some.inj h
  exact run_nil fun a w hst => q_retN_n hst rfl (.nil) rfl v1 (fun _ _ h => h) (.cons .here <| .cons .here <| .nil)
set_option maxRecDepth 100000 in
set_option maxHeartbeats 4000000 in
theorem c_wire_Writer_Plain {G : GP} {p_w : (List (BitVec 8)) × Bool} {p_b : List (BitVec 8)} {b_w : Nat} {v_w0 : Value} {r : ((List (BitVec 8)) × Bool)} (h : wire_Writer_Plain p_w p_b = some r) : Ctr Try.prog G 21 [val (.pointer (some ⟨b_w, 0, none⟩)), (sl u8).slot p_b] [box b_w 40 (prod (exv v_w0) bl) ((), p_w.2), own 5 u8 v_w0 p_w.1] (fun (u0 : Value) => tup []) (fun (u0 : Value) => [box b_w 40 (prod (exv u0) bl) ((), r.2), own 5 u8 u0 r.1]) := by
  unfold wire_Writer_Plain at h
  refine ctr_of_run Try.func21 rfl 22 rfl rfl fun m0 w0 b0 => ?_
  show Run _ _ _ [(0, val (.pointer (some ⟨b_w, 0, none⟩))), (1, (sl u8).slot p_b)] _
  refine run_seq ?_
  refine run_text ?_
  refine j_pure (pj_move (has_tmp rfl)) rfl rfl rfl ?_
  refine j_pure (pj_ne_nil_val (E := 40) (by kernel_rfl) (has_tmp rfl)) rfl rfl rfl ?_
  refine j_pure (pj_move (has_tmp rfl)) rfl rfl rfl ?_
  obtain ⟨y1, e2, h⟩ := bind_some h
  refine j_joinx (ι := Unit) (Γ' := fun _ => [(0, val (.pointer (some ⟨b_w, 0, none⟩))), (1, (sl u8).slot p_b), (12, bl.slot y1)]) (H' := fun _ => [box b_w 40 (prod (exv v_w0) bl) ((), p_w.2), own 5 u8 v_w0 p_w.1]) 6 ?_ fun J => ?_
  · intro _
    clear e2
    show OpsJ _ _ _ [(0, val (.pointer (some ⟨b_w, 0, none⟩))), (1, (sl u8).slot p_b), (12, bl.slot y1)] [box b_w 40 (prod (exv v_w0) bl) ((), p_w.2), own 5 u8 v_w0 p_w.1] _
    refine j_end ?_
    refine run_cond (has_tmp rfl) (fun e3 => ?_) (fun e3 => ?_)
    · replace h := bt e3 h
      refine run_text ?_
      refine j_pure (pj_move (has_tmp rfl)) rfl rfl rfl ?_
      refine j_pure (pj_move (has_tmp rfl)) rfl rfl rfl ?_
      refine j_pure (pj_nilCheck_ptr (has_tmp rfl)) rfl rfl rfl ?_
      refine j_pure (pj_field_ptr (off := 0) (has_tmp rfl) (by kernel_rfl)) rfl rfl rfl ?_
      refine j_pure (pj_load_box (has_tmp rfl) .here (Path.then (Path.all (prod (exv v_w0) bl)) (Path.fst (exv v_w0) bl)) (by kernel_rfl)) rfl rfl rfl ?_
      refine j_pure (pj_move (has_tmp rfl)) rfl rfl rfl ?_
      obtain ⟨e4, h⟩ := grd_some h
      refine j_append (T := 5) (E := 5) (has_tmp rfl) (.next .here) (src_data (has_tmp rfl)) (by kernel_rfl) (by kernel_rfl) e4 rfl fun v1 => ?_
      refine j_pure (pj_nilCheck_ptr (has_tmp rfl)) rfl rfl rfl ?_
      refine j_pure (pj_field_ptr (off := 0) (has_tmp rfl) (by kernel_rfl)) rfl rfl rfl ?_
      refine j_store_exv (has_tmp rfl) (has_tmp rfl) (.next .here) (by kernel_rfl) ?_
      refine j_end ?_
      obtain rfl := Option.some.inj h
      exact run_nil fun a w hst => q_retN_n hst rfl (.nil) rfl v1 (fun _ _ h => h) (.cons .here <| .cons .here <| .nil)
    · replace h := bf e3 h
      refine run_skip ?_
      obtain rfl := Option.some.inj h
      exact run_nil fun a w hst => q_retN_n hst rfl (.nil) rfl v_w0 (fun _ _ h => h) (.cons .here <| .cons .here <| .nil)
  · have e1 : (true) = true := rfl
    refine j_pure_y (pj_move (has_tmp rfl)) rfl rfl rfl rfl (bl_isx e1) rfl rfl ?_
    refine j_pure_y (pj_nilCheck_ptr (has_tmp rfl)) rfl rfl rfl rfl (bl_isx e1) rfl rfl ?_
    refine j_pure_y (pj_field_ptr (off := 1) (has_tmp rfl) (by kernel_rfl)) rfl rfl rfl rfl (bl_isx e1) rfl rfl ?_
    refine j_pure_y (pj_load_box (has_tmp rfl) .here (Path.then (Path.all (prod (exv v_w0) bl)) (Path.snd (exv v_w0) bl)) (by kernel_rfl)) rfl rfl rfl rfl (bl_isx e1) rfl rfl ?_
    refine j_pure_y (pj_not (has_tmp rfl)) rfl rfl rfl rfl (bl_isx e1) rfl rfl ?_
    refine j_pure (PJ.eqv (R := bl) (pj_pick (t := any) (has_tmp rfl) (fun _ => (has_tmp rfl)) (fun he => absurd (e1.symm.trans he) (by decide))) (Option.some.inj e2)) rfl rfl rfl ?_
    exact j_to (.cons (.of_lk rfl) <| .cons (.of_lk rfl) <| .cons (.of_lk rfl) <| .nil) (.cons .here <| .cons .here <| .nil) (J ())
set_option maxRecDepth 100000 in
set_option maxHeartbeats 4000000 in
theorem c_head_Encode {G : GP} {p_h : T_head_Head} {r : (List (BitVec 8)) × Int} (h : head_Encode p_h = some r) : Ctr Try.prog G 6 [R_head_Head.slot p_h] [] (fun (u0 : Value) => tup [ov u0, i64.slot r.2]) (fun (u0 : Value) => [own 5 u8 u0 r.1]) := by
  unfold head_Encode at h
  refine ctr_of_run Try.func6 rfl 32 rfl rfl fun m0 w0 b0 => ?_
  show Run _ _ _ [(0, R_head_Head.slot p_h)] _
  refine run_seq ?_
  refine run_text ?_
  refine j_pure (pj_box_to (has_tmp rfl)) rfl rfl rfl ?_
  refine j_assign_nil (T := 5) u8 rfl fun v1 => ?_
  refine j_pure (pj_assign has_i64) rfl rfl rfl ?_
  refine j_end ?_
  refine run_seq ?_
  refine run_seq ?_
  refine run_text ?_
  refine j_pure (pj_load_to (has_tmp rfl) (by kernel_rfl)) rfl rfl rfl ?_
  obtain ⟨r1, e1, h⟩ := bind_some h
  refine j_pure (pj_call (hasL_cons (has_tmp rfl) <| hasL_nil) (by kernel_rfl) (c_head_Head_is e1)) rfl rfl rfl ?_
  refine j_pure (pj_not (has_tmp rfl)) rfl rfl rfl ?_
  refine j_end ?_
  refine run_cond (has_tmp rfl) (fun e2 => ?_) (fun e2 => ?_)
  · replace h := bt e2 h
    refine run_seq ?_
    refine run_text ?_
    refine j_assign_nil (T := 5) u8 rfl fun v2 => ?_
    refine j_pure (pj_assign has_i64) rfl rfl rfl ?_
    refine j_end ?_
    obtain rfl := Option.some.inj h
    exact run_ret fun a w hst => q_retN hst rfl (.cons (.tmp rfl) <| .cons (.tmp rfl) <| .nil) rfl v2 (fun _ _ h => h) (.cons .here <| .nil)
  · replace h := bf e2 h
    refine run_skip ?_
    refine run_seq ?_
    refine run_text ?_
    refine j_pure (pj_build (R := prod (exv (.slice none 0 0)) bl) (zero_prod zero_exv zero_bl) (by kernel_rfl) (by kernel_rfl) rfl .nil) rfl rfl rfl ?_
    refine j_box_w (T1 := 5) u8 (has_tmp rfl) rfl fun b1 v3 => ?_
    refine j_pure (pj_assign (has_tmp rfl)) rfl rfl rfl ?_
    refine j_end ?_
    refine run_seq ?_
    refine run_text ?_
    refine j_pure (pj_move (has_tmp rfl)) rfl rfl rfl ?_
    refine j_pure (pj_field_to (has_tmp rfl) (Path.fst i64 (prod i64 (prod R_api_Hash R_api_Hash))) (by kernel_rfl)) rfl rfl rfl ?_
    refine j_pure (pj_load_to (has_tmp rfl) (by kernel_rfl)) rfl rfl rfl ?_
    refine j_pure (pj_conv_un (k := .u32) (b := 32) rfl rfl (by kernel_rfl) (has_tmp rfl) isInt_i64) rfl rfl rfl ?_
    obtain ⟨r2, e3, h⟩ := bind_some h
    refine j_call (hasL_cons (has_tmp rfl) <| hasL_cons (has_tmp rfl) <| hasL_nil) (by kernel_rfl) (c_wire_Writer_U32 e3) (.cons (.next .here) <| .cons .here <| .nil) rfl fun v4 => ?_
    refine j_end ?_
    refine run_seq ?_
    refine run_text ?_
    refine j_pure (pj_move (has_tmp rfl)) rfl rfl rfl ?_
    refine j_pure (pj_field_to (has_tmp rfl) (Path.then (Path.snd i64 (prod i64 (prod R_api_Hash R_api_Hash))) (Path.fst i64 (prod R_api_Hash R_api_Hash))) (by kernel_rfl)) rfl rfl rfl ?_
    refine j_pure (pj_load_to (has_tmp rfl) (by kernel_rfl)) rfl rfl rfl ?_
    refine j_pure (pj_conv_un (k := .u32) (b := 32) rfl rfl (by kernel_rfl) (has_tmp rfl) isInt_i64) rfl rfl rfl ?_
    obtain ⟨r3, e4, h⟩ := bind_some h
    refine j_call (hasL_cons (has_tmp rfl) <| hasL_cons (has_tmp rfl) <| hasL_nil) (by kernel_rfl) (c_wire_Writer_U32 e4) (.cons .here <| .cons .here <| .nil) rfl fun v5 => ?_
    refine j_end ?_
    refine run_seq ?_
    refine run_text ?_
    refine j_pure (pj_move (has_tmp rfl)) rfl rfl rfl ?_
    refine j_pure (pj_field_to (has_tmp rfl) (Path.then (Path.snd i64 (prod i64 (prod R_api_Hash R_api_Hash))) (Path.then (Path.snd i64 (prod R_api_Hash R_api_Hash)) (Path.fst R_api_Hash R_api_Hash))) (by kernel_rfl)) rfl rfl rfl ?_
    refine j_pure (pj_slice_toF (has_tmp rfl) (by decide) (by kernel_rfl)) rfl rfl rfl ?_
    obtain ⟨r4, e5, h⟩ := bind_some h
    refine j_call (hasL_cons (has_tmp rfl) <| hasL_cons (has_tmp rfl) <| hasL_nil) (by kernel_rfl) (c_wire_Writer_Plain e5) (.cons .here <| .cons .here <| .nil) rfl fun v6 => ?_
    refine j_end ?_
    refine run_seq ?_
    refine run_text ?_
    refine j_pure (pj_move (has_tmp rfl)) rfl rfl rfl ?_
    refine j_pure (pj_field_to (has_tmp rfl) (Path.then (Path.snd i64 (prod i64 (prod R_api_Hash R_api_Hash))) (Path.then (Path.snd i64 (prod R_api_Hash R_api_Hash)) (Path.snd R_api_Hash R_api_Hash))) (by kernel_rfl)) rfl rfl rfl ?_
    refine j_pure (pj_slice_toF (has_tmp rfl) (by decide) (by kernel_rfl)) rfl rfl rfl ?_
    obtain ⟨r5, e6, h⟩ := bind_some h
    refine j_call (hasL_cons (has_tmp rfl) <| hasL_cons (has_tmp rfl) <| hasL_nil) (by kernel_rfl) (c_wire_Writer_Plain e6) (.cons .here <| .cons .here <| .nil) rfl fun v7 => ?_
    refine j_end ?_
    refine run_seq ?_
    refine run_text ?_
    refine j_pure (pj_move (has_tmp rfl)) rfl rfl rfl ?_
    obtain ⟨r6, e7, h⟩ := bind_some h
    refine j_call (hasL_cons (has_tmp rfl) <| hasL_nil) (by kernel_rfl) (c_wire_Writer_Out e7) (.cons .here <| .cons .here <| .nil) rfl fun ⟨v8, v9⟩ => ?_
    refine j_pure (pj_extract (has_tmp rfl) rfl) rfl rfl rfl ?_
    refine j_pure (pj_extract (has_tmp rfl) rfl) rfl rfl rfl ?_
    refine j_pure (pj_assign (has_tmp rfl)) rfl rfl rfl ?_
    refine j_pure (pj_assign (has_tmp rfl)) rfl rfl rfl ?_
    refine j_end ?_
    obtain rfl := Option.some.inj h
    exact run_ret fun a w hst => q_retN hst rfl (.cons (.tmp rfl) <| .cons (.tmp rfl) <| .nil) rfl v9 (fun _ _ h => h) (.cons (.next (.next .here)) <| .nil)
set_option maxRecDepth 100000 in
set_option maxHeartbeats 4000000 in
theorem c_rolodexlaw17_awake {G : GP} {r : Bool} (h : rolodexlaw17_awake = some r) : Ctr Try.prog G 5 [] [] (fun (_ : Unit) => bl.slot r) (fun (_ : Unit) => []) := by
  unfold rolodexlaw17_awake at h
  refine ctr_of_run Try.func5 rfl 15 rfl rfl fun m0 w0 b0 => ?_
  show Run _ _ _ [] _
  refine run_seq ?_
  refine run_text ?_
  refine j_pure (pj_assign has_bl) rfl rfl rfl ?_
  refine j_end ?_
  refine run_seq ?_
  refine run_text ?_
  obtain ⟨x1, e1, h⟩ := bind_some h
  refine j_pure (PJ.eqv (pj_build (R := R_head_Head) (zero_prod zero_i64 (zero_prod zero_i64 (zero_prod (zero_vec 32 zero_un) (zero_vec 32 zero_un)))) (by kernel_rfl) (by kernel_rfl) rfl (.cons has_i64 (Path.fst i64 (prod i64 (prod R_api_Hash R_api_Hash))) (by kernel_rfl) (.cons has_i64 (Path.then (Path.snd i64 (prod i64 (prod R_api_Hash R_api_Hash))) (Path.fst i64 (prod R_api_Hash R_api_Hash))) (by kernel_rfl) .nil))) (Option.some.inj e1)) rfl rfl rfl ?_
  obtain ⟨r1, e2, h⟩ := bind_some h
  refine j_pure (pj_call (hasL_cons (has_tmp rfl) <| hasL_nil) (by kernel_rfl) (Ctr.froze2 (c_head_Encode e2))) rfl rfl rfl ?_
  refine j_pure (pj_move (has_tmp rfl)) rfl rfl rfl ?_
  refine j_pure (pj_extract (has_tmp rfl) rfl) rfl rfl rfl ?_
  refine j_pure (pj_extract (has_tmp rfl) rfl) rfl rfl rfl ?_
  refine j_pure (pj_assign (has_tmp rfl)) rfl rfl rfl ?_
  refine j_pure (pj_assign (has_tmp rfl)) rfl rfl rfl ?_
  refine j_end ?_
  refine run_seq ?_
  refine run_text ?_
  refine j_pure (pj_move (has_tmp rfl)) rfl rfl rfl ?_
  refine j_pure (pj_ieql (has_tmp rfl) has_i64) rfl rfl rfl ?_
  refine j_pure (pj_move (has_tmp rfl)) rfl rfl rfl ?_
  obtain ⟨y1, e4, h⟩ := bind_some h
  refine j_joinx (ι := Unit) (Γ' := fun _ => [(14, bl.slot y1)]) (H' := fun _ => []) 4 ?_ fun J => ?_
  · intro _
    clear e4
    show OpsJ _ _ _ [(14, bl.slot y1)] [] _
    refine j_pure (pj_assign (has_tmp rfl)) rfl rfl rfl ?_
    refine j_end ?_
    obtain rfl := Option.some.inj h
    exact run_ret fun a w hst => q_ret1 hst rfl (.tmp rfl) () (fun _ _ h => h) (.nil)
  · rcases bool_tf (decide (r1.2 = (0 : Int))) with e3 | e3
    · replace e4 := bt e3 e4
      refine j_pure_y (pj_move (has_tmp rfl)) rfl rfl rfl rfl (bl_isx e3) rfl rfl ?_
      refine j_pure_y (pj_len_sl (sz := 1) (has_tmp rfl) (by kernel_rfl)) rfl rfl rfl rfl (bl_isx e3) rfl rfl ?_
      refine j_pure_y (pj_ieql (has_tmp rfl) has_i64) rfl rfl rfl rfl (bl_isx e3) rfl rfl ?_
      refine j_pure (PJ.eqv (R := bl) (pj_pick (t := any) (has_tmp rfl) (fun _ => (has_tmp rfl)) (fun he => absurd (e3.symm.trans he) (by decide))) (Option.some.inj e4)) rfl rfl rfl ?_
      exact j_to (.cons (.of_lk rfl) <| .nil) (.nil) (J ())
    · replace e4 := bf e3 e4
      refine j_guard_no2 (j := 2) (want := true) rfl rfl rfl rfl (bl_isx e3) rfl rfl rfl ?_
      refine j_guard_no2 (j := 2) (want := true) rfl rfl rfl rfl (bl_isx e3) rfl rfl rfl ?_
      refine j_guard_no2 (j := 2) (want := true) rfl rfl rfl rfl (bl_isx e3) rfl rfl rfl ?_
      refine j_pure (PJ.eqv (R := bl) (pj_pick (t := any) (has_tmp rfl) (fun he => absurd (e3.symm.trans he) (by decide)) (fun _ => has_bl)) (Option.some.inj e4)) rfl rfl rfl ?_
      exact j_to (.cons (.of_lk rfl) <| .nil) (.nil) (J ())
set_option maxRecDepth 100000 in
set_option maxHeartbeats 4000000 in
theorem c_wire_New {G : GP} {p_b : List (BitVec 8)} {r : ((List (BitVec 8)) × Bool)} (h : wire_New p_b = some r) : Ctr Try.prog G 12 [(sl u8).slot p_b] [] (fun (u0 : Nat) => val (.pointer (some ⟨u0, 0, none⟩))) (fun (u0 : Nat) => [box u0 66 (prod (sl u8) bl) (r.1, r.2)]) := by
  unfold wire_New at h
  refine ctr_of_run Try.func12 rfl 7 rfl rfl fun m0 w0 b0 => ?_
  show Run _ _ _ [(0, (sl u8).slot p_b)] _
  refine run_seq ?_
  refine run_text ?_
  refine j_pure (pj_assign (has_nilp (R := R_wire_Reader))) rfl rfl rfl ?_
  refine j_end ?_
  refine run_seq ?_
  refine run_text ?_
  refine j_pure (pj_move (has_tmp rfl)) rfl rfl rfl ?_
  obtain ⟨r1, e1, h⟩ := bind_some h
  refine j_pure (pj_call (hasL_cons (has_tmp rfl) <| hasL_nil) (by kernel_rfl) (Ctr.froze (c_slices_Clone_byte_byte e1))) rfl rfl rfl ?_
  obtain ⟨x1, e2, h⟩ := bind_some h
  refine j_pure (PJ.eqv (pj_build (R := R_wire_Reader) (zero_prod zero_sl zero_bl) (by kernel_rfl) (by kernel_rfl) rfl (.cons (has_tmp rfl) (Path.fst (sl u8) bl) (by kernel_rfl) .nil)) (Option.some.inj e2)) rfl rfl rfl ?_
  refine j_box (has_tmp rfl) rfl fun b1 => ?_
  refine j_pure (pj_assign (has_tmp rfl)) rfl rfl rfl ?_
  refine j_end ?_
  obtain rfl := Option.some.inj h
  exact run_ret fun a w hst => q_ret1 hst rfl (.tmp rfl) b1 (fun _ _ h => h) (.cons .here <| .nil)
set_option maxRecDepth 100000 in
set_option maxHeartbeats 4000000 in
theorem c_wire_Reader_takes {G : GP} {p_r : (List (BitVec 8)) × Bool} {p_n : Int} {b_r : Nat} {r : ((List (BitVec 8)) × Bool) × (List (BitVec 8))} (h : wire_Reader_takes p_r p_n = some r) : Ctr Try.prog G 34 [val (.pointer (some ⟨b_r, 0, none⟩)), i64.slot p_n] [box b_r 66 (prod (sl u8) bl) (p_r.1, p_r.2)] (fun (_ : Unit) => (sl u8).slot r.2) (fun (_ : Unit) => [box b_r 66 (prod (sl u8) bl) (r.1.1, r.1.2)]) := by
  unfold wire_Reader_takes at h
  refine ctr_of_run Try.func34 rfl 45 rfl rfl fun m0 w0 b0 => ?_
  show Run _ _ _ [(0, val (.pointer (some ⟨b_r, 0, none⟩))), (1, i64.slot p_n)] _
  refine run_seq ?_
  refine run_text ?_
  refine j_pure (pj_assign (has_nil (R := u8))) rfl rfl rfl ?_
  refine j_end ?_
  refine run_seq ?_
  refine run_seq ?_
  refine run_text ?_
  refine j_pure (pj_move (has_tmp rfl)) rfl rfl rfl ?_
  refine j_pure (pj_eq_nil_val (E := 66) (by kernel_rfl) (has_tmp rfl)) rfl rfl rfl ?_
  refine j_pure (pj_move (has_tmp rfl)) rfl rfl rfl ?_
  obtain ⟨y1, e2, h⟩ := bind_some h
  refine j_joinx (ι := Unit) (Γ' := fun _ => [(0, val (.pointer (some ⟨b_r, 0, none⟩))), (1, i64.slot p_n), (13, bl.slot y1)]) (H' := fun _ => [box b_r 66 (prod (sl u8) bl) (p_r.1, p_r.2)]) 5 ?_ fun J => ?_
  · intro _
    clear e2
    show OpsJ _ _ _ [(0, val (.pointer (some ⟨b_r, 0, none⟩))), (1, i64.slot p_n), (13, bl.slot y1)] [box b_r 66 (prod (sl u8) bl) (p_r.1, p_r.2)] _
    refine j_end ?_
    refine run_cond (has_tmp rfl) (fun e3 => ?_) (fun e3 => ?_)
    · replace h := bt e3 h
      refine run_seq ?_
      refine run_text ?_
      refine j_pure (pj_assign (has_nil (R := u8))) rfl rfl rfl ?_
      refine j_end ?_
      obtain rfl := Option.some.inj h
      exact run_ret fun a w hst => q_ret1 hst rfl (.tmp rfl) () (fun _ _ h => h) (.cons .here <| .nil)
    · replace h := bf e3 h
      refine run_skip ?_
      refine run_seq ?_
      refine run_seq ?_
      refine run_text ?_
      refine j_pure (pj_move (has_tmp rfl)) rfl rfl rfl ?_
      refine j_pure (pj_ilss (has_tmp rfl) has_i64) rfl rfl rfl ?_
      refine j_pure (pj_move (has_tmp rfl)) rfl rfl rfl ?_
      obtain ⟨y2, e5, h⟩ := bind_some h
      refine j_joinx (ι := Unit) (Γ' := fun _ => [(0, val (.pointer (some ⟨b_r, 0, none⟩))), (1, i64.slot p_n), (24, bl.slot y2)]) (H' := fun _ => [box b_r 66 (prod (sl u8) bl) (p_r.1, p_r.2)]) 8 ?_ fun J => ?_
      · intro _
        clear e5
        show OpsJ _ _ _ [(0, val (.pointer (some ⟨b_r, 0, none⟩))), (1, i64.slot p_n), (24, bl.slot y2)] [box b_r 66 (prod (sl u8) bl) (p_r.1, p_r.2)] _
        refine j_end ?_
        refine run_cond (has_tmp rfl) (fun e6 => ?_) (fun e6 => ?_)
        · replace h := bt e6 h
          refine run_seq ?_
          refine run_text ?_
          refine j_pure (pj_move (has_tmp rfl)) rfl rfl rfl ?_
          refine j_pure (pj_nilCheck_ptr (has_tmp rfl)) rfl rfl rfl ?_
          refine j_pure (pj_field_ptr (off := 1) (has_tmp rfl) (by kernel_rfl)) rfl rfl rfl ?_
          refine j_store_boxx (r' := (p_r.1, true)) (has_tmp rfl) has_bl .here (Path.then (Path.all (prod (sl u8) bl)) (Path.snd (sl u8) bl)) (by kernel_rfl) rfl ?_
          refine j_end ?_
          refine run_seq ?_
          refine run_text ?_
          refine j_pure (pj_assign (has_nil (R := u8))) rfl rfl rfl ?_
          refine j_end ?_
          obtain rfl := Option.some.inj h
          exact run_ret fun a w hst => q_ret1 hst rfl (.tmp rfl) () (fun _ _ h => h) (.cons .here <| .nil)
        · replace h := bf e6 h
          refine run_skip ?_
          refine run_seq ?_
          refine run_text ?_
          refine j_pure (pj_move (has_tmp rfl)) rfl rfl rfl ?_
          refine j_pure (pj_nilCheck_ptr (has_tmp rfl)) rfl rfl rfl ?_
          refine j_pure (pj_field_ptr (off := 0) (has_tmp rfl) (by kernel_rfl)) rfl rfl rfl ?_
          refine j_pure (pj_load_box (has_tmp rfl) .here (Path.then (Path.all (prod (sl u8) bl)) (Path.fst (sl u8) bl)) (by kernel_rfl)) rfl rfl rfl ?_
          refine j_pure (pj_move (has_tmp rfl)) rfl rfl rfl ?_
          refine j_pure (pj_move (has_tmp rfl)) rfl rfl rfl ?_
          obtain ⟨x1, e7, h⟩ := bind_some h
          refine j_pure (pj_slice3 (has_tmp rfl) (has_tmp rfl) (has_tmp rfl) e7 (by kernel_rfl)) rfl rfl rfl ?_
          refine j_pure (pj_assign (has_tmp rfl)) rfl rfl rfl ?_
          refine j_end ?_
          refine run_seq ?_
          refine run_text ?_
          refine j_pure (pj_move (has_tmp rfl)) rfl rfl rfl ?_
          refine j_pure (pj_move (has_tmp rfl)) rfl rfl rfl ?_
          refine j_pure (pj_nilCheck_ptr (has_tmp rfl)) rfl rfl rfl ?_
          refine j_pure (pj_field_ptr (off := 0) (has_tmp rfl) (by kernel_rfl)) rfl rfl rfl ?_
          refine j_pure (pj_load_box (has_tmp rfl) .here (Path.then (Path.all (prod (sl u8) bl)) (Path.fst (sl u8) bl)) (by kernel_rfl)) rfl rfl rfl ?_
          refine j_pure (pj_move (has_tmp rfl)) rfl rfl rfl ?_
          obtain ⟨x2, e8, h⟩ := bind_some h
          refine j_pure (pj_slice_slx (has_tmp rfl) (.yes (has_tmp rfl) isInt_i64) .no e8 (by kernel_rfl)) rfl rfl rfl ?_
          refine j_pure (pj_nilCheck_ptr (has_tmp rfl)) rfl rfl rfl ?_
          refine j_pure (pj_field_ptr (off := 0) (has_tmp rfl) (by kernel_rfl)) rfl rfl rfl ?_
          refine j_store_boxx (r' := (x2, p_r.2)) (has_tmp rfl) (has_tmp rfl) .here (Path.then (Path.all (prod (sl u8) bl)) (Path.fst (sl u8) bl)) (by kernel_rfl) rfl ?_
          refine j_end ?_
          refine run_seq ?_
          refine run_text ?_
          refine j_pure (pj_move (has_tmp rfl)) rfl rfl rfl ?_
          refine j_pure (pj_assign (has_tmp rfl)) rfl rfl rfl ?_
          refine j_end ?_
          obtain rfl := Option.some.inj h
          exact run_ret fun a w hst => q_ret1 hst rfl (.tmp rfl) () (fun _ _ h => h) (.cons .here <| .nil)
      · rcases bool_tf (decide (p_n < (0 : Int))) with e4 | e4
        · replace e5 := bt e4 e5
          refine j_guard_no2 (j := 2) (want := false) rfl rfl rfl rfl (bl_isx e4) rfl rfl rfl ?_
          refine j_guard_no2 (j := 2) (want := false) rfl rfl rfl rfl (bl_isx e4) rfl rfl rfl ?_
          refine j_guard_no2 (j := 2) (want := false) rfl rfl rfl rfl (bl_isx e4) rfl rfl rfl ?_
          refine j_guard_no2 (j := 2) (want := false) rfl rfl rfl rfl (bl_isx e4) rfl rfl rfl ?_
          refine j_guard_no2 (j := 2) (want := false) rfl rfl rfl rfl (bl_isx e4) rfl rfl rfl ?_
          refine j_guard_no2 (j := 2) (want := false) rfl rfl rfl rfl (bl_isx e4) rfl rfl rfl ?_
          refine j_guard_no2 (j := 2) (want := false) rfl rfl rfl rfl (bl_isx e4) rfl rfl rfl ?_
          refine j_pure (PJ.eqv (R := bl) (pj_pick (t := any) (has_tmp rfl) (fun _ => has_bl) (fun he => absurd (e4.symm.trans he) (by decide))) (Option.some.inj e5)) rfl rfl rfl ?_
          exact j_to (.cons (.of_lk rfl) <| .cons (.of_lk rfl) <| .cons (.of_lk rfl) <| .nil) (.cons .here <| .nil) (J ())
        · replace e5 := bf e4 e5
          refine j_pure_y (pj_move (has_tmp rfl)) rfl rfl rfl rfl (bl_isx e4) rfl rfl ?_
          refine j_pure_y (pj_move (has_tmp rfl)) rfl rfl rfl rfl (bl_isx e4) rfl rfl ?_
          refine j_pure_y (pj_nilCheck_ptr (has_tmp rfl)) rfl rfl rfl rfl (bl_isx e4) rfl rfl ?_
          refine j_pure_y (pj_field_ptr (off := 0) (has_tmp rfl) (by kernel_rfl)) rfl rfl rfl rfl (bl_isx e4) rfl rfl ?_
          refine j_pure_y (pj_load_box (has_tmp rfl) .here (Path.then (Path.all (prod (sl u8) bl)) (Path.fst (sl u8) bl)) (by kernel_rfl)) rfl rfl rfl rfl (bl_isx e4) rfl rfl ?_
          refine j_pure_y (pj_len_sl (sz := 1) (has_tmp rfl) (by kernel_rfl)) rfl rfl rfl rfl (bl_isx e4) rfl rfl ?_
          refine j_pure_y (pj_igtr (has_tmp rfl) (has_tmp rfl)) rfl rfl rfl rfl (bl_isx e4) rfl rfl ?_
          refine j_pure (PJ.eqv (R := bl) (pj_pick (t := any) (has_tmp rfl) (fun he => absurd (e4.symm.trans he) (by decide)) (fun _ => (has_tmp rfl))) (Option.some.inj e5)) rfl rfl rfl ?_
          exact j_to (.cons (.of_lk rfl) <| .cons (.of_lk rfl) <| .cons (.of_lk rfl) <| .nil) (.cons .here <| .nil) (J ())
  · have e1 : (false) = false := rfl
    refine j_pure_y (pj_move (has_tmp rfl)) rfl rfl rfl rfl (bl_isx e1) rfl rfl ?_
    refine j_pure_y (pj_nilCheck_ptr (has_tmp rfl)) rfl rfl rfl rfl (bl_isx e1) rfl rfl ?_
    refine j_pure_y (pj_field_ptr (off := 1) (has_tmp rfl) (by kernel_rfl)) rfl rfl rfl rfl (bl_isx e1) rfl rfl ?_
    refine j_pure_y (pj_load_box (has_tmp rfl) .here (Path.then (Path.all (prod (sl u8) bl)) (Path.snd (sl u8) bl)) (by kernel_rfl)) rfl rfl rfl rfl (bl_isx e1) rfl rfl ?_
    refine j_pure (PJ.eqv (R := bl) (pj_pick (t := any) (has_tmp rfl) (fun he => absurd (e1.symm.trans he) (by decide)) (fun _ => (has_tmp rfl))) (Option.some.inj e2)) rfl rfl rfl ?_
    exact j_to (.cons (.of_lk rfl) <| .cons (.of_lk rfl) <| .cons (.of_lk rfl) <| .nil) (.cons .here <| .nil) (J ())
set_option maxRecDepth 100000 in
set_option maxHeartbeats 4000000 in
theorem c_wire_Reader_peek {G : GP} {p_r : (List (BitVec 8)) × Bool} {p_bytes : Int} {b_r : Nat} {c_r : List Value} {r : (BitVec 64) × Bool} (h : wire_Reader_peek p_r p_bytes = some r) : Ctr Try.prog G 37 [val (.pointer (some ⟨b_r, 0, none⟩)), i64.slot p_bytes] [box b_r 66 (exr (prod (sl u8) bl) c_r) (p_r.1, p_r.2)] (fun (_ : Unit) => tup [u64.slot r.1, bl.slot r.2]) (fun (_ : Unit) => [box b_r 66 (exr (prod (sl u8) bl) c_r) (p_r.1, p_r.2)]) := by
  unfold wire_Reader_peek at h
  refine ctr_of_run Try.func37 rfl 44 rfl rfl fun m0 w0 b0 => ?_
  show Run _ _ _ [(0, val (.pointer (some ⟨b_r, 0, none⟩))), (1, i64.slot p_bytes)] _
  refine run_seq ?_
  refine run_text ?_
  refine j_pure (PJ.xw (.ex .refl) (pj_assign (has_un (x := 0#64) rfl))) rfl rfl rfl ?_
  refine j_pure (PJ.xw (.ex .refl) (pj_assign has_bl)) rfl rfl rfl ?_
  refine j_end ?_
  refine run_seq ?_
  refine run_seq ?_
  refine run_text ?_
  refine j_pure (PJ.xw (.ex .refl) (pj_move (has_tmp rfl))) rfl rfl rfl ?_
  refine j_pure (PJ.xw (.ex .refl) (pj_eq_nil_val (E := 66) (by kernel_rfl) (has_tmp rfl))) rfl rfl rfl ?_
  refine j_pure (PJ.xw (.ex .refl) (pj_move (has_tmp rfl))) rfl rfl rfl ?_
  obtain ⟨y1, e2, h⟩ := bind_some h
  refine j_joinx (ι := Unit) (Γ' := fun _ => [(0, val (.pointer (some ⟨b_r, 0, none⟩))), (1, i64.slot p_bytes), (16, bl.slot y1)]) (H' := fun _ => [box b_r 66 (exr (prod (sl u8) bl) c_r) (p_r.1, p_r.2)]) 5 ?_ fun J => ?_
  · intro _
    clear e2
    show OpsJ _ _ _ [(0, val (.pointer (some ⟨b_r, 0, none⟩))), (1, i64.slot p_bytes), (16, bl.slot y1)] [box b_r 66 (exr (prod (sl u8) bl) c_r) (p_r.1, p_r.2)] _
    refine j_pure (PJ.xw (.ex .refl) (pj_move (has_tmp rfl))) rfl rfl rfl ?_
    obtain ⟨y2, e4, h⟩ := bind_some h
    refine j_joinx (ι := Unit) (Γ' := fun _ => [(0, val (.pointer (some ⟨b_r, 0, none⟩))), (1, i64.slot p_bytes), (25, bl.slot y2)]) (H' := fun _ => [box b_r 66 (exr (prod (sl u8) bl) c_r) (p_r.1, p_r.2)]) 8 ?_ fun J => ?_
    · intro _
      clear e4
      show OpsJ _ _ _ [(0, val (.pointer (some ⟨b_r, 0, none⟩))), (1, i64.slot p_bytes), (25, bl.slot y2)] [box b_r 66 (exr (prod (sl u8) bl) c_r) (p_r.1, p_r.2)] _
      refine j_end ?_
      refine run_cond (has_tmp rfl) (fun e5 => ?_) (fun e5 => ?_)
      · replace h := bt e5 h
        refine run_seq ?_
        refine run_text ?_
        refine j_pure (PJ.xw (.ex .refl) (pj_assign (has_un (x := 0#64) rfl))) rfl rfl rfl ?_
        refine j_pure (PJ.xw (.ex .refl) (pj_assign has_bl)) rfl rfl rfl ?_
        refine j_end ?_
        obtain rfl := Option.some.inj h
        exact run_ret fun a w hst => q_retN hst rfl (.cons (.tmp rfl) <| .cons (.tmp rfl) <| .nil) rfl () (fun _ _ h => h) (.cons .here <| .nil)
      · replace h := bf e5 h
        refine run_skip ?_
        refine run_seq ?_
        refine run_text ?_
        refine j_pure (PJ.xw (.ex .refl) (pj_assign (has_un (x := 0#64) rfl))) rfl rfl rfl ?_
        refine j_end ?_
        refine run_seq ?_
        refine run_seq ?_
        refine run_text ?_
        refine j_pure (PJ.xw (.ex .refl) (pj_move (has_tmp rfl))) rfl rfl rfl ?_
        refine j_pure (PJ.xw (.ex .refl) (pj_nilCheck_ptr (has_tmp rfl))) rfl rfl rfl ?_
        refine j_pure (PJ.xw (.ex .refl) (pj_field_ptr (off := 0) (has_tmp rfl) (by kernel_rfl))) rfl rfl rfl ?_
        refine j_pure (PJ.xw (.ex .refl) (pj_load_box (has_tmp rfl) .here (Path.then (Path.all (prod (sl u8) bl)) (Path.fst (sl u8) bl)) (by kernel_rfl))) rfl rfl rfl ?_
        refine j_pure (PJ.xw (.ex .refl) (pj_move (has_tmp rfl))) rfl rfl rfl ?_
        obtain ⟨x1, e6, h⟩ := bind_some h
        refine j_pure (PJ.xw (.ex .refl) (pj_slice_slx (has_tmp rfl) .no (.yes (has_tmp rfl) isInt_i64) e6 (by kernel_rfl))) rfl rfl rfl ?_
        refine j_pure (PJ.xw (.ex .refl) (pj_len_sl (sz := 1) (has_tmp rfl) (by kernel_rfl))) rfl rfl rfl ?_
        refine j_pure (PJ.xw (.ex .refl) (pj_move has_i64)) rfl rfl rfl ?_
        refine j_end ?_
        obtain ⟨⟨y5, y6⟩, e9, h⟩ := bind_some h
        refine run_loopS (Γi := fun (i : Unit) (s : (BitVec 64) × Int) => [(6, u64.slot s.1), (31, (sl u8).slot x1), (32, i64.slot (x1.length : Int)), (33, i64.slot s.2)]) (Hi := fun (i : Unit) (s : (BitVec 64) × Int) => [box b_r 66 (exr (prod (sl u8) bl) c_r) (p_r.1, p_r.2)]) e9 () (fun a w hst => (hst.sub (.cons (.of_lk rfl) <| .cons (.of_lk rfl) <| .cons (.of_lk rfl) <| .cons (.of_lk rfl) <| .nil)).keep (.cons .here <| .nil)) ?_ ?_
        · clear h e9
          rintro _ ⟨y3, y4⟩ lr h
          change wire_Reader_peek_L1 x1 y3 y4 = some _ at h
          show Run _ _ _ [(6, u64.slot y3), (31, (sl u8).slot x1), (32, i64.slot (x1.length : Int)), (33, i64.slot y4)] [box b_r 66 (exr (prod (sl u8) bl) c_r) (p_r.1, p_r.2)]
          unfold wire_Reader_peek_L1 at h
          refine run_seq ?_
          refine run_text ?_
          refine j_pure (PJ.xw (.ex .refl) (pj_ilss (has_tmp rfl) (has_tmp rfl))) rfl rfl rfl ?_
          refine j_end ?_
          refine run_seq ?_
          refine run_cond (has_tmp rfl) (fun e7 => ?_) (fun e7 => ?_)
          · replace h := bt e7 h
            refine run_skip ?_
            refine run_seq ?_
            refine run_block ?_
            refine run_seq ?_
            refine run_text ?_
            obtain ⟨x2, e8, h⟩ := bind_some h
            refine j_pure (PJ.xw (.ex .refl) (pj_index_slx (has_tmp rfl) (has_tmp rfl) isInt_i64 e8 (by kernel_rfl))) rfl rfl rfl ?_
            refine j_pure (PJ.xw (.ex .refl) (pj_load_to (has_tmp rfl) (by kernel_rfl))) rfl rfl rfl ?_
            refine j_pure (PJ.xw (.ex .refl) (pj_assign (has_tmp rfl))) rfl rfl rfl ?_
            refine j_end ?_
            refine run_text ?_
            refine j_pure (PJ.xw (.ex .refl) (pj_move (has_tmp rfl))) rfl rfl rfl ?_
            refine j_pure (PJ.xw (.ex .refl) (pj_ushl (k := .u64) (b := 64) rfl rfl (has_tmp rfl) (has_un (x := 8#64) rfl) isInt_un (Int.natCast_nonneg _))) rfl rfl rfl ?_
            refine j_pure (PJ.xw (.ex .refl) (pj_move (has_tmp rfl))) rfl rfl rfl ?_
            refine j_pure (PJ.xw (.ex .refl) (pj_conv_uu (k := .u64) (b := 64) rfl rfl (by kernel_rfl) (has_tmp rfl))) rfl rfl rfl ?_
            refine j_pure (PJ.xw (.ex .refl) (pj_uor (k := .u64) (b := 64) rfl rfl (has_tmp rfl) (has_tmp rfl))) rfl rfl rfl ?_
            refine j_pure (PJ.xw (.ex .refl) (pj_assign (has_tmp rfl))) rfl rfl rfl ?_
            refine j_end ?_
            refine run_endblock ?_
            refine run_text ?_
            refine j_pure (PJ.xw (.ex .refl) (pj_iadd (has_tmp rfl) has_i64)) rfl rfl rfl ?_
            refine j_pure (PJ.xw (.ex .refl) (pj_move (has_tmp rfl))) rfl rfl rfl ?_
            refine j_end ?_
            obtain rfl := Option.some.inj h
            exact run_next () (.cons (.of_lk rfl) <| .cons (.of_lk rfl) <| .cons (.of_lk rfl) <| .cons (.of_lk rfl) <| .nil) (.cons .here <| .nil)
          · replace h := bf e7 h
            obtain rfl := Option.some.inj h
            exact run_brk () (.cons (.of_lk rfl) <| .cons (.of_lk rfl) <| .cons (.of_lk rfl) <| .cons (.of_lk rfl) <| .nil) (.cons .here <| .nil)
        · rintro _
          show Run _ _ _ [(6, u64.slot y5), (31, (sl u8).slot x1), (32, i64.slot (x1.length : Int)), (33, i64.slot y6)] [box b_r 66 (exr (prod (sl u8) bl) c_r) (p_r.1, p_r.2)]
          refine run_to (Γ' := [(6, u64.slot y5)]) (H' := [box b_r 66 (exr (prod (sl u8) bl) c_r) (p_r.1, p_r.2)]) (.cons (.of_lk rfl) <| .nil) (.cons .here <| .nil) ?_
          refine run_seq ?_
          refine run_text ?_
          refine j_pure (PJ.xw (.ex .refl) (pj_move (has_tmp rfl))) rfl rfl rfl ?_
          refine j_pure (PJ.xw (.ex .refl) (pj_assign (has_tmp rfl))) rfl rfl rfl ?_
          refine j_pure (PJ.xw (.ex .refl) (pj_assign has_bl)) rfl rfl rfl ?_
          refine j_end ?_
          obtain rfl := Option.some.inj h
          exact run_ret fun a w hst => q_retN hst rfl (.cons (.tmp rfl) <| .cons (.tmp rfl) <| .nil) rfl () (fun _ _ h => h) (.cons .here <| .nil)
    · rcases bool_tf (y1) with e3 | e3
      · replace e4 := bt e3 e4
        refine j_guard_no2 (j := 8) (want := false) rfl rfl rfl rfl (bl_isx e3) rfl rfl rfl ?_
        refine j_guard_no2 (j := 8) (want := false) rfl rfl rfl rfl (bl_isx e3) rfl rfl rfl ?_
        refine j_guard_no2 (j := 8) (want := false) rfl rfl rfl rfl (bl_isx e3) rfl rfl rfl ?_
        refine j_guard_no2 (j := 8) (want := false) rfl rfl rfl rfl (bl_isx e3) rfl rfl rfl ?_
        refine j_guard_no2 (j := 8) (want := false) rfl rfl rfl rfl (bl_isx e3) rfl rfl rfl ?_
        refine j_guard_no2 (j := 8) (want := false) rfl rfl rfl rfl (bl_isx e3) rfl rfl rfl ?_
        refine j_guard_no2 (j := 8) (want := false) rfl rfl rfl rfl (bl_isx e3) rfl rfl rfl ?_
        refine j_pure (PJ.eqv (R := bl) (pj_pick (t := any) (has_tmp rfl) (fun _ => has_bl) (fun he => absurd (e3.symm.trans he) (by decide))) (Option.some.inj e4)) rfl rfl rfl ?_
        exact j_to (.cons (.of_lk rfl) <| .cons (.of_lk rfl) <| .cons (.of_lk rfl) <| .nil) (.cons .here <| .nil) (J ())
      · replace e4 := bf e3 e4
        refine j_pure_y (PJ.xw (.ex .refl) (pj_move (has_tmp rfl))) rfl rfl rfl rfl (bl_isx e3) rfl rfl ?_
        refine j_pure_y (PJ.xw (.ex .refl) (pj_nilCheck_ptr (has_tmp rfl))) rfl rfl rfl rfl (bl_isx e3) rfl rfl ?_
        refine j_pure_y (PJ.xw (.ex .refl) (pj_field_ptr (off := 0) (has_tmp rfl) (by kernel_rfl))) rfl rfl rfl rfl (bl_isx e3) rfl rfl ?_
        refine j_pure_y (PJ.xw (.ex .refl) (pj_load_box (has_tmp rfl) .here (Path.then (Path.all (prod (sl u8) bl)) (Path.fst (sl u8) bl)) (by kernel_rfl))) rfl rfl rfl rfl (bl_isx e3) rfl rfl ?_
        refine j_pure_y (PJ.xw (.ex .refl) (pj_len_sl (sz := 1) (has_tmp rfl) (by kernel_rfl))) rfl rfl rfl rfl (bl_isx e3) rfl rfl ?_
        refine j_pure_y (PJ.xw (.ex .refl) (pj_move (has_tmp rfl))) rfl rfl rfl rfl (bl_isx e3) rfl rfl ?_
        refine j_pure_y (PJ.xw (.ex .refl) (pj_ilss (has_tmp rfl) (has_tmp rfl))) rfl rfl rfl rfl (bl_isx e3) rfl rfl ?_
        refine j_pure (PJ.eqv (R := bl) (pj_pick (t := any) (has_tmp rfl) (fun he => absurd (e3.symm.trans he) (by decide)) (fun _ => (has_tmp rfl))) (Option.some.inj e4)) rfl rfl rfl ?_
        exact j_to (.cons (.of_lk rfl) <| .cons (.of_lk rfl) <| .cons (.of_lk rfl) <| .nil) (.cons .here <| .nil) (J ())
  · have e1 : (false) = false := rfl
    refine j_pure_y (PJ.xw (.ex .refl) (pj_move (has_tmp rfl))) rfl rfl rfl rfl (bl_isx e1) rfl rfl ?_
    refine j_pure_y (PJ.xw (.ex .refl) (pj_nilCheck_ptr (has_tmp rfl))) rfl rfl rfl rfl (bl_isx e1) rfl rfl ?_
    refine j_pure_y (PJ.xw (.ex .refl) (pj_field_ptr (off := 1) (has_tmp rfl) (by kernel_rfl))) rfl rfl rfl rfl (bl_isx e1) rfl rfl ?_
    refine j_pure_y (PJ.xw (.ex .refl) (pj_load_box (has_tmp rfl) .here (Path.then (Path.all (prod (sl u8) bl)) (Path.snd (sl u8) bl)) (by kernel_rfl))) rfl rfl rfl rfl (bl_isx e1) rfl rfl ?_
    refine j_pure (PJ.eqv (R := bl) (pj_pick (t := any) (has_tmp rfl) (fun he => absurd (e1.symm.trans he) (by decide)) (fun _ => (has_tmp rfl))) (Option.some.inj e2)) rfl rfl rfl ?_
    exact j_to (.cons (.of_lk rfl) <| .cons (.of_lk rfl) <| .cons (.of_lk rfl) <| .nil) (.cons .here <| .nil) (J ())
set_option maxRecDepth 100000 in
set_option maxHeartbeats 4000000 in
theorem c_wire_Reader_number {G : GP} {p_r : (List (BitVec 8)) × Bool} {p_bytes : Int} {b_r : Nat} {r : ((List (BitVec 8)) × Bool) × (BitVec 64)} (h : wire_Reader_number p_r p_bytes = some r) : Ctr Try.prog G 33 [val (.pointer (some ⟨b_r, 0, none⟩)), i64.slot p_bytes] [box b_r 66 (prod (sl u8) bl) (p_r.1, p_r.2)] (fun (_ : Unit) => u64.slot r.2) (fun (_ : Unit) => [box b_r 66 (prod (sl u8) bl) (r.1.1, r.1.2)]) := by
  unfold wire_Reader_number at h
  refine ctr_of_run Try.func33 rfl 19 rfl rfl fun m0 w0 b0 => ?_
  show Run _ _ _ [(0, val (.pointer (some ⟨b_r, 0, none⟩))), (1, i64.slot p_bytes)] _
  refine run_seq ?_
  refine run_text ?_
  refine j_pure (pj_assign (has_un (x := 0#64) rfl)) rfl rfl rfl ?_
  refine j_end ?_
  refine run_seq ?_
  refine run_text ?_
  refine j_pure (pj_move (has_tmp rfl)) rfl rfl rfl ?_
  refine j_pure (pj_move (has_tmp rfl)) rfl rfl rfl ?_
  obtain ⟨r1, e1, h⟩ := bind_some h
  refine j_pure (pj_callR (hasL_cons (has_tmp rfl) <| hasL_cons (has_tmp rfl) <| hasL_nil) .here (by kernel_rfl) (fun _ => (c_wire_Reader_peek e1))) rfl rfl rfl ?_
  refine j_pure (pj_move (has_tmp rfl)) rfl rfl rfl ?_
  refine j_pure (pj_extract (has_tmp rfl) rfl) rfl rfl rfl ?_
  refine j_pure (pj_extract (has_tmp rfl) rfl) rfl rfl rfl ?_
  refine j_pure (pj_assign (has_tmp rfl)) rfl rfl rfl ?_
  refine j_pure (pj_assign (has_tmp rfl)) rfl rfl rfl ?_
  refine j_end ?_
  refine run_seq ?_
  refine run_seq ?_
  refine run_text ?_
  refine j_pure (pj_move (has_tmp rfl)) rfl rfl rfl ?_
  refine j_pure (pj_move (has_tmp rfl)) rfl rfl rfl ?_
  obtain ⟨r2, e2, h⟩ := bind_some h
  refine j_call (hasL_cons (has_tmp rfl) <| hasL_cons (has_tmp rfl) <| hasL_nil) (by kernel_rfl) (c_wire_Reader_takes e2) (.cons .here <| .nil) rfl fun _ => ?_
  refine j_end ?_
  refine run_seq ?_
  refine run_text ?_
  refine j_pure (pj_move (has_tmp rfl)) rfl rfl rfl ?_
  refine j_pure (pj_not (has_tmp rfl)) rfl rfl rfl ?_
  refine j_end ?_
  refine run_cond (has_tmp rfl) (fun e3 => ?_) (fun e3 => ?_)
  · replace h := bt e3 h
    refine run_seq ?_
    refine run_text ?_
    refine j_pure (pj_assign (has_un (x := 0#64) rfl)) rfl rfl rfl ?_
    refine j_end ?_
    obtain rfl := Option.some.inj h
    exact run_ret fun a w hst => q_ret1 hst rfl (.tmp rfl) () (fun _ _ h => h) (.cons .here <| .nil)
  · replace h := bf e3 h
    refine run_skip ?_
    refine run_seq ?_
    refine run_text ?_
    refine j_pure (pj_move (has_tmp rfl)) rfl rfl rfl ?_
    refine j_pure (pj_assign (has_tmp rfl)) rfl rfl rfl ?_
    refine j_end ?_
    obtain rfl := Option.some.inj h
    exact run_ret fun a w hst => q_ret1 hst rfl (.tmp rfl) () (fun _ _ h => h) (.cons .here <| .nil)
set_option maxRecDepth 100000 in
set_option maxHeartbeats 4000000 in
theorem c_wire_Reader_U32 {G : GP} {p_r : (List (BitVec 8)) × Bool} {b_r : Nat} {r : ((List (BitVec 8)) × Bool) × (BitVec 32)} (h : wire_Reader_U32 p_r = some r) : Ctr Try.prog G 22 [val (.pointer (some ⟨b_r, 0, none⟩))] [box b_r 66 (prod (sl u8) bl) (p_r.1, p_r.2)] (fun (_ : Unit) => u32.slot r.2) (fun (_ : Unit) => [box b_r 66 (prod (sl u8) bl) (r.1.1, r.1.2)]) := by
  unfold wire_Reader_U32 at h
  refine ctr_of_run Try.func22 rfl 6 rfl rfl fun m0 w0 b0 => ?_
  show Run _ _ _ [(0, val (.pointer (some ⟨b_r, 0, none⟩)))] _
  refine run_seq ?_
  refine run_text ?_
  refine j_pure (pj_assign (has_un (x := 0#32) rfl)) rfl rfl rfl ?_
  refine j_end ?_
  refine run_seq ?_
  refine run_text ?_
  refine j_pure (pj_move (has_tmp rfl)) rfl rfl rfl ?_
  obtain ⟨r1, e1, h⟩ := bind_some h
  refine j_call (hasL_cons (has_tmp rfl) <| hasL_cons has_i64 <| hasL_nil) (by kernel_rfl) (c_wire_Reader_number e1) (.cons .here <| .nil) rfl fun _ => ?_
  refine j_pure (pj_conv_uu (k := .u32) (b := 32) rfl rfl (by kernel_rfl) (has_tmp rfl)) rfl rfl rfl ?_
  refine j_pure (pj_assign (has_tmp rfl)) rfl rfl rfl ?_
  refine j_end ?_
  obtain rfl := Option.some.inj h
  exact run_ret fun a w hst => q_ret1 hst rfl (.tmp rfl) () (fun _ _ h => h) (.cons .here <| .nil)
set_option maxRecDepth 100000 in
set_option maxHeartbeats 4000000 in
theorem c_wire_Reader_Plain {G : GP} {p_r : (List (BitVec 8)) × Bool} {p_n : Int} {b_r : Nat} {r : ((List (BitVec 8)) × Bool) × (List (BitVec 8))} (h : wire_Reader_Plain p_r p_n = some r) : Ctr Try.prog G 23 [val (.pointer (some ⟨b_r, 0, none⟩)), i64.slot p_n] [box b_r 66 (prod (sl u8) bl) (p_r.1, p_r.2)] (fun (_ : Unit) => (sl u8).slot r.2) (fun (_ : Unit) => [box b_r 66 (prod (sl u8) bl) (r.1.1, r.1.2)]) := by
  unfold wire_Reader_Plain at h
  refine ctr_of_run Try.func23 rfl 8 rfl rfl fun m0 w0 b0 => ?_
  show Run _ _ _ [(0, val (.pointer (some ⟨b_r, 0, none⟩))), (1, i64.slot p_n)] _
  refine run_seq ?_
  refine run_text ?_
  refine j_pure (pj_assign (has_nil (R := u8))) rfl rfl rfl ?_
  refine j_end ?_
  refine run_seq ?_
  refine run_text ?_
  refine j_pure (pj_move (has_tmp rfl)) rfl rfl rfl ?_
  refine j_pure (pj_move (has_tmp rfl)) rfl rfl rfl ?_
  obtain ⟨r1, e1, h⟩ := bind_some h
  refine j_call (hasL_cons (has_tmp rfl) <| hasL_cons (has_tmp rfl) <| hasL_nil) (by kernel_rfl) (c_wire_Reader_takes e1) (.cons .here <| .nil) rfl fun _ => ?_
  refine j_pure (pj_assign (has_tmp rfl)) rfl rfl rfl ?_
  refine j_end ?_
  obtain rfl := Option.some.inj h
  exact run_ret fun a w hst => q_ret1 hst rfl (.tmp rfl) () (fun _ _ h => h) (.cons .here <| .nil)
set_option maxRecDepth 100000 in
set_option maxHeartbeats 4000000 in
theorem c_head_Decode {G : GP} {p_b : List (BitVec 8)} {r : T_head_Head × Int} (h : head_Decode p_b = some r) : Ctr Try.prog G 7 [(sl u8).slot p_b] [] (fun (_ : Unit) => tup [R_head_Head.slot r.1, i64.slot r.2]) (fun (_ : Unit) => []) := by
  unfold head_Decode at h
  refine ctr_of_run Try.func7 rfl 32 rfl rfl fun m0 w0 b0 => ?_
  show Run _ _ _ [(0, (sl u8).slot p_b)] _
  refine run_seq ?_
  refine run_text ?_
  refine j_alloc (x := (0, 0, (Vector.replicate 32 (0#8)), (Vector.replicate 32 (0#8)))) (R := R_head_Head) (zero_prod zero_i64 (zero_prod zero_i64 (zero_prod (zero_vec 32 zero_un) (zero_vec 32 zero_un)))) (by kernel_rfl) rfl fun b1 => ?_
  refine j_pure (pj_assign has_i64) rfl rfl rfl ?_
  refine j_end ?_
  refine run_seq ?_
  refine run_seq ?_
  refine run_text ?_
  refine j_pure (pj_move (has_tmp rfl)) rfl rfl rfl ?_
  refine j_pure (pj_len_sl (sz := 1) (has_tmp rfl) (by kernel_rfl)) rfl rfl rfl ?_
  refine j_pure (pj_ineq (has_tmp rfl) has_i64) rfl rfl rfl ?_
  refine j_end ?_
  refine run_cond (has_tmp rfl) (fun e1 => ?_) (fun e1 => ?_)
  · replace h := bt e1 h
    refine run_seq ?_
    refine run_text ?_
    refine j_pure (pj_build (R := R_head_Head) (zero_prod zero_i64 (zero_prod zero_i64 (zero_prod (zero_vec 32 zero_un) (zero_vec 32 zero_un)))) (by kernel_rfl) (by kernel_rfl) rfl .nil) rfl rfl rfl ?_
    obtain ⟨x1, e2, h⟩ := bind_some h
    refine j_store_boxx (r' := x1) (has_tmp rfl) (has_tmp rfl) .here (Path.all R_head_Head) (by kernel_rfl) (Option.some.inj e2) ?_
    refine j_pure (pj_assign has_i64) rfl rfl rfl ?_
    refine j_end ?_
    obtain rfl := Option.some.inj h
    exact run_ret fun a w hst => q_retN hst rfl (.cons (.cell rfl .here (by kernel_rfl)) <| .cons (.tmp rfl) <| .nil) rfl () (fun _ _ h => h) (.nil)
  · replace h := bf e1 h
    refine run_skip ?_
    refine run_seq ?_
    refine run_text ?_
    refine j_pure (pj_move (has_tmp rfl)) rfl rfl rfl ?_
    obtain ⟨r1, e3, h⟩ := bind_some h
    refine j_call (hasL_cons (has_tmp rfl) <| hasL_nil) (by kernel_rfl) (c_wire_New e3) .nil rfl fun b2 => ?_
    refine j_pure (pj_assign (has_tmp rfl)) rfl rfl rfl ?_
    refine j_end ?_
    refine run_seq ?_
    obtain ⟨r2, e4, h⟩ := bind_some h
    obtain ⟨r3, e5, h⟩ := bind_some h
    obtain ⟨r4, e6, h⟩ := bind_some h
    obtain ⟨x2, e7, h⟩ := bind_some h
    obtain ⟨r5, e8, h⟩ := bind_some h
    obtain ⟨x3, e9, h⟩ := bind_some h
    obtain ⟨x4, e10, h⟩ := bind_some h
    refine run_keep (H' := [box b2 66 (prod (sl u8) bl) (r1.1, r1.2), box b1 31 R_head_Head (0, 0, (Vector.replicate 32 (0#8)), (Vector.replicate 32 (0#8)))]) (.cons .here <| .cons .here <| .nil) ?_
    refine run_drawL (n := 16) (H := [box b1 31 R_head_Head (0, 0, (Vector.replicate 32 (0#8)), (Vector.replicate 32 (0#8)))]) (Ls := [⟨[box b2 66 (prod (sl u8) bl) (r1.1, r1.2)], [(1, ⟨Unit, fun (_ : Unit) => [box b2 66 (prod (sl u8) bl) (r2.1.1, r2.1.2)], fun (_ : Unit) => [(13, u32.slot r2.2)]⟩), (4, ⟨Unit, fun (_ : Unit) => [box b2 66 (prod (sl u8) bl) (r3.1.1, r3.1.2)], fun (_ : Unit) => [(16, u32.slot r3.2), (13, u32.slot r2.2)]⟩), (7, ⟨Unit, fun (_ : Unit) => [box b2 66 (prod (sl u8) bl) (r4.1.1, r4.1.2)], fun (_ : Unit) => [(19, (sl u8).slot r4.2), (16, u32.slot r3.2), (13, u32.slot r2.2)]⟩), (11, ⟨Unit, fun (_ : Unit) => [box b2 66 (prod (sl u8) bl) (r5.1.1, r5.1.2)], fun (_ : Unit) => [(23, (sl u8).slot r5.2), (19, (sl u8).slot r4.2), (16, u32.slot r3.2), (13, u32.slot r2.2)]⟩)]⟩, ⟨[], [(15, ⟨Nat, fun (b3 : Nat) => [box b3 31 R_head_Head (0, 0, (Vector.replicate 32 (0#8)), (Vector.replicate 32 (0#8)))], fun (b3 : Nat) => [(5, val (.pointer (some ⟨b3, 0, none⟩)))]⟩)]⟩]) (by kernel_rfl) (by kernel_rfl) (by kernel_rfl) (by kernel_rfl) (by kernel_rfl) rfl (.read rfl (.plain rfl (pj_move (has_tmp rfl))) <| .step 0 rfl .here (.inl rfl) (fun i => ⟨_, _, fun _ => (), (w_call (hasL_cons (has_tmp rfl) <| hasL_nil) (by kernel_rfl) (c_wire_Reader_U32 e4) (.cons .here <| .nil) rfl), fun _ => rfl, slotIs, dst1⟩) <| .read rfl (.plain rfl (pj_conv_ui (by decide) (by kernel_rfl) (has_tmp rfl))) <| .read rfl (.plain rfl (pj_move (has_tmp rfl))) <| .step 0 rfl (.next .here) (.inl rfl) (fun i => ⟨_, _, fun _ => (), (w_call (hasL_cons (has_tmp rfl) <| hasL_nil) (by kernel_rfl) (c_wire_Reader_U32 e5) (.cons .here <| .nil) rfl), fun _ => rfl, slotIs, dst1⟩) <| .read rfl (.plain rfl (pj_conv_ui (by decide) (by kernel_rfl) (has_tmp rfl))) <| .read rfl (.plain rfl (pj_move (has_tmp rfl))) <| .step 0 rfl (.next (.next .here)) (.inl rfl) (fun i => ⟨_, _, fun _ => (), (w_call (hasL_cons (has_tmp rfl) <| hasL_cons has_i64 <| hasL_nil) (by kernel_rfl) (c_wire_Reader_Plain e6) (.cons .here <| .nil) rfl), fun _ => rfl, slotIs, dst1⟩) <| .read rfl (.plain rfl (pj_s2apx (e := 5) (has_tmp rfl) e7 rfl (by kernel_rfl))) <| .read rfl (.plain rfl (pj_load_to (has_tmp rfl) (by kernel_rfl))) <| .read rfl (.plain rfl (pj_move (has_tmp rfl))) <| .step 0 rfl (.next (.next (.next .here))) (.inl rfl) (fun i => ⟨_, _, fun _ => (), (w_call (hasL_cons (has_tmp rfl) <| hasL_cons has_i64 <| hasL_nil) (by kernel_rfl) (c_wire_Reader_Plain e8) (.cons .here <| .nil) rfl), fun _ => rfl, slotIs, dst1⟩) <| .read rfl (.plain rfl (pj_s2apx (e := 5) (has_tmp rfl) e9 rfl (by kernel_rfl))) <| .read rfl (.plain rfl (pj_load_to (has_tmp rfl) (by kernel_rfl))) <| .read rfl (.plain rfl (PJ.eqv (pj_build (R := R_head_Head) (zero_prod zero_i64 (zero_prod zero_i64 (zero_prod (zero_vec 32 zero_un) (zero_vec 32 zero_un)))) (by kernel_rfl) (by kernel_rfl) rfl (.cons (has_tmp rfl) (Path.fst i64 (prod i64 (prod R_api_Hash R_api_Hash))) (by kernel_rfl) (.cons (has_tmp rfl) (Path.then (Path.snd i64 (prod i64 (prod R_api_Hash R_api_Hash))) (Path.fst i64 (prod R_api_Hash R_api_Hash))) (by kernel_rfl) (.cons (has_tmp rfl) (Path.then (Path.snd i64 (prod i64 (prod R_api_Hash R_api_Hash))) (Path.then (Path.snd i64 (prod R_api_Hash R_api_Hash)) (Path.fst R_api_Hash R_api_Hash))) (by kernel_rfl) (.cons (has_tmp rfl) (Path.then (Path.snd i64 (prod i64 (prod R_api_Hash R_api_Hash))) (Path.then (Path.snd i64 (prod R_api_Hash R_api_Hash)) (Path.snd R_api_Hash R_api_Hash))) (by kernel_rfl) .nil))))) (Option.some.inj e10))) <| .step 1 rfl .here (.inl rfl) (fun i => ⟨_, _, fun j => j, (w_alloc (x := (0, 0, (Vector.replicate 32 (0#8)), (Vector.replicate 32 (0#8)))) (R := R_head_Head) (zero_prod zero_i64 (zero_prod zero_i64 (zero_prod (zero_vec 32 zero_un) (zero_vec 32 zero_un)))) (by kernel_rfl) rfl), fun _ => rfl, slotAny, dst1⟩) <| .nil) ?_
    rintro _ b3
    refine j_to (Γ' := [(2, val (.pointer (some ⟨b1, 0, none⟩))), (5, val (.pointer (some ⟨b3, 0, none⟩))), (26, R_head_Head.slot x4)]) (H' := [box b3 31 R_head_Head (0, 0, (Vector.replicate 32 (0#8)), (Vector.replicate 32 (0#8))), box b1 31 R_head_Head (0, 0, (Vector.replicate 32 (0#8)), (Vector.replicate 32 (0#8)))]) (.cons (.of_lk rfl) <| .cons (.of_lk rfl) <| .cons (.of_lk rfl) <| .nil) (.cons (.next .here) <| .cons (.next .here) <| .nil) ?_
    refine j_store_boxx (r' := x4) (has_tmp rfl) (has_tmp rfl) .here (Path.all R_head_Head) (by kernel_rfl) rfl ?_
    refine j_freezeTo (t := 5) .here (.of_lk rfl) ?_
    refine j_end ?_
    refine run_seq ?_
    refine run_seq ?_
    refine run_text ?_
    refine j_pure (pj_load_to (has_tmp rfl) (by kernel_rfl)) rfl rfl rfl ?_
    obtain ⟨r6, e11, h⟩ := bind_some h
    refine j_pure (pj_call (hasL_cons (has_tmp rfl) <| hasL_nil) (by kernel_rfl) (c_head_Head_is e11)) rfl rfl rfl ?_
    refine j_pure (pj_not (has_tmp rfl)) rfl rfl rfl ?_
    refine j_end ?_
    refine run_cond (has_tmp rfl) (fun e12 => ?_) (fun e12 => ?_)
    · replace h := bt e12 h
      refine run_seq ?_
      refine run_text ?_
      refine j_pure (pj_build (R := R_head_Head) (zero_prod zero_i64 (zero_prod zero_i64 (zero_prod (zero_vec 32 zero_un) (zero_vec 32 zero_un)))) (by kernel_rfl) (by kernel_rfl) rfl .nil) rfl rfl rfl ?_
      obtain ⟨x5, e13, h⟩ := bind_some h
      refine j_store_boxx (r' := x5) (has_tmp rfl) (has_tmp rfl) .here (Path.all R_head_Head) (by kernel_rfl) (Option.some.inj e13) ?_
      refine j_pure (pj_assign has_i64) rfl rfl rfl ?_
      refine j_end ?_
      obtain rfl := Option.some.inj h
      exact run_ret fun a w hst => q_retN hst rfl (.cons (.cell rfl .here (by kernel_rfl)) <| .cons (.tmp rfl) <| .nil) rfl () (fun _ _ h => h) (.nil)
    · replace h := bf e12 h
      refine run_skip ?_
      refine run_seq ?_
      refine run_text ?_
      refine j_pure (pj_load_to (has_tmp rfl) (by kernel_rfl)) rfl rfl rfl ?_
      refine j_store_boxx (r' := x4) (has_tmp rfl) (has_tmp rfl) .here (Path.all R_head_Head) (by kernel_rfl) rfl ?_
      refine j_pure (pj_assign has_i64) rfl rfl rfl ?_
      refine j_end ?_
      obtain rfl := Option.some.inj h
      exact run_ret fun a w hst => q_retN hst rfl (.cons (.cell rfl .here (by kernel_rfl)) <| .cons (.tmp rfl) <| .nil) rfl () (fun _ _ h => h) (.nil)
set_option maxRecDepth 100000 in
set_option maxHeartbeats 4000000 in
theorem c_rolodexref01_Same {G : GP} {p_a : List (BitVec 8)} {p_b : List (BitVec 8)} {r : Bool} (h : rolodexref01_Same p_a p_b = some r) : Ctr Try.prog G 8 [(sl u8).slot p_a, (sl u8).slot p_b] [] (fun (_ : Unit) => bl.slot r) (fun (_ : Unit) => []) := by
  unfold rolodexref01_Same at h
  refine ctr_of_run Try.func8 rfl 26 rfl rfl fun m0 w0 b0 => ?_
  refine run_ret0 fun Qf hq1 hq2 => ?_
  show Run _ _ _ [(0, (sl u8).slot p_a), (1, (sl u8).slot p_b)] _
  refine run_seq ?_
  refine run_text ?_
  refine j_pure (pj_assign has_bl) rfl rfl rfl ?_
  refine j_end ?_
  refine run_seq ?_
  refine run_seq ?_
  refine run_text ?_
  refine j_pure (pj_move (has_tmp rfl)) rfl rfl rfl ?_
  refine j_pure (pj_len_sl (sz := 1) (has_tmp rfl) (by kernel_rfl)) rfl rfl rfl ?_
  refine j_pure (pj_move (has_tmp rfl)) rfl rfl rfl ?_
  refine j_pure (pj_len_sl (sz := 1) (has_tmp rfl) (by kernel_rfl)) rfl rfl rfl ?_
  refine j_pure (pj_ineq (has_tmp rfl) (has_tmp rfl)) rfl rfl rfl ?_
  refine j_end ?_
  refine run_cond (has_tmp rfl) (fun e1 => ?_) (fun e1 => ?_)
  · replace h := bt e1 h
    refine run_seq ?_
    refine run_text ?_
    refine j_pure (pj_assign has_bl) rfl rfl rfl ?_
    refine j_end ?_
    obtain rfl := Option.some.inj h
    exact run_ret fun a w hst => q_ret1 hst rfl (.tmp rfl) () (fun _ _ h => h) (.nil)
  · replace h := bf e1 h
    refine run_skip ?_
    refine run_seq ?_
    refine run_seq ?_
    refine run_text ?_
    refine j_pure (pj_assign has_i64) rfl rfl rfl ?_
    refine j_end ?_
    obtain ⟨o, e6, h⟩ := bind_some h
    refine run_loop (Γi := fun (i : Unit) (s : Int) => [(0, (sl u8).slot p_a), (1, (sl u8).slot p_b), (5, i64.slot s)]) (Hi := fun (i : Unit) (s : Int) => []) (R := fun x a w => x = r → Qf a w) e6 () (fun a w hst => (hst.sub (.cons (.of_lk rfl) <| .cons (.of_lk rfl) <| .cons (.of_lk rfl) <| .nil)).keep (.nil)) ?_ ?_ ?_
    · clear h e6
      rintro _ y1 lr h
      change rolodexref01_Same_L1 p_a p_b y1 = some _ at h
      show Run _ _ _ [(0, (sl u8).slot p_a), (1, (sl u8).slot p_b), (5, i64.slot y1)] []
      unfold rolodexref01_Same_L1 at h
      refine run_seq ?_
      refine run_seq ?_
      refine run_text ?_
      refine j_pure (pj_move (has_tmp rfl)) rfl rfl rfl ?_
      refine j_pure (pj_move (has_tmp rfl)) rfl rfl rfl ?_
      refine j_pure (pj_len_sl (sz := 1) (has_tmp rfl) (by kernel_rfl)) rfl rfl rfl ?_
      refine j_pure (pj_ilss (has_tmp rfl) (has_tmp rfl)) rfl rfl rfl ?_
      refine j_end ?_
      refine run_cond (has_tmp rfl) (fun e2 => ?_) (fun e2 => ?_)
      · replace h := bt e2 h
        refine run_skip ?_
        refine run_seq ?_
        refine run_block ?_
        refine run_seq ?_
        obtain ⟨x1, e3, h⟩ := bind_some h
        obtain ⟨x2, e4, h⟩ := bind_some h
        refine run_draw (n := 8) (by kernel_rfl) (by kernel_rfl) (by kernel_rfl) (by kernel_rfl) (.read (.plain rfl (pj_move (has_tmp rfl))) <| .read (.plain rfl (pj_move (has_tmp rfl))) <| .read (.plain rfl (pj_index_slx (has_tmp rfl) (has_tmp rfl) isInt_i64 e3 (by kernel_rfl))) <| .read (.plain rfl (pj_load_to (has_tmp rfl) (by kernel_rfl))) <| .read (.plain rfl (pj_move (has_tmp rfl))) <| .read (.plain rfl (pj_move (has_tmp rfl))) <| .read (.plain rfl (pj_index_slx (has_tmp rfl) (has_tmp rfl) isInt_i64 e4 (by kernel_rfl))) <| .read (.plain rfl (pj_load_to (has_tmp rfl) (by kernel_rfl))) <| .nil) (j_to (Γ' := [(0, (sl u8).slot p_a), (1, (sl u8).slot p_b), (5, i64.slot y1), (20, u8.slot x1), (24, u8.slot x2)]) (H' := []) (.cons (.of_lk rfl) <| .cons (.of_lk rfl) <| .cons (.of_lk rfl) <| .cons (.of_lk rfl) <| .cons (.of_lk rfl) <| .nil) (.nil) ?_)
        refine j_pure (pj_uneq (k := .u8) (b := 8) (has_tmp rfl) (has_tmp rfl)) rfl rfl rfl ?_
        refine j_end ?_
        refine run_cond (has_tmp rfl) (fun e5 => ?_) (fun e5 => ?_)
        · replace h := bt e5 h
          refine run_seq ?_
          refine run_text ?_
          refine j_pure (pj_assign has_bl) rfl rfl rfl ?_
          refine j_end ?_
          obtain rfl := Option.some.inj h
          refine run_ret fun a w hst => ⟨rfl, fun hr => ?_⟩
          subst hr
          exact hq2 a w (q_ret1 hst rfl (.tmp rfl) () (fun _ _ h => h) (.nil))
        · replace h := bf e5 h
          refine run_skip ?_
          refine run_endblock ?_
          refine run_text ?_
          refine j_pure (pj_move (has_tmp rfl)) rfl rfl rfl ?_
          refine j_pure (pj_iadd (has_tmp rfl) has_i64) rfl rfl rfl ?_
          refine j_pure (pj_assign (has_tmp rfl)) rfl rfl rfl ?_
          refine j_end ?_
          obtain rfl := Option.some.inj h
          exact run_next () (.cons (.of_lk rfl) <| .cons (.of_lk rfl) <| .cons (.of_lk rfl) <| .nil) (.nil)
      · replace h := bf e2 h
        obtain rfl := Option.some.inj h
        exact run_brk () (.cons (.of_lk rfl) <| .cons (.of_lk rfl) <| .cons (.of_lk rfl) <| .nil) (.nil)
    · rintro _ y2 ho
      subst ho
      show Run _ _ _ [(0, (sl u8).slot p_a), (1, (sl u8).slot p_b), (5, i64.slot y2)] []
      refine run_to (Γ' := []) (H' := []) (.nil) (.nil) ?_
      refine run_seq ?_
      refine run_text ?_
      refine j_pure (pj_assign has_bl) rfl rfl rfl ?_
      refine j_end ?_
      obtain rfl := Option.some.inj h
      exact run_ret fun a w hst => q_ret1 hst rfl (.tmp rfl) () (fun _ _ h => h) (.nil)
    · intro x a w ho hR
      subst ho
      exact hq1 a w (hR (Option.some.inj h))
set_option maxRecDepth 100000 in
set_option maxHeartbeats 4000000 in
theorem c_rolodexlaw17_HeadBack {G : GP} {p_h : T_rolodexref17_Head} {p_b : List (BitVec 8)} {r : Bool} (h : rolodexlaw17_HeadBack p_h p_b = some r) : Ctr Try.prog G 3 [R_rolodexref17_Head.slot p_h, (sl u8).slot p_b] [] (fun (_ : Unit) => bl.slot r) (fun (_ : Unit) => []) := by
  unfold rolodexlaw17_HeadBack at h
  refine ctr_of_run Try.func3 rfl 70 rfl rfl fun m0 w0 b0 => ?_
  show Run _ _ _ [(0, R_rolodexref17_Head.slot p_h), (1, (sl u8).slot p_b)] _
  refine run_seq ?_
  refine run_text ?_
  refine j_pure (pj_box_to (has_tmp rfl)) rfl rfl rfl ?_
  refine j_pure (pj_assign has_bl) rfl rfl rfl ?_
  refine j_end ?_
  refine run_seq ?_
  refine run_seq ?_
  refine run_text ?_
  obtain ⟨r1, e1, h⟩ := bind_some h
  refine j_pure (pj_call (hasL_nil) (by kernel_rfl) (c_rolodexlaw17_awake e1)) rfl rfl rfl ?_
  refine j_pure (pj_not (has_tmp rfl)) rfl rfl rfl ?_
  refine j_pure (pj_move (has_tmp rfl)) rfl rfl rfl ?_
  obtain ⟨y1, e3, h⟩ := bind_some h
  refine j_joinx (ι := Unit) (Γ' := fun _ => [(1, (sl u8).slot p_b), (2, ptrTo R_rolodexref17_Head p_h), (19, bl.slot y1)]) (H' := fun _ => []) 4 ?_ fun J => ?_
  · intro _
    clear e3
    show OpsJ _ _ _ [(1, (sl u8).slot p_b), (2, ptrTo R_rolodexref17_Head p_h), (19, bl.slot y1)] [] _
    refine j_end ?_
    refine run_cond (has_tmp rfl) (fun e4 => ?_) (fun e4 => ?_)
    · replace h := bt e4 h
      refine run_seq ?_
      refine run_text ?_
      obtain ⟨r2, e5, h⟩ := bind_some h
      refine j_pure (pj_call (hasL_nil) (by kernel_rfl) (c_rolodexlaw17_awake e5)) rfl rfl rfl ?_
      refine j_pure (pj_assign (has_tmp rfl)) rfl rfl rfl ?_
      refine j_end ?_
      obtain rfl := Option.some.inj h
      exact run_ret fun a w hst => q_ret1 hst rfl (.tmp rfl) () (fun _ _ h => h) (.nil)
    · replace h := bf e4 h
      refine run_skip ?_
      refine run_seq ?_
      refine run_text ?_
      refine j_pure (pj_load_to (has_tmp rfl) (by kernel_rfl)) rfl rfl rfl ?_
      obtain ⟨r3, e6, h⟩ := bind_some h
      refine j_pure (pj_call (hasL_cons (has_tmp rfl) <| hasL_nil) (by kernel_rfl) (Ctr.froze2 (c_head_Encode e6))) rfl rfl rfl ?_
      refine j_pure (pj_move (has_tmp rfl)) rfl rfl rfl ?_
      refine j_pure (pj_extract (has_tmp rfl) rfl) rfl rfl rfl ?_
      refine j_pure (pj_extract (has_tmp rfl) rfl) rfl rfl rfl ?_
      refine j_pure (pj_assign (has_tmp rfl)) rfl rfl rfl ?_
      refine j_pure (pj_assign (has_tmp rfl)) rfl rfl rfl ?_
      refine j_end ?_
      refine run_seq ?_
      refine run_seq ?_
      refine run_text ?_
      refine j_pure (pj_move (has_tmp rfl)) rfl rfl rfl ?_
      refine j_pure (pj_ieql (has_tmp rfl) has_i64) rfl rfl rfl ?_
      refine j_end ?_
      refine run_cond (has_tmp rfl) (fun e7 => ?_) (fun e7 => ?_)
      · replace h := bt e7 h
        refine run_seq ?_
        refine run_text ?_
        refine j_pure (pj_move (has_tmp rfl)) rfl rfl rfl ?_
        obtain ⟨r4, e8, h⟩ := bind_some h
        refine j_pure (pj_call (hasL_cons (has_tmp rfl) <| hasL_nil) (by kernel_rfl) (c_head_Decode e8)) rfl rfl rfl ?_
        refine j_pure (pj_move (has_tmp rfl)) rfl rfl rfl ?_
        refine j_pure (pj_extract (has_tmp rfl) rfl) rfl rfl rfl ?_
        refine j_pure (pj_extract (has_tmp rfl) rfl) rfl rfl rfl ?_
        refine j_alloc (x := (0, 0, (Vector.replicate 32 (0#8)), (Vector.replicate 32 (0#8)))) (R := R_head_Head) (zero_prod zero_i64 (zero_prod zero_i64 (zero_prod (zero_vec 32 zero_un) (zero_vec 32 zero_un)))) (by kernel_rfl) rfl fun b1 => ?_
        refine j_store_boxx (r' := r4.1) (has_tmp rfl) (has_tmp rfl) .here (Path.all R_head_Head) (by kernel_rfl) rfl ?_
        refine j_freezeTo (t := 7) .here (.of_lk rfl) ?_
        refine j_pure (pj_assign (has_tmp rfl)) rfl rfl rfl ?_
        refine j_end ?_
        refine run_seq ?_
        refine run_text ?_
        refine j_pure (pj_move (has_tmp rfl)) rfl rfl rfl ?_
        refine j_pure (pj_ineq (has_tmp rfl) has_i64) rfl rfl rfl ?_
        refine j_pure (pj_move (has_tmp rfl)) rfl rfl rfl ?_
        obtain ⟨y2, e10, h⟩ := bind_some h
        refine j_joinx (ι := Unit) (Γ' := fun _ => [(1, (sl u8).slot p_b), (39, bl.slot y2)]) (H' := fun _ => []) 4 ?_ fun J => ?_
        · intro _
          clear e10
          show OpsJ _ _ _ [(1, (sl u8).slot p_b), (39, bl.slot y2)] [] _
          refine j_end ?_
          refine run_cond (has_tmp rfl) (fun e11 => ?_) (fun e11 => ?_)
          · replace h := bt e11 h
            refine run_seq ?_
            refine run_text ?_
            refine j_pure (pj_assign has_bl) rfl rfl rfl ?_
            refine j_end ?_
            obtain rfl := Option.some.inj h
            exact run_ret fun a w hst => q_ret1 hst rfl (.tmp rfl) () (fun _ _ h => h) (.nil)
          · replace h := bf e11 h
            refine run_skip ?_
            refine run_seq ?_
            refine run_text ?_
            refine j_pure (pj_move (has_tmp rfl)) rfl rfl rfl ?_
            obtain ⟨r5, e12, h⟩ := bind_some h
            refine j_pure (pj_call (hasL_cons (has_tmp rfl) <| hasL_nil) (by kernel_rfl) (c_head_Decode e12)) rfl rfl rfl ?_
            refine j_pure (pj_move (has_tmp rfl)) rfl rfl rfl ?_
            refine j_pure (pj_extract (has_tmp rfl) rfl) rfl rfl rfl ?_
            refine j_pure (pj_extract (has_tmp rfl) rfl) rfl rfl rfl ?_
            refine j_alloc (x := (0, 0, (Vector.replicate 32 (0#8)), (Vector.replicate 32 (0#8)))) (R := R_head_Head) (zero_prod zero_i64 (zero_prod zero_i64 (zero_prod (zero_vec 32 zero_un) (zero_vec 32 zero_un)))) (by kernel_rfl) rfl fun b2 => ?_
            refine j_store_boxx (r' := r5.1) (has_tmp rfl) (has_tmp rfl) .here (Path.all R_head_Head) (by kernel_rfl) rfl ?_
            refine j_freezeTo (t := 9) .here (.of_lk rfl) ?_
            refine j_pure (pj_assign (has_tmp rfl)) rfl rfl rfl ?_
            refine j_end ?_
            refine run_seq ?_
            refine run_text ?_
            refine j_pure (pj_load_to (has_tmp rfl) (by kernel_rfl)) rfl rfl rfl ?_
            obtain ⟨r6, e13, h⟩ := bind_some h
            refine j_pure (pj_call (hasL_cons (has_tmp rfl) <| hasL_nil) (by kernel_rfl) (Ctr.froze2 (c_head_Encode e13))) rfl rfl rfl ?_
            refine j_pure (pj_move (has_tmp rfl)) rfl rfl rfl ?_
            refine j_pure (pj_extract (has_tmp rfl) rfl) rfl rfl rfl ?_
            refine j_pure (pj_extract (has_tmp rfl) rfl) rfl rfl rfl ?_
            refine j_pure (pj_assign (has_tmp rfl)) rfl rfl rfl ?_
            refine j_pure (pj_assign (has_tmp rfl)) rfl rfl rfl ?_
            refine j_end ?_
            refine run_seq ?_
            refine run_text ?_
            refine j_pure (pj_move (has_tmp rfl)) rfl rfl rfl ?_
            refine j_pure (pj_ineq (has_tmp rfl) has_i64) rfl rfl rfl ?_
            refine j_pure (pj_move (has_tmp rfl)) rfl rfl rfl ?_
            obtain ⟨y3, e15, h⟩ := bind_some h
            refine j_joinx (ι := Unit) (Γ' := fun _ => [(1, (sl u8).slot p_b), (10, i64.slot r5.2), (11, (sl u8).slot r6.1), (12, i64.slot r6.2), (56, bl.slot y3)]) (H' := fun _ => []) 4 ?_ fun J => ?_
            · intro _
              clear e15
              show OpsJ _ _ _ [(1, (sl u8).slot p_b), (10, i64.slot r5.2), (11, (sl u8).slot r6.1), (12, i64.slot r6.2), (56, bl.slot y3)] [] _
              refine j_pure (pj_move (has_tmp rfl)) rfl rfl rfl ?_
              obtain ⟨y4, e17, h⟩ := bind_some h
              refine j_joinx (ι := Unit) (Γ' := fun _ => [(69, bl.slot y4)]) (H' := fun _ => []) 12 ?_ fun J => ?_
              · intro _
                clear e17
                show OpsJ _ _ _ [(69, bl.slot y4)] [] _
                refine j_pure (pj_assign (has_tmp rfl)) rfl rfl rfl ?_
                refine j_end ?_
                obtain rfl := Option.some.inj h
                exact run_ret fun a w hst => q_ret1 hst rfl (.tmp rfl) () (fun _ _ h => h) (.nil)
              · rcases bool_tf (y3) with e16 | e16
                · replace e17 := bt e16 e17
                  refine j_guard_no2 (j := 7) (want := false) rfl rfl rfl rfl (bl_isx e16) rfl rfl rfl ?_
                  refine j_guard_no2 (j := 7) (want := false) rfl rfl rfl rfl (bl_isx e16) rfl rfl rfl ?_
                  refine j_guard_no2 (j := 7) (want := false) rfl rfl rfl rfl (bl_isx e16) rfl rfl rfl ?_
                  refine j_guard_undef (j := 10) (want := true) rfl rfl rfl rfl rfl ?_
                  refine j_guard_undef (j := 10) (want := true) rfl rfl rfl rfl rfl ?_
                  refine j_guard_no2 (j := 7) (want := false) rfl rfl rfl rfl (bl_isx e16) rfl rfl rfl ?_
                  refine j_guard_no2 (j := 7) (want := false) rfl rfl rfl rfl (bl_isx e16) rfl rfl rfl ?_
                  refine j_guard_undef (j := 14) (want := true) rfl rfl rfl rfl rfl ?_
                  refine j_guard_undef (j := 14) (want := true) rfl rfl rfl rfl rfl ?_
                  refine j_guard_undef (j := 14) (want := true) rfl rfl rfl rfl rfl ?_
                  refine j_guard_no2 (j := 7) (want := false) rfl rfl rfl rfl (bl_isx e16) rfl rfl rfl ?_
                  refine j_pure (PJ.eqv (R := bl) (pj_pick (t := any) (has_tmp rfl) (fun _ => has_bl) (fun he => absurd (e16.symm.trans he) (by decide))) (Option.some.inj e17)) rfl rfl rfl ?_
                  exact j_to (.cons (.of_lk rfl) <| .nil) (.nil) (J ())
                · replace e17 := bf e16 e17
                  refine j_pure_y (pj_move (has_tmp rfl)) rfl rfl rfl rfl (bl_isx e16) rfl rfl ?_
                  refine j_pure_y (pj_ieql (has_tmp rfl) has_i64) rfl rfl rfl rfl (bl_isx e16) rfl rfl ?_
                  refine j_pure_y (pj_move (has_tmp rfl)) rfl rfl rfl rfl (bl_isx e16) rfl rfl ?_
                  obtain ⟨y5, e19, e17⟩ := bind_some e17
                  rcases bool_tf (decide (r5.2 = (0 : Int))) with e18 | e18
                  · replace e19 := bt e18 e19
                    refine j_pure_y (pj_move (has_tmp rfl)) rfl rfl rfl rfl (bl_isx e18) rfl rfl ?_
                    refine j_pure_y (pj_ieql (has_tmp rfl) has_i64) rfl rfl rfl rfl (bl_isx e18) rfl rfl ?_
                    refine j_pure_y (PJ.eqv (R := bl) (pj_pick (t := any) (has_tmp rfl) (fun _ => (has_tmp rfl)) (fun he => absurd (e18.symm.trans he) (by decide))) (Option.some.inj e19)) rfl rfl rfl rfl (bl_isx e16) rfl rfl ?_
                    refine j_pure_y (pj_move (has_tmp rfl)) rfl rfl rfl rfl (bl_isx e16) rfl rfl ?_
                    obtain ⟨y6, e21, e17⟩ := bind_some e17
                    rcases bool_tf (y5) with e20 | e20
                    · replace e21 := bt e20 e21
                      refine j_pure_y (pj_move (has_tmp rfl)) rfl rfl rfl rfl (bl_isx e20) rfl rfl ?_
                      refine j_pure_y (pj_move (has_tmp rfl)) rfl rfl rfl rfl (bl_isx e20) rfl rfl ?_
                      obtain ⟨r7, e22, e21⟩ := bind_some e21
                      refine j_pure_y (pj_call (hasL_cons (has_tmp rfl) <| hasL_cons (has_tmp rfl) <| hasL_nil) (by kernel_rfl) (c_rolodexref01_Same e22)) rfl rfl rfl rfl (bl_isx e20) rfl rfl ?_
                      refine j_pure_y (PJ.eqv (R := bl) (pj_pick (t := any) (has_tmp rfl) (fun _ => (has_tmp rfl)) (fun he => absurd (e20.symm.trans he) (by decide))) (Option.some.inj e21)) rfl rfl rfl rfl (bl_isx e16) rfl rfl ?_
                      refine j_pure (PJ.eqv (R := bl) (pj_pick (t := any) (has_tmp rfl) (fun he => absurd (e16.symm.trans he) (by decide)) (fun _ => (has_tmp rfl))) (Option.some.inj e17)) rfl rfl rfl ?_
                      exact j_to (.cons (.of_lk rfl) <| .nil) (.nil) (J ())
                    · replace e21 := bf e20 e21
                      refine j_guard_no2 (j := 14) (want := true) rfl rfl rfl rfl (bl_isx e20) rfl rfl rfl ?_
                      refine j_guard_no2 (j := 14) (want := true) rfl rfl rfl rfl (bl_isx e20) rfl rfl rfl ?_
                      refine j_guard_no2 (j := 14) (want := true) rfl rfl rfl rfl (bl_isx e20) rfl rfl rfl ?_
                      refine j_pure_y (PJ.eqv (R := bl) (pj_pick (t := any) (has_tmp rfl) (fun he => absurd (e20.symm.trans he) (by decide)) (fun _ => has_bl)) (Option.some.inj e21)) rfl rfl rfl rfl (bl_isx e16) rfl rfl ?_
                      refine j_pure (PJ.eqv (R := bl) (pj_pick (t := any) (has_tmp rfl) (fun he => absurd (e16.symm.trans he) (by decide)) (fun _ => (has_tmp rfl))) (Option.some.inj e17)) rfl rfl rfl ?_
                      exact j_to (.cons (.of_lk rfl) <| .nil) (.nil) (J ())
                  · replace e19 := bf e18 e19
                    refine j_guard_no2 (j := 10) (want := true) rfl rfl rfl rfl (bl_isx e18) rfl rfl rfl ?_
                    refine j_guard_no2 (j := 10) (want := true) rfl rfl rfl rfl (bl_isx e18) rfl rfl rfl ?_
                    refine j_pure_y (PJ.eqv (R := bl) (pj_pick (t := any) (has_tmp rfl) (fun he => absurd (e18.symm.trans he) (by decide)) (fun _ => has_bl)) (Option.some.inj e19)) rfl rfl rfl rfl (bl_isx e16) rfl rfl ?_
                    refine j_pure_y (pj_move (has_tmp rfl)) rfl rfl rfl rfl (bl_isx e16) rfl rfl ?_
                    obtain ⟨y6, e21, e17⟩ := bind_some e17
                    rcases bool_tf (y5) with e20 | e20
                    · exact absurd ((Option.some.inj e19).trans e20) (by decide)
                    · replace e21 := bf e20 e21
                      refine j_guard_no2 (j := 14) (want := true) rfl rfl rfl rfl (bl_isx e20) rfl rfl rfl ?_
                      refine j_guard_no2 (j := 14) (want := true) rfl rfl rfl rfl (bl_isx e20) rfl rfl rfl ?_
                      refine j_guard_no2 (j := 14) (want := true) rfl rfl rfl rfl (bl_isx e20) rfl rfl rfl ?_
                      refine j_pure_y (PJ.eqv (R := bl) (pj_pick (t := any) (has_tmp rfl) (fun he => absurd (e20.symm.trans he) (by decide)) (fun _ => has_bl)) (Option.some.inj e21)) rfl rfl rfl rfl (bl_isx e16) rfl rfl ?_
                      refine j_pure (PJ.eqv (R := bl) (pj_pick (t := any) (has_tmp rfl) (fun he => absurd (e16.symm.trans he) (by decide)) (fun _ => (has_tmp rfl))) (Option.some.inj e17)) rfl rfl rfl ?_
                      exact j_to (.cons (.of_lk rfl) <| .nil) (.nil) (J ())
            · rcases bool_tf (!decide (r5.2 = (0 : Int))) with e14 | e14
              · replace e15 := bt e14 e15
                refine j_pure_y (pj_load_to (has_tmp rfl) (by kernel_rfl)) rfl rfl rfl rfl (bl_isx e14) rfl rfl ?_
                refine j_pure_y (pj_build (R := R_head_Head) (zero_prod zero_i64 (zero_prod zero_i64 (zero_prod (zero_vec 32 zero_un) (zero_vec 32 zero_un)))) (by kernel_rfl) (by kernel_rfl) rfl .nil) rfl rfl rfl rfl (bl_isx e14) rfl rfl ?_
                refine j_pure_y (pj_eql (n := 3) (eq_struct (fs := #[Field.mk "Epoch" 3 0 false "" "" 0, Field.mk "Tick" 3 1 false "" "" 8, Field.mk "Tree" 23 2 false "" "" 16, Field.mk "Log" 23 34 false "" "" 48]) (by kernel_rfl) (by kernel_rfl) rfl (.cons rfl (by kernel_rfl) (by kernel_rfl) (EqOK.mono (by omega) (eq_i64 (by kernel_rfl))) (.cons rfl (by kernel_rfl) (by kernel_rfl) (EqOK.mono (by omega) (eq_i64 (by kernel_rfl))) (.cons rfl (by kernel_rfl) (by kernel_rfl) (eq_vec (e := 5) (by kernel_rfl) (by kernel_rfl) (eq_un (by kernel_rfl))) (.one rfl (by kernel_rfl) (by kernel_rfl) (eq_vec (e := 5) (by kernel_rfl) (by kernel_rfl) (eq_un (by kernel_rfl)))))))) (by decide) rfl (by kernel_rfl) (has_tmp rfl) (has_tmp rfl)) rfl rfl rfl rfl (bl_isx e14) rfl rfl ?_
                refine j_pure (PJ.eqv (R := bl) (pj_pick (t := any) (has_tmp rfl) (fun _ => (has_tmp rfl)) (fun he => absurd (e14.symm.trans he) (by decide))) (Option.some.inj e15)) rfl rfl rfl ?_
                exact j_to (.cons (.of_lk rfl) <| .cons (.of_lk rfl) <| .cons (.of_lk rfl) <| .cons (.of_lk rfl) <| .cons (.of_lk rfl) <| .nil) (.nil) (J ())
              · replace e15 := bf e14 e15
                refine j_guard_no2 (j := 2) (want := true) rfl rfl rfl rfl (bl_isx e14) rfl rfl rfl ?_
                refine j_guard_no2 (j := 2) (want := true) rfl rfl rfl rfl (bl_isx e14) rfl rfl rfl ?_
                refine j_guard_no2 (j := 2) (want := true) rfl rfl rfl rfl (bl_isx e14) rfl rfl rfl ?_
                refine j_pure (PJ.eqv (R := bl) (pj_pick (t := any) (has_tmp rfl) (fun he => absurd (e14.symm.trans he) (by decide)) (fun _ => has_bl)) (Option.some.inj e15)) rfl rfl rfl ?_
                exact j_to (.cons (.of_lk rfl) <| .cons (.of_lk rfl) <| .cons (.of_lk rfl) <| .cons (.of_lk rfl) <| .cons (.of_lk rfl) <| .nil) (.nil) (J ())
        · rcases bool_tf (!decide (r4.2 = (0 : Int))) with e9 | e9
          · replace e10 := bt e9 e10
            refine j_guard_no2 (j := 2) (want := false) rfl rfl rfl rfl (bl_isx e9) rfl rfl rfl ?_
            refine j_guard_no2 (j := 2) (want := false) rfl rfl rfl rfl (bl_isx e9) rfl rfl rfl ?_
            refine j_guard_no2 (j := 2) (want := false) rfl rfl rfl rfl (bl_isx e9) rfl rfl rfl ?_
            refine j_pure (PJ.eqv (R := bl) (pj_pick (t := any) (has_tmp rfl) (fun _ => has_bl) (fun he => absurd (e9.symm.trans he) (by decide))) (Option.some.inj e10)) rfl rfl rfl ?_
            exact j_to (.cons (.of_lk rfl) <| .cons (.of_lk rfl) <| .nil) (.nil) (J ())
          · replace e10 := bf e9 e10
            refine j_pure_y (pj_load_to (has_tmp rfl) (by kernel_rfl)) rfl rfl rfl rfl (bl_isx e9) rfl rfl ?_
            refine j_pure_y (pj_load_to (has_tmp rfl) (by kernel_rfl)) rfl rfl rfl rfl (bl_isx e9) rfl rfl ?_
            refine j_pure_y (pj_neq (n := 3) (eq_struct (fs := #[Field.mk "Epoch" 3 0 false "" "" 0, Field.mk "Tick" 3 1 false "" "" 8, Field.mk "Tree" 23 2 false "" "" 16, Field.mk "Log" 23 34 false "" "" 48]) (by kernel_rfl) (by kernel_rfl) rfl (.cons rfl (by kernel_rfl) (by kernel_rfl) (EqOK.mono (by omega) (eq_i64 (by kernel_rfl))) (.cons rfl (by kernel_rfl) (by kernel_rfl) (EqOK.mono (by omega) (eq_i64 (by kernel_rfl))) (.cons rfl (by kernel_rfl) (by kernel_rfl) (eq_vec (e := 5) (by kernel_rfl) (by kernel_rfl) (eq_un (by kernel_rfl))) (.one rfl (by kernel_rfl) (by kernel_rfl) (eq_vec (e := 5) (by kernel_rfl) (by kernel_rfl) (eq_un (by kernel_rfl)))))))) (by decide) rfl (by kernel_rfl) (has_tmp rfl) (has_tmp rfl)) rfl rfl rfl rfl (bl_isx e9) rfl rfl ?_
            refine j_pure (PJ.eqv (R := bl) (pj_pick (t := any) (has_tmp rfl) (fun he => absurd (e9.symm.trans he) (by decide)) (fun _ => (has_tmp rfl))) (Option.some.inj e10)) rfl rfl rfl ?_
            exact j_to (.cons (.of_lk rfl) <| .cons (.of_lk rfl) <| .nil) (.nil) (J ())
      · replace h := bf e7 h
        refine run_skip ?_
        refine run_seq ?_
        refine run_text ?_
        refine j_pure (pj_move (has_tmp rfl)) rfl rfl rfl ?_
        obtain ⟨r8, e23, h⟩ := bind_some h
        refine j_pure (pj_call (hasL_cons (has_tmp rfl) <| hasL_nil) (by kernel_rfl) (c_head_Decode e23)) rfl rfl rfl ?_
        refine j_pure (pj_move (has_tmp rfl)) rfl rfl rfl ?_
        refine j_pure (pj_extract (has_tmp rfl) rfl) rfl rfl rfl ?_
        refine j_pure (pj_extract (has_tmp rfl) rfl) rfl rfl rfl ?_
        refine j_alloc (x := (0, 0, (Vector.replicate 32 (0#8)), (Vector.replicate 32 (0#8)))) (R := R_head_Head) (zero_prod zero_i64 (zero_prod zero_i64 (zero_prod (zero_vec 32 zero_un) (zero_vec 32 zero_un)))) (by kernel_rfl) rfl fun b3 => ?_
        refine j_store_boxx (r' := r8.1) (has_tmp rfl) (has_tmp rfl) .here (Path.all R_head_Head) (by kernel_rfl) rfl ?_
        refine j_freezeTo (t := 9) .here (.of_lk rfl) ?_
        refine j_pure (pj_assign (has_tmp rfl)) rfl rfl rfl ?_
        refine j_end ?_
        refine run_seq ?_
        refine run_text ?_
        refine j_pure (pj_load_to (has_tmp rfl) (by kernel_rfl)) rfl rfl rfl ?_
        obtain ⟨r9, e24, h⟩ := bind_some h
        refine j_pure (pj_call (hasL_cons (has_tmp rfl) <| hasL_nil) (by kernel_rfl) (Ctr.froze2 (c_head_Encode e24))) rfl rfl rfl ?_
        refine j_pure (pj_move (has_tmp rfl)) rfl rfl rfl ?_
        refine j_pure (pj_extract (has_tmp rfl) rfl) rfl rfl rfl ?_
        refine j_pure (pj_extract (has_tmp rfl) rfl) rfl rfl rfl ?_
        refine j_pure (pj_assign (has_tmp rfl)) rfl rfl rfl ?_
        refine j_pure (pj_assign (has_tmp rfl)) rfl rfl rfl ?_
        refine j_end ?_
        refine run_seq ?_
        refine run_text ?_
        refine j_pure (pj_move (has_tmp rfl)) rfl rfl rfl ?_
        refine j_pure (pj_ineq (has_tmp rfl) has_i64) rfl rfl rfl ?_
        refine j_pure (pj_move (has_tmp rfl)) rfl rfl rfl ?_
        obtain ⟨y7, e26, h⟩ := bind_some h
        refine j_joinx (ι := Unit) (Γ' := fun _ => [(1, (sl u8).slot p_b), (10, i64.slot r8.2), (11, (sl u8).slot r9.1), (12, i64.slot r9.2), (56, bl.slot y7)]) (H' := fun _ => []) 4 ?_ fun J => ?_
        · intro _
          clear e26
          show OpsJ _ _ _ [(1, (sl u8).slot p_b), (10, i64.slot r8.2), (11, (sl u8).slot r9.1), (12, i64.slot r9.2), (56, bl.slot y7)] [] _
          refine j_pure (pj_move (has_tmp rfl)) rfl rfl rfl ?_
          obtain ⟨y8, e28, h⟩ := bind_some h
          refine j_joinx (ι := Unit) (Γ' := fun _ => [(69, bl.slot y8)]) (H' := fun _ => []) 12 ?_ fun J => ?_
          · intro _
            clear e28
            show OpsJ _ _ _ [(69, bl.slot y8)] [] _
            refine j_pure (pj_assign (has_tmp rfl)) rfl rfl rfl ?_
            refine j_end ?_
            obtain rfl := Option.some.inj h
            exact run_ret fun a w hst => q_ret1 hst rfl (.tmp rfl) () (fun _ _ h => h) (.nil)
          · rcases bool_tf (y7) with e27 | e27
            · replace e28 := bt e27 e28
              refine j_guard_no2 (j := 7) (want := false) rfl rfl rfl rfl (bl_isx e27) rfl rfl rfl ?_
              refine j_guard_no2 (j := 7) (want := false) rfl rfl rfl rfl (bl_isx e27) rfl rfl rfl ?_
              refine j_guard_no2 (j := 7) (want := false) rfl rfl rfl rfl (bl_isx e27) rfl rfl rfl ?_
              refine j_guard_undef (j := 10) (want := true) rfl rfl rfl rfl rfl ?_
              refine j_guard_undef (j := 10) (want := true) rfl rfl rfl rfl rfl ?_
              refine j_guard_no2 (j := 7) (want := false) rfl rfl rfl rfl (bl_isx e27) rfl rfl rfl ?_
              refine j_guard_no2 (j := 7) (want := false) rfl rfl rfl rfl (bl_isx e27) rfl rfl rfl ?_
              refine j_guard_undef (j := 14) (want := true) rfl rfl rfl rfl rfl ?_
              refine j_guard_undef (j := 14) (want := true) rfl rfl rfl rfl rfl ?_
              refine j_guard_undef (j := 14) (want := true) rfl rfl rfl rfl rfl ?_
              refine j_guard_no2 (j := 7) (want := false) rfl rfl rfl rfl (bl_isx e27) rfl rfl rfl ?_
              refine j_pure (PJ.eqv (R := bl) (pj_pick (t := any) (has_tmp rfl) (fun _ => has_bl) (fun he => absurd (e27.symm.trans he) (by decide))) (Option.some.inj e28)) rfl rfl rfl ?_
              exact j_to (.cons (.of_lk rfl) <| .nil) (.nil) (J ())
            · replace e28 := bf e27 e28
              refine j_pure_y (pj_move (has_tmp rfl)) rfl rfl rfl rfl (bl_isx e27) rfl rfl ?_
              refine j_pure_y (pj_ieql (has_tmp rfl) has_i64) rfl rfl rfl rfl (bl_isx e27) rfl rfl ?_
              refine j_pure_y (pj_move (has_tmp rfl)) rfl rfl rfl rfl (bl_isx e27) rfl rfl ?_
              obtain ⟨y9, e30, e28⟩ := bind_some e28
              rcases bool_tf (decide (r8.2 = (0 : Int))) with e29 | e29
              · replace e30 := bt e29 e30
                refine j_pure_y (pj_move (has_tmp rfl)) rfl rfl rfl rfl (bl_isx e29) rfl rfl ?_
                refine j_pure_y (pj_ieql (has_tmp rfl) has_i64) rfl rfl rfl rfl (bl_isx e29) rfl rfl ?_
                refine j_pure_y (PJ.eqv (R := bl) (pj_pick (t := any) (has_tmp rfl) (fun _ => (has_tmp rfl)) (fun he => absurd (e29.symm.trans he) (by decide))) (Option.some.inj e30)) rfl rfl rfl rfl (bl_isx e27) rfl rfl ?_
                refine j_pure_y (pj_move (has_tmp rfl)) rfl rfl rfl rfl (bl_isx e27) rfl rfl ?_
                obtain ⟨y10, e32, e28⟩ := bind_some e28
                rcases bool_tf (y9) with e31 | e31
                · replace e32 := bt e31 e32
                  refine j_pure_y (pj_move (has_tmp rfl)) rfl rfl rfl rfl (bl_isx e31) rfl rfl ?_
                  refine j_pure_y (pj_move (has_tmp rfl)) rfl rfl rfl rfl (bl_isx e31) rfl rfl ?_
                  obtain ⟨r10, e33, e32⟩ := bind_some e32
                  refine j_pure_y (pj_call (hasL_cons (has_tmp rfl) <| hasL_cons (has_tmp rfl) <| hasL_nil) (by kernel_rfl) (c_rolodexref01_Same e33)) rfl rfl rfl rfl (bl_isx e31) rfl rfl ?_
                  refine j_pure_y (PJ.eqv (R := bl) (pj_pick (t := any) (has_tmp rfl) (fun _ => (has_tmp rfl)) (fun he => absurd (e31.symm.trans he) (by decide))) (Option.some.inj e32)) rfl rfl rfl rfl (bl_isx e27) rfl rfl ?_
                  refine j_pure (PJ.eqv (R := bl) (pj_pick (t := any) (has_tmp rfl) (fun he => absurd (e27.symm.trans he) (by decide)) (fun _ => (has_tmp rfl))) (Option.some.inj e28)) rfl rfl rfl ?_
                  exact j_to (.cons (.of_lk rfl) <| .nil) (.nil) (J ())
                · replace e32 := bf e31 e32
                  refine j_guard_no2 (j := 14) (want := true) rfl rfl rfl rfl (bl_isx e31) rfl rfl rfl ?_
                  refine j_guard_no2 (j := 14) (want := true) rfl rfl rfl rfl (bl_isx e31) rfl rfl rfl ?_
                  refine j_guard_no2 (j := 14) (want := true) rfl rfl rfl rfl (bl_isx e31) rfl rfl rfl ?_
                  refine j_pure_y (PJ.eqv (R := bl) (pj_pick (t := any) (has_tmp rfl) (fun he => absurd (e31.symm.trans he) (by decide)) (fun _ => has_bl)) (Option.some.inj e32)) rfl rfl rfl rfl (bl_isx e27) rfl rfl ?_
                  refine j_pure (PJ.eqv (R := bl) (pj_pick (t := any) (has_tmp rfl) (fun he => absurd (e27.symm.trans he) (by decide)) (fun _ => (has_tmp rfl))) (Option.some.inj e28)) rfl rfl rfl ?_
                  exact j_to (.cons (.of_lk rfl) <| .nil) (.nil) (J ())
              · replace e30 := bf e29 e30
                refine j_guard_no2 (j := 10) (want := true) rfl rfl rfl rfl (bl_isx e29) rfl rfl rfl ?_
                refine j_guard_no2 (j := 10) (want := true) rfl rfl rfl rfl (bl_isx e29) rfl rfl rfl ?_
                refine j_pure_y (PJ.eqv (R := bl) (pj_pick (t := any) (has_tmp rfl) (fun he => absurd (e29.symm.trans he) (by decide)) (fun _ => has_bl)) (Option.some.inj e30)) rfl rfl rfl rfl (bl_isx e27) rfl rfl ?_
                refine j_pure_y (pj_move (has_tmp rfl)) rfl rfl rfl rfl (bl_isx e27) rfl rfl ?_
                obtain ⟨y10, e32, e28⟩ := bind_some e28
                rcases bool_tf (y9) with e31 | e31
                · exact absurd ((Option.some.inj e30).trans e31) (by decide)
                · replace e32 := bf e31 e32
                  refine j_guard_no2 (j := 14) (want := true) rfl rfl rfl rfl (bl_isx e31) rfl rfl rfl ?_
                  refine j_guard_no2 (j := 14) (want := true) rfl rfl rfl rfl (bl_isx e31) rfl rfl rfl ?_
                  refine j_guard_no2 (j := 14) (want := true) rfl rfl rfl rfl (bl_isx e31) rfl rfl rfl ?_
                  refine j_pure_y (PJ.eqv (R := bl) (pj_pick (t := any) (has_tmp rfl) (fun he => absurd (e31.symm.trans he) (by decide)) (fun _ => has_bl)) (Option.some.inj e32)) rfl rfl rfl rfl (bl_isx e27) rfl rfl ?_
                  refine j_pure (PJ.eqv (R := bl) (pj_pick (t := any) (has_tmp rfl) (fun he => absurd (e27.symm.trans he) (by decide)) (fun _ => (has_tmp rfl))) (Option.some.inj e28)) rfl rfl rfl ?_
                  exact j_to (.cons (.of_lk rfl) <| .nil) (.nil) (J ())
        · rcases bool_tf (!decide (r8.2 = (0 : Int))) with e25 | e25
          · replace e26 := bt e25 e26
            refine j_pure_y (pj_load_to (has_tmp rfl) (by kernel_rfl)) rfl rfl rfl rfl (bl_isx e25) rfl rfl ?_
            refine j_pure_y (pj_build (R := R_head_Head) (zero_prod zero_i64 (zero_prod zero_i64 (zero_prod (zero_vec 32 zero_un) (zero_vec 32 zero_un)))) (by kernel_rfl) (by kernel_rfl) rfl .nil) rfl rfl rfl rfl (bl_isx e25) rfl rfl ?_
            refine j_pure_y (pj_eql (n := 3) (eq_struct (fs := #[Field.mk "Epoch" 3 0 false "" "" 0, Field.mk "Tick" 3 1 false "" "" 8, Field.mk "Tree" 23 2 false "" "" 16, Field.mk "Log" 23 34 false "" "" 48]) (by kernel_rfl) (by kernel_rfl) rfl (.cons rfl (by kernel_rfl) (by kernel_rfl) (EqOK.mono (by omega) (eq_i64 (by kernel_rfl))) (.cons rfl (by kernel_rfl) (by kernel_rfl) (EqOK.mono (by omega) (eq_i64 (by kernel_rfl))) (.cons rfl (by kernel_rfl) (by kernel_rfl) (eq_vec (e := 5) (by kernel_rfl) (by kernel_rfl) (eq_un (by kernel_rfl))) (.one rfl (by kernel_rfl) (by kernel_rfl) (eq_vec (e := 5) (by kernel_rfl) (by kernel_rfl) (eq_un (by kernel_rfl)))))))) (by decide) rfl (by kernel_rfl) (has_tmp rfl) (has_tmp rfl)) rfl rfl rfl rfl (bl_isx e25) rfl rfl ?_
            refine j_pure (PJ.eqv (R := bl) (pj_pick (t := any) (has_tmp rfl) (fun _ => (has_tmp rfl)) (fun he => absurd (e25.symm.trans he) (by decide))) (Option.some.inj e26)) rfl rfl rfl ?_
            exact j_to (.cons (.of_lk rfl) <| .cons (.of_lk rfl) <| .cons (.of_lk rfl) <| .cons (.of_lk rfl) <| .cons (.of_lk rfl) <| .nil) (.nil) (J ())
          · replace e26 := bf e25 e26
            refine j_guard_no2 (j := 2) (want := true) rfl rfl rfl rfl (bl_isx e25) rfl rfl rfl ?_
            refine j_guard_no2 (j := 2) (want := true) rfl rfl rfl rfl (bl_isx e25) rfl rfl rfl ?_
            refine j_guard_no2 (j := 2) (want := true) rfl rfl rfl rfl (bl_isx e25) rfl rfl rfl ?_
            refine j_pure (PJ.eqv (R := bl) (pj_pick (t := any) (has_tmp rfl) (fun he => absurd (e25.symm.trans he) (by decide)) (fun _ => has_bl)) (Option.some.inj e26)) rfl rfl rfl ?_
            exact j_to (.cons (.of_lk rfl) <| .cons (.of_lk rfl) <| .cons (.of_lk rfl) <| .cons (.of_lk rfl) <| .cons (.of_lk rfl) <| .nil) (.nil) (J ())
  · rcases bool_tf (!r1) with e2 | e2
    · replace e3 := bt e2 e3
      refine j_guard_no2 (j := 2) (want := false) rfl rfl rfl rfl (bl_isx e2) rfl rfl rfl ?_
      refine j_guard_no2 (j := 2) (want := false) rfl rfl rfl rfl (bl_isx e2) rfl rfl rfl ?_
      refine j_guard_no2 (j := 2) (want := false) rfl rfl rfl rfl (bl_isx e2) rfl rfl rfl ?_
      refine j_pure (PJ.eqv (R := bl) (pj_pick (t := any) (has_tmp rfl) (fun _ => has_bl) (fun he => absurd (e2.symm.trans he) (by decide))) (Option.some.inj e3)) rfl rfl rfl ?_
      exact j_to (.cons (.of_lk rfl) <| .cons (.of_lk rfl) <| .cons (.of_lk rfl) <| .nil) (.nil) (J ())
    · replace e3 := bf e2 e3
      refine j_pure_y (pj_move (has_tmp rfl)) rfl rfl rfl rfl (bl_isx e2) rfl rfl ?_
      refine j_pure_y (pj_len_sl (sz := 1) (has_tmp rfl) (by kernel_rfl)) rfl rfl rfl rfl (bl_isx e2) rfl rfl ?_
      refine j_pure_y (pj_igtr (has_tmp rfl) has_i64) rfl rfl rfl rfl (bl_isx e2) rfl rfl ?_
      refine j_pure (PJ.eqv (R := bl) (pj_pick (t := any) (has_tmp rfl) (fun he => absurd (e2.symm.trans he) (by decide)) (fun _ => (has_tmp rfl))) (Option.some.inj e3)) rfl rfl rfl ?_
      exact j_to (.cons (.of_lk rfl) <| .cons (.of_lk rfl) <| .cons (.of_lk rfl) <| .nil) (.nil) (J ())
end Go.Sl.W
