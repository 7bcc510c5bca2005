import Derived.Test.YtheldkljmefbaaaM
import Derived.Test.YtheldkljmefbaaaOp14
import Derived.Test.YtheldkljmefbaaaProg
set_option linter.unusedSimpArgs false
set_option linter.unusedVariables false
set_option linter.unusedSectionVars false
namespace Go.Sl.W
open Go.Proofs Go.Sl Go.Sl.M
abbrev R_api_Hash : Rep T_api_Hash := vec 32 u8
abbrev R_head_Head : Rep T_head_Head := (prod i64 (prod i64 (prod R_api_Hash R_api_Hash)))
abbrev R_head_Signed : Rep T_head_Signed := (prod R_head_Head (sl u8))
abbrev R_rolodexref17_Head : Rep T_rolodexref17_Head := (prod i64 (prod i64 (prod R_api_Hash R_api_Hash)))
abbrev R_rolodexref17_Signed : Rep T_rolodexref17_Signed := (prod R_rolodexref17_Head (sl u8))
abbrev R_wire_Reader : Rep T_wire_Reader := (prod (sl u8) bl)

set_option maxRecDepth 100000 in
set_option maxHeartbeats 4000000 in
theorem c_slices_Clone_byte_byte {G : GP} {p_s : List (BitVec 8)} {r : (List (BitVec 8))} (h : slices_Clone_byte_byte p_s = some r) : Ctr Try.prog G 26 [(sl u8).slot p_s] [] (fun (u0 : Value) => ov u0) (fun (u0 : Value) => [own 5 u8 u0 r]) := by
  unfold slices_Clone_byte_byte at h
  refine ctr_of_run Try.func26 rfl 8 rfl rfl fun m0 w0 b0 => ?_
  show Run _ _ _ [(0, (sl u8).slot p_s)] _
  refine run_seq ?_
  refine run_text ?_
  refine j_assign_nil (T := 5) u8 rfl fun v1 => ?_
  refine j_end ?_
  refine run_seq ?_
  refine run_seq ?_
  refine run_text ?_
  refine j_pure (pj_move (has_tmp rfl)) rfl rfl rfl ?_
  refine j_pure (pj_isnil (E := 5) (by kernel_rfl) (has_tmp rfl)) rfl rfl rfl ?_
  refine j_end ?_
  refine run_cond_nil (has_tmp rfl) (fun e0 => ?_) ?_
  · subst e0
    obtain ⟨e1, h⟩ := grd_some h
    obtain rfl := Option.some.inj h
    refine run_seq ?_
    refine run_text ?_
    refine j_assign_nil (T := 5) u8 rfl fun v2 => ?_
    refine j_end ?_
    exact run_ret fun a w hst => q_ret1 hst rfl (.tmp rfl) v2 (fun _ _ h => h) (.cons .here <| .nil)
  refine run_skip ?_
  refine run_seq ?_
  refine run_text ?_
  refine j_buildSlice (T := 5) (R := u8) .nil rfl (by kernel_rfl) (by kernel_rfl) rfl fun v2 => ?_
  refine j_pure (pj_move (has_tmp rfl)) rfl rfl rfl ?_
  obtain ⟨e1, h⟩ := grd_some h
  refine j_append (T := 5) (E := 5) (has_tmp rfl) .here (src_data (has_tmp rfl)) (by kernel_rfl) (by kernel_rfl) e1 rfl fun v3 => ?_
  refine j_pure (pj_assign (has_tmp rfl)) rfl rfl rfl ?_
  refine j_end ?_
  obtain rfl := Option.some.inj h
  exact run_ret fun a w hst => q_ret1 hst rfl (.tmp rfl) v3 (fun _ _ h => h) (.cons .here <| .nil)
set_option maxRecDepth 100000 in
set_option maxHeartbeats 4000000 in
theorem c_wire_Writer_Out {G : GP} {p_w : (List (BitVec 8)) × Bool} {b_w : Nat} {v_w0 : Value} {r : ((List (BitVec 8)) × Bool) × (List (BitVec 8)) × Int} (h : wire_Writer_Out p_w = some r) : Ctr Try.prog G 10 [val (.pointer (some ⟨b_w, 0, none⟩))] [box b_w 40 (prod (exv v_w0) bl) ((), p_w.2), own 5 u8 v_w0 p_w.1] (fun (i : Value × Value) => tup [ov i.2, i64.slot r.2.2]) (fun (i : Value × Value) => [box b_w 40 (prod (exv i.1) bl) ((), r.1.2), own 5 u8 i.1 r.1.1, own 5 u8 i.2 r.2.1]) := by
  unfold wire_Writer_Out at h
  refine ctr_of_run Try.func10 rfl 17 rfl rfl fun m0 w0 b0 => ?_
  show Run _ _ _ [(0, val (.pointer (some ⟨b_w, 0, none⟩)))] _
  refine run_seq ?_
  refine run_text ?_
  refine j_assign_nil (T := 5) u8 rfl fun v1 => ?_
  refine j_pure (pj_assign has_i64) rfl rfl rfl ?_
  refine j_end ?_
  refine run_seq ?_
  refine run_block ?_
  refine run_seq ?_
  refine run_text ?_
  refine j_pure (pj_move (has_tmp rfl)) rfl rfl rfl ?_
  refine j_pure (pj_eq_nil_val (E := 40) (by kernel_rfl) (has_tmp rfl)) rfl rfl rfl ?_
  refine j_pure (pj_assign (has_tmp rfl)) rfl rfl rfl ?_
  refine j_end ?_
  refine run_cond_f (has_tmp rfl) rfl ?_
  refine run_seq ?_
  refine run_text ?_
  refine j_pure (pj_move (has_tmp rfl)) rfl rfl rfl ?_
  refine j_pure (pj_nilCheck_ptr (has_tmp rfl)) rfl rfl rfl ?_
  refine j_pure (pj_field_ptr (off := 1) (has_tmp rfl) (by kernel_rfl)) rfl rfl rfl ?_
  refine j_pure (pj_load_box (has_tmp rfl) (.next .here) (Path.then (Path.all (prod (exv v_w0) bl)) (Path.snd (exv v_w0) bl)) (by kernel_rfl)) rfl rfl rfl ?_
  refine j_pure (pj_assign (has_tmp rfl)) rfl rfl rfl ?_
  refine j_end ?_
  refine run_cond (has_tmp rfl) (fun e2 => ?_) (fun e2 => ?_)
  · replace h := bt e2 h
    refine run_seq ?_
    refine run_text ?_
    refine j_assign_nil (T := 5) u8 rfl fun v2 => ?_
    refine j_pure (pj_assign has_i64) rfl rfl rfl ?_
    refine j_end ?_
    obtain rfl := Option.some.inj h
    exact run_ret fun a w hst => q_retN hst rfl (.cons (.tmp rfl) <| .cons (.tmp rfl) <| .nil) rfl (v_w0, v2) (fun _ _ h => h) (.cons (.next (.next .here)) <| .cons (.next (.next .here)) <| .cons .here <| .nil)
  · replace h := bf e2 h
    refine run_skip ?_
    refine run_endblock ?_
    refine run_seq ?_
    refine run_text ?_
    refine j_pure (pj_move (has_tmp rfl)) rfl rfl rfl ?_
    refine j_pure (pj_nilCheck_ptr (has_tmp rfl)) rfl rfl rfl ?_
    refine j_pure (pj_field_ptr (off := 0) (has_tmp rfl) (by kernel_rfl)) rfl rfl rfl ?_
    refine j_pure (pj_load_box (has_tmp rfl) (.next .here) (Path.then (Path.all (prod (exv v_w0) bl)) (Path.fst (exv v_w0) bl)) (by kernel_rfl)) rfl rfl rfl ?_
    obtain ⟨r1, e3, h⟩ := bind_some h
    refine j_callB (hasBL_cons (hasB_own (has_tmp rfl) (.next (.next .here))) <| hasBL_nil) (by kernel_rfl) (c_slices_Clone_byte_byte e3) (fun i => Rep.flat_slot (flat_exv i) _) (fun i e he => by rw [List.mem_singleton.1 he]; exact own_flat (flat_un _ _) _ _) rfl fun v3 => ?_
    refine j_pure (pj_assign (has_tmp rfl)) rfl rfl rfl ?_
    refine j_pure (pj_assign has_i64) rfl rfl rfl ?_
    refine j_end ?_
    obtain rfl := Option.some.inj h
    exact run_ret fun a w hst => q_retN hst rfl (.cons (.tmp rfl) <| .cons (.tmp rfl) <| .nil) rfl (v_w0, v3) (fun _ _ h => h) (.cons (.next (.next .here)) <| .cons (.next (.next .here)) <| .cons .here <| .nil)
set_option maxRecDepth 100000 in
set_option maxHeartbeats 4000000 in
theorem c_head_Head_is {G : GP} {p_h : T_head_Head} {r : Bool} (h : head_Head_is p_h = some r) : Ctr Try.prog G 19 [R_head_Head.slot p_h] [] (fun (_ : Unit) => bl.slot r) (fun (_ : Unit) => []) := by
  unfold head_Head_is at h
  refine ctr_of_run Try.func19 rfl 21 rfl rfl fun m0 w0 b0 => ?_
  show Run _ _ _ [(0, R_head_Head.slot p_h)] _
  refine run_seq ?_
  refine run_text ?_
  refine j_pure (pj_box_to (has_tmp rfl)) rfl rfl rfl ?_
  refine j_pure (pj_assign has_bl) rfl rfl rfl ?_
  refine j_end ?_
  refine run_seq ?_
  refine run_text ?_
  refine j_pure (pj_field_to (has_tmp rfl) (Path.fst i64 (prod i64 (prod R_api_Hash R_api_Hash))) (by kernel_rfl)) rfl rfl rfl ?_
  refine j_pure (pj_load_to (has_tmp rfl) (by kernel_rfl)) rfl rfl rfl ?_
  refine j_pure (pj_igeq (has_tmp rfl) has_i64) rfl rfl rfl ?_
  refine j_pure (pj_move (has_tmp rfl)) rfl rfl rfl ?_
  obtain ⟨y1, e2, h⟩ := bind_some h
  refine j_joinx (ι := Unit) (Γ' := fun _ => [(1, ptrTo R_head_Head p_h), (10, bl.slot y1)]) (H' := fun _ => []) 4 ?_ fun J => ?_
  · intro _
    clear e2
    show OpsJ _ _ _ [(1, ptrTo R_head_Head p_h), (10, bl.slot y1)] [] _
    refine j_pure (pj_move (has_tmp rfl)) rfl rfl rfl ?_
    obtain ⟨y2, e4, h⟩ := bind_some h
    refine j_joinx (ι := Unit) (Γ' := fun _ => [(1, ptrTo R_head_Head p_h), (15, bl.slot y2)]) (H' := fun _ => []) 4 ?_ fun J => ?_
    · intro _
      clear e4
      show OpsJ _ _ _ [(1, ptrTo R_head_Head p_h), (15, bl.slot y2)] [] _
      refine j_pure (pj_move (has_tmp rfl)) rfl rfl rfl ?_
      obtain ⟨y3, e6, h⟩ := bind_some h
      refine j_joinx (ι := Unit) (Γ' := fun _ => [(20, bl.slot y3)]) (H' := fun _ => []) 4 ?_ fun J => ?_
      · intro _
        clear e6
        show OpsJ _ _ _ [(20, bl.slot y3)] [] _
        refine j_pure (pj_assign (has_tmp rfl)) rfl rfl rfl ?_
        refine j_end ?_
        obtain rfl := Option.some.inj h
        exact run_ret fun a w hst => q_ret1 hst rfl (.tmp rfl) () (fun _ _ h => h) (.nil)
      · rcases bool_tf (y2) with e5 | e5
        · replace e6 := bt e5 e6
          refine j_pure_y (pj_field_to (has_tmp rfl) (Path.then (Path.snd i64 (prod i64 (prod R_api_Hash R_api_Hash))) (Path.fst i64 (prod R_api_Hash R_api_Hash))) (by kernel_rfl)) rfl rfl rfl rfl (bl_isx e5) rfl rfl ?_
          refine j_pure_y (pj_load_to (has_tmp rfl) (by kernel_rfl)) rfl rfl rfl rfl (bl_isx e5) rfl rfl ?_
          refine j_pure_y (pj_ilss (has_tmp rfl) has_i64) rfl rfl rfl rfl (bl_isx e5) rfl rfl ?_
          refine j_pure (PJ.eqv (R := bl) (pj_pick (t := any) (has_tmp rfl) (fun _ => (has_tmp rfl)) (fun he => absurd (e5.symm.trans he) (by decide))) (Option.some.inj e6)) rfl rfl rfl ?_
          exact j_to (.cons (.of_lk rfl) <| .nil) (.nil) (J ())
        · replace e6 := bf e5 e6
          refine j_guard_no2 (j := 13) (want := true) rfl rfl rfl rfl (bl_isx e5) rfl rfl rfl ?_
          refine j_guard_no2 (j := 13) (want := true) rfl rfl rfl rfl (bl_isx e5) rfl rfl rfl ?_
          refine j_guard_no2 (j := 13) (want := true) rfl rfl rfl rfl (bl_isx e5) rfl rfl rfl ?_
          refine j_pure (PJ.eqv (R := bl) (pj_pick (t := any) (has_tmp rfl) (fun he => absurd (e5.symm.trans he) (by decide)) (fun _ => has_bl)) (Option.some.inj e6)) rfl rfl rfl ?_
          exact j_to (.cons (.of_lk rfl) <| .nil) (.nil) (J ())
    · rcases bool_tf (y1) with e3 | e3
      · replace e4 := bt e3 e4
        refine j_pure_y (pj_field_to (has_tmp rfl) (Path.then (Path.snd i64 (prod i64 (prod R_api_Hash R_api_Hash))) (Path.fst i64 (prod R_api_Hash R_api_Hash))) (by kernel_rfl)) rfl rfl rfl rfl (bl_isx e3) rfl rfl ?_
        refine j_pure_y (pj_load_to (has_tmp rfl) (by kernel_rfl)) rfl rfl rfl rfl (bl_isx e3) rfl rfl ?_
        refine j_pure_y (pj_igeq (has_tmp rfl) has_i64) rfl rfl rfl rfl (bl_isx e3) rfl rfl ?_
        refine j_pure (PJ.eqv (R := bl) (pj_pick (t := any) (has_tmp rfl) (fun _ => (has_tmp rfl)) (fun he => absurd (e3.symm.trans he) (by decide))) (Option.some.inj e4)) rfl rfl rfl ?_
        exact j_to (.cons (.of_lk rfl) <| .cons (.of_lk rfl) <| .nil) (.nil) (J ())
      · replace e4 := bf e3 e4
        refine j_guard_no2 (j := 8) (want := true) rfl rfl rfl rfl (bl_isx e3) rfl rfl rfl ?_
        refine j_guard_no2 (j := 8) (want := true) rfl rfl rfl rfl (bl_isx e3) rfl rfl rfl ?_
        refine j_guard_no2 (j := 8) (want := true) rfl rfl rfl rfl (bl_isx e3) rfl rfl rfl ?_
        refine j_pure (PJ.eqv (R := bl) (pj_pick (t := any) (has_tmp rfl) (fun he => absurd (e3.symm.trans he) (by decide)) (fun _ => has_bl)) (Option.some.inj e4)) rfl rfl rfl ?_
        exact j_to (.cons (.of_lk rfl) <| .cons (.of_lk rfl) <| .nil) (.nil) (J ())
  · rcases bool_tf (decide ((1 : Int) ≤ p_h.1)) with e1 | e1
    · replace e2 := bt e1 e2
      refine j_pure_y (pj_field_to (has_tmp rfl) (Path.fst i64 (prod i64 (prod R_api_Hash R_api_Hash))) (by kernel_rfl)) rfl rfl rfl rfl (bl_isx e1) rfl rfl ?_
      refine j_pure_y (pj_load_to (has_tmp rfl) (by kernel_rfl)) rfl rfl rfl rfl (bl_isx e1) rfl rfl ?_
      refine j_pure_y (pj_ilss (has_tmp rfl) has_i64) rfl rfl rfl rfl (bl_isx e1) rfl rfl ?_
      refine j_pure (PJ.eqv (R := bl) (pj_pick (t := any) (has_tmp rfl) (fun _ => (has_tmp rfl)) (fun he => absurd (e1.symm.trans he) (by decide))) (Option.some.inj e2)) rfl rfl rfl ?_
      exact j_to (.cons (.of_lk rfl) <| .cons (.of_lk rfl) <| .nil) (.nil) (J ())
    · replace e2 := bf e1 e2
      refine j_guard_no2 (j := 3) (want := true) rfl rfl rfl rfl (bl_isx e1) rfl rfl rfl ?_
      refine j_guard_no2 (j := 3) (want := true) rfl rfl rfl rfl (bl_isx e1) rfl rfl rfl ?_
      refine j_guard_no2 (j := 3) (want := true) rfl rfl rfl rfl (bl_isx e1) rfl rfl rfl ?_
      refine j_pure (PJ.eqv (R := bl) (pj_pick (t := any) (has_tmp rfl) (fun he => absurd (e1.symm.trans he) (by decide)) (fun _ => has_bl)) (Option.some.inj e2)) rfl rfl rfl ?_
      exact j_to (.cons (.of_lk rfl) <| .cons (.of_lk rfl) <| .nil) (.nil) (J ())
set_option maxRecDepth 100000 in
set_option maxHeartbeats 4000000 in
theorem c_wire_Writer_number {G : GP} {p_w : (List (BitVec 8)) × Bool} {p_x : BitVec 64} {p_bytes : Int} {b_w : Nat} {v_w0 : Value} {r : ((List (BitVec 8)) × Bool)} (h : wire_Writer_number p_w p_x p_bytes = some r) : Ctr Try.prog G 32 [val (.pointer (some ⟨b_w, 0, none⟩)), u64.slot p_x, i64.slot p_bytes] [box b_w 40 (prod (exv v_w0) bl) ((), p_w.2), own 5 u8 v_w0 p_w.1] (fun (u0 : Value) => tup []) (fun (u0 : Value) => [box b_w 40 (prod (exv u0) bl) ((), r.2), own 5 u8 u0 r.1]) := by
  unfold wire_Writer_number at h
  refine ctr_of_run Try.func32 rfl 35 rfl rfl fun m0 w0 b0 => ?_
  show Run _ _ _ [(0, val (.pointer (some ⟨b_w, 0, none⟩))), (1, u64.slot p_x), (2, i64.slot p_bytes)] _
  refine run_seq ?_
  refine run_seq ?_
  refine run_text ?_
  refine j_pure (pj_move (has_tmp rfl)) rfl rfl rfl ?_
  refine j_pure (pj_eq_nil_val (E := 40) (by kernel_rfl) (has_tmp rfl)) rfl rfl rfl ?_
  refine j_pure (pj_move (has_tmp rfl)) rfl rfl rfl ?_
  obtain ⟨y1, e2, h⟩ := bind_some h
  refine j_joinx (ι := Unit) (Γ' := fun _ => [(0, val (.pointer (some ⟨b_w, 0, none⟩))), (1, u64.slot p_x), (2, i64.slot p_bytes), (14, bl.slot y1)]) (H' := fun _ => [box b_w 40 (prod (exv v_w0) bl) ((), p_w.2), own 5 u8 v_w0 p_w.1]) 5 ?_ fun J => ?_
  · intro _
    clear e2
    show OpsJ _ _ _ [(0, val (.pointer (some ⟨b_w, 0, none⟩))), (1, u64.slot p_x), (2, i64.slot p_bytes), (14, bl.slot y1)] [box b_w 40 (prod (exv v_w0) bl) ((), p_w.2), own 5 u8 v_w0 p_w.1] _
    refine j_end ?_
    refine run_cond (has_tmp rfl) (fun e3 => ?_) (fun e3 => ?_)
    · replace h := bt e3 h
      obtain rfl := Option.some.inj h
      exact run_ret fun a w hst => q_retN hst rfl (.nil) rfl v_w0 (fun _ _ h => h) (.cons .here <| .cons .here <| .nil)
    · replace h := bf e3 h
      refine run_skip ?_
      refine run_seq ?_
      refine run_text ?_
      refine j_pure (pj_move (has_tmp rfl)) rfl rfl rfl ?_
      refine j_pure (pj_isub (has_tmp rfl) has_i64) rfl rfl rfl ?_
      refine j_pure (pj_assign (has_tmp rfl)) rfl rfl rfl ?_
      refine j_end ?_
      obtain ⟨⟨y4, y5⟩, e7, h⟩ := bind_some h
      refine run_loopS (Γi := fun (i : Value) (s : Int × (List (BitVec 8))) => [(0, val (.pointer (some ⟨b_w, 0, none⟩))), (1, u64.slot p_x), (6, i64.slot s.1)]) (Hi := fun (i : Value) (s : Int × (List (BitVec 8))) => [box b_w 40 (prod (exv i) bl) ((), p_w.2), own 5 u8 i s.2]) e7 v_w0 (fun a w hst => (hst.sub (.cons (.of_lk rfl) <| .cons (.of_lk rfl) <| .cons (.of_lk rfl) <| .nil)).keep (.cons .here <| .cons .here <| .nil)) ?_ ?_
      · clear h e7
        rintro v1 ⟨y2, y3⟩ lr h
        change wire_Writer_number_L1 p_x y2 y3 = some _ at h
        show Run _ _ _ [(0, val (.pointer (some ⟨b_w, 0, none⟩))), (1, u64.slot p_x), (6, i64.slot y2)] [box b_w 40 (prod (exv v1) bl) ((), p_w.2), own 5 u8 v1 y3]
        unfold wire_Writer_number_L1 at h
        refine run_seq ?_
        refine run_seq ?_
        refine run_text ?_
        refine j_pure (pj_move (has_tmp rfl)) rfl rfl rfl ?_
        refine j_pure (pj_igeq (has_tmp rfl) has_i64) rfl rfl rfl ?_
        refine j_end ?_
        refine run_cond (has_tmp rfl) (fun e4 => ?_) (fun e4 => ?_)
        · replace h := bt e4 h
          refine run_skip ?_
          refine run_seq ?_
          refine run_block ?_
          obtain ⟨e5, h⟩ := grd_some h
          obtain ⟨e6, h⟩ := grd_some h
          refine run_keep (H' := [own 5 u8 v1 y3, box b_w 40 (prod (exv v1) bl) ((), p_w.2)]) (.cons (.next .here) <| .cons .here <| .nil) ?_
          refine run_drawL (n := 12) (H := [box b_w 40 (prod (exv v1) bl) ((), p_w.2)]) (Ls := [⟨[own 5 u8 v1 y3], [(11, ⟨Value, fun (v2 : Value) => [own 5 u8 v2 (y3 ++ ([(p_x >>> ((w64 ((8 : Int) * y2)).toNat)).setWidth 8]))], fun (v2 : Value) => [(32, ov v2)]⟩)]⟩]) (by kernel_rfl) (by kernel_rfl) (by kernel_rfl) (by kernel_rfl) (by kernel_rfl) rfl (.read rfl (.plain rfl (pj_move (has_tmp rfl))) <| .read rfl (.plain rfl (pj_move (has_tmp rfl))) <| .read rfl (.plain rfl (pj_nilCheck_ptr (has_tmp rfl))) <| .read rfl (.plain rfl (pj_field_ptr (off := 0) (has_tmp rfl) (by kernel_rfl))) <| .read rfl (.plain rfl (pj_load_box (has_tmp rfl) .here (Path.then (Path.all (prod (exv v1) bl)) (Path.fst (exv v1) bl)) (by kernel_rfl))) <| .read rfl (.plain rfl (pj_move (has_tmp rfl))) <| .read rfl (.plain rfl (pj_move (has_tmp rfl))) <| .read rfl (.plain rfl (pj_imul has_i64 (has_tmp rfl))) <| .read rfl (.plain rfl (pj_ushr (k := .u64) (b := 64) rfl (has_tmp rfl) (has_tmp rfl) isInt_i64 e5)) <| .read rfl (.plain rfl (pj_conv_uu (k := .u8) (b := 8) rfl rfl (by kernel_rfl) (has_tmp rfl))) <| .read rfl (.plain rfl (pj_buildSlice (T := 5) (R := u8) (.cons (has_tmp rfl) .nil) rfl (by kernel_rfl) (by kernel_rfl))) <| .step 0 rfl .here (.inl rfl) (fun i => ⟨_, _, fun j => j, (w_append (T := 5) (E := 5) (has_tmp rfl) .here (src_data (has_tmp rfl)) (by kernel_rfl) (by kernel_rfl) e6 rfl), fun _ => rfl, slotAny, dst1⟩) <| .nil) ?_
          rintro v2
          refine j_to (Γ' := [(0, val (.pointer (some ⟨b_w, 0, none⟩))), (1, u64.slot p_x), (6, i64.slot y2), (21, val (.pointer (some ⟨b_w, 0, none⟩))), (32, ov v2)]) (H' := [own 5 u8 v2 (y3 ++ ([(p_x >>> ((w64 ((8 : Int) * y2)).toNat)).setWidth 8])), box b_w 40 (prod (exv v1) bl) ((), p_w.2)]) (.cons (.of_lk rfl) <| .cons (.of_lk rfl) <| .cons (.of_lk rfl) <| .cons (.of_lk rfl) <| .cons (.of_lk rfl) <| .nil) (.cons .here <| .cons .here <| .nil) ?_
          refine j_pure (pj_nilCheck_ptr (has_tmp rfl)) rfl rfl rfl ?_
          refine j_pure (pj_field_ptr (off := 0) (has_tmp rfl) (by kernel_rfl)) rfl rfl rfl ?_
          refine j_store_exv (has_tmp rfl) (has_tmp rfl) (.next .here) (by kernel_rfl) ?_
          refine j_end ?_
          refine run_endblock ?_
          refine run_text ?_
          refine j_pure (pj_move (has_tmp rfl)) rfl rfl rfl ?_
          refine j_pure (pj_isub (has_tmp rfl) has_i64) rfl rfl rfl ?_
          refine j_pure (pj_assign (has_tmp rfl)) rfl rfl rfl ?_
          refine j_end ?_
          obtain rfl := Option.some.inj h
          exact run_next v2 (.cons (.of_lk rfl) <| .cons (.of_lk rfl) <| .cons (.of_lk rfl) <| .nil) (.cons .here <| .cons .here <| .nil)
        · replace h := bf e4 h
          obtain rfl := Option.some.inj h
          exact run_brk v1 (.cons (.of_lk rfl) <| .cons (.of_lk rfl) <| .cons (.of_lk rfl) <| .nil) (.cons .here <| .cons .here <| .nil)
      · rintro v3
        show Run _ _ _ [(0, val (.pointer (some ⟨b_w, 0, none⟩))), (1, u64.slot p_x), (6, i64.slot y4)] [box b_w 40 (prod (exv v3) bl) ((), p_w.2), own 5 u8 v3 y5]
        refine run_to (Γ' := []) (H' := [box b_w 40 (prod (exv v3) bl) ((), p_w.2), own 5 u8 v3 y5]) (.nil) (.cons .here <| .cons .here <| .nil) ?_
        obtain rfl := Option.some.inj h
        exact run_nil fun a w hst => q_retN_n hst rfl (.nil) rfl v3 (fun _ _ h => h) (.cons .here <| .cons .here <| .nil)
  · have e1 : (false) = false := rfl
    refine j_pure_y (pj_move (has_tmp rfl)) rfl rfl rfl rfl (bl_isx e1) rfl rfl ?_
    refine j_pure_y (pj_nilCheck_ptr (has_tmp rfl)) rfl rfl rfl rfl (bl_isx e1) rfl rfl ?_
    refine j_pure_y (pj_field_ptr (off := 1) (has_tmp rfl) (by kernel_rfl)) rfl rfl rfl rfl (bl_isx e1) rfl rfl ?_
    refine j_pure_y (pj_load_box (has_tmp rfl) .here (Path.then (Path.all (prod (exv v_w0) bl)) (Path.snd (exv v_w0) bl)) (by kernel_rfl)) rfl rfl rfl rfl (bl_isx e1) rfl rfl ?_
    refine j_pure (PJ.eqv (R := bl) (pj_pick (t := any) (has_tmp rfl) (fun he => absurd (e1.symm.trans he) (by decide)) (fun _ => (has_tmp rfl))) (Option.some.inj e2)) rfl rfl rfl ?_
    exact j_to (.cons (.of_lk rfl) <| .cons (.of_lk rfl) <| .cons (.of_lk rfl) <| .cons (.of_lk rfl) <| .nil) (.cons .here <| .cons .here <| .nil) (J ())
set_option maxRecDepth 100000 in
set_option maxHeartbeats 4000000 in
theorem c_wire_Writer_U32 {G : GP} {p_w : (List (BitVec 8)) × Bool} {p_x : BitVec 32} {b_w : Nat} {v_w0 : Value} {r : ((List (BitVec 8)) × Bool)} (h : wire_Writer_U32 p_w p_x = some r) : Ctr Try.prog G 20 [val (.pointer (some ⟨b_w, 0, none⟩)), u32.slot p_x] [box b_w 40 (prod (exv v_w0) bl) ((), p_w.2), own 5 u8 v_w0 p_w.1] (fun (u0 : Value) => tup []) (fun (u0 : Value) => [box b_w 40 (prod (exv u0) bl) ((), r.2), own 5 u8 u0 r.1]) := by
  unfold wire_Writer_U32 at h
  refine ctr_of_run Try.func20 rfl 8 rfl rfl fun m0 w0 b0 => ?_
  show Run _ _ _ [(0, val (.pointer (some ⟨b_w, 0, none⟩))), (1, u32.slot p_x)] _
  refine run_text ?_
  refine j_pure (pj_move (has_tmp rfl)) rfl rfl rfl ?_
  refine j_pure (pj_move (has_tmp rfl)) rfl rfl rfl ?_
  refine j_pure (pj_conv_uu (k := .u64) (b := 64) rfl rfl (by kernel_rfl) (has_tmp rfl)) rfl rfl rfl ?_
  obtain ⟨r1, e1, h⟩ := bind_some h
  refine j_call (hasL_cons (has_tmp rfl) <| hasL_cons (has_tmp rfl) <| hasL_cons has_i64 <| hasL_nil) (by kernel_rfl) (c_wire_Writer_number e1) (.cons .here <| .cons .here <| .nil) rfl fun v1 => ?_
  refine j_end ?_
  obtain rfl := Option.some.inj h
  exact run_nil fun a w hst => q_retN_n hst rfl (.nil) rfl v1 (fun _ _ h => h) (.cons .here <| .cons .here <| .nil)
set_option maxRecDepth 100000 in
set_option maxHeartbeats 4000000 in
theorem c_wire_Writer_Plain {G : GP} {p_w : (List (BitVec 8)) × Bool} {p_b : List (BitVec 8)} {b_w : Nat} {v_w0 : Value} {r : ((List (BitVec 8)) × Bool)} (h : wire_Writer_Plain p_w p_b = some r) : Ctr Try.prog G 21 [val (.pointer (some ⟨b_w, 0, none⟩)), (sl u8).slot p_b] [box b_w 40 (prod (exv v_w0) bl) ((), p_w.2), own 5 u8 v_w0 p_w.1] (fun (u0 : Value) => tup []) (fun (u0 : Value) => [box b_w 40 (prod (exv u0) bl) ((), r.2), own 5 u8 u0 r.1]) := by
  unfold wire_Writer_Plain at h
  refine ctr_of_run Try.func21 rfl 22 rfl rfl fun m0 w0 b0 => ?_
  show Run _ _ _ [(0, val (.pointer (some ⟨b_w, 0, none⟩))), (1, (sl u8).slot p_b)] _
  refine run_seq ?_
  refine run_text ?_
  refine j_pure (pj_move (has_tmp rfl)) rfl rfl rfl ?_
  refine j_pure (pj_ne_nil_val (E := 40) (by kernel_rfl) (has_tmp rfl)) rfl rfl rfl ?_
  refine j_pure (pj_move (has_tmp rfl)) rfl rfl rfl ?_
  obtain ⟨y1, e2, h⟩ := bind_some h
  refine j_joinx (ι := Unit) (Γ' := fun _ => [(0, val (.pointer (some ⟨b_w, 0, none⟩))), (1, (sl u8).slot p_b), (12, bl.slot y1)]) (H' := fun _ => [box b_w 40 (prod (exv v_w0) bl) ((), p_w.2), own 5 u8 v_w0 p_w.1]) 6 ?_ fun J => ?_
  · intro _
    clear e2
    show OpsJ _ _ _ [(0, val (.pointer (some ⟨b_w, 0, none⟩))), (1, (sl u8).slot p_b), (12, bl.slot y1)] [box b_w 40 (prod (exv v_w0) bl) ((), p_w.2), own 5 u8 v_w0 p_w.1] _
    refine j_end ?_
    refine run_cond (has_tmp rfl) (fun e3 => ?_) (fun e3 => ?_)
    · replace h := bt e3 h
      refine run_text ?_
      refine j_pure (pj_move (has_tmp rfl)) rfl rfl rfl ?_
      refine j_pure (pj_move (has_tmp rfl)) rfl rfl rfl ?_
      refine j_pure (pj_nilCheck_ptr (has_tmp rfl)) rfl rfl rfl ?_
      refine j_pure (pj_field_ptr (off := 0) (has_tmp rfl) (by kernel_rfl)) rfl rfl rfl ?_
      refine j_pure (pj_load_box (has_tmp rfl) .here (Path.then (Path.all (prod (exv v_w0) bl)) (Path.fst (exv v_w0) bl)) (by kernel_rfl)) rfl rfl rfl ?_
      refine j_pure (pj_move (has_tmp rfl)) rfl rfl rfl ?_
      obtain ⟨e4, h⟩ := grd_some h
      refine j_append (T := 5) (E := 5) (has_tmp rfl) (.next .here) (src_data (has_tmp rfl)) (by kernel_rfl) (by kernel_rfl) e4 rfl fun v1 => ?_
      refine j_pure (pj_nilCheck_ptr (has_tmp rfl)) rfl rfl rfl ?_
      refine j_pure (pj_field_ptr (off := 0) (has_tmp rfl) (by kernel_rfl)) rfl rfl rfl ?_
      refine j_store_exv (has_tmp rfl) (has_tmp rfl) (.next .here) (by kernel_rfl) ?_
      refine j_end ?_
      obtain rfl := Option.some.inj h
      exact run_nil fun a w hst => q_retN_n hst rfl (.nil) rfl v1 (fun _ _ h => h) (.cons .here <| .cons .here <| .nil)
    · replace h := bf e3 h
      refine run_skip ?_
      obtain rfl := Option.some.inj h
      exact run_nil fun a w hst => q_retN_n hst rfl (.nil) rfl v_w0 (fun _ _ h => h) (.cons .here <| .cons .here <| .nil)
  · have e1 : (true) = true := rfl
    refine j_pure_y (pj_move (has_tmp rfl)) rfl rfl rfl rfl (bl_isx e1) rfl rfl ?_
    refine j_pure_y (pj_nilCheck_ptr (has_tmp rfl)) rfl rfl rfl rfl (bl_isx e1) rfl rfl ?_
    refine j_pure_y (pj_field_ptr (off := 1) (has_tmp rfl) (by kernel_rfl)) rfl rfl rfl rfl (bl_isx e1) rfl rfl ?_
    refine j_pure_y (pj_load_box (has_tmp rfl) .here (Path.then (Path.all (prod (exv v_w0) bl)) (Path.snd (exv v_w0) bl)) (by kernel_rfl)) rfl rfl rfl rfl (bl_isx e1) rfl rfl ?_
    refine j_pure_y (pj_not (has_tmp rfl)) rfl rfl rfl rfl (bl_isx e1) rfl rfl ?_
    refine j_pure (PJ.eqv (R := bl) (pj_pick (t := any) (has_tmp rfl) (fun _ => (has_tmp rfl)) (fun he => absurd (e1.symm.trans he) (by decide))) (Option.some.inj e2)) rfl rfl rfl ?_
    exact j_to (.cons (.of_lk rfl) <| .cons (.of_lk rfl) <| .cons (.of_lk rfl) <| .nil) (.cons .here <| .cons .here <| .nil) (J ())
set_option maxRecDepth 100000 in
set_option maxHeartbeats 4000000 in
theorem c_head_Encode {G : GP} {p_h : T_head_Head} {r : (List (BitVec 8)) × Int} (h : head_Encode p_h = some r) : Ctr Try.prog G 6 [R_head_Head.slot p_h] [] (fun (u0 : Value) => tup [ov u0, i64.slot r.2]) (fun (u0 : Value) => [own 5 u8 u0 r.1]) := by
  unfold head_Encode at h
  refine ctr_of_run Try.func6 rfl 32 rfl rfl fun m0 w0 b0 => ?_
  show Run _ _ _ [(0, R_head_Head.slot p_h)] _
  refine run_seq ?_
  refine run_text ?_
  refine j_pure (pj_box_to (has_tmp rfl)) rfl rfl rfl ?_
  refine j_assign_nil (T := 5) u8 rfl fun v1 => ?_
  refine j_pure (pj_assign has_i64) rfl rfl rfl ?_
  refine j_end ?_
  refine run_seq ?_
  refine run_seq ?_
  refine run_text ?_
  refine j_pure (pj_load_to (has_tmp rfl) (by kernel_rfl)) rfl rfl rfl ?_
  obtain ⟨r1, e1, h⟩ := bind_some h
  refine j_pure (pj_call (hasL_cons (has_tmp rfl) <| hasL_nil) (by kernel_rfl) (c_head_Head_is e1)) rfl rfl rfl ?_
  refine j_pure (pj_not (has_tmp rfl)) rfl rfl rfl ?_
  refine j_end ?_
  refine run_cond (has_tmp rfl) (fun e2 => ?_) (fun e2 => ?_)
  · replace h := bt e2 h
    refine run_seq ?_
    refine run_text ?_
    refine j_assign_nil (T := 5) u8 rfl fun v2 => ?_
    refine j_pure (pj_assign has_i64) rfl rfl rfl ?_
    refine j_end ?_
    obtain rfl := Option.some.inj h
    exact run_ret fun a w hst => q_retN hst rfl (.cons (.tmp rfl) <| .cons (.tmp rfl) <| .nil) rfl v2 (fun _ _ h => h) (.cons .here <| .nil)
  · replace h := bf e2 h
    refine run_skip ?_
    refine run_seq ?_
    refine run_text ?_
    refine j_pure (pj_build (R := prod (exv (.slice none 0 0)) bl) (zero_prod zero_exv zero_bl) (by kernel_rfl) (by kernel_rfl) rfl .nil) rfl rfl rfl ?_
    refine j_box_w (T1 := 5) u8 (has_tmp rfl) rfl fun b1 v3 => ?_
    refine j_pure (pj_assign (has_tmp rfl)) rfl rfl rfl ?_
    refine j_end ?_
    refine run_seq ?_
    refine run_text ?_
    refine j_pure (pj_move (has_tmp rfl)) rfl rfl rfl ?_
    refine j_pure (pj_field_to (has_tmp rfl) (Path.fst i64 (prod i64 (prod R_api_Hash R_api_Hash))) (by kernel_rfl)) rfl rfl rfl ?_
    refine j_pure (pj_load_to (has_tmp rfl) (by kernel_rfl)) rfl rfl rfl ?_
    refine j_pure (pj_conv_un (k := .u32) (b := 32) rfl rfl (by kernel_rfl) (has_tmp rfl) isInt_i64) rfl rfl rfl ?_
    obtain ⟨r2, e3, h⟩ := bind_some h
    refine j_call (hasL_cons (has_tmp rfl) <| hasL_cons (has_tmp rfl) <| hasL_nil) (by kernel_rfl) (c_wire_Writer_U32 e3) (.cons (.next .here) <| .cons .here <| .nil) rfl fun v4 => ?_
    refine j_end ?_
    refine run_seq ?_
    refine run_text ?_
    refine j_pure (pj_move (has_tmp rfl)) rfl rfl rfl ?_
    refine j_pure (pj_field_to (has_tmp rfl) (Path.then (Path.snd i64 (prod i64 (prod R_api_Hash R_api_Hash))) (Path.fst i64 (prod R_api_Hash R_api_Hash))) (by kernel_rfl)) rfl rfl rfl ?_
    refine j_pure (pj_load_to (has_tmp rfl) (by kernel_rfl)) rfl rfl rfl ?_
    refine j_pure (pj_conv_un (k := .u32) (b := 32) rfl rfl (by kernel_rfl) (has_tmp rfl) isInt_i64) rfl rfl rfl ?_
    obtain ⟨r3, e4, h⟩ := bind_some h
    refine j_call (hasL_cons (has_tmp rfl) <| hasL_cons (has_tmp rfl) <| hasL_nil) (by kernel_rfl) (c_wire_Writer_U32 e4) (.cons .here <| .cons .here <| .nil) rfl fun v5 => ?_
    refine j_end ?_
    refine run_seq ?_
    refine run_text ?_
    refine j_pure (pj_move (has_tmp rfl)) rfl rfl rfl ?_
    refine j_pure (pj_field_to (has_tmp rfl) (Path.then (Path.snd i64 (prod i64 (prod R_api_Hash R_api_Hash))) (Path.then (Path.snd i64 (prod R_api_Hash R_api_Hash)) (Path.fst R_api_Hash R_api_Hash))) (by kernel_rfl)) rfl rfl rfl ?_
    refine j_pure (pj_slice_toF (has_tmp rfl) (by decide) (by kernel_rfl)) rfl rfl rfl ?_
    obtain ⟨r4, e5, h⟩ := bind_some h
    refine j_call (hasL_cons (has_tmp rfl) <| hasL_cons (has_tmp rfl) <| hasL_nil) (by kernel_rfl) (c_wire_Writer_Plain e5) (.cons .here <| .cons .here <| .nil) rfl fun v6 => ?_
    refine j_end ?_
    refine run_seq ?_
    refine run_text ?_
    refine j_pure (pj_move (has_tmp rfl)) rfl rfl rfl ?_
    refine j_pure (pj_field_to (has_tmp rfl) (Path.then (Path.snd i64 (prod i64 (prod R_api_Hash R_api_Hash))) (Path.then (Path.snd i64 (prod R_api_Hash R_api_Hash)) (Path.snd R_api_Hash R_api_Hash))) (by kernel_rfl)) rfl rfl rfl ?_
    refine j_pure (pj_slice_toF (has_tmp rfl) (by decide) (by kernel_rfl)) rfl rfl rfl ?_
    obtain ⟨r5, e6, h⟩ := bind_some h
    refine j_call (hasL_cons (has_tmp rfl) <| hasL_cons (has_tmp rfl) <| hasL_nil) (by kernel_rfl) (c_wire_Writer_Plain e6) (.cons .here <| .cons .here <| .nil) rfl fun v7 => ?_
    refine j_end ?_
    refine run_seq ?_
    refine run_text ?_
    refine j_pure (pj_move (has_tmp rfl)) rfl rfl rfl ?_
    obtain ⟨r6, e7, h⟩ := bind_some h
    refine j_call (hasL_cons (has_tmp rfl) <| hasL_nil) (by kernel_rfl) (c_wire_Writer_Out e7) (.cons .here <| .cons .here <| .nil) rfl fun ⟨v8, v9⟩ => ?_
    refine j_pure (pj_extract (has_tmp rfl) rfl) rfl rfl rfl ?_
    refine j_pure (pj_extract (has_tmp rfl) rfl) rfl rfl rfl ?_
    refine j_pure (pj_assign (has_tmp rfl)) rfl rfl rfl ?_
    refine j_pure (pj_assign (has_tmp rfl)) rfl rfl rfl ?_
    refine j_end ?_
    obtain rfl := Option.some.inj h
    exact run_ret fun a w hst => q_retN hst rfl (.cons (.tmp rfl) <| .cons (.tmp rfl) <| .nil) rfl v9 (fun _ _ h => h) (.cons (.next (.next .here)) <| .nil)
set_option maxRecDepth 100000 in
set_option maxHeartbeats 4000000 in
theorem c_rolodexlaw17_awake {G : GP} {r : Bool} (h : rolodexlaw17_awake = some r) : Ctr Try.prog G 5 [] [] (fun (_ : Unit) => bl.slot r) (fun (_ : Unit) => []) := by
  unfold rolodexlaw17_awake at h
  refine ctr_of_run Try.func5 rfl 15 rfl rfl fun m0 w0 b0 => ?_
  show Run _ _ _ [] _
  refine run_seq ?_
  refine run_text ?_
  refine j_pure (pj_assign has_bl) rfl rfl rfl ?_
  refine j_end ?_
  refine run_seq ?_
  refine run_text ?_
  obtain ⟨x1, e1, h⟩ := bind_some h
  refine j_pure (PJ.eqv (pj_build (R := R_head_Head) (zero_prod zero_i64 (zero_prod zero_i64 (zero_prod (zero_vec 32 zero_un) (zero_vec 32 zero_un)))) (by kernel_rfl) (by kernel_rfl) rfl (.cons has_i64 (Path.fst i64 (prod i64 (prod R_api_Hash R_api_Hash))) (by kernel_rfl) (.cons has_i64 (Path.then (Path.snd i64 (prod i64 (prod R_api_Hash R_api_Hash))) (Path.fst i64 (prod R_api_Hash R_api_Hash))) (by kernel_rfl) .nil))) (Option.some.inj e1)) rfl rfl rfl ?_
  obtain ⟨r1, e2, h⟩ := bind_some h
  refine j_pure (pj_call (hasL_cons (has_tmp rfl) <| hasL_nil) (by kernel_rfl) (Ctr.froze2 (c_head_Encode e2))) rfl rfl rfl ?_
  refine j_pure (pj_move (has_tmp rfl)) rfl rfl rfl ?_
  refine j_pure (pj_extract (has_tmp rfl) rfl) rfl rfl rfl ?_
  refine j_pure (pj_extract (has_tmp rfl) rfl) rfl rfl rfl ?_
  refine j_pure (pj_assign (has_tmp rfl)) rfl rfl rfl ?_
  refine j_pure (pj_assign (has_tmp rfl)) rfl rfl rfl ?_
  refine j_end ?_
  refine run_seq ?_
  refine run_text ?_
  refine j_pure (pj_move (has_tmp rfl)) rfl rfl rfl ?_
  refine j_pure (pj_ieql (has_tmp rfl) has_i64) rfl rfl rfl ?_
  refine j_pure (pj_move (has_tmp rfl)) rfl rfl rfl ?_
  obtain ⟨y1, e4, h⟩ := bind_some h
  refine j_joinx (ι := Unit) (Γ' := fun _ => [(14, bl.slot y1)]) (H' := fun _ => []) 4 ?_ fun J => ?_
  · intro _
    clear e4
    show OpsJ _ _ _ [(14, bl.slot y1)] [] _
    refine j_pure (pj_assign (has_tmp rfl)) rfl rfl rfl ?_
    refine j_end ?_
    obtain rfl := Option.some.inj h
    exact run_ret fun a w hst => q_ret1 hst rfl (.tmp rfl) () (fun _ _ h => h) (.nil)
  · rcases bool_tf (decide (r1.2 = (0 : Int))) with e3 | e3
    · replace e4 := bt e3 e4
      refine j_pure_y (pj_move (has_tmp rfl)) rfl rfl rfl rfl (bl_isx e3) rfl rfl ?_
      refine j_pure_y (pj_len_sl (sz := 1) (has_tmp rfl) (by kernel_rfl)) rfl rfl rfl rfl (bl_isx e3) rfl rfl ?_
      refine j_pure_y (pj_ieql (has_tmp rfl) has_i64) rfl rfl rfl rfl (bl_isx e3) rfl rfl ?_
      refine j_pure (PJ.eqv (R := bl) (pj_pick (t := any) (has_tmp rfl) (fun _ => (has_tmp rfl)) (fun he => absurd (e3.symm.trans he) (by decide))) (Option.some.inj e4)) rfl rfl rfl ?_
      exact j_to (.cons (.of_lk rfl) <| .nil) (.nil) (J ())
    · replace e4 := bf e3 e4
      refine j_guard_no2 (j := 2) (want := true) rfl rfl rfl rfl (bl_isx e3) rfl rfl rfl ?_
      refine j_guard_no2 (j := 2) (want := true) rfl rfl rfl rfl (bl_isx e3) rfl rfl rfl ?_
      refine j_guard_no2 (j := 2) (want := true) rfl rfl rfl rfl (bl_isx e3) rfl rfl rfl ?_
      refine j_pure (PJ.eqv (R := bl) (pj_pick (t := any) (has_tmp rfl) (fun he => absurd (e3.symm.trans he) (by decide)) (fun _ => has_bl)) (Option.some.inj e4)) rfl rfl rfl ?_
      exact j_to (.cons (.of_lk rfl) <| .nil) (.nil) (J ())
set_option maxRecDepth 100000 in
set_option maxHeartbeats 4000000 in
theorem c_rolodexref01_Same {G : GP} {p_a : List (BitVec 8)} {p_b : List (BitVec 8)} {r : Bool} (h : rolodexref01_Same p_a p_b = some r) : Ctr Try.prog G 8 [(sl u8).slot p_a, (sl u8).slot p_b] [] (fun (_ : Unit) => bl.slot r) (fun (_ : Unit) => []) := by
  unfold rolodexref01_Same at h
  refine ctr_of_run Try.func8 rfl 26 rfl rfl fun m0 w0 b0 => ?_
  refine run_ret0 fun Qf hq1 hq2 => ?_
  show Run _ _ _ [(0, (sl u8).slot p_a), (1, (sl u8).slot p_b)] _
  refine run_seq ?_
  refine run_text ?_
  refine j_pure (pj_assign has_bl) rfl rfl rfl ?_
  refine j_end ?_
  refine run_seq ?_
  refine run_seq ?_
  refine run_text ?_
  refine j_pure (pj_move (has_tmp rfl)) rfl rfl rfl ?_
  refine j_pure (pj_len_sl (sz := 1) (has_tmp rfl) (by kernel_rfl)) rfl rfl rfl ?_
  refine j_pure (pj_move (has_tmp rfl)) rfl rfl rfl ?_
  refine j_pure (pj_len_sl (sz := 1) (has_tmp rfl) (by kernel_rfl)) rfl rfl rfl ?_
  refine j_pure (pj_ineq (has_tmp rfl) (has_tmp rfl)) rfl rfl rfl ?_
  refine j_end ?_
  refine run_cond (has_tmp rfl) (fun e1 => ?_) (fun e1 => ?_)
  · replace h := bt e1 h
    refine run_seq ?_
    refine run_text ?_
    refine j_pure (pj_assign has_bl) rfl rfl rfl ?_
    refine j_end ?_
    obtain rfl := Option.some.inj h
    exact run_ret fun a w hst => q_ret1 hst rfl (.tmp rfl) () (fun _ _ h => h) (.nil)
  · replace h := bf e1 h
    refine run_skip ?_
    refine run_seq ?_
    refine run_seq ?_
    refine run_text ?_
    refine j_pure (pj_assign has_i64) rfl rfl rfl ?_
    refine j_end ?_
    obtain ⟨o, e6, h⟩ := bind_some h
    refine run_loop (Γi := fun (i : Unit) (s : Int) => [(0, (sl u8).slot p_a), (1, (sl u8).slot p_b), (5, i64.slot s)]) (Hi := fun (i : Unit) (s : Int) => []) (R := fun x a w => x = r → Qf a w) e6 () (fun a w hst => (hst.sub (.cons (.of_lk rfl) <| .cons (.of_lk rfl) <| .cons (.of_lk rfl) <| .nil)).keep (.nil)) ?_ ?_ ?_
    · clear h e6
      rintro _ y1 lr h
      change rolodexref01_Same_L1 p_a p_b y1 = some _ at h
      show Run _ _ _ [(0, (sl u8).slot p_a), (1, (sl u8).slot p_b), (5, i64.slot y1)] []
      unfold rolodexref01_Same_L1 at h
      refine run_seq ?_
      refine run_seq ?_
      refine run_text ?_
      refine j_pure (pj_move (has_tmp rfl)) rfl rfl rfl ?_
      refine j_pure (pj_move (has_tmp rfl)) rfl rfl rfl ?_
      refine j_pure (pj_len_sl (sz := 1) (has_tmp rfl) (by kernel_rfl)) rfl rfl rfl ?_
      refine j_pure (pj_ilss (has_tmp rfl) (has_tmp rfl)) rfl rfl rfl ?_
      refine j_end ?_
      refine run_cond (has_tmp rfl) (fun e2 => ?_) (fun e2 => ?_)
      · replace h := bt e2 h
        refine run_skip ?_
        refine run_seq ?_
        refine run_block ?_
        refine run_seq ?_
        obtain ⟨x1, e3, h⟩ := bind_some h
        obtain ⟨x2, e4, h⟩ := bind_some h
        refine run_draw (n := 8) (by kernel_rfl) (by kernel_rfl) (by kernel_rfl) (by kernel_rfl) (.read (.plain rfl (pj_move (has_tmp rfl))) <| .read (.plain rfl (pj_move (has_tmp rfl))) <| .read (.plain rfl (pj_index_slx (has_tmp rfl) (has_tmp rfl) isInt_i64 e3 (by kernel_rfl))) <| .read (.plain rfl (pj_load_to (has_tmp rfl) (by kernel_rfl))) <| .read (.plain rfl (pj_move (has_tmp rfl))) <| .read (.plain rfl (pj_move (has_tmp rfl))) <| .read (.plain rfl (pj_index_slx (has_tmp rfl) (has_tmp rfl) isInt_i64 e4 (by kernel_rfl))) <| .read (.plain rfl (pj_load_to (has_tmp rfl) (by kernel_rfl))) <| .nil) (j_to (Γ' := [(0, (sl u8).slot p_a), (1, (sl u8).slot p_b), (5, i64.slot y1), (20, u8.slot x1), (24, u8.slot x2)]) (H' := []) (.cons (.of_lk rfl) <| .cons (.of_lk rfl) <| .cons (.of_lk rfl) <| .cons (.of_lk rfl) <| .cons (.of_lk rfl) <| .nil) (.nil) ?_)
        refine j_pure (pj_uneq (k := .u8) (b := 8) (has_tmp rfl) (has_tmp rfl)) rfl rfl rfl ?_
        refine j_end ?_
        refine run_cond (has_tmp rfl) (fun e5 => ?_) (fun e5 => ?_)
        · replace h := bt e5 h
          refine run_seq ?_
          refine run_text ?_
          refine j_pure (pj_assign has_bl) rfl rfl rfl ?_
          refine j_end ?_
          obtain rfl := Option.some.inj h
          refine run_ret fun a w hst => ⟨rfl, fun hr => ?_⟩
          subst hr
          exact hq2 a w (q_ret1 hst rfl (.tmp rfl) () (fun _ _ h => h) (.nil))
        · replace h := bf e5 h
          refine run_skip ?_
          refine run_endblock ?_
          refine run_text ?_
          refine j_pure (pj_move (has_tmp rfl)) rfl rfl rfl ?_
          refine j_pure (pj_iadd (has_tmp rfl) has_i64) rfl rfl rfl ?_
          refine j_pure (pj_assign (has_tmp rfl)) rfl rfl rfl ?_
          refine j_end ?_
          obtain rfl := Option.some.inj h
          exact run_next () (.cons (.of_lk rfl) <| .cons (.of_lk rfl) <| .cons (.of_lk rfl) <| .nil) (.nil)
      · replace h := bf e2 h
        obtain rfl := Option.some.inj h
        exact run_brk () (.cons (.of_lk rfl) <| .cons (.of_lk rfl) <| .cons (.of_lk rfl) <| .nil) (.nil)
    · rintro _ y2 ho
      subst ho
      show Run _ _ _ [(0, (sl u8).slot p_a), (1, (sl u8).slot p_b), (5, i64.slot y2)] []
      refine run_to (Γ' := []) (H' := []) (.nil) (.nil) ?_
      refine run_seq ?_
      refine run_text ?_
      refine j_pure (pj_assign has_bl) rfl rfl rfl ?_
      refine j_end ?_
      obtain rfl := Option.some.inj h
      exact run_ret fun a w hst => q_ret1 hst rfl (.tmp rfl) () (fun _ _ h => h) (.nil)
    · intro x a w ho hR
      subst ho
      exact hq1 a w (hR (Option.some.inj h))
set_option maxRecDepth 100000 in
set_option maxHeartbeats 4000000 in
theorem c_wire_Writer_within {G : GP} {p_w : (List (BitVec 8)) × Bool} {p_x : Int} {p_most : Int} {b_w : Nat} {v_w0 : Value} {r : ((List (BitVec 8)) × Bool) × Bool} (h : wire_Writer_within p_w p_x p_most = some r) : Ctr Try.prog G 35 [val (.pointer (some ⟨b_w, 0, none⟩)), i64.slot p_x, i64.slot p_most] [box b_w 40 (prod (exv v_w0) bl) ((), p_w.2), own 5 u8 v_w0 p_w.1] (fun (u0 : Value) => bl.slot r.2) (fun (u0 : Value) => [box b_w 40 (prod (exv u0) bl) ((), r.1.2), own 5 u8 u0 r.1.1]) := by
  unfold wire_Writer_within at h
  refine ctr_of_run Try.func35 rfl 24 rfl rfl fun m0 w0 b0 => ?_
  show Run _ _ _ [(0, val (.pointer (some ⟨b_w, 0, none⟩))), (1, i64.slot p_x), (2, i64.slot p_most)] _
  refine run_seq ?_
  refine run_text ?_
  refine j_pure (pj_assign has_bl) rfl rfl rfl ?_
  refine j_end ?_
  refine run_seq ?_
  refine run_seq ?_
  refine run_text ?_
  refine j_pure (pj_move (has_tmp rfl)) rfl rfl rfl ?_
  refine j_pure (pj_eq_nil_val (E := 40) (by kernel_rfl) (has_tmp rfl)) rfl rfl rfl ?_
  refine j_end ?_
  refine run_cond_f (has_tmp rfl) rfl ?_
  refine run_skip ?_
  refine run_seq ?_
  refine run_seq ?_
  refine run_text ?_
  refine j_pure (pj_move (has_tmp rfl)) rfl rfl rfl ?_
  refine j_pure (pj_ilss (has_tmp rfl) has_i64) rfl rfl rfl ?_
  refine j_pure (pj_move (has_tmp rfl)) rfl rfl rfl ?_
  obtain ⟨y1, e3, h⟩ := bind_some h
  refine j_joinx (ι := Unit) (Γ' := fun _ => [(0, val (.pointer (some ⟨b_w, 0, none⟩))), (15, bl.slot y1)]) (H' := fun _ => [box b_w 40 (prod (exv v_w0) bl) ((), p_w.2), own 5 u8 v_w0 p_w.1]) 4 ?_ fun J => ?_
  · intro _
    clear e3
    show OpsJ _ _ _ [(0, val (.pointer (some ⟨b_w, 0, none⟩))), (15, bl.slot y1)] [box b_w 40 (prod (exv v_w0) bl) ((), p_w.2), own 5 u8 v_w0 p_w.1] _
    refine j_end ?_
    refine run_cond (has_tmp rfl) (fun e4 => ?_) (fun e4 => ?_)
    · replace h := bt e4 h
      refine run_text ?_
      refine j_pure (pj_move (has_tmp rfl)) rfl rfl rfl ?_
      refine j_pure (pj_nilCheck_ptr (has_tmp rfl)) rfl rfl rfl ?_
      refine j_pure (pj_field_ptr (off := 1) (has_tmp rfl) (by kernel_rfl)) rfl rfl rfl ?_
      refine j_store_boxx (r' := ((), true)) (has_tmp rfl) has_bl .here (Path.then (Path.all (prod (exv v_w0) bl)) (Path.snd (exv v_w0) bl)) (by kernel_rfl) rfl ?_
      refine j_end ?_
      refine run_seq ?_
      refine run_text ?_
      refine j_pure (pj_move (has_tmp rfl)) rfl rfl rfl ?_
      refine j_pure (pj_nilCheck_ptr (has_tmp rfl)) rfl rfl rfl ?_
      refine j_pure (pj_field_ptr (off := 1) (has_tmp rfl) (by kernel_rfl)) rfl rfl rfl ?_
      refine j_pure (pj_load_box (has_tmp rfl) .here (Path.then (Path.all (prod (exv v_w0) bl)) (Path.snd (exv v_w0) bl)) (by kernel_rfl)) rfl rfl rfl ?_
      refine j_pure (pj_not (has_tmp rfl)) rfl rfl rfl ?_
      refine j_pure (pj_assign (has_tmp rfl)) rfl rfl rfl ?_
      refine j_end ?_
      obtain rfl := Option.some.inj h
      exact run_ret fun a w hst => q_ret1 hst rfl (.tmp rfl) v_w0 (fun _ _ h => h) (.cons .here <| .cons .here <| .nil)
    · replace h := bf e4 h
      refine run_skip ?_
      refine run_seq ?_
      refine run_text ?_
      refine j_pure (pj_move (has_tmp rfl)) rfl rfl rfl ?_
      refine j_pure (pj_nilCheck_ptr (has_tmp rfl)) rfl rfl rfl ?_
      refine j_pure (pj_field_ptr (off := 1) (has_tmp rfl) (by kernel_rfl)) rfl rfl rfl ?_
      refine j_pure (pj_load_box (has_tmp rfl) .here (Path.then (Path.all (prod (exv v_w0) bl)) (Path.snd (exv v_w0) bl)) (by kernel_rfl)) rfl rfl rfl ?_
      refine j_pure (pj_not (has_tmp rfl)) rfl rfl rfl ?_
      refine j_pure (pj_assign (has_tmp rfl)) rfl rfl rfl ?_
      refine j_end ?_
      obtain rfl := Option.some.inj h
      exact run_ret fun a w hst => q_ret1 hst rfl (.tmp rfl) v_w0 (fun _ _ h => h) (.cons .here <| .cons .here <| .nil)
  · rcases bool_tf (decide (p_x < (0 : Int))) with e2 | e2
    · replace e3 := bt e2 e3
      refine j_guard_no2 (j := 2) (want := false) rfl rfl rfl rfl (bl_isx e2) rfl rfl rfl ?_
      refine j_guard_no2 (j := 2) (want := false) rfl rfl rfl rfl (bl_isx e2) rfl rfl rfl ?_
      refine j_guard_no2 (j := 2) (want := false) rfl rfl rfl rfl (bl_isx e2) rfl rfl rfl ?_
      refine j_pure (PJ.eqv (R := bl) (pj_pick (t := any) (has_tmp rfl) (fun _ => has_bl) (fun he => absurd (e2.symm.trans he) (by decide))) (Option.some.inj e3)) rfl rfl rfl ?_
      exact j_to (.cons (.of_lk rfl) <| .cons (.of_lk rfl) <| .nil) (.cons .here <| .cons .here <| .nil) (J ())
    · replace e3 := bf e2 e3
      refine j_pure_y (pj_move (has_tmp rfl)) rfl rfl rfl rfl (bl_isx e2) rfl rfl ?_
      refine j_pure_y (pj_move (has_tmp rfl)) rfl rfl rfl rfl (bl_isx e2) rfl rfl ?_
      refine j_pure_y (pj_igtr (has_tmp rfl) (has_tmp rfl)) rfl rfl rfl rfl (bl_isx e2) rfl rfl ?_
      refine j_pure (PJ.eqv (R := bl) (pj_pick (t := any) (has_tmp rfl) (fun he => absurd (e2.symm.trans he) (by decide)) (fun _ => (has_tmp rfl))) (Option.some.inj e3)) rfl rfl rfl ?_
      exact j_to (.cons (.of_lk rfl) <| .cons (.of_lk rfl) <| .nil) (.cons .here <| .cons .here <| .nil) (J ())
set_option maxRecDepth 100000 in
set_option maxHeartbeats 4000000 in
theorem c_wire_Writer_U8 {G : GP} {p_w : (List (BitVec 8)) × Bool} {p_x : Int} {b_w : Nat} {v_w0 : Value} {r : ((List (BitVec 8)) × Bool)} (h : wire_Writer_U8 p_w p_x = some r) : Ctr Try.prog G 24 [val (.pointer (some ⟨b_w, 0, none⟩)), i64.slot p_x] [box b_w 40 (prod (exv v_w0) bl) ((), p_w.2), own 5 u8 v_w0 p_w.1] (fun (u0 : Value) => tup []) (fun (u0 : Value) => [box b_w 40 (prod (exv u0) bl) ((), r.2), own 5 u8 u0 r.1]) := by
  unfold wire_Writer_U8 at h
  refine ctr_of_run Try.func24 rfl 11 rfl rfl fun m0 w0 b0 => ?_
  show Run _ _ _ [(0, val (.pointer (some ⟨b_w, 0, none⟩))), (1, i64.slot p_x)] _
  refine run_seq ?_
  refine run_text ?_
  refine j_pure (pj_move (has_tmp rfl)) rfl rfl rfl ?_
  refine j_pure (pj_move (has_tmp rfl)) rfl rfl rfl ?_
  obtain ⟨r1, e1, h⟩ := bind_some h
  refine j_call (hasL_cons (has_tmp rfl) <| hasL_cons (has_tmp rfl) <| hasL_cons has_i64 <| hasL_nil) (by kernel_rfl) (c_wire_Writer_within e1) (.cons .here <| .cons .here <| .nil) rfl fun v1 => ?_
  refine j_end ?_
  refine run_cond (has_tmp rfl) (fun e2 => ?_) (fun e2 => ?_)
  · replace h := bt e2 h
    refine run_text ?_
    refine j_pure (pj_move (has_tmp rfl)) rfl rfl rfl ?_
    refine j_pure (pj_move (has_tmp rfl)) rfl rfl rfl ?_
    refine j_pure (pj_conv_un (k := .u64) (b := 64) rfl rfl (by kernel_rfl) (has_tmp rfl) isInt_i64) rfl rfl rfl ?_
    obtain ⟨r2, e3, h⟩ := bind_some h
    refine j_call (hasL_cons (has_tmp rfl) <| hasL_cons (has_tmp rfl) <| hasL_cons has_i64 <| hasL_nil) (by kernel_rfl) (c_wire_Writer_number e3) (.cons .here <| .cons .here <| .nil) rfl fun v2 => ?_
    refine j_end ?_
    obtain rfl := Option.some.inj h
    exact run_nil fun a w hst => q_retN_n hst rfl (.nil) rfl v2 (fun _ _ h => h) (.cons .here <| .cons .here <| .nil)
  · replace h := bf e2 h
    refine run_skip ?_
    obtain rfl := Option.some.inj h
    exact run_nil fun a w hst => q_retN_n hst rfl (.nil) rfl v1 (fun _ _ h => h) (.cons .here <| .cons .here <| .nil)
set_option maxRecDepth 100000 in
set_option maxHeartbeats 4000000 in
theorem c_wire_Writer_String {G : GP} {p_w : (List (BitVec 8)) × Bool} {p_b : List (BitVec 8)} {b_w : Nat} {v_w0 : Value} {r : ((List (BitVec 8)) × Bool)} (h : wire_Writer_String p_w p_b = some r) : Ctr Try.prog G 25 [val (.pointer (some ⟨b_w, 0, none⟩)), (sl u8).slot p_b] [box b_w 40 (prod (exv v_w0) bl) ((), p_w.2), own 5 u8 v_w0 p_w.1] (fun (u0 : Value) => tup []) (fun (u0 : Value) => [box b_w 40 (prod (exv u0) bl) ((), r.2), own 5 u8 u0 r.1]) := by
  unfold wire_Writer_String at h
  refine ctr_of_run Try.func25 rfl 16 rfl rfl fun m0 w0 b0 => ?_
  show Run _ _ _ [(0, val (.pointer (some ⟨b_w, 0, none⟩))), (1, (sl u8).slot p_b)] _
  refine run_seq ?_
  refine run_text ?_
  refine j_pure (pj_move (has_tmp rfl)) rfl rfl rfl ?_
  refine j_pure (pj_move (has_tmp rfl)) rfl rfl rfl ?_
  refine j_pure (pj_len_sl (sz := 1) (has_tmp rfl) (by kernel_rfl)) rfl rfl rfl ?_
  obtain ⟨r1, e1, h⟩ := bind_some h
  refine j_call (hasL_cons (has_tmp rfl) <| hasL_cons (has_tmp rfl) <| hasL_cons has_i64 <| hasL_nil) (by kernel_rfl) (c_wire_Writer_within e1) (.cons .here <| .cons .here <| .nil) rfl fun v1 => ?_
  refine j_end ?_
  refine run_cond (has_tmp rfl) (fun e2 => ?_) (fun e2 => ?_)
  · replace h := bt e2 h
    refine run_seq ?_
    refine run_text ?_
    refine j_pure (pj_move (has_tmp rfl)) rfl rfl rfl ?_
    refine j_pure (pj_move (has_tmp rfl)) rfl rfl rfl ?_
    refine j_pure (pj_len_sl (sz := 1) (has_tmp rfl) (by kernel_rfl)) rfl rfl rfl ?_
    refine j_pure (pj_conv_un (k := .u64) (b := 64) rfl rfl (by kernel_rfl) (has_tmp rfl) isInt_i64) rfl rfl rfl ?_
    obtain ⟨r2, e3, h⟩ := bind_some h
    refine j_call (hasL_cons (has_tmp rfl) <| hasL_cons (has_tmp rfl) <| hasL_cons has_i64 <| hasL_nil) (by kernel_rfl) (c_wire_Writer_number e3) (.cons .here <| .cons .here <| .nil) rfl fun v2 => ?_
    refine j_end ?_
    refine run_text ?_
    refine j_pure (pj_move (has_tmp rfl)) rfl rfl rfl ?_
    refine j_pure (pj_move (has_tmp rfl)) rfl rfl rfl ?_
    obtain ⟨r3, e4, h⟩ := bind_some h
    refine j_call (hasL_cons (has_tmp rfl) <| hasL_cons (has_tmp rfl) <| hasL_nil) (by kernel_rfl) (c_wire_Writer_Plain e4) (.cons .here <| .cons .here <| .nil) rfl fun v3 => ?_
    refine j_end ?_
    obtain rfl := Option.some.inj h
    exact run_nil fun a w hst => q_retN_n hst rfl (.nil) rfl v3 (fun _ _ h => h) (.cons .here <| .cons .here <| .nil)
  · replace h := bf e2 h
    refine run_skip ?_
    obtain rfl := Option.some.inj h
    exact run_nil fun a w hst => q_retN_n hst rfl (.nil) rfl v1 (fun _ _ h => h) (.cons .here <| .cons .here <| .nil)
set_option maxRecDepth 100000 in
set_option maxHeartbeats 4000000 in
theorem c_head_Put {G : GP} {p_w : (List (BitVec 8)) × Bool} {p_s : T_head_Signed} {b_w : Nat} {v_w0 : Value} {r : ((List (BitVec 8)) × Bool)} (h : head_Put p_w p_s = some r) : Ctr Try.prog G 9 [val (.pointer (some ⟨b_w, 0, none⟩)), R_head_Signed.slot p_s] [box b_w 40 (prod (exv v_w0) bl) ((), p_w.2), own 5 u8 v_w0 p_w.1] (fun (u0 : Value) => tup []) (fun (u0 : Value) => [box b_w 40 (prod (exv u0) bl) ((), r.2), own 5 u8 u0 r.1]) := by
  unfold head_Put at h
  refine ctr_of_run Try.func9 rfl 23 rfl rfl fun m0 w0 b0 => ?_
  show Run _ _ _ [(0, val (.pointer (some ⟨b_w, 0, none⟩))), (1, R_head_Signed.slot p_s)] _
  refine run_seq ?_
  refine run_text ?_
  refine j_pure (pj_box_to (has_tmp rfl)) rfl rfl rfl ?_
  refine j_end ?_
  refine run_seq ?_
  refine run_text ?_
  refine j_pure (pj_field_to (has_tmp rfl) (Path.fst R_head_Head (sl u8)) (by kernel_rfl)) rfl rfl rfl ?_
  refine j_pure (pj_load_to (has_tmp rfl) (by kernel_rfl)) rfl rfl rfl ?_
  obtain ⟨r1, e1, h⟩ := bind_some h
  refine j_pure (pj_call (hasL_cons (has_tmp rfl) <| hasL_nil) (by kernel_rfl) (Ctr.froze2 (c_head_Encode e1))) rfl rfl rfl ?_
  refine j_pure (pj_move (has_tmp rfl)) rfl rfl rfl ?_
  refine j_pure (pj_extract (has_tmp rfl) rfl) rfl rfl rfl ?_
  refine j_pure (pj_extract (has_tmp rfl) rfl) rfl rfl rfl ?_
  refine j_pure (pj_assign (has_tmp rfl)) rfl rfl rfl ?_
  refine j_pure (pj_assign (has_tmp rfl)) rfl rfl rfl ?_
  refine j_end ?_
  refine run_seq ?_
  refine run_seq ?_
  refine run_text ?_
  refine j_pure (pj_move (has_tmp rfl)) rfl rfl rfl ?_
  refine j_pure (pj_ineq (has_tmp rfl) has_i64) rfl rfl rfl ?_
  refine j_end ?_
  refine run_cond (has_tmp rfl) (fun e2 => ?_) (fun e2 => ?_)
  · replace h := bt e2 h
    refine run_seq ?_
    refine run_text ?_
    refine j_pure (pj_move (has_tmp rfl)) rfl rfl rfl ?_
    obtain ⟨r2, e3, h⟩ := bind_some h
    refine j_call (hasL_cons (has_tmp rfl) <| hasL_cons has_i64 <| hasL_nil) (by kernel_rfl) (c_wire_Writer_U8 e3) (.cons .here <| .cons .here <| .nil) rfl fun v1 => ?_
    refine j_end ?_
    obtain rfl := Option.some.inj h
    exact run_ret fun a w hst => q_retN hst rfl (.nil) rfl v1 (fun _ _ h => h) (.cons .here <| .cons .here <| .nil)
  · replace h := bf e2 h
    refine run_skip ?_
    refine run_seq ?_
    refine run_text ?_
    refine j_pure (pj_move (has_tmp rfl)) rfl rfl rfl ?_
    refine j_pure (pj_move (has_tmp rfl)) rfl rfl rfl ?_
    obtain ⟨r3, e4, h⟩ := bind_some h
    refine j_call (hasL_cons (has_tmp rfl) <| hasL_cons (has_tmp rfl) <| hasL_nil) (by kernel_rfl) (c_wire_Writer_Plain e4) (.cons .here <| .cons .here <| .nil) rfl fun v2 => ?_
    refine j_end ?_
    refine run_text ?_
    refine j_pure (pj_move (has_tmp rfl)) rfl rfl rfl ?_
    refine j_pure (pj_field_to (has_tmp rfl) (Path.snd R_head_Head (sl u8)) (by kernel_rfl)) rfl rfl rfl ?_
    refine j_pure (pj_load_to (has_tmp rfl) (by kernel_rfl)) rfl rfl rfl ?_
    obtain ⟨r4, e5, h⟩ := bind_some h
    refine j_call (hasL_cons (has_tmp rfl) <| hasL_cons (has_tmp rfl) <| hasL_nil) (by kernel_rfl) (c_wire_Writer_String e5) (.cons .here <| .cons .here <| .nil) rfl fun v3 => ?_
    refine j_end ?_
    obtain rfl := Option.some.inj h
    exact run_nil fun a w hst => q_retN_n hst rfl (.nil) rfl v3 (fun _ _ h => h) (.cons .here <| .cons .here <| .nil)
set_option maxRecDepth 100000 in
set_option maxHeartbeats 4000000 in
theorem c_rolodexref01_Number {G : GP} {p_x : BitVec 64} {p_bytes : Int} {r : (List (BitVec 8))} (h : rolodexref01_Number p_x p_bytes = some r) : Ctr Try.prog G 28 [u64.slot p_x, i64.slot p_bytes] [] (fun (u0 : Value) => ov u0) (fun (u0 : Value) => [own 5 u8 u0 r]) := by
  unfold rolodexref01_Number at h
  refine ctr_of_run Try.func28 rfl 36 rfl rfl fun m0 w0 b0 => ?_
  show Run _ _ _ [(0, u64.slot p_x), (1, i64.slot p_bytes)] _
  refine run_seq ?_
  refine run_text ?_
  refine j_assign_nil (T := 5) u8 rfl fun v1 => ?_
  refine j_end ?_
  refine run_seq ?_
  refine run_text ?_
  refine j_assign_nil (T := 5) u8 rfl fun v2 => ?_
  refine j_assign_nil (T := 5) u8 rfl fun v3 => ?_
  refine j_end ?_
  refine run_seq ?_
  refine run_seq ?_
  refine run_text ?_
  refine j_pure (pj_assign has_i64) rfl rfl rfl ?_
  refine j_end ?_
  obtain ⟨⟨y4, y5, y6⟩, e3, h⟩ := bind_some h
  refine run_loopS (Γi := fun (i : Value) (s : (BitVec 64) × Int × (List (BitVec 8))) => [(0, u64.slot s.1), (1, i64.slot p_bytes), (5, ov i), (6, ov v3), (7, i64.slot s.2.1)]) (Hi := fun (i : Value) (s : (BitVec 64) × Int × (List (BitVec 8))) => [own 5 u8 v3 ([] : List (BitVec 8)), own 5 u8 i s.2.2]) e3 v2 (fun a w hst => (hst.sub (.cons (.of_lk rfl) <| .cons (.of_lk rfl) <| .cons (.of_lk rfl) <| .cons (.of_lk rfl) <| .cons (.of_lk rfl) <| .nil)).keep (.cons .here <| .cons .here <| .nil)) ?_ ?_
  · clear h e3
    rintro v4 ⟨y1, y2, y3⟩ lr h
    change rolodexref01_Number_L1 p_bytes y1 y2 y3 = some _ at h
    show Run _ _ _ [(0, u64.slot y1), (1, i64.slot p_bytes), (5, ov v4), (6, ov v3), (7, i64.slot y2)] [own 5 u8 v3 ([] : List (BitVec 8)), own 5 u8 v4 y3]
    unfold rolodexref01_Number_L1 at h
    refine run_seq ?_
    refine run_seq ?_
    refine run_text ?_
    refine j_pure (pj_move (has_tmp rfl)) rfl rfl rfl ?_
    refine j_pure (pj_move (has_tmp rfl)) rfl rfl rfl ?_
    refine j_pure (pj_ilss (has_tmp rfl) (has_tmp rfl)) rfl rfl rfl ?_
    refine j_end ?_
    refine run_cond (has_tmp rfl) (fun e1 => ?_) (fun e1 => ?_)
    · replace h := bt e1 h
      refine run_skip ?_
      refine run_seq ?_
      refine run_block ?_
      refine run_seq ?_
      refine run_text ?_
      refine j_pure (pj_move (has_tmp rfl)) rfl rfl rfl ?_
      refine j_pure (pj_move (has_tmp rfl)) rfl rfl rfl ?_
      refine j_pure (pj_urem (k := .u64) (b := 64) (has_tmp rfl) (has_un (x := 256#64) rfl) (by decide)) rfl rfl rfl ?_
      refine j_pure (pj_conv_uu (k := .u8) (b := 8) rfl rfl (by kernel_rfl) (has_tmp rfl)) rfl rfl rfl ?_
      refine j_pure (pj_buildSlice (T := 5) (R := u8) (.cons (has_tmp rfl) .nil) rfl (by kernel_rfl) (by kernel_rfl)) rfl rfl rfl ?_
      obtain ⟨e2, h⟩ := grd_some h
      refine j_append (T := 5) (E := 5) (has_tmp rfl) (.next .here) (src_data (has_tmp rfl)) (by kernel_rfl) (by kernel_rfl) e2 rfl fun v5 => ?_
      refine j_pure (pj_assign (has_tmp rfl)) rfl rfl rfl ?_
      refine j_end ?_
      refine run_text ?_
      refine j_pure (pj_move (has_tmp rfl)) rfl rfl rfl ?_
      refine j_pure (pj_uquo (k := .u64) (b := 64) rfl rfl (has_tmp rfl) (has_un (x := 256#64) rfl) (by decide)) rfl rfl rfl ?_
      refine j_pure (pj_assign (has_tmp rfl)) rfl rfl rfl ?_
      refine j_end ?_
      refine run_endblock ?_
      refine run_text ?_
      refine j_pure (pj_move (has_tmp rfl)) rfl rfl rfl ?_
      refine j_pure (pj_iadd (has_tmp rfl) has_i64) rfl rfl rfl ?_
      refine j_pure (pj_assign (has_tmp rfl)) rfl rfl rfl ?_
      refine j_end ?_
      obtain rfl := Option.some.inj h
      exact run_next v5 (.cons (.of_lk rfl) <| .cons (.of_lk rfl) <| .cons (.of_lk rfl) <| .cons (.of_lk rfl) <| .cons (.of_lk rfl) <| .nil) (.cons (.next .here) <| .cons .here <| .nil)
    · replace h := bf e1 h
      obtain rfl := Option.some.inj h
      exact run_brk v4 (.cons (.of_lk rfl) <| .cons (.of_lk rfl) <| .cons (.of_lk rfl) <| .cons (.of_lk rfl) <| .cons (.of_lk rfl) <| .nil) (.cons .here <| .cons .here <| .nil)
  · rintro v6
    show Run _ _ _ [(0, u64.slot y4), (1, i64.slot p_bytes), (5, ov v6), (6, ov v3), (7, i64.slot y5)] [own 5 u8 v3 ([] : List (BitVec 8)), own 5 u8 v6 y6]
    refine run_to (Γ' := [(1, i64.slot p_bytes), (5, ov v6), (6, ov v3)]) (H' := [own 5 u8 v3 ([] : List (BitVec 8)), own 5 u8 v6 y6]) (.cons (.of_lk rfl) <| .cons (.of_lk rfl) <| .cons (.of_lk rfl) <| .nil) (.cons .here <| .cons .here <| .nil) ?_
    refine run_seq ?_
    refine run_seq ?_
    refine run_text ?_
    refine j_pure (pj_move (has_tmp rfl)) rfl rfl rfl ?_
    refine j_pure (pj_isub (has_tmp rfl) has_i64) rfl rfl rfl ?_
    refine j_pure (pj_assign (has_tmp rfl)) rfl rfl rfl ?_
    refine j_end ?_
    obtain ⟨⟨y9, y10⟩, e7, h⟩ := bind_some h
    refine run_loopS (Γi := fun (i : Value) (s : Int × (List (BitVec 8))) => [(5, ov v6), (6, ov i), (8, i64.slot s.1)]) (Hi := fun (i : Value) (s : Int × (List (BitVec 8))) => [own 5 u8 i s.2, own 5 u8 v6 y6]) e7 v3 (fun a w hst => (hst.sub (.cons (.of_lk rfl) <| .cons (.of_lk rfl) <| .cons (.of_lk rfl) <| .nil)).keep (.cons .here <| .cons .here <| .nil)) ?_ ?_
    · clear h e7
      rintro v7 ⟨y7, y8⟩ lr h
      change rolodexref01_Number_L2 y6 y7 y8 = some _ at h
      show Run _ _ _ [(5, ov v6), (6, ov v7), (8, i64.slot y7)] [own 5 u8 v7 y8, own 5 u8 v6 y6]
      unfold rolodexref01_Number_L2 at h
      refine run_seq ?_
      refine run_seq ?_
      refine run_text ?_
      refine j_pure (pj_move (has_tmp rfl)) rfl rfl rfl ?_
      refine j_pure (pj_igeq (has_tmp rfl) has_i64) rfl rfl rfl ?_
      refine j_end ?_
      refine run_cond (has_tmp rfl) (fun e4 => ?_) (fun e4 => ?_)
      · replace h := bt e4 h
        refine run_skip ?_
        refine run_seq ?_
        refine run_block ?_
        refine run_text ?_
        refine j_pure (pj_move (has_tmp rfl)) rfl rfl rfl ?_
        refine j_pure (pj_move (has_tmp rfl)) rfl rfl rfl ?_
        refine j_pure (pj_move (has_tmp rfl)) rfl rfl rfl ?_
        obtain ⟨x1, e5, h⟩ := bind_some h
        refine j_pure (pj_index_own (has_tmp rfl) (.next .here) (has_tmp rfl) isInt_i64 (lget_some e5).1 (lget_some e5).2.1 (by kernel_rfl)) rfl rfl rfl ?_
        refine j_pure (PJ.eqv (pj_load_own0 u8 (y7.toNat) (has_tmp rfl) (.next .here) (lget_some e5).2.1 (by kernel_rfl)) (lget_eq e5 (lget_some e5).2.1)) rfl rfl rfl ?_
        refine j_pure (pj_buildSlice (T := 5) (R := u8) (.cons (has_tmp rfl) .nil) rfl (by kernel_rfl) (by kernel_rfl)) rfl rfl rfl ?_
        obtain ⟨e6, h⟩ := grd_some h
        refine j_append (T := 5) (E := 5) (has_tmp rfl) .here (src_data (has_tmp rfl)) (by kernel_rfl) (by kernel_rfl) e6 rfl fun v8 => ?_
        refine j_pure (pj_assign (has_tmp rfl)) rfl rfl rfl ?_
        refine j_end ?_
        refine run_endblock ?_
        refine run_text ?_
        refine j_pure (pj_move (has_tmp rfl)) rfl rfl rfl ?_
        refine j_pure (pj_isub (has_tmp rfl) has_i64) rfl rfl rfl ?_
        refine j_pure (pj_assign (has_tmp rfl)) rfl rfl rfl ?_
        refine j_end ?_
        obtain rfl := Option.some.inj h
        exact run_next v8 (.cons (.of_lk rfl) <| .cons (.of_lk rfl) <| .cons (.of_lk rfl) <| .nil) (.cons .here <| .cons .here <| .nil)
      · replace h := bf e4 h
        obtain rfl := Option.some.inj h
        exact run_brk v7 (.cons (.of_lk rfl) <| .cons (.of_lk rfl) <| .cons (.of_lk rfl) <| .nil) (.cons .here <| .cons .here <| .nil)
    · rintro v9
      show Run _ _ _ [(5, ov v6), (6, ov v9), (8, i64.slot y9)] [own 5 u8 v9 y10, own 5 u8 v6 y6]
      refine run_to (Γ' := [(6, ov v9)]) (H' := [own 5 u8 v9 y10]) (.cons (.of_lk rfl) <| .nil) (.cons .here <| .nil) ?_
      refine run_seq ?_
      refine run_text ?_
      refine j_pure (pj_move (has_tmp rfl)) rfl rfl rfl ?_
      refine j_pure (pj_assign (has_tmp rfl)) rfl rfl rfl ?_
      refine j_end ?_
      obtain rfl := Option.some.inj h
      exact run_ret fun a w hst => q_ret1 hst rfl (.tmp rfl) v9 (fun _ _ h => h) (.cons .here <| .nil)
set_option maxRecDepth 100000 in
set_option maxHeartbeats 4000000 in
theorem c_rolodexref17_Is {G : GP} {p_h : T_rolodexref17_Head} {r : Bool} (h : rolodexref17_Is p_h = some r) : Ctr Try.prog G 36 [R_rolodexref17_Head.slot p_h] [] (fun (_ : Unit) => bl.slot r) (fun (_ : Unit) => []) := by
  unfold rolodexref17_Is at h
  refine ctr_of_run Try.func36 rfl 21 rfl rfl fun m0 w0 b0 => ?_
  show Run _ _ _ [(0, R_rolodexref17_Head.slot p_h)] _
  refine run_seq ?_
  refine run_text ?_
  refine j_pure (pj_box_to (has_tmp rfl)) rfl rfl rfl ?_
  refine j_pure (pj_assign has_bl) rfl rfl rfl ?_
  refine j_end ?_
  refine run_seq ?_
  refine run_text ?_
  refine j_pure (pj_field_to (has_tmp rfl) (Path.fst i64 (prod i64 (prod R_api_Hash R_api_Hash))) (by kernel_rfl)) rfl rfl rfl ?_
  refine j_pure (pj_load_to (has_tmp rfl) (by kernel_rfl)) rfl rfl rfl ?_
  refine j_pure (pj_igeq (has_tmp rfl) has_i64) rfl rfl rfl ?_
  refine j_pure (pj_move (has_tmp rfl)) rfl rfl rfl ?_
  obtain ⟨y1, e2, h⟩ := bind_some h
  refine j_joinx (ι := Unit) (Γ' := fun _ => [(1, ptrTo R_rolodexref17_Head p_h), (10, bl.slot y1)]) (H' := fun _ => []) 4 ?_ fun J => ?_
  · intro _
    clear e2
    show OpsJ _ _ _ [(1, ptrTo R_rolodexref17_Head p_h), (10, bl.slot y1)] [] _
    refine j_pure (pj_move (has_tmp rfl)) rfl rfl rfl ?_
    obtain ⟨y2, e4, h⟩ := bind_some h
    refine j_joinx (ι := Unit) (Γ' := fun _ => [(1, ptrTo R_rolodexref17_Head p_h), (15, bl.slot y2)]) (H' := fun _ => []) 4 ?_ fun J => ?_
    · intro _
      clear e4
      show OpsJ _ _ _ [(1, ptrTo R_rolodexref17_Head p_h), (15, bl.slot y2)] [] _
      refine j_pure (pj_move (has_tmp rfl)) rfl rfl rfl ?_
      obtain ⟨y3, e6, h⟩ := bind_some h
      refine j_joinx (ι := Unit) (Γ' := fun _ => [(20, bl.slot y3)]) (H' := fun _ => []) 4 ?_ fun J => ?_
      · intro _
        clear e6
        show OpsJ _ _ _ [(20, bl.slot y3)] [] _
        refine j_pure (pj_assign (has_tmp rfl)) rfl rfl rfl ?_
        refine j_end ?_
        obtain rfl := Option.some.inj h
        exact run_ret fun a w hst => q_ret1 hst rfl (.tmp rfl) () (fun _ _ h => h) (.nil)
      · rcases bool_tf (y2) with e5 | e5
        · replace e6 := bt e5 e6
          refine j_pure_y (pj_field_to (has_tmp rfl) (Path.then (Path.snd i64 (prod i64 (prod R_api_Hash R_api_Hash))) (Path.fst i64 (prod R_api_Hash R_api_Hash))) (by kernel_rfl)) rfl rfl rfl rfl (bl_isx e5) rfl rfl ?_
          refine j_pure_y (pj_load_to (has_tmp rfl) (by kernel_rfl)) rfl rfl rfl rfl (bl_isx e5) rfl rfl ?_
          refine j_pure_y (pj_ileq (has_tmp rfl) has_i64) rfl rfl rfl rfl (bl_isx e5) rfl rfl ?_
          refine j_pure (PJ.eqv (R := bl) (pj_pick (t := any) (has_tmp rfl) (fun _ => (has_tmp rfl)) (fun he => absurd (e5.symm.trans he) (by decide))) (Option.some.inj e6)) rfl rfl rfl ?_
          exact j_to (.cons (.of_lk rfl) <| .nil) (.nil) (J ())
        · replace e6 := bf e5 e6
          refine j_guard_no2 (j := 13) (want := true) rfl rfl rfl rfl (bl_isx e5) rfl rfl rfl ?_
          refine j_guard_no2 (j := 13) (want := true) rfl rfl rfl rfl (bl_isx e5) rfl rfl rfl ?_
          refine j_guard_no2 (j := 13) (want := true) rfl rfl rfl rfl (bl_isx e5) rfl rfl rfl ?_
          refine j_pure (PJ.eqv (R := bl) (pj_pick (t := any) (has_tmp rfl) (fun he => absurd (e5.symm.trans he) (by decide)) (fun _ => has_bl)) (Option.some.inj e6)) rfl rfl rfl ?_
          exact j_to (.cons (.of_lk rfl) <| .nil) (.nil) (J ())
    · rcases bool_tf (y1) with e3 | e3
      · replace e4 := bt e3 e4
        refine j_pure_y (pj_field_to (has_tmp rfl) (Path.then (Path.snd i64 (prod i64 (prod R_api_Hash R_api_Hash))) (Path.fst i64 (prod R_api_Hash R_api_Hash))) (by kernel_rfl)) rfl rfl rfl rfl (bl_isx e3) rfl rfl ?_
        refine j_pure_y (pj_load_to (has_tmp rfl) (by kernel_rfl)) rfl rfl rfl rfl (bl_isx e3) rfl rfl ?_
        refine j_pure_y (pj_igeq (has_tmp rfl) has_i64) rfl rfl rfl rfl (bl_isx e3) rfl rfl ?_
        refine j_pure (PJ.eqv (R := bl) (pj_pick (t := any) (has_tmp rfl) (fun _ => (has_tmp rfl)) (fun he => absurd (e3.symm.trans he) (by decide))) (Option.some.inj e4)) rfl rfl rfl ?_
        exact j_to (.cons (.of_lk rfl) <| .cons (.of_lk rfl) <| .nil) (.nil) (J ())
      · replace e4 := bf e3 e4
        refine j_guard_no2 (j := 8) (want := true) rfl rfl rfl rfl (bl_isx e3) rfl rfl rfl ?_
        refine j_guard_no2 (j := 8) (want := true) rfl rfl rfl rfl (bl_isx e3) rfl rfl rfl ?_
        refine j_guard_no2 (j := 8) (want := true) rfl rfl rfl rfl (bl_isx e3) rfl rfl rfl ?_
        refine j_pure (PJ.eqv (R := bl) (pj_pick (t := any) (has_tmp rfl) (fun he => absurd (e3.symm.trans he) (by decide)) (fun _ => has_bl)) (Option.some.inj e4)) rfl rfl rfl ?_
        exact j_to (.cons (.of_lk rfl) <| .cons (.of_lk rfl) <| .nil) (.nil) (J ())
  · rcases bool_tf (decide ((1 : Int) ≤ p_h.1)) with e1 | e1
    · replace e2 := bt e1 e2
      refine j_pure_y (pj_field_to (has_tmp rfl) (Path.fst i64 (prod i64 (prod R_api_Hash R_api_Hash))) (by kernel_rfl)) rfl rfl rfl rfl (bl_isx e1) rfl rfl ?_
      refine j_pure_y (pj_load_to (has_tmp rfl) (by kernel_rfl)) rfl rfl rfl rfl (bl_isx e1) rfl rfl ?_
      refine j_pure_y (pj_ileq (has_tmp rfl) has_i64) rfl rfl rfl rfl (bl_isx e1) rfl rfl ?_
      refine j_pure (PJ.eqv (R := bl) (pj_pick (t := any) (has_tmp rfl) (fun _ => (has_tmp rfl)) (fun he => absurd (e1.symm.trans he) (by decide))) (Option.some.inj e2)) rfl rfl rfl ?_
      exact j_to (.cons (.of_lk rfl) <| .cons (.of_lk rfl) <| .nil) (.nil) (J ())
    · replace e2 := bf e1 e2
      refine j_guard_no2 (j := 3) (want := true) rfl rfl rfl rfl (bl_isx e1) rfl rfl rfl ?_
      refine j_guard_no2 (j := 3) (want := true) rfl rfl rfl rfl (bl_isx e1) rfl rfl rfl ?_
      refine j_guard_no2 (j := 3) (want := true) rfl rfl rfl rfl (bl_isx e1) rfl rfl rfl ?_
      refine j_pure (PJ.eqv (R := bl) (pj_pick (t := any) (has_tmp rfl) (fun he => absurd (e1.symm.trans he) (by decide)) (fun _ => has_bl)) (Option.some.inj e2)) rfl rfl rfl ?_
      exact j_to (.cons (.of_lk rfl) <| .cons (.of_lk rfl) <| .nil) (.nil) (J ())
set_option maxRecDepth 100000 in
set_option maxHeartbeats 4000000 in
theorem c_rolodexref17_Encode {G : GP} {p_h : T_rolodexref17_Head} {r : (List (BitVec 8)) × Int} (h : rolodexref17_Encode p_h = some r) : Ctr Try.prog G 27 [R_rolodexref17_Head.slot p_h] [] (fun (u0 : Value) => tup [ov u0, i64.slot r.2]) (fun (u0 : Value) => [own 5 u8 u0 r.1]) := by
  unfold rolodexref17_Encode at h
  refine ctr_of_run Try.func27 rfl 26 rfl rfl fun m0 w0 b0 => ?_
  show Run _ _ _ [(0, R_rolodexref17_Head.slot p_h)] _
  refine run_seq ?_
  refine run_text ?_
  refine j_pure (pj_box_to (has_tmp rfl)) rfl rfl rfl ?_
  refine j_assign_nil (T := 5) u8 rfl fun v1 => ?_
  refine j_pure (pj_assign has_i64) rfl rfl rfl ?_
  refine j_end ?_
  refine run_seq ?_
  refine run_seq ?_
  refine run_text ?_
  refine j_pure (pj_load_to (has_tmp rfl) (by kernel_rfl)) rfl rfl rfl ?_
  obtain ⟨r1, e1, h⟩ := bind_some h
  refine j_pure (pj_call (hasL_cons (has_tmp rfl) <| hasL_nil) (by kernel_rfl) (c_rolodexref17_Is e1)) rfl rfl rfl ?_
  refine j_pure (pj_not (has_tmp rfl)) rfl rfl rfl ?_
  refine j_end ?_
  refine run_cond (has_tmp rfl) (fun e2 => ?_) (fun e2 => ?_)
  · replace h := bt e2 h
    refine run_seq ?_
    refine run_text ?_
    refine j_assign_nil (T := 5) u8 rfl fun v2 => ?_
    refine j_pure (pj_assign has_i64) rfl rfl rfl ?_
    refine j_end ?_
    obtain rfl := Option.some.inj h
    exact run_ret fun a w hst => q_retN hst rfl (.cons (.tmp rfl) <| .cons (.tmp rfl) <| .nil) rfl v2 (fun _ _ h => h) (.cons .here <| .nil)
  · replace h := bf e2 h
    refine run_skip ?_
    refine run_seq ?_
    refine run_text ?_
    refine j_pure (pj_field_to (has_tmp rfl) (Path.fst i64 (prod i64 (prod R_api_Hash R_api_Hash))) (by kernel_rfl)) rfl rfl rfl ?_
    refine j_pure (pj_load_to (has_tmp rfl) (by kernel_rfl)) rfl rfl rfl ?_
    refine j_pure (pj_conv_un (k := .u64) (b := 64) rfl rfl (by kernel_rfl) (has_tmp rfl) isInt_i64) rfl rfl rfl ?_
    obtain ⟨r2, e3, h⟩ := bind_some h
    refine j_call (hasL_cons (has_tmp rfl) <| hasL_cons has_i64 <| hasL_nil) (by kernel_rfl) (c_rolodexref01_Number e3) .nil rfl fun v3 => ?_
    refine j_pure (pj_assign (has_tmp rfl)) rfl rfl rfl ?_
    refine j_end ?_
    refine run_seq ?_
    refine run_text ?_
    refine j_pure (pj_move (has_tmp rfl)) rfl rfl rfl ?_
    refine j_pure (pj_field_to (has_tmp rfl) (Path.then (Path.snd i64 (prod i64 (prod R_api_Hash R_api_Hash))) (Path.fst i64 (prod R_api_Hash R_api_Hash))) (by kernel_rfl)) rfl rfl rfl ?_
    refine j_pure (pj_load_to (has_tmp rfl) (by kernel_rfl)) rfl rfl rfl ?_
    refine j_pure (pj_conv_un (k := .u64) (b := 64) rfl rfl (by kernel_rfl) (has_tmp rfl) isInt_i64) rfl rfl rfl ?_
    obtain ⟨r3, e4, h⟩ := bind_some h
    refine j_pure (pj_call (hasL_cons (has_tmp rfl) <| hasL_cons has_i64 <| hasL_nil) (by kernel_rfl) (Ctr.froze (c_rolodexref01_Number e4))) rfl rfl rfl ?_
    obtain ⟨e5, h⟩ := grd_some h
    refine j_append (T := 5) (E := 5) (has_tmp rfl) .here (src_data (has_tmp rfl)) (by kernel_rfl) (by kernel_rfl) e5 rfl fun v4 => ?_
    refine j_pure (pj_assign (has_tmp rfl)) rfl rfl rfl ?_
    refine j_end ?_
    refine run_seq ?_
    refine run_text ?_
    refine j_pure (pj_move (has_tmp rfl)) rfl rfl rfl ?_
    refine j_pure (pj_field_to (has_tmp rfl) (Path.then (Path.snd i64 (prod i64 (prod R_api_Hash R_api_Hash))) (Path.then (Path.snd i64 (prod R_api_Hash R_api_Hash)) (Path.fst R_api_Hash R_api_Hash))) (by kernel_rfl)) rfl rfl rfl ?_
    refine j_pure (pj_slice_toF (has_tmp rfl) (by decide) (by kernel_rfl)) rfl rfl rfl ?_
    obtain ⟨e6, h⟩ := grd_some h
    refine j_append (T := 5) (E := 5) (has_tmp rfl) .here (src_data (has_tmp rfl)) (by kernel_rfl) (by kernel_rfl) e6 rfl fun v5 => ?_
    refine j_pure (pj_assign (has_tmp rfl)) rfl rfl rfl ?_
    refine j_end ?_
    refine run_seq ?_
    refine run_text ?_
    refine j_pure (pj_move (has_tmp rfl)) rfl rfl rfl ?_
    refine j_pure (pj_field_to (has_tmp rfl) (Path.then (Path.snd i64 (prod i64 (prod R_api_Hash R_api_Hash))) (Path.then (Path.snd i64 (prod R_api_Hash R_api_Hash)) (Path.snd R_api_Hash R_api_Hash))) (by kernel_rfl)) rfl rfl rfl ?_
    refine j_pure (pj_slice_toF (has_tmp rfl) (by decide) (by kernel_rfl)) rfl rfl rfl ?_
    obtain ⟨e7, h⟩ := grd_some h
    refine j_append (T := 5) (E := 5) (has_tmp rfl) .here (src_data (has_tmp rfl)) (by kernel_rfl) (by kernel_rfl) e7 rfl fun v6 => ?_
    refine j_pure (pj_assign (has_tmp rfl)) rfl rfl rfl ?_
    refine j_pure (pj_assign has_i64) rfl rfl rfl ?_
    refine j_end ?_
    obtain rfl := Option.some.inj h
    exact run_ret fun a w hst => q_retN hst rfl (.cons (.tmp rfl) <| .cons (.tmp rfl) <| .nil) rfl v6 (fun _ _ h => h) (.cons .here <| .nil)
set_option maxRecDepth 100000 in
set_option maxHeartbeats 4000000 in
theorem c_rolodexref17_Bytes {G : GP} {p_s : T_rolodexref17_Signed} {r : (List (BitVec 8)) × Bool} (h : rolodexref17_Bytes p_s = some r) : Ctr Try.prog G 11 [R_rolodexref17_Signed.slot p_s] [] (fun (u0 : Value) => tup [ov u0, bl.slot r.2]) (fun (u0 : Value) => [own 5 u8 u0 r.1]) := by
  unfold rolodexref17_Bytes at h
  refine ctr_of_run Try.func11 rfl 31 rfl rfl fun m0 w0 b0 => ?_
  show Run _ _ _ [(0, R_rolodexref17_Signed.slot p_s)] _
  refine run_seq ?_
  refine run_text ?_
  refine j_pure (pj_box_to (has_tmp rfl)) rfl rfl rfl ?_
  refine j_assign_nil (T := 5) u8 rfl fun v1 => ?_
  refine j_pure (pj_assign has_bl) rfl rfl rfl ?_
  refine j_end ?_
  refine run_seq ?_
  refine run_text ?_
  refine j_pure (pj_field_to (has_tmp rfl) (Path.fst R_rolodexref17_Head (sl u8)) (by kernel_rfl)) rfl rfl rfl ?_
  refine j_pure (pj_load_to (has_tmp rfl) (by kernel_rfl)) rfl rfl rfl ?_
  obtain ⟨r1, e1, h⟩ := bind_some h
  refine j_call (hasL_cons (has_tmp rfl) <| hasL_nil) (by kernel_rfl) (c_rolodexref17_Encode e1) .nil rfl fun v2 => ?_
  refine j_pure (pj_move (has_tmp rfl)) rfl rfl rfl ?_
  refine j_pure (pj_extract (has_tmp rfl) rfl) rfl rfl rfl ?_
  refine j_pure (pj_extract (has_tmp rfl) rfl) rfl rfl rfl ?_
  refine j_pure (pj_assign (has_tmp rfl)) rfl rfl rfl ?_
  refine j_pure (pj_assign (has_tmp rfl)) rfl rfl rfl ?_
  refine j_end ?_
  refine run_seq ?_
  refine run_seq ?_
  refine run_text ?_
  refine j_pure (pj_move (has_tmp rfl)) rfl rfl rfl ?_
  refine j_pure (pj_ineq (has_tmp rfl) has_i64) rfl rfl rfl ?_
  refine j_pure (pj_move (has_tmp rfl)) rfl rfl rfl ?_
  obtain ⟨y1, e3, h⟩ := bind_some h
  refine j_joinx (ι := Unit) (Γ' := fun _ => [(1, ptrTo R_rolodexref17_Signed p_s), (4, ov v2), (19, bl.slot y1)]) (H' := fun _ => [own 5 u8 v2 r1.1]) 5 ?_ fun J => ?_
  · intro _
    clear e3
    show OpsJ _ _ _ [(1, ptrTo R_rolodexref17_Signed p_s), (4, ov v2), (19, bl.slot y1)] [own 5 u8 v2 r1.1] _
    refine j_end ?_
    refine run_cond (has_tmp rfl) (fun e4 => ?_) (fun e4 => ?_)
    · replace h := bt e4 h
      refine run_seq ?_
      refine run_text ?_
      refine j_assign_nil (T := 5) u8 rfl fun v3 => ?_
      refine j_pure (pj_assign has_bl) rfl rfl rfl ?_
      refine j_end ?_
      obtain rfl := Option.some.inj h
      exact run_ret fun a w hst => q_retN hst rfl (.cons (.tmp rfl) <| .cons (.tmp rfl) <| .nil) rfl v3 (fun _ _ h => h) (.cons .here <| .nil)
    · replace h := bf e4 h
      refine run_skip ?_
      refine run_seq ?_
      refine run_text ?_
      refine j_pure (pj_move (has_tmp rfl)) rfl rfl rfl ?_
      refine j_pure (pj_field_to (has_tmp rfl) (Path.snd R_rolodexref17_Head (sl u8)) (by kernel_rfl)) rfl rfl rfl ?_
      refine j_pure (pj_load_to (has_tmp rfl) (by kernel_rfl)) rfl rfl rfl ?_
      refine j_pure (pj_len_sl (sz := 1) (has_tmp rfl) (by kernel_rfl)) rfl rfl rfl ?_
      refine j_pure (pj_conv_un (k := .u64) (b := 64) rfl rfl (by kernel_rfl) (has_tmp rfl) isInt_i64) rfl rfl rfl ?_
      obtain ⟨r2, e5, h⟩ := bind_some h
      refine j_pure (pj_call (hasL_cons (has_tmp rfl) <| hasL_cons has_i64 <| hasL_nil) (by kernel_rfl) (Ctr.froze (c_rolodexref01_Number e5))) rfl rfl rfl ?_
      obtain ⟨e6, h⟩ := grd_some h
      refine j_append (T := 5) (E := 5) (has_tmp rfl) .here (src_data (has_tmp rfl)) (by kernel_rfl) (by kernel_rfl) e6 rfl fun v4 => ?_
      refine j_pure (pj_assign (has_tmp rfl)) rfl rfl rfl ?_
      refine j_end ?_
      refine run_seq ?_
      refine run_text ?_
      refine j_pure (pj_move (has_tmp rfl)) rfl rfl rfl ?_
      refine j_pure (pj_field_to (has_tmp rfl) (Path.snd R_rolodexref17_Head (sl u8)) (by kernel_rfl)) rfl rfl rfl ?_
      refine j_pure (pj_load_to (has_tmp rfl) (by kernel_rfl)) rfl rfl rfl ?_
      obtain ⟨e7, h⟩ := grd_some h
      refine j_append (T := 5) (E := 5) (has_tmp rfl) .here (src_data (has_tmp rfl)) (by kernel_rfl) (by kernel_rfl) e7 rfl fun v5 => ?_
      refine j_pure (pj_assign (has_tmp rfl)) rfl rfl rfl ?_
      refine j_pure (pj_assign has_bl) rfl rfl rfl ?_
      refine j_end ?_
      obtain rfl := Option.some.inj h
      exact run_ret fun a w hst => q_retN hst rfl (.cons (.tmp rfl) <| .cons (.tmp rfl) <| .nil) rfl v5 (fun _ _ h => h) (.cons .here <| .nil)
  · rcases bool_tf (!decide (r1.2 = (0 : Int))) with e2 | e2
    · replace e3 := bt e2 e3
      refine j_guard_no2 (j := 2) (want := false) rfl rfl rfl rfl (bl_isx e2) rfl rfl rfl ?_
      refine j_guard_no2 (j := 2) (want := false) rfl rfl rfl rfl (bl_isx e2) rfl rfl rfl ?_
      refine j_guard_no2 (j := 2) (want := false) rfl rfl rfl rfl (bl_isx e2) rfl rfl rfl ?_
      refine j_guard_no2 (j := 2) (want := false) rfl rfl rfl rfl (bl_isx e2) rfl rfl rfl ?_
      refine j_pure (PJ.eqv (R := bl) (pj_pick (t := any) (has_tmp rfl) (fun _ => has_bl) (fun he => absurd (e2.symm.trans he) (by decide))) (Option.some.inj e3)) rfl rfl rfl ?_
      exact j_to (.cons (.of_lk rfl) <| .cons (.of_lk rfl) <| .cons (.of_lk rfl) <| .nil) (.cons .here <| .nil) (J ())
    · replace e3 := bf e2 e3
      refine j_pure_y (pj_field_to (has_tmp rfl) (Path.snd R_rolodexref17_Head (sl u8)) (by kernel_rfl)) rfl rfl rfl rfl (bl_isx e2) rfl rfl ?_
      refine j_pure_y (pj_load_to (has_tmp rfl) (by kernel_rfl)) rfl rfl rfl rfl (bl_isx e2) rfl rfl ?_
      refine j_pure_y (pj_len_sl (sz := 1) (has_tmp rfl) (by kernel_rfl)) rfl rfl rfl rfl (bl_isx e2) rfl rfl ?_
      refine j_pure_y (pj_igtr (has_tmp rfl) has_i64) rfl rfl rfl rfl (bl_isx e2) rfl rfl ?_
      refine j_pure (PJ.eqv (R := bl) (pj_pick (t := any) (has_tmp rfl) (fun he => absurd (e2.symm.trans he) (by decide)) (fun _ => (has_tmp rfl))) (Option.some.inj e3)) rfl rfl rfl ?_
      exact j_to (.cons (.of_lk rfl) <| .cons (.of_lk rfl) <| .cons (.of_lk rfl) <| .nil) (.cons .here <| .nil) (J ())
set_option maxRecDepth 100000 in
set_option maxHeartbeats 4000000 in
theorem c_wire_New {G : GP} {p_b : List (BitVec 8)} {r : ((List (BitVec 8)) × Bool)} (h : wire_New p_b = some r) : Ctr Try.prog G 12 [(sl u8).slot p_b] [] (fun (u0 : Nat) => val (.pointer (some ⟨u0, 0, none⟩))) (fun (u0 : Nat) => [box u0 66 (prod (sl u8) bl) (r.1, r.2)]) := by
  unfold wire_New at h
  refine ctr_of_run Try.func12 rfl 7 rfl rfl fun m0 w0 b0 => ?_
  show Run _ _ _ [(0, (sl u8).slot p_b)] _
  refine run_seq ?_
  refine run_text ?_
  refine j_pure (pj_assign (has_nilp (R := R_wire_Reader))) rfl rfl rfl ?_
  refine j_end ?_
  refine run_seq ?_
  refine run_text ?_
  refine j_pure (pj_move (has_tmp rfl)) rfl rfl rfl ?_
  obtain ⟨r1, e1, h⟩ := bind_some h
  refine j_pure (pj_call (hasL_cons (has_tmp rfl) <| hasL_nil) (by kernel_rfl) (Ctr.froze (c_slices_Clone_byte_byte e1))) rfl rfl rfl ?_
  obtain ⟨x1, e2, h⟩ := bind_some h
  refine j_pure (PJ.eqv (pj_build (R := R_wire_Reader) (zero_prod zero_sl zero_bl) (by kernel_rfl) (by kernel_rfl) rfl (.cons (has_tmp rfl) (Path.fst (sl u8) bl) (by kernel_rfl) .nil)) (Option.some.inj e2)) rfl rfl rfl ?_
  refine j_box (has_tmp rfl) rfl fun b1 => ?_
  refine j_pure (pj_assign (has_tmp rfl)) rfl rfl rfl ?_
  refine j_end ?_
  obtain rfl := Option.some.inj h
  exact run_ret fun a w hst => q_ret1 hst rfl (.tmp rfl) b1 (fun _ _ h => h) (.cons .here <| .nil)
set_option maxRecDepth 100000 in
set_option maxHeartbeats 4000000 in
theorem c_wire_Reader_takes {G : GP} {p_r : (List (BitVec 8)) × Bool} {p_n : Int} {b_r : Nat} {r : ((List (BitVec 8)) × Bool) × (List (BitVec 8))} (h : wire_Reader_takes p_r p_n = some r) : Ctr Try.prog G 34 [val (.pointer (some ⟨b_r, 0, none⟩)), i64.slot p_n] [box b_r 66 (prod (sl u8) bl) (p_r.1, p_r.2)] (fun (_ : Unit) => (sl u8).slot r.2) (fun (_ : Unit) => [box b_r 66 (prod (sl u8) bl) (r.1.1, r.1.2)]) := by
  unfold wire_Reader_takes at h
  refine ctr_of_run Try.func34 rfl 45 rfl rfl fun m0 w0 b0 => ?_
  show Run _ _ _ [(0, val (.pointer (some ⟨b_r, 0, none⟩))), (1, i64.slot p_n)] _
  refine run_seq ?_
  refine run_text ?_
  refine j_pure (pj_assign (has_nil (R := u8))) rfl rfl rfl ?_
  refine j_end ?_
  refine run_seq ?_
  refine run_seq ?_
  refine run_text ?_
  refine j_pure (pj_move (has_tmp rfl)) rfl rfl rfl ?_
  refine j_pure (pj_eq_nil_val (E := 66) (by kernel_rfl) (has_tmp rfl)) rfl rfl rfl ?_
  refine j_pure (pj_move (has_tmp rfl)) rfl rfl rfl ?_
  obtain ⟨y1, e2, h⟩ := bind_some h
  refine j_joinx (ι := Unit) (Γ' := fun _ => [(0, val (.pointer (some ⟨b_r, 0, none⟩))), (1, i64.slot p_n), (13, bl.slot y1)]) (H' := fun _ => [box b_r 66 (prod (sl u8) bl) (p_r.1, p_r.2)]) 5 ?_ fun J => ?_
  · intro _
    clear e2
    show OpsJ _ _ _ [(0, val (.pointer (some ⟨b_r, 0, none⟩))), (1, i64.slot p_n), (13, bl.slot y1)] [box b_r 66 (prod (sl u8) bl) (p_r.1, p_r.2)] _
    refine j_end ?_
    refine run_cond (has_tmp rfl) (fun e3 => ?_) (fun e3 => ?_)
    · replace h := bt e3 h
      refine run_seq ?_
      refine run_text ?_
      refine j_pure (pj_assign (has_nil (R := u8))) rfl rfl rfl ?_
      refine j_end ?_
      obtain rfl := Option.some.inj h
      exact run_ret fun a w hst => q_ret1 hst rfl (.tmp rfl) () (fun _ _ h => h) (.cons .here <| .nil)
    · replace h := bf e3 h
      refine run_skip ?_
      refine run_seq ?_
      refine run_seq ?_
      refine run_text ?_
      refine j_pure (pj_move (has_tmp rfl)) rfl rfl rfl ?_
      refine j_pure (pj_ilss (has_tmp rfl) has_i64) rfl rfl rfl ?_
      refine j_pure (pj_move (has_tmp rfl)) rfl rfl rfl ?_
      obtain ⟨y2, e5, h⟩ := bind_some h
      refine j_joinx (ι := Unit) (Γ' := fun _ => [(0, val (.pointer (some ⟨b_r, 0, none⟩))), (1, i64.slot p_n), (24, bl.slot y2)]) (H' := fun _ => [box b_r 66 (prod (sl u8) bl) (p_r.1, p_r.2)]) 8 ?_ fun J => ?_
      · intro _
        clear e5
        show OpsJ _ _ _ [(0, val (.pointer (some ⟨b_r, 0, none⟩))), (1, i64.slot p_n), (24, bl.slot y2)] [box b_r 66 (prod (sl u8) bl) (p_r.1, p_r.2)] _
        refine j_end ?_
        refine run_cond (has_tmp rfl) (fun e6 => ?_) (fun e6 => ?_)
        · replace h := bt e6 h
          refine run_seq ?_
          refine run_text ?_
          refine j_pure (pj_move (has_tmp rfl)) rfl rfl rfl ?_
          refine j_pure (pj_nilCheck_ptr (has_tmp rfl)) rfl rfl rfl ?_
          refine j_pure (pj_field_ptr (off := 1) (has_tmp rfl) (by kernel_rfl)) rfl rfl rfl ?_
          refine j_store_boxx (r' := (p_r.1, true)) (has_tmp rfl) has_bl .here (Path.then (Path.all (prod (sl u8) bl)) (Path.snd (sl u8) bl)) (by kernel_rfl) rfl ?_
          refine j_end ?_
          refine run_seq ?_
          refine run_text ?_
          refine j_pure (pj_assign (has_nil (R := u8))) rfl rfl rfl ?_
          refine j_end ?_
          obtain rfl := Option.some.inj h
          exact run_ret fun a w hst => q_ret1 hst rfl (.tmp rfl) () (fun _ _ h => h) (.cons .here <| .nil)
        · replace h := bf e6 h
          refine run_skip ?_
          refine run_seq ?_
          refine run_text ?_
          refine j_pure (pj_move (has_tmp rfl)) rfl rfl rfl ?_
          refine j_pure (pj_nilCheck_ptr (has_tmp rfl)) rfl rfl rfl ?_
          refine j_pure (pj_field_ptr (off := 0) (has_tmp rfl) (by kernel_rfl)) rfl rfl rfl ?_
          refine j_pure (pj_load_box (has_tmp rfl) .here (Path.then (Path.all (prod (sl u8) bl)) (Path.fst (sl u8) bl)) (by kernel_rfl)) rfl rfl rfl ?_
          refine j_pure (pj_move (has_tmp rfl)) rfl rfl rfl ?_
          refine j_pure (pj_move (has_tmp rfl)) rfl rfl rfl ?_
          obtain ⟨x1, e7, h⟩ := bind_some h
          refine j_pure (pj_slice3 (has_tmp rfl) (has_tmp rfl) (has_tmp rfl) e7 (by kernel_rfl)) rfl rfl rfl ?_
          refine j_pure (pj_assign (has_tmp rfl)) rfl rfl rfl ?_
          refine j_end ?_
          refine run_seq ?_
          refine run_text ?_
          refine j_pure (pj_move (has_tmp rfl)) rfl rfl rfl ?_
          refine j_pure (pj_move (has_tmp rfl)) rfl rfl rfl ?_
          refine j_pure (pj_nilCheck_ptr (has_tmp rfl)) rfl rfl rfl ?_
          refine j_pure (pj_field_ptr (off := 0) (has_tmp rfl) (by kernel_rfl)) rfl rfl rfl ?_
          refine j_pure (pj_load_box (has_tmp rfl) .here (Path.then (Path.all (prod (sl u8) bl)) (Path.fst (sl u8) bl)) (by kernel_rfl)) rfl rfl rfl ?_
          refine j_pure (pj_move (has_tmp rfl)) rfl rfl rfl ?_
          obtain ⟨x2, e8, h⟩ := bind_some h
          refine j_pure (pj_slice_slx (has_tmp rfl) (.yes (has_tmp rfl) isInt_i64) .no e8 (by kernel_rfl)) rfl rfl rfl ?_
          refine j_pure (pj_nilCheck_ptr (has_tmp rfl)) rfl rfl rfl ?_
          refine j_pure (pj_field_ptr (off := 0) (has_tmp rfl) (by kernel_rfl)) rfl rfl rfl ?_
          refine j_store_boxx (r' := (x2, p_r.2)) (has_tmp rfl) (has_tmp rfl) .here (Path.then (Path.all (prod (sl u8) bl)) (Path.fst (sl u8) bl)) (by kernel_rfl) rfl ?_
          refine j_end ?_
          refine run_seq ?_
          refine run_text ?_
          refine j_pure (pj_move (has_tmp rfl)) rfl rfl rfl ?_
          refine j_pure (pj_assign (has_tmp rfl)) rfl rfl rfl ?_
          refine j_end ?_
          obtain rfl := Option.some.inj h
          exact run_ret fun a w hst => q_ret1 hst rfl (.tmp rfl) () (fun _ _ h => h) (.cons .here <| .nil)
      · rcases bool_tf (decide (p_n < (0 : Int))) with e4 | e4
        · replace e5 := bt e4 e5
          refine j_guard_no2 (j := 2) (want := false) rfl rfl rfl rfl (bl_isx e4) rfl rfl rfl ?_
          refine j_guard_no2 (j := 2) (want := false) rfl rfl rfl rfl (bl_isx e4) rfl rfl rfl ?_
          refine j_guard_no2 (j := 2) (want := false) rfl rfl rfl rfl (bl_isx e4) rfl rfl rfl ?_
          refine j_guard_no2 (j := 2) (want := false) rfl rfl rfl rfl (bl_isx e4) rfl rfl rfl ?_
          refine j_guard_no2 (j := 2) (want := false) rfl rfl rfl rfl (bl_isx e4) rfl rfl rfl ?_
          refine j_guard_no2 (j := 2) (want := false) rfl rfl rfl rfl (bl_isx e4) rfl rfl rfl ?_
          refine j_guard_no2 (j := 2) (want := false) rfl rfl rfl rfl (bl_isx e4) rfl rfl rfl ?_
          refine j_pure (PJ.eqv (R := bl) (pj_pick (t := any) (has_tmp rfl) (fun _ => has_bl) (fun he => absurd (e4.symm.trans he) (by decide))) (Option.some.inj e5)) rfl rfl rfl ?_
          exact j_to (.cons (.of_lk rfl) <| .cons (.of_lk rfl) <| .cons (.of_lk rfl) <| .nil) (.cons .here <| .nil) (J ())
        · replace e5 := bf e4 e5
          refine j_pure_y (pj_move (has_tmp rfl)) rfl rfl rfl rfl (bl_isx e4) rfl rfl ?_
          refine j_pure_y (pj_move (has_tmp rfl)) rfl rfl rfl rfl (bl_isx e4) rfl rfl ?_
          refine j_pure_y (pj_nilCheck_ptr (has_tmp rfl)) rfl rfl rfl rfl (bl_isx e4) rfl rfl ?_
          refine j_pure_y (pj_field_ptr (off := 0) (has_tmp rfl) (by kernel_rfl)) rfl rfl rfl rfl (bl_isx e4) rfl rfl ?_
          refine j_pure_y (pj_load_box (has_tmp rfl) .here (Path.then (Path.all (prod (sl u8) bl)) (Path.fst (sl u8) bl)) (by kernel_rfl)) rfl rfl rfl rfl (bl_isx e4) rfl rfl ?_
          refine j_pure_y (pj_len_sl (sz := 1) (has_tmp rfl) (by kernel_rfl)) rfl rfl rfl rfl (bl_isx e4) rfl rfl ?_
          refine j_pure_y (pj_igtr (has_tmp rfl) (has_tmp rfl)) rfl rfl rfl rfl (bl_isx e4) rfl rfl ?_
          refine j_pure (PJ.eqv (R := bl) (pj_pick (t := any) (has_tmp rfl) (fun he => absurd (e4.symm.trans he) (by decide)) (fun _ => (has_tmp rfl))) (Option.some.inj e5)) rfl rfl rfl ?_
          exact j_to (.cons (.of_lk rfl) <| .cons (.of_lk rfl) <| .cons (.of_lk rfl) <| .nil) (.cons .here <| .nil) (J ())
  · have e1 : (false) = false := rfl
    refine j_pure_y (pj_move (has_tmp rfl)) rfl rfl rfl rfl (bl_isx e1) rfl rfl ?_
    refine j_pure_y (pj_nilCheck_ptr (has_tmp rfl)) rfl rfl rfl rfl (bl_isx e1) rfl rfl ?_
    refine j_pure_y (pj_field_ptr (off := 1) (has_tmp rfl) (by kernel_rfl)) rfl rfl rfl rfl (bl_isx e1) rfl rfl ?_
    refine j_pure_y (pj_load_box (has_tmp rfl) .here (Path.then (Path.all (prod (sl u8) bl)) (Path.snd (sl u8) bl)) (by kernel_rfl)) rfl rfl rfl rfl (bl_isx e1) rfl rfl ?_
    refine j_pure (PJ.eqv (R := bl) (pj_pick (t := any) (has_tmp rfl) (fun he => absurd (e1.symm.trans he) (by decide)) (fun _ => (has_tmp rfl))) (Option.some.inj e2)) rfl rfl rfl ?_
    exact j_to (.cons (.of_lk rfl) <| .cons (.of_lk rfl) <| .cons (.of_lk rfl) <| .nil) (.cons .here <| .nil) (J ())
set_option maxRecDepth 100000 in
set_option maxHeartbeats 4000000 in
theorem c_wire_Reader_peek {G : GP} {p_r : (List (BitVec 8)) × Bool} {p_bytes : Int} {b_r : Nat} {c_r : List Value} {r : (BitVec 64) × Bool} (h : wire_Reader_peek p_r p_bytes = some r) : Ctr Try.prog G 37 [val (.pointer (some ⟨b_r, 0, none⟩)), i64.slot p_bytes] [box b_r 66 (exr (prod (sl u8) bl) c_r) (p_r.1, p_r.2)] (fun (_ : Unit) => tup [u64.slot r.1, bl.slot r.2]) (fun (_ : Unit) => [box b_r 66 (exr (prod (sl u8) bl) c_r) (p_r.1, p_r.2)]) := by
  unfold wire_Reader_peek at h
  refine ctr_of_run Try.func37 rfl 44 rfl rfl fun m0 w0 b0 => ?_
  show Run _ _ _ [(0, val (.pointer (some ⟨b_r, 0, none⟩))), (1, i64.slot p_bytes)] _
  refine run_seq ?_
  refine run_text ?_
  refine j_pure (PJ.xw (.ex .refl) (pj_assign (has_un (x := 0#64) rfl))) rfl rfl rfl ?_
  refine j_pure (PJ.xw (.ex .refl) (pj_assign has_bl)) rfl rfl rfl ?_
  refine j_end ?_
  refine run_seq ?_
  refine run_seq ?_
  refine run_text ?_
  refine j_pure (PJ.xw (.ex .refl) (pj_move (has_tmp rfl))) rfl rfl rfl ?_
  refine j_pure (PJ.xw (.ex .refl) (pj_eq_nil_val (E := 66) (by kernel_rfl) (has_tmp rfl))) rfl rfl rfl ?_
  refine j_pure (PJ.xw (.ex .refl) (pj_move (has_tmp rfl))) rfl rfl rfl ?_
  obtain ⟨y1, e2, h⟩ := bind_some h
  refine j_joinx (ι := Unit) (Γ' := fun _ => [(0, val (.pointer (some ⟨b_r, 0, none⟩))), (1, i64.slot p_bytes), (16, bl.slot y1)]) (H' := fun _ => [box b_r 66 (exr (prod (sl u8) bl) c_r) (p_r.1, p_r.2)]) 5 ?_ fun J => ?_
  · intro _
    clear e2
    show OpsJ _ _ _ [(0, val (.pointer (some ⟨b_r, 0, none⟩))), (1, i64.slot p_bytes), (16, bl.slot y1)] [box b_r 66 (exr (prod (sl u8) bl) c_r) (p_r.1, p_r.2)] _
    refine j_pure (PJ.xw (.ex .refl) (pj_move (has_tmp rfl))) rfl rfl rfl ?_
    obtain ⟨y2, e4, h⟩ := bind_some h
    refine j_joinx (ι := Unit) (Γ' := fun _ => [(0, val (.pointer (some ⟨b_r, 0, none⟩))), (1, i64.slot p_bytes), (25, bl.slot y2)]) (H' := fun _ => [box b_r 66 (exr (prod (sl u8) bl) c_r) (p_r.1, p_r.2)]) 8 ?_ fun J => ?_
    · intro _
      clear e4
      show OpsJ _ _ _ [(0, val (.pointer (some ⟨b_r, 0, none⟩))), (1, i64.slot p_bytes), (25, bl.slot y2)] [box b_r 66 (exr (prod (sl u8) bl) c_r) (p_r.1, p_r.2)] _
      refine j_end ?_
      refine run_cond (has_tmp rfl) (fun e5 => ?_) (fun e5 => ?_)
      · replace h := bt e5 h
        refine run_seq ?_
        refine run_text ?_
        refine j_pure (PJ.xw (.ex .refl) (pj_assign (has_un (x := 0#64) rfl))) rfl rfl rfl ?_
        refine j_pure (PJ.xw (.ex .refl) (pj_assign has_bl)) rfl rfl rfl ?_
        refine j_end ?_
        obtain rfl := Option.some.inj h
        exact run_ret fun a w hst => q_retN hst rfl (.cons (.tmp rfl) <| .cons (.tmp rfl) <| .nil) rfl () (fun _ _ h => h) (.cons .here <| .nil)
      · replace h := bf e5 h
        refine run_skip ?_
        refine run_seq ?_
        refine run_text ?_
        refine j_pure (PJ.xw (.ex .refl) (pj_assign (has_un (x := 0#64) rfl))) rfl rfl rfl ?_
        refine j_end ?_
        refine run_seq ?_
        refine run_seq ?_
        refine run_text ?_
        refine j_pure (PJ.xw (.ex .refl) (pj_move (has_tmp rfl))) rfl rfl rfl ?_
        refine j_pure (PJ.xw (.ex .refl) (pj_nilCheck_ptr (has_tmp rfl))) rfl rfl rfl ?_
        refine j_pure (PJ.xw (.ex .refl) (pj_field_ptr (off := 0) (has_tmp rfl) (by kernel_rfl))) rfl rfl rfl ?_
        refine j_pure (PJ.xw (.ex .refl) (pj_load_box (has_tmp rfl) .here (Path.then (Path.all (prod (sl u8) bl)) (Path.fst (sl u8) bl)) (by kernel_rfl))) rfl rfl rfl ?_
        refine j_pure (PJ.xw (.ex .refl) (pj_move (has_tmp rfl))) rfl rfl rfl ?_
        obtain ⟨x1, e6, h⟩ := bind_some h
        refine j_pure (PJ.xw (.ex .refl) (pj_slice_slx (has_tmp rfl) .no (.yes (has_tmp rfl) isInt_i64) e6 (by kernel_rfl))) rfl rfl rfl ?_
        refine j_pure (PJ.xw (.ex .refl) (pj_len_sl (sz := 1) (has_tmp rfl) (by kernel_rfl))) rfl rfl rfl ?_
        refine j_pure (PJ.xw (.ex .refl) (pj_move has_i64)) rfl rfl rfl ?_
        refine j_end ?_
        obtain ⟨⟨y5, y6⟩, e9, h⟩ := bind_some h
        refine run_loopS (Γi := fun (i : Unit) (s : (BitVec 64) × Int) => [(6, u64.slot s.1), (31, (sl u8).slot x1), (32, i64.slot (x1.length : Int)), (33, i64.slot s.2)]) (Hi := fun (i : Unit) (s : (BitVec 64) × Int) => [box b_r 66 (exr (prod (sl u8) bl) c_r) (p_r.1, p_r.2)]) e9 () (fun a w hst => (hst.sub (.cons (.of_lk rfl) <| .cons (.of_lk rfl) <| .cons (.of_lk rfl) <| .cons (.of_lk rfl) <| .nil)).keep (.cons .here <| .nil)) ?_ ?_
        · clear h e9
          rintro _ ⟨y3, y4⟩ lr h
          change wire_Reader_peek_L1 x1 y3 y4 = some _ at h
          show Run _ _ _ [(6, u64.slot y3), (31, (sl u8).slot x1), (32, i64.slot (x1.length : Int)), (33, i64.slot y4)] [box b_r 66 (exr (prod (sl u8) bl) c_r) (p_r.1, p_r.2)]
          unfold wire_Reader_peek_L1 at h
          refine run_seq ?_
          refine run_text ?_
          refine j_pure (PJ.xw (.ex .refl) (pj_ilss (has_tmp rfl) (has_tmp rfl))) rfl rfl rfl ?_
          refine j_end ?_
          refine run_seq ?_
          refine run_cond (has_tmp rfl) (fun e7 => ?_) (fun e7 => ?_)
          · replace h := bt e7 h
            refine run_skip ?_
            refine run_seq ?_
            refine run_block ?_
            refine run_seq ?_
            refine run_text ?_
            obtain ⟨x2, e8, h⟩ := bind_some h
            refine j_pure (PJ.xw (.ex .refl) (pj_index_slx (has_tmp rfl) (has_tmp rfl) isInt_i64 e8 (by kernel_rfl))) rfl rfl rfl ?_
            refine j_pure (PJ.xw (.ex .refl) (pj_load_to (has_tmp rfl) (by kernel_rfl))) rfl rfl rfl ?_
            refine j_pure (PJ.xw (.ex .refl) (pj_assign (has_tmp rfl))) rfl rfl rfl ?_
            refine j_end ?_
            refine run_text ?_
            refine j_pure (PJ.xw (.ex .refl) (pj_move (has_tmp rfl))) rfl rfl rfl ?_
            refine j_pure (PJ.xw (.ex .refl) (pj_ushl (k := .u64) (b := 64) rfl rfl (has_tmp rfl) (has_un (x := 8#64) rfl) isInt_un (Int.natCast_nonneg _))) rfl rfl rfl ?_
            refine j_pure (PJ.xw (.ex .refl) (pj_move (has_tmp rfl))) rfl rfl rfl ?_
            refine j_pure (PJ.xw (.ex .refl) (pj_conv_uu (k := .u64) (b := 64) rfl rfl (by kernel_rfl) (has_tmp rfl))) rfl rfl rfl ?_
            refine j_pure (PJ.xw (.ex .refl) (pj_uor (k := .u64) (b := 64) rfl rfl (has_tmp rfl) (has_tmp rfl))) rfl rfl rfl ?_
            refine j_pure (PJ.xw (.ex .refl) (pj_assign (has_tmp rfl))) rfl rfl rfl ?_
            refine j_end ?_
            refine run_endblock ?_
            refine run_text ?_
            refine j_pure (PJ.xw (.ex .refl) (pj_iadd (has_tmp rfl) has_i64)) rfl rfl rfl ?_
            refine j_pure (PJ.xw (.ex .refl) (pj_move (has_tmp rfl))) rfl rfl rfl ?_
            refine j_end ?_
            obtain rfl := Option.some.inj h
            exact run_next () (.cons (.of_lk rfl) <| .cons (.of_lk rfl) <| .cons (.of_lk rfl) <| .cons (.of_lk rfl) <| .nil) (.cons .here <| .nil)
          · replace h := bf e7 h
            obtain rfl := Option.some.inj h
            exact run_brk () (.cons (.of_lk rfl) <| .cons (.of_lk rfl) <| .cons (.of_lk rfl) <| .cons (.of_lk rfl) <| .nil) (.cons .here <| .nil)
        · rintro _
          show Run _ _ _ [(6, u64.slot y5), (31, (sl u8).slot x1), (32, i64.slot (x1.length : Int)), (33, i64.slot y6)] [box b_r 66 (exr (prod (sl u8) bl) c_r) (p_r.1, p_r.2)]
          refine run_to (Γ' := [(6, u64.slot y5)]) (H' := [box b_r 66 (exr (prod (sl u8) bl) c_r) (p_r.1, p_r.2)]) (.cons (.of_lk rfl) <| .nil) (.cons .here <| .nil) ?_
          refine run_seq ?_
          refine run_text ?_
          refine j_pure (PJ.xw (.ex .refl) (pj_move (has_tmp rfl))) rfl rfl rfl ?_
          refine j_pure (PJ.xw (.ex .refl) (pj_assign (has_tmp rfl))) rfl rfl rfl ?_
          refine j_pure (PJ.xw (.ex .refl) (pj_assign has_bl)) rfl rfl rfl ?_
          refine j_end ?_
          obtain rfl := Option.some.inj h
          exact run_ret fun a w hst => q_retN hst rfl (.cons (.tmp rfl) <| .cons (.tmp rfl) <| .nil) rfl () (fun _ _ h => h) (.cons .here <| .nil)
    · rcases bool_tf (y1) with e3 | e3
      · replace e4 := bt e3 e4
        refine j_guard_no2 (j := 8) (want := false) rfl rfl rfl rfl (bl_isx e3) rfl rfl rfl ?_
        refine j_guard_no2 (j := 8) (want := false) rfl rfl rfl rfl (bl_isx e3) rfl rfl rfl ?_
        refine j_guard_no2 (j := 8) (want := false) rfl rfl rfl rfl (bl_isx e3) rfl rfl rfl ?_
        refine j_guard_no2 (j := 8) (want := false) rfl rfl rfl rfl (bl_isx e3) rfl rfl rfl ?_
        refine j_guard_no2 (j := 8) (want := false) rfl rfl rfl rfl (bl_isx e3) rfl rfl rfl ?_
        refine j_guard_no2 (j := 8) (want := false) rfl rfl rfl rfl (bl_isx e3) rfl rfl rfl ?_
        refine j_guard_no2 (j := 8) (want := false) rfl rfl rfl rfl (bl_isx e3) rfl rfl rfl ?_
        refine j_pure (PJ.eqv (R := bl) (pj_pick (t := any) (has_tmp rfl) (fun _ => has_bl) (fun he => absurd (e3.symm.trans he) (by decide))) (Option.some.inj e4)) rfl rfl rfl ?_
        exact j_to (.cons (.of_lk rfl) <| .cons (.of_lk rfl) <| .cons (.of_lk rfl) <| .nil) (.cons .here <| .nil) (J ())
      · replace e4 := bf e3 e4
        refine j_pure_y (PJ.xw (.ex .refl) (pj_move (has_tmp rfl))) rfl rfl rfl rfl (bl_isx e3) rfl rfl ?_
        refine j_pure_y (PJ.xw (.ex .refl) (pj_nilCheck_ptr (has_tmp rfl))) rfl rfl rfl rfl (bl_isx e3) rfl rfl ?_
        refine j_pure_y (PJ.xw (.ex .refl) (pj_field_ptr (off := 0) (has_tmp rfl) (by kernel_rfl))) rfl rfl rfl rfl (bl_isx e3) rfl rfl ?_
        refine j_pure_y (PJ.xw (.ex .refl) (pj_load_box (has_tmp rfl) .here (Path.then (Path.all (prod (sl u8) bl)) (Path.fst (sl u8) bl)) (by kernel_rfl))) rfl rfl rfl rfl (bl_isx e3) rfl rfl ?_
        refine j_pure_y (PJ.xw (.ex .refl) (pj_len_sl (sz := 1) (has_tmp rfl) (by kernel_rfl))) rfl rfl rfl rfl (bl_isx e3) rfl rfl ?_
        refine j_pure_y (PJ.xw (.ex .refl) (pj_move (has_tmp rfl))) rfl rfl rfl rfl (bl_isx e3) rfl rfl ?_
        refine j_pure_y (PJ.xw (.ex .refl) (pj_ilss (has_tmp rfl) (has_tmp rfl))) rfl rfl rfl rfl (bl_isx e3) rfl rfl ?_
        refine j_pure (PJ.eqv (R := bl) (pj_pick (t := any) (has_tmp rfl) (fun he => absurd (e3.symm.trans he) (by decide)) (fun _ => (has_tmp rfl))) (Option.some.inj e4)) rfl rfl rfl ?_
        exact j_to (.cons (.of_lk rfl) <| .cons (.of_lk rfl) <| .cons (.of_lk rfl) <| .nil) (.cons .here <| .nil) (J ())
  · have e1 : (false) = false := rfl
    refine j_pure_y (PJ.xw (.ex .refl) (pj_move (has_tmp rfl))) rfl rfl rfl rfl (bl_isx e1) rfl rfl ?_
    refine j_pure_y (PJ.xw (.ex .refl) (pj_nilCheck_ptr (has_tmp rfl))) rfl rfl rfl rfl (bl_isx e1) rfl rfl ?_
    refine j_pure_y (PJ.xw (.ex .refl) (pj_field_ptr (off := 1) (has_tmp rfl) (by kernel_rfl))) rfl rfl rfl rfl (bl_isx e1) rfl rfl ?_
    refine j_pure_y (PJ.xw (.ex .refl) (pj_load_box (has_tmp rfl) .here (Path.then (Path.all (prod (sl u8) bl)) (Path.snd (sl u8) bl)) (by kernel_rfl))) rfl rfl rfl rfl (bl_isx e1) rfl rfl ?_
    refine j_pure (PJ.eqv (R := bl) (pj_pick (t := any) (has_tmp rfl) (fun he => absurd (e1.symm.trans he) (by decide)) (fun _ => (has_tmp rfl))) (Option.some.inj e2)) rfl rfl rfl ?_
    exact j_to (.cons (.of_lk rfl) <| .cons (.of_lk rfl) <| .cons (.of_lk rfl) <| .nil) (.cons .here <| .nil) (J ())
set_option maxRecDepth 100000 in
set_option maxHeartbeats 4000000 in
theorem c_wire_Reader_number {G : GP} {p_r : (List (BitVec 8)) × Bool} {p_bytes : Int} {b_r : Nat} {r : ((List (BitVec 8)) × Bool) × (BitVec 64)} (h : wire_Reader_number p_r p_bytes = some r) : Ctr Try.prog G 33 [val (.pointer (some ⟨b_r, 0, none⟩)), i64.slot p_bytes] [box b_r 66 (prod (sl u8) bl) (p_r.1, p_r.2)] (fun (_ : Unit) => u64.slot r.2) (fun (_ : Unit) => [box b_r 66 (prod (sl u8) bl) (r.1.1, r.1.2)]) := by
  unfold wire_Reader_number at h
  refine ctr_of_run Try.func33 rfl 19 rfl rfl fun m0 w0 b0 => ?_
  show Run _ _ _ [(0, val (.pointer (some ⟨b_r, 0, none⟩))), (1, i64.slot p_bytes)] _
  refine run_seq ?_
  refine run_text ?_
  refine j_pure (pj_assign (has_un (x := 0#64) rfl)) rfl rfl rfl ?_
  refine j_end ?_
  refine run_seq ?_
  refine run_text ?_
  refine j_pure (pj_move (has_tmp rfl)) rfl rfl rfl ?_
  refine j_pure (pj_move (has_tmp rfl)) rfl rfl rfl ?_
  obtain ⟨r1, e1, h⟩ := bind_some h
  refine j_pure (pj_callR (hasL_cons (has_tmp rfl) <| hasL_cons (has_tmp rfl) <| hasL_nil) .here (by kernel_rfl) (fun _ => (c_wire_Reader_peek e1))) rfl rfl rfl ?_
  refine j_pure (pj_move (has_tmp rfl)) rfl rfl rfl ?_
  refine j_pure (pj_extract (has_tmp rfl) rfl) rfl rfl rfl ?_
  refine j_pure (pj_extract (has_tmp rfl) rfl) rfl rfl rfl ?_
  refine j_pure (pj_assign (has_tmp rfl)) rfl rfl rfl ?_
  refine j_pure (pj_assign (has_tmp rfl)) rfl rfl rfl ?_
  refine j_end ?_
  refine run_seq ?_
  refine run_seq ?_
  refine run_text ?_
  refine j_pure (pj_move (has_tmp rfl)) rfl rfl rfl ?_
  refine j_pure (pj_move (has_tmp rfl)) rfl rfl rfl ?_
  obtain ⟨r2, e2, h⟩ := bind_some h
  refine j_call (hasL_cons (has_tmp rfl) <| hasL_cons (has_tmp rfl) <| hasL_nil) (by kernel_rfl) (c_wire_Reader_takes e2) (.cons .here <| .nil) rfl fun _ => ?_
  refine j_end ?_
  refine run_seq ?_
  refine run_text ?_
  refine j_pure (pj_move (has_tmp rfl)) rfl rfl rfl ?_
  refine j_pure (pj_not (has_tmp rfl)) rfl rfl rfl ?_
  refine j_end ?_
  refine run_cond (has_tmp rfl) (fun e3 => ?_) (fun e3 => ?_)
  · replace h := bt e3 h
    refine run_seq ?_
    refine run_text ?_
    refine j_pure (pj_assign (has_un (x := 0#64) rfl)) rfl rfl rfl ?_
    refine j_end ?_
    obtain rfl := Option.some.inj h
    exact run_ret fun a w hst => q_ret1 hst rfl (.tmp rfl) () (fun _ _ h => h) (.cons .here <| .nil)
  · replace h := bf e3 h
    refine run_skip ?_
    refine run_seq ?_
    refine run_text ?_
    refine j_pure (pj_move (has_tmp rfl)) rfl rfl rfl ?_
    refine j_pure (pj_assign (has_tmp rfl)) rfl rfl rfl ?_
    refine j_end ?_
    obtain rfl := Option.some.inj h
    exact run_ret fun a w hst => q_ret1 hst rfl (.tmp rfl) () (fun _ _ h => h) (.cons .here <| .nil)
set_option maxRecDepth 100000 in
set_option maxHeartbeats 4000000 in
theorem c_wire_Reader_U32 {G : GP} {p_r : (List (BitVec 8)) × Bool} {b_r : Nat} {r : ((List (BitVec 8)) × Bool) × (BitVec 32)} (h : wire_Reader_U32 p_r = some r) : Ctr Try.prog G 22 [val (.pointer (some ⟨b_r, 0, none⟩))] [box b_r 66 (prod (sl u8) bl) (p_r.1, p_r.2)] (fun (_ : Unit) => u32.slot r.2) (fun (_ : Unit) => [box b_r 66 (prod (sl u8) bl) (r.1.1, r.1.2)]) := by
  unfold wire_Reader_U32 at h
  refine ctr_of_run Try.func22 rfl 6 rfl rfl fun m0 w0 b0 => ?_
  show Run _ _ _ [(0, val (.pointer (some ⟨b_r, 0, none⟩)))] _
  refine run_seq ?_
  refine run_text ?_
  refine j_pure (pj_assign (has_un (x := 0#32) rfl)) rfl rfl rfl ?_
  refine j_end ?_
  refine run_seq ?_
  refine run_text ?_
  refine j_pure (pj_move (has_tmp rfl)) rfl rfl rfl ?_
  obtain ⟨r1, e1, h⟩ := bind_some h
  refine j_call (hasL_cons (has_tmp rfl) <| hasL_cons has_i64 <| hasL_nil) (by kernel_rfl) (c_wire_Reader_number e1) (.cons .here <| .nil) rfl fun _ => ?_
  refine j_pure (pj_conv_uu (k := .u32) (b := 32) rfl rfl (by kernel_rfl) (has_tmp rfl)) rfl rfl rfl ?_
  refine j_pure (pj_assign (has_tmp rfl)) rfl rfl rfl ?_
  refine j_end ?_
  obtain rfl := Option.some.inj h
  exact run_ret fun a w hst => q_ret1 hst rfl (.tmp rfl) () (fun _ _ h => h) (.cons .here <| .nil)
set_option maxRecDepth 100000 in
set_option maxHeartbeats 4000000 in
theorem c_wire_Reader_Plain {G : GP} {p_r : (List (BitVec 8)) × Bool} {p_n : Int} {b_r : Nat} {r : ((List (BitVec 8)) × Bool) × (List (BitVec 8))} (h : wire_Reader_Plain p_r p_n = some r) : Ctr Try.prog G 23 [val (.pointer (some ⟨b_r, 0, none⟩)), i64.slot p_n] [box b_r 66 (prod (sl u8) bl) (p_r.1, p_r.2)] (fun (_ : Unit) => (sl u8).slot r.2) (fun (_ : Unit) => [box b_r 66 (prod (sl u8) bl) (r.1.1, r.1.2)]) := by
  unfold wire_Reader_Plain at h
  refine ctr_of_run Try.func23 rfl 8 rfl rfl fun m0 w0 b0 => ?_
  show Run _ _ _ [(0, val (.pointer (some ⟨b_r, 0, none⟩))), (1, i64.slot p_n)] _
  refine run_seq ?_
  refine run_text ?_
  refine j_pure (pj_assign (has_nil (R := u8))) rfl rfl rfl ?_
  refine j_end ?_
  refine run_seq ?_
  refine run_text ?_
  refine j_pure (pj_move (has_tmp rfl)) rfl rfl rfl ?_
  refine j_pure (pj_move (has_tmp rfl)) rfl rfl rfl ?_
  obtain ⟨r1, e1, h⟩ := bind_some h
  refine j_call (hasL_cons (has_tmp rfl) <| hasL_cons (has_tmp rfl) <| hasL_nil) (by kernel_rfl) (c_wire_Reader_takes e1) (.cons .here <| .nil) rfl fun _ => ?_
  refine j_pure (pj_assign (has_tmp rfl)) rfl rfl rfl ?_
  refine j_end ?_
  obtain rfl := Option.some.inj h
  exact run_ret fun a w hst => q_ret1 hst rfl (.tmp rfl) () (fun _ _ h => h) (.cons .here <| .nil)
set_option maxRecDepth 100000 in
set_option maxHeartbeats 4000000 in
theorem c_head_Decode {G : GP} {p_b : List (BitVec 8)} {r : T_head_Head × Int} (h : head_Decode p_b = some r) : Ctr Try.prog G 7 [(sl u8).slot p_b] [] (fun (_ : Unit) => tup [R_head_Head.slot r.1, i64.slot r.2]) (fun (_ : Unit) => []) := by
  unfold head_Decode at h
  refine ctr_of_run Try.func7 rfl 32 rfl rfl fun m0 w0 b0 => ?_
  show Run _ _ _ [(0, (sl u8).slot p_b)] _
  refine run_seq ?_
  refine run_text ?_
  refine j_alloc (x := (0, 0, (Vector.replicate 32 (0#8)), (Vector.replicate 32 (0#8)))) (R := R_head_Head) (zero_prod zero_i64 (zero_prod zero_i64 (zero_prod (zero_vec 32 zero_un) (zero_vec 32 zero_un)))) (by kernel_rfl) rfl fun b1 => ?_
  refine j_pure (pj_assign has_i64) rfl rfl rfl ?_
  refine j_end ?_
  refine run_seq ?_
  refine run_seq ?_
  refine run_text ?_
  refine j_pure (pj_move (has_tmp rfl)) rfl rfl rfl ?_
  refine j_pure (pj_len_sl (sz := 1) (has_tmp rfl) (by kernel_rfl)) rfl rfl rfl ?_
  refine j_pure (pj_ineq (has_tmp rfl) has_i64) rfl rfl rfl ?_
  refine j_end ?_
  refine run_cond (has_tmp rfl) (fun e1 => ?_) (fun e1 => ?_)
  · replace h := bt e1 h
    refine run_seq ?_
    refine run_text ?_
    refine j_pure (pj_build (R := R_head_Head) (zero_prod zero_i64 (zero_prod zero_i64 (zero_prod (zero_vec 32 zero_un) (zero_vec 32 zero_un)))) (by kernel_rfl) (by kernel_rfl) rfl .nil) rfl rfl rfl ?_
    obtain ⟨x1, e2, h⟩ := bind_some h
    refine j_store_boxx (r' := x1) (has_tmp rfl) (has_tmp rfl) .here (Path.all R_head_Head) (by kernel_rfl) (Option.some.inj e2) ?_
    refine j_pure (pj_assign has_i64) rfl rfl rfl ?_
    refine j_end ?_
    obtain rfl := Option.some.inj h
    exact run_ret fun a w hst => q_retN hst rfl (.cons (.cell rfl .here (by kernel_rfl)) <| .cons (.tmp rfl) <| .nil) rfl () (fun _ _ h => h) (.nil)
  · replace h := bf e1 h
    refine run_skip ?_
    refine run_seq ?_
    refine run_text ?_
    refine j_pure (pj_move (has_tmp rfl)) rfl rfl rfl ?_
    obtain ⟨r1, e3, h⟩ := bind_some h
    refine j_call (hasL_cons (has_tmp rfl) <| hasL_nil) (by kernel_rfl) (c_wire_New e3) .nil rfl fun b2 => ?_
    refine j_pure (pj_assign (has_tmp rfl)) rfl rfl rfl ?_
    refine j_end ?_
    refine run_seq ?_
    obtain ⟨r2, e4, h⟩ := bind_some h
    obtain ⟨r3, e5, h⟩ := bind_some h
    obtain ⟨r4, e6, h⟩ := bind_some h
    obtain ⟨x2, e7, h⟩ := bind_some h
    obtain ⟨r5, e8, h⟩ := bind_some h
    obtain ⟨x3, e9, h⟩ := bind_some h
    obtain ⟨x4, e10, h⟩ := bind_some h
    refine run_keep (H' := [box b2 66 (prod (sl u8) bl) (r1.1, r1.2), box b1 31 R_head_Head (0, 0, (Vector.replicate 32 (0#8)), (Vector.replicate 32 (0#8)))]) (.cons .here <| .cons .here <| .nil) ?_
    refine run_drawL (n := 16) (H := [box b1 31 R_head_Head (0, 0, (Vector.replicate 32 (0#8)), (Vector.replicate 32 (0#8)))]) (Ls := [⟨[box b2 66 (prod (sl u8) bl) (r1.1, r1.2)], [(1, ⟨Unit, fun (_ : Unit) => [box b2 66 (prod (sl u8) bl) (r2.1.1, r2.1.2)], fun (_ : Unit) => [(13, u32.slot r2.2)]⟩), (4, ⟨Unit, fun (_ : Unit) => [box b2 66 (prod (sl u8) bl) (r3.1.1, r3.1.2)], fun (_ : Unit) => [(16, u32.slot r3.2), (13, u32.slot r2.2)]⟩), (7, ⟨Unit, fun (_ : Unit) => [box b2 66 (prod (sl u8) bl) (r4.1.1, r4.1.2)], fun (_ : Unit) => [(19, (sl u8).slot r4.2), (16, u32.slot r3.2), (13, u32.slot r2.2)]⟩), (11, ⟨Unit, fun (_ : Unit) => [box b2 66 (prod (sl u8) bl) (r5.1.1, r5.1.2)], fun (_ : Unit) => [(23, (sl u8).slot r5.2), (19, (sl u8).slot r4.2), (16, u32.slot r3.2), (13, u32.slot r2.2)]⟩)]⟩, ⟨[], [(15, ⟨Nat, fun (b3 : Nat) => [box b3 31 R_head_Head (0, 0, (Vector.replicate 32 (0#8)), (Vector.replicate 32 (0#8)))], fun (b3 : Nat) => [(5, val (.pointer (some ⟨b3, 0, none⟩)))]⟩)]⟩]) (by kernel_rfl) (by kernel_rfl) (by kernel_rfl) (by kernel_rfl) (by kernel_rfl) rfl (.read rfl (.plain rfl (pj_move (has_tmp rfl))) <| .step 0 rfl .here (.inl rfl) (fun i => ⟨_, _, fun _ => (), (w_call (hasL_cons (has_tmp rfl) <| hasL_nil) (by kernel_rfl) (c_wire_Reader_U32 e4) (.cons .here <| .nil) rfl), fun _ => rfl, slotIs, dst1⟩) <| .read rfl (.plain rfl (pj_conv_ui (by decide) (by kernel_rfl) (has_tmp rfl))) <| .read rfl (.plain rfl (pj_move (has_tmp rfl))) <| .step 0 rfl (.next .here) (.inl rfl) (fun i => ⟨_, _, fun _ => (), (w_call (hasL_cons (has_tmp rfl) <| hasL_nil) (by kernel_rfl) (c_wire_Reader_U32 e5) (.cons .here <| .nil) rfl), fun _ => rfl, slotIs, dst1⟩) <| .read rfl (.plain rfl (pj_conv_ui (by decide) (by kernel_rfl) (has_tmp rfl))) <| .read rfl (.plain rfl (pj_move (has_tmp rfl))) <| .step 0 rfl (.next (.next .here)) (.inl rfl) (fun i => ⟨_, _, fun _ => (), (w_call (hasL_cons (has_tmp rfl) <| hasL_cons has_i64 <| hasL_nil) (by kernel_rfl) (c_wire_Reader_Plain e6) (.cons .here <| .nil) rfl), fun _ => rfl, slotIs, dst1⟩) <| .read rfl (.plain rfl (pj_s2apx (e := 5) (has_tmp rfl) e7 rfl (by kernel_rfl))) <| .read rfl (.plain rfl (pj_load_to (has_tmp rfl) (by kernel_rfl))) <| .read rfl (.plain rfl (pj_move (has_tmp rfl))) <| .step 0 rfl (.next (.next (.next .here))) (.inl rfl) (fun i => ⟨_, _, fun _ => (), (w_call (hasL_cons (has_tmp rfl) <| hasL_cons has_i64 <| hasL_nil) (by kernel_rfl) (c_wire_Reader_Plain e8) (.cons .here <| .nil) rfl), fun _ => rfl, slotIs, dst1⟩) <| .read rfl (.plain rfl (pj_s2apx (e := 5) (has_tmp rfl) e9 rfl (by kernel_rfl))) <| .read rfl (.plain rfl (pj_load_to (has_tmp rfl) (by kernel_rfl))) <| .read rfl (.plain rfl (PJ.eqv (pj_build (R := R_head_Head) (zero_prod zero_i64 (zero_prod zero_i64 (zero_prod (zero_vec 32 zero_un) (zero_vec 32 zero_un)))) (by kernel_rfl) (by kernel_rfl) rfl (.cons (has_tmp rfl) (Path.fst i64 (prod i64 (prod R_api_Hash R_api_Hash))) (by kernel_rfl) (.cons (has_tmp rfl) (Path.then (Path.snd i64 (prod i64 (prod R_api_Hash R_api_Hash))) (Path.fst i64 (prod R_api_Hash R_api_Hash))) (by kernel_rfl) (.cons (has_tmp rfl) (Path.then (Path.snd i64 (prod i64 (prod R_api_Hash R_api_Hash))) (Path.then (Path.snd i64 (prod R_api_Hash R_api_Hash)) (Path.fst R_api_Hash R_api_Hash))) (by kernel_rfl) (.cons (has_tmp rfl) (Path.then (Path.snd i64 (prod i64 (prod R_api_Hash R_api_Hash))) (Path.then (Path.snd i64 (prod R_api_Hash R_api_Hash)) (Path.snd R_api_Hash R_api_Hash))) (by kernel_rfl) .nil))))) (Option.some.inj e10))) <| .step 1 rfl .here (.inl rfl) (fun i => ⟨_, _, fun j => j, (w_alloc (x := (0, 0, (Vector.replicate 32 (0#8)), (Vector.replicate 32 (0#8)))) (R := R_head_Head) (zero_prod zero_i64 (zero_prod zero_i64 (zero_prod (zero_vec 32 zero_un) (zero_vec 32 zero_un)))) (by kernel_rfl) rfl), fun _ => rfl, slotAny, dst1⟩) <| .nil) ?_
    rintro _ b3
    refine j_to (Γ' := [(2, val (.pointer (some ⟨b1, 0, none⟩))), (5, val (.pointer (some ⟨b3, 0, none⟩))), (26, R_head_Head.slot x4)]) (H' := [box b3 31 R_head_Head (0, 0, (Vector.replicate 32 (0#8)), (Vector.replicate 32 (0#8))), box b1 31 R_head_Head (0, 0, (Vector.replicate 32 (0#8)), (Vector.replicate 32 (0#8)))]) (.cons (.of_lk rfl) <| .cons (.of_lk rfl) <| .cons (.of_lk rfl) <| .nil) (.cons (.next .here) <| .cons (.next .here) <| .nil) ?_
    refine j_store_boxx (r' := x4) (has_tmp rfl) (has_tmp rfl) .here (Path.all R_head_Head) (by kernel_rfl) rfl ?_
    refine j_freezeTo (t := 5) .here (.of_lk rfl) ?_
    refine j_end ?_
    refine run_seq ?_
    refine run_seq ?_
    refine run_text ?_
    refine j_pure (pj_load_to (has_tmp rfl) (by kernel_rfl)) rfl rfl rfl ?_
    obtain ⟨r6, e11, h⟩ := bind_some h
    refine j_pure (pj_call (hasL_cons (has_tmp rfl) <| hasL_nil) (by kernel_rfl) (c_head_Head_is e11)) rfl rfl rfl ?_
    refine j_pure (pj_not (has_tmp rfl)) rfl rfl rfl ?_
    refine j_end ?_
    refine run_cond (has_tmp rfl) (fun e12 => ?_) (fun e12 => ?_)
    · replace h := bt e12 h
      refine run_seq ?_
      refine run_text ?_
      refine j_pure (pj_build (R := R_head_Head) (zero_prod zero_i64 (zero_prod zero_i64 (zero_prod (zero_vec 32 zero_un) (zero_vec 32 zero_un)))) (by kernel_rfl) (by kernel_rfl) rfl .nil) rfl rfl rfl ?_
      obtain ⟨x5, e13, h⟩ := bind_some h
      refine j_store_boxx (r' := x5) (has_tmp rfl) (has_tmp rfl) .here (Path.all R_head_Head) (by kernel_rfl) (Option.some.inj e13) ?_
      refine j_pure (pj_assign has_i64) rfl rfl rfl ?_
      refine j_end ?_
      obtain rfl := Option.some.inj h
      exact run_ret fun a w hst => q_retN hst rfl (.cons (.cell rfl .here (by kernel_rfl)) <| .cons (.tmp rfl) <| .nil) rfl () (fun _ _ h => h) (.nil)
    · replace h := bf e12 h
      refine run_skip ?_
      refine run_seq ?_
      refine run_text ?_
      refine j_pure (pj_load_to (has_tmp rfl) (by kernel_rfl)) rfl rfl rfl ?_
      refine j_store_boxx (r' := x4) (has_tmp rfl) (has_tmp rfl) .here (Path.all R_head_Head) (by kernel_rfl) rfl ?_
      refine j_pure (pj_assign has_i64) rfl rfl rfl ?_
      refine j_end ?_
      obtain rfl := Option.some.inj h
      exact run_ret fun a w hst => q_retN hst rfl (.cons (.cell rfl .here (by kernel_rfl)) <| .cons (.tmp rfl) <| .nil) rfl () (fun _ _ h => h) (.nil)
set_option maxRecDepth 100000 in
set_option maxHeartbeats 4000000 in
theorem c_wire_Reader_Fails {G : GP} {p_r : (List (BitVec 8)) × Bool} {b_r : Nat} {c_r : List Value} {r : Bool} (h : wire_Reader_Fails p_r = some r) : Ctr Try.prog G 16 [val (.pointer (some ⟨b_r, 0, none⟩))] [box b_r 66 (exr (prod (sl u8) bl) c_r) (p_r.1, p_r.2)] (fun (_ : Unit) => bl.slot r) (fun (_ : Unit) => [box b_r 66 (exr (prod (sl u8) bl) c_r) (p_r.1, p_r.2)]) := by
  unfold wire_Reader_Fails at h
  refine ctr_of_run Try.func16 rfl 11 rfl rfl fun m0 w0 b0 => ?_
  show Run _ _ _ [(0, val (.pointer (some ⟨b_r, 0, none⟩)))] _
  refine run_seq ?_
  refine run_text ?_
  refine j_pure (PJ.xw (.ex .refl) (pj_assign has_bl)) rfl rfl rfl ?_
  refine j_end ?_
  refine run_seq ?_
  refine run_text ?_
  refine j_pure (PJ.xw (.ex .refl) (pj_move (has_tmp rfl))) rfl rfl rfl ?_
  refine j_pure (PJ.xw (.ex .refl) (pj_eq_nil_val (E := 66) (by kernel_rfl) (has_tmp rfl))) rfl rfl rfl ?_
  refine j_pure (PJ.xw (.ex .refl) (pj_move (has_tmp rfl))) rfl rfl rfl ?_
  obtain ⟨y1, e2, h⟩ := bind_some h
  refine j_joinx (ι := Unit) (Γ' := fun _ => [(10, bl.slot y1)]) (H' := fun _ => [box b_r 66 (exr (prod (sl u8) bl) c_r) (p_r.1, p_r.2)]) 5 ?_ fun J => ?_
  · intro _
    clear e2
    show OpsJ _ _ _ [(10, bl.slot y1)] [box b_r 66 (exr (prod (sl u8) bl) c_r) (p_r.1, p_r.2)] _
    refine j_pure (PJ.xw (.ex .refl) (pj_assign (has_tmp rfl))) rfl rfl rfl ?_
    refine j_end ?_
    obtain rfl := Option.some.inj h
    exact run_ret fun a w hst => q_ret1 hst rfl (.tmp rfl) () (fun _ _ h => h) (.cons .here <| .nil)
  · have e1 : (false) = false := rfl
    refine j_pure_y (PJ.xw (.ex .refl) (pj_move (has_tmp rfl))) rfl rfl rfl rfl (bl_isx e1) rfl rfl ?_
    refine j_pure_y (PJ.xw (.ex .refl) (pj_nilCheck_ptr (has_tmp rfl))) rfl rfl rfl rfl (bl_isx e1) rfl rfl ?_
    refine j_pure_y (PJ.xw (.ex .refl) (pj_field_ptr (off := 1) (has_tmp rfl) (by kernel_rfl))) rfl rfl rfl rfl (bl_isx e1) rfl rfl ?_
    refine j_pure_y (PJ.xw (.ex .refl) (pj_load_box (has_tmp rfl) .here (Path.then (Path.all (prod (sl u8) bl)) (Path.snd (sl u8) bl)) (by kernel_rfl))) rfl rfl rfl rfl (bl_isx e1) rfl rfl ?_
    refine j_pure (PJ.eqv (R := bl) (pj_pick (t := any) (has_tmp rfl) (fun he => absurd (e1.symm.trans he) (by decide)) (fun _ => (has_tmp rfl))) (Option.some.inj e2)) rfl rfl rfl ?_
    exact j_to (.cons (.of_lk rfl) <| .nil) (.cons .here <| .nil) (J ())
set_option maxRecDepth 100000 in
set_option maxHeartbeats 4000000 in
theorem c_wire_Reader_Left {G : GP} {p_r : (List (BitVec 8)) × Bool} {b_r : Nat} {c_r : List Value} {r : Int} (h : wire_Reader_Left p_r = some r) : Ctr Try.prog G 17 [val (.pointer (some ⟨b_r, 0, none⟩))] [box b_r 66 (exr (prod (sl u8) bl) c_r) (p_r.1, p_r.2)] (fun (_ : Unit) => i64.slot r) (fun (_ : Unit) => [box b_r 66 (exr (prod (sl u8) bl) c_r) (p_r.1, p_r.2)]) := by
  unfold wire_Reader_Left at h
  refine ctr_of_run Try.func17 rfl 10 rfl rfl fun m0 w0 b0 => ?_
  show Run _ _ _ [(0, val (.pointer (some ⟨b_r, 0, none⟩)))] _
  refine run_seq ?_
  refine run_text ?_
  refine j_pure (PJ.xw (.ex .refl) (pj_assign has_i64)) rfl rfl rfl ?_
  refine j_end ?_
  refine run_seq ?_
  refine run_seq ?_
  refine run_text ?_
  refine j_pure (PJ.xw (.ex .refl) (pj_move (has_tmp rfl))) rfl rfl rfl ?_
  refine j_pure (PJ.xw (.ex .refl) (pj_eq_nil_val (E := 66) (by kernel_rfl) (has_tmp rfl))) rfl rfl rfl ?_
  refine j_end ?_
  refine run_cond_f (has_tmp rfl) rfl ?_
  refine run_skip ?_
  refine run_seq ?_
  refine run_text ?_
  refine j_pure (PJ.xw (.ex .refl) (pj_move (has_tmp rfl))) rfl rfl rfl ?_
  refine j_pure (PJ.xw (.ex .refl) (pj_nilCheck_ptr (has_tmp rfl))) rfl rfl rfl ?_
  refine j_pure (PJ.xw (.ex .refl) (pj_field_ptr (off := 0) (has_tmp rfl) (by kernel_rfl))) rfl rfl rfl ?_
  refine j_pure (PJ.xw (.ex .refl) (pj_load_box (has_tmp rfl) .here (Path.then (Path.all (prod (sl u8) bl)) (Path.fst (sl u8) bl)) (by kernel_rfl))) rfl rfl rfl ?_
  refine j_pure (PJ.xw (.ex .refl) (pj_len_sl (sz := 1) (has_tmp rfl) (by kernel_rfl))) rfl rfl rfl ?_
  refine j_pure (PJ.xw (.ex .refl) (pj_assign (has_tmp rfl))) rfl rfl rfl ?_
  refine j_end ?_
  obtain rfl := Option.some.inj h
  exact run_ret fun a w hst => q_ret1 hst rfl (.tmp rfl) () (fun _ _ h => h) (.cons .here <| .nil)
set_option maxRecDepth 100000 in
set_option maxHeartbeats 4000000 in
theorem c_wire_Reader_spoil {G : GP} {p_r : (List (BitVec 8)) × Bool} {b_r : Nat} {r : ((List (BitVec 8)) × Bool)} (h : wire_Reader_spoil p_r = some r) : Ctr Try.prog G 38 [val (.pointer (some ⟨b_r, 0, none⟩))] [box b_r 66 (prod (sl u8) bl) (p_r.1, p_r.2)] (fun (_ : Unit) => tup []) (fun (_ : Unit) => [box b_r 66 (prod (sl u8) bl) (r.1, r.2)]) := by
  unfold wire_Reader_spoil at h
  refine ctr_of_run Try.func38 rfl 7 rfl rfl fun m0 w0 b0 => ?_
  show Run _ _ _ [(0, val (.pointer (some ⟨b_r, 0, none⟩)))] _
  refine run_seq ?_
  refine run_text ?_
  refine j_pure (pj_move (has_tmp rfl)) rfl rfl rfl ?_
  refine j_pure (pj_ne_nil_val (E := 66) (by kernel_rfl) (has_tmp rfl)) rfl rfl rfl ?_
  refine j_end ?_
  refine run_cond_t (has_tmp rfl) rfl ?_
  refine run_text ?_
  refine j_pure (pj_move (has_tmp rfl)) rfl rfl rfl ?_
  refine j_pure (pj_nilCheck_ptr (has_tmp rfl)) rfl rfl rfl ?_
  refine j_pure (pj_field_ptr (off := 1) (has_tmp rfl) (by kernel_rfl)) rfl rfl rfl ?_
  refine j_store_boxx (r' := (p_r.1, true)) (has_tmp rfl) has_bl .here (Path.then (Path.all (prod (sl u8) bl)) (Path.snd (sl u8) bl)) (by kernel_rfl) rfl ?_
  refine j_end ?_
  obtain rfl := Option.some.inj h
  exact run_nil fun a w hst => q_retN_n hst rfl (.nil) rfl () (fun _ _ h => h) (.cons .here <| .nil)
set_option maxRecDepth 100000 in
set_option maxHeartbeats 4000000 in
theorem c_wire_Reader_String {G : GP} {p_r : (List (BitVec 8)) × Bool} {p_most : Int} {b_r : Nat} {r : ((List (BitVec 8)) × Bool) × (List (BitVec 8))} (h : wire_Reader_String p_r p_most = some r) : Ctr Try.prog G 29 [val (.pointer (some ⟨b_r, 0, none⟩)), i64.slot p_most] [box b_r 66 (prod (sl u8) bl) (p_r.1, p_r.2)] (fun (_ : Unit) => (sl u8).slot r.2) (fun (_ : Unit) => [box b_r 66 (prod (sl u8) bl) (r.1.1, r.1.2)]) := by
  unfold wire_Reader_String at h
  refine ctr_of_run Try.func29 rfl 40 rfl rfl fun m0 w0 b0 => ?_
  show Run _ _ _ [(0, val (.pointer (some ⟨b_r, 0, none⟩))), (1, i64.slot p_most)] _
  refine run_seq ?_
  refine run_text ?_
  refine j_pure (pj_assign (has_nil (R := u8))) rfl rfl rfl ?_
  refine j_end ?_
  refine run_seq ?_
  refine run_text ?_
  refine j_pure (pj_move (has_tmp rfl)) rfl rfl rfl ?_
  obtain ⟨r1, e1, h⟩ := bind_some h
  refine j_pure (pj_callR (hasL_cons (has_tmp rfl) <| hasL_cons has_i64 <| hasL_nil) .here (by kernel_rfl) (fun _ => (c_wire_Reader_peek e1))) rfl rfl rfl ?_
  refine j_pure (pj_move (has_tmp rfl)) rfl rfl rfl ?_
  refine j_pure (pj_extract (has_tmp rfl) rfl) rfl rfl rfl ?_
  refine j_pure (pj_extract (has_tmp rfl) rfl) rfl rfl rfl ?_
  refine j_pure (pj_assign (has_tmp rfl)) rfl rfl rfl ?_
  refine j_pure (pj_assign (has_tmp rfl)) rfl rfl rfl ?_
  refine j_end ?_
  refine run_seq ?_
  refine run_seq ?_
  refine run_text ?_
  refine j_pure (pj_move (has_tmp rfl)) rfl rfl rfl ?_
  refine j_pure (pj_not (has_tmp rfl)) rfl rfl rfl ?_
  refine j_pure (pj_move (has_tmp rfl)) rfl rfl rfl ?_
  obtain ⟨y1, e3, h⟩ := bind_some h
  refine j_joinx (ι := Unit) (Γ' := fun _ => [(0, val (.pointer (some ⟨b_r, 0, none⟩))), (5, u64.slot r1.1), (19, bl.slot y1)]) (H' := fun _ => [box b_r 66 (prod (sl u8) bl) (p_r.1, p_r.2)]) 5 ?_ fun J => ?_
  · intro _
    clear e3
    show OpsJ _ _ _ [(0, val (.pointer (some ⟨b_r, 0, none⟩))), (5, u64.slot r1.1), (19, bl.slot y1)] [box b_r 66 (prod (sl u8) bl) (p_r.1, p_r.2)] _
    refine j_pure (pj_move (has_tmp rfl)) rfl rfl rfl ?_
    obtain ⟨y2, e5, h⟩ := bind_some h
    refine j_joinx (ι := Unit) (Γ' := fun _ => [(0, val (.pointer (some ⟨b_r, 0, none⟩))), (5, u64.slot r1.1), (23, bl.slot y2)]) (H' := fun _ => [box b_r 66 (prod (sl u8) bl) (p_r.1, p_r.2)]) 3 ?_ fun J => ?_
    · intro _
      clear e5
      show OpsJ _ _ _ [(0, val (.pointer (some ⟨b_r, 0, none⟩))), (5, u64.slot r1.1), (23, bl.slot y2)] [box b_r 66 (prod (sl u8) bl) (p_r.1, p_r.2)] _
      refine j_pure (pj_move (has_tmp rfl)) rfl rfl rfl ?_
      obtain ⟨y3, e7, h⟩ := bind_some h
      refine j_joinx (ι := Unit) (Γ' := fun _ => [(0, val (.pointer (some ⟨b_r, 0, none⟩))), (5, u64.slot r1.1), (31, bl.slot y3)]) (H' := fun _ => [box b_r 66 (prod (sl u8) bl) (p_r.1, p_r.2)]) 7 ?_ fun J => ?_
      · intro _
        clear e7
        show OpsJ _ _ _ [(0, val (.pointer (some ⟨b_r, 0, none⟩))), (5, u64.slot r1.1), (31, bl.slot y3)] [box b_r 66 (prod (sl u8) bl) (p_r.1, p_r.2)] _
        refine j_end ?_
        refine run_cond (has_tmp rfl) (fun e9 => ?_) (fun e9 => ?_)
        · replace h := bt e9 h
          refine run_seq ?_
          refine run_text ?_
          refine j_pure (pj_move (has_tmp rfl)) rfl rfl rfl ?_
          obtain ⟨r3, e10, h⟩ := bind_some h
          refine j_call (hasL_cons (has_tmp rfl) <| hasL_nil) (by kernel_rfl) (c_wire_Reader_spoil e10) (.cons .here <| .nil) rfl fun _ => ?_
          refine j_end ?_
          refine run_seq ?_
          refine run_text ?_
          refine j_pure (pj_assign (has_nil (R := u8))) rfl rfl rfl ?_
          refine j_end ?_
          obtain rfl := Option.some.inj h
          exact run_ret fun a w hst => q_ret1 hst rfl (.tmp rfl) () (fun _ _ h => h) (.cons .here <| .nil)
        · replace h := bf e9 h
          refine run_skip ?_
          refine run_seq ?_
          refine run_text ?_
          refine j_pure (pj_move (has_tmp rfl)) rfl rfl rfl ?_
          obtain ⟨r4, e11, h⟩ := bind_some h
          refine j_call (hasL_cons (has_tmp rfl) <| hasL_cons has_i64 <| hasL_nil) (by kernel_rfl) (c_wire_Reader_number e11) (.cons .here <| .nil) rfl fun _ => ?_
          refine j_end ?_
          refine run_seq ?_
          refine run_text ?_
          refine j_pure (pj_move (has_tmp rfl)) rfl rfl rfl ?_
          refine j_pure (pj_move (has_tmp rfl)) rfl rfl rfl ?_
          refine j_pure (pj_conv_i64 (by kernel_rfl) (has_tmp rfl) isInt_un) rfl rfl rfl ?_
          obtain ⟨r5, e12, h⟩ := bind_some h
          refine j_call (hasL_cons (has_tmp rfl) <| hasL_cons (has_tmp rfl) <| hasL_nil) (by kernel_rfl) (c_wire_Reader_takes e12) (.cons .here <| .nil) rfl fun _ => ?_
          refine j_pure (pj_assign (has_tmp rfl)) rfl rfl rfl ?_
          refine j_end ?_
          obtain rfl := Option.some.inj h
          exact run_ret fun a w hst => q_ret1 hst rfl (.tmp rfl) () (fun _ _ h => h) (.cons .here <| .nil)
      · rcases bool_tf (y2) with e6 | e6
        · replace e7 := bt e6 e7
          refine j_guard_no2 (j := 12) (want := false) rfl rfl rfl rfl (bl_isx e6) rfl rfl rfl ?_
          refine j_guard_no2 (j := 12) (want := false) rfl rfl rfl rfl (bl_isx e6) rfl rfl rfl ?_
          refine j_guard_no2 (j := 12) (want := false) rfl rfl rfl rfl (bl_isx e6) rfl rfl rfl ?_
          refine j_guard_no2 (j := 12) (want := false) rfl rfl rfl rfl (bl_isx e6) rfl rfl rfl ?_
          refine j_guard_no2 (j := 12) (want := false) rfl rfl rfl rfl (bl_isx e6) rfl rfl rfl ?_
          refine j_guard_no2 (j := 12) (want := false) rfl rfl rfl rfl (bl_isx e6) rfl rfl rfl ?_
          refine j_pure (PJ.eqv (R := bl) (pj_pick (t := any) (has_tmp rfl) (fun _ => has_bl) (fun he => absurd (e6.symm.trans he) (by decide))) (Option.some.inj e7)) rfl rfl rfl ?_
          exact j_to (.cons (.of_lk rfl) <| .cons (.of_lk rfl) <| .cons (.of_lk rfl) <| .nil) (.cons .here <| .nil) (J ())
        · replace e7 := bf e6 e7
          refine j_pure_y (pj_move (has_tmp rfl)) rfl rfl rfl rfl (bl_isx e6) rfl rfl ?_
          refine j_pure_y (pj_conv_i64 (by kernel_rfl) (has_tmp rfl) isInt_un) rfl rfl rfl rfl (bl_isx e6) rfl rfl ?_
          refine j_pure_y (pj_move (has_tmp rfl)) rfl rfl rfl rfl (bl_isx e6) rfl rfl ?_
          obtain ⟨r2, e8, e7⟩ := bind_some e7
          refine j_pure_y (pj_callR (hasL_cons (has_tmp rfl) <| hasL_nil) .here (by kernel_rfl) (fun _ => (c_wire_Reader_Left e8))) rfl rfl rfl rfl (bl_isx e6) rfl rfl ?_
          refine j_pure_y (pj_isub (has_tmp rfl) has_i64) rfl rfl rfl rfl (bl_isx e6) rfl rfl ?_
          refine j_pure_y (pj_igtr (has_tmp rfl) (has_tmp rfl)) rfl rfl rfl rfl (bl_isx e6) rfl rfl ?_
          refine j_pure (PJ.eqv (R := bl) (pj_pick (t := any) (has_tmp rfl) (fun he => absurd (e6.symm.trans he) (by decide)) (fun _ => (has_tmp rfl))) (Option.some.inj e7)) rfl rfl rfl ?_
          exact j_to (.cons (.of_lk rfl) <| .cons (.of_lk rfl) <| .cons (.of_lk rfl) <| .nil) (.cons .here <| .nil) (J ())
    · rcases bool_tf (y1) with e4 | e4
      · replace e5 := bt e4 e5
        refine j_guard_no2 (j := 8) (want := false) rfl rfl rfl rfl (bl_isx e4) rfl rfl rfl ?_
        refine j_guard_no2 (j := 8) (want := false) rfl rfl rfl rfl (bl_isx e4) rfl rfl rfl ?_
        refine j_pure (PJ.eqv (R := bl) (pj_pick (t := any) (has_tmp rfl) (fun _ => has_bl) (fun he => absurd (e4.symm.trans he) (by decide))) (Option.some.inj e5)) rfl rfl rfl ?_
        exact j_to (.cons (.of_lk rfl) <| .cons (.of_lk rfl) <| .cons (.of_lk rfl) <| .nil) (.cons .here <| .nil) (J ())
      · replace e5 := bf e4 e5
        refine j_pure_y (pj_move (has_tmp rfl)) rfl rfl rfl rfl (bl_isx e4) rfl rfl ?_
        refine j_pure_y (pj_ugtr (k := .u64) (b := 64) (has_tmp rfl) (has_un (x := 8192#64) rfl)) rfl rfl rfl rfl (bl_isx e4) rfl rfl ?_
        refine j_pure (PJ.eqv (R := bl) (pj_pick (t := any) (has_tmp rfl) (fun he => absurd (e4.symm.trans he) (by decide)) (fun _ => (has_tmp rfl))) (Option.some.inj e5)) rfl rfl rfl ?_
        exact j_to (.cons (.of_lk rfl) <| .cons (.of_lk rfl) <| .cons (.of_lk rfl) <| .nil) (.cons .here <| .nil) (J ())
  · rcases bool_tf (!r1.2) with e2 | e2
    · replace e3 := bt e2 e3
      refine j_guard_no2 (j := 2) (want := false) rfl rfl rfl rfl (bl_isx e2) rfl rfl rfl ?_
      refine j_guard_no2 (j := 2) (want := false) rfl rfl rfl rfl (bl_isx e2) rfl rfl rfl ?_
      refine j_guard_no2 (j := 2) (want := false) rfl rfl rfl rfl (bl_isx e2) rfl rfl rfl ?_
      refine j_guard_no2 (j := 2) (want := false) rfl rfl rfl rfl (bl_isx e2) rfl rfl rfl ?_
      refine j_pure (PJ.eqv (R := bl) (pj_pick (t := any) (has_tmp rfl) (fun _ => has_bl) (fun he => absurd (e2.symm.trans he) (by decide))) (Option.some.inj e3)) rfl rfl rfl ?_
      exact j_to (.cons (.of_lk rfl) <| .cons (.of_lk rfl) <| .cons (.of_lk rfl) <| .nil) (.cons .here <| .nil) (J ())
    · replace e3 := bf e2 e3
      refine j_pure_y (pj_move (has_tmp rfl)) rfl rfl rfl rfl (bl_isx e2) rfl rfl ?_
      refine j_pure_y (pj_conv_i64 (by kernel_rfl) (has_tmp rfl) isInt_un) rfl rfl rfl rfl (bl_isx e2) rfl rfl ?_
      refine j_pure_y (pj_move (has_tmp rfl)) rfl rfl rfl rfl (bl_isx e2) rfl rfl ?_
      refine j_pure_y (pj_igtr (has_tmp rfl) (has_tmp rfl)) rfl rfl rfl rfl (bl_isx e2) rfl rfl ?_
      refine j_pure (PJ.eqv (R := bl) (pj_pick (t := any) (has_tmp rfl) (fun he => absurd (e2.symm.trans he) (by decide)) (fun _ => (has_tmp rfl))) (Option.some.inj e3)) rfl rfl rfl ?_
      exact j_to (.cons (.of_lk rfl) <| .cons (.of_lk rfl) <| .cons (.of_lk rfl) <| .nil) (.cons .here <| .nil) (J ())
set_option maxRecDepth 100000 in
set_option maxHeartbeats 4000000 in
theorem c_head_Take {G : GP} {p_r : (List (BitVec 8)) × Bool} {b_r : Nat} {r : ((List (BitVec 8)) × Bool) × T_head_Signed} (h : head_Take p_r = some r) : Ctr Try.prog G 13 [val (.pointer (some ⟨b_r, 0, none⟩))] [box b_r 66 (prod (sl u8) bl) (p_r.1, p_r.2)] (fun (_ : Unit) => R_head_Signed.slot r.2) (fun (_ : Unit) => [box b_r 66 (prod (sl u8) bl) (r.1.1, r.1.2)]) := by
  unfold head_Take at h
  refine ctr_of_run Try.func13 rfl 25 rfl rfl fun m0 w0 b0 => ?_
  show Run _ _ _ [(0, val (.pointer (some ⟨b_r, 0, none⟩)))] _
  refine run_seq ?_
  refine run_text ?_
  refine j_alloc (x := ((0, 0, (Vector.replicate 32 (0#8)), (Vector.replicate 32 (0#8))), ([] : List (BitVec 8)))) (R := R_head_Signed) (zero_prod (zero_prod zero_i64 (zero_prod zero_i64 (zero_prod (zero_vec 32 zero_un) (zero_vec 32 zero_un)))) zero_sl) (by kernel_rfl) rfl fun b1 => ?_
  refine j_end ?_
  refine run_seq ?_
  refine run_text ?_
  refine j_pure (pj_move (has_tmp rfl)) rfl rfl rfl ?_
  obtain ⟨r1, e1, h⟩ := bind_some h
  refine j_call (hasL_cons (has_tmp rfl) <| hasL_cons has_i64 <| hasL_nil) (by kernel_rfl) (c_wire_Reader_Plain e1) (.cons (.next .here) <| .nil) rfl fun _ => ?_
  obtain ⟨r2, e2, h⟩ := bind_some h
  refine j_pure (pj_call (hasL_cons (has_tmp rfl) <| hasL_nil) (by kernel_rfl) (c_head_Decode e2)) rfl rfl rfl ?_
  refine j_pure (pj_move (has_tmp rfl)) rfl rfl rfl ?_
  refine j_pure (pj_extract (has_tmp rfl) rfl) rfl rfl rfl ?_
  refine j_pure (pj_extract (has_tmp rfl) rfl) rfl rfl rfl ?_
  refine j_alloc (x := (0, 0, (Vector.replicate 32 (0#8)), (Vector.replicate 32 (0#8)))) (R := R_head_Head) (zero_prod zero_i64 (zero_prod zero_i64 (zero_prod (zero_vec 32 zero_un) (zero_vec 32 zero_un)))) (by kernel_rfl) rfl fun b2 => ?_
  refine j_store_boxx (r' := r2.1) (has_tmp rfl) (has_tmp rfl) .here (Path.all R_head_Head) (by kernel_rfl) rfl ?_
  refine j_freezeTo (t := 3) .here (.of_lk rfl) ?_
  refine j_pure (pj_assign (has_tmp rfl)) rfl rfl rfl ?_
  refine j_end ?_
  refine run_seq ?_
  refine run_seq ?_
  refine run_text ?_
  refine j_pure (pj_move (has_tmp rfl)) rfl rfl rfl ?_
  refine j_pure (pj_ineq (has_tmp rfl) has_i64) rfl rfl rfl ?_
  refine j_end ?_
  refine run_cond (has_tmp rfl) (fun e3 => ?_) (fun e3 => ?_)
  · replace h := bt e3 h
    refine run_seq ?_
    refine run_text ?_
    refine j_pure (pj_move (has_tmp rfl)) rfl rfl rfl ?_
    obtain ⟨r3, e4, h⟩ := bind_some h
    refine j_call (hasL_cons (has_tmp rfl) <| hasL_cons has_i64 <| hasL_nil) (by kernel_rfl) (c_wire_Reader_Plain e4) (.cons .here <| .nil) rfl fun _ => ?_
    refine j_end ?_
    refine run_seq ?_
    refine run_text ?_
    refine j_pure (pj_build (R := R_head_Signed) (zero_prod (zero_prod zero_i64 (zero_prod zero_i64 (zero_prod (zero_vec 32 zero_un) (zero_vec 32 zero_un)))) zero_sl) (by kernel_rfl) (by kernel_rfl) rfl .nil) rfl rfl rfl ?_
    obtain ⟨x1, e5, h⟩ := bind_some h
    refine j_store_boxx (r' := x1) (has_tmp rfl) (has_tmp rfl) (.next .here) (Path.all R_head_Signed) (by kernel_rfl) (Option.some.inj e5) ?_
    refine j_end ?_
    obtain rfl := Option.some.inj h
    exact run_ret fun a w hst => q_ret1 hst rfl (.cell rfl .here (by kernel_rfl)) () (fun _ _ h => h) (.cons (.next .here) <| .nil)
  · replace h := bf e3 h
    refine run_skip ?_
    refine run_seq ?_
    refine run_text ?_
    refine j_pure (pj_move (has_tmp rfl)) rfl rfl rfl ?_
    obtain ⟨r4, e6, h⟩ := bind_some h
    refine j_call (hasL_cons (has_tmp rfl) <| hasL_cons has_i64 <| hasL_nil) (by kernel_rfl) (c_wire_Reader_String e6) (.cons .here <| .nil) rfl fun _ => ?_
    refine j_pure (pj_assign (has_tmp rfl)) rfl rfl rfl ?_
    refine j_end ?_
    refine run_seq ?_
    refine run_seq ?_
    refine run_text ?_
    refine j_pure (pj_move (has_tmp rfl)) rfl rfl rfl ?_
    obtain ⟨r5, e7, h⟩ := bind_some h
    refine j_pure (pj_callR (hasL_cons (has_tmp rfl) <| hasL_nil) .here (by kernel_rfl) (fun _ => (c_wire_Reader_Fails e7))) rfl rfl rfl ?_
    refine j_end ?_
    refine run_cond (has_tmp rfl) (fun e8 => ?_) (fun e8 => ?_)
    · replace h := bt e8 h
      refine run_seq ?_
      refine run_text ?_
      refine j_pure (pj_build (R := R_head_Signed) (zero_prod (zero_prod zero_i64 (zero_prod zero_i64 (zero_prod (zero_vec 32 zero_un) (zero_vec 32 zero_un)))) zero_sl) (by kernel_rfl) (by kernel_rfl) rfl .nil) rfl rfl rfl ?_
      obtain ⟨x2, e9, h⟩ := bind_some h
      refine j_store_boxx (r' := x2) (has_tmp rfl) (has_tmp rfl) (.next .here) (Path.all R_head_Signed) (by kernel_rfl) (Option.some.inj e9) ?_
      refine j_end ?_
      obtain rfl := Option.some.inj h
      exact run_ret fun a w hst => q_ret1 hst rfl (.cell rfl .here (by kernel_rfl)) () (fun _ _ h => h) (.cons (.next .here) <| .nil)
    · replace h := bf e8 h
      refine run_skip ?_
      refine run_seq ?_
      refine run_text ?_
      refine j_pure (pj_load_to (has_tmp rfl) (by kernel_rfl)) rfl rfl rfl ?_
      refine j_pure (pj_move (has_tmp rfl)) rfl rfl rfl ?_
      obtain ⟨x3, e10, h⟩ := bind_some h
      refine j_pure (PJ.eqv (pj_build (R := R_head_Signed) (zero_prod (zero_prod zero_i64 (zero_prod zero_i64 (zero_prod (zero_vec 32 zero_un) (zero_vec 32 zero_un)))) zero_sl) (by kernel_rfl) (by kernel_rfl) rfl (.cons (has_tmp rfl) (Path.fst R_head_Head (sl u8)) (by kernel_rfl) (.cons (has_tmp rfl) (Path.snd R_head_Head (sl u8)) (by kernel_rfl) .nil))) (Option.some.inj e10)) rfl rfl rfl ?_
      refine j_store_boxx (r' := x3) (has_tmp rfl) (has_tmp rfl) (.next .here) (Path.all R_head_Signed) (by kernel_rfl) rfl ?_
      refine j_end ?_
      obtain rfl := Option.some.inj h
      exact run_ret fun a w hst => q_ret1 hst rfl (.cell rfl .here (by kernel_rfl)) () (fun _ _ h => h) (.cons (.next .here) <| .nil)
set_option maxRecDepth 100000 in
set_option maxHeartbeats 4000000 in
theorem c_rolodexref01_Value {G : GP} {p_b : List (BitVec 8)} {r : (BitVec 64)} (h : rolodexref01_Value p_b = some r) : Ctr Try.prog G 31 [(sl u8).slot p_b] [] (fun (_ : Unit) => u64.slot r) (fun (_ : Unit) => []) := by
  unfold rolodexref01_Value at h
  refine ctr_of_run Try.func31 rfl 20 rfl rfl fun m0 w0 b0 => ?_
  show Run _ _ _ [(0, (sl u8).slot p_b)] _
  refine run_seq ?_
  refine run_text ?_
  refine j_pure (pj_assign (has_un (x := 0#64) rfl)) rfl rfl rfl ?_
  refine j_end ?_
  refine run_seq ?_
  refine run_text ?_
  refine j_pure (pj_assign (has_un (x := 0#64) rfl)) rfl rfl rfl ?_
  refine j_end ?_
  refine run_seq ?_
  refine run_seq ?_
  refine run_text ?_
  refine j_pure (pj_assign has_i64) rfl rfl rfl ?_
  refine j_end ?_
  obtain ⟨⟨y3, y4⟩, e3, h⟩ := bind_some h
  refine run_loopS (Γi := fun (i : Unit) (s : (BitVec 64) × Int) => [(0, (sl u8).slot p_b), (3, u64.slot s.1), (4, i64.slot s.2)]) (Hi := fun (i : Unit) (s : (BitVec 64) × Int) => []) e3 () (fun a w hst => (hst.sub (.cons (.of_lk rfl) <| .cons (.of_lk rfl) <| .cons (.of_lk rfl) <| .nil)).keep (.nil)) ?_ ?_
  · clear h e3
    rintro _ ⟨y1, y2⟩ lr h
    change rolodexref01_Value_L1 p_b y1 y2 = some _ at h
    show Run _ _ _ [(0, (sl u8).slot p_b), (3, u64.slot y1), (4, i64.slot y2)] []
    unfold rolodexref01_Value_L1 at h
    refine run_seq ?_
    refine run_seq ?_
    refine run_text ?_
    refine j_pure (pj_move (has_tmp rfl)) rfl rfl rfl ?_
    refine j_pure (pj_move (has_tmp rfl)) rfl rfl rfl ?_
    refine j_pure (pj_len_sl (sz := 1) (has_tmp rfl) (by kernel_rfl)) rfl rfl rfl ?_
    refine j_pure (pj_ilss (has_tmp rfl) (has_tmp rfl)) rfl rfl rfl ?_
    refine j_end ?_
    refine run_cond (has_tmp rfl) (fun e1 => ?_) (fun e1 => ?_)
    · replace h := bt e1 h
      refine run_skip ?_
      refine run_seq ?_
      refine run_block ?_
      refine run_text ?_
      refine j_pure (pj_move (has_tmp rfl)) rfl rfl rfl ?_
      refine j_pure (pj_umul (k := .u64) (b := 64) rfl rfl (has_tmp rfl) (has_un (x := 256#64) rfl)) rfl rfl rfl ?_
      refine j_pure (pj_move (has_tmp rfl)) rfl rfl rfl ?_
      refine j_pure (pj_move (has_tmp rfl)) rfl rfl rfl ?_
      obtain ⟨x1, e2, h⟩ := bind_some h
      refine j_pure (pj_index_slx (has_tmp rfl) (has_tmp rfl) isInt_i64 e2 (by kernel_rfl)) rfl rfl rfl ?_
      refine j_pure (pj_load_to (has_tmp rfl) (by kernel_rfl)) rfl rfl rfl ?_
      refine j_pure (pj_conv_uu (k := .u64) (b := 64) rfl rfl (by kernel_rfl) (has_tmp rfl)) rfl rfl rfl ?_
      refine j_pure (pj_uadd (k := .u64) (b := 64) rfl rfl (has_tmp rfl) (has_tmp rfl)) rfl rfl rfl ?_
      refine j_pure (pj_assign (has_tmp rfl)) rfl rfl rfl ?_
      refine j_end ?_
      refine run_endblock ?_
      refine run_text ?_
      refine j_pure (pj_move (has_tmp rfl)) rfl rfl rfl ?_
      refine j_pure (pj_iadd (has_tmp rfl) has_i64) rfl rfl rfl ?_
      refine j_pure (pj_assign (has_tmp rfl)) rfl rfl rfl ?_
      refine j_end ?_
      obtain rfl := Option.some.inj h
      exact run_next () (.cons (.of_lk rfl) <| .cons (.of_lk rfl) <| .cons (.of_lk rfl) <| .nil) (.nil)
    · replace h := bf e1 h
      obtain rfl := Option.some.inj h
      exact run_brk () (.cons (.of_lk rfl) <| .cons (.of_lk rfl) <| .cons (.of_lk rfl) <| .nil) (.nil)
  · rintro _
    show Run _ _ _ [(0, (sl u8).slot p_b), (3, u64.slot y3), (4, i64.slot y4)] []
    refine run_to (Γ' := [(3, u64.slot y3)]) (H' := []) (.cons (.of_lk rfl) <| .nil) (.nil) ?_
    refine run_seq ?_
    refine run_text ?_
    refine j_pure (pj_move (has_tmp rfl)) rfl rfl rfl ?_
    refine j_pure (pj_assign (has_tmp rfl)) rfl rfl rfl ?_
    refine j_end ?_
    obtain rfl := Option.some.inj h
    exact run_ret fun a w hst => q_ret1 hst rfl (.tmp rfl) () (fun _ _ h => h) (.nil)
set_option maxRecDepth 100000 in
set_option maxHeartbeats 4000000 in
theorem c_rolodexref17_Decode {G : GP} {p_b : List (BitVec 8)} {r : T_rolodexref17_Head × Int} (h : rolodexref17_Decode p_b = some r) : Ctr Try.prog G 30 [(sl u8).slot p_b] [] (fun (_ : Unit) => tup [R_rolodexref17_Head.slot r.1, i64.slot r.2]) (fun (_ : Unit) => []) := by
  unfold rolodexref17_Decode at h
  refine ctr_of_run Try.func30 rfl 31 rfl rfl fun m0 w0 b0 => ?_
  show Run _ _ _ [(0, (sl u8).slot p_b)] _
  refine run_seq ?_
  refine run_text ?_
  refine j_alloc (x := (0, 0, (Vector.replicate 32 (0#8)), (Vector.replicate 32 (0#8)))) (R := R_rolodexref17_Head) (zero_prod zero_i64 (zero_prod zero_i64 (zero_prod (zero_vec 32 zero_un) (zero_vec 32 zero_un)))) (by kernel_rfl) rfl fun b1 => ?_
  refine j_pure (pj_assign has_i64) rfl rfl rfl ?_
  refine j_end ?_
  refine run_seq ?_
  refine run_seq ?_
  refine run_text ?_
  refine j_pure (pj_move (has_tmp rfl)) rfl rfl rfl ?_
  refine j_pure (pj_len_sl (sz := 1) (has_tmp rfl) (by kernel_rfl)) rfl rfl rfl ?_
  refine j_pure (pj_ineq (has_tmp rfl) has_i64) rfl rfl rfl ?_
  refine j_end ?_
  refine run_cond (has_tmp rfl) (fun e1 => ?_) (fun e1 => ?_)
  · replace h := bt e1 h
    refine run_seq ?_
    refine run_text ?_
    refine j_pure (pj_build (R := R_rolodexref17_Head) (zero_prod zero_i64 (zero_prod zero_i64 (zero_prod (zero_vec 32 zero_un) (zero_vec 32 zero_un)))) (by kernel_rfl) (by kernel_rfl) rfl .nil) rfl rfl rfl ?_
    obtain ⟨x1, e2, h⟩ := bind_some h
    refine j_store_boxx (r' := x1) (has_tmp rfl) (has_tmp rfl) .here (Path.all R_rolodexref17_Head) (by kernel_rfl) (Option.some.inj e2) ?_
    refine j_pure (pj_assign has_i64) rfl rfl rfl ?_
    refine j_end ?_
    obtain rfl := Option.some.inj h
    exact run_ret fun a w hst => q_retN hst rfl (.cons (.cell rfl .here (by kernel_rfl)) <| .cons (.tmp rfl) <| .nil) rfl () (fun _ _ h => h) (.nil)
  · replace h := bf e1 h
    refine run_skip ?_
    refine run_seq ?_
    obtain ⟨x2, e3, h⟩ := bind_some h
    obtain ⟨r1, e4, h⟩ := bind_some h
    obtain ⟨x3, e5, h⟩ := bind_some h
    obtain ⟨r2, e6, h⟩ := bind_some h
    obtain ⟨x4, e7, h⟩ := bind_some h
    obtain ⟨x5, e8, h⟩ := bind_some h
    obtain ⟨x6, e9, h⟩ := bind_some h
    obtain ⟨x7, e10, h⟩ := bind_some h
    obtain ⟨x8, e11, h⟩ := bind_some h
    refine run_keep (H' := [box b1 25 R_rolodexref17_Head (0, 0, (Vector.replicate 32 (0#8)), (Vector.replicate 32 (0#8)))]) (.cons .here <| .nil) ?_
    refine run_drawL (n := 18) (H := [box b1 25 R_rolodexref17_Head (0, 0, (Vector.replicate 32 (0#8)), (Vector.replicate 32 (0#8)))]) (Ls := [⟨[], [(17, ⟨Nat, fun (b2 : Nat) => [box b2 25 R_rolodexref17_Head (0, 0, (Vector.replicate 32 (0#8)), (Vector.replicate 32 (0#8)))], fun (b2 : Nat) => [(4, val (.pointer (some ⟨b2, 0, none⟩)))]⟩)]⟩]) (by kernel_rfl) (by kernel_rfl) (by kernel_rfl) (by kernel_rfl) (by kernel_rfl) rfl (.read rfl (.plain rfl (pj_move (has_tmp rfl))) <| .read rfl (.plain rfl (pj_slice_slx (has_tmp rfl) .no (.yes has_i64 isInt_i64) e3 (by kernel_rfl))) <| .read rfl (.plain rfl (pj_call (hasL_cons (has_tmp rfl) <| hasL_nil) (by kernel_rfl) (c_rolodexref01_Value e4))) <| .read rfl (.plain rfl (pj_conv_i64 (by kernel_rfl) (has_tmp rfl) isInt_un)) <| .read rfl (.plain rfl (pj_move (has_tmp rfl))) <| .read rfl (.plain rfl (pj_slice_slx (has_tmp rfl) (.yes has_i64 isInt_i64) (.yes has_i64 isInt_i64) e5 (by kernel_rfl))) <| .read rfl (.plain rfl (pj_call (hasL_cons (has_tmp rfl) <| hasL_nil) (by kernel_rfl) (c_rolodexref01_Value e6))) <| .read rfl (.plain rfl (pj_conv_i64 (by kernel_rfl) (has_tmp rfl) isInt_un)) <| .read rfl (.plain rfl (pj_move (has_tmp rfl))) <| .read rfl (.plain rfl (pj_slice_slx (has_tmp rfl) (.yes has_i64 isInt_i64) (.yes has_i64 isInt_i64) e7 (by kernel_rfl))) <| .read rfl (.plain rfl (pj_s2apx (e := 5) (has_tmp rfl) e8 rfl (by kernel_rfl))) <| .read rfl (.plain rfl (pj_load_to (has_tmp rfl) (by kernel_rfl))) <| .read rfl (.plain rfl (pj_move (has_tmp rfl))) <| .read rfl (.plain rfl (pj_slice_slx (has_tmp rfl) (.yes has_i64 isInt_i64) (.yes has_i64 isInt_i64) e9 (by kernel_rfl))) <| .read rfl (.plain rfl (pj_s2apx (e := 5) (has_tmp rfl) e10 rfl (by kernel_rfl))) <| .read rfl (.plain rfl (pj_load_to (has_tmp rfl) (by kernel_rfl))) <| .read rfl (.plain rfl (PJ.eqv (pj_build (R := R_rolodexref17_Head) (zero_prod zero_i64 (zero_prod zero_i64 (zero_prod (zero_vec 32 zero_un) (zero_vec 32 zero_un)))) (by kernel_rfl) (by kernel_rfl) rfl (.cons (has_tmp rfl) (Path.fst i64 (prod i64 (prod R_api_Hash R_api_Hash))) (by kernel_rfl) (.cons (has_tmp rfl) (Path.then (Path.snd i64 (prod i64 (prod R_api_Hash R_api_Hash))) (Path.fst i64 (prod R_api_Hash R_api_Hash))) (by kernel_rfl) (.cons (has_tmp rfl) (Path.then (Path.snd i64 (prod i64 (prod R_api_Hash R_api_Hash))) (Path.then (Path.snd i64 (prod R_api_Hash R_api_Hash)) (Path.fst R_api_Hash R_api_Hash))) (by kernel_rfl) (.cons (has_tmp rfl) (Path.then (Path.snd i64 (prod i64 (prod R_api_Hash R_api_Hash))) (Path.then (Path.snd i64 (prod R_api_Hash R_api_Hash)) (Path.snd R_api_Hash R_api_Hash))) (by kernel_rfl) .nil))))) (Option.some.inj e11))) <| .step 0 rfl .here (.inl rfl) (fun i => ⟨_, _, fun j => j, (w_alloc (x := (0, 0, (Vector.replicate 32 (0#8)), (Vector.replicate 32 (0#8)))) (R := R_rolodexref17_Head) (zero_prod zero_i64 (zero_prod zero_i64 (zero_prod (zero_vec 32 zero_un) (zero_vec 32 zero_un)))) (by kernel_rfl) rfl), fun _ => rfl, slotAny, dst1⟩) <| .nil) ?_
    rintro b2
    refine j_to (Γ' := [(2, val (.pointer (some ⟨b1, 0, none⟩))), (4, val (.pointer (some ⟨b2, 0, none⟩))), (25, R_rolodexref17_Head.slot x8)]) (H' := [box b2 25 R_rolodexref17_Head (0, 0, (Vector.replicate 32 (0#8)), (Vector.replicate 32 (0#8))), box b1 25 R_rolodexref17_Head (0, 0, (Vector.replicate 32 (0#8)), (Vector.replicate 32 (0#8)))]) (.cons (.of_lk rfl) <| .cons (.of_lk rfl) <| .cons (.of_lk rfl) <| .nil) (.cons .here <| .cons .here <| .nil) ?_
    refine j_store_boxx (r' := x8) (has_tmp rfl) (has_tmp rfl) .here (Path.all R_rolodexref17_Head) (by kernel_rfl) rfl ?_
    refine j_freezeTo (t := 4) .here (.of_lk rfl) ?_
    refine j_end ?_
    refine run_seq ?_
    refine run_seq ?_
    refine run_text ?_
    refine j_pure (pj_load_to (has_tmp rfl) (by kernel_rfl)) rfl rfl rfl ?_
    obtain ⟨r3, e12, h⟩ := bind_some h
    refine j_pure (pj_call (hasL_cons (has_tmp rfl) <| hasL_nil) (by kernel_rfl) (c_rolodexref17_Is e12)) rfl rfl rfl ?_
    refine j_pure (pj_not (has_tmp rfl)) rfl rfl rfl ?_
    refine j_end ?_
    refine run_cond (has_tmp rfl) (fun e13 => ?_) (fun e13 => ?_)
    · replace h := bt e13 h
      refine run_seq ?_
      refine run_text ?_
      refine j_pure (pj_build (R := R_rolodexref17_Head) (zero_prod zero_i64 (zero_prod zero_i64 (zero_prod (zero_vec 32 zero_un) (zero_vec 32 zero_un)))) (by kernel_rfl) (by kernel_rfl) rfl .nil) rfl rfl rfl ?_
      obtain ⟨x9, e14, h⟩ := bind_some h
      refine j_store_boxx (r' := x9) (has_tmp rfl) (has_tmp rfl) .here (Path.all R_rolodexref17_Head) (by kernel_rfl) (Option.some.inj e14) ?_
      refine j_pure (pj_assign has_i64) rfl rfl rfl ?_
      refine j_end ?_
      obtain rfl := Option.some.inj h
      exact run_ret fun a w hst => q_retN hst rfl (.cons (.cell rfl .here (by kernel_rfl)) <| .cons (.tmp rfl) <| .nil) rfl () (fun _ _ h => h) (.nil)
    · replace h := bf e13 h
      refine run_skip ?_
      refine run_seq ?_
      refine run_text ?_
      refine j_pure (pj_load_to (has_tmp rfl) (by kernel_rfl)) rfl rfl rfl ?_
      refine j_store_boxx (r' := x8) (has_tmp rfl) (has_tmp rfl) .here (Path.all R_rolodexref17_Head) (by kernel_rfl) rfl ?_
      refine j_pure (pj_assign has_i64) rfl rfl rfl ?_
      refine j_end ?_
      obtain rfl := Option.some.inj h
      exact run_ret fun a w hst => q_retN hst rfl (.cons (.cell rfl .here (by kernel_rfl)) <| .cons (.tmp rfl) <| .nil) rfl () (fun _ _ h => h) (.nil)
section
variable {od ty pos aft g H} {c : Ctx} {Γ : Env} {α : Type}
theorem pj_slice_yy {T : TypeId} {x lo hi : Operand} {R : Rep α} {xs r : List α} {a b : Int} (hx : Has Γ x ((sl R).slot xs)) (hlo : OptI Γ (some lo) (some a)) (hhi : OptI Γ (some hi) (some b))
    (h : lslice xs a b = some r) (hT : slB c.P T R.n = true) : PJ c ⟨od, .slice T x (some lo) (some hi) none, ty, pos, aft, g⟩ Γ H ((sl R).slot r) := pj_slice_slx hx hlo hhi h hT
theorem pj_slice_yn {T : TypeId} {x lo : Operand} {R : Rep α} {xs r : List α} {a : Int} (hx : Has Γ x ((sl R).slot xs)) (hlo : OptI Γ (some lo) (some a))
    (h : lslice xs a (xs.length : Int) = some r) (hT : slB c.P T R.n = true) : PJ c ⟨od, .slice T x (some lo) none none, ty, pos, aft, g⟩ Γ H ((sl R).slot r) := pj_slice_slx hx hlo .no h hT
end
set_option maxRecDepth 100000 in
set_option maxHeartbeats 4000000 in
theorem c_rolodexref17_Take {G : GP} {p_b : List (BitVec 8)} {r : T_rolodexref17_Signed × (List (BitVec 8)) × Bool} (h : rolodexref17_Take p_b = some r) : Ctr Try.prog G 14 [(sl u8).slot p_b] [] (fun (_ : Unit) => tup [R_rolodexref17_Signed.slot r.1, (sl u8).slot r.2.1, bl.slot r.2.2]) (fun (_ : Unit) => []) := by
  unfold rolodexref17_Take at h
  refine ctr_of_run Try.func14 rfl 48 rfl rfl fun m0 w0 b0 => ?_
  show Run _ _ _ [(0, (sl u8).slot p_b)] _
  refine run_seq ?_
  refine run_text ?_
  refine j_alloc (x := ((0, 0, (Vector.replicate 32 (0#8)), (Vector.replicate 32 (0#8))), ([] : List (BitVec 8)))) (R := R_rolodexref17_Signed) (zero_prod (zero_prod zero_i64 (zero_prod zero_i64 (zero_prod (zero_vec 32 zero_un) (zero_vec 32 zero_un)))) zero_sl) (by kernel_rfl) rfl fun b1 => ?_
  refine j_pure (pj_assign (has_nil (R := u8))) rfl rfl rfl ?_
  refine j_pure (pj_assign has_bl) rfl rfl rfl ?_
  refine j_end ?_
  refine run_seq ?_
  refine run_seq ?_
  refine run_text ?_
  refine j_pure (pj_move (has_tmp rfl)) rfl rfl rfl ?_
  refine j_pure (pj_len_sl (sz := 1) (has_tmp rfl) (by kernel_rfl)) rfl rfl rfl ?_
  refine j_pure (pj_ilss (has_tmp rfl) has_i64) rfl rfl rfl ?_
  refine j_end ?_
  refine run_cond (has_tmp rfl) (fun e1 => ?_) (fun e1 => ?_)
  · replace h := bt e1 h
    refine run_seq ?_
    refine run_text ?_
    refine j_pure (pj_build (R := R_rolodexref17_Signed) (zero_prod (zero_prod zero_i64 (zero_prod zero_i64 (zero_prod (zero_vec 32 zero_un) (zero_vec 32 zero_un)))) zero_sl) (by kernel_rfl) (by kernel_rfl) rfl .nil) rfl rfl rfl ?_
    refine j_pure (pj_move (has_tmp rfl)) rfl rfl rfl ?_
    obtain ⟨x1, e2, h⟩ := bind_some h
    refine j_store_boxx (r' := x1) (has_tmp rfl) (has_tmp rfl) .here (Path.all R_rolodexref17_Signed) (by kernel_rfl) (Option.some.inj e2) ?_
    refine j_pure (pj_assign (has_tmp rfl)) rfl rfl rfl ?_
    refine j_pure (pj_assign has_bl) rfl rfl rfl ?_
    refine j_end ?_
    obtain rfl := Option.some.inj h
    exact run_ret fun a w hst => q_retN hst rfl (.cons (.cell rfl .here (by kernel_rfl)) <| .cons (.tmp rfl) <| .cons (.tmp rfl) <| .nil) rfl () (fun _ _ h => h) (.nil)
  · replace h := bf e1 h
    refine run_skip ?_
    refine run_seq ?_
    refine run_text ?_
    refine j_pure (pj_move (has_tmp rfl)) rfl rfl rfl ?_
    obtain ⟨x2, e3, h⟩ := bind_some h
    refine j_pure (pj_slice_slx (has_tmp rfl) .no (.yes has_i64 isInt_i64) e3 (by kernel_rfl)) rfl rfl rfl ?_
    obtain ⟨r1, e4, h⟩ := bind_some h
    refine j_pure (pj_call (hasL_cons (has_tmp rfl) <| hasL_nil) (by kernel_rfl) (c_rolodexref17_Decode e4)) rfl rfl rfl ?_
    refine j_pure (pj_move (has_tmp rfl)) rfl rfl rfl ?_
    refine j_pure (pj_extract (has_tmp rfl) rfl) rfl rfl rfl ?_
    refine j_pure (pj_extract (has_tmp rfl) rfl) rfl rfl rfl ?_
    refine j_alloc (x := (0, 0, (Vector.replicate 32 (0#8)), (Vector.replicate 32 (0#8)))) (R := R_rolodexref17_Head) (zero_prod zero_i64 (zero_prod zero_i64 (zero_prod (zero_vec 32 zero_un) (zero_vec 32 zero_un)))) (by kernel_rfl) rfl fun b2 => ?_
    refine j_store_boxx (r' := r1.1) (has_tmp rfl) (has_tmp rfl) .here (Path.all R_rolodexref17_Head) (by kernel_rfl) rfl ?_
    refine j_freezeTo (t := 5) .here (.of_lk rfl) ?_
    refine j_pure (pj_assign (has_tmp rfl)) rfl rfl rfl ?_
    refine j_end ?_
    refine run_seq ?_
    refine run_text ?_
    refine j_pure (pj_move (has_tmp rfl)) rfl rfl rfl ?_
    obtain ⟨x3, e5, h⟩ := bind_some h
    refine j_pure (pj_slice_slx (has_tmp rfl) (.yes has_i64 isInt_i64) (.yes has_i64 isInt_i64) e5 (by kernel_rfl)) rfl rfl rfl ?_
    obtain ⟨r2, e6, h⟩ := bind_some h
    refine j_pure (pj_call (hasL_cons (has_tmp rfl) <| hasL_nil) (by kernel_rfl) (c_rolodexref01_Value e6)) rfl rfl rfl ?_
    refine j_pure (pj_conv_i64 (by kernel_rfl) (has_tmp rfl) isInt_un) rfl rfl rfl ?_
    refine j_pure (pj_assign (has_tmp rfl)) rfl rfl rfl ?_
    refine j_end ?_
    refine run_seq ?_
    refine run_seq ?_
    refine run_text ?_
    refine j_pure (pj_move (has_tmp rfl)) rfl rfl rfl ?_
    refine j_pure (pj_ineq (has_tmp rfl) has_i64) rfl rfl rfl ?_
    refine j_pure (pj_move (has_tmp rfl)) rfl rfl rfl ?_
    obtain ⟨y1, e8, h⟩ := bind_some h
    refine j_joinx (ι := Unit) (Γ' := fun _ => [(0, (sl u8).slot p_b), (2, val (.pointer (some ⟨b1, 0, none⟩))), (5, ptrTo R_rolodexref17_Head r1.1), (7, i64.slot (w64 (r2.toNat : Int))), (28, bl.slot y1)]) (H' := fun _ => [box b1 37 R_rolodexref17_Signed ((0, 0, (Vector.replicate 32 (0#8)), (Vector.replicate 32 (0#8))), ([] : List (BitVec 8)))]) 3 ?_ fun J => ?_
    · intro _
      clear e8
      show OpsJ _ _ _ [(0, (sl u8).slot p_b), (2, val (.pointer (some ⟨b1, 0, none⟩))), (5, ptrTo R_rolodexref17_Head r1.1), (7, i64.slot (w64 (r2.toNat : Int))), (28, bl.slot y1)] [box b1 37 R_rolodexref17_Signed ((0, 0, (Vector.replicate 32 (0#8)), (Vector.replicate 32 (0#8))), ([] : List (BitVec 8)))] _
      refine j_pure (pj_move (has_tmp rfl)) rfl rfl rfl ?_
      obtain ⟨y2, e10, h⟩ := bind_some h
      refine j_joinx (ι := Unit) (Γ' := fun _ => [(0, (sl u8).slot p_b), (2, val (.pointer (some ⟨b1, 0, none⟩))), (5, ptrTo R_rolodexref17_Head r1.1), (7, i64.slot (w64 (r2.toNat : Int))), (35, bl.slot y2)]) (H' := fun _ => [box b1 37 R_rolodexref17_Signed ((0, 0, (Vector.replicate 32 (0#8)), (Vector.replicate 32 (0#8))), ([] : List (BitVec 8)))]) 6 ?_ fun J => ?_
      · intro _
        clear e10
        show OpsJ _ _ _ [(0, (sl u8).slot p_b), (2, val (.pointer (some ⟨b1, 0, none⟩))), (5, ptrTo R_rolodexref17_Head r1.1), (7, i64.slot (w64 (r2.toNat : Int))), (35, bl.slot y2)] [box b1 37 R_rolodexref17_Signed ((0, 0, (Vector.replicate 32 (0#8)), (Vector.replicate 32 (0#8))), ([] : List (BitVec 8)))] _
        refine j_end ?_
        refine run_cond (has_tmp rfl) (fun e11 => ?_) (fun e11 => ?_)
        · replace h := bt e11 h
          refine run_seq ?_
          refine run_text ?_
          refine j_pure (pj_build (R := R_rolodexref17_Signed) (zero_prod (zero_prod zero_i64 (zero_prod zero_i64 (zero_prod (zero_vec 32 zero_un) (zero_vec 32 zero_un)))) zero_sl) (by kernel_rfl) (by kernel_rfl) rfl .nil) rfl rfl rfl ?_
          refine j_pure (pj_move (has_tmp rfl)) rfl rfl rfl ?_
          obtain ⟨x4, e12, h⟩ := bind_some h
          refine j_store_boxx (r' := x4) (has_tmp rfl) (has_tmp rfl) .here (Path.all R_rolodexref17_Signed) (by kernel_rfl) (Option.some.inj e12) ?_
          refine j_pure (pj_assign (has_tmp rfl)) rfl rfl rfl ?_
          refine j_pure (pj_assign has_bl) rfl rfl rfl ?_
          refine j_end ?_
          obtain rfl := Option.some.inj h
          exact run_ret fun a w hst => q_retN hst rfl (.cons (.cell rfl .here (by kernel_rfl)) <| .cons (.tmp rfl) <| .cons (.tmp rfl) <| .nil) rfl () (fun _ _ h => h) (.nil)
        · replace h := bf e11 h
          refine run_skip ?_
          refine run_seq ?_
          obtain ⟨x5, e13, h⟩ := bind_some h
          obtain ⟨x6, e14, h⟩ := bind_some h
          obtain ⟨x7, e15, h⟩ := bind_some h
          refine run_keep (H' := [box b1 37 R_rolodexref17_Signed ((0, 0, (Vector.replicate 32 (0#8)), (Vector.replicate 32 (0#8))), ([] : List (BitVec 8)))]) (.cons .here <| .nil) ?_
          refine run_drawL (n := 11) (H := []) (Ls := [⟨[box b1 37 R_rolodexref17_Signed ((0, 0, (Vector.replicate 32 (0#8)), (Vector.replicate 32 (0#8))), ([] : List (BitVec 8)))], [(10, ⟨Unit, fun (_ : Unit) => [box b1 37 R_rolodexref17_Signed x6], fun (_ : Unit) => []⟩)]⟩]) (by kernel_rfl) (by kernel_rfl) (by kernel_rfl) (by kernel_rfl) (by kernel_rfl) rfl (.read rfl (.plain rfl (pj_load_to (has_tmp rfl) (by kernel_rfl))) <| .read rfl (.plain rfl (pj_move (has_tmp rfl))) <| .read rfl (.plain rfl (pj_move (has_tmp rfl))) <| .read rfl (.plain rfl (pj_iadd has_i64 (has_tmp rfl))) <| .read rfl (.plain rfl (pj_slice_yy (has_tmp rfl) (.yes has_i64 isInt_i64) (.yes (has_tmp rfl) isInt_i64) e13 (by kernel_rfl))) <| .read rfl (.plain rfl (PJ.eqv (pj_build (R := R_rolodexref17_Signed) (zero_prod (zero_prod zero_i64 (zero_prod zero_i64 (zero_prod (zero_vec 32 zero_un) (zero_vec 32 zero_un)))) zero_sl) (by kernel_rfl) (by kernel_rfl) rfl (.cons (has_tmp rfl) (Path.fst R_rolodexref17_Head (sl u8)) (by kernel_rfl) (.cons (has_tmp rfl) (Path.snd R_rolodexref17_Head (sl u8)) (by kernel_rfl) .nil))) (Option.some.inj e14))) <| .read rfl (.plain rfl (pj_move (has_tmp rfl))) <| .read rfl (.plain rfl (pj_move (has_tmp rfl))) <| .read rfl (.plain rfl (pj_iadd has_i64 (has_tmp rfl))) <| .read rfl (.plain rfl (pj_slice_yn (has_tmp rfl) (.yes (has_tmp rfl) isInt_i64) e15 (by kernel_rfl))) <| .step 0 rfl .here (.inl rfl) (fun i => ⟨_, _, fun _ => (), (w_store (r' := x6) (has_tmp rfl) (has_tmp rfl) .here (Path.all R_rolodexref17_Signed) (by kernel_rfl) rfl), fun _ => rfl, (slotNo (s := any)), dst0⟩) <| .nil) ?_
          rintro _
          refine j_to (Γ' := [(2, val (.pointer (some ⟨b1, 0, none⟩))), (47, (sl u8).slot x7)]) (H' := [box b1 37 R_rolodexref17_Signed x6]) (.cons (.of_lk rfl) <| .cons (.of_lk rfl) <| .nil) (.cons .here <| .nil) ?_
          refine j_pure (pj_assign (has_tmp rfl)) rfl rfl rfl ?_
          refine j_pure (pj_assign has_bl) rfl rfl rfl ?_
          refine j_end ?_
          obtain rfl := Option.some.inj h
          exact run_ret fun a w hst => q_retN hst rfl (.cons (.cell rfl .here (by kernel_rfl)) <| .cons (.tmp rfl) <| .cons (.tmp rfl) <| .nil) rfl () (fun _ _ h => h) (.nil)
      · rcases bool_tf (y1) with e9 | e9
        · replace e10 := bt e9 e10
          refine j_guard_no2 (j := 6) (want := false) rfl rfl rfl rfl (bl_isx e9) rfl rfl rfl ?_
          refine j_guard_no2 (j := 6) (want := false) rfl rfl rfl rfl (bl_isx e9) rfl rfl rfl ?_
          refine j_guard_no2 (j := 6) (want := false) rfl rfl rfl rfl (bl_isx e9) rfl rfl rfl ?_
          refine j_guard_no2 (j := 6) (want := false) rfl rfl rfl rfl (bl_isx e9) rfl rfl rfl ?_
          refine j_guard_no2 (j := 6) (want := false) rfl rfl rfl rfl (bl_isx e9) rfl rfl rfl ?_
          refine j_pure (PJ.eqv (R := bl) (pj_pick (t := any) (has_tmp rfl) (fun _ => has_bl) (fun he => absurd (e9.symm.trans he) (by decide))) (Option.some.inj e10)) rfl rfl rfl ?_
          exact j_to (.cons (.of_lk rfl) <| .cons (.of_lk rfl) <| .cons (.of_lk rfl) <| .cons (.of_lk rfl) <| .cons (.of_lk rfl) <| .nil) (.cons .here <| .nil) (J ())
        · replace e10 := bf e9 e10
          refine j_pure_y (pj_move (has_tmp rfl)) rfl rfl rfl rfl (bl_isx e9) rfl rfl ?_
          refine j_pure_y (pj_move (has_tmp rfl)) rfl rfl rfl rfl (bl_isx e9) rfl rfl ?_
          refine j_pure_y (pj_len_sl (sz := 1) (has_tmp rfl) (by kernel_rfl)) rfl rfl rfl rfl (bl_isx e9) rfl rfl ?_
          refine j_pure_y (pj_isub (has_tmp rfl) has_i64) rfl rfl rfl rfl (bl_isx e9) rfl rfl ?_
          refine j_pure_y (pj_igtr (has_tmp rfl) (has_tmp rfl)) rfl rfl rfl rfl (bl_isx e9) rfl rfl ?_
          refine j_pure (PJ.eqv (R := bl) (pj_pick (t := any) (has_tmp rfl) (fun he => absurd (e9.symm.trans he) (by decide)) (fun _ => (has_tmp rfl))) (Option.some.inj e10)) rfl rfl rfl ?_
          exact j_to (.cons (.of_lk rfl) <| .cons (.of_lk rfl) <| .cons (.of_lk rfl) <| .cons (.of_lk rfl) <| .cons (.of_lk rfl) <| .nil) (.cons .here <| .nil) (J ())
    · rcases bool_tf (!decide (r1.2 = (0 : Int))) with e7 | e7
      · replace e8 := bt e7 e8
        refine j_guard_no2 (j := 2) (want := false) rfl rfl rfl rfl (bl_isx e7) rfl rfl rfl ?_
        refine j_guard_no2 (j := 2) (want := false) rfl rfl rfl rfl (bl_isx e7) rfl rfl rfl ?_
        refine j_pure (PJ.eqv (R := bl) (pj_pick (t := any) (has_tmp rfl) (fun _ => has_bl) (fun he => absurd (e7.symm.trans he) (by decide))) (Option.some.inj e8)) rfl rfl rfl ?_
        exact j_to (.cons (.of_lk rfl) <| .cons (.of_lk rfl) <| .cons (.of_lk rfl) <| .cons (.of_lk rfl) <| .cons (.of_lk rfl) <| .nil) (.cons .here <| .nil) (J ())
      · replace e8 := bf e7 e8
        refine j_pure_y (pj_move (has_tmp rfl)) rfl rfl rfl rfl (bl_isx e7) rfl rfl ?_
        refine j_pure_y (pj_igtr (has_tmp rfl) has_i64) rfl rfl rfl rfl (bl_isx e7) rfl rfl ?_
        refine j_pure (PJ.eqv (R := bl) (pj_pick (t := any) (has_tmp rfl) (fun he => absurd (e7.symm.trans he) (by decide)) (fun _ => (has_tmp rfl))) (Option.some.inj e8)) rfl rfl rfl ?_
        exact j_to (.cons (.of_lk rfl) <| .cons (.of_lk rfl) <| .cons (.of_lk rfl) <| .cons (.of_lk rfl) <| .cons (.of_lk rfl) <| .nil) (.cons .here <| .nil) (J ())
set_option maxRecDepth 100000 in
set_option maxHeartbeats 4000000 in
theorem c_rolodexref17_Same {G : GP} {p_a : T_rolodexref17_Signed} {p_b : T_rolodexref17_Signed} {r : Bool} (h : rolodexref17_Same p_a p_b = some r) : Ctr Try.prog G 15 [R_rolodexref17_Signed.slot p_a, R_rolodexref17_Signed.slot p_b] [] (fun (_ : Unit) => bl.slot r) (fun (_ : Unit) => []) := by
  unfold rolodexref17_Same at h
  refine ctr_of_run Try.func15 rfl 17 rfl rfl fun m0 w0 b0 => ?_
  show Run _ _ _ [(0, R_rolodexref17_Signed.slot p_a), (1, R_rolodexref17_Signed.slot p_b)] _
  refine run_seq ?_
  refine run_text ?_
  refine j_pure (pj_box_to (has_tmp rfl)) rfl rfl rfl ?_
  refine j_pure (pj_box_to (has_tmp rfl)) rfl rfl rfl ?_
  refine j_pure (pj_assign has_bl) rfl rfl rfl ?_
  refine j_end ?_
  refine run_seq ?_
  refine run_text ?_
  refine j_pure (pj_field_to (has_tmp rfl) (Path.fst R_rolodexref17_Head (sl u8)) (by kernel_rfl)) rfl rfl rfl ?_
  refine j_pure (pj_load_to (has_tmp rfl) (by kernel_rfl)) rfl rfl rfl ?_
  refine j_pure (pj_field_to (has_tmp rfl) (Path.fst R_rolodexref17_Head (sl u8)) (by kernel_rfl)) rfl rfl rfl ?_
  refine j_pure (pj_load_to (has_tmp rfl) (by kernel_rfl)) rfl rfl rfl ?_
  refine j_pure (pj_eql (n := 3) (eq_struct (fs := #[Field.mk "Epoch" 3 0 false "" "" 0, Field.mk "Tick" 3 1 false "" "" 8, Field.mk "Tree" 23 2 false "" "" 16, Field.mk "Log" 23 34 false "" "" 48]) (by kernel_rfl) (by kernel_rfl) rfl (.cons rfl (by kernel_rfl) (by kernel_rfl) (EqOK.mono (by omega) (eq_i64 (by kernel_rfl))) (.cons rfl (by kernel_rfl) (by kernel_rfl) (EqOK.mono (by omega) (eq_i64 (by kernel_rfl))) (.cons rfl (by kernel_rfl) (by kernel_rfl) (eq_vec (e := 5) (by kernel_rfl) (by kernel_rfl) (eq_un (by kernel_rfl))) (.one rfl (by kernel_rfl) (by kernel_rfl) (eq_vec (e := 5) (by kernel_rfl) (by kernel_rfl) (eq_un (by kernel_rfl)))))))) (by decide) rfl (by kernel_rfl) (has_tmp rfl) (has_tmp rfl)) rfl rfl rfl ?_
  refine j_pure (pj_move (has_tmp rfl)) rfl rfl rfl ?_
  obtain ⟨y1, e2, h⟩ := bind_some h
  refine j_joinx (ι := Unit) (Γ' := fun _ => [(16, bl.slot y1)]) (H' := fun _ => []) 6 ?_ fun J => ?_
  · intro _
    clear e2
    show OpsJ _ _ _ [(16, bl.slot y1)] [] _
    refine j_pure (pj_assign (has_tmp rfl)) rfl rfl rfl ?_
    refine j_end ?_
    obtain rfl := Option.some.inj h
    exact run_ret fun a w hst => q_ret1 hst rfl (.tmp rfl) () (fun _ _ h => h) (.nil)
  · rcases bool_tf (decide (p_a.1 = p_b.1)) with e1 | e1
    · replace e2 := bt e1 e2
      refine j_pure_y (pj_field_to (has_tmp rfl) (Path.snd R_rolodexref17_Head (sl u8)) (by kernel_rfl)) rfl rfl rfl rfl (bl_isx e1) rfl rfl ?_
      refine j_pure_y (pj_load_to (has_tmp rfl) (by kernel_rfl)) rfl rfl rfl rfl (bl_isx e1) rfl rfl ?_
      refine j_pure_y (pj_field_to (has_tmp rfl) (Path.snd R_rolodexref17_Head (sl u8)) (by kernel_rfl)) rfl rfl rfl rfl (bl_isx e1) rfl rfl ?_
      refine j_pure_y (pj_load_to (has_tmp rfl) (by kernel_rfl)) rfl rfl rfl rfl (bl_isx e1) rfl rfl ?_
      obtain ⟨r1, e3, e2⟩ := bind_some e2
      refine j_pure_y (pj_call (hasL_cons (has_tmp rfl) <| hasL_cons (has_tmp rfl) <| hasL_nil) (by kernel_rfl) (c_rolodexref01_Same e3)) rfl rfl rfl rfl (bl_isx e1) rfl rfl ?_
      refine j_pure (PJ.eqv (R := bl) (pj_pick (t := any) (has_tmp rfl) (fun _ => (has_tmp rfl)) (fun he => absurd (e1.symm.trans he) (by decide))) (Option.some.inj e2)) rfl rfl rfl ?_
      exact j_to (.cons (.of_lk rfl) <| .nil) (.nil) (J ())
    · replace e2 := bf e1 e2
      refine j_guard_no2 (j := 5) (want := true) rfl rfl rfl rfl (bl_isx e1) rfl rfl rfl ?_
      refine j_guard_no2 (j := 5) (want := true) rfl rfl rfl rfl (bl_isx e1) rfl rfl rfl ?_
      refine j_guard_no2 (j := 5) (want := true) rfl rfl rfl rfl (bl_isx e1) rfl rfl rfl ?_
      refine j_guard_no2 (j := 5) (want := true) rfl rfl rfl rfl (bl_isx e1) rfl rfl rfl ?_
      refine j_guard_no2 (j := 5) (want := true) rfl rfl rfl rfl (bl_isx e1) rfl rfl rfl ?_
      refine j_pure (PJ.eqv (R := bl) (pj_pick (t := any) (has_tmp rfl) (fun he => absurd (e1.symm.trans he) (by decide)) (fun _ => has_bl)) (Option.some.inj e2)) rfl rfl rfl ?_
      exact j_to (.cons (.of_lk rfl) <| .nil) (.nil) (J ())
set_option maxRecDepth 100000 in
set_option maxHeartbeats 4000000 in
theorem c_wire_Reader_Done {G : GP} {p_r : (List (BitVec 8)) × Bool} {b_r : Nat} {c_r : List Value} {r : Bool} (h : wire_Reader_Done p_r = some r) : Ctr Try.prog G 18 [val (.pointer (some ⟨b_r, 0, none⟩))] [box b_r 66 (exr (prod (sl u8) bl) c_r) (p_r.1, p_r.2)] (fun (_ : Unit) => bl.slot r) (fun (_ : Unit) => [box b_r 66 (exr (prod (sl u8) bl) c_r) (p_r.1, p_r.2)]) := by
  unfold wire_Reader_Done at h
  refine ctr_of_run Try.func18 rfl 11 rfl rfl fun m0 w0 b0 => ?_
  show Run _ _ _ [(0, val (.pointer (some ⟨b_r, 0, none⟩)))] _
  refine run_seq ?_
  refine run_text ?_
  refine j_pure (PJ.xw (.ex .refl) (pj_assign has_bl)) rfl rfl rfl ?_
  refine j_end ?_
  refine run_seq ?_
  refine run_text ?_
  refine j_pure (PJ.xw (.ex .refl) (pj_move (has_tmp rfl))) rfl rfl rfl ?_
  obtain ⟨r1, e1, h⟩ := bind_some h
  refine j_pure (PJ.xw (.ex .refl) (pj_callR (hasL_cons (has_tmp rfl) <| hasL_nil) .here (by kernel_rfl) (fun _ => (c_wire_Reader_Fails e1)))) rfl rfl rfl ?_
  refine j_pure (PJ.xw (.ex .refl) (pj_not (has_tmp rfl))) rfl rfl rfl ?_
  refine j_pure (PJ.xw (.ex .refl) (pj_move (has_tmp rfl))) rfl rfl rfl ?_
  obtain ⟨y1, e3, h⟩ := bind_some h
  refine j_joinx (ι := Unit) (Γ' := fun _ => [(10, bl.slot y1)]) (H' := fun _ => [box b_r 66 (exr (prod (sl u8) bl) c_r) (p_r.1, p_r.2)]) 4 ?_ fun J => ?_
  · intro _
    clear e3
    show OpsJ _ _ _ [(10, bl.slot y1)] [box b_r 66 (exr (prod (sl u8) bl) c_r) (p_r.1, p_r.2)] _
    refine j_pure (PJ.xw (.ex .refl) (pj_assign (has_tmp rfl))) rfl rfl rfl ?_
    refine j_end ?_
    obtain rfl := Option.some.inj h
    exact run_ret fun a w hst => q_ret1 hst rfl (.tmp rfl) () (fun _ _ h => h) (.cons .here <| .nil)
  · rcases bool_tf (!r1) with e2 | e2
    · replace e3 := bt e2 e3
      refine j_pure_y (PJ.xw (.ex .refl) (pj_move (has_tmp rfl))) rfl rfl rfl rfl (bl_isx e2) rfl rfl ?_
      obtain ⟨r2, e4, e3⟩ := bind_some e3
      refine j_pure_y (PJ.xw (.ex .refl) (pj_callR (hasL_cons (has_tmp rfl) <| hasL_nil) .here (by kernel_rfl) (fun _ => (c_wire_Reader_Left e4)))) rfl rfl rfl rfl (bl_isx e2) rfl rfl ?_
      refine j_pure_y (PJ.xw (.ex .refl) (pj_ieql (has_tmp rfl) has_i64)) rfl rfl rfl rfl (bl_isx e2) rfl rfl ?_
      refine j_pure (PJ.eqv (R := bl) (pj_pick (t := any) (has_tmp rfl) (fun _ => (has_tmp rfl)) (fun he => absurd (e2.symm.trans he) (by decide))) (Option.some.inj e3)) rfl rfl rfl ?_
      exact j_to (.cons (.of_lk rfl) <| .nil) (.cons .here <| .nil) (J ())
    · replace e3 := bf e2 e3
      refine j_guard_no2 (j := 3) (want := true) rfl rfl rfl rfl (bl_isx e2) rfl rfl rfl ?_
      refine j_guard_no2 (j := 3) (want := true) rfl rfl rfl rfl (bl_isx e2) rfl rfl rfl ?_
      refine j_guard_no2 (j := 3) (want := true) rfl rfl rfl rfl (bl_isx e2) rfl rfl rfl ?_
      refine j_pure (PJ.eqv (R := bl) (pj_pick (t := any) (has_tmp rfl) (fun he => absurd (e2.symm.trans he) (by decide)) (fun _ => has_bl)) (Option.some.inj e3)) rfl rfl rfl ?_
      exact j_to (.cons (.of_lk rfl) <| .nil) (.cons .here <| .nil) (J ())
set_option maxRecDepth 100000 in
set_option maxHeartbeats 4000000 in
theorem c_rolodexlaw17_HeadPuts {G : GP} {p_s : T_rolodexref17_Signed} {p_b : List (BitVec 8)} {r : Bool} (h : rolodexlaw17_HeadPuts p_s p_b = some r) : Ctr Try.prog G 4 [R_rolodexref17_Signed.slot p_s, (sl u8).slot p_b] [] (fun (_ : Unit) => bl.slot r) (fun (_ : Unit) => []) := by
  unfold rolodexlaw17_HeadPuts at h
  refine ctr_of_run Try.func4 rfl 116 rfl rfl fun m0 w0 b0 => ?_
  show Run _ _ _ [(0, R_rolodexref17_Signed.slot p_s), (1, (sl u8).slot p_b)] _
  refine run_seq ?_
  refine run_text ?_
  refine j_pure (pj_box_to (has_tmp rfl)) rfl rfl rfl ?_
  refine j_pure (pj_assign has_bl) rfl rfl rfl ?_
  refine j_end ?_
  refine run_seq ?_
  refine run_seq ?_
  refine run_text ?_
  obtain ⟨r1, e1, h⟩ := bind_some h
  refine j_pure (pj_call (hasL_nil) (by kernel_rfl) (c_rolodexlaw17_awake e1)) rfl rfl rfl ?_
  refine j_pure (pj_not (has_tmp rfl)) rfl rfl rfl ?_
  refine j_pure (pj_move (has_tmp rfl)) rfl rfl rfl ?_
  obtain ⟨y1, e3, h⟩ := bind_some h
  refine j_joinx (ι := Unit) (Γ' := fun _ => [(1, (sl u8).slot p_b), (2, ptrTo R_rolodexref17_Signed p_s), (24, bl.slot y1)]) (H' := fun _ => []) 5 ?_ fun J => ?_
  · intro _
    clear e3
    show OpsJ _ _ _ [(1, (sl u8).slot p_b), (2, ptrTo R_rolodexref17_Signed p_s), (24, bl.slot y1)] [] _
    refine j_pure (pj_move (has_tmp rfl)) rfl rfl rfl ?_
    obtain ⟨y2, e5, h⟩ := bind_some h
    refine j_joinx (ι := Unit) (Γ' := fun _ => [(1, (sl u8).slot p_b), (2, ptrTo R_rolodexref17_Signed p_s), (29, bl.slot y2)]) (H' := fun _ => []) 4 ?_ fun J => ?_
    · intro _
      clear e5
      show OpsJ _ _ _ [(1, (sl u8).slot p_b), (2, ptrTo R_rolodexref17_Signed p_s), (29, bl.slot y2)] [] _
      refine j_end ?_
      refine run_cond (has_tmp rfl) (fun e6 => ?_) (fun e6 => ?_)
      · replace h := bt e6 h
        refine run_seq ?_
        refine run_text ?_
        obtain ⟨r2, e7, h⟩ := bind_some h
        refine j_pure (pj_call (hasL_nil) (by kernel_rfl) (c_rolodexlaw17_awake e7)) rfl rfl rfl ?_
        refine j_pure (pj_assign (has_tmp rfl)) rfl rfl rfl ?_
        refine j_end ?_
        obtain rfl := Option.some.inj h
        exact run_ret fun a w hst => q_ret1 hst rfl (.tmp rfl) () (fun _ _ h => h) (.nil)
      · replace h := bf e6 h
        refine run_skip ?_
        refine run_seq ?_
        refine run_text ?_
        refine j_pure (pj_build (R := prod (exv (.slice none 0 0)) bl) (zero_prod zero_exv zero_bl) (by kernel_rfl) (by kernel_rfl) rfl .nil) rfl rfl rfl ?_
        refine j_box_w (T1 := 5) u8 (has_tmp rfl) rfl fun b1 v1 => ?_
        refine j_pure (pj_assign (has_tmp rfl)) rfl rfl rfl ?_
        refine j_end ?_
        refine run_seq ?_
        refine run_text ?_
        refine j_pure (pj_move (has_tmp rfl)) rfl rfl rfl ?_
        refine j_pure (pj_field_to (has_tmp rfl) (Path.fst R_rolodexref17_Head (sl u8)) (by kernel_rfl)) rfl rfl rfl ?_
        refine j_pure (pj_load_to (has_tmp rfl) (by kernel_rfl)) rfl rfl rfl ?_
        refine j_pure (pj_field_to (has_tmp rfl) (Path.snd R_rolodexref17_Head (sl u8)) (by kernel_rfl)) rfl rfl rfl ?_
        refine j_pure (pj_load_to (has_tmp rfl) (by kernel_rfl)) rfl rfl rfl ?_
        obtain ⟨x1, e8, h⟩ := bind_some h
        refine j_pure (PJ.eqv (pj_build (R := R_head_Signed) (zero_prod (zero_prod zero_i64 (zero_prod zero_i64 (zero_prod (zero_vec 32 zero_un) (zero_vec 32 zero_un)))) zero_sl) (by kernel_rfl) (by kernel_rfl) rfl (.cons (has_tmp rfl) (Path.fst R_head_Head (sl u8)) (by kernel_rfl) (.cons (has_tmp rfl) (Path.snd R_head_Head (sl u8)) (by kernel_rfl) .nil))) (Option.some.inj e8)) rfl rfl rfl ?_
        obtain ⟨r3, e9, h⟩ := bind_some h
        refine j_call (hasL_cons (has_tmp rfl) <| hasL_cons (has_tmp rfl) <| hasL_nil) (by kernel_rfl) (c_head_Put e9) (.cons (.next .here) <| .cons .here <| .nil) rfl fun v2 => ?_
        refine j_end ?_
        refine run_seq ?_
        refine run_text ?_
        refine j_pure (pj_move (has_tmp rfl)) rfl rfl rfl ?_
        obtain ⟨r4, e10, h⟩ := bind_some h
        refine j_call (hasL_cons (has_tmp rfl) <| hasL_nil) (by kernel_rfl) (c_wire_Writer_Out e10) (.cons .here <| .cons .here <| .nil) rfl fun ⟨v3, v4⟩ => ?_
        refine j_pure (pj_move (has_tmp rfl)) rfl rfl rfl ?_
        refine j_pure (pj_extract (has_tmp rfl) rfl) rfl rfl rfl ?_
        refine j_pure (pj_extract (has_tmp rfl) rfl) rfl rfl rfl ?_
        refine j_pure (pj_assign (has_tmp rfl)) rfl rfl rfl ?_
        refine j_pure (pj_assign (has_tmp rfl)) rfl rfl rfl ?_
        refine j_end ?_
        refine run_seq ?_
        refine run_text ?_
        refine j_pure (pj_load_to (has_tmp rfl) (by kernel_rfl)) rfl rfl rfl ?_
        obtain ⟨r5, e11, h⟩ := bind_some h
        refine j_pure (pj_call (hasL_cons (has_tmp rfl) <| hasL_nil) (by kernel_rfl) (Ctr.froze2 (c_rolodexref17_Bytes e11))) rfl rfl rfl ?_
        refine j_pure (pj_move (has_tmp rfl)) rfl rfl rfl ?_
        refine j_pure (pj_extract (has_tmp rfl) rfl) rfl rfl rfl ?_
        refine j_pure (pj_extract (has_tmp rfl) rfl) rfl rfl rfl ?_
        refine j_pure (pj_assign (has_tmp rfl)) rfl rfl rfl ?_
        refine j_pure (pj_assign (has_tmp rfl)) rfl rfl rfl ?_
        refine j_end ?_
        refine run_seq ?_
        refine run_seq ?_
        refine run_text ?_
        refine j_pure (pj_move (has_tmp rfl)) rfl rfl rfl ?_
        refine j_pure (pj_ieql (has_tmp rfl) has_i64) rfl rfl rfl ?_
        refine j_pure (pj_move (has_tmp rfl)) rfl rfl rfl ?_
        refine j_pure (pj_bneq (by kernel_rfl) (has_tmp rfl) (has_tmp rfl)) rfl rfl rfl ?_
        refine j_pure (pj_move (has_tmp rfl)) rfl rfl rfl ?_
        obtain ⟨y3, e13, h⟩ := bind_some h
        refine j_joinx (ι := Unit) (Γ' := fun _ => [(1, (sl u8).slot p_b), (2, ptrTo R_rolodexref17_Signed p_s), (6, ov v4), (9, bl.slot r5.2), (59, bl.slot y3)]) (H' := fun _ => [own 5 u8 v4 r4.2.1]) 5 ?_ fun J => ?_
        · intro _
          clear e13
          show OpsJ _ _ _ [(1, (sl u8).slot p_b), (2, ptrTo R_rolodexref17_Signed p_s), (6, ov v4), (9, bl.slot r5.2), (59, bl.slot y3)] [own 5 u8 v4 r4.2.1] _
          refine j_end ?_
          refine run_cond (has_tmp rfl) (fun e15 => ?_) (fun e15 => ?_)
          · replace h := bt e15 h
            refine run_seq ?_
            refine run_text ?_
            refine j_pure (pj_assign has_bl) rfl rfl rfl ?_
            refine j_end ?_
            obtain rfl := Option.some.inj h
            exact run_ret fun a w hst => q_ret1 hst rfl (.tmp rfl) () (fun _ _ h => h) (.nil)
          · replace h := bf e15 h
            refine run_skip ?_
            refine run_seq ?_
            refine run_text ?_
            refine j_pure (pj_move (has_tmp rfl)) rfl rfl rfl ?_
            obtain ⟨r7, e16, h⟩ := bind_some h
            refine j_call (hasL_cons (has_tmp rfl) <| hasL_nil) (by kernel_rfl) (c_wire_New e16) .nil rfl fun b2 => ?_
            refine j_pure (pj_assign (has_tmp rfl)) rfl rfl rfl ?_
            refine j_end ?_
            refine run_seq ?_
            refine run_text ?_
            refine j_pure (pj_move (has_tmp rfl)) rfl rfl rfl ?_
            obtain ⟨r8, e17, h⟩ := bind_some h
            refine j_call (hasL_cons (has_tmp rfl) <| hasL_nil) (by kernel_rfl) (c_head_Take e17) (.cons .here <| .nil) rfl fun _ => ?_
            refine j_alloc (x := ((0, 0, (Vector.replicate 32 (0#8)), (Vector.replicate 32 (0#8))), ([] : List (BitVec 8)))) (R := R_head_Signed) (zero_prod (zero_prod zero_i64 (zero_prod zero_i64 (zero_prod (zero_vec 32 zero_un) (zero_vec 32 zero_un)))) zero_sl) (by kernel_rfl) rfl fun b3 => ?_
            refine j_store_boxx (r' := r8.2) (has_tmp rfl) (has_tmp rfl) .here (Path.all R_head_Signed) (by kernel_rfl) rfl ?_
            refine j_freezeTo (t := 11) .here (.of_lk rfl) ?_
            refine j_end ?_
            refine run_seq ?_
            refine run_text ?_
            refine j_pure (pj_move (has_tmp rfl)) rfl rfl rfl ?_
            obtain ⟨r9, e18, h⟩ := bind_some h
            refine j_pure (pj_call (hasL_cons (has_tmp rfl) <| hasL_nil) (by kernel_rfl) (c_rolodexref17_Take e18)) rfl rfl rfl ?_
            refine j_pure (pj_move (has_tmp rfl)) rfl rfl rfl ?_
            refine j_pure (pj_extract (has_tmp rfl) rfl) rfl rfl rfl ?_
            refine j_pure (pj_extract (has_tmp rfl) rfl) rfl rfl rfl ?_
            refine j_pure (pj_extract (has_tmp rfl) rfl) rfl rfl rfl ?_
            refine j_alloc (x := ((0, 0, (Vector.replicate 32 (0#8)), (Vector.replicate 32 (0#8))), ([] : List (BitVec 8)))) (R := R_rolodexref17_Signed) (zero_prod (zero_prod zero_i64 (zero_prod zero_i64 (zero_prod (zero_vec 32 zero_un) (zero_vec 32 zero_un)))) zero_sl) (by kernel_rfl) rfl fun b4 => ?_
            refine j_store_boxx (r' := r9.1) (has_tmp rfl) (has_tmp rfl) .here (Path.all R_rolodexref17_Signed) (by kernel_rfl) rfl ?_
            refine j_freezeTo (t := 12) .here (.of_lk rfl) ?_
            refine j_pure (pj_assign (has_tmp rfl)) rfl rfl rfl ?_
            refine j_pure (pj_assign (has_tmp rfl)) rfl rfl rfl ?_
            refine j_end ?_
            refine run_seq ?_
            refine run_seq ?_
            refine run_text ?_
            refine j_pure (pj_field_to (has_tmp rfl) (Path.fst R_head_Head (sl u8)) (by kernel_rfl)) rfl rfl rfl ?_
            refine j_pure (pj_load_to (has_tmp rfl) (by kernel_rfl)) rfl rfl rfl ?_
            refine j_pure (pj_field_to (has_tmp rfl) (Path.snd R_head_Head (sl u8)) (by kernel_rfl)) rfl rfl rfl ?_
            refine j_pure (pj_load_to (has_tmp rfl) (by kernel_rfl)) rfl rfl rfl ?_
            obtain ⟨x2, e19, h⟩ := bind_some h
            refine j_pure (PJ.eqv (pj_build (R := R_rolodexref17_Signed) (zero_prod (zero_prod zero_i64 (zero_prod zero_i64 (zero_prod (zero_vec 32 zero_un) (zero_vec 32 zero_un)))) zero_sl) (by kernel_rfl) (by kernel_rfl) rfl (.cons (has_tmp rfl) (Path.fst R_rolodexref17_Head (sl u8)) (by kernel_rfl) (.cons (has_tmp rfl) (Path.snd R_rolodexref17_Head (sl u8)) (by kernel_rfl) .nil))) (Option.some.inj e19)) rfl rfl rfl ?_
            refine j_pure (pj_load_to (has_tmp rfl) (by kernel_rfl)) rfl rfl rfl ?_
            obtain ⟨r10, e20, h⟩ := bind_some h
            refine j_pure (pj_call (hasL_cons (has_tmp rfl) <| hasL_cons (has_tmp rfl) <| hasL_nil) (by kernel_rfl) (c_rolodexref17_Same e20)) rfl rfl rfl ?_
            refine j_pure (pj_not (has_tmp rfl)) rfl rfl rfl ?_
            refine j_pure (pj_move (has_tmp rfl)) rfl rfl rfl ?_
            obtain ⟨y4, e22, h⟩ := bind_some h
            refine j_joinx (ι := Unit) (Γ' := fun _ => [(2, ptrTo R_rolodexref17_Signed p_s), (6, ov v4), (9, bl.slot r5.2), (10, val (.pointer (some ⟨b2, 0, none⟩))), (13, (sl u8).slot r9.2.1), (14, bl.slot r9.2.2), (83, bl.slot y4)]) (H' := fun _ => [box b2 66 (prod (sl u8) bl) (r8.1.1, r8.1.2), own 5 u8 v4 r4.2.1]) 5 ?_ fun J => ?_
            · intro _
              clear e22
              show OpsJ _ _ _ [(2, ptrTo R_rolodexref17_Signed p_s), (6, ov v4), (9, bl.slot r5.2), (10, val (.pointer (some ⟨b2, 0, none⟩))), (13, (sl u8).slot r9.2.1), (14, bl.slot r9.2.2), (83, bl.slot y4)] [box b2 66 (prod (sl u8) bl) (r8.1.1, r8.1.2), own 5 u8 v4 r4.2.1] _
              refine j_pure (pj_move (has_tmp rfl)) rfl rfl rfl ?_
              obtain ⟨y5, e25, h⟩ := bind_some h
              refine j_joinx (ι := Unit) (Γ' := fun _ => [(2, ptrTo R_rolodexref17_Signed p_s), (6, ov v4), (9, bl.slot r5.2), (93, bl.slot y5)]) (H' := fun _ => [own 5 u8 v4 r4.2.1]) 9 ?_ fun J => ?_
              · intro _
                clear e25
                show OpsJ _ _ _ [(2, ptrTo R_rolodexref17_Signed p_s), (6, ov v4), (9, bl.slot r5.2), (93, bl.slot y5)] [own 5 u8 v4 r4.2.1] _
                refine j_end ?_
                refine run_cond (has_tmp rfl) (fun e29 => ?_) (fun e29 => ?_)
                · replace h := bt e29 h
                  refine run_seq ?_
                  refine run_text ?_
                  refine j_pure (pj_assign has_bl) rfl rfl rfl ?_
                  refine j_end ?_
                  obtain rfl := Option.some.inj h
                  exact run_ret fun a w hst => q_ret1 hst rfl (.tmp rfl) () (fun _ _ h => h) (.nil)
                · replace h := bf e29 h
                  refine run_skip ?_
                  refine run_seq ?_
                  refine run_seq ?_
                  refine run_text ?_
                  refine j_pure (pj_move (has_tmp rfl)) rfl rfl rfl ?_
                  refine j_pure (pj_not (has_tmp rfl)) rfl rfl rfl ?_
                  refine j_end ?_
                  refine run_cond (has_tmp rfl) (fun e30 => ?_) (fun e30 => ?_)
                  · replace h := bt e30 h
                    refine run_seq ?_
                    refine run_text ?_
                    refine j_pure (pj_assign has_bl) rfl rfl rfl ?_
                    refine j_end ?_
                    obtain rfl := Option.some.inj h
                    exact run_ret fun a w hst => q_ret1 hst rfl (.tmp rfl) () (fun _ _ h => h) (.nil)
                  · replace h := bf e30 h
                    refine run_skip ?_
                    refine run_seq ?_
                    refine run_text ?_
                    refine j_pure (pj_move (has_tmp rfl)) rfl rfl rfl ?_
                    refine j_freeze [6, 96] .here (frz_cons (.of_lk rfl) <| frz_cons (.of_lk rfl) <| frz_nil) ?_
                    obtain ⟨r14, e32, h⟩ := bind_some h
                    refine j_call (hasL_cons (has_tmp rfl) <| hasL_nil) (by kernel_rfl) (c_wire_New e32) .nil rfl fun b5 => ?_
                    refine j_pure (pj_assign (has_tmp rfl)) rfl rfl rfl ?_
                    refine j_end ?_
                    refine run_seq ?_
                    refine run_text ?_
                    refine j_pure (pj_move (has_tmp rfl)) rfl rfl rfl ?_
                    obtain ⟨r15, e33, h⟩ := bind_some h
                    refine j_call (hasL_cons (has_tmp rfl) <| hasL_nil) (by kernel_rfl) (c_head_Take e33) (.cons .here <| .nil) rfl fun _ => ?_
                    refine j_alloc (x := ((0, 0, (Vector.replicate 32 (0#8)), (Vector.replicate 32 (0#8))), ([] : List (BitVec 8)))) (R := R_head_Signed) (zero_prod (zero_prod zero_i64 (zero_prod zero_i64 (zero_prod (zero_vec 32 zero_un) (zero_vec 32 zero_un)))) zero_sl) (by kernel_rfl) rfl fun b6 => ?_
                    refine j_store_boxx (r' := r15.2) (has_tmp rfl) (has_tmp rfl) .here (Path.all R_head_Signed) (by kernel_rfl) rfl ?_
                    refine j_freezeTo (t := 16) .here (.of_lk rfl) ?_
                    refine j_end ?_
                    refine run_seq ?_
                    refine run_text ?_
                    refine j_pure (pj_move (has_tmp rfl)) rfl rfl rfl ?_
                    obtain ⟨r16, e34, h⟩ := bind_some h
                    refine j_pure (pj_callR (hasL_cons (has_tmp rfl) <| hasL_nil) .here (by kernel_rfl) (fun _ => (c_wire_Reader_Done e34))) rfl rfl rfl ?_
                    refine j_pure (pj_move (has_tmp rfl)) rfl rfl rfl ?_
                    obtain ⟨y7, e36, h⟩ := bind_some h
                    refine j_joinx (ι := Unit) (Γ' := fun _ => [(2, ptrTo R_rolodexref17_Signed p_s), (16, ptrTo R_head_Signed r15.2), (108, bl.slot y7)]) (H' := fun _ => []) 6 ?_ fun J => ?_
                    · intro _
                      clear e36
                      show OpsJ _ _ _ [(2, ptrTo R_rolodexref17_Signed p_s), (16, ptrTo R_head_Signed r15.2), (108, bl.slot y7)] [] _
                      refine j_pure (pj_move (has_tmp rfl)) rfl rfl rfl ?_
                      obtain ⟨y8, e38, h⟩ := bind_some h
                      refine j_joinx (ι := Unit) (Γ' := fun _ => [(115, bl.slot y8)]) (H' := fun _ => []) 6 ?_ fun J => ?_
                      · intro _
                        clear e38
                        show OpsJ _ _ _ [(115, bl.slot y8)] [] _
                        refine j_pure (pj_assign (has_tmp rfl)) rfl rfl rfl ?_
                        refine j_end ?_
                        obtain rfl := Option.some.inj h
                        exact run_ret fun a w hst => q_ret1 hst rfl (.tmp rfl) () (fun _ _ h => h) (.nil)
                      · rcases bool_tf (y7) with e37 | e37
                        · replace e38 := bt e37 e38
                          refine j_pure_y (pj_field_to (has_tmp rfl) (Path.snd R_head_Head (sl u8)) (by kernel_rfl)) rfl rfl rfl rfl (bl_isx e37) rfl rfl ?_
                          refine j_pure_y (pj_load_to (has_tmp rfl) (by kernel_rfl)) rfl rfl rfl rfl (bl_isx e37) rfl rfl ?_
                          refine j_pure_y (pj_field_to (has_tmp rfl) (Path.snd R_rolodexref17_Head (sl u8)) (by kernel_rfl)) rfl rfl rfl rfl (bl_isx e37) rfl rfl ?_
                          refine j_pure_y (pj_load_to (has_tmp rfl) (by kernel_rfl)) rfl rfl rfl rfl (bl_isx e37) rfl rfl ?_
                          obtain ⟨r17, e39, e38⟩ := bind_some e38
                          refine j_pure_y (pj_call (hasL_cons (has_tmp rfl) <| hasL_cons (has_tmp rfl) <| hasL_nil) (by kernel_rfl) (c_rolodexref01_Same e39)) rfl rfl rfl rfl (bl_isx e37) rfl rfl ?_
                          refine j_pure (PJ.eqv (R := bl) (pj_pick (t := any) (has_tmp rfl) (fun _ => (has_tmp rfl)) (fun he => absurd (e37.symm.trans he) (by decide))) (Option.some.inj e38)) rfl rfl rfl ?_
                          exact j_to (.cons (.of_lk rfl) <| .nil) (.nil) (J ())
                        · replace e38 := bf e37 e38
                          refine j_guard_no2 (j := 9) (want := true) rfl rfl rfl rfl (bl_isx e37) rfl rfl rfl ?_
                          refine j_guard_no2 (j := 9) (want := true) rfl rfl rfl rfl (bl_isx e37) rfl rfl rfl ?_
                          refine j_guard_no2 (j := 9) (want := true) rfl rfl rfl rfl (bl_isx e37) rfl rfl rfl ?_
                          refine j_guard_no2 (j := 9) (want := true) rfl rfl rfl rfl (bl_isx e37) rfl rfl rfl ?_
                          refine j_guard_no2 (j := 9) (want := true) rfl rfl rfl rfl (bl_isx e37) rfl rfl rfl ?_
                          refine j_pure (PJ.eqv (R := bl) (pj_pick (t := any) (has_tmp rfl) (fun he => absurd (e37.symm.trans he) (by decide)) (fun _ => has_bl)) (Option.some.inj e38)) rfl rfl rfl ?_
                          exact j_to (.cons (.of_lk rfl) <| .nil) (.nil) (J ())
                    · rcases bool_tf (r16) with e35 | e35
                      · replace e36 := bt e35 e36
                        refine j_pure_y (pj_field_to (has_tmp rfl) (Path.fst R_head_Head (sl u8)) (by kernel_rfl)) rfl rfl rfl rfl (bl_isx e35) rfl rfl ?_
                        refine j_pure_y (pj_load_to (has_tmp rfl) (by kernel_rfl)) rfl rfl rfl rfl (bl_isx e35) rfl rfl ?_
                        refine j_pure_y (pj_field_to (has_tmp rfl) (Path.fst R_rolodexref17_Head (sl u8)) (by kernel_rfl)) rfl rfl rfl rfl (bl_isx e35) rfl rfl ?_
                        refine j_pure_y (pj_load_to (has_tmp rfl) (by kernel_rfl)) rfl rfl rfl rfl (bl_isx e35) rfl rfl ?_
                        refine j_pure_y (pj_eql (n := 3) (eq_struct (fs := #[Field.mk "Epoch" 3 0 false "" "" 0, Field.mk "Tick" 3 1 false "" "" 8, Field.mk "Tree" 23 2 false "" "" 16, Field.mk "Log" 23 34 false "" "" 48]) (by kernel_rfl) (by kernel_rfl) rfl (.cons rfl (by kernel_rfl) (by kernel_rfl) (EqOK.mono (by omega) (eq_i64 (by kernel_rfl))) (.cons rfl (by kernel_rfl) (by kernel_rfl) (EqOK.mono (by omega) (eq_i64 (by kernel_rfl))) (.cons rfl (by kernel_rfl) (by kernel_rfl) (eq_vec (e := 5) (by kernel_rfl) (by kernel_rfl) (eq_un (by kernel_rfl))) (.one rfl (by kernel_rfl) (by kernel_rfl) (eq_vec (e := 5) (by kernel_rfl) (by kernel_rfl) (eq_un (by kernel_rfl)))))))) (by decide) rfl (by kernel_rfl) (has_tmp rfl) (has_tmp rfl)) rfl rfl rfl rfl (bl_isx e35) rfl rfl ?_
                        refine j_pure (PJ.eqv (R := bl) (pj_pick (t := any) (has_tmp rfl) (fun _ => (has_tmp rfl)) (fun he => absurd (e35.symm.trans he) (by decide))) (Option.some.inj e36)) rfl rfl rfl ?_
                        exact j_to (.cons (.of_lk rfl) <| .cons (.of_lk rfl) <| .cons (.of_lk rfl) <| .nil) (.nil) (J ())
                      · replace e36 := bf e35 e36
                        refine j_guard_no2 (j := 2) (want := true) rfl rfl rfl rfl (bl_isx e35) rfl rfl rfl ?_
                        refine j_guard_no2 (j := 2) (want := true) rfl rfl rfl rfl (bl_isx e35) rfl rfl rfl ?_
                        refine j_guard_no2 (j := 2) (want := true) rfl rfl rfl rfl (bl_isx e35) rfl rfl rfl ?_
                        refine j_guard_no2 (j := 2) (want := true) rfl rfl rfl rfl (bl_isx e35) rfl rfl rfl ?_
                        refine j_guard_no2 (j := 2) (want := true) rfl rfl rfl rfl (bl_isx e35) rfl rfl rfl ?_
                        refine j_pure (PJ.eqv (R := bl) (pj_pick (t := any) (has_tmp rfl) (fun he => absurd (e35.symm.trans he) (by decide)) (fun _ => has_bl)) (Option.some.inj e36)) rfl rfl rfl ?_
                        exact j_to (.cons (.of_lk rfl) <| .cons (.of_lk rfl) <| .cons (.of_lk rfl) <| .nil) (.nil) (J ())
              · rcases bool_tf (y4) with e24 | e24
                · replace e25 := bt e24 e25
                  refine j_guard_no2 (j := 14) (want := false) rfl rfl rfl rfl (bl_isx e24) rfl rfl rfl ?_
                  refine j_guard_no2 (j := 14) (want := false) rfl rfl rfl rfl (bl_isx e24) rfl rfl rfl ?_
                  refine j_guard_undef (j := 16) (want := true) rfl rfl rfl rfl rfl ?_
                  refine j_guard_undef (j := 16) (want := true) rfl rfl rfl rfl rfl ?_
                  refine j_guard_undef (j := 16) (want := true) rfl rfl rfl rfl rfl ?_
                  refine j_guard_undef (j := 16) (want := true) rfl rfl rfl rfl rfl ?_
                  refine j_guard_undef (j := 16) (want := true) rfl rfl rfl rfl rfl ?_
                  refine j_guard_no2 (j := 14) (want := false) rfl rfl rfl rfl (bl_isx e24) rfl rfl rfl ?_
                  refine j_pure (PJ.eqv (R := bl) (pj_pick (t := any) (has_tmp rfl) (fun _ => has_bl) (fun he => absurd (e24.symm.trans he) (by decide))) (Option.some.inj e25)) rfl rfl rfl ?_
                  exact j_to (.cons (.of_lk rfl) <| .cons (.of_lk rfl) <| .cons (.of_lk rfl) <| .cons (.of_lk rfl) <| .nil) (.cons (.next .here) <| .nil) (J ())
                · replace e25 := bf e24 e25
                  refine j_pure_y (pj_move (has_tmp rfl)) rfl rfl rfl rfl (bl_isx e24) rfl rfl ?_
                  refine j_pure_y (pj_move (has_tmp rfl)) rfl rfl rfl rfl (bl_isx e24) rfl rfl ?_
                  obtain ⟨y6, e27, e25⟩ := bind_some e25
                  rcases bool_tf (r9.2.2) with e26 | e26
                  · replace e27 := bt e26 e27
                    refine j_pure_y (pj_move (has_tmp rfl)) rfl rfl rfl rfl (bl_isx e26) rfl rfl ?_
                    obtain ⟨r12, e28, e27⟩ := bind_some e27
                    refine j_pure_y (pj_callR (hasL_cons (has_tmp rfl) <| hasL_nil) .here (by kernel_rfl) (fun _ => (c_wire_Reader_Left e28))) rfl rfl rfl rfl (bl_isx e26) rfl rfl ?_
                    refine j_pure_y (pj_move (has_tmp rfl)) rfl rfl rfl rfl (bl_isx e26) rfl rfl ?_
                    refine j_pure_y (pj_len_sl (sz := 1) (has_tmp rfl) (by kernel_rfl)) rfl rfl rfl rfl (bl_isx e26) rfl rfl ?_
                    refine j_pure_y (pj_ineq (has_tmp rfl) (has_tmp rfl)) rfl rfl rfl rfl (bl_isx e26) rfl rfl ?_
                    refine j_pure_y (PJ.eqv (R := bl) (pj_pick (t := any) (has_tmp rfl) (fun _ => (has_tmp rfl)) (fun he => absurd (e26.symm.trans he) (by decide))) (Option.some.inj e27)) rfl rfl rfl rfl (bl_isx e24) rfl rfl ?_
                    refine j_pure (PJ.eqv (R := bl) (pj_pick (t := any) (has_tmp rfl) (fun he => absurd (e24.symm.trans he) (by decide)) (fun _ => (has_tmp rfl))) (Option.some.inj e25)) rfl rfl rfl ?_
                    exact j_to (.cons (.of_lk rfl) <| .cons (.of_lk rfl) <| .cons (.of_lk rfl) <| .cons (.of_lk rfl) <| .nil) (.cons (.next .here) <| .nil) (J ())
                  · replace e27 := bf e26 e27
                    refine j_guard_no2 (j := 16) (want := true) rfl rfl rfl rfl (bl_isx e26) rfl rfl rfl ?_
                    refine j_guard_no2 (j := 16) (want := true) rfl rfl rfl rfl (bl_isx e26) rfl rfl rfl ?_
                    refine j_guard_no2 (j := 16) (want := true) rfl rfl rfl rfl (bl_isx e26) rfl rfl rfl ?_
                    refine j_guard_no2 (j := 16) (want := true) rfl rfl rfl rfl (bl_isx e26) rfl rfl rfl ?_
                    refine j_guard_no2 (j := 16) (want := true) rfl rfl rfl rfl (bl_isx e26) rfl rfl rfl ?_
                    refine j_pure_y (PJ.eqv (R := bl) (pj_pick (t := any) (has_tmp rfl) (fun he => absurd (e26.symm.trans he) (by decide)) (fun _ => has_bl)) (Option.some.inj e27)) rfl rfl rfl rfl (bl_isx e24) rfl rfl ?_
                    refine j_pure (PJ.eqv (R := bl) (pj_pick (t := any) (has_tmp rfl) (fun he => absurd (e24.symm.trans he) (by decide)) (fun _ => (has_tmp rfl))) (Option.some.inj e25)) rfl rfl rfl ?_
                    exact j_to (.cons (.of_lk rfl) <| .cons (.of_lk rfl) <| .cons (.of_lk rfl) <| .cons (.of_lk rfl) <| .nil) (.cons (.next .here) <| .nil) (J ())
            · rcases bool_tf (!r10) with e21 | e21
              · replace e22 := bt e21 e22
                refine j_guard_no2 (j := 8) (want := false) rfl rfl rfl rfl (bl_isx e21) rfl rfl rfl ?_
                refine j_guard_no2 (j := 8) (want := false) rfl rfl rfl rfl (bl_isx e21) rfl rfl rfl ?_
                refine j_guard_no2 (j := 8) (want := false) rfl rfl rfl rfl (bl_isx e21) rfl rfl rfl ?_
                refine j_guard_no2 (j := 8) (want := false) rfl rfl rfl rfl (bl_isx e21) rfl rfl rfl ?_
                refine j_pure (PJ.eqv (R := bl) (pj_pick (t := any) (has_tmp rfl) (fun _ => has_bl) (fun he => absurd (e21.symm.trans he) (by decide))) (Option.some.inj e22)) rfl rfl rfl ?_
                exact j_to (.cons (.of_lk rfl) <| .cons (.of_lk rfl) <| .cons (.of_lk rfl) <| .cons (.of_lk rfl) <| .cons (.of_lk rfl) <| .cons (.of_lk rfl) <| .cons (.of_lk rfl) <| .nil) (.cons .here <| .cons .here <| .nil) (J ())
              · replace e22 := bf e21 e22
                refine j_pure_y (pj_move (has_tmp rfl)) rfl rfl rfl rfl (bl_isx e21) rfl rfl ?_
                obtain ⟨r11, e23, e22⟩ := bind_some e22
                refine j_pure_y (pj_callR (hasL_cons (has_tmp rfl) <| hasL_nil) .here (by kernel_rfl) (fun _ => (c_wire_Reader_Fails e23))) rfl rfl rfl rfl (bl_isx e21) rfl rfl ?_
                refine j_pure_y (pj_move (has_tmp rfl)) rfl rfl rfl rfl (bl_isx e21) rfl rfl ?_
                refine j_pure_y (pj_beql (by kernel_rfl) (has_tmp rfl) (has_tmp rfl)) rfl rfl rfl rfl (bl_isx e21) rfl rfl ?_
                refine j_pure (PJ.eqv (R := bl) (pj_pick (t := any) (has_tmp rfl) (fun he => absurd (e21.symm.trans he) (by decide)) (fun _ => (has_tmp rfl))) (Option.some.inj e22)) rfl rfl rfl ?_
                exact j_to (.cons (.of_lk rfl) <| .cons (.of_lk rfl) <| .cons (.of_lk rfl) <| .cons (.of_lk rfl) <| .cons (.of_lk rfl) <| .cons (.of_lk rfl) <| .cons (.of_lk rfl) <| .nil) (.cons .here <| .cons .here <| .nil) (J ())
        · rcases bool_tf (!((decide (r4.2.2 = (0 : Int))) == r5.2)) with e12 | e12
          · replace e13 := bt e12 e13
            refine j_guard_no2 (j := 4) (want := false) rfl rfl rfl rfl (bl_isx e12) rfl rfl rfl ?_
            refine j_guard_no2 (j := 4) (want := false) rfl rfl rfl rfl (bl_isx e12) rfl rfl rfl ?_
            refine j_guard_no2 (j := 4) (want := false) rfl rfl rfl rfl (bl_isx e12) rfl rfl rfl ?_
            refine j_guard_no2 (j := 4) (want := false) rfl rfl rfl rfl (bl_isx e12) rfl rfl rfl ?_
            refine j_pure (PJ.eqv (R := bl) (pj_pick (t := any) (has_tmp rfl) (fun _ => has_bl) (fun he => absurd (e12.symm.trans he) (by decide))) (Option.some.inj e13)) rfl rfl rfl ?_
            exact j_to (.cons (.of_lk rfl) <| .cons (.of_lk rfl) <| .cons (.of_lk rfl) <| .cons (.of_lk rfl) <| .cons (.of_lk rfl) <| .nil) (.cons (.next (.next .here)) <| .nil) (J ())
          · replace e13 := bf e12 e13
            refine j_pure_y (pj_move (has_tmp rfl)) rfl rfl rfl rfl (bl_isx e12) rfl rfl ?_
            refine j_pure_y (pj_move (has_tmp rfl)) rfl rfl rfl rfl (bl_isx e12) rfl rfl ?_
            obtain ⟨r6, e14, e13⟩ := bind_some e13
            refine j_pure_y (pj_callB (hasBL_cons (hasB_own (has_tmp rfl) (.next (.next .here))) <| hasBL_cons (hasB_of (has_tmp rfl)) <| hasBL_nil) (by kernel_rfl) (c_rolodexref01_Same e14) (Rep.flat_slot flat_bl _)) rfl rfl rfl rfl (bl_isx e12) rfl rfl ?_
            refine j_pure_y (pj_not (has_tmp rfl)) rfl rfl rfl rfl (bl_isx e12) rfl rfl ?_
            refine j_pure (PJ.eqv (R := bl) (pj_pick (t := any) (has_tmp rfl) (fun he => absurd (e12.symm.trans he) (by decide)) (fun _ => (has_tmp rfl))) (Option.some.inj e13)) rfl rfl rfl ?_
            exact j_to (.cons (.of_lk rfl) <| .cons (.of_lk rfl) <| .cons (.of_lk rfl) <| .cons (.of_lk rfl) <| .cons (.of_lk rfl) <| .nil) (.cons (.next (.next .here)) <| .nil) (J ())
    · rcases bool_tf (y1) with e4 | e4
      · replace e5 := bt e4 e5
        refine j_guard_no2 (j := 8) (want := false) rfl rfl rfl rfl (bl_isx e4) rfl rfl rfl ?_
        refine j_guard_no2 (j := 8) (want := false) rfl rfl rfl rfl (bl_isx e4) rfl rfl rfl ?_
        refine j_guard_no2 (j := 8) (want := false) rfl rfl rfl rfl (bl_isx e4) rfl rfl rfl ?_
        refine j_pure (PJ.eqv (R := bl) (pj_pick (t := any) (has_tmp rfl) (fun _ => has_bl) (fun he => absurd (e4.symm.trans he) (by decide))) (Option.some.inj e5)) rfl rfl rfl ?_
        exact j_to (.cons (.of_lk rfl) <| .cons (.of_lk rfl) <| .cons (.of_lk rfl) <| .nil) (.nil) (J ())
      · replace e5 := bf e4 e5
        refine j_pure_y (pj_move (has_tmp rfl)) rfl rfl rfl rfl (bl_isx e4) rfl rfl ?_
        refine j_pure_y (pj_len_sl (sz := 1) (has_tmp rfl) (by kernel_rfl)) rfl rfl rfl rfl (bl_isx e4) rfl rfl ?_
        refine j_pure_y (pj_igtr (has_tmp rfl) has_i64) rfl rfl rfl rfl (bl_isx e4) rfl rfl ?_
        refine j_pure (PJ.eqv (R := bl) (pj_pick (t := any) (has_tmp rfl) (fun he => absurd (e4.symm.trans he) (by decide)) (fun _ => (has_tmp rfl))) (Option.some.inj e5)) rfl rfl rfl ?_
        exact j_to (.cons (.of_lk rfl) <| .cons (.of_lk rfl) <| .cons (.of_lk rfl) <| .nil) (.nil) (J ())
  · rcases bool_tf (!r1) with e2 | e2
    · replace e3 := bt e2 e3
      refine j_guard_no2 (j := 2) (want := false) rfl rfl rfl rfl (bl_isx e2) rfl rfl rfl ?_
      refine j_guard_no2 (j := 2) (want := false) rfl rfl rfl rfl (bl_isx e2) rfl rfl rfl ?_
      refine j_guard_no2 (j := 2) (want := false) rfl rfl rfl rfl (bl_isx e2) rfl rfl rfl ?_
      refine j_guard_no2 (j := 2) (want := false) rfl rfl rfl rfl (bl_isx e2) rfl rfl rfl ?_
      refine j_pure (PJ.eqv (R := bl) (pj_pick (t := any) (has_tmp rfl) (fun _ => has_bl) (fun he => absurd (e2.symm.trans he) (by decide))) (Option.some.inj e3)) rfl rfl rfl ?_
      exact j_to (.cons (.of_lk rfl) <| .cons (.of_lk rfl) <| .cons (.of_lk rfl) <| .nil) (.nil) (J ())
    · replace e3 := bf e2 e3
      refine j_pure_y (pj_field_to (has_tmp rfl) (Path.snd R_rolodexref17_Head (sl u8)) (by kernel_rfl)) rfl rfl rfl rfl (bl_isx e2) rfl rfl ?_
      refine j_pure_y (pj_load_to (has_tmp rfl) (by kernel_rfl)) rfl rfl rfl rfl (bl_isx e2) rfl rfl ?_
      refine j_pure_y (pj_len_sl (sz := 1) (has_tmp rfl) (by kernel_rfl)) rfl rfl rfl rfl (bl_isx e2) rfl rfl ?_
      refine j_pure_y (pj_igtr (has_tmp rfl) has_i64) rfl rfl rfl rfl (bl_isx e2) rfl rfl ?_
      refine j_pure (PJ.eqv (R := bl) (pj_pick (t := any) (has_tmp rfl) (fun he => absurd (e2.symm.trans he) (by decide)) (fun _ => (has_tmp rfl))) (Option.some.inj e3)) rfl rfl rfl ?_
      exact j_to (.cons (.of_lk rfl) <| .cons (.of_lk rfl) <| .cons (.of_lk rfl) <| .nil) (.nil) (J ())
end Go.Sl.W
