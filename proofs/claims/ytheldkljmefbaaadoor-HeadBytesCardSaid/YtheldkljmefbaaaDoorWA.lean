import Derived.Test.YtheldkljmefbaaaDoorM
import Derived.Test.YtheldkljmefbaaaDoorOp14
import Derived.Test.YtheldkljmefbaaaDoorProg
set_option linter.unusedSimpArgs false
set_option linter.unusedVariables false
set_option linter.unusedSectionVars false
namespace Go.Sl.W
open Go.Proofs Go.Sl Go.Sl.M
abbrev R_hash_state : Rep T_hash_state := vec 8 u32
abbrev R_lmots_form : Rep T_lmots_form := (prod i64 (prod i64 i64))
abbrev R_api_Hash : Rep T_api_Hash := vec 32 u8
abbrev R_head_Head : Rep T_head_Head := (prod i64 (prod i64 (prod R_api_Hash R_api_Hash)))
abbrev R_rolodexref17_Head : Rep T_rolodexref17_Head := (prod i64 (prod i64 (prod R_api_Hash R_api_Hash)))
abbrev R_wire_Reader : Rep T_wire_Reader := (prod (sl u8) bl)
abbrev HG0 (G : GP) : Prop := ∀ m, G.p m → GAt 0 R_hash_state G_hash_begin m
abbrev HG1 (G : GP) : Prop := ∀ m, G.p m → GAt 1 (vec 64 u32) G_hash_rounds m
abbrev HG2 (G : GP) : Prop := ∀ m, G.p m → GAt 2 (vec 5 R_lmots_form) G_lmots_forms m
set_option maxRecDepth 100000 in
set_option maxHeartbeats 4000000 in
theorem c_head_Head_is {G : GP} {p_h : T_head_Head} {r : Bool} (h : head_Head_is p_h = some r) : Ctr Tryd.prog G 25 [R_head_Head.slot p_h] [] (fun (_ : Unit) => bl.slot r) (fun (_ : Unit) => []) := by
  unfold head_Head_is at h
  refine ctr_of_run Tryd.func25 rfl 21 rfl rfl fun m0 w0 b0 => ?_
  show Run _ _ _ [(0, R_head_Head.slot p_h)] _
  refine run_seq ?_
  refine run_text ?_
  refine j_pure (pj_box_to (has_tmp rfl)) rfl rfl rfl ?_
  refine j_pure (pj_assign has_bl) rfl rfl rfl ?_
  refine j_end ?_
  refine run_seq ?_
  refine run_text ?_
  refine j_pure (pj_field_to (has_tmp rfl) (Path.fst i64 (prod i64 (prod R_api_Hash R_api_Hash))) (by kernel_rfl)) rfl rfl rfl ?_
  refine j_pure (pj_load_to (has_tmp rfl) (by kernel_rfl)) rfl rfl rfl ?_
  refine j_pure (pj_igeq (has_tmp rfl) has_i64) rfl rfl rfl ?_
  refine j_pure (pj_move (has_tmp rfl)) rfl rfl rfl ?_
  obtain ⟨y1, e2, h⟩ := bind_some h
  refine j_joinx (ι := Unit) (Γ' := fun _ => [(1, ptrTo R_head_Head p_h), (10, bl.slot y1)]) (H' := fun _ => []) 4 ?_ fun J => ?_
  · intro _
    clear e2
    show OpsJ _ _ _ [(1, ptrTo R_head_Head p_h), (10, bl.slot y1)] [] _
    refine j_pure (pj_move (has_tmp rfl)) rfl rfl rfl ?_
    obtain ⟨y2, e4, h⟩ := bind_some h
    refine j_joinx (ι := Unit) (Γ' := fun _ => [(1, ptrTo R_head_Head p_h), (15, bl.slot y2)]) (H' := fun _ => []) 4 ?_ fun J => ?_
    · intro _
      clear e4
      show OpsJ _ _ _ [(1, ptrTo R_head_Head p_h), (15, bl.slot y2)] [] _
      refine j_pure (pj_move (has_tmp rfl)) rfl rfl rfl ?_
      obtain ⟨y3, e6, h⟩ := bind_some h
      refine j_joinx (ι := Unit) (Γ' := fun _ => [(20, bl.slot y3)]) (H' := fun _ => []) 4 ?_ fun J => ?_
      · intro _
        clear e6
        show OpsJ _ _ _ [(20, bl.slot y3)] [] _
        refine j_pure (pj_assign (has_tmp rfl)) rfl rfl rfl ?_
        refine j_end ?_
        obtain rfl := Option.some.inj h
        exact run_ret fun a w hst => q_ret1 hst rfl (.tmp rfl) () (fun _ _ h => h) (.nil)
      · rcases bool_tf (y2) with e5 | e5
        · replace e6 := bt e5 e6
          refine j_pure_y (pj_field_to (has_tmp rfl) (Path.then (Path.snd i64 (prod i64 (prod R_api_Hash R_api_Hash))) (Path.fst i64 (prod R_api_Hash R_api_Hash))) (by kernel_rfl)) rfl rfl rfl rfl (bl_isx e5) rfl rfl ?_
          refine j_pure_y (pj_load_to (has_tmp rfl) (by kernel_rfl)) rfl rfl rfl rfl (bl_isx e5) rfl rfl ?_
          refine j_pure_y (pj_ilss (has_tmp rfl) has_i64) rfl rfl rfl rfl (bl_isx e5) rfl rfl ?_
          refine j_pure (PJ.eqv (R := bl) (pj_pick (t := any) (has_tmp rfl) (fun _ => (has_tmp rfl)) (fun he => absurd (e5.symm.trans he) (by decide))) (Option.some.inj e6)) rfl rfl rfl ?_
          exact j_to (.cons (.of_lk rfl) <| .nil) (.nil) (J ())
        · replace e6 := bf e5 e6
          refine j_guard_no2 (j := 13) (want := true) rfl rfl rfl rfl (bl_isx e5) rfl rfl rfl ?_
          refine j_guard_no2 (j := 13) (want := true) rfl rfl rfl rfl (bl_isx e5) rfl rfl rfl ?_
          refine j_guard_no2 (j := 13) (want := true) rfl rfl rfl rfl (bl_isx e5) rfl rfl rfl ?_
          refine j_pure (PJ.eqv (R := bl) (pj_pick (t := any) (has_tmp rfl) (fun he => absurd (e5.symm.trans he) (by decide)) (fun _ => has_bl)) (Option.some.inj e6)) rfl rfl rfl ?_
          exact j_to (.cons (.of_lk rfl) <| .nil) (.nil) (J ())
    · rcases bool_tf (y1) with e3 | e3
      · replace e4 := bt e3 e4
        refine j_pure_y (pj_field_to (has_tmp rfl) (Path.then (Path.snd i64 (prod i64 (prod R_api_Hash R_api_Hash))) (Path.fst i64 (prod R_api_Hash R_api_Hash))) (by kernel_rfl)) rfl rfl rfl rfl (bl_isx e3) rfl rfl ?_
        refine j_pure_y (pj_load_to (has_tmp rfl) (by kernel_rfl)) rfl rfl rfl rfl (bl_isx e3) rfl rfl ?_
        refine j_pure_y (pj_igeq (has_tmp rfl) has_i64) rfl rfl rfl rfl (bl_isx e3) rfl rfl ?_
        refine j_pure (PJ.eqv (R := bl) (pj_pick (t := any) (has_tmp rfl) (fun _ => (has_tmp rfl)) (fun he => absurd (e3.symm.trans he) (by decide))) (Option.some.inj e4)) rfl rfl rfl ?_
        exact j_to (.cons (.of_lk rfl) <| .cons (.of_lk rfl) <| .nil) (.nil) (J ())
      · replace e4 := bf e3 e4
        refine j_guard_no2 (j := 8) (want := true) rfl rfl rfl rfl (bl_isx e3) rfl rfl rfl ?_
        refine j_guard_no2 (j := 8) (want := true) rfl rfl rfl rfl (bl_isx e3) rfl rfl rfl ?_
        refine j_guard_no2 (j := 8) (want := true) rfl rfl rfl rfl (bl_isx e3) rfl rfl rfl ?_
        refine j_pure (PJ.eqv (R := bl) (pj_pick (t := any) (has_tmp rfl) (fun he => absurd (e3.symm.trans he) (by decide)) (fun _ => has_bl)) (Option.some.inj e4)) rfl rfl rfl ?_
        exact j_to (.cons (.of_lk rfl) <| .cons (.of_lk rfl) <| .nil) (.nil) (J ())
  · rcases bool_tf (decide ((1 : Int) ≤ p_h.1)) with e1 | e1
    · replace e2 := bt e1 e2
      refine j_pure_y (pj_field_to (has_tmp rfl) (Path.fst i64 (prod i64 (prod R_api_Hash R_api_Hash))) (by kernel_rfl)) rfl rfl rfl rfl (bl_isx e1) rfl rfl ?_
      refine j_pure_y (pj_load_to (has_tmp rfl) (by kernel_rfl)) rfl rfl rfl rfl (bl_isx e1) rfl rfl ?_
      refine j_pure_y (pj_ilss (has_tmp rfl) has_i64) rfl rfl rfl rfl (bl_isx e1) rfl rfl ?_
      refine j_pure (PJ.eqv (R := bl) (pj_pick (t := any) (has_tmp rfl) (fun _ => (has_tmp rfl)) (fun he => absurd (e1.symm.trans he) (by decide))) (Option.some.inj e2)) rfl rfl rfl ?_
      exact j_to (.cons (.of_lk rfl) <| .cons (.of_lk rfl) <| .nil) (.nil) (J ())
    · replace e2 := bf e1 e2
      refine j_guard_no2 (j := 3) (want := true) rfl rfl rfl rfl (bl_isx e1) rfl rfl rfl ?_
      refine j_guard_no2 (j := 3) (want := true) rfl rfl rfl rfl (bl_isx e1) rfl rfl rfl ?_
      refine j_guard_no2 (j := 3) (want := true) rfl rfl rfl rfl (bl_isx e1) rfl rfl rfl ?_
      refine j_pure (PJ.eqv (R := bl) (pj_pick (t := any) (has_tmp rfl) (fun he => absurd (e1.symm.trans he) (by decide)) (fun _ => has_bl)) (Option.some.inj e2)) rfl rfl rfl ?_
      exact j_to (.cons (.of_lk rfl) <| .cons (.of_lk rfl) <| .nil) (.nil) (J ())
set_option maxRecDepth 100000 in
set_option maxHeartbeats 4000000 in
theorem c_wire_Writer_number {G : GP} {p_w : (List (BitVec 8)) × Bool} {p_x : BitVec 64} {p_bytes : Int} {b_w : Nat} {v_w0 : Value} {r : ((List (BitVec 8)) × Bool)} (h : wire_Writer_number p_w p_x p_bytes = some r) : Ctr Tryd.prog G 48 [val (.pointer (some ⟨b_w, 0, none⟩)), u64.slot p_x, i64.slot p_bytes] [box b_w 63 (prod (exv v_w0) bl) ((), p_w.2), own 5 u8 v_w0 p_w.1] (fun (u0 : Value) => tup []) (fun (u0 : Value) => [box b_w 63 (prod (exv u0) bl) ((), r.2), own 5 u8 u0 r.1]) := by
  unfold wire_Writer_number at h
  refine ctr_of_run Tryd.func48 rfl 35 rfl rfl fun m0 w0 b0 => ?_
  show Run _ _ _ [(0, val (.pointer (some ⟨b_w, 0, none⟩))), (1, u64.slot p_x), (2, i64.slot p_bytes)] _
  refine run_seq ?_
  refine run_seq ?_
  refine run_text ?_
  refine j_pure (pj_move (has_tmp rfl)) rfl rfl rfl ?_
  refine j_pure (pj_eq_nil_val (E := 63) (by kernel_rfl) (has_tmp rfl)) rfl rfl rfl ?_
  refine j_pure (pj_move (has_tmp rfl)) rfl rfl rfl ?_
  obtain ⟨y1, e2, h⟩ := bind_some h
  refine j_joinx (ι := Unit) (Γ' := fun _ => [(0, val (.pointer (some ⟨b_w, 0, none⟩))), (1, u64.slot p_x), (2, i64.slot p_bytes), (14, bl.slot y1)]) (H' := fun _ => [box b_w 63 (prod (exv v_w0) bl) ((), p_w.2), own 5 u8 v_w0 p_w.1]) 5 ?_ fun J => ?_
  · intro _
    clear e2
    show OpsJ _ _ _ [(0, val (.pointer (some ⟨b_w, 0, none⟩))), (1, u64.slot p_x), (2, i64.slot p_bytes), (14, bl.slot y1)] [box b_w 63 (prod (exv v_w0) bl) ((), p_w.2), own 5 u8 v_w0 p_w.1] _
    refine j_end ?_
    refine run_cond (has_tmp rfl) (fun e3 => ?_) (fun e3 => ?_)
    · replace h := bt e3 h
      obtain rfl := Option.some.inj h
      exact run_ret fun a w hst => q_retN hst rfl (.nil) rfl v_w0 (fun _ _ h => h) (.cons .here <| .cons .here <| .nil)
    · replace h := bf e3 h
      refine run_skip ?_
      refine run_seq ?_
      refine run_text ?_
      refine j_pure (pj_move (has_tmp rfl)) rfl rfl rfl ?_
      refine j_pure (pj_isub (has_tmp rfl) has_i64) rfl rfl rfl ?_
      refine j_pure (pj_assign (has_tmp rfl)) rfl rfl rfl ?_
      refine j_end ?_
      obtain ⟨⟨y4, y5⟩, e7, h⟩ := bind_some h
      refine run_loopS (Γi := fun (i : Value) (s : Int × (List (BitVec 8))) => [(0, val (.pointer (some ⟨b_w, 0, none⟩))), (1, u64.slot p_x), (6, i64.slot s.1)]) (Hi := fun (i : Value) (s : Int × (List (BitVec 8))) => [box b_w 63 (prod (exv i) bl) ((), p_w.2), own 5 u8 i s.2]) e7 v_w0 (fun a w hst => (hst.sub (.cons (.of_lk rfl) <| .cons (.of_lk rfl) <| .cons (.of_lk rfl) <| .nil)).keep (.cons .here <| .cons .here <| .nil)) ?_ ?_
      · clear h e7
        rintro v1 ⟨y2, y3⟩ lr h
        change wire_Writer_number_L1 p_x y2 y3 = some _ at h
        show Run _ _ _ [(0, val (.pointer (some ⟨b_w, 0, none⟩))), (1, u64.slot p_x), (6, i64.slot y2)] [box b_w 63 (prod (exv v1) bl) ((), p_w.2), own 5 u8 v1 y3]
        unfold wire_Writer_number_L1 at h
        refine run_seq ?_
        refine run_seq ?_
        refine run_text ?_
        refine j_pure (pj_move (has_tmp rfl)) rfl rfl rfl ?_
        refine j_pure (pj_igeq (has_tmp rfl) has_i64) rfl rfl rfl ?_
        refine j_end ?_
        refine run_cond (has_tmp rfl) (fun e4 => ?_) (fun e4 => ?_)
        · replace h := bt e4 h
          refine run_skip ?_
          refine run_seq ?_
          refine run_block ?_
          obtain ⟨e5, h⟩ := grd_some h
          obtain ⟨e6, h⟩ := grd_some h
          refine run_keep (H' := [own 5 u8 v1 y3, box b_w 63 (prod (exv v1) bl) ((), p_w.2)]) (.cons (.next .here) <| .cons .here <| .nil) ?_
          refine run_drawL (n := 12) (H := [box b_w 63 (prod (exv v1) bl) ((), p_w.2)]) (Ls := [⟨[own 5 u8 v1 y3], [(11, ⟨Value, fun (v2 : Value) => [own 5 u8 v2 (y3 ++ ([(p_x >>> ((w64 ((8 : Int) * y2)).toNat)).setWidth 8]))], fun (v2 : Value) => [(32, ov v2)]⟩)]⟩]) (by kernel_rfl) (by kernel_rfl) (by kernel_rfl) (by kernel_rfl) (by kernel_rfl) rfl (.read rfl (.plain rfl (pj_move (has_tmp rfl))) <| .read rfl (.plain rfl (pj_move (has_tmp rfl))) <| .read rfl (.plain rfl (pj_nilCheck_ptr (has_tmp rfl))) <| .read rfl (.plain rfl (pj_field_ptr (off := 0) (has_tmp rfl) (by kernel_rfl))) <| .read rfl (.plain rfl (pj_load_box (has_tmp rfl) .here (Path.then (Path.all (prod (exv v1) bl)) (Path.fst (exv v1) bl)) (by kernel_rfl))) <| .read rfl (.plain rfl (pj_move (has_tmp rfl))) <| .read rfl (.plain rfl (pj_move (has_tmp rfl))) <| .read rfl (.plain rfl (pj_imul has_i64 (has_tmp rfl))) <| .read rfl (.plain rfl (pj_ushr (k := .u64) (b := 64) rfl (has_tmp rfl) (has_tmp rfl) isInt_i64 e5)) <| .read rfl (.plain rfl (pj_conv_uu (k := .u8) (b := 8) rfl rfl (by kernel_rfl) (has_tmp rfl))) <| .read rfl (.plain rfl (pj_buildSlice (T := 5) (R := u8) (.cons (has_tmp rfl) .nil) rfl (by kernel_rfl) (by kernel_rfl))) <| .step 0 rfl .here (.inl rfl) (fun i => ⟨_, _, fun j => j, (w_append (T := 5) (E := 5) (has_tmp rfl) .here (src_data (has_tmp rfl)) (by kernel_rfl) (by kernel_rfl) e6 rfl), fun _ => rfl, slotAny, dst1⟩) <| .nil) ?_
          rintro v2
          refine j_to (Γ' := [(0, val (.pointer (some ⟨b_w, 0, none⟩))), (1, u64.slot p_x), (6, i64.slot y2), (21, val (.pointer (some ⟨b_w, 0, none⟩))), (32, ov v2)]) (H' := [own 5 u8 v2 (y3 ++ ([(p_x >>> ((w64 ((8 : Int) * y2)).toNat)).setWidth 8])), box b_w 63 (prod (exv v1) bl) ((), p_w.2)]) (.cons (.of_lk rfl) <| .cons (.of_lk rfl) <| .cons (.of_lk rfl) <| .cons (.of_lk rfl) <| .cons (.of_lk rfl) <| .nil) (.cons .here <| .cons .here <| .nil) ?_
          refine j_pure (pj_nilCheck_ptr (has_tmp rfl)) rfl rfl rfl ?_
          refine j_pure (pj_field_ptr (off := 0) (has_tmp rfl) (by kernel_rfl)) rfl rfl rfl ?_
          refine j_store_exv (has_tmp rfl) (has_tmp rfl) (.next .here) (by kernel_rfl) ?_
          refine j_end ?_
          refine run_endblock ?_
          refine run_text ?_
          refine j_pure (pj_move (has_tmp rfl)) rfl rfl rfl ?_
          refine j_pure (pj_isub (has_tmp rfl) has_i64) rfl rfl rfl ?_
          refine j_pure (pj_assign (has_tmp rfl)) rfl rfl rfl ?_
          refine j_end ?_
          obtain rfl := Option.some.inj h
          exact run_next v2 (.cons (.of_lk rfl) <| .cons (.of_lk rfl) <| .cons (.of_lk rfl) <| .nil) (.cons .here <| .cons .here <| .nil)
        · replace h := bf e4 h
          obtain rfl := Option.some.inj h
          exact run_brk v1 (.cons (.of_lk rfl) <| .cons (.of_lk rfl) <| .cons (.of_lk rfl) <| .nil) (.cons .here <| .cons .here <| .nil)
      · rintro v3
        show Run _ _ _ [(0, val (.pointer (some ⟨b_w, 0, none⟩))), (1, u64.slot p_x), (6, i64.slot y4)] [box b_w 63 (prod (exv v3) bl) ((), p_w.2), own 5 u8 v3 y5]
        refine run_to (Γ' := []) (H' := [box b_w 63 (prod (exv v3) bl) ((), p_w.2), own 5 u8 v3 y5]) (.nil) (.cons .here <| .cons .here <| .nil) ?_
        obtain rfl := Option.some.inj h
        exact run_nil fun a w hst => q_retN_n hst rfl (.nil) rfl v3 (fun _ _ h => h) (.cons .here <| .cons .here <| .nil)
  · have e1 : (false) = false := rfl
    refine j_pure_y (pj_move (has_tmp rfl)) rfl rfl rfl rfl (bl_isx e1) rfl rfl ?_
    refine j_pure_y (pj_nilCheck_ptr (has_tmp rfl)) rfl rfl rfl rfl (bl_isx e1) rfl rfl ?_
    refine j_pure_y (pj_field_ptr (off := 1) (has_tmp rfl) (by kernel_rfl)) rfl rfl rfl rfl (bl_isx e1) rfl rfl ?_
    refine j_pure_y (pj_load_box (has_tmp rfl) .here (Path.then (Path.all (prod (exv v_w0) bl)) (Path.snd (exv v_w0) bl)) (by kernel_rfl)) rfl rfl rfl rfl (bl_isx e1) rfl rfl ?_
    refine j_pure (PJ.eqv (R := bl) (pj_pick (t := any) (has_tmp rfl) (fun he => absurd (e1.symm.trans he) (by decide)) (fun _ => (has_tmp rfl))) (Option.some.inj e2)) rfl rfl rfl ?_
    exact j_to (.cons (.of_lk rfl) <| .cons (.of_lk rfl) <| .cons (.of_lk rfl) <| .cons (.of_lk rfl) <| .nil) (.cons .here <| .cons .here <| .nil) (J ())
set_option maxRecDepth 100000 in
set_option maxHeartbeats 4000000 in
theorem c_wire_Writer_U32 {G : GP} {p_w : (List (BitVec 8)) × Bool} {p_x : BitVec 32} {b_w : Nat} {v_w0 : Value} {r : ((List (BitVec 8)) × Bool)} (h : wire_Writer_U32 p_w p_x = some r) : Ctr Tryd.prog G 26 [val (.pointer (some ⟨b_w, 0, none⟩)), u32.slot p_x] [box b_w 63 (prod (exv v_w0) bl) ((), p_w.2), own 5 u8 v_w0 p_w.1] (fun (u0 : Value) => tup []) (fun (u0 : Value) => [box b_w 63 (prod (exv u0) bl) ((), r.2), own 5 u8 u0 r.1]) := by
  unfold wire_Writer_U32 at h
  refine ctr_of_run Tryd.func26 rfl 8 rfl rfl fun m0 w0 b0 => ?_
  show Run _ _ _ [(0, val (.pointer (some ⟨b_w, 0, none⟩))), (1, u32.slot p_x)] _
  refine run_text ?_
  refine j_pure (pj_move (has_tmp rfl)) rfl rfl rfl ?_
  refine j_pure (pj_move (has_tmp rfl)) rfl rfl rfl ?_
  refine j_pure (pj_conv_uu (k := .u64) (b := 64) rfl rfl (by kernel_rfl) (has_tmp rfl)) rfl rfl rfl ?_
  obtain ⟨r1, e1, h⟩ := bind_some h
  refine j_call (hasL_cons (has_tmp rfl) <| hasL_cons (has_tmp rfl) <| hasL_cons has_i64 <| hasL_nil) (by kernel_rfl) (c_wire_Writer_number e1) (.cons .here <| .cons .here <| .nil) rfl fun v1 => ?_
  refine j_end ?_
  obtain rfl := Option.some.inj h
  exact run_nil fun a w hst => q_retN_n hst rfl (.nil) rfl v1 (fun _ _ h => h) (.cons .here <| .cons .here <| .nil)
set_option maxRecDepth 100000 in
set_option maxHeartbeats 4000000 in
theorem c_wire_Writer_Plain {G : GP} {p_w : (List (BitVec 8)) × Bool} {p_b : List (BitVec 8)} {b_w : Nat} {v_w0 : Value} {r : ((List (BitVec 8)) × Bool)} (h : wire_Writer_Plain p_w p_b = some r) : Ctr Tryd.prog G 27 [val (.pointer (some ⟨b_w, 0, none⟩)), (sl u8).slot p_b] [box b_w 63 (prod (exv v_w0) bl) ((), p_w.2), own 5 u8 v_w0 p_w.1] (fun (u0 : Value) => tup []) (fun (u0 : Value) => [box b_w 63 (prod (exv u0) bl) ((), r.2), own 5 u8 u0 r.1]) := by
  unfold wire_Writer_Plain at h
  refine ctr_of_run Tryd.func27 rfl 22 rfl rfl fun m0 w0 b0 => ?_
  show Run _ _ _ [(0, val (.pointer (some ⟨b_w, 0, none⟩))), (1, (sl u8).slot p_b)] _
  refine run_seq ?_
  refine run_text ?_
  refine j_pure (pj_move (has_tmp rfl)) rfl rfl rfl ?_
  refine j_pure (pj_ne_nil_val (E := 63) (by kernel_rfl) (has_tmp rfl)) rfl rfl rfl ?_
  refine j_pure (pj_move (has_tmp rfl)) rfl rfl rfl ?_
  obtain ⟨y1, e2, h⟩ := bind_some h
  refine j_joinx (ι := Unit) (Γ' := fun _ => [(0, val (.pointer (some ⟨b_w, 0, none⟩))), (1, (sl u8).slot p_b), (12, bl.slot y1)]) (H' := fun _ => [box b_w 63 (prod (exv v_w0) bl) ((), p_w.2), own 5 u8 v_w0 p_w.1]) 6 ?_ fun J => ?_
  · intro _
    clear e2
    show OpsJ _ _ _ [(0, val (.pointer (some ⟨b_w, 0, none⟩))), (1, (sl u8).slot p_b), (12, bl.slot y1)] [box b_w 63 (prod (exv v_w0) bl) ((), p_w.2), own 5 u8 v_w0 p_w.1] _
    refine j_end ?_
    refine run_cond (has_tmp rfl) (fun e3 => ?_) (fun e3 => ?_)
    · replace h := bt e3 h
      refine run_text ?_
      refine j_pure (pj_move (has_tmp rfl)) rfl rfl rfl ?_
      refine j_pure (pj_move (has_tmp rfl)) rfl rfl rfl ?_
      refine j_pure (pj_nilCheck_ptr (has_tmp rfl)) rfl rfl rfl ?_
      refine j_pure (pj_field_ptr (off := 0) (has_tmp rfl) (by kernel_rfl)) rfl rfl rfl ?_
      refine j_pure (pj_load_box (has_tmp rfl) .here (Path.then (Path.all (prod (exv v_w0) bl)) (Path.fst (exv v_w0) bl)) (by kernel_rfl)) rfl rfl rfl ?_
      refine j_pure (pj_move (has_tmp rfl)) rfl rfl rfl ?_
      obtain ⟨e4, h⟩ := grd_some h
      refine j_append (T := 5) (E := 5) (has_tmp rfl) (.next .here) (src_data (has_tmp rfl)) (by kernel_rfl) (by kernel_rfl) e4 rfl fun v1 => ?_
      refine j_pure (pj_nilCheck_ptr (has_tmp rfl)) rfl rfl rfl ?_
      refine j_pure (pj_field_ptr (off := 0) (has_tmp rfl) (by kernel_rfl)) rfl rfl rfl ?_
      refine j_store_exv (has_tmp rfl) (has_tmp rfl) (.next .here) (by kernel_rfl) ?_
      refine j_end ?_
      obtain rfl := Option.some.inj h
      exact run_nil fun a w hst => q_retN_n hst rfl (.nil) rfl v1 (fun _ _ h => h) (.cons .here <| .cons .here <| .nil)
    · replace h := bf e3 h
      refine run_skip ?_
      obtain rfl := Option.some.inj h
      exact run_nil fun a w hst => q_retN_n hst rfl (.nil) rfl v_w0 (fun _ _ h => h) (.cons .here <| .cons .here <| .nil)
  · have e1 : (true) = true := rfl
    refine j_pure_y (pj_move (has_tmp rfl)) rfl rfl rfl rfl (bl_isx e1) rfl rfl ?_
    refine j_pure_y (pj_nilCheck_ptr (has_tmp rfl)) rfl rfl rfl rfl (bl_isx e1) rfl rfl ?_
    refine j_pure_y (pj_field_ptr (off := 1) (has_tmp rfl) (by kernel_rfl)) rfl rfl rfl rfl (bl_isx e1) rfl rfl ?_
    refine j_pure_y (pj_load_box (has_tmp rfl) .here (Path.then (Path.all (prod (exv v_w0) bl)) (Path.snd (exv v_w0) bl)) (by kernel_rfl)) rfl rfl rfl rfl (bl_isx e1) rfl rfl ?_
    refine j_pure_y (pj_not (has_tmp rfl)) rfl rfl rfl rfl (bl_isx e1) rfl rfl ?_
    refine j_pure (PJ.eqv (R := bl) (pj_pick (t := any) (has_tmp rfl) (fun _ => (has_tmp rfl)) (fun he => absurd (e1.symm.trans he) (by decide))) (Option.some.inj e2)) rfl rfl rfl ?_
    exact j_to (.cons (.of_lk rfl) <| .cons (.of_lk rfl) <| .cons (.of_lk rfl) <| .nil) (.cons .here <| .cons .here <| .nil) (J ())
set_option maxRecDepth 100000 in
set_option maxHeartbeats 4000000 in
theorem c_slices_Clone_byte_byte {G : GP} {p_s : List (BitVec 8)} {r : (List (BitVec 8))} (h : slices_Clone_byte_byte p_s = some r) : Ctr Tryd.prog G 40 [(sl u8).slot p_s] [] (fun (u0 : Value) => ov u0) (fun (u0 : Value) => [own 5 u8 u0 r]) := by
  unfold slices_Clone_byte_byte at h
  refine ctr_of_run Tryd.func40 rfl 8 rfl rfl fun m0 w0 b0 => ?_
  show Run _ _ _ [(0, (sl u8).slot p_s)] _
  refine run_seq ?_
  refine run_text ?_
  refine j_assign_nil (T := 5) u8 rfl fun v1 => ?_
  refine j_end ?_
  refine run_seq ?_
  refine run_seq ?_
  refine run_text ?_
  refine j_pure (pj_move (has_tmp rfl)) rfl rfl rfl ?_
  refine j_pure (pj_isnil (E := 5) (by kernel_rfl) (has_tmp rfl)) rfl rfl rfl ?_
  refine j_end ?_
  refine run_cond_nil (has_tmp rfl) (fun e0 => ?_) ?_
  · subst e0
    obtain ⟨e1, h⟩ := grd_some h
    obtain rfl := Option.some.inj h
    refine run_seq ?_
    refine run_text ?_
    refine j_assign_nil (T := 5) u8 rfl fun v2 => ?_
    refine j_end ?_
    exact run_ret fun a w hst => q_ret1 hst rfl (.tmp rfl) v2 (fun _ _ h => h) (.cons .here <| .nil)
  refine run_skip ?_
  refine run_seq ?_
  refine run_text ?_
  refine j_buildSlice (T := 5) (R := u8) .nil rfl (by kernel_rfl) (by kernel_rfl) rfl fun v2 => ?_
  refine j_pure (pj_move (has_tmp rfl)) rfl rfl rfl ?_
  obtain ⟨e1, h⟩ := grd_some h
  refine j_append (T := 5) (E := 5) (has_tmp rfl) .here (src_data (has_tmp rfl)) (by kernel_rfl) (by kernel_rfl) e1 rfl fun v3 => ?_
  refine j_pure (pj_assign (has_tmp rfl)) rfl rfl rfl ?_
  refine j_end ?_
  obtain rfl := Option.some.inj h
  exact run_ret fun a w hst => q_ret1 hst rfl (.tmp rfl) v3 (fun _ _ h => h) (.cons .here <| .nil)
set_option maxRecDepth 100000 in
set_option maxHeartbeats 4000000 in
theorem c_wire_Writer_Out {G : GP} {p_w : (List (BitVec 8)) × Bool} {b_w : Nat} {v_w0 : Value} {r : ((List (BitVec 8)) × Bool) × (List (BitVec 8)) × Int} (h : wire_Writer_Out p_w = some r) : Ctr Tryd.prog G 28 [val (.pointer (some ⟨b_w, 0, none⟩))] [box b_w 63 (prod (exv v_w0) bl) ((), p_w.2), own 5 u8 v_w0 p_w.1] (fun (i : Value × Value) => tup [ov i.2, i64.slot r.2.2]) (fun (i : Value × Value) => [box b_w 63 (prod (exv i.1) bl) ((), r.1.2), own 5 u8 i.1 r.1.1, own 5 u8 i.2 r.2.1]) := by
  unfold wire_Writer_Out at h
  refine ctr_of_run Tryd.func28 rfl 17 rfl rfl fun m0 w0 b0 => ?_
  show Run _ _ _ [(0, val (.pointer (some ⟨b_w, 0, none⟩)))] _
  refine run_seq ?_
  refine run_text ?_
  refine j_assign_nil (T := 5) u8 rfl fun v1 => ?_
  refine j_pure (pj_assign has_i64) rfl rfl rfl ?_
  refine j_end ?_
  refine run_seq ?_
  refine run_block ?_
  refine run_seq ?_
  refine run_text ?_
  refine j_pure (pj_move (has_tmp rfl)) rfl rfl rfl ?_
  refine j_pure (pj_eq_nil_val (E := 63) (by kernel_rfl) (has_tmp rfl)) rfl rfl rfl ?_
  refine j_pure (pj_assign (has_tmp rfl)) rfl rfl rfl ?_
  refine j_end ?_
  refine run_cond_f (has_tmp rfl) rfl ?_
  refine run_seq ?_
  refine run_text ?_
  refine j_pure (pj_move (has_tmp rfl)) rfl rfl rfl ?_
  refine j_pure (pj_nilCheck_ptr (has_tmp rfl)) rfl rfl rfl ?_
  refine j_pure (pj_field_ptr (off := 1) (has_tmp rfl) (by kernel_rfl)) rfl rfl rfl ?_
  refine j_pure (pj_load_box (has_tmp rfl) (.next .here) (Path.then (Path.all (prod (exv v_w0) bl)) (Path.snd (exv v_w0) bl)) (by kernel_rfl)) rfl rfl rfl ?_
  refine j_pure (pj_assign (has_tmp rfl)) rfl rfl rfl ?_
  refine j_end ?_
  refine run_cond (has_tmp rfl) (fun e2 => ?_) (fun e2 => ?_)
  · replace h := bt e2 h
    refine run_seq ?_
    refine run_text ?_
    refine j_assign_nil (T := 5) u8 rfl fun v2 => ?_
    refine j_pure (pj_assign has_i64) rfl rfl rfl ?_
    refine j_end ?_
    obtain rfl := Option.some.inj h
    exact run_ret fun a w hst => q_retN hst rfl (.cons (.tmp rfl) <| .cons (.tmp rfl) <| .nil) rfl (v_w0, v2) (fun _ _ h => h) (.cons (.next (.next .here)) <| .cons (.next (.next .here)) <| .cons .here <| .nil)
  · replace h := bf e2 h
    refine run_skip ?_
    refine run_endblock ?_
    refine run_seq ?_
    refine run_text ?_
    refine j_pure (pj_move (has_tmp rfl)) rfl rfl rfl ?_
    refine j_pure (pj_nilCheck_ptr (has_tmp rfl)) rfl rfl rfl ?_
    refine j_pure (pj_field_ptr (off := 0) (has_tmp rfl) (by kernel_rfl)) rfl rfl rfl ?_
    refine j_pure (pj_load_box (has_tmp rfl) (.next .here) (Path.then (Path.all (prod (exv v_w0) bl)) (Path.fst (exv v_w0) bl)) (by kernel_rfl)) rfl rfl rfl ?_
    obtain ⟨r1, e3, h⟩ := bind_some h
    refine j_callB (hasBL_cons (hasB_own (has_tmp rfl) (.next (.next .here))) <| hasBL_nil) (by kernel_rfl) (c_slices_Clone_byte_byte e3) (fun i => Rep.flat_slot (flat_exv i) _) (fun i e he => by rw [List.mem_singleton.1 he]; exact own_flat (flat_un _ _) _ _) rfl fun v3 => ?_
    refine j_pure (pj_assign (has_tmp rfl)) rfl rfl rfl ?_
    refine j_pure (pj_assign has_i64) rfl rfl rfl ?_
    refine j_end ?_
    obtain rfl := Option.some.inj h
    exact run_ret fun a w hst => q_retN hst rfl (.cons (.tmp rfl) <| .cons (.tmp rfl) <| .nil) rfl (v_w0, v3) (fun _ _ h => h) (.cons (.next (.next .here)) <| .cons (.next (.next .here)) <| .cons .here <| .nil)
set_option maxRecDepth 100000 in
set_option maxHeartbeats 4000000 in
theorem c_head_Encode {G : GP} {p_h : T_head_Head} {r : (List (BitVec 8)) × Int} (h : head_Encode p_h = some r) : Ctr Tryd.prog G 7 [R_head_Head.slot p_h] [] (fun (u0 : Value) => tup [ov u0, i64.slot r.2]) (fun (u0 : Value) => [own 5 u8 u0 r.1]) := by
  unfold head_Encode at h
  refine ctr_of_run Tryd.func7 rfl 32 rfl rfl fun m0 w0 b0 => ?_
  show Run _ _ _ [(0, R_head_Head.slot p_h)] _
  refine run_seq ?_
  refine run_text ?_
  refine j_pure (pj_box_to (has_tmp rfl)) rfl rfl rfl ?_
  refine j_assign_nil (T := 5) u8 rfl fun v1 => ?_
  refine j_pure (pj_assign has_i64) rfl rfl rfl ?_
  refine j_end ?_
  refine run_seq ?_
  refine run_seq ?_
  refine run_text ?_
  refine j_pure (pj_load_to (has_tmp rfl) (by kernel_rfl)) rfl rfl rfl ?_
  obtain ⟨r1, e1, h⟩ := bind_some h
  refine j_pure (pj_call (hasL_cons (has_tmp rfl) <| hasL_nil) (by kernel_rfl) (c_head_Head_is e1)) rfl rfl rfl ?_
  refine j_pure (pj_not (has_tmp rfl)) rfl rfl rfl ?_
  refine j_end ?_
  refine run_cond (has_tmp rfl) (fun e2 => ?_) (fun e2 => ?_)
  · replace h := bt e2 h
    refine run_seq ?_
    refine run_text ?_
    refine j_assign_nil (T := 5) u8 rfl fun v2 => ?_
    refine j_pure (pj_assign has_i64) rfl rfl rfl ?_
    refine j_end ?_
    obtain rfl := Option.some.inj h
    exact run_ret fun a w hst => q_retN hst rfl (.cons (.tmp rfl) <| .cons (.tmp rfl) <| .nil) rfl v2 (fun _ _ h => h) (.cons .here <| .nil)
  · replace h := bf e2 h
    refine run_skip ?_
    refine run_seq ?_
    refine run_text ?_
    refine j_pure (pj_build (R := prod (exv (.slice none 0 0)) bl) (zero_prod zero_exv zero_bl) (by kernel_rfl) (by kernel_rfl) rfl .nil) rfl rfl rfl ?_
    refine j_box_w (T1 := 5) u8 (has_tmp rfl) rfl fun b1 v3 => ?_
    refine j_pure (pj_assign (has_tmp rfl)) rfl rfl rfl ?_
    refine j_end ?_
    refine run_seq ?_
    refine run_text ?_
    refine j_pure (pj_move (has_tmp rfl)) rfl rfl rfl ?_
    refine j_pure (pj_field_to (has_tmp rfl) (Path.fst i64 (prod i64 (prod R_api_Hash R_api_Hash))) (by kernel_rfl)) rfl rfl rfl ?_
    refine j_pure (pj_load_to (has_tmp rfl) (by kernel_rfl)) rfl rfl rfl ?_
    refine j_pure (pj_conv_un (k := .u32) (b := 32) rfl rfl (by kernel_rfl) (has_tmp rfl) isInt_i64) rfl rfl rfl ?_
    obtain ⟨r2, e3, h⟩ := bind_some h
    refine j_call (hasL_cons (has_tmp rfl) <| hasL_cons (has_tmp rfl) <| hasL_nil) (by kernel_rfl) (c_wire_Writer_U32 e3) (.cons (.next .here) <| .cons .here <| .nil) rfl fun v4 => ?_
    refine j_end ?_
    refine run_seq ?_
    refine run_text ?_
    refine j_pure (pj_move (has_tmp rfl)) rfl rfl rfl ?_
    refine j_pure (pj_field_to (has_tmp rfl) (Path.then (Path.snd i64 (prod i64 (prod R_api_Hash R_api_Hash))) (Path.fst i64 (prod R_api_Hash R_api_Hash))) (by kernel_rfl)) rfl rfl rfl ?_
    refine j_pure (pj_load_to (has_tmp rfl) (by kernel_rfl)) rfl rfl rfl ?_
    refine j_pure (pj_conv_un (k := .u32) (b := 32) rfl rfl (by kernel_rfl) (has_tmp rfl) isInt_i64) rfl rfl rfl ?_
    obtain ⟨r3, e4, h⟩ := bind_some h
    refine j_call (hasL_cons (has_tmp rfl) <| hasL_cons (has_tmp rfl) <| hasL_nil) (by kernel_rfl) (c_wire_Writer_U32 e4) (.cons .here <| .cons .here <| .nil) rfl fun v5 => ?_
    refine j_end ?_
    refine run_seq ?_
    refine run_text ?_
    refine j_pure (pj_move (has_tmp rfl)) rfl rfl rfl ?_
    refine j_pure (pj_field_to (has_tmp rfl) (Path.then (Path.snd i64 (prod i64 (prod R_api_Hash R_api_Hash))) (Path.then (Path.snd i64 (prod R_api_Hash R_api_Hash)) (Path.fst R_api_Hash R_api_Hash))) (by kernel_rfl)) rfl rfl rfl ?_
    refine j_pure (pj_slice_toF (has_tmp rfl) (by decide) (by kernel_rfl)) rfl rfl rfl ?_
    obtain ⟨r4, e5, h⟩ := bind_some h
    refine j_call (hasL_cons (has_tmp rfl) <| hasL_cons (has_tmp rfl) <| hasL_nil) (by kernel_rfl) (c_wire_Writer_Plain e5) (.cons .here <| .cons .here <| .nil) rfl fun v6 => ?_
    refine j_end ?_
    refine run_seq ?_
    refine run_text ?_
    refine j_pure (pj_move (has_tmp rfl)) rfl rfl rfl ?_
    refine j_pure (pj_field_to (has_tmp rfl) (Path.then (Path.snd i64 (prod i64 (prod R_api_Hash R_api_Hash))) (Path.then (Path.snd i64 (prod R_api_Hash R_api_Hash)) (Path.snd R_api_Hash R_api_Hash))) (by kernel_rfl)) rfl rfl rfl ?_
    refine j_pure (pj_slice_toF (has_tmp rfl) (by decide) (by kernel_rfl)) rfl rfl rfl ?_
    obtain ⟨r5, e6, h⟩ := bind_some h
    refine j_call (hasL_cons (has_tmp rfl) <| hasL_cons (has_tmp rfl) <| hasL_nil) (by kernel_rfl) (c_wire_Writer_Plain e6) (.cons .here <| .cons .here <| .nil) rfl fun v7 => ?_
    refine j_end ?_
    refine run_seq ?_
    refine run_text ?_
    refine j_pure (pj_move (has_tmp rfl)) rfl rfl rfl ?_
    obtain ⟨r6, e7, h⟩ := bind_some h
    refine j_call (hasL_cons (has_tmp rfl) <| hasL_nil) (by kernel_rfl) (c_wire_Writer_Out e7) (.cons .here <| .cons .here <| .nil) rfl fun ⟨v8, v9⟩ => ?_
    refine j_pure (pj_extract (has_tmp rfl) rfl) rfl rfl rfl ?_
    refine j_pure (pj_extract (has_tmp rfl) rfl) rfl rfl rfl ?_
    refine j_pure (pj_assign (has_tmp rfl)) rfl rfl rfl ?_
    refine j_pure (pj_assign (has_tmp rfl)) rfl rfl rfl ?_
    refine j_end ?_
    obtain rfl := Option.some.inj h
    exact run_ret fun a w hst => q_retN hst rfl (.cons (.tmp rfl) <| .cons (.tmp rfl) <| .nil) rfl v9 (fun _ _ h => h) (.cons (.next (.next .here)) <| .nil)
set_option maxRecDepth 100000 in
set_option maxHeartbeats 4000000 in
theorem c_rolodexlaw17_awake {G : GP} {r : Bool} (h : rolodexlaw17_awake = some r) : Ctr Tryd.prog G 6 [] [] (fun (_ : Unit) => bl.slot r) (fun (_ : Unit) => []) := by
  unfold rolodexlaw17_awake at h
  refine ctr_of_run Tryd.func6 rfl 15 rfl rfl fun m0 w0 b0 => ?_
  show Run _ _ _ [] _
  refine run_seq ?_
  refine run_text ?_
  refine j_pure (pj_assign has_bl) rfl rfl rfl ?_
  refine j_end ?_
  refine run_seq ?_
  refine run_text ?_
  obtain ⟨x1, e1, h⟩ := bind_some h
  refine j_pure (PJ.eqv (pj_build (R := R_head_Head) (zero_prod zero_i64 (zero_prod zero_i64 (zero_prod (zero_vec 32 zero_un) (zero_vec 32 zero_un)))) (by kernel_rfl) (by kernel_rfl) rfl (.cons has_i64 (Path.fst i64 (prod i64 (prod R_api_Hash R_api_Hash))) (by kernel_rfl) (.cons has_i64 (Path.then (Path.snd i64 (prod i64 (prod R_api_Hash R_api_Hash))) (Path.fst i64 (prod R_api_Hash R_api_Hash))) (by kernel_rfl) .nil))) (Option.some.inj e1)) rfl rfl rfl ?_
  obtain ⟨r1, e2, h⟩ := bind_some h
  refine j_pure (pj_call (hasL_cons (has_tmp rfl) <| hasL_nil) (by kernel_rfl) (Ctr.froze2 (c_head_Encode e2))) rfl rfl rfl ?_
  refine j_pure (pj_move (has_tmp rfl)) rfl rfl rfl ?_
  refine j_pure (pj_extract (has_tmp rfl) rfl) rfl rfl rfl ?_
  refine j_pure (pj_extract (has_tmp rfl) rfl) rfl rfl rfl ?_
  refine j_pure (pj_assign (has_tmp rfl)) rfl rfl rfl ?_
  refine j_pure (pj_assign (has_tmp rfl)) rfl rfl rfl ?_
  refine j_end ?_
  refine run_seq ?_
  refine run_text ?_
  refine j_pure (pj_move (has_tmp rfl)) rfl rfl rfl ?_
  refine j_pure (pj_ieql (has_tmp rfl) has_i64) rfl rfl rfl ?_
  refine j_pure (pj_move (has_tmp rfl)) rfl rfl rfl ?_
  obtain ⟨y1, e4, h⟩ := bind_some h
  refine j_joinx (ι := Unit) (Γ' := fun _ => [(14, bl.slot y1)]) (H' := fun _ => []) 4 ?_ fun J => ?_
  · intro _
    clear e4
    show OpsJ _ _ _ [(14, bl.slot y1)] [] _
    refine j_pure (pj_assign (has_tmp rfl)) rfl rfl rfl ?_
    refine j_end ?_
    obtain rfl := Option.some.inj h
    exact run_ret fun a w hst => q_ret1 hst rfl (.tmp rfl) () (fun _ _ h => h) (.nil)
  · rcases bool_tf (decide (r1.2 = (0 : Int))) with e3 | e3
    · replace e4 := bt e3 e4
      refine j_pure_y (pj_move (has_tmp rfl)) rfl rfl rfl rfl (bl_isx e3) rfl rfl ?_
      refine j_pure_y (pj_len_sl (sz := 1) (has_tmp rfl) (by kernel_rfl)) rfl rfl rfl rfl (bl_isx e3) rfl rfl ?_
      refine j_pure_y (pj_ieql (has_tmp rfl) has_i64) rfl rfl rfl rfl (bl_isx e3) rfl rfl ?_
      refine j_pure (PJ.eqv (R := bl) (pj_pick (t := any) (has_tmp rfl) (fun _ => (has_tmp rfl)) (fun he => absurd (e3.symm.trans he) (by decide))) (Option.some.inj e4)) rfl rfl rfl ?_
      exact j_to (.cons (.of_lk rfl) <| .nil) (.nil) (J ())
    · replace e4 := bf e3 e4
      refine j_guard_no2 (j := 2) (want := true) rfl rfl rfl rfl (bl_isx e3) rfl rfl rfl ?_
      refine j_guard_no2 (j := 2) (want := true) rfl rfl rfl rfl (bl_isx e3) rfl rfl rfl ?_
      refine j_guard_no2 (j := 2) (want := true) rfl rfl rfl rfl (bl_isx e3) rfl rfl rfl ?_
      refine j_pure (PJ.eqv (R := bl) (pj_pick (t := any) (has_tmp rfl) (fun he => absurd (e3.symm.trans he) (by decide)) (fun _ => has_bl)) (Option.some.inj e4)) rfl rfl rfl ?_
      exact j_to (.cons (.of_lk rfl) <| .nil) (.nil) (J ())
set_option maxRecDepth 100000 in
set_option maxHeartbeats 4000000 in
theorem c_rolodexref17_Is {G : GP} {p_h : T_rolodexref17_Head} {r : Bool} (h : rolodexref17_Is p_h = some r) : Ctr Tryd.prog G 17 [R_rolodexref17_Head.slot p_h] [] (fun (_ : Unit) => bl.slot r) (fun (_ : Unit) => []) := by
  unfold rolodexref17_Is at h
  refine ctr_of_run Tryd.func17 rfl 21 rfl rfl fun m0 w0 b0 => ?_
  show Run _ _ _ [(0, R_rolodexref17_Head.slot p_h)] _
  refine run_seq ?_
  refine run_text ?_
  refine j_pure (pj_box_to (has_tmp rfl)) rfl rfl rfl ?_
  refine j_pure (pj_assign has_bl) rfl rfl rfl ?_
  refine j_end ?_
  refine run_seq ?_
  refine run_text ?_
  refine j_pure (pj_field_to (has_tmp rfl) (Path.fst i64 (prod i64 (prod R_api_Hash R_api_Hash))) (by kernel_rfl)) rfl rfl rfl ?_
  refine j_pure (pj_load_to (has_tmp rfl) (by kernel_rfl)) rfl rfl rfl ?_
  refine j_pure (pj_igeq (has_tmp rfl) has_i64) rfl rfl rfl ?_
  refine j_pure (pj_move (has_tmp rfl)) rfl rfl rfl ?_
  obtain ⟨y1, e2, h⟩ := bind_some h
  refine j_joinx (ι := Unit) (Γ' := fun _ => [(1, ptrTo R_rolodexref17_Head p_h), (10, bl.slot y1)]) (H' := fun _ => []) 4 ?_ fun J => ?_
  · intro _
    clear e2
    show OpsJ _ _ _ [(1, ptrTo R_rolodexref17_Head p_h), (10, bl.slot y1)] [] _
    refine j_pure (pj_move (has_tmp rfl)) rfl rfl rfl ?_
    obtain ⟨y2, e4, h⟩ := bind_some h
    refine j_joinx (ι := Unit) (Γ' := fun _ => [(1, ptrTo R_rolodexref17_Head p_h), (15, bl.slot y2)]) (H' := fun _ => []) 4 ?_ fun J => ?_
    · intro _
      clear e4
      show OpsJ _ _ _ [(1, ptrTo R_rolodexref17_Head p_h), (15, bl.slot y2)] [] _
      refine j_pure (pj_move (has_tmp rfl)) rfl rfl rfl ?_
      obtain ⟨y3, e6, h⟩ := bind_some h
      refine j_joinx (ι := Unit) (Γ' := fun _ => [(20, bl.slot y3)]) (H' := fun _ => []) 4 ?_ fun J => ?_
      · intro _
        clear e6
        show OpsJ _ _ _ [(20, bl.slot y3)] [] _
        refine j_pure (pj_assign (has_tmp rfl)) rfl rfl rfl ?_
        refine j_end ?_
        obtain rfl := Option.some.inj h
        exact run_ret fun a w hst => q_ret1 hst rfl (.tmp rfl) () (fun _ _ h => h) (.nil)
      · rcases bool_tf (y2) with e5 | e5
        · replace e6 := bt e5 e6
          refine j_pure_y (pj_field_to (has_tmp rfl) (Path.then (Path.snd i64 (prod i64 (prod R_api_Hash R_api_Hash))) (Path.fst i64 (prod R_api_Hash R_api_Hash))) (by kernel_rfl)) rfl rfl rfl rfl (bl_isx e5) rfl rfl ?_
          refine j_pure_y (pj_load_to (has_tmp rfl) (by kernel_rfl)) rfl rfl rfl rfl (bl_isx e5) rfl rfl ?_
          refine j_pure_y (pj_ileq (has_tmp rfl) has_i64) rfl rfl rfl rfl (bl_isx e5) rfl rfl ?_
          refine j_pure (PJ.eqv (R := bl) (pj_pick (t := any) (has_tmp rfl) (fun _ => (has_tmp rfl)) (fun he => absurd (e5.symm.trans he) (by decide))) (Option.some.inj e6)) rfl rfl rfl ?_
          exact j_to (.cons (.of_lk rfl) <| .nil) (.nil) (J ())
        · replace e6 := bf e5 e6
          refine j_guard_no2 (j := 13) (want := true) rfl rfl rfl rfl (bl_isx e5) rfl rfl rfl ?_
          refine j_guard_no2 (j := 13) (want := true) rfl rfl rfl rfl (bl_isx e5) rfl rfl rfl ?_
          refine j_guard_no2 (j := 13) (want := true) rfl rfl rfl rfl (bl_isx e5) rfl rfl rfl ?_
          refine j_pure (PJ.eqv (R := bl) (pj_pick (t := any) (has_tmp rfl) (fun he => absurd (e5.symm.trans he) (by decide)) (fun _ => has_bl)) (Option.some.inj e6)) rfl rfl rfl ?_
          exact j_to (.cons (.of_lk rfl) <| .nil) (.nil) (J ())
    · rcases bool_tf (y1) with e3 | e3
      · replace e4 := bt e3 e4
        refine j_pure_y (pj_field_to (has_tmp rfl) (Path.then (Path.snd i64 (prod i64 (prod R_api_Hash R_api_Hash))) (Path.fst i64 (prod R_api_Hash R_api_Hash))) (by kernel_rfl)) rfl rfl rfl rfl (bl_isx e3) rfl rfl ?_
        refine j_pure_y (pj_load_to (has_tmp rfl) (by kernel_rfl)) rfl rfl rfl rfl (bl_isx e3) rfl rfl ?_
        refine j_pure_y (pj_igeq (has_tmp rfl) has_i64) rfl rfl rfl rfl (bl_isx e3) rfl rfl ?_
        refine j_pure (PJ.eqv (R := bl) (pj_pick (t := any) (has_tmp rfl) (fun _ => (has_tmp rfl)) (fun he => absurd (e3.symm.trans he) (by decide))) (Option.some.inj e4)) rfl rfl rfl ?_
        exact j_to (.cons (.of_lk rfl) <| .cons (.of_lk rfl) <| .nil) (.nil) (J ())
      · replace e4 := bf e3 e4
        refine j_guard_no2 (j := 8) (want := true) rfl rfl rfl rfl (bl_isx e3) rfl rfl rfl ?_
        refine j_guard_no2 (j := 8) (want := true) rfl rfl rfl rfl (bl_isx e3) rfl rfl rfl ?_
        refine j_guard_no2 (j := 8) (want := true) rfl rfl rfl rfl (bl_isx e3) rfl rfl rfl ?_
        refine j_pure (PJ.eqv (R := bl) (pj_pick (t := any) (has_tmp rfl) (fun he => absurd (e3.symm.trans he) (by decide)) (fun _ => has_bl)) (Option.some.inj e4)) rfl rfl rfl ?_
        exact j_to (.cons (.of_lk rfl) <| .cons (.of_lk rfl) <| .nil) (.nil) (J ())
  · rcases bool_tf (decide ((1 : Int) ≤ p_h.1)) with e1 | e1
    · replace e2 := bt e1 e2
      refine j_pure_y (pj_field_to (has_tmp rfl) (Path.fst i64 (prod i64 (prod R_api_Hash R_api_Hash))) (by kernel_rfl)) rfl rfl rfl rfl (bl_isx e1) rfl rfl ?_
      refine j_pure_y (pj_load_to (has_tmp rfl) (by kernel_rfl)) rfl rfl rfl rfl (bl_isx e1) rfl rfl ?_
      refine j_pure_y (pj_ileq (has_tmp rfl) has_i64) rfl rfl rfl rfl (bl_isx e1) rfl rfl ?_
      refine j_pure (PJ.eqv (R := bl) (pj_pick (t := any) (has_tmp rfl) (fun _ => (has_tmp rfl)) (fun he => absurd (e1.symm.trans he) (by decide))) (Option.some.inj e2)) rfl rfl rfl ?_
      exact j_to (.cons (.of_lk rfl) <| .cons (.of_lk rfl) <| .nil) (.nil) (J ())
    · replace e2 := bf e1 e2
      refine j_guard_no2 (j := 3) (want := true) rfl rfl rfl rfl (bl_isx e1) rfl rfl rfl ?_
      refine j_guard_no2 (j := 3) (want := true) rfl rfl rfl rfl (bl_isx e1) rfl rfl rfl ?_
      refine j_guard_no2 (j := 3) (want := true) rfl rfl rfl rfl (bl_isx e1) rfl rfl rfl ?_
      refine j_pure (PJ.eqv (R := bl) (pj_pick (t := any) (has_tmp rfl) (fun he => absurd (e1.symm.trans he) (by decide)) (fun _ => has_bl)) (Option.some.inj e2)) rfl rfl rfl ?_
      exact j_to (.cons (.of_lk rfl) <| .cons (.of_lk rfl) <| .nil) (.nil) (J ())
set_option maxRecDepth 100000 in
set_option maxHeartbeats 4000000 in
theorem c_rolodexref01_Number {G : GP} {p_x : BitVec 64} {p_bytes : Int} {r : (List (BitVec 8))} (h : rolodexref01_Number p_x p_bytes = some r) : Ctr Tryd.prog G 29 [u64.slot p_x, i64.slot p_bytes] [] (fun (u0 : Value) => ov u0) (fun (u0 : Value) => [own 5 u8 u0 r]) := by
  unfold rolodexref01_Number at h
  refine ctr_of_run Tryd.func29 rfl 36 rfl rfl fun m0 w0 b0 => ?_
  show Run _ _ _ [(0, u64.slot p_x), (1, i64.slot p_bytes)] _
  refine run_seq ?_
  refine run_text ?_
  refine j_assign_nil (T := 5) u8 rfl fun v1 => ?_
  refine j_end ?_
  refine run_seq ?_
  refine run_text ?_
  refine j_assign_nil (T := 5) u8 rfl fun v2 => ?_
  refine j_assign_nil (T := 5) u8 rfl fun v3 => ?_
  refine j_end ?_
  refine run_seq ?_
  refine run_seq ?_
  refine run_text ?_
  refine j_pure (pj_assign has_i64) rfl rfl rfl ?_
  refine j_end ?_
  obtain ⟨⟨y4, y5, y6⟩, e3, h⟩ := bind_some h
  refine run_loopS (Γi := fun (i : Value) (s : (BitVec 64) × Int × (List (BitVec 8))) => [(0, u64.slot s.1), (1, i64.slot p_bytes), (5, ov i), (6, ov v3), (7, i64.slot s.2.1)]) (Hi := fun (i : Value) (s : (BitVec 64) × Int × (List (BitVec 8))) => [own 5 u8 v3 ([] : List (BitVec 8)), own 5 u8 i s.2.2]) e3 v2 (fun a w hst => (hst.sub (.cons (.of_lk rfl) <| .cons (.of_lk rfl) <| .cons (.of_lk rfl) <| .cons (.of_lk rfl) <| .cons (.of_lk rfl) <| .nil)).keep (.cons .here <| .cons .here <| .nil)) ?_ ?_
  · clear h e3
    rintro v4 ⟨y1, y2, y3⟩ lr h
    change rolodexref01_Number_L1 p_bytes y1 y2 y3 = some _ at h
    show Run _ _ _ [(0, u64.slot y1), (1, i64.slot p_bytes), (5, ov v4), (6, ov v3), (7, i64.slot y2)] [own 5 u8 v3 ([] : List (BitVec 8)), own 5 u8 v4 y3]
    unfold rolodexref01_Number_L1 at h
    refine run_seq ?_
    refine run_seq ?_
    refine run_text ?_
    refine j_pure (pj_move (has_tmp rfl)) rfl rfl rfl ?_
    refine j_pure (pj_move (has_tmp rfl)) rfl rfl rfl ?_
    refine j_pure (pj_ilss (has_tmp rfl) (has_tmp rfl)) rfl rfl rfl ?_
    refine j_end ?_
    refine run_cond (has_tmp rfl) (fun e1 => ?_) (fun e1 => ?_)
    · replace h := bt e1 h
      refine run_skip ?_
      refine run_seq ?_
      refine run_block ?_
      refine run_seq ?_
      refine run_text ?_
      refine j_pure (pj_move (has_tmp rfl)) rfl rfl rfl ?_
      refine j_pure (pj_move (has_tmp rfl)) rfl rfl rfl ?_
      refine j_pure (pj_urem (k := .u64) (b := 64) (has_tmp rfl) (has_un (x := 256#64) rfl) (by decide)) rfl rfl rfl ?_
      refine j_pure (pj_conv_uu (k := .u8) (b := 8) rfl rfl (by kernel_rfl) (has_tmp rfl)) rfl rfl rfl ?_
      refine j_pure (pj_buildSlice (T := 5) (R := u8) (.cons (has_tmp rfl) .nil) rfl (by kernel_rfl) (by kernel_rfl)) rfl rfl rfl ?_
      obtain ⟨e2, h⟩ := grd_some h
      refine j_append (T := 5) (E := 5) (has_tmp rfl) (.next .here) (src_data (has_tmp rfl)) (by kernel_rfl) (by kernel_rfl) e2 rfl fun v5 => ?_
      refine j_pure (pj_assign (has_tmp rfl)) rfl rfl rfl ?_
      refine j_end ?_
      refine run_text ?_
      refine j_pure (pj_move (has_tmp rfl)) rfl rfl rfl ?_
      refine j_pure (pj_uquo (k := .u64) (b := 64) rfl rfl (has_tmp rfl) (has_un (x := 256#64) rfl) (by decide)) rfl rfl rfl ?_
      refine j_pure (pj_assign (has_tmp rfl)) rfl rfl rfl ?_
      refine j_end ?_
      refine run_endblock ?_
      refine run_text ?_
      refine j_pure (pj_move (has_tmp rfl)) rfl rfl rfl ?_
      refine j_pure (pj_iadd (has_tmp rfl) has_i64) rfl rfl rfl ?_
      refine j_pure (pj_assign (has_tmp rfl)) rfl rfl rfl ?_
      refine j_end ?_
      obtain rfl := Option.some.inj h
      exact run_next v5 (.cons (.of_lk rfl) <| .cons (.of_lk rfl) <| .cons (.of_lk rfl) <| .cons (.of_lk rfl) <| .cons (.of_lk rfl) <| .nil) (.cons (.next .here) <| .cons .here <| .nil)
    · replace h := bf e1 h
      obtain rfl := Option.some.inj h
      exact run_brk v4 (.cons (.of_lk rfl) <| .cons (.of_lk rfl) <| .cons (.of_lk rfl) <| .cons (.of_lk rfl) <| .cons (.of_lk rfl) <| .nil) (.cons .here <| .cons .here <| .nil)
  · rintro v6
    show Run _ _ _ [(0, u64.slot y4), (1, i64.slot p_bytes), (5, ov v6), (6, ov v3), (7, i64.slot y5)] [own 5 u8 v3 ([] : List (BitVec 8)), own 5 u8 v6 y6]
    refine run_to (Γ' := [(1, i64.slot p_bytes), (5, ov v6), (6, ov v3)]) (H' := [own 5 u8 v3 ([] : List (BitVec 8)), own 5 u8 v6 y6]) (.cons (.of_lk rfl) <| .cons (.of_lk rfl) <| .cons (.of_lk rfl) <| .nil) (.cons .here <| .cons .here <| .nil) ?_
    refine run_seq ?_
    refine run_seq ?_
    refine run_text ?_
    refine j_pure (pj_move (has_tmp rfl)) rfl rfl rfl ?_
    refine j_pure (pj_isub (has_tmp rfl) has_i64) rfl rfl rfl ?_
    refine j_pure (pj_assign (has_tmp rfl)) rfl rfl rfl ?_
    refine j_end ?_
    obtain ⟨⟨y9, y10⟩, e7, h⟩ := bind_some h
    refine run_loopS (Γi := fun (i : Value) (s : Int × (List (BitVec 8))) => [(5, ov v6), (6, ov i), (8, i64.slot s.1)]) (Hi := fun (i : Value) (s : Int × (List (BitVec 8))) => [own 5 u8 i s.2, own 5 u8 v6 y6]) e7 v3 (fun a w hst => (hst.sub (.cons (.of_lk rfl) <| .cons (.of_lk rfl) <| .cons (.of_lk rfl) <| .nil)).keep (.cons .here <| .cons .here <| .nil)) ?_ ?_
    · clear h e7
      rintro v7 ⟨y7, y8⟩ lr h
      change rolodexref01_Number_L2 y6 y7 y8 = some _ at h
      show Run _ _ _ [(5, ov v6), (6, ov v7), (8, i64.slot y7)] [own 5 u8 v7 y8, own 5 u8 v6 y6]
      unfold rolodexref01_Number_L2 at h
      refine run_seq ?_
      refine run_seq ?_
      refine run_text ?_
      refine j_pure (pj_move (has_tmp rfl)) rfl rfl rfl ?_
      refine j_pure (pj_igeq (has_tmp rfl) has_i64) rfl rfl rfl ?_
      refine j_end ?_
      refine run_cond (has_tmp rfl) (fun e4 => ?_) (fun e4 => ?_)
      · replace h := bt e4 h
        refine run_skip ?_
        refine run_seq ?_
        refine run_block ?_
        refine run_text ?_
        refine j_pure (pj_move (has_tmp rfl)) rfl rfl rfl ?_
        refine j_pure (pj_move (has_tmp rfl)) rfl rfl rfl ?_
        refine j_pure (pj_move (has_tmp rfl)) rfl rfl rfl ?_
        obtain ⟨x1, e5, h⟩ := bind_some h
        refine j_pure (pj_index_own (has_tmp rfl) (.next .here) (has_tmp rfl) isInt_i64 (lget_some e5).1 (lget_some e5).2.1 (by kernel_rfl)) rfl rfl rfl ?_
        refine j_pure (PJ.eqv (pj_load_own0 u8 (y7.toNat) (has_tmp rfl) (.next .here) (lget_some e5).2.1 (by kernel_rfl)) (lget_eq e5 (lget_some e5).2.1)) rfl rfl rfl ?_
        refine j_pure (pj_buildSlice (T := 5) (R := u8) (.cons (has_tmp rfl) .nil) rfl (by kernel_rfl) (by kernel_rfl)) rfl rfl rfl ?_
        obtain ⟨e6, h⟩ := grd_some h
        refine j_append (T := 5) (E := 5) (has_tmp rfl) .here (src_data (has_tmp rfl)) (by kernel_rfl) (by kernel_rfl) e6 rfl fun v8 => ?_
        refine j_pure (pj_assign (has_tmp rfl)) rfl rfl rfl ?_
        refine j_end ?_
        refine run_endblock ?_
        refine run_text ?_
        refine j_pure (pj_move (has_tmp rfl)) rfl rfl rfl ?_
        refine j_pure (pj_isub (has_tmp rfl) has_i64) rfl rfl rfl ?_
        refine j_pure (pj_assign (has_tmp rfl)) rfl rfl rfl ?_
        refine j_end ?_
        obtain rfl := Option.some.inj h
        exact run_next v8 (.cons (.of_lk rfl) <| .cons (.of_lk rfl) <| .cons (.of_lk rfl) <| .nil) (.cons .here <| .cons .here <| .nil)
      · replace h := bf e4 h
        obtain rfl := Option.some.inj h
        exact run_brk v7 (.cons (.of_lk rfl) <| .cons (.of_lk rfl) <| .cons (.of_lk rfl) <| .nil) (.cons .here <| .cons .here <| .nil)
    · rintro v9
      show Run _ _ _ [(5, ov v6), (6, ov v9), (8, i64.slot y9)] [own 5 u8 v9 y10, own 5 u8 v6 y6]
      refine run_to (Γ' := [(6, ov v9)]) (H' := [own 5 u8 v9 y10]) (.cons (.of_lk rfl) <| .nil) (.cons .here <| .nil) ?_
      refine run_seq ?_
      refine run_text ?_
      refine j_pure (pj_move (has_tmp rfl)) rfl rfl rfl ?_
      refine j_pure (pj_assign (has_tmp rfl)) rfl rfl rfl ?_
      refine j_end ?_
      obtain rfl := Option.some.inj h
      exact run_ret fun a w hst => q_ret1 hst rfl (.tmp rfl) v9 (fun _ _ h => h) (.cons .here <| .nil)
set_option maxRecDepth 100000 in
set_option maxHeartbeats 4000000 in
theorem c_rolodexref17_Encode {G : GP} {p_h : T_rolodexref17_Head} {r : (List (BitVec 8)) × Int} (h : rolodexref17_Encode p_h = some r) : Ctr Tryd.prog G 8 [R_rolodexref17_Head.slot p_h] [] (fun (u0 : Value) => tup [ov u0, i64.slot r.2]) (fun (u0 : Value) => [own 5 u8 u0 r.1]) := by
  unfold rolodexref17_Encode at h
  refine ctr_of_run Tryd.func8 rfl 26 rfl rfl fun m0 w0 b0 => ?_
  show Run _ _ _ [(0, R_rolodexref17_Head.slot p_h)] _
  refine run_seq ?_
  refine run_text ?_
  refine j_pure (pj_box_to (has_tmp rfl)) rfl rfl rfl ?_
  refine j_assign_nil (T := 5) u8 rfl fun v1 => ?_
  refine j_pure (pj_assign has_i64) rfl rfl rfl ?_
  refine j_end ?_
  refine run_seq ?_
  refine run_seq ?_
  refine run_text ?_
  refine j_pure (pj_load_to (has_tmp rfl) (by kernel_rfl)) rfl rfl rfl ?_
  obtain ⟨r1, e1, h⟩ := bind_some h
  refine j_pure (pj_call (hasL_cons (has_tmp rfl) <| hasL_nil) (by kernel_rfl) (c_rolodexref17_Is e1)) rfl rfl rfl ?_
  refine j_pure (pj_not (has_tmp rfl)) rfl rfl rfl ?_
  refine j_end ?_
  refine run_cond (has_tmp rfl) (fun e2 => ?_) (fun e2 => ?_)
  · replace h := bt e2 h
    refine run_seq ?_
    refine run_text ?_
    refine j_assign_nil (T := 5) u8 rfl fun v2 => ?_
    refine j_pure (pj_assign has_i64) rfl rfl rfl ?_
    refine j_end ?_
    obtain rfl := Option.some.inj h
    exact run_ret fun a w hst => q_retN hst rfl (.cons (.tmp rfl) <| .cons (.tmp rfl) <| .nil) rfl v2 (fun _ _ h => h) (.cons .here <| .nil)
  · replace h := bf e2 h
    refine run_skip ?_
    refine run_seq ?_
    refine run_text ?_
    refine j_pure (pj_field_to (has_tmp rfl) (Path.fst i64 (prod i64 (prod R_api_Hash R_api_Hash))) (by kernel_rfl)) rfl rfl rfl ?_
    refine j_pure (pj_load_to (has_tmp rfl) (by kernel_rfl)) rfl rfl rfl ?_
    refine j_pure (pj_conv_un (k := .u64) (b := 64) rfl rfl (by kernel_rfl) (has_tmp rfl) isInt_i64) rfl rfl rfl ?_
    obtain ⟨r2, e3, h⟩ := bind_some h
    refine j_call (hasL_cons (has_tmp rfl) <| hasL_cons has_i64 <| hasL_nil) (by kernel_rfl) (c_rolodexref01_Number e3) .nil rfl fun v3 => ?_
    refine j_pure (pj_assign (has_tmp rfl)) rfl rfl rfl ?_
    refine j_end ?_
    refine run_seq ?_
    refine run_text ?_
    refine j_pure (pj_move (has_tmp rfl)) rfl rfl rfl ?_
    refine j_pure (pj_field_to (has_tmp rfl) (Path.then (Path.snd i64 (prod i64 (prod R_api_Hash R_api_Hash))) (Path.fst i64 (prod R_api_Hash R_api_Hash))) (by kernel_rfl)) rfl rfl rfl ?_
    refine j_pure (pj_load_to (has_tmp rfl) (by kernel_rfl)) rfl rfl rfl ?_
    refine j_pure (pj_conv_un (k := .u64) (b := 64) rfl rfl (by kernel_rfl) (has_tmp rfl) isInt_i64) rfl rfl rfl ?_
    obtain ⟨r3, e4, h⟩ := bind_some h
    refine j_pure (pj_call (hasL_cons (has_tmp rfl) <| hasL_cons has_i64 <| hasL_nil) (by kernel_rfl) (Ctr.froze (c_rolodexref01_Number e4))) rfl rfl rfl ?_
    obtain ⟨e5, h⟩ := grd_some h
    refine j_append (T := 5) (E := 5) (has_tmp rfl) .here (src_data (has_tmp rfl)) (by kernel_rfl) (by kernel_rfl) e5 rfl fun v4 => ?_
    refine j_pure (pj_assign (has_tmp rfl)) rfl rfl rfl ?_
    refine j_end ?_
    refine run_seq ?_
    refine run_text ?_
    refine j_pure (pj_move (has_tmp rfl)) rfl rfl rfl ?_
    refine j_pure (pj_field_to (has_tmp rfl) (Path.then (Path.snd i64 (prod i64 (prod R_api_Hash R_api_Hash))) (Path.then (Path.snd i64 (prod R_api_Hash R_api_Hash)) (Path.fst R_api_Hash R_api_Hash))) (by kernel_rfl)) rfl rfl rfl ?_
    refine j_pure (pj_slice_toF (has_tmp rfl) (by decide) (by kernel_rfl)) rfl rfl rfl ?_
    obtain ⟨e6, h⟩ := grd_some h
    refine j_append (T := 5) (E := 5) (has_tmp rfl) .here (src_data (has_tmp rfl)) (by kernel_rfl) (by kernel_rfl) e6 rfl fun v5 => ?_
    refine j_pure (pj_assign (has_tmp rfl)) rfl rfl rfl ?_
    refine j_end ?_
    refine run_seq ?_
    refine run_text ?_
    refine j_pure (pj_move (has_tmp rfl)) rfl rfl rfl ?_
    refine j_pure (pj_field_to (has_tmp rfl) (Path.then (Path.snd i64 (prod i64 (prod R_api_Hash R_api_Hash))) (Path.then (Path.snd i64 (prod R_api_Hash R_api_Hash)) (Path.snd R_api_Hash R_api_Hash))) (by kernel_rfl)) rfl rfl rfl ?_
    refine j_pure (pj_slice_toF (has_tmp rfl) (by decide) (by kernel_rfl)) rfl rfl rfl ?_
    obtain ⟨e7, h⟩ := grd_some h
    refine j_append (T := 5) (E := 5) (has_tmp rfl) .here (src_data (has_tmp rfl)) (by kernel_rfl) (by kernel_rfl) e7 rfl fun v6 => ?_
    refine j_pure (pj_assign (has_tmp rfl)) rfl rfl rfl ?_
    refine j_pure (pj_assign has_i64) rfl rfl rfl ?_
    refine j_end ?_
    obtain rfl := Option.some.inj h
    exact run_ret fun a w hst => q_retN hst rfl (.cons (.tmp rfl) <| .cons (.tmp rfl) <| .nil) rfl v6 (fun _ _ h => h) (.cons .here <| .nil)
set_option maxRecDepth 100000 in
set_option maxHeartbeats 4000000 in
theorem c_wire_New {G : GP} {p_b : List (BitVec 8)} {r : ((List (BitVec 8)) × Bool)} (h : wire_New p_b = some r) : Ctr Tryd.prog G 30 [(sl u8).slot p_b] [] (fun (u0 : Nat) => val (.pointer (some ⟨u0, 0, none⟩))) (fun (u0 : Nat) => [box u0 98 (prod (sl u8) bl) (r.1, r.2)]) := by
  unfold wire_New at h
  refine ctr_of_run Tryd.func30 rfl 7 rfl rfl fun m0 w0 b0 => ?_
  show Run _ _ _ [(0, (sl u8).slot p_b)] _
  refine run_seq ?_
  refine run_text ?_
  refine j_pure (pj_assign (has_nilp (R := R_wire_Reader))) rfl rfl rfl ?_
  refine j_end ?_
  refine run_seq ?_
  refine run_text ?_
  refine j_pure (pj_move (has_tmp rfl)) rfl rfl rfl ?_
  obtain ⟨r1, e1, h⟩ := bind_some h
  refine j_pure (pj_call (hasL_cons (has_tmp rfl) <| hasL_nil) (by kernel_rfl) (Ctr.froze (c_slices_Clone_byte_byte e1))) rfl rfl rfl ?_
  obtain ⟨x1, e2, h⟩ := bind_some h
  refine j_pure (PJ.eqv (pj_build (R := R_wire_Reader) (zero_prod zero_sl zero_bl) (by kernel_rfl) (by kernel_rfl) rfl (.cons (has_tmp rfl) (Path.fst (sl u8) bl) (by kernel_rfl) .nil)) (Option.some.inj e2)) rfl rfl rfl ?_
  refine j_box (has_tmp rfl) rfl fun b1 => ?_
  refine j_pure (pj_assign (has_tmp rfl)) rfl rfl rfl ?_
  refine j_end ?_
  obtain rfl := Option.some.inj h
  exact run_ret fun a w hst => q_ret1 hst rfl (.tmp rfl) b1 (fun _ _ h => h) (.cons .here <| .nil)
set_option maxRecDepth 100000 in
set_option maxHeartbeats 4000000 in
theorem c_wire_Reader_takes {G : GP} {p_r : (List (BitVec 8)) × Bool} {p_n : Int} {b_r : Nat} {r : ((List (BitVec 8)) × Bool) × (List (BitVec 8))} (h : wire_Reader_takes p_r p_n = some r) : Ctr Tryd.prog G 50 [val (.pointer (some ⟨b_r, 0, none⟩)), i64.slot p_n] [box b_r 98 (prod (sl u8) bl) (p_r.1, p_r.2)] (fun (_ : Unit) => (sl u8).slot r.2) (fun (_ : Unit) => [box b_r 98 (prod (sl u8) bl) (r.1.1, r.1.2)]) := by
  unfold wire_Reader_takes at h
  refine ctr_of_run Tryd.func50 rfl 45 rfl rfl fun m0 w0 b0 => ?_
  show Run _ _ _ [(0, val (.pointer (some ⟨b_r, 0, none⟩))), (1, i64.slot p_n)] _
  refine run_seq ?_
  refine run_text ?_
  refine j_pure (pj_assign (has_nil (R := u8))) rfl rfl rfl ?_
  refine j_end ?_
  refine run_seq ?_
  refine run_seq ?_
  refine run_text ?_
  refine j_pure (pj_move (has_tmp rfl)) rfl rfl rfl ?_
  refine j_pure (pj_eq_nil_val (E := 98) (by kernel_rfl) (has_tmp rfl)) rfl rfl rfl ?_
  refine j_pure (pj_move (has_tmp rfl)) rfl rfl rfl ?_
  obtain ⟨y1, e2, h⟩ := bind_some h
  refine j_joinx (ι := Unit) (Γ' := fun _ => [(0, val (.pointer (some ⟨b_r, 0, none⟩))), (1, i64.slot p_n), (13, bl.slot y1)]) (H' := fun _ => [box b_r 98 (prod (sl u8) bl) (p_r.1, p_r.2)]) 5 ?_ fun J => ?_
  · intro _
    clear e2
    show OpsJ _ _ _ [(0, val (.pointer (some ⟨b_r, 0, none⟩))), (1, i64.slot p_n), (13, bl.slot y1)] [box b_r 98 (prod (sl u8) bl) (p_r.1, p_r.2)] _
    refine j_end ?_
    refine run_cond (has_tmp rfl) (fun e3 => ?_) (fun e3 => ?_)
    · replace h := bt e3 h
      refine run_seq ?_
      refine run_text ?_
      refine j_pure (pj_assign (has_nil (R := u8))) rfl rfl rfl ?_
      refine j_end ?_
      obtain rfl := Option.some.inj h
      exact run_ret fun a w hst => q_ret1 hst rfl (.tmp rfl) () (fun _ _ h => h) (.cons .here <| .nil)
    · replace h := bf e3 h
      refine run_skip ?_
      refine run_seq ?_
      refine run_seq ?_
      refine run_text ?_
      refine j_pure (pj_move (has_tmp rfl)) rfl rfl rfl ?_
      refine j_pure (pj_ilss (has_tmp rfl) has_i64) rfl rfl rfl ?_
      refine j_pure (pj_move (has_tmp rfl)) rfl rfl rfl ?_
      obtain ⟨y2, e5, h⟩ := bind_some h
      refine j_joinx (ι := Unit) (Γ' := fun _ => [(0, val (.pointer (some ⟨b_r, 0, none⟩))), (1, i64.slot p_n), (24, bl.slot y2)]) (H' := fun _ => [box b_r 98 (prod (sl u8) bl) (p_r.1, p_r.2)]) 8 ?_ fun J => ?_
      · intro _
        clear e5
        show OpsJ _ _ _ [(0, val (.pointer (some ⟨b_r, 0, none⟩))), (1, i64.slot p_n), (24, bl.slot y2)] [box b_r 98 (prod (sl u8) bl) (p_r.1, p_r.2)] _
        refine j_end ?_
        refine run_cond (has_tmp rfl) (fun e6 => ?_) (fun e6 => ?_)
        · replace h := bt e6 h
          refine run_seq ?_
          refine run_text ?_
          refine j_pure (pj_move (has_tmp rfl)) rfl rfl rfl ?_
          refine j_pure (pj_nilCheck_ptr (has_tmp rfl)) rfl rfl rfl ?_
          refine j_pure (pj_field_ptr (off := 1) (has_tmp rfl) (by kernel_rfl)) rfl rfl rfl ?_
          refine j_store_boxx (r' := (p_r.1, true)) (has_tmp rfl) has_bl .here (Path.then (Path.all (prod (sl u8) bl)) (Path.snd (sl u8) bl)) (by kernel_rfl) rfl ?_
          refine j_end ?_
          refine run_seq ?_
          refine run_text ?_
          refine j_pure (pj_assign (has_nil (R := u8))) rfl rfl rfl ?_
          refine j_end ?_
          obtain rfl := Option.some.inj h
          exact run_ret fun a w hst => q_ret1 hst rfl (.tmp rfl) () (fun _ _ h => h) (.cons .here <| .nil)
        · replace h := bf e6 h
          refine run_skip ?_
          refine run_seq ?_
          refine run_text ?_
          refine j_pure (pj_move (has_tmp rfl)) rfl rfl rfl ?_
          refine j_pure (pj_nilCheck_ptr (has_tmp rfl)) rfl rfl rfl ?_
          refine j_pure (pj_field_ptr (off := 0) (has_tmp rfl) (by kernel_rfl)) rfl rfl rfl ?_
          refine j_pure (pj_load_box (has_tmp rfl) .here (Path.then (Path.all (prod (sl u8) bl)) (Path.fst (sl u8) bl)) (by kernel_rfl)) rfl rfl rfl ?_
          refine j_pure (pj_move (has_tmp rfl)) rfl rfl rfl ?_
          refine j_pure (pj_move (has_tmp rfl)) rfl rfl rfl ?_
          obtain ⟨x1, e7, h⟩ := bind_some h
          refine j_pure (pj_slice3 (has_tmp rfl) (has_tmp rfl) (has_tmp rfl) e7 (by kernel_rfl)) rfl rfl rfl ?_
          refine j_pure (pj_assign (has_tmp rfl)) rfl rfl rfl ?_
          refine j_end ?_
          refine run_seq ?_
          refine run_text ?_
          refine j_pure (pj_move (has_tmp rfl)) rfl rfl rfl ?_
          refine j_pure (pj_move (has_tmp rfl)) rfl rfl rfl ?_
          refine j_pure (pj_nilCheck_ptr (has_tmp rfl)) rfl rfl rfl ?_
          refine j_pure (pj_field_ptr (off := 0) (has_tmp rfl) (by kernel_rfl)) rfl rfl rfl ?_
          refine j_pure (pj_load_box (has_tmp rfl) .here (Path.then (Path.all (prod (sl u8) bl)) (Path.fst (sl u8) bl)) (by kernel_rfl)) rfl rfl rfl ?_
          refine j_pure (pj_move (has_tmp rfl)) rfl rfl rfl ?_
          obtain ⟨x2, e8, h⟩ := bind_some h
          refine j_pure (pj_slice_slx (has_tmp rfl) (.yes (has_tmp rfl) isInt_i64) .no e8 (by kernel_rfl)) rfl rfl rfl ?_
          refine j_pure (pj_nilCheck_ptr (has_tmp rfl)) rfl rfl rfl ?_
          refine j_pure (pj_field_ptr (off := 0) (has_tmp rfl) (by kernel_rfl)) rfl rfl rfl ?_
          refine j_store_boxx (r' := (x2, p_r.2)) (has_tmp rfl) (has_tmp rfl) .here (Path.then (Path.all (prod (sl u8) bl)) (Path.fst (sl u8) bl)) (by kernel_rfl) rfl ?_
          refine j_end ?_
          refine run_seq ?_
          refine run_text ?_
          refine j_pure (pj_move (has_tmp rfl)) rfl rfl rfl ?_
          refine j_pure (pj_assign (has_tmp rfl)) rfl rfl rfl ?_
          refine j_end ?_
          obtain rfl := Option.some.inj h
          exact run_ret fun a w hst => q_ret1 hst rfl (.tmp rfl) () (fun _ _ h => h) (.cons .here <| .nil)
      · rcases bool_tf (decide (p_n < (0 : Int))) with e4 | e4
        · replace e5 := bt e4 e5
          refine j_guard_no2 (j := 2) (want := false) rfl rfl rfl rfl (bl_isx e4) rfl rfl rfl ?_
          refine j_guard_no2 (j := 2) (want := false) rfl rfl rfl rfl (bl_isx e4) rfl rfl rfl ?_
          refine j_guard_no2 (j := 2) (want := false) rfl rfl rfl rfl (bl_isx e4) rfl rfl rfl ?_
          refine j_guard_no2 (j := 2) (want := false) rfl rfl rfl rfl (bl_isx e4) rfl rfl rfl ?_
          refine j_guard_no2 (j := 2) (want := false) rfl rfl rfl rfl (bl_isx e4) rfl rfl rfl ?_
          refine j_guard_no2 (j := 2) (want := false) rfl rfl rfl rfl (bl_isx e4) rfl rfl rfl ?_
          refine j_guard_no2 (j := 2) (want := false) rfl rfl rfl rfl (bl_isx e4) rfl rfl rfl ?_
          refine j_pure (PJ.eqv (R := bl) (pj_pick (t := any) (has_tmp rfl) (fun _ => has_bl) (fun he => absurd (e4.symm.trans he) (by decide))) (Option.some.inj e5)) rfl rfl rfl ?_
          exact j_to (.cons (.of_lk rfl) <| .cons (.of_lk rfl) <| .cons (.of_lk rfl) <| .nil) (.cons .here <| .nil) (J ())
        · replace e5 := bf e4 e5
          refine j_pure_y (pj_move (has_tmp rfl)) rfl rfl rfl rfl (bl_isx e4) rfl rfl ?_
          refine j_pure_y (pj_move (has_tmp rfl)) rfl rfl rfl rfl (bl_isx e4) rfl rfl ?_
          refine j_pure_y (pj_nilCheck_ptr (has_tmp rfl)) rfl rfl rfl rfl (bl_isx e4) rfl rfl ?_
          refine j_pure_y (pj_field_ptr (off := 0) (has_tmp rfl) (by kernel_rfl)) rfl rfl rfl rfl (bl_isx e4) rfl rfl ?_
          refine j_pure_y (pj_load_box (has_tmp rfl) .here (Path.then (Path.all (prod (sl u8) bl)) (Path.fst (sl u8) bl)) (by kernel_rfl)) rfl rfl rfl rfl (bl_isx e4) rfl rfl ?_
          refine j_pure_y (pj_len_sl (sz := 1) (has_tmp rfl) (by kernel_rfl)) rfl rfl rfl rfl (bl_isx e4) rfl rfl ?_
          refine j_pure_y (pj_igtr (has_tmp rfl) (has_tmp rfl)) rfl rfl rfl rfl (bl_isx e4) rfl rfl ?_
          refine j_pure (PJ.eqv (R := bl) (pj_pick (t := any) (has_tmp rfl) (fun he => absurd (e4.symm.trans he) (by decide)) (fun _ => (has_tmp rfl))) (Option.some.inj e5)) rfl rfl rfl ?_
          exact j_to (.cons (.of_lk rfl) <| .cons (.of_lk rfl) <| .cons (.of_lk rfl) <| .nil) (.cons .here <| .nil) (J ())
  · have e1 : (false) = false := rfl
    refine j_pure_y (pj_move (has_tmp rfl)) rfl rfl rfl rfl (bl_isx e1) rfl rfl ?_
    refine j_pure_y (pj_nilCheck_ptr (has_tmp rfl)) rfl rfl rfl rfl (bl_isx e1) rfl rfl ?_
    refine j_pure_y (pj_field_ptr (off := 1) (has_tmp rfl) (by kernel_rfl)) rfl rfl rfl rfl (bl_isx e1) rfl rfl ?_
    refine j_pure_y (pj_load_box (has_tmp rfl) .here (Path.then (Path.all (prod (sl u8) bl)) (Path.snd (sl u8) bl)) (by kernel_rfl)) rfl rfl rfl rfl (bl_isx e1) rfl rfl ?_
    refine j_pure (PJ.eqv (R := bl) (pj_pick (t := any) (has_tmp rfl) (fun he => absurd (e1.symm.trans he) (by decide)) (fun _ => (has_tmp rfl))) (Option.some.inj e2)) rfl rfl rfl ?_
    exact j_to (.cons (.of_lk rfl) <| .cons (.of_lk rfl) <| .cons (.of_lk rfl) <| .nil) (.cons .here <| .nil) (J ())
set_option maxRecDepth 100000 in
set_option maxHeartbeats 4000000 in
theorem c_wire_Reader_peek {G : GP} {p_r : (List (BitVec 8)) × Bool} {p_bytes : Int} {b_r : Nat} {c_r : List Value} {r : (BitVec 64) × Bool} (h : wire_Reader_peek p_r p_bytes = some r) : Ctr Tryd.prog G 70 [val (.pointer (some ⟨b_r, 0, none⟩)), i64.slot p_bytes] [box b_r 98 (exr (prod (sl u8) bl) c_r) (p_r.1, p_r.2)] (fun (_ : Unit) => tup [u64.slot r.1, bl.slot r.2]) (fun (_ : Unit) => [box b_r 98 (exr (prod (sl u8) bl) c_r) (p_r.1, p_r.2)]) := by
  unfold wire_Reader_peek at h
  refine ctr_of_run Tryd.func70 rfl 44 rfl rfl fun m0 w0 b0 => ?_
  show Run _ _ _ [(0, val (.pointer (some ⟨b_r, 0, none⟩))), (1, i64.slot p_bytes)] _
  refine run_seq ?_
  refine run_text ?_
  refine j_pure (PJ.xw (.ex .refl) (pj_assign (has_un (x := 0#64) rfl))) rfl rfl rfl ?_
  refine j_pure (PJ.xw (.ex .refl) (pj_assign has_bl)) rfl rfl rfl ?_
  refine j_end ?_
  refine run_seq ?_
  refine run_seq ?_
  refine run_text ?_
  refine j_pure (PJ.xw (.ex .refl) (pj_move (has_tmp rfl))) rfl rfl rfl ?_
  refine j_pure (PJ.xw (.ex .refl) (pj_eq_nil_val (E := 98) (by kernel_rfl) (has_tmp rfl))) rfl rfl rfl ?_
  refine j_pure (PJ.xw (.ex .refl) (pj_move (has_tmp rfl))) rfl rfl rfl ?_
  obtain ⟨y1, e2, h⟩ := bind_some h
  refine j_joinx (ι := Unit) (Γ' := fun _ => [(0, val (.pointer (some ⟨b_r, 0, none⟩))), (1, i64.slot p_bytes), (16, bl.slot y1)]) (H' := fun _ => [box b_r 98 (exr (prod (sl u8) bl) c_r) (p_r.1, p_r.2)]) 5 ?_ fun J => ?_
  · intro _
    clear e2
    show OpsJ _ _ _ [(0, val (.pointer (some ⟨b_r, 0, none⟩))), (1, i64.slot p_bytes), (16, bl.slot y1)] [box b_r 98 (exr (prod (sl u8) bl) c_r) (p_r.1, p_r.2)] _
    refine j_pure (PJ.xw (.ex .refl) (pj_move (has_tmp rfl))) rfl rfl rfl ?_
    obtain ⟨y2, e4, h⟩ := bind_some h
    refine j_joinx (ι := Unit) (Γ' := fun _ => [(0, val (.pointer (some ⟨b_r, 0, none⟩))), (1, i64.slot p_bytes), (25, bl.slot y2)]) (H' := fun _ => [box b_r 98 (exr (prod (sl u8) bl) c_r) (p_r.1, p_r.2)]) 8 ?_ fun J => ?_
    · intro _
      clear e4
      show OpsJ _ _ _ [(0, val (.pointer (some ⟨b_r, 0, none⟩))), (1, i64.slot p_bytes), (25, bl.slot y2)] [box b_r 98 (exr (prod (sl u8) bl) c_r) (p_r.1, p_r.2)] _
      refine j_end ?_
      refine run_cond (has_tmp rfl) (fun e5 => ?_) (fun e5 => ?_)
      · replace h := bt e5 h
        refine run_seq ?_
        refine run_text ?_
        refine j_pure (PJ.xw (.ex .refl) (pj_assign (has_un (x := 0#64) rfl))) rfl rfl rfl ?_
        refine j_pure (PJ.xw (.ex .refl) (pj_assign has_bl)) rfl rfl rfl ?_
        refine j_end ?_
        obtain rfl := Option.some.inj h
        exact run_ret fun a w hst => q_retN hst rfl (.cons (.tmp rfl) <| .cons (.tmp rfl) <| .nil) rfl () (fun _ _ h => h) (.cons .here <| .nil)
      · replace h := bf e5 h
        refine run_skip ?_
        refine run_seq ?_
        refine run_text ?_
        refine j_pure (PJ.xw (.ex .refl) (pj_assign (has_un (x := 0#64) rfl))) rfl rfl rfl ?_
        refine j_end ?_
        refine run_seq ?_
        refine run_seq ?_
        refine run_text ?_
        refine j_pure (PJ.xw (.ex .refl) (pj_move (has_tmp rfl))) rfl rfl rfl ?_
        refine j_pure (PJ.xw (.ex .refl) (pj_nilCheck_ptr (has_tmp rfl))) rfl rfl rfl ?_
        refine j_pure (PJ.xw (.ex .refl) (pj_field_ptr (off := 0) (has_tmp rfl) (by kernel_rfl))) rfl rfl rfl ?_
        refine j_pure (PJ.xw (.ex .refl) (pj_load_box (has_tmp rfl) .here (Path.then (Path.all (prod (sl u8) bl)) (Path.fst (sl u8) bl)) (by kernel_rfl))) rfl rfl rfl ?_
        refine j_pure (PJ.xw (.ex .refl) (pj_move (has_tmp rfl))) rfl rfl rfl ?_
        obtain ⟨x1, e6, h⟩ := bind_some h
        refine j_pure (PJ.xw (.ex .refl) (pj_slice_slx (has_tmp rfl) .no (.yes (has_tmp rfl) isInt_i64) e6 (by kernel_rfl))) rfl rfl rfl ?_
        refine j_pure (PJ.xw (.ex .refl) (pj_len_sl (sz := 1) (has_tmp rfl) (by kernel_rfl))) rfl rfl rfl ?_
        refine j_pure (PJ.xw (.ex .refl) (pj_move has_i64)) rfl rfl rfl ?_
        refine j_end ?_
        obtain ⟨⟨y5, y6⟩, e9, h⟩ := bind_some h
        refine run_loopS (Γi := fun (i : Unit) (s : (BitVec 64) × Int) => [(6, u64.slot s.1), (31, (sl u8).slot x1), (32, i64.slot (x1.length : Int)), (33, i64.slot s.2)]) (Hi := fun (i : Unit) (s : (BitVec 64) × Int) => [box b_r 98 (exr (prod (sl u8) bl) c_r) (p_r.1, p_r.2)]) e9 () (fun a w hst => (hst.sub (.cons (.of_lk rfl) <| .cons (.of_lk rfl) <| .cons (.of_lk rfl) <| .cons (.of_lk rfl) <| .nil)).keep (.cons .here <| .nil)) ?_ ?_
        · clear h e9
          rintro _ ⟨y3, y4⟩ lr h
          change wire_Reader_peek_L1 x1 y3 y4 = some _ at h
          show Run _ _ _ [(6, u64.slot y3), (31, (sl u8).slot x1), (32, i64.slot (x1.length : Int)), (33, i64.slot y4)] [box b_r 98 (exr (prod (sl u8) bl) c_r) (p_r.1, p_r.2)]
          unfold wire_Reader_peek_L1 at h
          refine run_seq ?_
          refine run_text ?_
          refine j_pure (PJ.xw (.ex .refl) (pj_ilss (has_tmp rfl) (has_tmp rfl))) rfl rfl rfl ?_
          refine j_end ?_
          refine run_seq ?_
          refine run_cond (has_tmp rfl) (fun e7 => ?_) (fun e7 => ?_)
          · replace h := bt e7 h
            refine run_skip ?_
            refine run_seq ?_
            refine run_block ?_
            refine run_seq ?_
            refine run_text ?_
            obtain ⟨x2, e8, h⟩ := bind_some h
            refine j_pure (PJ.xw (.ex .refl) (pj_index_slx (has_tmp rfl) (has_tmp rfl) isInt_i64 e8 (by kernel_rfl))) rfl rfl rfl ?_
            refine j_pure (PJ.xw (.ex .refl) (pj_load_to (has_tmp rfl) (by kernel_rfl))) rfl rfl rfl ?_
            refine j_pure (PJ.xw (.ex .refl) (pj_assign (has_tmp rfl))) rfl rfl rfl ?_
            refine j_end ?_
            refine run_text ?_
            refine j_pure (PJ.xw (.ex .refl) (pj_move (has_tmp rfl))) rfl rfl rfl ?_
            refine j_pure (PJ.xw (.ex .refl) (pj_ushl (k := .u64) (b := 64) rfl rfl (has_tmp rfl) (has_un (x := 8#64) rfl) isInt_un (Int.natCast_nonneg _))) rfl rfl rfl ?_
            refine j_pure (PJ.xw (.ex .refl) (pj_move (has_tmp rfl))) rfl rfl rfl ?_
            refine j_pure (PJ.xw (.ex .refl) (pj_conv_uu (k := .u64) (b := 64) rfl rfl (by kernel_rfl) (has_tmp rfl))) rfl rfl rfl ?_
            refine j_pure (PJ.xw (.ex .refl) (pj_uor (k := .u64) (b := 64) rfl rfl (has_tmp rfl) (has_tmp rfl))) rfl rfl rfl ?_
            refine j_pure (PJ.xw (.ex .refl) (pj_assign (has_tmp rfl))) rfl rfl rfl ?_
            refine j_end ?_
            refine run_endblock ?_
            refine run_text ?_
            refine j_pure (PJ.xw (.ex .refl) (pj_iadd (has_tmp rfl) has_i64)) rfl rfl rfl ?_
            refine j_pure (PJ.xw (.ex .refl) (pj_move (has_tmp rfl))) rfl rfl rfl ?_
            refine j_end ?_
            obtain rfl := Option.some.inj h
            exact run_next () (.cons (.of_lk rfl) <| .cons (.of_lk rfl) <| .cons (.of_lk rfl) <| .cons (.of_lk rfl) <| .nil) (.cons .here <| .nil)
          · replace h := bf e7 h
            obtain rfl := Option.some.inj h
            exact run_brk () (.cons (.of_lk rfl) <| .cons (.of_lk rfl) <| .cons (.of_lk rfl) <| .cons (.of_lk rfl) <| .nil) (.cons .here <| .nil)
        · rintro _
          show Run _ _ _ [(6, u64.slot y5), (31, (sl u8).slot x1), (32, i64.slot (x1.length : Int)), (33, i64.slot y6)] [box b_r 98 (exr (prod (sl u8) bl) c_r) (p_r.1, p_r.2)]
          refine run_to (Γ' := [(6, u64.slot y5)]) (H' := [box b_r 98 (exr (prod (sl u8) bl) c_r) (p_r.1, p_r.2)]) (.cons (.of_lk rfl) <| .nil) (.cons .here <| .nil) ?_
          refine run_seq ?_
          refine run_text ?_
          refine j_pure (PJ.xw (.ex .refl) (pj_move (has_tmp rfl))) rfl rfl rfl ?_
          refine j_pure (PJ.xw (.ex .refl) (pj_assign (has_tmp rfl))) rfl rfl rfl ?_
          refine j_pure (PJ.xw (.ex .refl) (pj_assign has_bl)) rfl rfl rfl ?_
          refine j_end ?_
          obtain rfl := Option.some.inj h
          exact run_ret fun a w hst => q_retN hst rfl (.cons (.tmp rfl) <| .cons (.tmp rfl) <| .nil) rfl () (fun _ _ h => h) (.cons .here <| .nil)
    · rcases bool_tf (y1) with e3 | e3
      · replace e4 := bt e3 e4
        refine j_guard_no2 (j := 8) (want := false) rfl rfl rfl rfl (bl_isx e3) rfl rfl rfl ?_
        refine j_guard_no2 (j := 8) (want := false) rfl rfl rfl rfl (bl_isx e3) rfl rfl rfl ?_
        refine j_guard_no2 (j := 8) (want := false) rfl rfl rfl rfl (bl_isx e3) rfl rfl rfl ?_
        refine j_guard_no2 (j := 8) (want := false) rfl rfl rfl rfl (bl_isx e3) rfl rfl rfl ?_
        refine j_guard_no2 (j := 8) (want := false) rfl rfl rfl rfl (bl_isx e3) rfl rfl rfl ?_
        refine j_guard_no2 (j := 8) (want := false) rfl rfl rfl rfl (bl_isx e3) rfl rfl rfl ?_
        refine j_guard_no2 (j := 8) (want := false) rfl rfl rfl rfl (bl_isx e3) rfl rfl rfl ?_
        refine j_pure (PJ.eqv (R := bl) (pj_pick (t := any) (has_tmp rfl) (fun _ => has_bl) (fun he => absurd (e3.symm.trans he) (by decide))) (Option.some.inj e4)) rfl rfl rfl ?_
        exact j_to (.cons (.of_lk rfl) <| .cons (.of_lk rfl) <| .cons (.of_lk rfl) <| .nil) (.cons .here <| .nil) (J ())
      · replace e4 := bf e3 e4
        refine j_pure_y (PJ.xw (.ex .refl) (pj_move (has_tmp rfl))) rfl rfl rfl rfl (bl_isx e3) rfl rfl ?_
        refine j_pure_y (PJ.xw (.ex .refl) (pj_nilCheck_ptr (has_tmp rfl))) rfl rfl rfl rfl (bl_isx e3) rfl rfl ?_
        refine j_pure_y (PJ.xw (.ex .refl) (pj_field_ptr (off := 0) (has_tmp rfl) (by kernel_rfl))) rfl rfl rfl rfl (bl_isx e3) rfl rfl ?_
        refine j_pure_y (PJ.xw (.ex .refl) (pj_load_box (has_tmp rfl) .here (Path.then (Path.all (prod (sl u8) bl)) (Path.fst (sl u8) bl)) (by kernel_rfl))) rfl rfl rfl rfl (bl_isx e3) rfl rfl ?_
        refine j_pure_y (PJ.xw (.ex .refl) (pj_len_sl (sz := 1) (has_tmp rfl) (by kernel_rfl))) rfl rfl rfl rfl (bl_isx e3) rfl rfl ?_
        refine j_pure_y (PJ.xw (.ex .refl) (pj_move (has_tmp rfl))) rfl rfl rfl rfl (bl_isx e3) rfl rfl ?_
        refine j_pure_y (PJ.xw (.ex .refl) (pj_ilss (has_tmp rfl) (has_tmp rfl))) rfl rfl rfl rfl (bl_isx e3) rfl rfl ?_
        refine j_pure (PJ.eqv (R := bl) (pj_pick (t := any) (has_tmp rfl) (fun he => absurd (e3.symm.trans he) (by decide)) (fun _ => (has_tmp rfl))) (Option.some.inj e4)) rfl rfl rfl ?_
        exact j_to (.cons (.of_lk rfl) <| .cons (.of_lk rfl) <| .cons (.of_lk rfl) <| .nil) (.cons .here <| .nil) (J ())
  · have e1 : (false) = false := rfl
    refine j_pure_y (PJ.xw (.ex .refl) (pj_move (has_tmp rfl))) rfl rfl rfl rfl (bl_isx e1) rfl rfl ?_
    refine j_pure_y (PJ.xw (.ex .refl) (pj_nilCheck_ptr (has_tmp rfl))) rfl rfl rfl rfl (bl_isx e1) rfl rfl ?_
    refine j_pure_y (PJ.xw (.ex .refl) (pj_field_ptr (off := 1) (has_tmp rfl) (by kernel_rfl))) rfl rfl rfl rfl (bl_isx e1) rfl rfl ?_
    refine j_pure_y (PJ.xw (.ex .refl) (pj_load_box (has_tmp rfl) .here (Path.then (Path.all (prod (sl u8) bl)) (Path.snd (sl u8) bl)) (by kernel_rfl))) rfl rfl rfl rfl (bl_isx e1) rfl rfl ?_
    refine j_pure (PJ.eqv (R := bl) (pj_pick (t := any) (has_tmp rfl) (fun he => absurd (e1.symm.trans he) (by decide)) (fun _ => (has_tmp rfl))) (Option.some.inj e2)) rfl rfl rfl ?_
    exact j_to (.cons (.of_lk rfl) <| .cons (.of_lk rfl) <| .cons (.of_lk rfl) <| .nil) (.cons .here <| .nil) (J ())
set_option maxRecDepth 100000 in
set_option maxHeartbeats 4000000 in
theorem c_wire_Reader_number {G : GP} {p_r : (List (BitVec 8)) × Bool} {p_bytes : Int} {b_r : Nat} {r : ((List (BitVec 8)) × Bool) × (BitVec 64)} (h : wire_Reader_number p_r p_bytes = some r) : Ctr Tryd.prog G 49 [val (.pointer (some ⟨b_r, 0, none⟩)), i64.slot p_bytes] [box b_r 98 (prod (sl u8) bl) (p_r.1, p_r.2)] (fun (_ : Unit) => u64.slot r.2) (fun (_ : Unit) => [box b_r 98 (prod (sl u8) bl) (r.1.1, r.1.2)]) := by
  unfold wire_Reader_number at h
  refine ctr_of_run Tryd.func49 rfl 19 rfl rfl fun m0 w0 b0 => ?_
  show Run _ _ _ [(0, val (.pointer (some ⟨b_r, 0, none⟩))), (1, i64.slot p_bytes)] _
  refine run_seq ?_
  refine run_text ?_
  refine j_pure (pj_assign (has_un (x := 0#64) rfl)) rfl rfl rfl ?_
  refine j_end ?_
  refine run_seq ?_
  refine run_text ?_
  refine j_pure (pj_move (has_tmp rfl)) rfl rfl rfl ?_
  refine j_pure (pj_move (has_tmp rfl)) rfl rfl rfl ?_
  obtain ⟨r1, e1, h⟩ := bind_some h
  refine j_pure (pj_callR (hasL_cons (has_tmp rfl) <| hasL_cons (has_tmp rfl) <| hasL_nil) .here (by kernel_rfl) (fun _ => (c_wire_Reader_peek e1))) rfl rfl rfl ?_
  refine j_pure (pj_move (has_tmp rfl)) rfl rfl rfl ?_
  refine j_pure (pj_extract (has_tmp rfl) rfl) rfl rfl rfl ?_
  refine j_pure (pj_extract (has_tmp rfl) rfl) rfl rfl rfl ?_
  refine j_pure (pj_assign (has_tmp rfl)) rfl rfl rfl ?_
  refine j_pure (pj_assign (has_tmp rfl)) rfl rfl rfl ?_
  refine j_end ?_
  refine run_seq ?_
  refine run_seq ?_
  refine run_text ?_
  refine j_pure (pj_move (has_tmp rfl)) rfl rfl rfl ?_
  refine j_pure (pj_move (has_tmp rfl)) rfl rfl rfl ?_
  obtain ⟨r2, e2, h⟩ := bind_some h
  refine j_call (hasL_cons (has_tmp rfl) <| hasL_cons (has_tmp rfl) <| hasL_nil) (by kernel_rfl) (c_wire_Reader_takes e2) (.cons .here <| .nil) rfl fun _ => ?_
  refine j_end ?_
  refine run_seq ?_
  refine run_text ?_
  refine j_pure (pj_move (has_tmp rfl)) rfl rfl rfl ?_
  refine j_pure (pj_not (has_tmp rfl)) rfl rfl rfl ?_
  refine j_end ?_
  refine run_cond (has_tmp rfl) (fun e3 => ?_) (fun e3 => ?_)
  · replace h := bt e3 h
    refine run_seq ?_
    refine run_text ?_
    refine j_pure (pj_assign (has_un (x := 0#64) rfl)) rfl rfl rfl ?_
    refine j_end ?_
    obtain rfl := Option.some.inj h
    exact run_ret fun a w hst => q_ret1 hst rfl (.tmp rfl) () (fun _ _ h => h) (.cons .here <| .nil)
  · replace h := bf e3 h
    refine run_skip ?_
    refine run_seq ?_
    refine run_text ?_
    refine j_pure (pj_move (has_tmp rfl)) rfl rfl rfl ?_
    refine j_pure (pj_assign (has_tmp rfl)) rfl rfl rfl ?_
    refine j_end ?_
    obtain rfl := Option.some.inj h
    exact run_ret fun a w hst => q_ret1 hst rfl (.tmp rfl) () (fun _ _ h => h) (.cons .here <| .nil)
set_option maxRecDepth 100000 in
set_option maxHeartbeats 4000000 in
theorem c_wire_Reader_U32 {G : GP} {p_r : (List (BitVec 8)) × Bool} {b_r : Nat} {r : ((List (BitVec 8)) × Bool) × (BitVec 32)} (h : wire_Reader_U32 p_r = some r) : Ctr Tryd.prog G 31 [val (.pointer (some ⟨b_r, 0, none⟩))] [box b_r 98 (prod (sl u8) bl) (p_r.1, p_r.2)] (fun (_ : Unit) => u32.slot r.2) (fun (_ : Unit) => [box b_r 98 (prod (sl u8) bl) (r.1.1, r.1.2)]) := by
  unfold wire_Reader_U32 at h
  refine ctr_of_run Tryd.func31 rfl 6 rfl rfl fun m0 w0 b0 => ?_
  show Run _ _ _ [(0, val (.pointer (some ⟨b_r, 0, none⟩)))] _
  refine run_seq ?_
  refine run_text ?_
  refine j_pure (pj_assign (has_un (x := 0#32) rfl)) rfl rfl rfl ?_
  refine j_end ?_
  refine run_seq ?_
  refine run_text ?_
  refine j_pure (pj_move (has_tmp rfl)) rfl rfl rfl ?_
  obtain ⟨r1, e1, h⟩ := bind_some h
  refine j_call (hasL_cons (has_tmp rfl) <| hasL_cons has_i64 <| hasL_nil) (by kernel_rfl) (c_wire_Reader_number e1) (.cons .here <| .nil) rfl fun _ => ?_
  refine j_pure (pj_conv_uu (k := .u32) (b := 32) rfl rfl (by kernel_rfl) (has_tmp rfl)) rfl rfl rfl ?_
  refine j_pure (pj_assign (has_tmp rfl)) rfl rfl rfl ?_
  refine j_end ?_
  obtain rfl := Option.some.inj h
  exact run_ret fun a w hst => q_ret1 hst rfl (.tmp rfl) () (fun _ _ h => h) (.cons .here <| .nil)
set_option maxRecDepth 100000 in
set_option maxHeartbeats 4000000 in
theorem c_wire_Reader_Plain {G : GP} {p_r : (List (BitVec 8)) × Bool} {p_n : Int} {b_r : Nat} {r : ((List (BitVec 8)) × Bool) × (List (BitVec 8))} (h : wire_Reader_Plain p_r p_n = some r) : Ctr Tryd.prog G 32 [val (.pointer (some ⟨b_r, 0, none⟩)), i64.slot p_n] [box b_r 98 (prod (sl u8) bl) (p_r.1, p_r.2)] (fun (_ : Unit) => (sl u8).slot r.2) (fun (_ : Unit) => [box b_r 98 (prod (sl u8) bl) (r.1.1, r.1.2)]) := by
  unfold wire_Reader_Plain at h
  refine ctr_of_run Tryd.func32 rfl 8 rfl rfl fun m0 w0 b0 => ?_
  show Run _ _ _ [(0, val (.pointer (some ⟨b_r, 0, none⟩))), (1, i64.slot p_n)] _
  refine run_seq ?_
  refine run_text ?_
  refine j_pure (pj_assign (has_nil (R := u8))) rfl rfl rfl ?_
  refine j_end ?_
  refine run_seq ?_
  refine run_text ?_
  refine j_pure (pj_move (has_tmp rfl)) rfl rfl rfl ?_
  refine j_pure (pj_move (has_tmp rfl)) rfl rfl rfl ?_
  obtain ⟨r1, e1, h⟩ := bind_some h
  refine j_call (hasL_cons (has_tmp rfl) <| hasL_cons (has_tmp rfl) <| hasL_nil) (by kernel_rfl) (c_wire_Reader_takes e1) (.cons .here <| .nil) rfl fun _ => ?_
  refine j_pure (pj_assign (has_tmp rfl)) rfl rfl rfl ?_
  refine j_end ?_
  obtain rfl := Option.some.inj h
  exact run_ret fun a w hst => q_ret1 hst rfl (.tmp rfl) () (fun _ _ h => h) (.cons .here <| .nil)
set_option maxRecDepth 100000 in
set_option maxHeartbeats 4000000 in
theorem c_head_Decode {G : GP} {p_b : List (BitVec 8)} {r : T_head_Head × Int} (h : head_Decode p_b = some r) : Ctr Tryd.prog G 9 [(sl u8).slot p_b] [] (fun (_ : Unit) => tup [R_head_Head.slot r.1, i64.slot r.2]) (fun (_ : Unit) => []) := by
  unfold head_Decode at h
  refine ctr_of_run Tryd.func9 rfl 32 rfl rfl fun m0 w0 b0 => ?_
  show Run _ _ _ [(0, (sl u8).slot p_b)] _
  refine run_seq ?_
  refine run_text ?_
  refine j_alloc (x := (0, 0, (Vector.replicate 32 (0#8)), (Vector.replicate 32 (0#8)))) (R := R_head_Head) (zero_prod zero_i64 (zero_prod zero_i64 (zero_prod (zero_vec 32 zero_un) (zero_vec 32 zero_un)))) (by kernel_rfl) rfl fun b1 => ?_
  refine j_pure (pj_assign has_i64) rfl rfl rfl ?_
  refine j_end ?_
  refine run_seq ?_
  refine run_seq ?_
  refine run_text ?_
  refine j_pure (pj_move (has_tmp rfl)) rfl rfl rfl ?_
  refine j_pure (pj_len_sl (sz := 1) (has_tmp rfl) (by kernel_rfl)) rfl rfl rfl ?_
  refine j_pure (pj_ineq (has_tmp rfl) has_i64) rfl rfl rfl ?_
  refine j_end ?_
  refine run_cond (has_tmp rfl) (fun e1 => ?_) (fun e1 => ?_)
  · replace h := bt e1 h
    refine run_seq ?_
    refine run_text ?_
    refine j_pure (pj_build (R := R_head_Head) (zero_prod zero_i64 (zero_prod zero_i64 (zero_prod (zero_vec 32 zero_un) (zero_vec 32 zero_un)))) (by kernel_rfl) (by kernel_rfl) rfl .nil) rfl rfl rfl ?_
    obtain ⟨x1, e2, h⟩ := bind_some h
    refine j_store_boxx (r' := x1) (has_tmp rfl) (has_tmp rfl) .here (Path.all R_head_Head) (by kernel_rfl) (Option.some.inj e2) ?_
    refine j_pure (pj_assign has_i64) rfl rfl rfl ?_
    refine j_end ?_
    obtain rfl := Option.some.inj h
    exact run_ret fun a w hst => q_retN hst rfl (.cons (.cell rfl .here (by kernel_rfl)) <| .cons (.tmp rfl) <| .nil) rfl () (fun _ _ h => h) (.nil)
  · replace h := bf e1 h
    refine run_skip ?_
    refine run_seq ?_
    refine run_text ?_
    refine j_pure (pj_move (has_tmp rfl)) rfl rfl rfl ?_
    obtain ⟨r1, e3, h⟩ := bind_some h
    refine j_call (hasL_cons (has_tmp rfl) <| hasL_nil) (by kernel_rfl) (c_wire_New e3) .nil rfl fun b2 => ?_
    refine j_pure (pj_assign (has_tmp rfl)) rfl rfl rfl ?_
    refine j_end ?_
    refine run_seq ?_
    obtain ⟨r2, e4, h⟩ := bind_some h
    obtain ⟨r3, e5, h⟩ := bind_some h
    obtain ⟨r4, e6, h⟩ := bind_some h
    obtain ⟨x2, e7, h⟩ := bind_some h
    obtain ⟨r5, e8, h⟩ := bind_some h
    obtain ⟨x3, e9, h⟩ := bind_some h
    obtain ⟨x4, e10, h⟩ := bind_some h
    refine run_keep (H' := [box b2 98 (prod (sl u8) bl) (r1.1, r1.2), box b1 31 R_head_Head (0, 0, (Vector.replicate 32 (0#8)), (Vector.replicate 32 (0#8)))]) (.cons .here <| .cons .here <| .nil) ?_
    refine run_drawL (n := 16) (H := [box b1 31 R_head_Head (0, 0, (Vector.replicate 32 (0#8)), (Vector.replicate 32 (0#8)))]) (Ls := [⟨[box b2 98 (prod (sl u8) bl) (r1.1, r1.2)], [(1, ⟨Unit, fun (_ : Unit) => [box b2 98 (prod (sl u8) bl) (r2.1.1, r2.1.2)], fun (_ : Unit) => [(13, u32.slot r2.2)]⟩), (4, ⟨Unit, fun (_ : Unit) => [box b2 98 (prod (sl u8) bl) (r3.1.1, r3.1.2)], fun (_ : Unit) => [(16, u32.slot r3.2), (13, u32.slot r2.2)]⟩), (7, ⟨Unit, fun (_ : Unit) => [box b2 98 (prod (sl u8) bl) (r4.1.1, r4.1.2)], fun (_ : Unit) => [(19, (sl u8).slot r4.2), (16, u32.slot r3.2), (13, u32.slot r2.2)]⟩), (11, ⟨Unit, fun (_ : Unit) => [box b2 98 (prod (sl u8) bl) (r5.1.1, r5.1.2)], fun (_ : Unit) => [(23, (sl u8).slot r5.2), (19, (sl u8).slot r4.2), (16, u32.slot r3.2), (13, u32.slot r2.2)]⟩)]⟩, ⟨[], [(15, ⟨Nat, fun (b3 : Nat) => [box b3 31 R_head_Head (0, 0, (Vector.replicate 32 (0#8)), (Vector.replicate 32 (0#8)))], fun (b3 : Nat) => [(5, val (.pointer (some ⟨b3, 0, none⟩)))]⟩)]⟩]) (by kernel_rfl) (by kernel_rfl) (by kernel_rfl) (by kernel_rfl) (by kernel_rfl) rfl (.read rfl (.plain rfl (pj_move (has_tmp rfl))) <| .step 0 rfl .here (.inl rfl) (fun i => ⟨_, _, fun _ => (), (w_call (hasL_cons (has_tmp rfl) <| hasL_nil) (by kernel_rfl) (c_wire_Reader_U32 e4) (.cons .here <| .nil) rfl), fun _ => rfl, slotIs, dst1⟩) <| .read rfl (.plain rfl (pj_conv_ui (by decide) (by kernel_rfl) (has_tmp rfl))) <| .read rfl (.plain rfl (pj_move (has_tmp rfl))) <| .step 0 rfl (.next .here) (.inl rfl) (fun i => ⟨_, _, fun _ => (), (w_call (hasL_cons (has_tmp rfl) <| hasL_nil) (by kernel_rfl) (c_wire_Reader_U32 e5) (.cons .here <| .nil) rfl), fun _ => rfl, slotIs, dst1⟩) <| .read rfl (.plain rfl (pj_conv_ui (by decide) (by kernel_rfl) (has_tmp rfl))) <| .read rfl (.plain rfl (pj_move (has_tmp rfl))) <| .step 0 rfl (.next (.next .here)) (.inl rfl) (fun i => ⟨_, _, fun _ => (), (w_call (hasL_cons (has_tmp rfl) <| hasL_cons has_i64 <| hasL_nil) (by kernel_rfl) (c_wire_Reader_Plain e6) (.cons .here <| .nil) rfl), fun _ => rfl, slotIs, dst1⟩) <| .read rfl (.plain rfl (pj_s2apx (e := 5) (has_tmp rfl) e7 rfl (by kernel_rfl))) <| .read rfl (.plain rfl (pj_load_to (has_tmp rfl) (by kernel_rfl))) <| .read rfl (.plain rfl (pj_move (has_tmp rfl))) <| .step 0 rfl (.next (.next (.next .here))) (.inl rfl) (fun i => ⟨_, _, fun _ => (), (w_call (hasL_cons (has_tmp rfl) <| hasL_cons has_i64 <| hasL_nil) (by kernel_rfl) (c_wire_Reader_Plain e8) (.cons .here <| .nil) rfl), fun _ => rfl, slotIs, dst1⟩) <| .read rfl (.plain rfl (pj_s2apx (e := 5) (has_tmp rfl) e9 rfl (by kernel_rfl))) <| .read rfl (.plain rfl (pj_load_to (has_tmp rfl) (by kernel_rfl))) <| .read rfl (.plain rfl (PJ.eqv (pj_build (R := R_head_Head) (zero_prod zero_i64 (zero_prod zero_i64 (zero_prod (zero_vec 32 zero_un) (zero_vec 32 zero_un)))) (by kernel_rfl) (by kernel_rfl) rfl (.cons (has_tmp rfl) (Path.fst i64 (prod i64 (prod R_api_Hash R_api_Hash))) (by kernel_rfl) (.cons (has_tmp rfl) (Path.then (Path.snd i64 (prod i64 (prod R_api_Hash R_api_Hash))) (Path.fst i64 (prod R_api_Hash R_api_Hash))) (by kernel_rfl) (.cons (has_tmp rfl) (Path.then (Path.snd i64 (prod i64 (prod R_api_Hash R_api_Hash))) (Path.then (Path.snd i64 (prod R_api_Hash R_api_Hash)) (Path.fst R_api_Hash R_api_Hash))) (by kernel_rfl) (.cons (has_tmp rfl) (Path.then (Path.snd i64 (prod i64 (prod R_api_Hash R_api_Hash))) (Path.then (Path.snd i64 (prod R_api_Hash R_api_Hash)) (Path.snd R_api_Hash R_api_Hash))) (by kernel_rfl) .nil))))) (Option.some.inj e10))) <| .step 1 rfl .here (.inl rfl) (fun i => ⟨_, _, fun j => j, (w_alloc (x := (0, 0, (Vector.replicate 32 (0#8)), (Vector.replicate 32 (0#8)))) (R := R_head_Head) (zero_prod zero_i64 (zero_prod zero_i64 (zero_prod (zero_vec 32 zero_un) (zero_vec 32 zero_un)))) (by kernel_rfl) rfl), fun _ => rfl, slotAny, dst1⟩) <| .nil) ?_
    rintro _ b3
    refine j_to (Γ' := [(2, val (.pointer (some ⟨b1, 0, none⟩))), (5, val (.pointer (some ⟨b3, 0, none⟩))), (26, R_head_Head.slot x4)]) (H' := [box b3 31 R_head_Head (0, 0, (Vector.replicate 32 (0#8)), (Vector.replicate 32 (0#8))), box b1 31 R_head_Head (0, 0, (Vector.replicate 32 (0#8)), (Vector.replicate 32 (0#8)))]) (.cons (.of_lk rfl) <| .cons (.of_lk rfl) <| .cons (.of_lk rfl) <| .nil) (.cons (.next .here) <| .cons (.next .here) <| .nil) ?_
    refine j_store_boxx (r' := x4) (has_tmp rfl) (has_tmp rfl) .here (Path.all R_head_Head) (by kernel_rfl) rfl ?_
    refine j_freezeTo (t := 5) .here (.of_lk rfl) ?_
    refine j_end ?_
    refine run_seq ?_
    refine run_seq ?_
    refine run_text ?_
    refine j_pure (pj_load_to (has_tmp rfl) (by kernel_rfl)) rfl rfl rfl ?_
    obtain ⟨r6, e11, h⟩ := bind_some h
    refine j_pure (pj_call (hasL_cons (has_tmp rfl) <| hasL_nil) (by kernel_rfl) (c_head_Head_is e11)) rfl rfl rfl ?_
    refine j_pure (pj_not (has_tmp rfl)) rfl rfl rfl ?_
    refine j_end ?_
    refine run_cond (has_tmp rfl) (fun e12 => ?_) (fun e12 => ?_)
    · replace h := bt e12 h
      refine run_seq ?_
      refine run_text ?_
      refine j_pure (pj_build (R := R_head_Head) (zero_prod zero_i64 (zero_prod zero_i64 (zero_prod (zero_vec 32 zero_un) (zero_vec 32 zero_un)))) (by kernel_rfl) (by kernel_rfl) rfl .nil) rfl rfl rfl ?_
      obtain ⟨x5, e13, h⟩ := bind_some h
      refine j_store_boxx (r' := x5) (has_tmp rfl) (has_tmp rfl) .here (Path.all R_head_Head) (by kernel_rfl) (Option.some.inj e13) ?_
      refine j_pure (pj_assign has_i64) rfl rfl rfl ?_
      refine j_end ?_
      obtain rfl := Option.some.inj h
      exact run_ret fun a w hst => q_retN hst rfl (.cons (.cell rfl .here (by kernel_rfl)) <| .cons (.tmp rfl) <| .nil) rfl () (fun _ _ h => h) (.nil)
    · replace h := bf e12 h
      refine run_skip ?_
      refine run_seq ?_
      refine run_text ?_
      refine j_pure (pj_load_to (has_tmp rfl) (by kernel_rfl)) rfl rfl rfl ?_
      refine j_store_boxx (r' := x4) (has_tmp rfl) (has_tmp rfl) .here (Path.all R_head_Head) (by kernel_rfl) rfl ?_
      refine j_pure (pj_assign has_i64) rfl rfl rfl ?_
      refine j_end ?_
      obtain rfl := Option.some.inj h
      exact run_ret fun a w hst => q_retN hst rfl (.cons (.cell rfl .here (by kernel_rfl)) <| .cons (.tmp rfl) <| .nil) rfl () (fun _ _ h => h) (.nil)
set_option maxRecDepth 100000 in
set_option maxHeartbeats 4000000 in
theorem c_rolodexref01_Value {G : GP} {p_b : List (BitVec 8)} {r : (BitVec 64)} (h : rolodexref01_Value p_b = some r) : Ctr Tryd.prog G 33 [(sl u8).slot p_b] [] (fun (_ : Unit) => u64.slot r) (fun (_ : Unit) => []) := by
  unfold rolodexref01_Value at h
  refine ctr_of_run Tryd.func33 rfl 20 rfl rfl fun m0 w0 b0 => ?_
  show Run _ _ _ [(0, (sl u8).slot p_b)] _
  refine run_seq ?_
  refine run_text ?_
  refine j_pure (pj_assign (has_un (x := 0#64) rfl)) rfl rfl rfl ?_
  refine j_end ?_
  refine run_seq ?_
  refine run_text ?_
  refine j_pure (pj_assign (has_un (x := 0#64) rfl)) rfl rfl rfl ?_
  refine j_end ?_
  refine run_seq ?_
  refine run_seq ?_
  refine run_text ?_
  refine j_pure (pj_assign has_i64) rfl rfl rfl ?_
  refine j_end ?_
  obtain ⟨⟨y3, y4⟩, e3, h⟩ := bind_some h
  refine run_loopS (Γi := fun (i : Unit) (s : (BitVec 64) × Int) => [(0, (sl u8).slot p_b), (3, u64.slot s.1), (4, i64.slot s.2)]) (Hi := fun (i : Unit) (s : (BitVec 64) × Int) => []) e3 () (fun a w hst => (hst.sub (.cons (.of_lk rfl) <| .cons (.of_lk rfl) <| .cons (.of_lk rfl) <| .nil)).keep (.nil)) ?_ ?_
  · clear h e3
    rintro _ ⟨y1, y2⟩ lr h
    change rolodexref01_Value_L1 p_b y1 y2 = some _ at h
    show Run _ _ _ [(0, (sl u8).slot p_b), (3, u64.slot y1), (4, i64.slot y2)] []
    unfold rolodexref01_Value_L1 at h
    refine run_seq ?_
    refine run_seq ?_
    refine run_text ?_
    refine j_pure (pj_move (has_tmp rfl)) rfl rfl rfl ?_
    refine j_pure (pj_move (has_tmp rfl)) rfl rfl rfl ?_
    refine j_pure (pj_len_sl (sz := 1) (has_tmp rfl) (by kernel_rfl)) rfl rfl rfl ?_
    refine j_pure (pj_ilss (has_tmp rfl) (has_tmp rfl)) rfl rfl rfl ?_
    refine j_end ?_
    refine run_cond (has_tmp rfl) (fun e1 => ?_) (fun e1 => ?_)
    · replace h := bt e1 h
      refine run_skip ?_
      refine run_seq ?_
      refine run_block ?_
      refine run_text ?_
      refine j_pure (pj_move (has_tmp rfl)) rfl rfl rfl ?_
      refine j_pure (pj_umul (k := .u64) (b := 64) rfl rfl (has_tmp rfl) (has_un (x := 256#64) rfl)) rfl rfl rfl ?_
      refine j_pure (pj_move (has_tmp rfl)) rfl rfl rfl ?_
      refine j_pure (pj_move (has_tmp rfl)) rfl rfl rfl ?_
      obtain ⟨x1, e2, h⟩ := bind_some h
      refine j_pure (pj_index_slx (has_tmp rfl) (has_tmp rfl) isInt_i64 e2 (by kernel_rfl)) rfl rfl rfl ?_
      refine j_pure (pj_load_to (has_tmp rfl) (by kernel_rfl)) rfl rfl rfl ?_
      refine j_pure (pj_conv_uu (k := .u64) (b := 64) rfl rfl (by kernel_rfl) (has_tmp rfl)) rfl rfl rfl ?_
      refine j_pure (pj_uadd (k := .u64) (b := 64) rfl rfl (has_tmp rfl) (has_tmp rfl)) rfl rfl rfl ?_
      refine j_pure (pj_assign (has_tmp rfl)) rfl rfl rfl ?_
      refine j_end ?_
      refine run_endblock ?_
      refine run_text ?_
      refine j_pure (pj_move (has_tmp rfl)) rfl rfl rfl ?_
      refine j_pure (pj_iadd (has_tmp rfl) has_i64) rfl rfl rfl ?_
      refine j_pure (pj_assign (has_tmp rfl)) rfl rfl rfl ?_
      refine j_end ?_
      obtain rfl := Option.some.inj h
      exact run_next () (.cons (.of_lk rfl) <| .cons (.of_lk rfl) <| .cons (.of_lk rfl) <| .nil) (.nil)
    · replace h := bf e1 h
      obtain rfl := Option.some.inj h
      exact run_brk () (.cons (.of_lk rfl) <| .cons (.of_lk rfl) <| .cons (.of_lk rfl) <| .nil) (.nil)
  · rintro _
    show Run _ _ _ [(0, (sl u8).slot p_b), (3, u64.slot y3), (4, i64.slot y4)] []
    refine run_to (Γ' := [(3, u64.slot y3)]) (H' := []) (.cons (.of_lk rfl) <| .nil) (.nil) ?_
    refine run_seq ?_
    refine run_text ?_
    refine j_pure (pj_move (has_tmp rfl)) rfl rfl rfl ?_
    refine j_pure (pj_assign (has_tmp rfl)) rfl rfl rfl ?_
    refine j_end ?_
    obtain rfl := Option.some.inj h
    exact run_ret fun a w hst => q_ret1 hst rfl (.tmp rfl) () (fun _ _ h => h) (.nil)
set_option maxRecDepth 100000 in
set_option maxHeartbeats 4000000 in
theorem c_rolodexref17_Decode {G : GP} {p_b : List (BitVec 8)} {r : T_rolodexref17_Head × Int} (h : rolodexref17_Decode p_b = some r) : Ctr Tryd.prog G 10 [(sl u8).slot p_b] [] (fun (_ : Unit) => tup [R_rolodexref17_Head.slot r.1, i64.slot r.2]) (fun (_ : Unit) => []) := by
  unfold rolodexref17_Decode at h
  refine ctr_of_run Tryd.func10 rfl 31 rfl rfl fun m0 w0 b0 => ?_
  show Run _ _ _ [(0, (sl u8).slot p_b)] _
  refine run_seq ?_
  refine run_text ?_
  refine j_alloc (x := (0, 0, (Vector.replicate 32 (0#8)), (Vector.replicate 32 (0#8)))) (R := R_rolodexref17_Head) (zero_prod zero_i64 (zero_prod zero_i64 (zero_prod (zero_vec 32 zero_un) (zero_vec 32 zero_un)))) (by kernel_rfl) rfl fun b1 => ?_
  refine j_pure (pj_assign has_i64) rfl rfl rfl ?_
  refine j_end ?_
  refine run_seq ?_
  refine run_seq ?_
  refine run_text ?_
  refine j_pure (pj_move (has_tmp rfl)) rfl rfl rfl ?_
  refine j_pure (pj_len_sl (sz := 1) (has_tmp rfl) (by kernel_rfl)) rfl rfl rfl ?_
  refine j_pure (pj_ineq (has_tmp rfl) has_i64) rfl rfl rfl ?_
  refine j_end ?_
  refine run_cond (has_tmp rfl) (fun e1 => ?_) (fun e1 => ?_)
  · replace h := bt e1 h
    refine run_seq ?_
    refine run_text ?_
    refine j_pure (pj_build (R := R_rolodexref17_Head) (zero_prod zero_i64 (zero_prod zero_i64 (zero_prod (zero_vec 32 zero_un) (zero_vec 32 zero_un)))) (by kernel_rfl) (by kernel_rfl) rfl .nil) rfl rfl rfl ?_
    obtain ⟨x1, e2, h⟩ := bind_some h
    refine j_store_boxx (r' := x1) (has_tmp rfl) (has_tmp rfl) .here (Path.all R_rolodexref17_Head) (by kernel_rfl) (Option.some.inj e2) ?_
    refine j_pure (pj_assign has_i64) rfl rfl rfl ?_
    refine j_end ?_
    obtain rfl := Option.some.inj h
    exact run_ret fun a w hst => q_retN hst rfl (.cons (.cell rfl .here (by kernel_rfl)) <| .cons (.tmp rfl) <| .nil) rfl () (fun _ _ h => h) (.nil)
  · replace h := bf e1 h
    refine run_skip ?_
    refine run_seq ?_
    obtain ⟨x2, e3, h⟩ := bind_some h
    obtain ⟨r1, e4, h⟩ := bind_some h
    obtain ⟨x3, e5, h⟩ := bind_some h
    obtain ⟨r2, e6, h⟩ := bind_some h
    obtain ⟨x4, e7, h⟩ := bind_some h
    obtain ⟨x5, e8, h⟩ := bind_some h
    obtain ⟨x6, e9, h⟩ := bind_some h
    obtain ⟨x7, e10, h⟩ := bind_some h
    obtain ⟨x8, e11, h⟩ := bind_some h
    refine run_keep (H' := [box b1 25 R_rolodexref17_Head (0, 0, (Vector.replicate 32 (0#8)), (Vector.replicate 32 (0#8)))]) (.cons .here <| .nil) ?_
    refine run_drawL (n := 18) (H := [box b1 25 R_rolodexref17_Head (0, 0, (Vector.replicate 32 (0#8)), (Vector.replicate 32 (0#8)))]) (Ls := [⟨[], [(17, ⟨Nat, fun (b2 : Nat) => [box b2 25 R_rolodexref17_Head (0, 0, (Vector.replicate 32 (0#8)), (Vector.replicate 32 (0#8)))], fun (b2 : Nat) => [(4, val (.pointer (some ⟨b2, 0, none⟩)))]⟩)]⟩]) (by kernel_rfl) (by kernel_rfl) (by kernel_rfl) (by kernel_rfl) (by kernel_rfl) rfl (.read rfl (.plain rfl (pj_move (has_tmp rfl))) <| .read rfl (.plain rfl (pj_slice_slx (has_tmp rfl) .no (.yes has_i64 isInt_i64) e3 (by kernel_rfl))) <| .read rfl (.plain rfl (pj_call (hasL_cons (has_tmp rfl) <| hasL_nil) (by kernel_rfl) (c_rolodexref01_Value e4))) <| .read rfl (.plain rfl (pj_conv_i64 (by kernel_rfl) (has_tmp rfl) isInt_un)) <| .read rfl (.plain rfl (pj_move (has_tmp rfl))) <| .read rfl (.plain rfl (pj_slice_slx (has_tmp rfl) (.yes has_i64 isInt_i64) (.yes has_i64 isInt_i64) e5 (by kernel_rfl))) <| .read rfl (.plain rfl (pj_call (hasL_cons (has_tmp rfl) <| hasL_nil) (by kernel_rfl) (c_rolodexref01_Value e6))) <| .read rfl (.plain rfl (pj_conv_i64 (by kernel_rfl) (has_tmp rfl) isInt_un)) <| .read rfl (.plain rfl (pj_move (has_tmp rfl))) <| .read rfl (.plain rfl (pj_slice_slx (has_tmp rfl) (.yes has_i64 isInt_i64) (.yes has_i64 isInt_i64) e7 (by kernel_rfl))) <| .read rfl (.plain rfl (pj_s2apx (e := 5) (has_tmp rfl) e8 rfl (by kernel_rfl))) <| .read rfl (.plain rfl (pj_load_to (has_tmp rfl) (by kernel_rfl))) <| .read rfl (.plain rfl (pj_move (has_tmp rfl))) <| .read rfl (.plain rfl (pj_slice_slx (has_tmp rfl) (.yes has_i64 isInt_i64) (.yes has_i64 isInt_i64) e9 (by kernel_rfl))) <| .read rfl (.plain rfl (pj_s2apx (e := 5) (has_tmp rfl) e10 rfl (by kernel_rfl))) <| .read rfl (.plain rfl (pj_load_to (has_tmp rfl) (by kernel_rfl))) <| .read rfl (.plain rfl (PJ.eqv (pj_build (R := R_rolodexref17_Head) (zero_prod zero_i64 (zero_prod zero_i64 (zero_prod (zero_vec 32 zero_un) (zero_vec 32 zero_un)))) (by kernel_rfl) (by kernel_rfl) rfl (.cons (has_tmp rfl) (Path.fst i64 (prod i64 (prod R_api_Hash R_api_Hash))) (by kernel_rfl) (.cons (has_tmp rfl) (Path.then (Path.snd i64 (prod i64 (prod R_api_Hash R_api_Hash))) (Path.fst i64 (prod R_api_Hash R_api_Hash))) (by kernel_rfl) (.cons (has_tmp rfl) (Path.then (Path.snd i64 (prod i64 (prod R_api_Hash R_api_Hash))) (Path.then (Path.snd i64 (prod R_api_Hash R_api_Hash)) (Path.fst R_api_Hash R_api_Hash))) (by kernel_rfl) (.cons (has_tmp rfl) (Path.then (Path.snd i64 (prod i64 (prod R_api_Hash R_api_Hash))) (Path.then (Path.snd i64 (prod R_api_Hash R_api_Hash)) (Path.snd R_api_Hash R_api_Hash))) (by kernel_rfl) .nil))))) (Option.some.inj e11))) <| .step 0 rfl .here (.inl rfl) (fun i => ⟨_, _, fun j => j, (w_alloc (x := (0, 0, (Vector.replicate 32 (0#8)), (Vector.replicate 32 (0#8)))) (R := R_rolodexref17_Head) (zero_prod zero_i64 (zero_prod zero_i64 (zero_prod (zero_vec 32 zero_un) (zero_vec 32 zero_un)))) (by kernel_rfl) rfl), fun _ => rfl, slotAny, dst1⟩) <| .nil) ?_
    rintro b2
    refine j_to (Γ' := [(2, val (.pointer (some ⟨b1, 0, none⟩))), (4, val (.pointer (some ⟨b2, 0, none⟩))), (25, R_rolodexref17_Head.slot x8)]) (H' := [box b2 25 R_rolodexref17_Head (0, 0, (Vector.replicate 32 (0#8)), (Vector.replicate 32 (0#8))), box b1 25 R_rolodexref17_Head (0, 0, (Vector.replicate 32 (0#8)), (Vector.replicate 32 (0#8)))]) (.cons (.of_lk rfl) <| .cons (.of_lk rfl) <| .cons (.of_lk rfl) <| .nil) (.cons .here <| .cons .here <| .nil) ?_
    refine j_store_boxx (r' := x8) (has_tmp rfl) (has_tmp rfl) .here (Path.all R_rolodexref17_Head) (by kernel_rfl) rfl ?_
    refine j_freezeTo (t := 4) .here (.of_lk rfl) ?_
    refine j_end ?_
    refine run_seq ?_
    refine run_seq ?_
    refine run_text ?_
    refine j_pure (pj_load_to (has_tmp rfl) (by kernel_rfl)) rfl rfl rfl ?_
    obtain ⟨r3, e12, h⟩ := bind_some h
    refine j_pure (pj_call (hasL_cons (has_tmp rfl) <| hasL_nil) (by kernel_rfl) (c_rolodexref17_Is e12)) rfl rfl rfl ?_
    refine j_pure (pj_not (has_tmp rfl)) rfl rfl rfl ?_
    refine j_end ?_
    refine run_cond (has_tmp rfl) (fun e13 => ?_) (fun e13 => ?_)
    · replace h := bt e13 h
      refine run_seq ?_
      refine run_text ?_
      refine j_pure (pj_build (R := R_rolodexref17_Head) (zero_prod zero_i64 (zero_prod zero_i64 (zero_prod (zero_vec 32 zero_un) (zero_vec 32 zero_un)))) (by kernel_rfl) (by kernel_rfl) rfl .nil) rfl rfl rfl ?_
      obtain ⟨x9, e14, h⟩ := bind_some h
      refine j_store_boxx (r' := x9) (has_tmp rfl) (has_tmp rfl) .here (Path.all R_rolodexref17_Head) (by kernel_rfl) (Option.some.inj e14) ?_
      refine j_pure (pj_assign has_i64) rfl rfl rfl ?_
      refine j_end ?_
      obtain rfl := Option.some.inj h
      exact run_ret fun a w hst => q_retN hst rfl (.cons (.cell rfl .here (by kernel_rfl)) <| .cons (.tmp rfl) <| .nil) rfl () (fun _ _ h => h) (.nil)
    · replace h := bf e13 h
      refine run_skip ?_
      refine run_seq ?_
      refine run_text ?_
      refine j_pure (pj_load_to (has_tmp rfl) (by kernel_rfl)) rfl rfl rfl ?_
      refine j_store_boxx (r' := x8) (has_tmp rfl) (has_tmp rfl) .here (Path.all R_rolodexref17_Head) (by kernel_rfl) rfl ?_
      refine j_pure (pj_assign has_i64) rfl rfl rfl ?_
      refine j_end ?_
      obtain rfl := Option.some.inj h
      exact run_ret fun a w hst => q_retN hst rfl (.cons (.cell rfl .here (by kernel_rfl)) <| .cons (.tmp rfl) <| .nil) rfl () (fun _ _ h => h) (.nil)
set_option maxRecDepth 100000 in
set_option maxHeartbeats 4000000 in
theorem c_rolodexref01_Same {G : GP} {p_a : List (BitVec 8)} {p_b : List (BitVec 8)} {r : Bool} (h : rolodexref01_Same p_a p_b = some r) : Ctr Tryd.prog G 11 [(sl u8).slot p_a, (sl u8).slot p_b] [] (fun (_ : Unit) => bl.slot r) (fun (_ : Unit) => []) := by
  unfold rolodexref01_Same at h
  refine ctr_of_run Tryd.func11 rfl 26 rfl rfl fun m0 w0 b0 => ?_
  refine run_ret0 fun Qf hq1 hq2 => ?_
  show Run _ _ _ [(0, (sl u8).slot p_a), (1, (sl u8).slot p_b)] _
  refine run_seq ?_
  refine run_text ?_
  refine j_pure (pj_assign has_bl) rfl rfl rfl ?_
  refine j_end ?_
  refine run_seq ?_
  refine run_seq ?_
  refine run_text ?_
  refine j_pure (pj_move (has_tmp rfl)) rfl rfl rfl ?_
  refine j_pure (pj_len_sl (sz := 1) (has_tmp rfl) (by kernel_rfl)) rfl rfl rfl ?_
  refine j_pure (pj_move (has_tmp rfl)) rfl rfl rfl ?_
  refine j_pure (pj_len_sl (sz := 1) (has_tmp rfl) (by kernel_rfl)) rfl rfl rfl ?_
  refine j_pure (pj_ineq (has_tmp rfl) (has_tmp rfl)) rfl rfl rfl ?_
  refine j_end ?_
  refine run_cond (has_tmp rfl) (fun e1 => ?_) (fun e1 => ?_)
  · replace h := bt e1 h
    refine run_seq ?_
    refine run_text ?_
    refine j_pure (pj_assign has_bl) rfl rfl rfl ?_
    refine j_end ?_
    obtain rfl := Option.some.inj h
    exact run_ret fun a w hst => q_ret1 hst rfl (.tmp rfl) () (fun _ _ h => h) (.nil)
  · replace h := bf e1 h
    refine run_skip ?_
    refine run_seq ?_
    refine run_seq ?_
    refine run_text ?_
    refine j_pure (pj_assign has_i64) rfl rfl rfl ?_
    refine j_end ?_
    obtain ⟨o, e6, h⟩ := bind_some h
    refine run_loop (Γi := fun (i : Unit) (s : Int) => [(0, (sl u8).slot p_a), (1, (sl u8).slot p_b), (5, i64.slot s)]) (Hi := fun (i : Unit) (s : Int) => []) (R := fun x a w => x = r → Qf a w) e6 () (fun a w hst => (hst.sub (.cons (.of_lk rfl) <| .cons (.of_lk rfl) <| .cons (.of_lk rfl) <| .nil)).keep (.nil)) ?_ ?_ ?_
    · clear h e6
      rintro _ y1 lr h
      change rolodexref01_Same_L1 p_a p_b y1 = some _ at h
      show Run _ _ _ [(0, (sl u8).slot p_a), (1, (sl u8).slot p_b), (5, i64.slot y1)] []
      unfold rolodexref01_Same_L1 at h
      refine run_seq ?_
      refine run_seq ?_
      refine run_text ?_
      refine j_pure (pj_move (has_tmp rfl)) rfl rfl rfl ?_
      refine j_pure (pj_move (has_tmp rfl)) rfl rfl rfl ?_
      refine j_pure (pj_len_sl (sz := 1) (has_tmp rfl) (by kernel_rfl)) rfl rfl rfl ?_
      refine j_pure (pj_ilss (has_tmp rfl) (has_tmp rfl)) rfl rfl rfl ?_
      refine j_end ?_
      refine run_cond (has_tmp rfl) (fun e2 => ?_) (fun e2 => ?_)
      · replace h := bt e2 h
        refine run_skip ?_
        refine run_seq ?_
        refine run_block ?_
        refine run_seq ?_
        obtain ⟨x1, e3, h⟩ := bind_some h
        obtain ⟨x2, e4, h⟩ := bind_some h
        refine run_draw (n := 8) (by kernel_rfl) (by kernel_rfl) (by kernel_rfl) (by kernel_rfl) (.read (.plain rfl (pj_move (has_tmp rfl))) <| .read (.plain rfl (pj_move (has_tmp rfl))) <| .read (.plain rfl (pj_index_slx (has_tmp rfl) (has_tmp rfl) isInt_i64 e3 (by kernel_rfl))) <| .read (.plain rfl (pj_load_to (has_tmp rfl) (by kernel_rfl))) <| .read (.plain rfl (pj_move (has_tmp rfl))) <| .read (.plain rfl (pj_move (has_tmp rfl))) <| .read (.plain rfl (pj_index_slx (has_tmp rfl) (has_tmp rfl) isInt_i64 e4 (by kernel_rfl))) <| .read (.plain rfl (pj_load_to (has_tmp rfl) (by kernel_rfl))) <| .nil) (j_to (Γ' := [(0, (sl u8).slot p_a), (1, (sl u8).slot p_b), (5, i64.slot y1), (20, u8.slot x1), (24, u8.slot x2)]) (H' := []) (.cons (.of_lk rfl) <| .cons (.of_lk rfl) <| .cons (.of_lk rfl) <| .cons (.of_lk rfl) <| .cons (.of_lk rfl) <| .nil) (.nil) ?_)
        refine j_pure (pj_uneq (k := .u8) (b := 8) (has_tmp rfl) (has_tmp rfl)) rfl rfl rfl ?_
        refine j_end ?_
        refine run_cond (has_tmp rfl) (fun e5 => ?_) (fun e5 => ?_)
        · replace h := bt e5 h
          refine run_seq ?_
          refine run_text ?_
          refine j_pure (pj_assign has_bl) rfl rfl rfl ?_
          refine j_end ?_
          obtain rfl := Option.some.inj h
          refine run_ret fun a w hst => ⟨rfl, fun hr => ?_⟩
          subst hr
          exact hq2 a w (q_ret1 hst rfl (.tmp rfl) () (fun _ _ h => h) (.nil))
        · replace h := bf e5 h
          refine run_skip ?_
          refine run_endblock ?_
          refine run_text ?_
          refine j_pure (pj_move (has_tmp rfl)) rfl rfl rfl ?_
          refine j_pure (pj_iadd (has_tmp rfl) has_i64) rfl rfl rfl ?_
          refine j_pure (pj_assign (has_tmp rfl)) rfl rfl rfl ?_
          refine j_end ?_
          obtain rfl := Option.some.inj h
          exact run_next () (.cons (.of_lk rfl) <| .cons (.of_lk rfl) <| .cons (.of_lk rfl) <| .nil) (.nil)
      · replace h := bf e2 h
        obtain rfl := Option.some.inj h
        exact run_brk () (.cons (.of_lk rfl) <| .cons (.of_lk rfl) <| .cons (.of_lk rfl) <| .nil) (.nil)
    · rintro _ y2 ho
      subst ho
      show Run _ _ _ [(0, (sl u8).slot p_a), (1, (sl u8).slot p_b), (5, i64.slot y2)] []
      refine run_to (Γ' := []) (H' := []) (.nil) (.nil) ?_
      refine run_seq ?_
      refine run_text ?_
      refine j_pure (pj_assign has_bl) rfl rfl rfl ?_
      refine j_end ?_
      obtain rfl := Option.some.inj h
      exact run_ret fun a w hst => q_ret1 hst rfl (.tmp rfl) () (fun _ _ h => h) (.nil)
    · intro x a w ho hR
      subst ho
      exact hq1 a w (hR (Option.some.inj h))
set_option maxRecDepth 100000 in
set_option maxHeartbeats 4000000 in
theorem c_slices_Grow_byte_byte_nilsl {G : GP} {p_n : Int} {r : (List (BitVec 8))} (h : slices_Grow_byte_byte_nilsl p_n = some r) : Ctr Tryd.prog G 62 [val (.slice none 0 0), i64.slot p_n] [] (fun (u0 : Value) => ov u0) (fun (u0 : Value) => [own 5 u8 u0 r]) := by
  unfold slices_Grow_byte_byte_nilsl at h
  refine ctr_of_run Tryd.func62 rfl 27 rfl rfl fun m0 w0 b0 => ?_
  show Run _ _ _ [(0, val (.slice none 0 0)), (1, i64.slot p_n)] _
  refine run_seq ?_
  refine run_text ?_
  refine j_assign_nil (T := 5) u8 rfl fun v1 => ?_
  refine j_end ?_
  refine run_seq ?_
  refine run_seq ?_
  refine run_text ?_
  refine j_pure (pj_move (has_tmp rfl)) rfl rfl rfl ?_
  refine j_pure (pj_ilss (has_tmp rfl) has_i64) rfl rfl rfl ?_
  refine j_end ?_
  refine run_cond (has_tmp rfl) (fun e1 => ?_) (fun e1 => ?_)
  · replace h := bt e1 h
    cases h
  · replace h := bf e1 h
    refine run_skip ?_
    refine run_seq ?_
    refine run_seq ?_
    refine run_text ?_
    refine j_pure (pj_move (has_tmp rfl)) rfl rfl rfl ?_
    refine j_pure (pj_move (has_tmp rfl)) rfl rfl rfl ?_
    refine j_pure (pj_cap_val (sz := 1) (has_tmp rfl) (by kernel_rfl)) rfl rfl rfl ?_
    refine j_pure (pj_move (has_tmp rfl)) rfl rfl rfl ?_
    refine j_pure (pj_len_val (sz := 1) (has_tmp rfl) (by kernel_rfl)) rfl rfl rfl ?_
    refine j_pure (pj_isub (has_tmp rfl) (has_tmp rfl)) rfl rfl rfl ?_
    refine j_pure (pj_isub (has_tmp rfl) (has_tmp rfl)) rfl rfl rfl ?_
    obtain ⟨x1, e2, h⟩ := bind_some h
    refine j_pure (PJ.eqv (pj_assign (has_tmp rfl)) (Option.some.inj e2)) rfl rfl rfl ?_
    refine j_end ?_
    refine run_seq ?_
    refine run_text ?_
    refine j_pure (pj_move (has_tmp rfl)) rfl rfl rfl ?_
    refine j_pure (pj_igtr (has_tmp rfl) has_i64) rfl rfl rfl ?_
    refine j_end ?_
    refine run_cond (has_tmp rfl) (fun e3 => ?_) (fun e3 => ?_)
    · replace h := bt e3 h
      refine run_text ?_
      refine j_pure (pj_move (has_tmp rfl)) rfl rfl rfl ?_
      refine j_pure (pj_move (has_tmp rfl)) rfl rfl rfl ?_
      refine j_pure (pj_cap_val (sz := 1) (has_tmp rfl) (by kernel_rfl)) rfl rfl rfl ?_
      refine j_pure (pj_slice_nil (sz := 1) (has_tmp rfl) (has_tmp rfl) isInt_i64 (by kernel_rfl)) rfl rfl rfl ?_
      refine j_pure (pj_move (has_tmp rfl)) rfl rfl rfl ?_
      obtain ⟨e4, h⟩ := grd_some h
      refine j_appendMake (T := 5) (R := u8) (z := (0#8)) (has_tmp rfl) (has_tmp rfl) e4 (by kernel_rfl) (by kernel_rfl) zero_un (by kernel_rfl) (by kernel_rfl) rfl fun v2 => ?_
      refine j_pure (pj_move (has_tmp rfl)) rfl rfl rfl ?_
      refine j_pure (pj_len_val (sz := 1) (has_tmp rfl) (by kernel_rfl)) rfl rfl rfl ?_
      obtain ⟨e5, h⟩ := grd_some h
      refine j_slice_own (has_tmp rfl) .here (has_tmp rfl) isInt_i64 e5.1 e5.2 (by kernel_rfl) rfl fun v3 => ?_
      refine j_pure (pj_assign (has_tmp rfl)) rfl rfl rfl ?_
      refine j_end ?_
      refine run_seq ?_
      refine run_text ?_
      refine j_pure (pj_move (has_tmp rfl)) rfl rfl rfl ?_
      refine j_pure (pj_assign (has_tmp rfl)) rfl rfl rfl ?_
      refine j_end ?_
      obtain rfl := Option.some.inj h
      exact run_ret fun a w hst => q_ret1 hst rfl (.tmp rfl) v3 (fun _ _ h => h) (.cons .here <| .nil)
    · replace h := bf e3 h
      refine run_skip ?_
      refine run_seq ?_
      refine run_text ?_
      refine j_pure (pj_move (has_tmp rfl)) rfl rfl rfl ?_
      refine j_own_nil 5 u8 none (j_pure (pj_assign (has_ov_nil (has_tmp rfl))) rfl rfl rfl ?_)
      refine j_end ?_
      obtain rfl := Option.some.inj h
      exact run_ret fun a w hst => q_ret1 hst rfl (.tmp rfl) (.slice none 0 0) (fun _ _ h => h) (.cons .here <| .nil)
set_option maxRecDepth 100000 in
set_option maxHeartbeats 4000000 in
theorem c_slices_Concat_byte_byte {G : GP} {p_slices : List (List (BitVec 8))} {r : (List (BitVec 8))} (h : slices_Concat_byte_byte p_slices = some r) : Ctr Tryd.prog G 41 [(sl (sl u8)).slot p_slices] [] (fun (u0 : Value) => ov u0) (fun (u0 : Value) => [own 5 u8 u0 r]) := by
  unfold slices_Concat_byte_byte at h
  refine ctr_of_run Tryd.func41 rfl 36 rfl rfl fun m0 w0 b0 => ?_
  show Run _ _ _ [(0, (sl (sl u8)).slot p_slices)] _
  refine run_seq ?_
  refine run_text ?_
  refine j_assign_nil (T := 5) u8 rfl fun v1 => ?_
  refine j_end ?_
  refine run_seq ?_
  refine run_text ?_
  refine j_pure (pj_assign has_i64) rfl rfl rfl ?_
  refine j_end ?_
  refine run_seq ?_
  refine run_seq ?_
  refine run_text ?_
  refine j_pure (pj_move (has_tmp rfl)) rfl rfl rfl ?_
  refine j_pure (pj_len_sl (sz := 1) (has_tmp rfl) (by kernel_rfl)) rfl rfl rfl ?_
  refine j_pure (pj_move has_i64) rfl rfl rfl ?_
  refine j_end ?_
  obtain ⟨⟨y3, y4⟩, e4, h⟩ := bind_some h
  refine run_loopS (Γi := fun (i : Unit) (s : Int × Int) => [(0, (sl (sl u8)).slot p_slices), (3, i64.slot s.1), (9, (sl (sl u8)).slot p_slices), (10, i64.slot (p_slices.length : Int)), (11, i64.slot s.2)]) (Hi := fun (i : Unit) (s : Int × Int) => []) e4 () (fun a w hst => (hst.sub (.cons (.of_lk rfl) <| .cons (.of_lk rfl) <| .cons (.of_lk rfl) <| .cons (.of_lk rfl) <| .cons (.of_lk rfl) <| .nil)).keep (.nil)) ?_ ?_
  · clear h e4
    rintro _ ⟨y1, y2⟩ lr h
    change slices_Concat_byte_byte_L1 p_slices y1 y2 = some _ at h
    show Run _ _ _ [(0, (sl (sl u8)).slot p_slices), (3, i64.slot y1), (9, (sl (sl u8)).slot p_slices), (10, i64.slot (p_slices.length : Int)), (11, i64.slot y2)] []
    unfold slices_Concat_byte_byte_L1 at h
    refine run_seq ?_
    refine run_text ?_
    refine j_pure (pj_ilss (has_tmp rfl) (has_tmp rfl)) rfl rfl rfl ?_
    refine j_end ?_
    refine run_seq ?_
    refine run_cond (has_tmp rfl) (fun e1 => ?_) (fun e1 => ?_)
    · replace h := bt e1 h
      refine run_skip ?_
      refine run_seq ?_
      refine run_block ?_
      refine run_seq ?_
      refine run_text ?_
      obtain ⟨x1, e2, h⟩ := bind_some h
      refine j_pure (pj_index_slx (has_tmp rfl) (has_tmp rfl) isInt_i64 e2 (by kernel_rfl)) rfl rfl rfl ?_
      refine j_pure (pj_load_to (has_tmp rfl) (by kernel_rfl)) rfl rfl rfl ?_
      refine j_pure (pj_assign (has_tmp rfl)) rfl rfl rfl ?_
      refine j_end ?_
      refine run_seq ?_
      refine run_text ?_
      refine j_pure (pj_move (has_tmp rfl)) rfl rfl rfl ?_
      refine j_pure (pj_move (has_tmp rfl)) rfl rfl rfl ?_
      refine j_pure (pj_len_sl (sz := 1) (has_tmp rfl) (by kernel_rfl)) rfl rfl rfl ?_
      refine j_pure (pj_iadd (has_tmp rfl) (has_tmp rfl)) rfl rfl rfl ?_
      refine j_pure (pj_assign (has_tmp rfl)) rfl rfl rfl ?_
      refine j_end ?_
      refine run_seq ?_
      refine run_text ?_
      refine j_pure (pj_move (has_tmp rfl)) rfl rfl rfl ?_
      refine j_pure (pj_ilss (has_tmp rfl) has_i64) rfl rfl rfl ?_
      refine j_end ?_
      refine run_cond (has_tmp rfl) (fun e3 => ?_) (fun e3 => ?_)
      · replace h := bt e3 h
        cases h
      · replace h := bf e3 h
        refine run_skip ?_
        refine run_endblock ?_
        refine run_text ?_
        refine j_pure (pj_iadd (has_tmp rfl) has_i64) rfl rfl rfl ?_
        refine j_pure (pj_move (has_tmp rfl)) rfl rfl rfl ?_
        refine j_end ?_
        obtain rfl := Option.some.inj h
        exact run_next () (.cons (.of_lk rfl) <| .cons (.of_lk rfl) <| .cons (.of_lk rfl) <| .cons (.of_lk rfl) <| .cons (.of_lk rfl) <| .nil) (.nil)
    · replace h := bf e1 h
      obtain rfl := Option.some.inj h
      exact run_brk () (.cons (.of_lk rfl) <| .cons (.of_lk rfl) <| .cons (.of_lk rfl) <| .cons (.of_lk rfl) <| .cons (.of_lk rfl) <| .nil) (.nil)
  · rintro _
    show Run _ _ _ [(0, (sl (sl u8)).slot p_slices), (3, i64.slot y3), (9, (sl (sl u8)).slot p_slices), (10, i64.slot (p_slices.length : Int)), (11, i64.slot y4)] []
    refine run_to (Γ' := [(0, (sl (sl u8)).slot p_slices), (3, i64.slot y3)]) (H' := []) (.cons (.of_lk rfl) <| .cons (.of_lk rfl) <| .nil) (.nil) ?_
    refine run_seq ?_
    refine run_text ?_
    refine j_pure (pj_move (has_tmp rfl)) rfl rfl rfl ?_
    obtain ⟨r1, e5, h⟩ := bind_some h
    refine j_call (hasL_cons has_nilS <| hasL_cons (has_tmp rfl) <| hasL_nil) (by kernel_rfl) (c_slices_Grow_byte_byte_nilsl e5) .nil rfl fun v2 => ?_
    refine j_pure (pj_assign (has_tmp rfl)) rfl rfl rfl ?_
    refine j_end ?_
    refine run_seq ?_
    refine run_seq ?_
    refine run_text ?_
    refine j_pure (pj_move (has_tmp rfl)) rfl rfl rfl ?_
    refine j_pure (pj_len_sl (sz := 1) (has_tmp rfl) (by kernel_rfl)) rfl rfl rfl ?_
    refine j_pure (pj_move has_i64) rfl rfl rfl ?_
    refine j_end ?_
    obtain ⟨⟨y7, y8⟩, e9, h⟩ := bind_some h
    refine run_loopS (Γi := fun (i : Value) (s : Int × (List (BitVec 8))) => [(6, ov i), (25, (sl (sl u8)).slot p_slices), (26, i64.slot (p_slices.length : Int)), (27, i64.slot s.1)]) (Hi := fun (i : Value) (s : Int × (List (BitVec 8))) => [own 5 u8 i s.2]) e9 v2 (fun a w hst => (hst.sub (.cons (.of_lk rfl) <| .cons (.of_lk rfl) <| .cons (.of_lk rfl) <| .cons (.of_lk rfl) <| .nil)).keep (.cons .here <| .nil)) ?_ ?_
    · clear h e9
      rintro v3 ⟨y5, y6⟩ lr h
      change slices_Concat_byte_byte_L2 p_slices y5 y6 = some _ at h
      show Run _ _ _ [(6, ov v3), (25, (sl (sl u8)).slot p_slices), (26, i64.slot (p_slices.length : Int)), (27, i64.slot y5)] [own 5 u8 v3 y6]
      unfold slices_Concat_byte_byte_L2 at h
      refine run_seq ?_
      refine run_text ?_
      refine j_pure (pj_ilss (has_tmp rfl) (has_tmp rfl)) rfl rfl rfl ?_
      refine j_end ?_
      refine run_seq ?_
      refine run_cond (has_tmp rfl) (fun e6 => ?_) (fun e6 => ?_)
      · replace h := bt e6 h
        refine run_skip ?_
        refine run_seq ?_
        refine run_block ?_
        refine run_seq ?_
        refine run_text ?_
        obtain ⟨x2, e7, h⟩ := bind_some h
        refine j_pure (pj_index_slx (has_tmp rfl) (has_tmp rfl) isInt_i64 e7 (by kernel_rfl)) rfl rfl rfl ?_
        refine j_pure (pj_load_to (has_tmp rfl) (by kernel_rfl)) rfl rfl rfl ?_
        refine j_pure (pj_assign (has_tmp rfl)) rfl rfl rfl ?_
        refine j_end ?_
        refine run_text ?_
        refine j_pure (pj_move (has_tmp rfl)) rfl rfl rfl ?_
        refine j_pure (pj_move (has_tmp rfl)) rfl rfl rfl ?_
        obtain ⟨e8, h⟩ := grd_some h
        refine j_append (T := 5) (E := 5) (has_tmp rfl) .here (src_data (has_tmp rfl)) (by kernel_rfl) (by kernel_rfl) e8 rfl fun v4 => ?_
        refine j_pure (pj_assign (has_tmp rfl)) rfl rfl rfl ?_
        refine j_end ?_
        refine run_endblock ?_
        refine run_text ?_
        refine j_pure (pj_iadd (has_tmp rfl) has_i64) rfl rfl rfl ?_
        refine j_pure (pj_move (has_tmp rfl)) rfl rfl rfl ?_
        refine j_end ?_
        obtain rfl := Option.some.inj h
        exact run_next v4 (.cons (.of_lk rfl) <| .cons (.of_lk rfl) <| .cons (.of_lk rfl) <| .cons (.of_lk rfl) <| .nil) (.cons .here <| .nil)
      · replace h := bf e6 h
        obtain rfl := Option.some.inj h
        exact run_brk v3 (.cons (.of_lk rfl) <| .cons (.of_lk rfl) <| .cons (.of_lk rfl) <| .cons (.of_lk rfl) <| .nil) (.cons .here <| .nil)
    · rintro v5
      show Run _ _ _ [(6, ov v5), (25, (sl (sl u8)).slot p_slices), (26, i64.slot (p_slices.length : Int)), (27, i64.slot y7)] [own 5 u8 v5 y8]
      refine run_to (Γ' := [(6, ov v5)]) (H' := [own 5 u8 v5 y8]) (.cons (.of_lk rfl) <| .nil) (.cons .here <| .nil) ?_
      refine run_seq ?_
      refine run_text ?_
      refine j_pure (pj_move (has_tmp rfl)) rfl rfl rfl ?_
      refine j_pure (pj_assign (has_tmp rfl)) rfl rfl rfl ?_
      refine j_end ?_
      obtain rfl := Option.some.inj h
      exact run_ret fun a w hst => q_ret1 hst rfl (.tmp rfl) v5 (fun _ _ h => h) (.cons .here <| .nil)
set_option maxRecDepth 100000 in
set_option maxHeartbeats 4000000 in
theorem c_math_bits_RotateLeft32 {G : GP} {p_x : BitVec 32} {p_k : Int} {r : (BitVec 32)} (h : math_bits_RotateLeft32 p_x p_k = some r) : Ctr Tryd.prog G 97 [u32.slot p_x, i64.slot p_k] [] (fun (_ : Unit) => u32.slot r) (fun (_ : Unit) => []) := by
  unfold math_bits_RotateLeft32 at h
  refine ctr_of_run Tryd.func97 rfl 17 rfl rfl fun m0 w0 b0 => ?_
  show Run _ _ _ [(0, u32.slot p_x), (1, i64.slot p_k)] _
  refine run_seq ?_
  refine run_text ?_
  refine j_pure (pj_assign (has_un (x := 0#32) rfl)) rfl rfl rfl ?_
  refine j_end ?_
  refine run_seq ?_
  refine run_text ?_
  refine j_pure (pj_move (has_tmp rfl)) rfl rfl rfl ?_
  refine j_pure (pj_conv_un (k := .u64) (b := 64) rfl rfl (by kernel_rfl) (has_tmp rfl) isInt_i64) rfl rfl rfl ?_
  refine j_pure (pj_uand (k := .u64) (b := 64) rfl rfl (has_tmp rfl) (has_un (x := 31#64) rfl)) rfl rfl rfl ?_
  refine j_pure (pj_assign (has_tmp rfl)) rfl rfl rfl ?_
  refine j_end ?_
  refine run_seq ?_
  refine run_text ?_
  refine j_pure (pj_move (has_tmp rfl)) rfl rfl rfl ?_
  refine j_pure (pj_move (has_tmp rfl)) rfl rfl rfl ?_
  refine j_pure (pj_ushl (k := .u32) (b := 32) rfl rfl (has_tmp rfl) (has_tmp rfl) isInt_un (Int.natCast_nonneg _)) rfl rfl rfl ?_
  refine j_pure (pj_move (has_tmp rfl)) rfl rfl rfl ?_
  refine j_pure (pj_move (has_tmp rfl)) rfl rfl rfl ?_
  refine j_pure (pj_usub (k := .u64) (b := 64) rfl rfl (has_un (x := 32#64) rfl) (has_tmp rfl)) rfl rfl rfl ?_
  refine j_pure (pj_ushr (k := .u32) (b := 32) rfl (has_tmp rfl) (has_tmp rfl) isInt_un (Int.natCast_nonneg _)) rfl rfl rfl ?_
  refine j_pure (pj_uor (k := .u32) (b := 32) rfl rfl (has_tmp rfl) (has_tmp rfl)) rfl rfl rfl ?_
  obtain ⟨x1, e1, h⟩ := bind_some h
  refine j_pure (PJ.eqv (pj_assign (has_tmp rfl)) (Option.some.inj e1)) rfl rfl rfl ?_
  refine j_end ?_
  obtain rfl := Option.some.inj h
  exact run_ret fun a w hst => q_ret1 hst rfl (.tmp rfl) () (fun _ _ h => h) (.nil)
set_option maxRecDepth 100000 in
set_option maxHeartbeats 4000000 in
theorem c_hash_schedule {G : GP} {p_block : List (BitVec 8)} {r : (Vector (BitVec 32) 64)} (h : hash_schedule p_block = some r) : Ctr Tryd.prog G 96 [(sl u8).slot p_block] [] (fun (_ : Unit) => (vec 64 u32).slot r) (fun (_ : Unit) => []) := by
  unfold hash_schedule at h
  refine ctr_of_run Tryd.func96 rfl 83 rfl rfl fun m0 w0 b0 => ?_
  show Run _ _ _ [(0, (sl u8).slot p_block)] _
  refine run_seq ?_
  refine run_text ?_
  refine j_alloc (x := (Vector.replicate 64 (0#32))) (R := (vec 64 u32)) (zero_vec 64 zero_un) (by kernel_rfl) rfl fun b1 => ?_
  refine j_end ?_
  refine run_seq ?_
  refine run_text ?_
  refine j_alloc (x := (Vector.replicate 64 (0#32))) (R := (vec 64 u32)) (zero_vec 64 zero_un) (by kernel_rfl) rfl fun b2 => ?_
  refine j_end ?_
  refine run_seq ?_
  refine run_seq ?_
  refine run_text ?_
  refine j_pure (pj_move (has_tmp rfl)) rfl rfl rfl ?_
  obtain ⟨x1, e1, h⟩ := bind_some h
  refine j_pure (pj_slice_slx (has_tmp rfl) .no (.yes has_i64 isInt_i64) e1 (by kernel_rfl)) rfl rfl rfl ?_
  refine j_pure (pj_len_sl (sz := 1) (has_tmp rfl) (by kernel_rfl)) rfl rfl rfl ?_
  refine j_pure (pj_move has_i64) rfl rfl rfl ?_
  refine j_end ?_
  obtain ⟨⟨y3, y4⟩, e7, h⟩ := bind_some h
  refine run_loopS (Γi := fun (i : Unit) (s : Int × (Vector (BitVec 32) 64)) => [(2, val (.pointer (some ⟨b1, 0, none⟩))), (3, val (.pointer (some ⟨b2, 0, none⟩))), (10, (sl u8).slot x1), (11, i64.slot (x1.length : Int)), (12, i64.slot s.1)]) (Hi := fun (i : Unit) (s : Int × (Vector (BitVec 32) 64)) => [box b2 151 (vec 64 u32) s.2, box b1 151 (vec 64 u32) (Vector.replicate 64 (0#32))]) e7 () (fun a w hst => (hst.sub (.cons (.of_lk rfl) <| .cons (.of_lk rfl) <| .cons (.of_lk rfl) <| .cons (.of_lk rfl) <| .cons (.of_lk rfl) <| .nil)).keep (.cons .here <| .cons .here <| .nil)) ?_ ?_
  · clear h e7
    rintro _ ⟨y1, y2⟩ lr h
    change hash_schedule_L1 x1 y1 y2 = some _ at h
    show Run _ _ _ [(2, val (.pointer (some ⟨b1, 0, none⟩))), (3, val (.pointer (some ⟨b2, 0, none⟩))), (10, (sl u8).slot x1), (11, i64.slot (x1.length : Int)), (12, i64.slot y1)] [box b2 151 (vec 64 u32) y2, box b1 151 (vec 64 u32) (Vector.replicate 64 (0#32))]
    unfold hash_schedule_L1 at h
    refine run_seq ?_
    refine run_text ?_
    refine j_pure (pj_ilss (has_tmp rfl) (has_tmp rfl)) rfl rfl rfl ?_
    refine j_end ?_
    refine run_seq ?_
    refine run_cond (has_tmp rfl) (fun e2 => ?_) (fun e2 => ?_)
    · replace h := bt e2 h
      refine run_skip ?_
      refine run_seq ?_
      refine run_block ?_
      refine run_seq ?_
      refine run_text ?_
      refine j_pure (pj_move (has_tmp rfl)) rfl rfl rfl ?_
      obtain ⟨x2, e3, h⟩ := bind_some h
      refine j_pure (pj_index_slx (has_tmp rfl) (has_tmp rfl) isInt_i64 e3 (by kernel_rfl)) rfl rfl rfl ?_
      refine j_pure (pj_load_to (has_tmp rfl) (by kernel_rfl)) rfl rfl rfl ?_
      refine j_pure (pj_assign (has_tmp rfl)) rfl rfl rfl ?_
      refine j_pure (pj_assign (has_tmp rfl)) rfl rfl rfl ?_
      refine j_end ?_
      refine run_text ?_
      refine j_pure (pj_move (has_tmp rfl)) rfl rfl rfl ?_
      refine j_pure (pj_iquo (has_tmp rfl) has_i64 (by decide)) rfl rfl rfl ?_
      refine j_pure (pj_move (has_tmp rfl)) rfl rfl rfl ?_
      refine j_pure (pj_iquo (has_tmp rfl) has_i64 (by decide)) rfl rfl rfl ?_
      obtain ⟨x3, e4, h⟩ := bind_some h
      refine j_pure (pj_index_arr (n := 64) (sz := 1) (has_tmp rfl) (has_tmp rfl) isInt_i64 (vget_some e4).1 (vget_lt e4) (by kernel_rfl)) rfl rfl rfl ?_
      refine j_pure (PJ.eqv (pj_load_box (has_tmp rfl) .here (Path.then (Path.all (vec 64 u32)) (Path.atI 64 u32 ((w64 (Int.tdiv y1 (4 : Int))).toNat) (vget_some e4).2.1)) (by kernel_rfl)) (vget_eq e4 (vget_some e4).2.1)) rfl rfl rfl ?_
      refine j_pure (pj_ushl (k := .u32) (b := 32) rfl rfl (has_tmp rfl) (has_un (x := 8#64) rfl) isInt_un (Int.natCast_nonneg _)) rfl rfl rfl ?_
      refine j_pure (pj_move (has_tmp rfl)) rfl rfl rfl ?_
      refine j_pure (pj_conv_uu (k := .u32) (b := 32) rfl rfl (by kernel_rfl) (has_tmp rfl)) rfl rfl rfl ?_
      refine j_pure (pj_uor (k := .u32) (b := 32) rfl rfl (has_tmp rfl) (has_tmp rfl)) rfl rfl rfl ?_
      obtain ⟨e5, h⟩ := grd_some h
      refine j_pure (pj_index_arr (n := 64) (sz := 1) (has_tmp rfl) (has_tmp rfl) isInt_i64 e5.1 e5.2 (by kernel_rfl)) rfl rfl rfl ?_
      obtain ⟨x4, e6, h⟩ := bind_some h
      refine j_store_boxx (r' := x4) (has_tmp rfl) (has_tmp rfl) .here (Path.then (Path.all (vec 64 u32)) (Path.atI 64 u32 ((w64 (Int.tdiv y1 (4 : Int))).toNat) (lt_nat e5))) (by kernel_rfl) (Option.some.inj e6) ?_
      refine j_end ?_
      refine run_endblock ?_
      refine run_text ?_
      refine j_pure (pj_iadd (has_tmp rfl) has_i64) rfl rfl rfl ?_
      refine j_pure (pj_move (has_tmp rfl)) rfl rfl rfl ?_
      refine j_end ?_
      obtain rfl := Option.some.inj h
      exact run_next () (.cons (.of_lk rfl) <| .cons (.of_lk rfl) <| .cons (.of_lk rfl) <| .cons (.of_lk rfl) <| .cons (.of_lk rfl) <| .nil) (.cons .here <| .cons .here <| .nil)
    · replace h := bf e2 h
      obtain rfl := Option.some.inj h
      exact run_brk () (.cons (.of_lk rfl) <| .cons (.of_lk rfl) <| .cons (.of_lk rfl) <| .cons (.of_lk rfl) <| .cons (.of_lk rfl) <| .nil) (.cons .here <| .cons .here <| .nil)
  · rintro _
    show Run _ _ _ [(2, val (.pointer (some ⟨b1, 0, none⟩))), (3, val (.pointer (some ⟨b2, 0, none⟩))), (10, (sl u8).slot x1), (11, i64.slot (x1.length : Int)), (12, i64.slot y3)] [box b2 151 (vec 64 u32) y4, box b1 151 (vec 64 u32) (Vector.replicate 64 (0#32))]
    refine run_to (Γ' := [(2, val (.pointer (some ⟨b1, 0, none⟩))), (3, val (.pointer (some ⟨b2, 0, none⟩)))]) (H' := [box b2 151 (vec 64 u32) y4, box b1 151 (vec 64 u32) (Vector.replicate 64 (0#32))]) (.cons (.of_lk rfl) <| .cons (.of_lk rfl) <| .nil) (.cons .here <| .cons .here <| .nil) ?_
    refine run_seq ?_
    refine run_seq ?_
    refine run_text ?_
    refine j_pure (pj_assign has_i64) rfl rfl rfl ?_
    refine j_end ?_
    obtain ⟨⟨y7, y8⟩, e23, h⟩ := bind_some h
    refine run_loopS (Γi := fun (i : Unit) (s : Int × (Vector (BitVec 32) 64)) => [(2, val (.pointer (some ⟨b1, 0, none⟩))), (3, val (.pointer (some ⟨b2, 0, none⟩))), (6, i64.slot s.1)]) (Hi := fun (i : Unit) (s : Int × (Vector (BitVec 32) 64)) => [box b2 151 (vec 64 u32) s.2, box b1 151 (vec 64 u32) (Vector.replicate 64 (0#32))]) e23 () (fun a w hst => (hst.sub (.cons (.of_lk rfl) <| .cons (.of_lk rfl) <| .cons (.of_lk rfl) <| .nil)).keep (.cons .here <| .cons .here <| .nil)) ?_ ?_
    · clear h e23
      rintro _ ⟨y5, y6⟩ lr h
      change hash_schedule_L2 y5 y6 = some _ at h
      show Run _ _ _ [(2, val (.pointer (some ⟨b1, 0, none⟩))), (3, val (.pointer (some ⟨b2, 0, none⟩))), (6, i64.slot y5)] [box b2 151 (vec 64 u32) y6, box b1 151 (vec 64 u32) (Vector.replicate 64 (0#32))]
      unfold hash_schedule_L2 at h
      refine run_seq ?_
      refine run_seq ?_
      refine run_text ?_
      refine j_pure (pj_move (has_tmp rfl)) rfl rfl rfl ?_
      refine j_pure (pj_ilss (has_tmp rfl) has_i64) rfl rfl rfl ?_
      refine j_end ?_
      refine run_cond (has_tmp rfl) (fun e8 => ?_) (fun e8 => ?_)
      · replace h := bt e8 h
        refine run_skip ?_
        refine run_seq ?_
        refine run_block ?_
        refine run_seq ?_
        obtain ⟨x5, e9, h⟩ := bind_some h
        obtain ⟨r1, e10, h⟩ := bind_some h
        obtain ⟨x6, e11, h⟩ := bind_some h
        obtain ⟨r2, e12, h⟩ := bind_some h
        obtain ⟨x7, e13, h⟩ := bind_some h
        refine run_draw (n := 16) (by kernel_rfl) (by kernel_rfl) (by kernel_rfl) (by kernel_rfl) (.read (.plain rfl (pj_move (has_tmp rfl))) <| .read (.plain rfl (pj_isub (has_tmp rfl) has_i64)) <| .read (.plain rfl (pj_index_arr (n := 64) (sz := 1) (has_tmp rfl) (has_tmp rfl) isInt_i64 (vget_some e9).1 (vget_lt e9) (by kernel_rfl))) <| .read (.plain rfl (PJ.eqv (pj_load_box (has_tmp rfl) .here (Path.then (Path.all (vec 64 u32)) (Path.atI 64 u32 ((w64 (y5 - (15 : Int))).toNat) (vget_some e9).2.1)) (by kernel_rfl)) (vget_eq e9 (vget_some e9).2.1))) <| .read (.plain rfl (pj_call (hasL_cons (has_tmp rfl) <| hasL_cons has_i64 <| hasL_nil) (by kernel_rfl) (c_math_bits_RotateLeft32 e10))) <| .read (.plain rfl (pj_move (has_tmp rfl))) <| .read (.plain rfl (pj_isub (has_tmp rfl) has_i64)) <| .read (.plain rfl (pj_index_arr (n := 64) (sz := 1) (has_tmp rfl) (has_tmp rfl) isInt_i64 (vget_some e11).1 (vget_lt e11) (by kernel_rfl))) <| .read (.plain rfl (PJ.eqv (pj_load_box (has_tmp rfl) .here (Path.then (Path.all (vec 64 u32)) (Path.atI 64 u32 ((w64 (y5 - (15 : Int))).toNat) (vget_some e11).2.1)) (by kernel_rfl)) (vget_eq e11 (vget_some e11).2.1))) <| .read (.plain rfl (pj_call (hasL_cons (has_tmp rfl) <| hasL_cons has_i64 <| hasL_nil) (by kernel_rfl) (c_math_bits_RotateLeft32 e12))) <| .read (.plain rfl (pj_uxor (k := .u32) (b := 32) rfl rfl (has_tmp rfl) (has_tmp rfl))) <| .read (.plain rfl (pj_move (has_tmp rfl))) <| .read (.plain rfl (pj_isub (has_tmp rfl) has_i64)) <| .read (.plain rfl (pj_index_arr (n := 64) (sz := 1) (has_tmp rfl) (has_tmp rfl) isInt_i64 (vget_some e13).1 (vget_lt e13) (by kernel_rfl))) <| .read (.plain rfl (PJ.eqv (pj_load_box (has_tmp rfl) .here (Path.then (Path.all (vec 64 u32)) (Path.atI 64 u32 ((w64 (y5 - (15 : Int))).toNat) (vget_some e13).2.1)) (by kernel_rfl)) (vget_eq e13 (vget_some e13).2.1))) <| .read (.plain rfl (pj_ushr (k := .u32) (b := 32) rfl (has_tmp rfl) (has_un (x := 3#64) rfl) isInt_un (Int.natCast_nonneg _))) <| .nil) (j_to (Γ' := [(2, val (.pointer (some ⟨b1, 0, none⟩))), (3, val (.pointer (some ⟨b2, 0, none⟩))), (6, i64.slot y5), (43, u32.slot (r1 ^^^ r2)), (48, u32.slot (x7 >>> 3))]) (H' := [box b2 151 (vec 64 u32) y6, box b1 151 (vec 64 u32) (Vector.replicate 64 (0#32))]) (.cons (.of_lk rfl) <| .cons (.of_lk rfl) <| .cons (.of_lk rfl) <| .cons (.of_lk rfl) <| .cons (.of_lk rfl) <| .nil) (.cons .here <| .cons .here <| .nil) ?_)
        refine j_pure (pj_uxor (k := .u32) (b := 32) rfl rfl (has_tmp rfl) (has_tmp rfl)) rfl rfl rfl ?_
        refine j_pure (pj_assign (has_tmp rfl)) rfl rfl rfl ?_
        refine j_end ?_
        refine run_seq ?_
        obtain ⟨x8, e14, h⟩ := bind_some h
        obtain ⟨r3, e15, h⟩ := bind_some h
        obtain ⟨x9, e16, h⟩ := bind_some h
        obtain ⟨r4, e17, h⟩ := bind_some h
        obtain ⟨x10, e18, h⟩ := bind_some h
        refine run_draw (n := 16) (by kernel_rfl) (by kernel_rfl) (by kernel_rfl) (by kernel_rfl) (.read (.plain rfl (pj_move (has_tmp rfl))) <| .read (.plain rfl (pj_isub (has_tmp rfl) has_i64)) <| .read (.plain rfl (pj_index_arr (n := 64) (sz := 1) (has_tmp rfl) (has_tmp rfl) isInt_i64 (vget_some e14).1 (vget_lt e14) (by kernel_rfl))) <| .read (.plain rfl (PJ.eqv (pj_load_box (has_tmp rfl) .here (Path.then (Path.all (vec 64 u32)) (Path.atI 64 u32 ((w64 (y5 - (2 : Int))).toNat) (vget_some e14).2.1)) (by kernel_rfl)) (vget_eq e14 (vget_some e14).2.1))) <| .read (.plain rfl (pj_call (hasL_cons (has_tmp rfl) <| hasL_cons has_i64 <| hasL_nil) (by kernel_rfl) (c_math_bits_RotateLeft32 e15))) <| .read (.plain rfl (pj_move (has_tmp rfl))) <| .read (.plain rfl (pj_isub (has_tmp rfl) has_i64)) <| .read (.plain rfl (pj_index_arr (n := 64) (sz := 1) (has_tmp rfl) (has_tmp rfl) isInt_i64 (vget_some e16).1 (vget_lt e16) (by kernel_rfl))) <| .read (.plain rfl (PJ.eqv (pj_load_box (has_tmp rfl) .here (Path.then (Path.all (vec 64 u32)) (Path.atI 64 u32 ((w64 (y5 - (2 : Int))).toNat) (vget_some e16).2.1)) (by kernel_rfl)) (vget_eq e16 (vget_some e16).2.1))) <| .read (.plain rfl (pj_call (hasL_cons (has_tmp rfl) <| hasL_cons has_i64 <| hasL_nil) (by kernel_rfl) (c_math_bits_RotateLeft32 e17))) <| .read (.plain rfl (pj_uxor (k := .u32) (b := 32) rfl rfl (has_tmp rfl) (has_tmp rfl))) <| .read (.plain rfl (pj_move (has_tmp rfl))) <| .read (.plain rfl (pj_isub (has_tmp rfl) has_i64)) <| .read (.plain rfl (pj_index_arr (n := 64) (sz := 1) (has_tmp rfl) (has_tmp rfl) isInt_i64 (vget_some e18).1 (vget_lt e18) (by kernel_rfl))) <| .read (.plain rfl (PJ.eqv (pj_load_box (has_tmp rfl) .here (Path.then (Path.all (vec 64 u32)) (Path.atI 64 u32 ((w64 (y5 - (2 : Int))).toNat) (vget_some e18).2.1)) (by kernel_rfl)) (vget_eq e18 (vget_some e18).2.1))) <| .read (.plain rfl (pj_ushr (k := .u32) (b := 32) rfl (has_tmp rfl) (has_un (x := 10#64) rfl) isInt_un (Int.natCast_nonneg _))) <| .nil) (j_to (Γ' := [(2, val (.pointer (some ⟨b1, 0, none⟩))), (3, val (.pointer (some ⟨b2, 0, none⟩))), (6, i64.slot y5), (7, u32.slot ((r1 ^^^ r2) ^^^ (x7 >>> 3))), (60, u32.slot (r3 ^^^ r4)), (65, u32.slot (x10 >>> 10))]) (H' := [box b2 151 (vec 64 u32) y6, box b1 151 (vec 64 u32) (Vector.replicate 64 (0#32))]) (.cons (.of_lk rfl) <| .cons (.of_lk rfl) <| .cons (.of_lk rfl) <| .cons (.of_lk rfl) <| .cons (.of_lk rfl) <| .cons (.of_lk rfl) <| .nil) (.cons .here <| .cons .here <| .nil) ?_)
        refine j_pure (pj_uxor (k := .u32) (b := 32) rfl rfl (has_tmp rfl) (has_tmp rfl)) rfl rfl rfl ?_
        refine j_pure (pj_assign (has_tmp rfl)) rfl rfl rfl ?_
        refine j_end ?_
        obtain ⟨x11, e19, h⟩ := bind_some h
        obtain ⟨x12, e20, h⟩ := bind_some h
        refine run_draw (n := 14) (by kernel_rfl) (by kernel_rfl) (by kernel_rfl) (by kernel_rfl) (.read (.plain rfl (pj_move (has_tmp rfl))) <| .read (.plain rfl (pj_move (has_tmp rfl))) <| .read (.plain rfl (pj_isub (has_tmp rfl) has_i64)) <| .read (.plain rfl (pj_index_arr (n := 64) (sz := 1) (has_tmp rfl) (has_tmp rfl) isInt_i64 (vget_some e19).1 (vget_lt e19) (by kernel_rfl))) <| .read (.plain rfl (PJ.eqv (pj_load_box (has_tmp rfl) .here (Path.then (Path.all (vec 64 u32)) (Path.atI 64 u32 ((w64 (y5 - (16 : Int))).toNat) (vget_some e19).2.1)) (by kernel_rfl)) (vget_eq e19 (vget_some e19).2.1))) <| .read (.plain rfl (pj_move (has_tmp rfl))) <| .read (.plain rfl (pj_uadd (k := .u32) (b := 32) rfl rfl (has_tmp rfl) (has_tmp rfl))) <| .read (.plain rfl (pj_move (has_tmp rfl))) <| .read (.plain rfl (pj_isub (has_tmp rfl) has_i64)) <| .read (.plain rfl (pj_index_arr (n := 64) (sz := 1) (has_tmp rfl) (has_tmp rfl) isInt_i64 (vget_some e20).1 (vget_lt e20) (by kernel_rfl))) <| .read (.plain rfl (PJ.eqv (pj_load_box (has_tmp rfl) .here (Path.then (Path.all (vec 64 u32)) (Path.atI 64 u32 ((w64 (y5 - (7 : Int))).toNat) (vget_some e20).2.1)) (by kernel_rfl)) (vget_eq e20 (vget_some e20).2.1))) <| .read (.plain rfl (pj_uadd (k := .u32) (b := 32) rfl rfl (has_tmp rfl) (has_tmp rfl))) <| .read (.plain rfl (pj_move (has_tmp rfl))) <| .read (.plain rfl (pj_uadd (k := .u32) (b := 32) rfl rfl (has_tmp rfl) (has_tmp rfl))) <| .nil) (j_to (Γ' := [(2, val (.pointer (some ⟨b1, 0, none⟩))), (3, val (.pointer (some ⟨b2, 0, none⟩))), (6, i64.slot y5), (67, i64.slot y5), (80, u32.slot (((x11 + ((r1 ^^^ r2) ^^^ (x7 >>> 3))) + x12) + ((r3 ^^^ r4) ^^^ (x10 >>> 10))))]) (H' := [box b2 151 (vec 64 u32) y6, box b1 151 (vec 64 u32) (Vector.replicate 64 (0#32))]) (.cons (.of_lk rfl) <| .cons (.of_lk rfl) <| .cons (.of_lk rfl) <| .cons (.of_lk rfl) <| .cons (.of_lk rfl) <| .nil) (.cons .here <| .cons .here <| .nil) ?_)
        obtain ⟨e21, h⟩ := grd_some h
        refine j_pure (pj_index_arr (n := 64) (sz := 1) (has_tmp rfl) (has_tmp rfl) isInt_i64 e21.1 e21.2 (by kernel_rfl)) rfl rfl rfl ?_
        obtain ⟨x13, e22, h⟩ := bind_some h
        refine j_store_boxx (r' := x13) (has_tmp rfl) (has_tmp rfl) .here (Path.then (Path.all (vec 64 u32)) (Path.atI 64 u32 y5.toNat (lt_nat e21))) (by kernel_rfl) (Option.some.inj e22) ?_
        refine j_end ?_
        refine run_endblock ?_
        refine run_text ?_
        refine j_pure (pj_move (has_tmp rfl)) rfl rfl rfl ?_
        refine j_pure (pj_iadd (has_tmp rfl) has_i64) rfl rfl rfl ?_
        refine j_pure (pj_assign (has_tmp rfl)) rfl rfl rfl ?_
        refine j_end ?_
        obtain rfl := Option.some.inj h
        exact run_next () (.cons (.of_lk rfl) <| .cons (.of_lk rfl) <| .cons (.of_lk rfl) <| .nil) (.cons .here <| .cons .here <| .nil)
      · replace h := bf e8 h
        obtain rfl := Option.some.inj h
        exact run_brk () (.cons (.of_lk rfl) <| .cons (.of_lk rfl) <| .cons (.of_lk rfl) <| .nil) (.cons .here <| .cons .here <| .nil)
    · rintro _
      show Run _ _ _ [(2, val (.pointer (some ⟨b1, 0, none⟩))), (3, val (.pointer (some ⟨b2, 0, none⟩))), (6, i64.slot y7)] [box b2 151 (vec 64 u32) y8, box b1 151 (vec 64 u32) (Vector.replicate 64 (0#32))]
      refine run_to (Γ' := [(2, val (.pointer (some ⟨b1, 0, none⟩))), (3, val (.pointer (some ⟨b2, 0, none⟩)))]) (H' := [box b2 151 (vec 64 u32) y8, box b1 151 (vec 64 u32) (Vector.replicate 64 (0#32))]) (.cons (.of_lk rfl) <| .cons (.of_lk rfl) <| .nil) (.cons .here <| .cons .here <| .nil) ?_
      refine run_seq ?_
      refine run_text ?_
      refine j_pure (pj_load_box (has_tmp rfl) .here (Path.all (vec 64 u32)) (by kernel_rfl)) rfl rfl rfl ?_
      refine j_store_boxx (r' := y8) (has_tmp rfl) (has_tmp rfl) (.next .here) (Path.all (vec 64 u32)) (by kernel_rfl) rfl ?_
      refine j_end ?_
      obtain rfl := Option.some.inj h
      exact run_ret fun a w hst => q_ret1 hst rfl (.cell rfl .here (by kernel_rfl)) () (fun _ _ h => h) (.nil)
set_option maxRecDepth 100000 in
set_option maxHeartbeats 4000000 in
theorem c_hash_state_block {G : GP} (hg1 : HG1 G) {p_s : T_hash_state} {p_b : List (BitVec 8)} {r : T_hash_state} (h : hash_state_block p_s p_b = some r) : Ctr Tryd.prog G 71 [R_hash_state.slot p_s, (sl u8).slot p_b] [] (fun (_ : Unit) => R_hash_state.slot r) (fun (_ : Unit) => []) := by
  unfold hash_state_block at h
  refine ctr_of_run Tryd.func71 rfl 115 rfl rfl fun m0 w0 b0 => ?_
  show Run _ _ _ [(0, R_hash_state.slot p_s), (1, (sl u8).slot p_b)] _
  refine run_seq ?_
  refine run_text ?_
  refine j_box (has_tmp rfl) rfl fun b1 => ?_
  refine j_alloc (x := (Vector.replicate 8 (0#32))) (R := R_hash_state) (zero_vec 8 zero_un) (by kernel_rfl) rfl fun b2 => ?_
  refine j_end ?_
  refine run_seq ?_
  refine run_text ?_
  refine j_pure (pj_move (has_tmp rfl)) rfl rfl rfl ?_
  obtain ⟨r1, e1, h⟩ := bind_some h
  refine j_pure (pj_call (hasL_cons (has_tmp rfl) <| hasL_nil) (by kernel_rfl) (c_hash_schedule e1)) rfl rfl rfl ?_
  refine j_alloc (x := (Vector.replicate 64 (0#32))) (R := (vec 64 u32)) (zero_vec 64 zero_un) (by kernel_rfl) rfl fun b3 => ?_
  refine j_store_boxx (r' := r1) (has_tmp rfl) (has_tmp rfl) .here (Path.all (vec 64 u32)) (by kernel_rfl) rfl ?_
  refine j_freezeTo (t := 5) .here (.of_lk rfl) ?_
  refine j_end ?_
  refine run_seq ?_
  refine run_text ?_
  refine j_pure (pj_load_box (has_tmp rfl) (.next .here) (Path.all R_hash_state) (by kernel_rfl)) rfl rfl rfl ?_
  refine j_alloc (x := (Vector.replicate 8 (0#32))) (R := R_hash_state) (zero_vec 8 zero_un) (by kernel_rfl) rfl fun b4 => ?_
  refine j_store_boxx (r' := p_s) (has_tmp rfl) (has_tmp rfl) .here (Path.all R_hash_state) (by kernel_rfl) rfl ?_
  refine j_end ?_
  refine run_seq ?_
  refine run_seq ?_
  refine run_text ?_
  refine j_pure (pj_move has_i64) rfl rfl rfl ?_
  refine j_end ?_
  obtain ⟨⟨y3, y4⟩, e14, h⟩ := bind_some h
  refine run_loopS (Γi := fun (i : Unit) (s : Int × T_hash_state) => [(2, val (.pointer (some ⟨b1, 0, none⟩))), (4, val (.pointer (some ⟨b2, 0, none⟩))), (5, ptrTo (vec 64 u32) r1), (6, val (.pointer (some ⟨b4, 0, none⟩))), (16, i64.slot s.1)]) (Hi := fun (i : Unit) (s : Int × T_hash_state) => [box b4 127 R_hash_state s.2, box b2 127 R_hash_state (Vector.replicate 8 (0#32)), box b1 127 R_hash_state p_s]) e14 () (fun a w hst => (hst.sub (.cons (.of_lk rfl) <| .cons (.of_lk rfl) <| .cons (.of_lk rfl) <| .cons (.of_lk rfl) <| .cons (.of_lk rfl) <| .nil)).keep (.cons .here <| .cons .here <| .cons .here <| .nil)) ?_ ?_
  · clear h e14
    rintro _ ⟨y1, y2⟩ lr h
    change hash_state_block_L1 r1 y1 y2 = some _ at h
    show Run _ _ _ [(2, val (.pointer (some ⟨b1, 0, none⟩))), (4, val (.pointer (some ⟨b2, 0, none⟩))), (5, ptrTo (vec 64 u32) r1), (6, val (.pointer (some ⟨b4, 0, none⟩))), (16, i64.slot y1)] [box b4 127 R_hash_state y2, box b2 127 R_hash_state (Vector.replicate 8 (0#32)), box b1 127 R_hash_state p_s]
    unfold hash_state_block_L1 at h
    refine run_seq ?_
    refine run_text ?_
    refine j_pure (pj_ilss (has_tmp rfl) has_i64) rfl rfl rfl ?_
    refine j_end ?_
    refine run_seq ?_
    refine run_cond (has_tmp rfl) (fun e2 => ?_) (fun e2 => ?_)
    · replace h := bt e2 h
      refine run_skip ?_
      refine run_seq ?_
      refine run_block ?_
      refine run_seq ?_
      refine run_text ?_
      refine j_pure (pj_move (has_tmp rfl)) rfl rfl rfl ?_
      refine j_pure (pj_assign (has_tmp rfl)) rfl rfl rfl ?_
      refine j_end ?_
      refine run_seq ?_
      obtain ⟨r2, e3, h⟩ := bind_some h
      obtain ⟨r3, e4, h⟩ := bind_some h
      obtain ⟨r4, e5, h⟩ := bind_some h
      refine run_draw (n := 10) (by kernel_rfl) (by kernel_rfl) (by kernel_rfl) (by kernel_rfl) (.read (.plain rfl (pj_index_arr (n := 8) (sz := 1) (has_tmp rfl) has_i64 isInt_i64 (by decide) (by decide) (by kernel_rfl))) <| .read (.plain rfl (pj_load_box (has_tmp rfl) .here (Path.then (Path.all R_hash_state) (Path.at 8 u32 4 (by decide))) (by kernel_rfl))) <| .read (.plain rfl (pj_call (hasL_cons (has_tmp rfl) <| hasL_cons has_i64 <| hasL_nil) (by kernel_rfl) (c_math_bits_RotateLeft32 e3))) <| .read (.plain rfl (pj_index_arr (n := 8) (sz := 1) (has_tmp rfl) has_i64 isInt_i64 (by decide) (by decide) (by kernel_rfl))) <| .read (.plain rfl (pj_load_box (has_tmp rfl) .here (Path.then (Path.all R_hash_state) (Path.at 8 u32 4 (by decide))) (by kernel_rfl))) <| .read (.plain rfl (pj_call (hasL_cons (has_tmp rfl) <| hasL_cons has_i64 <| hasL_nil) (by kernel_rfl) (c_math_bits_RotateLeft32 e4))) <| .read (.plain rfl (pj_uxor (k := .u32) (b := 32) rfl rfl (has_tmp rfl) (has_tmp rfl))) <| .read (.plain rfl (pj_index_arr (n := 8) (sz := 1) (has_tmp rfl) has_i64 isInt_i64 (by decide) (by decide) (by kernel_rfl))) <| .read (.plain rfl (pj_load_box (has_tmp rfl) .here (Path.then (Path.all R_hash_state) (Path.at 8 u32 4 (by decide))) (by kernel_rfl))) <| .read (.plain rfl (pj_call (hasL_cons (has_tmp rfl) <| hasL_cons has_i64 <| hasL_nil) (by kernel_rfl) (c_math_bits_RotateLeft32 e5))) <| .nil) (j_to (Γ' := [(2, val (.pointer (some ⟨b1, 0, none⟩))), (4, val (.pointer (some ⟨b2, 0, none⟩))), (5, ptrTo (vec 64 u32) r1), (6, val (.pointer (some ⟨b4, 0, none⟩))), (7, i64.slot y1), (16, i64.slot y1), (25, u32.slot (r2 ^^^ r3)), (28, u32.slot r4)]) (H' := [box b4 127 R_hash_state y2, box b2 127 R_hash_state (Vector.replicate 8 (0#32)), box b1 127 R_hash_state p_s]) (.cons (.of_lk rfl) <| .cons (.of_lk rfl) <| .cons (.of_lk rfl) <| .cons (.of_lk rfl) <| .cons (.of_lk rfl) <| .cons (.of_lk rfl) <| .cons (.of_lk rfl) <| .cons (.of_lk rfl) <| .nil) (.cons .here <| .cons .here <| .cons .here <| .nil) ?_)
      refine j_pure (pj_uxor (k := .u32) (b := 32) rfl rfl (has_tmp rfl) (has_tmp rfl)) rfl rfl rfl ?_
      refine j_pure (pj_assign (has_tmp rfl)) rfl rfl rfl ?_
      refine j_end ?_
      refine run_seq ?_
      obtain ⟨x1, e6, h⟩ := bind_some h
      obtain ⟨x2, e7, h⟩ := bind_some h
      refine run_draw (n := 23) (by kernel_rfl) (by kernel_rfl) (by kernel_rfl) (by kernel_rfl) (.read (.plain rfl (pj_index_arr (n := 8) (sz := 1) (has_tmp rfl) has_i64 isInt_i64 (by decide) (by decide) (by kernel_rfl))) <| .read (.plain rfl (pj_load_box (has_tmp rfl) .here (Path.then (Path.all R_hash_state) (Path.at 8 u32 7 (by decide))) (by kernel_rfl))) <| .read (.plain rfl (pj_move (has_tmp rfl))) <| .read (.plain rfl (pj_uadd (k := .u32) (b := 32) rfl rfl (has_tmp rfl) (has_tmp rfl))) <| .read (.plain rfl (pj_index_arr (n := 8) (sz := 1) (has_tmp rfl) has_i64 isInt_i64 (by decide) (by decide) (by kernel_rfl))) <| .read (.plain rfl (pj_load_box (has_tmp rfl) .here (Path.then (Path.all R_hash_state) (Path.at 8 u32 6 (by decide))) (by kernel_rfl))) <| .read (.plain rfl (pj_index_arr (n := 8) (sz := 1) (has_tmp rfl) has_i64 isInt_i64 (by decide) (by decide) (by kernel_rfl))) <| .read (.plain rfl (pj_load_box (has_tmp rfl) .here (Path.then (Path.all R_hash_state) (Path.at 8 u32 4 (by decide))) (by kernel_rfl))) <| .read (.plain rfl (pj_index_arr (n := 8) (sz := 1) (has_tmp rfl) has_i64 isInt_i64 (by decide) (by decide) (by kernel_rfl))) <| .read (.plain rfl (pj_load_box (has_tmp rfl) .here (Path.then (Path.all R_hash_state) (Path.at 8 u32 5 (by decide))) (by kernel_rfl))) <| .read (.plain rfl (pj_index_arr (n := 8) (sz := 1) (has_tmp rfl) has_i64 isInt_i64 (by decide) (by decide) (by kernel_rfl))) <| .read (.plain rfl (pj_load_box (has_tmp rfl) .here (Path.then (Path.all R_hash_state) (Path.at 8 u32 6 (by decide))) (by kernel_rfl))) <| .read (.plain rfl (pj_uxor (k := .u32) (b := 32) rfl rfl (has_tmp rfl) (has_tmp rfl))) <| .read (.plain rfl (pj_uand (k := .u32) (b := 32) rfl rfl (has_tmp rfl) (has_tmp rfl))) <| .read (.plain rfl (pj_uxor (k := .u32) (b := 32) rfl rfl (has_tmp rfl) (has_tmp rfl))) <| .read (.plain rfl (pj_uadd (k := .u32) (b := 32) rfl rfl (has_tmp rfl) (has_tmp rfl))) <| .read (.plain rfl (pj_move (has_tmp rfl))) <| .read (.plain rfl (pj_index_gx (v := G_hash_rounds) hg1 (has_tmp rfl) isInt_i64 e6 (by kernel_rfl))) <| .read (.plain rfl (pj_load_to (has_tmp rfl) (by kernel_rfl))) <| .read (.plain rfl (pj_uadd (k := .u32) (b := 32) rfl rfl (has_tmp rfl) (has_tmp rfl))) <| .read (.plain rfl (pj_move (has_tmp rfl))) <| .read (.plain rfl (pj_index_tox (has_tmp rfl) (has_tmp rfl) isInt_i64 e7 (by kernel_rfl))) <| .read (.plain rfl (pj_load_to (has_tmp rfl) (by kernel_rfl))) <| .nil) (j_to (Γ' := [(2, val (.pointer (some ⟨b1, 0, none⟩))), (4, val (.pointer (some ⟨b2, 0, none⟩))), (5, ptrTo (vec 64 u32) r1), (6, val (.pointer (some ⟨b4, 0, none⟩))), (16, i64.slot y1), (49, u32.slot ((((y2[7]) + ((r2 ^^^ r3) ^^^ r4)) + ((y2[6]) ^^^ ((y2[4]) &&& ((y2[5]) ^^^ (y2[6]))))) + x1)), (52, u32.slot x2)]) (H' := [box b4 127 R_hash_state y2, box b2 127 R_hash_state (Vector.replicate 8 (0#32)), box b1 127 R_hash_state p_s]) (.cons (.of_lk rfl) <| .cons (.of_lk rfl) <| .cons (.of_lk rfl) <| .cons (.of_lk rfl) <| .cons (.of_lk rfl) <| .cons (.of_lk rfl) <| .cons (.of_lk rfl) <| .nil) (.cons .here <| .cons .here <| .cons .here <| .nil) ?_)
      refine j_pure (pj_uadd (k := .u32) (b := 32) rfl rfl (has_tmp rfl) (has_tmp rfl)) rfl rfl rfl ?_
      obtain ⟨x3, e8, h⟩ := bind_some h
      refine j_pure (PJ.eqv (pj_assign (has_tmp rfl)) (Option.some.inj e8)) rfl rfl rfl ?_
      refine j_end ?_
      refine run_seq ?_
      obtain ⟨r5, e9, h⟩ := bind_some h
      obtain ⟨r6, e10, h⟩ := bind_some h
      obtain ⟨r7, e11, h⟩ := bind_some h
      refine run_draw (n := 10) (by kernel_rfl) (by kernel_rfl) (by kernel_rfl) (by kernel_rfl) (.read (.plain rfl (pj_index_arr (n := 8) (sz := 1) (has_tmp rfl) has_i64 isInt_i64 (by decide) (by decide) (by kernel_rfl))) <| .read (.plain rfl (pj_load_box (has_tmp rfl) .here (Path.then (Path.all R_hash_state) (Path.at 8 u32 0 (by decide))) (by kernel_rfl))) <| .read (.plain rfl (pj_call (hasL_cons (has_tmp rfl) <| hasL_cons has_i64 <| hasL_nil) (by kernel_rfl) (c_math_bits_RotateLeft32 e9))) <| .read (.plain rfl (pj_index_arr (n := 8) (sz := 1) (has_tmp rfl) has_i64 isInt_i64 (by decide) (by decide) (by kernel_rfl))) <| .read (.plain rfl (pj_load_box (has_tmp rfl) .here (Path.then (Path.all R_hash_state) (Path.at 8 u32 0 (by decide))) (by kernel_rfl))) <| .read (.plain rfl (pj_call (hasL_cons (has_tmp rfl) <| hasL_cons has_i64 <| hasL_nil) (by kernel_rfl) (c_math_bits_RotateLeft32 e10))) <| .read (.plain rfl (pj_uxor (k := .u32) (b := 32) rfl rfl (has_tmp rfl) (has_tmp rfl))) <| .read (.plain rfl (pj_index_arr (n := 8) (sz := 1) (has_tmp rfl) has_i64 isInt_i64 (by decide) (by decide) (by kernel_rfl))) <| .read (.plain rfl (pj_load_box (has_tmp rfl) .here (Path.then (Path.all R_hash_state) (Path.at 8 u32 0 (by decide))) (by kernel_rfl))) <| .read (.plain rfl (pj_call (hasL_cons (has_tmp rfl) <| hasL_cons has_i64 <| hasL_nil) (by kernel_rfl) (c_math_bits_RotateLeft32 e11))) <| .nil) (j_to (Γ' := [(2, val (.pointer (some ⟨b1, 0, none⟩))), (4, val (.pointer (some ⟨b2, 0, none⟩))), (5, ptrTo (vec 64 u32) r1), (6, val (.pointer (some ⟨b4, 0, none⟩))), (9, u32.slot x3), (16, i64.slot y1), (60, u32.slot (r5 ^^^ r6)), (63, u32.slot r7)]) (H' := [box b4 127 R_hash_state y2, box b2 127 R_hash_state (Vector.replicate 8 (0#32)), box b1 127 R_hash_state p_s]) (.cons (.of_lk rfl) <| .cons (.of_lk rfl) <| .cons (.of_lk rfl) <| .cons (.of_lk rfl) <| .cons (.of_lk rfl) <| .cons (.of_lk rfl) <| .cons (.of_lk rfl) <| .cons (.of_lk rfl) <| .nil) (.cons .here <| .cons .here <| .cons .here <| .nil) ?_)
      refine j_pure (pj_uxor (k := .u32) (b := 32) rfl rfl (has_tmp rfl) (has_tmp rfl)) rfl rfl rfl ?_
      refine j_pure (pj_assign (has_tmp rfl)) rfl rfl rfl ?_
      refine j_end ?_
      refine run_seq ?_
      refine run_text ?_
      refine j_pure (pj_move (has_tmp rfl)) rfl rfl rfl ?_
      refine j_pure (pj_index_arr (n := 8) (sz := 1) (has_tmp rfl) has_i64 isInt_i64 (by decide) (by decide) (by kernel_rfl)) rfl rfl rfl ?_
      refine j_pure (pj_load_box (has_tmp rfl) .here (Path.then (Path.all R_hash_state) (Path.at 8 u32 0 (by decide))) (by kernel_rfl)) rfl rfl rfl ?_
      refine j_pure (pj_index_arr (n := 8) (sz := 1) (has_tmp rfl) has_i64 isInt_i64 (by decide) (by decide) (by kernel_rfl)) rfl rfl rfl ?_
      refine j_pure (pj_load_box (has_tmp rfl) .here (Path.then (Path.all R_hash_state) (Path.at 8 u32 1 (by decide))) (by kernel_rfl)) rfl rfl rfl ?_
      refine j_pure (pj_uand (k := .u32) (b := 32) rfl rfl (has_tmp rfl) (has_tmp rfl)) rfl rfl rfl ?_
      refine j_pure (pj_index_arr (n := 8) (sz := 1) (has_tmp rfl) has_i64 isInt_i64 (by decide) (by decide) (by kernel_rfl)) rfl rfl rfl ?_
      refine j_pure (pj_load_box (has_tmp rfl) .here (Path.then (Path.all R_hash_state) (Path.at 8 u32 2 (by decide))) (by kernel_rfl)) rfl rfl rfl ?_
      refine j_pure (pj_index_arr (n := 8) (sz := 1) (has_tmp rfl) has_i64 isInt_i64 (by decide) (by decide) (by kernel_rfl)) rfl rfl rfl ?_
      refine j_pure (pj_load_box (has_tmp rfl) .here (Path.then (Path.all R_hash_state) (Path.at 8 u32 0 (by decide))) (by kernel_rfl)) rfl rfl rfl ?_
      refine j_pure (pj_index_arr (n := 8) (sz := 1) (has_tmp rfl) has_i64 isInt_i64 (by decide) (by decide) (by kernel_rfl)) rfl rfl rfl ?_
      refine j_pure (pj_load_box (has_tmp rfl) .here (Path.then (Path.all R_hash_state) (Path.at 8 u32 1 (by decide))) (by kernel_rfl)) rfl rfl rfl ?_
      refine j_pure (pj_uor (k := .u32) (b := 32) rfl rfl (has_tmp rfl) (has_tmp rfl)) rfl rfl rfl ?_
      refine j_pure (pj_uand (k := .u32) (b := 32) rfl rfl (has_tmp rfl) (has_tmp rfl)) rfl rfl rfl ?_
      refine j_pure (pj_uor (k := .u32) (b := 32) rfl rfl (has_tmp rfl) (has_tmp rfl)) rfl rfl rfl ?_
      refine j_pure (pj_uadd (k := .u32) (b := 32) rfl rfl (has_tmp rfl) (has_tmp rfl)) rfl rfl rfl ?_
      obtain ⟨x4, e12, h⟩ := bind_some h
      refine j_pure (PJ.eqv (pj_assign (has_tmp rfl)) (Option.some.inj e12)) rfl rfl rfl ?_
      refine j_end ?_
      refine run_text ?_
      refine j_pure (pj_move (has_tmp rfl)) rfl rfl rfl ?_
      refine j_pure (pj_move (has_tmp rfl)) rfl rfl rfl ?_
      refine j_pure (pj_uadd (k := .u32) (b := 32) rfl rfl (has_tmp rfl) (has_tmp rfl)) rfl rfl rfl ?_
      refine j_pure (pj_index_arr (n := 8) (sz := 1) (has_tmp rfl) has_i64 isInt_i64 (by decide) (by decide) (by kernel_rfl)) rfl rfl rfl ?_
      refine j_pure (pj_load_box (has_tmp rfl) .here (Path.then (Path.all R_hash_state) (Path.at 8 u32 0 (by decide))) (by kernel_rfl)) rfl rfl rfl ?_
      refine j_pure (pj_index_arr (n := 8) (sz := 1) (has_tmp rfl) has_i64 isInt_i64 (by decide) (by decide) (by kernel_rfl)) rfl rfl rfl ?_
      refine j_pure (pj_load_box (has_tmp rfl) .here (Path.then (Path.all R_hash_state) (Path.at 8 u32 1 (by decide))) (by kernel_rfl)) rfl rfl rfl ?_
      refine j_pure (pj_index_arr (n := 8) (sz := 1) (has_tmp rfl) has_i64 isInt_i64 (by decide) (by decide) (by kernel_rfl)) rfl rfl rfl ?_
      refine j_pure (pj_load_box (has_tmp rfl) .here (Path.then (Path.all R_hash_state) (Path.at 8 u32 2 (by decide))) (by kernel_rfl)) rfl rfl rfl ?_
      refine j_pure (pj_index_arr (n := 8) (sz := 1) (has_tmp rfl) has_i64 isInt_i64 (by decide) (by decide) (by kernel_rfl)) rfl rfl rfl ?_
      refine j_pure (pj_load_box (has_tmp rfl) .here (Path.then (Path.all R_hash_state) (Path.at 8 u32 3 (by decide))) (by kernel_rfl)) rfl rfl rfl ?_
      refine j_pure (pj_move (has_tmp rfl)) rfl rfl rfl ?_
      refine j_pure (pj_uadd (k := .u32) (b := 32) rfl rfl (has_tmp rfl) (has_tmp rfl)) rfl rfl rfl ?_
      refine j_pure (pj_index_arr (n := 8) (sz := 1) (has_tmp rfl) has_i64 isInt_i64 (by decide) (by decide) (by kernel_rfl)) rfl rfl rfl ?_
      refine j_pure (pj_load_box (has_tmp rfl) .here (Path.then (Path.all R_hash_state) (Path.at 8 u32 4 (by decide))) (by kernel_rfl)) rfl rfl rfl ?_
      refine j_pure (pj_index_arr (n := 8) (sz := 1) (has_tmp rfl) has_i64 isInt_i64 (by decide) (by decide) (by kernel_rfl)) rfl rfl rfl ?_
      refine j_pure (pj_load_box (has_tmp rfl) .here (Path.then (Path.all R_hash_state) (Path.at 8 u32 5 (by decide))) (by kernel_rfl)) rfl rfl rfl ?_
      refine j_pure (pj_index_arr (n := 8) (sz := 1) (has_tmp rfl) has_i64 isInt_i64 (by decide) (by decide) (by kernel_rfl)) rfl rfl rfl ?_
      refine j_pure (pj_load_box (has_tmp rfl) .here (Path.then (Path.all R_hash_state) (Path.at 8 u32 6 (by decide))) (by kernel_rfl)) rfl rfl rfl ?_
      obtain ⟨x5, e13, h⟩ := bind_some h
      refine j_pure (PJ.eqv (pj_buildArr (z0 := 0#32) (zero_vec 8 zero_un) (by kernel_rfl) (.cons (has_tmp rfl) (.cons (has_tmp rfl) (.cons (has_tmp rfl) (.cons (has_tmp rfl) (.cons (has_tmp rfl) (.cons (has_tmp rfl) (.cons (has_tmp rfl) (.cons (has_tmp rfl) .nil)))))))) (by kernel_rfl) rfl) (Option.some.inj e13)) rfl rfl rfl ?_
      refine j_store_boxx (r' := x5) (has_tmp rfl) (has_tmp rfl) .here (Path.all R_hash_state) (by kernel_rfl) rfl ?_
      refine j_end ?_
      refine run_endblock ?_
      refine run_text ?_
      refine j_pure (pj_iadd (has_tmp rfl) has_i64) rfl rfl rfl ?_
      refine j_pure (pj_move (has_tmp rfl)) rfl rfl rfl ?_
      refine j_end ?_
      obtain rfl := Option.some.inj h
      exact run_next () (.cons (.of_lk rfl) <| .cons (.of_lk rfl) <| .cons (.of_lk rfl) <| .cons (.of_lk rfl) <| .cons (.of_lk rfl) <| .nil) (.cons .here <| .cons .here <| .cons .here <| .nil)
    · replace h := bf e2 h
      obtain rfl := Option.some.inj h
      exact run_brk () (.cons (.of_lk rfl) <| .cons (.of_lk rfl) <| .cons (.of_lk rfl) <| .cons (.of_lk rfl) <| .cons (.of_lk rfl) <| .nil) (.cons .here <| .cons .here <| .cons .here <| .nil)
  · rintro _
    show Run _ _ _ [(2, val (.pointer (some ⟨b1, 0, none⟩))), (4, val (.pointer (some ⟨b2, 0, none⟩))), (5, ptrTo (vec 64 u32) r1), (6, val (.pointer (some ⟨b4, 0, none⟩))), (16, i64.slot y3)] [box b4 127 R_hash_state y4, box b2 127 R_hash_state (Vector.replicate 8 (0#32)), box b1 127 R_hash_state p_s]
    refine run_to (Γ' := [(2, val (.pointer (some ⟨b1, 0, none⟩))), (4, val (.pointer (some ⟨b2, 0, none⟩))), (6, val (.pointer (some ⟨b4, 0, none⟩)))]) (H' := [box b4 127 R_hash_state y4, box b2 127 R_hash_state (Vector.replicate 8 (0#32)), box b1 127 R_hash_state p_s]) (.cons (.of_lk rfl) <| .cons (.of_lk rfl) <| .cons (.of_lk rfl) <| .nil) (.cons .here <| .cons .here <| .cons .here <| .nil) ?_
    refine run_seq ?_
    refine run_seq ?_
    refine run_text ?_
    refine j_pure (pj_move has_i64) rfl rfl rfl ?_
    refine j_end ?_
    obtain ⟨⟨y7, y8⟩, e19, h⟩ := bind_some h
    refine run_loopS (Γi := fun (i : Unit) (s : Int × T_hash_state) => [(2, val (.pointer (some ⟨b1, 0, none⟩))), (4, val (.pointer (some ⟨b2, 0, none⟩))), (6, val (.pointer (some ⟨b4, 0, none⟩))), (102, i64.slot s.1)]) (Hi := fun (i : Unit) (s : Int × T_hash_state) => [box b4 127 R_hash_state y4, box b2 127 R_hash_state (Vector.replicate 8 (0#32)), box b1 127 R_hash_state s.2]) e19 () (fun a w hst => (hst.sub (.cons (.of_lk rfl) <| .cons (.of_lk rfl) <| .cons (.of_lk rfl) <| .cons (.of_lk rfl) <| .nil)).keep (.cons .here <| .cons .here <| .cons .here <| .nil)) ?_ ?_
    · clear h e19
      rintro _ ⟨y5, y6⟩ lr h
      change hash_state_block_L2 y4 y5 y6 = some _ at h
      show Run _ _ _ [(2, val (.pointer (some ⟨b1, 0, none⟩))), (4, val (.pointer (some ⟨b2, 0, none⟩))), (6, val (.pointer (some ⟨b4, 0, none⟩))), (102, i64.slot y5)] [box b4 127 R_hash_state y4, box b2 127 R_hash_state (Vector.replicate 8 (0#32)), box b1 127 R_hash_state y6]
      unfold hash_state_block_L2 at h
      refine run_seq ?_
      refine run_text ?_
      refine j_pure (pj_ilss (has_tmp rfl) has_i64) rfl rfl rfl ?_
      refine j_end ?_
      refine run_seq ?_
      refine run_cond (has_tmp rfl) (fun e15 => ?_) (fun e15 => ?_)
      · replace h := bt e15 h
        refine run_skip ?_
        refine run_seq ?_
        refine run_block ?_
        refine run_seq ?_
        refine run_text ?_
        refine j_pure (pj_move (has_tmp rfl)) rfl rfl rfl ?_
        refine j_pure (pj_assign (has_tmp rfl)) rfl rfl rfl ?_
        refine j_end ?_
        obtain ⟨x6, e16, h⟩ := bind_some h
        obtain ⟨x7, e17, h⟩ := bind_some h
        refine run_draw (n := 6) (by kernel_rfl) (by kernel_rfl) (by kernel_rfl) (by kernel_rfl) (.read (.plain rfl (pj_move (has_tmp rfl))) <| .read (.plain rfl (pj_index_arr (n := 8) (sz := 1) (has_tmp rfl) (has_tmp rfl) isInt_i64 (vget_some e16).1 (vget_lt e16) (by kernel_rfl))) <| .read (.plain rfl (PJ.eqv (pj_load_box (has_tmp rfl) (.next (.next .here)) (Path.then (Path.all R_hash_state) (Path.atI 8 u32 y5.toNat (vget_some e16).2.1)) (by kernel_rfl)) (vget_eq e16 (vget_some e16).2.1))) <| .read (.plain rfl (pj_move (has_tmp rfl))) <| .read (.plain rfl (pj_index_arr (n := 8) (sz := 1) (has_tmp rfl) (has_tmp rfl) isInt_i64 (vget_some e17).1 (vget_lt e17) (by kernel_rfl))) <| .read (.plain rfl (PJ.eqv (pj_load_box (has_tmp rfl) .here (Path.then (Path.all R_hash_state) (Path.atI 8 u32 y5.toNat (vget_some e17).2.1)) (by kernel_rfl)) (vget_eq e17 (vget_some e17).2.1))) <| .nil) (j_to (Γ' := [(2, val (.pointer (some ⟨b1, 0, none⟩))), (4, val (.pointer (some ⟨b2, 0, none⟩))), (6, val (.pointer (some ⟨b4, 0, none⟩))), (102, i64.slot y5), (105, i64.slot y5), (107, u32.slot x6), (110, u32.slot x7)]) (H' := [box b4 127 R_hash_state y4, box b2 127 R_hash_state (Vector.replicate 8 (0#32)), box b1 127 R_hash_state y6]) (.cons (.of_lk rfl) <| .cons (.of_lk rfl) <| .cons (.of_lk rfl) <| .cons (.of_lk rfl) <| .cons (.of_lk rfl) <| .cons (.of_lk rfl) <| .cons (.of_lk rfl) <| .nil) (.cons .here <| .cons .here <| .cons .here <| .nil) ?_)
        refine j_pure (pj_uadd (k := .u32) (b := 32) rfl rfl (has_tmp rfl) (has_tmp rfl)) rfl rfl rfl ?_
        obtain ⟨e18, h⟩ := grd_some h
        refine j_pure (pj_index_arr (n := 8) (sz := 1) (has_tmp rfl) (has_tmp rfl) isInt_i64 e18.1 e18.2 (by kernel_rfl)) rfl rfl rfl ?_
        refine j_store_boxx (r' := (y6.setIfInBounds y5.toNat (x6 + x7))) (has_tmp rfl) (has_tmp rfl) (.next (.next .here)) (Path.then (Path.all R_hash_state) (Path.atI 8 u32 y5.toNat (lt_nat e18))) (by kernel_rfl) rfl ?_
        refine j_end ?_
        refine run_endblock ?_
        refine run_text ?_
        refine j_pure (pj_iadd (has_tmp rfl) has_i64) rfl rfl rfl ?_
        refine j_pure (pj_move (has_tmp rfl)) rfl rfl rfl ?_
        refine j_end ?_
        obtain rfl := Option.some.inj h
        exact run_next () (.cons (.of_lk rfl) <| .cons (.of_lk rfl) <| .cons (.of_lk rfl) <| .cons (.of_lk rfl) <| .nil) (.cons (.next .here) <| .cons (.next .here) <| .cons .here <| .nil)
      · replace h := bf e15 h
        obtain rfl := Option.some.inj h
        exact run_brk () (.cons (.of_lk rfl) <| .cons (.of_lk rfl) <| .cons (.of_lk rfl) <| .cons (.of_lk rfl) <| .nil) (.cons .here <| .cons .here <| .cons .here <| .nil)
    · rintro _
      show Run _ _ _ [(2, val (.pointer (some ⟨b1, 0, none⟩))), (4, val (.pointer (some ⟨b2, 0, none⟩))), (6, val (.pointer (some ⟨b4, 0, none⟩))), (102, i64.slot y7)] [box b4 127 R_hash_state y4, box b2 127 R_hash_state (Vector.replicate 8 (0#32)), box b1 127 R_hash_state y8]
      refine run_to (Γ' := [(2, val (.pointer (some ⟨b1, 0, none⟩))), (4, val (.pointer (some ⟨b2, 0, none⟩)))]) (H' := [box b2 127 R_hash_state (Vector.replicate 8 (0#32)), box b1 127 R_hash_state y8]) (.cons (.of_lk rfl) <| .cons (.of_lk rfl) <| .nil) (.cons (.next .here) <| .cons (.next .here) <| .nil) ?_
      refine run_seq ?_
      refine run_text ?_
      refine j_pure (pj_load_box (has_tmp rfl) (.next .here) (Path.all R_hash_state) (by kernel_rfl)) rfl rfl rfl ?_
      refine j_store_boxx (r' := y8) (has_tmp rfl) (has_tmp rfl) .here (Path.all R_hash_state) (by kernel_rfl) rfl ?_
      refine j_end ?_
      obtain rfl := Option.some.inj h
      exact run_ret fun a w hst => q_ret1 hst rfl (.cell rfl .here (by kernel_rfl)) () (fun _ _ h => h) (.nil)
set_option maxRecDepth 100000 in
set_option maxHeartbeats 4000000 in
theorem c_hash_Sum {G : GP} (hg0 : HG0 G) (hg1 : HG1 G) {p_b : List (BitVec 8)} {r : T_api_Hash} (h : hash_Sum p_b = some r) : Ctr Tryd.prog G 51 [(sl u8).slot p_b] [] (fun (_ : Unit) => R_api_Hash.slot r) (fun (_ : Unit) => []) := by
  unfold hash_Sum at h
  refine ctr_of_run Tryd.func51 rfl 71 rfl rfl fun m0 w0 b0 => ?_
  show Run _ _ _ [(0, (sl u8).slot p_b)] _
  refine run_seq ?_
  refine run_text ?_
  refine j_alloc (x := (Vector.replicate 32 (0#8))) (R := R_api_Hash) (zero_vec 32 zero_un) (by kernel_rfl) rfl fun b1 => ?_
  refine j_end ?_
  refine run_seq ?_
  refine run_text ?_
  refine j_pure (pj_load_gx (y := G_hash_begin) hg0 (by kernel_rfl)) rfl rfl rfl ?_
  refine j_alloc (x := (Vector.replicate 8 (0#32))) (R := R_hash_state) (zero_vec 8 zero_un) (by kernel_rfl) rfl fun b2 => ?_
  refine j_store_boxx (r' := G_hash_begin) (has_tmp rfl) (has_tmp rfl) .here (Path.all R_hash_state) (by kernel_rfl) rfl ?_
  refine j_end ?_
  refine run_seq ?_
  refine run_text ?_
  refine j_pure (pj_move (has_tmp rfl)) rfl rfl rfl ?_
  refine j_pure (pj_len_sl (sz := 1) (has_tmp rfl) (by kernel_rfl)) rfl rfl rfl ?_
  refine j_pure (pj_conv_un (k := .u64) (b := 64) rfl rfl (by kernel_rfl) (has_tmp rfl) isInt_i64) rfl rfl rfl ?_
  refine j_pure (pj_assign (has_tmp rfl)) rfl rfl rfl ?_
  refine j_end ?_
  refine run_seq ?_
  obtain ⟨⟨y3, y4⟩, e4, h⟩ := bind_some h
  refine run_loopS (Γi := fun (i : Unit) (s : (List (BitVec 8)) × T_hash_state) => [(0, (sl u8).slot s.1), (2, val (.pointer (some ⟨b1, 0, none⟩))), (3, val (.pointer (some ⟨b2, 0, none⟩))), (4, u64.slot (BitVec.ofInt 64 (p_b.length : Int)))]) (Hi := fun (i : Unit) (s : (List (BitVec 8)) × T_hash_state) => [box b2 127 R_hash_state s.2, box b1 23 R_api_Hash (Vector.replicate 32 (0#8))]) e4 () (fun a w hst => (hst.sub (.cons (.of_lk rfl) <| .cons (.of_lk rfl) <| .cons (.of_lk rfl) <| .cons (.of_lk rfl) <| .nil)).keep (.cons .here <| .cons .here <| .nil)) ?_ ?_
  · clear h e4
    rintro _ ⟨y1, y2⟩ lr h
    change hash_Sum_L1 y1 y2 = some _ at h
    show Run _ _ _ [(0, (sl u8).slot y1), (2, val (.pointer (some ⟨b1, 0, none⟩))), (3, val (.pointer (some ⟨b2, 0, none⟩))), (4, u64.slot (BitVec.ofInt 64 (p_b.length : Int)))] [box b2 127 R_hash_state y2, box b1 23 R_api_Hash (Vector.replicate 32 (0#8))]
    unfold hash_Sum_L1 at h
    refine run_seq ?_
    refine run_seq ?_
    refine run_text ?_
    refine j_pure (pj_move (has_tmp rfl)) rfl rfl rfl ?_
    refine j_pure (pj_len_sl (sz := 1) (has_tmp rfl) (by kernel_rfl)) rfl rfl rfl ?_
    refine j_pure (pj_igeq (has_tmp rfl) has_i64) rfl rfl rfl ?_
    refine j_end ?_
    refine run_cond (has_tmp rfl) (fun e1 => ?_) (fun e1 => ?_)
    · replace h := bt e1 h
      refine run_skip ?_
      refine run_block ?_
      refine run_seq ?_
      refine run_text ?_
      refine j_pure (pj_load_box (has_tmp rfl) .here (Path.all R_hash_state) (by kernel_rfl)) rfl rfl rfl ?_
      refine j_pure (pj_move (has_tmp rfl)) rfl rfl rfl ?_
      obtain ⟨r1, e2, h⟩ := bind_some h
      refine j_pure (pj_call (hasL_cons (has_tmp rfl) <| hasL_cons (has_tmp rfl) <| hasL_nil) (by kernel_rfl) (c_hash_state_block hg1 e2)) rfl rfl rfl ?_
      refine j_store_boxx (r' := r1) (has_tmp rfl) (has_tmp rfl) .here (Path.all R_hash_state) (by kernel_rfl) rfl ?_
      refine j_end ?_
      refine run_text ?_
      refine j_pure (pj_move (has_tmp rfl)) rfl rfl rfl ?_
      obtain ⟨x1, e3, h⟩ := bind_some h
      refine j_pure (pj_slice_slx (has_tmp rfl) (.yes has_i64 isInt_i64) .no e3 (by kernel_rfl)) rfl rfl rfl ?_
      refine j_pure (pj_assign (has_tmp rfl)) rfl rfl rfl ?_
      refine j_end ?_
      refine run_endblock ?_
      obtain rfl := Option.some.inj h
      exact run_next () (.cons (.of_lk rfl) <| .cons (.of_lk rfl) <| .cons (.of_lk rfl) <| .cons (.of_lk rfl) <| .nil) (.cons .here <| .cons .here <| .nil)
    · replace h := bf e1 h
      obtain rfl := Option.some.inj h
      exact run_brk () (.cons (.of_lk rfl) <| .cons (.of_lk rfl) <| .cons (.of_lk rfl) <| .cons (.of_lk rfl) <| .nil) (.cons .here <| .cons .here <| .nil)
  · rintro _
    show Run _ _ _ [(0, (sl u8).slot y3), (2, val (.pointer (some ⟨b1, 0, none⟩))), (3, val (.pointer (some ⟨b2, 0, none⟩))), (4, u64.slot (BitVec.ofInt 64 (p_b.length : Int)))] [box b2 127 R_hash_state y4, box b1 23 R_api_Hash (Vector.replicate 32 (0#8))]
    refine run_to (Γ' := [(0, (sl u8).slot y3), (2, val (.pointer (some ⟨b1, 0, none⟩))), (3, val (.pointer (some ⟨b2, 0, none⟩))), (4, u64.slot (BitVec.ofInt 64 (p_b.length : Int)))]) (H' := [box b2 127 R_hash_state y4, box b1 23 R_api_Hash (Vector.replicate 32 (0#8))]) (.cons (.of_lk rfl) <| .cons (.of_lk rfl) <| .cons (.of_lk rfl) <| .cons (.of_lk rfl) <| .nil) (.cons .here <| .cons .here <| .nil) ?_
    refine run_seq ?_
    refine run_text ?_
    refine j_alloc (x := (Vector.replicate 128 (0#8))) (R := (vec 128 u8)) (zero_vec 128 zero_un) (by kernel_rfl) rfl fun b3 => ?_
    refine j_end ?_
    refine run_seq ?_
    refine run_text ?_
    refine j_pure (pj_assign has_i64) rfl rfl rfl ?_
    refine j_end ?_
    refine run_seq ?_
    refine run_seq ?_
    refine run_text ?_
    refine j_pure (pj_move (has_tmp rfl)) rfl rfl rfl ?_
    refine j_pure (pj_len_sl (sz := 1) (has_tmp rfl) (by kernel_rfl)) rfl rfl rfl ?_
    refine j_pure (pj_igeq (has_tmp rfl) has_i64) rfl rfl rfl ?_
    refine j_end ?_
    obtain ⟨y5, e6, h⟩ := bind_some h
    refine run_joinx (ι := Unit) (Γ' := fun (_ : Unit) => [(0, (sl u8).slot y3), (2, val (.pointer (some ⟨b1, 0, none⟩))), (3, val (.pointer (some ⟨b2, 0, none⟩))), (4, u64.slot (BitVec.ofInt 64 (p_b.length : Int))), (5, val (.pointer (some ⟨b3, 0, none⟩))), (6, i64.slot y5)]) (H' := fun (_ : Unit) => [box b3 129 (vec 128 u8) (Vector.replicate 128 (0#8)), box b2 127 R_hash_state y4, box b1 23 R_api_Hash (Vector.replicate 32 (0#8))]) ?_ fun J => ?_
    · intro _
      clear e6
      show Run _ _ _ [(0, (sl u8).slot y3), (2, val (.pointer (some ⟨b1, 0, none⟩))), (3, val (.pointer (some ⟨b2, 0, none⟩))), (4, u64.slot (BitVec.ofInt 64 (p_b.length : Int))), (5, val (.pointer (some ⟨b3, 0, none⟩))), (6, i64.slot y5)] [box b3 129 (vec 128 u8) (Vector.replicate 128 (0#8)), box b2 127 R_hash_state y4, box b1 23 R_api_Hash (Vector.replicate 32 (0#8))]
      refine run_seq ?_
      refine run_text ?_
      refine j_pure (pj_slice_arrc (lo := 0) (sz := 1) (n := 128) (has_tmp rfl) .no .no 128 128 rfl (by kernel_rfl)) rfl rfl rfl ?_
      refine j_pure (pj_move (has_tmp rfl)) rfl rfl rfl ?_
      refine j_copy_arr (lo := 0) (n := 128) (has_tmp rfl) .here (src_data (has_tmp rfl)) (by decide) (by kernel_rfl) rfl ?_
      refine j_end ?_
      refine run_seq ?_
      refine run_text ?_
      refine j_pure (pj_move (has_tmp rfl)) rfl rfl rfl ?_
      refine j_pure (pj_len_sl (sz := 1) (has_tmp rfl) (by kernel_rfl)) rfl rfl rfl ?_
      obtain ⟨e7, h⟩ := grd_some h
      refine j_pure (pj_index_arr (n := 128) (sz := 1) (has_tmp rfl) (has_tmp rfl) isInt_i64 e7.1 e7.2 (by kernel_rfl)) rfl rfl rfl ?_
      obtain ⟨x2, e8, h⟩ := bind_some h
      refine j_store_boxx (r' := x2) (has_tmp rfl) (has_un (x := 128#8) rfl) .here (Path.then (Path.all (vec 128 u8)) (Path.atI 128 u8 ((y3.length : Int).toNat) (lt_nat e7))) (by kernel_rfl) (Option.some.inj e8) ?_
      refine j_end ?_
      refine run_seq ?_
      refine run_seq ?_
      refine run_text ?_
      refine j_pure (pj_move has_i64) rfl rfl rfl ?_
      refine j_end ?_
      obtain ⟨⟨y8, y9⟩, e13, h⟩ := bind_some h
      refine run_loopS (Γi := fun (i : Unit) (s : Int × (Vector (BitVec 8) 128)) => [(2, val (.pointer (some ⟨b1, 0, none⟩))), (3, val (.pointer (some ⟨b2, 0, none⟩))), (4, u64.slot (BitVec.ofInt 64 (p_b.length : Int))), (5, val (.pointer (some ⟨b3, 0, none⟩))), (6, i64.slot y5), (31, i64.slot s.1)]) (Hi := fun (i : Unit) (s : Int × (Vector (BitVec 8) 128)) => [box b3 129 (vec 128 u8) s.2, box b2 127 R_hash_state y4, box b1 23 R_api_Hash (Vector.replicate 32 (0#8))]) e13 () (fun a w hst => (hst.sub (.cons (.of_lk rfl) <| .cons (.of_lk rfl) <| .cons (.of_lk rfl) <| .cons (.of_lk rfl) <| .cons (.of_lk rfl) <| .cons (.of_lk rfl) <| .nil)).keep (.cons .here <| .cons .here <| .cons .here <| .nil)) ?_ ?_
      · clear h e13
        rintro _ ⟨y6, y7⟩ lr h
        change hash_Sum_L2 y5 p_b y6 y7 = some _ at h
        show Run _ _ _ [(2, val (.pointer (some ⟨b1, 0, none⟩))), (3, val (.pointer (some ⟨b2, 0, none⟩))), (4, u64.slot (BitVec.ofInt 64 (p_b.length : Int))), (5, val (.pointer (some ⟨b3, 0, none⟩))), (6, i64.slot y5), (31, i64.slot y6)] [box b3 129 (vec 128 u8) y7, box b2 127 R_hash_state y4, box b1 23 R_api_Hash (Vector.replicate 32 (0#8))]
        unfold hash_Sum_L2 at h
        refine run_seq ?_
        refine run_text ?_
        refine j_pure (pj_ilss (has_tmp rfl) has_i64) rfl rfl rfl ?_
        refine j_end ?_
        refine run_seq ?_
        refine run_cond (has_tmp rfl) (fun e9 => ?_) (fun e9 => ?_)
        · replace h := bt e9 h
          refine run_skip ?_
          refine run_seq ?_
          refine run_block ?_
          refine run_seq ?_
          refine run_text ?_
          refine j_pure (pj_move (has_tmp rfl)) rfl rfl rfl ?_
          refine j_pure (pj_assign (has_tmp rfl)) rfl rfl rfl ?_
          refine j_end ?_
          refine run_text ?_
          refine j_pure (pj_move (has_tmp rfl)) rfl rfl rfl ?_
          refine j_pure (pj_isub (has_tmp rfl) has_i64) rfl rfl rfl ?_
          refine j_pure (pj_move (has_tmp rfl)) rfl rfl rfl ?_
          refine j_pure (pj_isub (has_tmp rfl) (has_tmp rfl)) rfl rfl rfl ?_
          refine j_pure (pj_move (has_tmp rfl)) rfl rfl rfl ?_
          refine j_pure (pj_ushl (k := .u64) (b := 64) rfl rfl (has_tmp rfl) (has_un (x := 3#64) rfl) isInt_un (Int.natCast_nonneg _)) rfl rfl rfl ?_
          refine j_pure (pj_move (has_tmp rfl)) rfl rfl rfl ?_
          refine j_pure (pj_imul has_i64 (has_tmp rfl)) rfl rfl rfl ?_
          obtain ⟨e10, h⟩ := grd_some h
          refine j_pure (pj_ushr (k := .u64) (b := 64) rfl (has_tmp rfl) (has_tmp rfl) isInt_i64 e10) rfl rfl rfl ?_
          refine j_pure (pj_conv_uu (k := .u8) (b := 8) rfl rfl (by kernel_rfl) (has_tmp rfl)) rfl rfl rfl ?_
          obtain ⟨e11, h⟩ := grd_some h
          refine j_pure (pj_index_arr (n := 128) (sz := 1) (has_tmp rfl) (has_tmp rfl) isInt_i64 e11.1 e11.2 (by kernel_rfl)) rfl rfl rfl ?_
          obtain ⟨x3, e12, h⟩ := bind_some h
          refine j_store_boxx (r' := x3) (has_tmp rfl) (has_tmp rfl) .here (Path.then (Path.all (vec 128 u8)) (Path.atI 128 u8 ((w64 ((w64 (y5 - (1 : Int))) - y6)).toNat) (lt_nat e11))) (by kernel_rfl) (Option.some.inj e12) ?_
          refine j_end ?_
          refine run_endblock ?_
          refine run_text ?_
          refine j_pure (pj_iadd (has_tmp rfl) has_i64) rfl rfl rfl ?_
          refine j_pure (pj_move (has_tmp rfl)) rfl rfl rfl ?_
          refine j_end ?_
          obtain rfl := Option.some.inj h
          exact run_next () (.cons (.of_lk rfl) <| .cons (.of_lk rfl) <| .cons (.of_lk rfl) <| .cons (.of_lk rfl) <| .cons (.of_lk rfl) <| .cons (.of_lk rfl) <| .nil) (.cons .here <| .cons .here <| .cons .here <| .nil)
        · replace h := bf e9 h
          obtain rfl := Option.some.inj h
          exact run_brk () (.cons (.of_lk rfl) <| .cons (.of_lk rfl) <| .cons (.of_lk rfl) <| .cons (.of_lk rfl) <| .cons (.of_lk rfl) <| .cons (.of_lk rfl) <| .nil) (.cons .here <| .cons .here <| .cons .here <| .nil)
      · rintro _
        show Run _ _ _ [(2, val (.pointer (some ⟨b1, 0, none⟩))), (3, val (.pointer (some ⟨b2, 0, none⟩))), (4, u64.slot (BitVec.ofInt 64 (p_b.length : Int))), (5, val (.pointer (some ⟨b3, 0, none⟩))), (6, i64.slot y5), (31, i64.slot y8)] [box b3 129 (vec 128 u8) y9, box b2 127 R_hash_state y4, box b1 23 R_api_Hash (Vector.replicate 32 (0#8))]
        refine run_to (Γ' := [(2, val (.pointer (some ⟨b1, 0, none⟩))), (3, val (.pointer (some ⟨b2, 0, none⟩))), (5, val (.pointer (some ⟨b3, 0, none⟩))), (6, i64.slot y5)]) (H' := [box b3 129 (vec 128 u8) y9, box b2 127 R_hash_state y4, box b1 23 R_api_Hash (Vector.replicate 32 (0#8))]) (.cons (.of_lk rfl) <| .cons (.of_lk rfl) <| .cons (.of_lk rfl) <| .cons (.of_lk rfl) <| .nil) (.cons .here <| .cons .here <| .cons .here <| .nil) ?_
        refine run_seq ?_
        refine run_draw (n := 2) (by kernel_rfl) (by kernel_rfl) (by kernel_rfl) (by kernel_rfl) (.read (.plain rfl (pj_load_box (has_tmp rfl) (.next .here) (Path.all R_hash_state) (by kernel_rfl))) <| .read (.plain rfl (pj_slice_arrc (lo := 0) (sz := 1) (n := 128) (has_tmp rfl) .no .no 128 128 rfl (by kernel_rfl))) <| .nil) (j_to (Γ' := [(2, val (.pointer (some ⟨b1, 0, none⟩))), (3, val (.pointer (some ⟨b2, 0, none⟩))), (5, val (.pointer (some ⟨b3, 0, none⟩))), (6, i64.slot y5), (46, R_hash_state.slot y4), (47, val (.slice (some ⟨b3, 0 * 1, none⟩) 128 128))]) (H' := [box b3 129 (vec 128 u8) y9, box b2 127 R_hash_state y4, box b1 23 R_api_Hash (Vector.replicate 32 (0#8))]) (.cons (.of_lk rfl) <| .cons (.of_lk rfl) <| .cons (.of_lk rfl) <| .cons (.of_lk rfl) <| .cons (.of_lk rfl) <| .cons (.of_lk rfl) <| .nil) (.cons .here <| .cons .here <| .cons .here <| .nil) ?_)
        obtain ⟨r2, e14, h⟩ := bind_some h
        refine j_pure (pj_callB (hasBL_cons (hasB_of (has_tmp rfl)) <| hasBL_cons (hasB_arrF (has_tmp rfl) .here (by decide)) <| hasBL_nil) (by kernel_rfl) (c_hash_state_block hg1 e14) (Rep.flat_slot (flat_vec _ (flat_un _ _)) _)) rfl rfl rfl ?_
        refine j_store_boxx (r' := r2) (has_tmp rfl) (has_tmp rfl) (.next .here) (Path.all R_hash_state) (by kernel_rfl) rfl ?_
        refine j_end ?_
        refine run_seq ?_
        refine run_seq ?_
        refine run_text ?_
        refine j_pure (pj_move (has_tmp rfl)) rfl rfl rfl ?_
        refine j_pure (pj_ieql (has_tmp rfl) has_i64) rfl rfl rfl ?_
        refine j_end ?_
        obtain ⟨y10, e17, h⟩ := bind_some h
        refine run_joinx (ι := Unit) (Γ' := fun (_ : Unit) => [(2, val (.pointer (some ⟨b1, 0, none⟩))), (3, val (.pointer (some ⟨b2, 0, none⟩)))]) (H' := fun (_ : Unit) => [box b2 127 R_hash_state y10, box b1 23 R_api_Hash (Vector.replicate 32 (0#8))]) ?_ fun J => ?_
        · intro _
          clear e17
          show Run _ _ _ [(2, val (.pointer (some ⟨b1, 0, none⟩))), (3, val (.pointer (some ⟨b2, 0, none⟩)))] [box b2 127 R_hash_state y10, box b1 23 R_api_Hash (Vector.replicate 32 (0#8))]
          refine run_seq ?_
          refine run_text ?_
          refine j_alloc (x := (Vector.replicate 32 (0#8))) (R := R_api_Hash) (zero_vec 32 zero_un) (by kernel_rfl) rfl fun b4 => ?_
          refine j_end ?_
          refine run_seq ?_
          refine run_seq ?_
          refine run_text ?_
          refine j_pure (pj_move has_i64) rfl rfl rfl ?_
          refine j_end ?_
          obtain ⟨⟨y13, y14⟩, e23, h⟩ := bind_some h
          refine run_loopS (Γi := fun (i : Unit) (s : Int × T_api_Hash) => [(2, val (.pointer (some ⟨b1, 0, none⟩))), (3, val (.pointer (some ⟨b2, 0, none⟩))), (8, val (.pointer (some ⟨b4, 0, none⟩))), (54, i64.slot s.1)]) (Hi := fun (i : Unit) (s : Int × T_api_Hash) => [box b4 23 R_api_Hash s.2, box b2 127 R_hash_state y10, box b1 23 R_api_Hash (Vector.replicate 32 (0#8))]) e23 () (fun a w hst => (hst.sub (.cons (.of_lk rfl) <| .cons (.of_lk rfl) <| .cons (.of_lk rfl) <| .cons (.of_lk rfl) <| .nil)).keep (.cons .here <| .cons .here <| .cons .here <| .nil)) ?_ ?_
          · clear h e23
            rintro _ ⟨y11, y12⟩ lr h
            change hash_Sum_L3 y10 y11 y12 = some _ at h
            show Run _ _ _ [(2, val (.pointer (some ⟨b1, 0, none⟩))), (3, val (.pointer (some ⟨b2, 0, none⟩))), (8, val (.pointer (some ⟨b4, 0, none⟩))), (54, i64.slot y11)] [box b4 23 R_api_Hash y12, box b2 127 R_hash_state y10, box b1 23 R_api_Hash (Vector.replicate 32 (0#8))]
            unfold hash_Sum_L3 at h
            refine run_seq ?_
            refine run_text ?_
            refine j_pure (pj_ilss (has_tmp rfl) has_i64) rfl rfl rfl ?_
            refine j_end ?_
            refine run_seq ?_
            refine run_cond (has_tmp rfl) (fun e18 => ?_) (fun e18 => ?_)
            · replace h := bt e18 h
              refine run_skip ?_
              refine run_seq ?_
              refine run_block ?_
              refine run_seq ?_
              refine run_text ?_
              refine j_pure (pj_move (has_tmp rfl)) rfl rfl rfl ?_
              refine j_pure (pj_assign (has_tmp rfl)) rfl rfl rfl ?_
              refine j_end ?_
              refine run_text ?_
              refine j_pure (pj_move (has_tmp rfl)) rfl rfl rfl ?_
              refine j_pure (pj_move (has_tmp rfl)) rfl rfl rfl ?_
              refine j_pure (pj_iquo (has_tmp rfl) has_i64 (by decide)) rfl rfl rfl ?_
              obtain ⟨x4, e19, h⟩ := bind_some h
              refine j_pure (pj_index_arr (n := 8) (sz := 1) (has_tmp rfl) (has_tmp rfl) isInt_i64 (vget_some e19).1 (vget_lt e19) (by kernel_rfl)) rfl rfl rfl ?_
              refine j_pure (PJ.eqv (pj_load_box (has_tmp rfl) (.next .here) (Path.then (Path.all R_hash_state) (Path.atI 8 u32 ((w64 (Int.tdiv y11 (4 : Int))).toNat) (vget_some e19).2.1)) (by kernel_rfl)) (vget_eq e19 (vget_some e19).2.1)) rfl rfl rfl ?_
              refine j_pure (pj_move (has_tmp rfl)) rfl rfl rfl ?_
              refine j_pure (pj_irem (has_tmp rfl) has_i64 (by decide)) rfl rfl rfl ?_
              refine j_pure (pj_imul has_i64 (has_tmp rfl)) rfl rfl rfl ?_
              refine j_pure (pj_isub has_i64 (has_tmp rfl)) rfl rfl rfl ?_
              obtain ⟨e20, h⟩ := grd_some h
              refine j_pure (pj_ushr (k := .u32) (b := 32) rfl (has_tmp rfl) (has_tmp rfl) isInt_i64 e20) rfl rfl rfl ?_
              refine j_pure (pj_conv_uu (k := .u8) (b := 8) rfl rfl (by kernel_rfl) (has_tmp rfl)) rfl rfl rfl ?_
              obtain ⟨e21, h⟩ := grd_some h
              refine j_pure (pj_index_arr (n := 32) (sz := 1) (has_tmp rfl) (has_tmp rfl) isInt_i64 e21.1 e21.2 (by kernel_rfl)) rfl rfl rfl ?_
              obtain ⟨x5, e22, h⟩ := bind_some h
              refine j_store_boxx (r' := x5) (has_tmp rfl) (has_tmp rfl) .here (Path.then (Path.all R_api_Hash) (Path.atI 32 u8 y11.toNat (lt_nat e21))) (by kernel_rfl) (Option.some.inj e22) ?_
              refine j_end ?_
              refine run_endblock ?_
              refine run_text ?_
              refine j_pure (pj_iadd (has_tmp rfl) has_i64) rfl rfl rfl ?_
              refine j_pure (pj_move (has_tmp rfl)) rfl rfl rfl ?_
              refine j_end ?_
              obtain rfl := Option.some.inj h
              exact run_next () (.cons (.of_lk rfl) <| .cons (.of_lk rfl) <| .cons (.of_lk rfl) <| .cons (.of_lk rfl) <| .nil) (.cons .here <| .cons .here <| .cons .here <| .nil)
            · replace h := bf e18 h
              obtain rfl := Option.some.inj h
              exact run_brk () (.cons (.of_lk rfl) <| .cons (.of_lk rfl) <| .cons (.of_lk rfl) <| .cons (.of_lk rfl) <| .nil) (.cons .here <| .cons .here <| .cons .here <| .nil)
          · rintro _
            show Run _ _ _ [(2, val (.pointer (some ⟨b1, 0, none⟩))), (3, val (.pointer (some ⟨b2, 0, none⟩))), (8, val (.pointer (some ⟨b4, 0, none⟩))), (54, i64.slot y13)] [box b4 23 R_api_Hash y14, box b2 127 R_hash_state y10, box b1 23 R_api_Hash (Vector.replicate 32 (0#8))]
            refine run_to (Γ' := [(2, val (.pointer (some ⟨b1, 0, none⟩))), (8, val (.pointer (some ⟨b4, 0, none⟩)))]) (H' := [box b4 23 R_api_Hash y14, box b1 23 R_api_Hash (Vector.replicate 32 (0#8))]) (.cons (.of_lk rfl) <| .cons (.of_lk rfl) <| .nil) (.cons .here <| .cons (.next .here) <| .nil) ?_
            refine run_seq ?_
            refine run_text ?_
            refine j_pure (pj_load_box (has_tmp rfl) .here (Path.all R_api_Hash) (by kernel_rfl)) rfl rfl rfl ?_
            refine j_store_boxx (r' := y14) (has_tmp rfl) (has_tmp rfl) (.next .here) (Path.all R_api_Hash) (by kernel_rfl) rfl ?_
            refine j_end ?_
            obtain rfl := Option.some.inj h
            exact run_ret fun a w hst => q_ret1 hst rfl (.cell rfl .here (by kernel_rfl)) () (fun _ _ h => h) (.nil)
        · refine run_cond (has_tmp rfl) (fun e15 => ?_) (fun e15 => ?_)
          · replace h := bt e15 e17
            refine run_draw (n := 2) (by kernel_rfl) (by kernel_rfl) (by kernel_rfl) (by kernel_rfl) (.read (.plain rfl (pj_load_box (has_tmp rfl) .here (Path.all R_hash_state) (by kernel_rfl))) <| .read (.plain rfl (pj_slice_arrc (lo := 64) (sz := 1) (n := 128) (has_tmp rfl) (.yes has_i64 isInt_i64) .no 64 64 rfl (by kernel_rfl))) <| .nil) (j_to (Γ' := [(2, val (.pointer (some ⟨b1, 0, none⟩))), (3, val (.pointer (some ⟨b2, 0, none⟩))), (51, R_hash_state.slot r2), (52, val (.slice (some ⟨b3, 64 * 1, none⟩) 64 64))]) (H' := [box b2 127 R_hash_state r2, box b3 129 (vec 128 u8) y9, box b1 23 R_api_Hash (Vector.replicate 32 (0#8))]) (.cons (.of_lk rfl) <| .cons (.of_lk rfl) <| .cons (.of_lk rfl) <| .cons (.of_lk rfl) <| .nil) (.cons .here <| .cons .here <| .cons .here <| .nil) ?_)
            obtain ⟨r3, e16, h⟩ := bind_some h
            refine j_pure (pj_callB (hasBL_cons (hasB_of (has_tmp rfl)) <| hasBL_cons (hasB_arr (lo := 64) (has_tmp rfl) (.next .here) (by decide) (by decide)) <| hasBL_nil) (by kernel_rfl) (c_hash_state_block hg1 e16) (Rep.flat_slot (flat_vec _ (flat_un _ _)) _)) rfl rfl rfl ?_
            refine j_store_boxx (r' := r3) (has_tmp rfl) (has_tmp rfl) .here (Path.all R_hash_state) (by kernel_rfl) rfl ?_
            refine j_end ?_
            obtain rfl := Option.some.inj h
            exact run_to (.cons (.of_lk rfl) <| .cons (.of_lk rfl) <| .nil) (.cons .here <| .cons (.next .here) <| .nil) (J ())
          · replace h := bf e15 e17
            refine run_skip ?_
            obtain rfl := Option.some.inj h
            exact run_to (.cons (.of_lk rfl) <| .cons (.of_lk rfl) <| .nil) (.cons .here <| .cons (.next .here) <| .nil) (J ())
    · refine run_cond (has_tmp rfl) (fun e5 => ?_) (fun e5 => ?_)
      · replace h := bt e5 e6
        refine run_text ?_
        refine j_pure (pj_assign has_i64) rfl rfl rfl ?_
        refine j_end ?_
        obtain rfl := Option.some.inj h
        exact run_to (.cons (.of_lk rfl) <| .cons (.of_lk rfl) <| .cons (.of_lk rfl) <| .cons (.of_lk rfl) <| .cons (.of_lk rfl) <| .cons (.of_lk rfl) <| .nil) (.cons .here <| .cons .here <| .cons .here <| .nil) (J ())
      · replace h := bf e5 e6
        refine run_skip ?_
        obtain rfl := Option.some.inj h
        exact run_to (.cons (.of_lk rfl) <| .cons (.of_lk rfl) <| .cons (.of_lk rfl) <| .cons (.of_lk rfl) <| .cons (.of_lk rfl) <| .cons (.of_lk rfl) <| .nil) (.cons .here <| .cons .here <| .cons .here <| .nil) (J ())
set_option maxRecDepth 100000 in
set_option maxHeartbeats 4000000 in
theorem c_frontier_Leaf {G : GP} (hg0 : HG0 G) (hg1 : HG1 G) {p_b : List (BitVec 8)} {r : T_api_Hash} (h : frontier_Leaf p_b = some r) : Ctr Tryd.prog G 34 [(sl u8).slot p_b] [] (fun (_ : Unit) => R_api_Hash.slot r) (fun (_ : Unit) => []) := by
  unfold frontier_Leaf at h
  refine ctr_of_run Tryd.func34 rfl 8 rfl rfl fun m0 w0 b0 => ?_
  show Run _ _ _ [(0, (sl u8).slot p_b)] _
  refine run_seq ?_
  refine run_text ?_
  refine j_alloc (x := (Vector.replicate 32 (0#8))) (R := R_api_Hash) (zero_vec 32 zero_un) (by kernel_rfl) rfl fun b1 => ?_
  refine j_end ?_
  refine run_seq ?_
  refine run_text ?_
  refine j_pure (pj_buildSlice (T := 5) (R := u8) (.cons (has_un (x := 0#8) rfl) .nil) rfl (by kernel_rfl) (by kernel_rfl)) rfl rfl rfl ?_
  refine j_pure (pj_move (has_tmp rfl)) rfl rfl rfl ?_
  refine j_pure (pj_buildSlice (T := 26) (R := (sl u8)) (.cons (has_tmp rfl) (.cons (has_tmp rfl) .nil)) rfl (by kernel_rfl) (by kernel_rfl)) rfl rfl rfl ?_
  obtain ⟨r1, e1, h⟩ := bind_some h
  refine j_pure (pj_call (hasL_cons (has_tmp rfl) <| hasL_nil) (by kernel_rfl) (Ctr.froze (c_slices_Concat_byte_byte e1))) rfl rfl rfl ?_
  obtain ⟨r2, e2, h⟩ := bind_some h
  refine j_pure (pj_call (hasL_cons (has_tmp rfl) <| hasL_nil) (by kernel_rfl) (c_hash_Sum hg0 hg1 e2)) rfl rfl rfl ?_
  refine j_store_boxx (r' := r2) (has_tmp rfl) (has_tmp rfl) .here (Path.all R_api_Hash) (by kernel_rfl) rfl ?_
  refine j_end ?_
  obtain rfl := Option.some.inj h
  exact run_ret fun a w hst => q_ret1 hst rfl (.cell rfl .here (by kernel_rfl)) () (fun _ _ h => h) (.nil)
set_option maxRecDepth 100000 in
set_option maxHeartbeats 4000000 in
theorem c_head_Entry {G : GP} (hg0 : HG0 G) (hg1 : HG1 G) {p_epoch : Int} {p_tree : T_api_Hash} {r : T_api_Hash} (h : head_Entry p_epoch p_tree = some r) : Ctr Tryd.prog G 12 [i64.slot p_epoch, R_api_Hash.slot p_tree] [] (fun (_ : Unit) => R_api_Hash.slot r) (fun (_ : Unit) => []) := by
  unfold head_Entry at h
  refine ctr_of_run Tryd.func12 rfl 24 rfl rfl fun m0 w0 b0 => ?_
  show Run _ _ _ [(0, i64.slot p_epoch), (1, R_api_Hash.slot p_tree)] _
  refine run_seq ?_
  refine run_text ?_
  refine j_pure (pj_box_to (has_tmp rfl)) rfl rfl rfl ?_
  refine j_alloc (x := (Vector.replicate 32 (0#8))) (R := R_api_Hash) (zero_vec 32 zero_un) (by kernel_rfl) rfl fun b1 => ?_
  refine j_end ?_
  refine run_seq ?_
  refine run_text ?_
  refine j_pure (pj_build (R := prod (exv (.slice none 0 0)) bl) (zero_prod zero_exv zero_bl) (by kernel_rfl) (by kernel_rfl) rfl .nil) rfl rfl rfl ?_
  refine j_box_w (T1 := 5) u8 (has_tmp rfl) rfl fun b2 v1 => ?_
  refine j_pure (pj_assign (has_tmp rfl)) rfl rfl rfl ?_
  refine j_end ?_
  refine run_seq ?_
  refine run_text ?_
  refine j_pure (pj_move (has_tmp rfl)) rfl rfl rfl ?_
  refine j_pure (pj_move (has_tmp rfl)) rfl rfl rfl ?_
  refine j_pure (pj_conv_un (k := .u32) (b := 32) rfl rfl (by kernel_rfl) (has_tmp rfl) isInt_i64) rfl rfl rfl ?_
  obtain ⟨r1, e1, h⟩ := bind_some h
  refine j_call (hasL_cons (has_tmp rfl) <| hasL_cons (has_tmp rfl) <| hasL_nil) (by kernel_rfl) (c_wire_Writer_U32 e1) (.cons (.next .here) <| .cons .here <| .nil) rfl fun v2 => ?_
  refine j_end ?_
  refine run_seq ?_
  refine run_text ?_
  refine j_pure (pj_move (has_tmp rfl)) rfl rfl rfl ?_
  refine j_pure (pj_slice_toF (has_tmp rfl) (by decide) (by kernel_rfl)) rfl rfl rfl ?_
  obtain ⟨r2, e2, h⟩ := bind_some h
  refine j_call (hasL_cons (has_tmp rfl) <| hasL_cons (has_tmp rfl) <| hasL_nil) (by kernel_rfl) (c_wire_Writer_Plain e2) (.cons .here <| .cons .here <| .nil) rfl fun v3 => ?_
  refine j_end ?_
  refine run_seq ?_
  refine run_text ?_
  refine j_pure (pj_move (has_tmp rfl)) rfl rfl rfl ?_
  obtain ⟨r3, e3, h⟩ := bind_some h
  refine j_call (hasL_cons (has_tmp rfl) <| hasL_nil) (by kernel_rfl) (c_wire_Writer_Out e3) (.cons .here <| .cons .here <| .nil) rfl fun ⟨v4, v5⟩ => ?_
  refine j_pure (pj_move (has_tmp rfl)) rfl rfl rfl ?_
  refine j_pure (pj_extract (has_tmp rfl) rfl) rfl rfl rfl ?_
  refine j_pure (pj_extract (has_tmp rfl) rfl) rfl rfl rfl ?_
  refine j_pure (pj_assign (has_tmp rfl)) rfl rfl rfl ?_
  refine j_pure (pj_assign (has_tmp rfl)) rfl rfl rfl ?_
  refine j_end ?_
  refine run_seq ?_
  refine run_text ?_
  refine j_pure (pj_move (has_tmp rfl)) rfl rfl rfl ?_
  obtain ⟨r4, e4, h⟩ := bind_some h
  refine j_pure (pj_callB (hasBL_cons (hasB_own (has_tmp rfl) (.next (.next .here))) <| hasBL_nil) (by kernel_rfl) (c_frontier_Leaf hg0 hg1 e4) (Rep.flat_slot (flat_vec _ (flat_un _ _)) _)) rfl rfl rfl ?_
  refine j_store_boxx (r' := r4) (has_tmp rfl) (has_tmp rfl) (.next (.next (.next .here))) (Path.all R_api_Hash) (by kernel_rfl) rfl ?_
  refine j_end ?_
  obtain rfl := Option.some.inj h
  exact run_ret fun a w hst => q_ret1 hst rfl (.cell rfl .here (by kernel_rfl)) () (fun _ _ h => h) (.nil)
set_option maxRecDepth 100000 in
set_option maxHeartbeats 4000000 in
theorem c_rolodexref02_Start {G : GP} {r : (Vector (BitVec 32) 8)} (h : rolodexref02_Start = some r) : Ctr Tryd.prog G 72 [] [] (fun (_ : Unit) => (vec 8 u32).slot r) (fun (_ : Unit) => []) := by
  unfold rolodexref02_Start at h
  refine ctr_of_run Tryd.func72 rfl 2 rfl rfl fun m0 w0 b0 => ?_
  show Run _ _ _ [] _
  refine run_seq ?_
  refine run_text ?_
  refine j_alloc (x := (Vector.replicate 8 (0#32))) (R := (vec 8 u32)) (zero_vec 8 zero_un) (by kernel_rfl) rfl fun b1 => ?_
  refine j_end ?_
  refine run_seq ?_
  refine run_text ?_
  obtain ⟨x1, e1, h⟩ := bind_some h
  refine j_pure (PJ.eqv (pj_buildArr (z0 := 0#32) (zero_vec 8 zero_un) (by kernel_rfl) (.cons (has_un (x := 1779033703#32) rfl) (.cons (has_un (x := 3144134277#32) rfl) (.cons (has_un (x := 1013904242#32) rfl) (.cons (has_un (x := 2773480762#32) rfl) (.cons (has_un (x := 1359893119#32) rfl) (.cons (has_un (x := 2600822924#32) rfl) (.cons (has_un (x := 528734635#32) rfl) (.cons (has_un (x := 1541459225#32) rfl) .nil)))))))) (by kernel_rfl) rfl) (Option.some.inj e1)) rfl rfl rfl ?_
  refine j_store_boxx (r' := x1) (has_tmp rfl) (has_tmp rfl) .here (Path.all (vec 8 u32)) (by kernel_rfl) rfl ?_
  refine j_end ?_
  obtain rfl := Option.some.inj h
  exact run_ret fun a w hst => q_ret1 hst rfl (.cell rfl .here (by kernel_rfl)) () (fun _ _ h => h) (.nil)
set_option maxRecDepth 100000 in
set_option maxHeartbeats 4000000 in
theorem c_rolodexref02_Padded {G : GP} {p_b : List (BitVec 8)} {r : (List (BitVec 8))} (h : rolodexref02_Padded p_b = some r) : Ctr Tryd.prog G 73 [(sl u8).slot p_b] [] (fun (u0 : Value) => ov u0) (fun (u0 : Value) => [own 5 u8 u0 r]) := by
  unfold rolodexref02_Padded at h
  refine ctr_of_run Tryd.func73 rfl 24 rfl rfl fun m0 w0 b0 => ?_
  show Run _ _ _ [(0, (sl u8).slot p_b)] _
  refine run_seq ?_
  refine run_text ?_
  refine j_assign_nil (T := 5) u8 rfl fun v1 => ?_
  refine j_end ?_
  refine run_seq ?_
  refine run_text ?_
  refine j_assign_nil (T := 5) u8 rfl fun v2 => ?_
  refine j_end ?_
  refine run_seq ?_
  refine run_text ?_
  refine j_pure (pj_move (has_tmp rfl)) rfl rfl rfl ?_
  refine j_pure (pj_move (has_tmp rfl)) rfl rfl rfl ?_
  obtain ⟨e1, h⟩ := grd_some h
  refine j_append (T := 5) (E := 5) (has_tmp rfl) .here (src_data (has_tmp rfl)) (by kernel_rfl) (by kernel_rfl) e1 rfl fun v3 => ?_
  refine j_pure (pj_assign (has_tmp rfl)) rfl rfl rfl ?_
  refine j_end ?_
  refine run_seq ?_
  refine run_text ?_
  refine j_pure (pj_move (has_tmp rfl)) rfl rfl rfl ?_
  refine j_pure (pj_buildSlice (T := 5) (R := u8) (.cons (has_un (x := 128#8) rfl) .nil) rfl (by kernel_rfl) (by kernel_rfl)) rfl rfl rfl ?_
  obtain ⟨e2, h⟩ := grd_some h
  refine j_append (T := 5) (E := 5) (has_tmp rfl) .here (src_data (has_tmp rfl)) (by kernel_rfl) (by kernel_rfl) e2 rfl fun v4 => ?_
  refine j_pure (pj_assign (has_tmp rfl)) rfl rfl rfl ?_
  refine j_end ?_
  refine run_seq ?_
  obtain ⟨y2, e5, h⟩ := bind_some h
  refine run_loopS (Γi := fun (i : Value) (s : (List (BitVec 8))) => [(0, (sl u8).slot p_b), (3, ov i)]) (Hi := fun (i : Value) (s : (List (BitVec 8))) => [own 5 u8 i s]) e5 v4 (fun a w hst => (hst.sub (.cons (.of_lk rfl) <| .cons (.of_lk rfl) <| .nil)).keep (.cons .here <| .nil)) ?_ ?_
  · clear h e5
    rintro v5 y1 lr h
    change rolodexref02_Padded_L1 y1 = some _ at h
    show Run _ _ _ [(0, (sl u8).slot p_b), (3, ov v5)] [own 5 u8 v5 y1]
    unfold rolodexref02_Padded_L1 at h
    refine run_seq ?_
    refine run_seq ?_
    refine run_text ?_
    refine j_pure (pj_move (has_tmp rfl)) rfl rfl rfl ?_
    refine j_pure (pj_len_own (sz := 1) (has_tmp rfl) .here (by kernel_rfl)) rfl rfl rfl ?_
    refine j_pure (pj_irem (has_tmp rfl) has_i64 (by decide)) rfl rfl rfl ?_
    refine j_pure (pj_ineq (has_tmp rfl) has_i64) rfl rfl rfl ?_
    refine j_end ?_
    refine run_cond (has_tmp rfl) (fun e3 => ?_) (fun e3 => ?_)
    · replace h := bt e3 h
      refine run_skip ?_
      refine run_block ?_
      refine run_text ?_
      refine j_pure (pj_move (has_tmp rfl)) rfl rfl rfl ?_
      refine j_pure (pj_buildSlice (T := 5) (R := u8) (.cons (has_un (x := 0#8) rfl) .nil) rfl (by kernel_rfl) (by kernel_rfl)) rfl rfl rfl ?_
      obtain ⟨e4, h⟩ := grd_some h
      refine j_append (T := 5) (E := 5) (has_tmp rfl) .here (src_data (has_tmp rfl)) (by kernel_rfl) (by kernel_rfl) e4 rfl fun v6 => ?_
      refine j_pure (pj_assign (has_tmp rfl)) rfl rfl rfl ?_
      refine j_end ?_
      refine run_endblock ?_
      obtain rfl := Option.some.inj h
      exact run_next v6 (.cons (.of_lk rfl) <| .cons (.of_lk rfl) <| .nil) (.cons .here <| .nil)
    · replace h := bf e3 h
      obtain rfl := Option.some.inj h
      exact run_brk v5 (.cons (.of_lk rfl) <| .cons (.of_lk rfl) <| .nil) (.cons .here <| .nil)
  · rintro v7
    show Run _ _ _ [(0, (sl u8).slot p_b), (3, ov v7)] [own 5 u8 v7 y2]
    refine run_to (Γ' := [(0, (sl u8).slot p_b), (3, ov v7)]) (H' := [own 5 u8 v7 y2]) (.cons (.of_lk rfl) <| .cons (.of_lk rfl) <| .nil) (.cons .here <| .nil) ?_
    refine run_seq ?_
    refine run_text ?_
    refine j_pure (pj_move (has_tmp rfl)) rfl rfl rfl ?_
    refine j_pure (pj_move (has_tmp rfl)) rfl rfl rfl ?_
    refine j_pure (pj_len_sl (sz := 1) (has_tmp rfl) (by kernel_rfl)) rfl rfl rfl ?_
    refine j_pure (pj_conv_un (k := .u64) (b := 64) rfl rfl (by kernel_rfl) (has_tmp rfl) isInt_i64) rfl rfl rfl ?_
    refine j_pure (pj_umul (k := .u64) (b := 64) rfl rfl (has_un (x := 8#64) rfl) (has_tmp rfl)) rfl rfl rfl ?_
    obtain ⟨r1, e6, h⟩ := bind_some h
    refine j_pure (pj_call (hasL_cons (has_tmp rfl) <| hasL_cons has_i64 <| hasL_nil) (by kernel_rfl) (Ctr.froze (c_rolodexref01_Number e6))) rfl rfl rfl ?_
    obtain ⟨e7, h⟩ := grd_some h
    refine j_append (T := 5) (E := 5) (has_tmp rfl) .here (src_data (has_tmp rfl)) (by kernel_rfl) (by kernel_rfl) e7 rfl fun v8 => ?_
    refine j_pure (pj_assign (has_tmp rfl)) rfl rfl rfl ?_
    refine j_end ?_
    obtain rfl := Option.some.inj h
    exact run_ret fun a w hst => q_ret1 hst rfl (.tmp rfl) v8 (fun _ _ h => h) (.cons .here <| .nil)
set_option maxRecDepth 100000 in
set_option maxHeartbeats 4000000 in
theorem c_rolodexref02_turned {G : GP} {p_x : BitVec 32} {p_n : BitVec 32} {r : (BitVec 32)} (h : rolodexref02_turned p_x p_n = some r) : Ctr Tryd.prog G 100 [u32.slot p_x, u32.slot p_n] [] (fun (_ : Unit) => u32.slot r) (fun (_ : Unit) => []) := by
  unfold rolodexref02_turned at h
  refine ctr_of_run Tryd.func100 rfl 13 rfl rfl fun m0 w0 b0 => ?_
  show Run _ _ _ [(0, u32.slot p_x), (1, u32.slot p_n)] _
  refine run_seq ?_
  refine run_text ?_
  refine j_pure (pj_assign (has_un (x := 0#32) rfl)) rfl rfl rfl ?_
  refine j_end ?_
  refine run_seq ?_
  refine run_text ?_
  refine j_pure (pj_move (has_tmp rfl)) rfl rfl rfl ?_
  refine j_pure (pj_move (has_tmp rfl)) rfl rfl rfl ?_
  refine j_pure (pj_ushr (k := .u32) (b := 32) rfl (has_tmp rfl) (has_tmp rfl) isInt_un (Int.natCast_nonneg _)) rfl rfl rfl ?_
  refine j_pure (pj_move (has_tmp rfl)) rfl rfl rfl ?_
  refine j_pure (pj_move (has_tmp rfl)) rfl rfl rfl ?_
  refine j_pure (pj_usub (k := .u32) (b := 32) rfl rfl (has_un (x := 32#32) rfl) (has_tmp rfl)) rfl rfl rfl ?_
  refine j_pure (pj_ushl (k := .u32) (b := 32) rfl rfl (has_tmp rfl) (has_tmp rfl) isInt_un (Int.natCast_nonneg _)) rfl rfl rfl ?_
  refine j_pure (pj_uor (k := .u32) (b := 32) rfl rfl (has_tmp rfl) (has_tmp rfl)) rfl rfl rfl ?_
  obtain ⟨x1, e1, h⟩ := bind_some h
  refine j_pure (PJ.eqv (pj_assign (has_tmp rfl)) (Option.some.inj e1)) rfl rfl rfl ?_
  refine j_end ?_
  obtain rfl := Option.some.inj h
  exact run_ret fun a w hst => q_ret1 hst rfl (.tmp rfl) () (fun _ _ h => h) (.nil)
set_option maxRecDepth 100000 in
set_option maxHeartbeats 4000000 in
theorem c_rolodexref02_words {G : GP} {p_b : List (BitVec 8)} {r : (Vector (BitVec 32) 64)} (h : rolodexref02_words p_b = some r) : Ctr Tryd.prog G 98 [(sl u8).slot p_b] [] (fun (_ : Unit) => (vec 64 u32).slot r) (fun (_ : Unit) => []) := by
  unfold rolodexref02_words at h
  refine ctr_of_run Tryd.func98 rfl 65 rfl rfl fun m0 w0 b0 => ?_
  show Run _ _ _ [(0, (sl u8).slot p_b)] _
  refine run_seq ?_
  refine run_text ?_
  refine j_alloc (x := (Vector.replicate 64 (0#32))) (R := (vec 64 u32)) (zero_vec 64 zero_un) (by kernel_rfl) rfl fun b1 => ?_
  refine j_end ?_
  refine run_seq ?_
  refine run_text ?_
  refine j_alloc (x := (Vector.replicate 64 (0#32))) (R := (vec 64 u32)) (zero_vec 64 zero_un) (by kernel_rfl) rfl fun b2 => ?_
  refine j_end ?_
  refine run_seq ?_
  refine run_seq ?_
  refine run_text ?_
  refine j_pure (pj_assign has_i64) rfl rfl rfl ?_
  refine j_end ?_
  obtain ⟨⟨y3, y4⟩, e6, h⟩ := bind_some h
  refine run_loopS (Γi := fun (i : Unit) (s : Int × (Vector (BitVec 32) 64)) => [(0, (sl u8).slot p_b), (2, val (.pointer (some ⟨b1, 0, none⟩))), (3, val (.pointer (some ⟨b2, 0, none⟩))), (4, i64.slot s.1)]) (Hi := fun (i : Unit) (s : Int × (Vector (BitVec 32) 64)) => [box b2 151 (vec 64 u32) s.2, box b1 151 (vec 64 u32) (Vector.replicate 64 (0#32))]) e6 () (fun a w hst => (hst.sub (.cons (.of_lk rfl) <| .cons (.of_lk rfl) <| .cons (.of_lk rfl) <| .cons (.of_lk rfl) <| .nil)).keep (.cons .here <| .cons .here <| .nil)) ?_ ?_
  · clear h e6
    rintro _ ⟨y1, y2⟩ lr h
    change rolodexref02_words_L1 p_b y1 y2 = some _ at h
    show Run _ _ _ [(0, (sl u8).slot p_b), (2, val (.pointer (some ⟨b1, 0, none⟩))), (3, val (.pointer (some ⟨b2, 0, none⟩))), (4, i64.slot y1)] [box b2 151 (vec 64 u32) y2, box b1 151 (vec 64 u32) (Vector.replicate 64 (0#32))]
    unfold rolodexref02_words_L1 at h
    refine run_seq ?_
    refine run_seq ?_
    refine run_text ?_
    refine j_pure (pj_move (has_tmp rfl)) rfl rfl rfl ?_
    refine j_pure (pj_ilss (has_tmp rfl) has_i64) rfl rfl rfl ?_
    refine j_end ?_
    refine run_cond (has_tmp rfl) (fun e1 => ?_) (fun e1 => ?_)
    · replace h := bt e1 h
      refine run_skip ?_
      refine run_seq ?_
      refine run_block ?_
      refine run_text ?_
      refine j_pure (pj_move (has_tmp rfl)) rfl rfl rfl ?_
      refine j_pure (pj_move (has_tmp rfl)) rfl rfl rfl ?_
      refine j_pure (pj_move (has_tmp rfl)) rfl rfl rfl ?_
      refine j_pure (pj_imul has_i64 (has_tmp rfl)) rfl rfl rfl ?_
      refine j_pure (pj_move (has_tmp rfl)) rfl rfl rfl ?_
      refine j_pure (pj_imul has_i64 (has_tmp rfl)) rfl rfl rfl ?_
      refine j_pure (pj_iadd (has_tmp rfl) has_i64) rfl rfl rfl ?_
      obtain ⟨x1, e2, h⟩ := bind_some h
      refine j_pure (pj_slice_slx (has_tmp rfl) (.yes (has_tmp rfl) isInt_i64) (.yes (has_tmp rfl) isInt_i64) e2 (by kernel_rfl)) rfl rfl rfl ?_
      obtain ⟨r1, e3, h⟩ := bind_some h
      refine j_pure (pj_call (hasL_cons (has_tmp rfl) <| hasL_nil) (by kernel_rfl) (c_rolodexref01_Value e3)) rfl rfl rfl ?_
      refine j_pure (pj_conv_uu (k := .u32) (b := 32) rfl rfl (by kernel_rfl) (has_tmp rfl)) rfl rfl rfl ?_
      obtain ⟨e4, h⟩ := grd_some h
      refine j_pure (pj_index_arr (n := 64) (sz := 1) (has_tmp rfl) (has_tmp rfl) isInt_i64 e4.1 e4.2 (by kernel_rfl)) rfl rfl rfl ?_
      obtain ⟨x2, e5, h⟩ := bind_some h
      refine j_store_boxx (r' := x2) (has_tmp rfl) (has_tmp rfl) .here (Path.then (Path.all (vec 64 u32)) (Path.atI 64 u32 y1.toNat (lt_nat e4))) (by kernel_rfl) (Option.some.inj e5) ?_
      refine j_end ?_
      refine run_endblock ?_
      refine run_text ?_
      refine j_pure (pj_move (has_tmp rfl)) rfl rfl rfl ?_
      refine j_pure (pj_iadd (has_tmp rfl) has_i64) rfl rfl rfl ?_
      refine j_pure (pj_assign (has_tmp rfl)) rfl rfl rfl ?_
      refine j_end ?_
      obtain rfl := Option.some.inj h
      exact run_next () (.cons (.of_lk rfl) <| .cons (.of_lk rfl) <| .cons (.of_lk rfl) <| .cons (.of_lk rfl) <| .nil) (.cons .here <| .cons .here <| .nil)
    · replace h := bf e1 h
      obtain rfl := Option.some.inj h
      exact run_brk () (.cons (.of_lk rfl) <| .cons (.of_lk rfl) <| .cons (.of_lk rfl) <| .cons (.of_lk rfl) <| .nil) (.cons .here <| .cons .here <| .nil)
  · rintro _
    show Run _ _ _ [(0, (sl u8).slot p_b), (2, val (.pointer (some ⟨b1, 0, none⟩))), (3, val (.pointer (some ⟨b2, 0, none⟩))), (4, i64.slot y3)] [box b2 151 (vec 64 u32) y4, box b1 151 (vec 64 u32) (Vector.replicate 64 (0#32))]
    refine run_to (Γ' := [(2, val (.pointer (some ⟨b1, 0, none⟩))), (3, val (.pointer (some ⟨b2, 0, none⟩)))]) (H' := [box b2 151 (vec 64 u32) y4, box b1 151 (vec 64 u32) (Vector.replicate 64 (0#32))]) (.cons (.of_lk rfl) <| .cons (.of_lk rfl) <| .nil) (.cons .here <| .cons .here <| .nil) ?_
    refine run_seq ?_
    refine run_seq ?_
    refine run_text ?_
    refine j_pure (pj_assign has_i64) rfl rfl rfl ?_
    refine j_end ?_
    obtain ⟨⟨y7, y8⟩, e18, h⟩ := bind_some h
    refine run_loopS (Γi := fun (i : Unit) (s : Int × (Vector (BitVec 32) 64)) => [(2, val (.pointer (some ⟨b1, 0, none⟩))), (3, val (.pointer (some ⟨b2, 0, none⟩))), (5, i64.slot s.1)]) (Hi := fun (i : Unit) (s : Int × (Vector (BitVec 32) 64)) => [box b2 151 (vec 64 u32) s.2, box b1 151 (vec 64 u32) (Vector.replicate 64 (0#32))]) e18 () (fun a w hst => (hst.sub (.cons (.of_lk rfl) <| .cons (.of_lk rfl) <| .cons (.of_lk rfl) <| .nil)).keep (.cons .here <| .cons .here <| .nil)) ?_ ?_
    · clear h e18
      rintro _ ⟨y5, y6⟩ lr h
      change rolodexref02_words_L2 y5 y6 = some _ at h
      show Run _ _ _ [(2, val (.pointer (some ⟨b1, 0, none⟩))), (3, val (.pointer (some ⟨b2, 0, none⟩))), (5, i64.slot y5)] [box b2 151 (vec 64 u32) y6, box b1 151 (vec 64 u32) (Vector.replicate 64 (0#32))]
      unfold rolodexref02_words_L2 at h
      refine run_seq ?_
      refine run_seq ?_
      refine run_text ?_
      refine j_pure (pj_move (has_tmp rfl)) rfl rfl rfl ?_
      refine j_pure (pj_ilss (has_tmp rfl) has_i64) rfl rfl rfl ?_
      refine j_end ?_
      refine run_cond (has_tmp rfl) (fun e7 => ?_) (fun e7 => ?_)
      · replace h := bt e7 h
        refine run_skip ?_
        refine run_seq ?_
        refine run_block ?_
        refine run_seq ?_
        refine run_text ?_
        refine j_pure (pj_move (has_tmp rfl)) rfl rfl rfl ?_
        refine j_pure (pj_isub (has_tmp rfl) has_i64) rfl rfl rfl ?_
        obtain ⟨x3, e8, h⟩ := bind_some h
        refine j_pure (pj_index_arr (n := 64) (sz := 1) (has_tmp rfl) (has_tmp rfl) isInt_i64 (vget_some e8).1 (vget_lt e8) (by kernel_rfl)) rfl rfl rfl ?_
        refine j_pure (PJ.eqv (pj_load_box (has_tmp rfl) .here (Path.then (Path.all (vec 64 u32)) (Path.atI 64 u32 ((w64 (y5 - (15 : Int))).toNat) (vget_some e8).2.1)) (by kernel_rfl)) (vget_eq e8 (vget_some e8).2.1)) rfl rfl rfl ?_
        refine j_pure (pj_assign (has_tmp rfl)) rfl rfl rfl ?_
        refine j_end ?_
        refine run_seq ?_
        refine run_text ?_
        refine j_pure (pj_move (has_tmp rfl)) rfl rfl rfl ?_
        refine j_pure (pj_isub (has_tmp rfl) has_i64) rfl rfl rfl ?_
        obtain ⟨x4, e9, h⟩ := bind_some h
        refine j_pure (pj_index_arr (n := 64) (sz := 1) (has_tmp rfl) (has_tmp rfl) isInt_i64 (vget_some e9).1 (vget_lt e9) (by kernel_rfl)) rfl rfl rfl ?_
        refine j_pure (PJ.eqv (pj_load_box (has_tmp rfl) .here (Path.then (Path.all (vec 64 u32)) (Path.atI 64 u32 ((w64 (y5 - (2 : Int))).toNat) (vget_some e9).2.1)) (by kernel_rfl)) (vget_eq e9 (vget_some e9).2.1)) rfl rfl rfl ?_
        refine j_pure (pj_assign (has_tmp rfl)) rfl rfl rfl ?_
        refine j_end ?_
        obtain ⟨x5, e10, h⟩ := bind_some h
        obtain ⟨r2, e11, h⟩ := bind_some h
        obtain ⟨r3, e12, h⟩ := bind_some h
        obtain ⟨x6, e13, h⟩ := bind_some h
        obtain ⟨r4, e14, h⟩ := bind_some h
        obtain ⟨r5, e15, h⟩ := bind_some h
        refine run_draw (n := 28) (by kernel_rfl) (by kernel_rfl) (by kernel_rfl) (by kernel_rfl) (.read (.plain rfl (pj_move (has_tmp rfl))) <| .read (.plain rfl (pj_move (has_tmp rfl))) <| .read (.plain rfl (pj_isub (has_tmp rfl) has_i64)) <| .read (.plain rfl (pj_index_arr (n := 64) (sz := 1) (has_tmp rfl) (has_tmp rfl) isInt_i64 (vget_some e10).1 (vget_lt e10) (by kernel_rfl))) <| .read (.plain rfl (PJ.eqv (pj_load_box (has_tmp rfl) .here (Path.then (Path.all (vec 64 u32)) (Path.atI 64 u32 ((w64 (y5 - (16 : Int))).toNat) (vget_some e10).2.1)) (by kernel_rfl)) (vget_eq e10 (vget_some e10).2.1))) <| .read (.plain rfl (pj_move (has_tmp rfl))) <| .read (.plain rfl (pj_call (hasL_cons (has_tmp rfl) <| hasL_cons (has_un (x := 7#32) rfl) <| hasL_nil) (by kernel_rfl) (c_rolodexref02_turned e11))) <| .read (.plain rfl (pj_move (has_tmp rfl))) <| .read (.plain rfl (pj_call (hasL_cons (has_tmp rfl) <| hasL_cons (has_un (x := 18#32) rfl) <| hasL_nil) (by kernel_rfl) (c_rolodexref02_turned e12))) <| .read (.plain rfl (pj_uxor (k := .u32) (b := 32) rfl rfl (has_tmp rfl) (has_tmp rfl))) <| .read (.plain rfl (pj_move (has_tmp rfl))) <| .read (.plain rfl (pj_uquo (k := .u32) (b := 32) rfl rfl (has_tmp rfl) (has_un (x := 8#32) rfl) (by decide))) <| .read (.plain rfl (pj_uxor (k := .u32) (b := 32) rfl rfl (has_tmp rfl) (has_tmp rfl))) <| .read (.plain rfl (pj_uadd (k := .u32) (b := 32) rfl rfl (has_tmp rfl) (has_tmp rfl))) <| .read (.plain rfl (pj_move (has_tmp rfl))) <| .read (.plain rfl (pj_isub (has_tmp rfl) has_i64)) <| .read (.plain rfl (pj_index_arr (n := 64) (sz := 1) (has_tmp rfl) (has_tmp rfl) isInt_i64 (vget_some e13).1 (vget_lt e13) (by kernel_rfl))) <| .read (.plain rfl (PJ.eqv (pj_load_box (has_tmp rfl) .here (Path.then (Path.all (vec 64 u32)) (Path.atI 64 u32 ((w64 (y5 - (7 : Int))).toNat) (vget_some e13).2.1)) (by kernel_rfl)) (vget_eq e13 (vget_some e13).2.1))) <| .read (.plain rfl (pj_uadd (k := .u32) (b := 32) rfl rfl (has_tmp rfl) (has_tmp rfl))) <| .read (.plain rfl (pj_move (has_tmp rfl))) <| .read (.plain rfl (pj_call (hasL_cons (has_tmp rfl) <| hasL_cons (has_un (x := 17#32) rfl) <| hasL_nil) (by kernel_rfl) (c_rolodexref02_turned e14))) <| .read (.plain rfl (pj_move (has_tmp rfl))) <| .read (.plain rfl (pj_call (hasL_cons (has_tmp rfl) <| hasL_cons (has_un (x := 19#32) rfl) <| hasL_nil) (by kernel_rfl) (c_rolodexref02_turned e15))) <| .read (.plain rfl (pj_uxor (k := .u32) (b := 32) rfl rfl (has_tmp rfl) (has_tmp rfl))) <| .read (.plain rfl (pj_move (has_tmp rfl))) <| .read (.plain rfl (pj_uquo (k := .u32) (b := 32) rfl rfl (has_tmp rfl) (has_un (x := 1024#32) rfl) (by decide))) <| .read (.plain rfl (pj_uxor (k := .u32) (b := 32) rfl rfl (has_tmp rfl) (has_tmp rfl))) <| .read (.plain rfl (pj_uadd (k := .u32) (b := 32) rfl rfl (has_tmp rfl) (has_tmp rfl))) <| .nil) (j_to (Γ' := [(2, val (.pointer (some ⟨b1, 0, none⟩))), (3, val (.pointer (some ⟨b2, 0, none⟩))), (5, i64.slot y5), (35, i64.slot y5), (62, u32.slot (((x5 + ((r2 ^^^ r3) ^^^ (x3 / (8#32)))) + x6) + ((r4 ^^^ r5) ^^^ (x4 / (1024#32)))))]) (H' := [box b2 151 (vec 64 u32) y6, box b1 151 (vec 64 u32) (Vector.replicate 64 (0#32))]) (.cons (.of_lk rfl) <| .cons (.of_lk rfl) <| .cons (.of_lk rfl) <| .cons (.of_lk rfl) <| .cons (.of_lk rfl) <| .nil) (.cons .here <| .cons .here <| .nil) ?_)
        obtain ⟨e16, h⟩ := grd_some h
        refine j_pure (pj_index_arr (n := 64) (sz := 1) (has_tmp rfl) (has_tmp rfl) isInt_i64 e16.1 e16.2 (by kernel_rfl)) rfl rfl rfl ?_
        obtain ⟨x7, e17, h⟩ := bind_some h
        refine j_store_boxx (r' := x7) (has_tmp rfl) (has_tmp rfl) .here (Path.then (Path.all (vec 64 u32)) (Path.atI 64 u32 y5.toNat (lt_nat e16))) (by kernel_rfl) (Option.some.inj e17) ?_
        refine j_end ?_
        refine run_endblock ?_
        refine run_text ?_
        refine j_pure (pj_move (has_tmp rfl)) rfl rfl rfl ?_
        refine j_pure (pj_iadd (has_tmp rfl) has_i64) rfl rfl rfl ?_
        refine j_pure (pj_assign (has_tmp rfl)) rfl rfl rfl ?_
        refine j_end ?_
        obtain rfl := Option.some.inj h
        exact run_next () (.cons (.of_lk rfl) <| .cons (.of_lk rfl) <| .cons (.of_lk rfl) <| .nil) (.cons .here <| .cons .here <| .nil)
      · replace h := bf e7 h
        obtain rfl := Option.some.inj h
        exact run_brk () (.cons (.of_lk rfl) <| .cons (.of_lk rfl) <| .cons (.of_lk rfl) <| .nil) (.cons .here <| .cons .here <| .nil)
    · rintro _
      show Run _ _ _ [(2, val (.pointer (some ⟨b1, 0, none⟩))), (3, val (.pointer (some ⟨b2, 0, none⟩))), (5, i64.slot y7)] [box b2 151 (vec 64 u32) y8, box b1 151 (vec 64 u32) (Vector.replicate 64 (0#32))]
      refine run_to (Γ' := [(2, val (.pointer (some ⟨b1, 0, none⟩))), (3, val (.pointer (some ⟨b2, 0, none⟩)))]) (H' := [box b2 151 (vec 64 u32) y8, box b1 151 (vec 64 u32) (Vector.replicate 64 (0#32))]) (.cons (.of_lk rfl) <| .cons (.of_lk rfl) <| .nil) (.cons .here <| .cons .here <| .nil) ?_
      refine run_seq ?_
      refine run_text ?_
      refine j_pure (pj_load_box (has_tmp rfl) .here (Path.all (vec 64 u32)) (by kernel_rfl)) rfl rfl rfl ?_
      refine j_store_boxx (r' := y8) (has_tmp rfl) (has_tmp rfl) (.next .here) (Path.all (vec 64 u32)) (by kernel_rfl) rfl ?_
      refine j_end ?_
      obtain rfl := Option.some.inj h
      exact run_ret fun a w hst => q_ret1 hst rfl (.cell rfl .here (by kernel_rfl)) () (fun _ _ h => h) (.nil)
set_option maxRecDepth 100000 in
set_option maxHeartbeats 4000000 in
theorem c_rolodexref02_K {G : GP} {r : (Vector (BitVec 32) 64)} (h : rolodexref02_K = some r) : Ctr Tryd.prog G 99 [] [] (fun (_ : Unit) => (vec 64 u32).slot r) (fun (_ : Unit) => []) := by
  unfold rolodexref02_K at h
  refine ctr_of_run Tryd.func99 rfl 2 rfl rfl fun m0 w0 b0 => ?_
  show Run _ _ _ [] _
  refine run_seq ?_
  refine run_text ?_
  refine j_alloc (x := (Vector.replicate 64 (0#32))) (R := (vec 64 u32)) (zero_vec 64 zero_un) (by kernel_rfl) rfl fun b1 => ?_
  refine j_end ?_
  refine run_seq ?_
  refine run_text ?_
  obtain ⟨x1, e1, h⟩ := bind_some h
  refine j_pure (PJ.eqv (pj_buildArr (z0 := 0#32) (zero_vec 64 zero_un) (by kernel_rfl) (.cons (has_un (x := 1116352408#32) rfl) (.cons (has_un (x := 1899447441#32) rfl) (.cons (has_un (x := 3049323471#32) rfl) (.cons (has_un (x := 3921009573#32) rfl) (.cons (has_un (x := 961987163#32) rfl) (.cons (has_un (x := 1508970993#32) rfl) (.cons (has_un (x := 2453635748#32) rfl) (.cons (has_un (x := 2870763221#32) rfl) (.cons (has_un (x := 3624381080#32) rfl) (.cons (has_un (x := 310598401#32) rfl) (.cons (has_un (x := 607225278#32) rfl) (.cons (has_un (x := 1426881987#32) rfl) (.cons (has_un (x := 1925078388#32) rfl) (.cons (has_un (x := 2162078206#32) rfl) (.cons (has_un (x := 2614888103#32) rfl) (.cons (has_un (x := 3248222580#32) rfl) (.cons (has_un (x := 3835390401#32) rfl) (.cons (has_un (x := 4022224774#32) rfl) (.cons (has_un (x := 264347078#32) rfl) (.cons (has_un (x := 604807628#32) rfl) (.cons (has_un (x := 770255983#32) rfl) (.cons (has_un (x := 1249150122#32) rfl) (.cons (has_un (x := 1555081692#32) rfl) (.cons (has_un (x := 1996064986#32) rfl) (.cons (has_un (x := 2554220882#32) rfl) (.cons (has_un (x := 2821834349#32) rfl) (.cons (has_un (x := 2952996808#32) rfl) (.cons (has_un (x := 3210313671#32) rfl) (.cons (has_un (x := 3336571891#32) rfl) (.cons (has_un (x := 3584528711#32) rfl) (.cons (has_un (x := 113926993#32) rfl) (.cons (has_un (x := 338241895#32) rfl) (.cons (has_un (x := 666307205#32) rfl) (.cons (has_un (x := 773529912#32) rfl) (.cons (has_un (x := 1294757372#32) rfl) (.cons (has_un (x := 1396182291#32) rfl) (.cons (has_un (x := 1695183700#32) rfl) (.cons (has_un (x := 1986661051#32) rfl) (.cons (has_un (x := 2177026350#32) rfl) (.cons (has_un (x := 2456956037#32) rfl) (.cons (has_un (x := 2730485921#32) rfl) (.cons (has_un (x := 2820302411#32) rfl) (.cons (has_un (x := 3259730800#32) rfl) (.cons (has_un (x := 3345764771#32) rfl) (.cons (has_un (x := 3516065817#32) rfl) (.cons (has_un (x := 3600352804#32) rfl) (.cons (has_un (x := 4094571909#32) rfl) (.cons (has_un (x := 275423344#32) rfl) (.cons (has_un (x := 430227734#32) rfl) (.cons (has_un (x := 506948616#32) rfl) (.cons (has_un (x := 659060556#32) rfl) (.cons (has_un (x := 883997877#32) rfl) (.cons (has_un (x := 958139571#32) rfl) (.cons (has_un (x := 1322822218#32) rfl) (.cons (has_un (x := 1537002063#32) rfl) (.cons (has_un (x := 1747873779#32) rfl) (.cons (has_un (x := 1955562222#32) rfl) (.cons (has_un (x := 2024104815#32) rfl) (.cons (has_un (x := 2227730452#32) rfl) (.cons (has_un (x := 2361852424#32) rfl) (.cons (has_un (x := 2428436474#32) rfl) (.cons (has_un (x := 2756734187#32) rfl) (.cons (has_un (x := 3204031479#32) rfl) (.cons (has_un (x := 3329325298#32) rfl) .nil)))))))))))))))))))))))))))))))))))))))))))))))))))))))))))))))) (by kernel_rfl) rfl) (Option.some.inj e1)) rfl rfl rfl ?_
  refine j_store_boxx (r' := x1) (has_tmp rfl) (has_tmp rfl) .here (Path.all (vec 64 u32)) (by kernel_rfl) rfl ?_
  refine j_end ?_
  obtain rfl := Option.some.inj h
  exact run_ret fun a w hst => q_ret1 hst rfl (.cell rfl .here (by kernel_rfl)) () (fun _ _ h => h) (.nil)
set_option maxRecDepth 100000 in
set_option maxHeartbeats 4000000 in
theorem c_rolodexref02_take {G : GP} {p_h : Vector (BitVec 32) 8} {p_block : List (BitVec 8)} {r : (Vector (BitVec 32) 8)} (h : rolodexref02_take p_h p_block = some r) : Ctr Tryd.prog G 74 [(vec 8 u32).slot p_h, (sl u8).slot p_block] [] (fun (_ : Unit) => (vec 8 u32).slot r) (fun (_ : Unit) => []) := by
  unfold rolodexref02_take at h
  refine ctr_of_run Tryd.func74 rfl 121 rfl rfl fun m0 w0 b0 => ?_
  show Run _ _ _ [(0, (vec 8 u32).slot p_h), (1, (sl u8).slot p_block)] _
  refine run_seq ?_
  refine run_text ?_
  refine j_box (has_tmp rfl) rfl fun b1 => ?_
  refine j_alloc (x := (Vector.replicate 8 (0#32))) (R := (vec 8 u32)) (zero_vec 8 zero_un) (by kernel_rfl) rfl fun b2 => ?_
  refine j_end ?_
  refine run_seq ?_
  refine run_text ?_
  refine j_pure (pj_move (has_tmp rfl)) rfl rfl rfl ?_
  obtain ⟨r1, e1, h⟩ := bind_some h
  refine j_pure (pj_call (hasL_cons (has_tmp rfl) <| hasL_nil) (by kernel_rfl) (c_rolodexref02_words e1)) rfl rfl rfl ?_
  refine j_alloc (x := (Vector.replicate 64 (0#32))) (R := (vec 64 u32)) (zero_vec 64 zero_un) (by kernel_rfl) rfl fun b3 => ?_
  refine j_store_boxx (r' := r1) (has_tmp rfl) (has_tmp rfl) .here (Path.all (vec 64 u32)) (by kernel_rfl) rfl ?_
  refine j_freezeTo (t := 5) .here (.of_lk rfl) ?_
  refine j_end ?_
  refine run_seq ?_
  refine run_text ?_
  obtain ⟨r2, e2, h⟩ := bind_some h
  refine j_pure (pj_call (hasL_nil) (by kernel_rfl) (c_rolodexref02_K e2)) rfl rfl rfl ?_
  refine j_alloc (x := (Vector.replicate 64 (0#32))) (R := (vec 64 u32)) (zero_vec 64 zero_un) (by kernel_rfl) rfl fun b4 => ?_
  refine j_store_boxx (r' := r2) (has_tmp rfl) (has_tmp rfl) .here (Path.all (vec 64 u32)) (by kernel_rfl) rfl ?_
  refine j_freezeTo (t := 6) .here (.of_lk rfl) ?_
  refine j_end ?_
  refine run_seq ?_
  refine run_text ?_
  refine j_pure (pj_load_box (has_tmp rfl) (.next .here) (Path.all (vec 8 u32)) (by kernel_rfl)) rfl rfl rfl ?_
  refine j_alloc (x := (Vector.replicate 8 (0#32))) (R := (vec 8 u32)) (zero_vec 8 zero_un) (by kernel_rfl) rfl fun b5 => ?_
  refine j_store_boxx (r' := p_h) (has_tmp rfl) (has_tmp rfl) .here (Path.all (vec 8 u32)) (by kernel_rfl) rfl ?_
  refine j_end ?_
  refine run_seq ?_
  refine run_seq ?_
  refine run_text ?_
  refine j_pure (pj_assign has_i64) rfl rfl rfl ?_
  refine j_end ?_
  obtain ⟨⟨y3, y4⟩, e16, h⟩ := bind_some h
  refine run_loopS (Γi := fun (i : Unit) (s : Int × (Vector (BitVec 32) 8)) => [(2, val (.pointer (some ⟨b1, 0, none⟩))), (4, val (.pointer (some ⟨b2, 0, none⟩))), (5, ptrTo (vec 64 u32) r1), (6, ptrTo (vec 64 u32) r2), (7, val (.pointer (some ⟨b5, 0, none⟩))), (8, i64.slot s.1)]) (Hi := fun (i : Unit) (s : Int × (Vector (BitVec 32) 8)) => [box b5 126 (vec 8 u32) s.2, box b2 126 (vec 8 u32) (Vector.replicate 8 (0#32)), box b1 126 (vec 8 u32) p_h]) e16 () (fun a w hst => (hst.sub (.cons (.of_lk rfl) <| .cons (.of_lk rfl) <| .cons (.of_lk rfl) <| .cons (.of_lk rfl) <| .cons (.of_lk rfl) <| .cons (.of_lk rfl) <| .nil)).keep (.cons .here <| .cons .here <| .cons .here <| .nil)) ?_ ?_
  · clear h e16
    rintro _ ⟨y1, y2⟩ lr h
    change rolodexref02_take_L1 r2 r1 y1 y2 = some _ at h
    show Run _ _ _ [(2, val (.pointer (some ⟨b1, 0, none⟩))), (4, val (.pointer (some ⟨b2, 0, none⟩))), (5, ptrTo (vec 64 u32) r1), (6, ptrTo (vec 64 u32) r2), (7, val (.pointer (some ⟨b5, 0, none⟩))), (8, i64.slot y1)] [box b5 126 (vec 8 u32) y2, box b2 126 (vec 8 u32) (Vector.replicate 8 (0#32)), box b1 126 (vec 8 u32) p_h]
    unfold rolodexref02_take_L1 at h
    refine run_seq ?_
    refine run_seq ?_
    refine run_text ?_
    refine j_pure (pj_move (has_tmp rfl)) rfl rfl rfl ?_
    refine j_pure (pj_ilss (has_tmp rfl) has_i64) rfl rfl rfl ?_
    refine j_end ?_
    refine run_cond (has_tmp rfl) (fun e3 => ?_) (fun e3 => ?_)
    · replace h := bt e3 h
      refine run_skip ?_
      refine run_seq ?_
      refine run_block ?_
      refine run_seq ?_
      refine run_text ?_
      refine j_pure (pj_index_arr (n := 8) (sz := 1) (has_tmp rfl) has_i64 isInt_i64 (by decide) (by decide) (by kernel_rfl)) rfl rfl rfl ?_
      refine j_pure (pj_load_box (has_tmp rfl) .here (Path.then (Path.all (vec 8 u32)) (Path.at 8 u32 4 (by decide))) (by kernel_rfl)) rfl rfl rfl ?_
      refine j_pure (pj_index_arr (n := 8) (sz := 1) (has_tmp rfl) has_i64 isInt_i64 (by decide) (by decide) (by kernel_rfl)) rfl rfl rfl ?_
      refine j_pure (pj_load_box (has_tmp rfl) .here (Path.then (Path.all (vec 8 u32)) (Path.at 8 u32 5 (by decide))) (by kernel_rfl)) rfl rfl rfl ?_
      refine j_pure (pj_uand (k := .u32) (b := 32) rfl rfl (has_tmp rfl) (has_tmp rfl)) rfl rfl rfl ?_
      refine j_pure (pj_index_arr (n := 8) (sz := 1) (has_tmp rfl) has_i64 isInt_i64 (by decide) (by decide) (by kernel_rfl)) rfl rfl rfl ?_
      refine j_pure (pj_load_box (has_tmp rfl) .here (Path.then (Path.all (vec 8 u32)) (Path.at 8 u32 4 (by decide))) (by kernel_rfl)) rfl rfl rfl ?_
      refine j_pure (pj_usub (k := .u32) (b := 32) rfl rfl (has_un (x := 4294967295#32) rfl) (has_tmp rfl)) rfl rfl rfl ?_
      refine j_pure (pj_index_arr (n := 8) (sz := 1) (has_tmp rfl) has_i64 isInt_i64 (by decide) (by decide) (by kernel_rfl)) rfl rfl rfl ?_
      refine j_pure (pj_load_box (has_tmp rfl) .here (Path.then (Path.all (vec 8 u32)) (Path.at 8 u32 6 (by decide))) (by kernel_rfl)) rfl rfl rfl ?_
      refine j_pure (pj_uand (k := .u32) (b := 32) rfl rfl (has_tmp rfl) (has_tmp rfl)) rfl rfl rfl ?_
      refine j_pure (pj_uor (k := .u32) (b := 32) rfl rfl (has_tmp rfl) (has_tmp rfl)) rfl rfl rfl ?_
      obtain ⟨x1, e4, h⟩ := bind_some h
      refine j_pure (PJ.eqv (pj_assign (has_tmp rfl)) (Option.some.inj e4)) rfl rfl rfl ?_
      refine j_end ?_
      refine run_seq ?_
      refine run_text ?_
      refine j_pure (pj_index_arr (n := 8) (sz := 1) (has_tmp rfl) has_i64 isInt_i64 (by decide) (by decide) (by kernel_rfl)) rfl rfl rfl ?_
      refine j_pure (pj_load_box (has_tmp rfl) .here (Path.then (Path.all (vec 8 u32)) (Path.at 8 u32 0 (by decide))) (by kernel_rfl)) rfl rfl rfl ?_
      refine j_pure (pj_index_arr (n := 8) (sz := 1) (has_tmp rfl) has_i64 isInt_i64 (by decide) (by decide) (by kernel_rfl)) rfl rfl rfl ?_
      refine j_pure (pj_load_box (has_tmp rfl) .here (Path.then (Path.all (vec 8 u32)) (Path.at 8 u32 1 (by decide))) (by kernel_rfl)) rfl rfl rfl ?_
      refine j_pure (pj_uand (k := .u32) (b := 32) rfl rfl (has_tmp rfl) (has_tmp rfl)) rfl rfl rfl ?_
      refine j_pure (pj_index_arr (n := 8) (sz := 1) (has_tmp rfl) has_i64 isInt_i64 (by decide) (by decide) (by kernel_rfl)) rfl rfl rfl ?_
      refine j_pure (pj_load_box (has_tmp rfl) .here (Path.then (Path.all (vec 8 u32)) (Path.at 8 u32 0 (by decide))) (by kernel_rfl)) rfl rfl rfl ?_
      refine j_pure (pj_index_arr (n := 8) (sz := 1) (has_tmp rfl) has_i64 isInt_i64 (by decide) (by decide) (by kernel_rfl)) rfl rfl rfl ?_
      refine j_pure (pj_load_box (has_tmp rfl) .here (Path.then (Path.all (vec 8 u32)) (Path.at 8 u32 2 (by decide))) (by kernel_rfl)) rfl rfl rfl ?_
      refine j_pure (pj_uand (k := .u32) (b := 32) rfl rfl (has_tmp rfl) (has_tmp rfl)) rfl rfl rfl ?_
      refine j_pure (pj_uor (k := .u32) (b := 32) rfl rfl (has_tmp rfl) (has_tmp rfl)) rfl rfl rfl ?_
      refine j_pure (pj_index_arr (n := 8) (sz := 1) (has_tmp rfl) has_i64 isInt_i64 (by decide) (by decide) (by kernel_rfl)) rfl rfl rfl ?_
      refine j_pure (pj_load_box (has_tmp rfl) .here (Path.then (Path.all (vec 8 u32)) (Path.at 8 u32 1 (by decide))) (by kernel_rfl)) rfl rfl rfl ?_
      refine j_pure (pj_index_arr (n := 8) (sz := 1) (has_tmp rfl) has_i64 isInt_i64 (by decide) (by decide) (by kernel_rfl)) rfl rfl rfl ?_
      refine j_pure (pj_load_box (has_tmp rfl) .here (Path.then (Path.all (vec 8 u32)) (Path.at 8 u32 2 (by decide))) (by kernel_rfl)) rfl rfl rfl ?_
      refine j_pure (pj_uand (k := .u32) (b := 32) rfl rfl (has_tmp rfl) (has_tmp rfl)) rfl rfl rfl ?_
      refine j_pure (pj_uor (k := .u32) (b := 32) rfl rfl (has_tmp rfl) (has_tmp rfl)) rfl rfl rfl ?_
      obtain ⟨x2, e5, h⟩ := bind_some h
      refine j_pure (PJ.eqv (pj_assign (has_tmp rfl)) (Option.some.inj e5)) rfl rfl rfl ?_
      refine j_end ?_
      refine run_seq ?_
      obtain ⟨r3, e6, h⟩ := bind_some h
      obtain ⟨r4, e7, h⟩ := bind_some h
      obtain ⟨r5, e8, h⟩ := bind_some h
      obtain ⟨x3, e9, h⟩ := bind_some h
      obtain ⟨x4, e10, h⟩ := bind_some h
      refine run_draw (n := 23) (by kernel_rfl) (by kernel_rfl) (by kernel_rfl) (by kernel_rfl) (.read (.plain rfl (pj_index_arr (n := 8) (sz := 1) (has_tmp rfl) has_i64 isInt_i64 (by decide) (by decide) (by kernel_rfl))) <| .read (.plain rfl (pj_load_box (has_tmp rfl) .here (Path.then (Path.all (vec 8 u32)) (Path.at 8 u32 7 (by decide))) (by kernel_rfl))) <| .read (.plain rfl (pj_index_arr (n := 8) (sz := 1) (has_tmp rfl) has_i64 isInt_i64 (by decide) (by decide) (by kernel_rfl))) <| .read (.plain rfl (pj_load_box (has_tmp rfl) .here (Path.then (Path.all (vec 8 u32)) (Path.at 8 u32 4 (by decide))) (by kernel_rfl))) <| .read (.plain rfl (pj_call (hasL_cons (has_tmp rfl) <| hasL_cons (has_un (x := 6#32) rfl) <| hasL_nil) (by kernel_rfl) (c_rolodexref02_turned e6))) <| .read (.plain rfl (pj_index_arr (n := 8) (sz := 1) (has_tmp rfl) has_i64 isInt_i64 (by decide) (by decide) (by kernel_rfl))) <| .read (.plain rfl (pj_load_box (has_tmp rfl) .here (Path.then (Path.all (vec 8 u32)) (Path.at 8 u32 4 (by decide))) (by kernel_rfl))) <| .read (.plain rfl (pj_call (hasL_cons (has_tmp rfl) <| hasL_cons (has_un (x := 11#32) rfl) <| hasL_nil) (by kernel_rfl) (c_rolodexref02_turned e7))) <| .read (.plain rfl (pj_uxor (k := .u32) (b := 32) rfl rfl (has_tmp rfl) (has_tmp rfl))) <| .read (.plain rfl (pj_index_arr (n := 8) (sz := 1) (has_tmp rfl) has_i64 isInt_i64 (by decide) (by decide) (by kernel_rfl))) <| .read (.plain rfl (pj_load_box (has_tmp rfl) .here (Path.then (Path.all (vec 8 u32)) (Path.at 8 u32 4 (by decide))) (by kernel_rfl))) <| .read (.plain rfl (pj_call (hasL_cons (has_tmp rfl) <| hasL_cons (has_un (x := 25#32) rfl) <| hasL_nil) (by kernel_rfl) (c_rolodexref02_turned e8))) <| .read (.plain rfl (pj_uxor (k := .u32) (b := 32) rfl rfl (has_tmp rfl) (has_tmp rfl))) <| .read (.plain rfl (pj_uadd (k := .u32) (b := 32) rfl rfl (has_tmp rfl) (has_tmp rfl))) <| .read (.plain rfl (pj_move (has_tmp rfl))) <| .read (.plain rfl (pj_uadd (k := .u32) (b := 32) rfl rfl (has_tmp rfl) (has_tmp rfl))) <| .read (.plain rfl (pj_move (has_tmp rfl))) <| .read (.plain rfl (pj_index_tox (has_tmp rfl) (has_tmp rfl) isInt_i64 e9 (by kernel_rfl))) <| .read (.plain rfl (pj_load_to (has_tmp rfl) (by kernel_rfl))) <| .read (.plain rfl (pj_uadd (k := .u32) (b := 32) rfl rfl (has_tmp rfl) (has_tmp rfl))) <| .read (.plain rfl (pj_move (has_tmp rfl))) <| .read (.plain rfl (pj_index_tox (has_tmp rfl) (has_tmp rfl) isInt_i64 e10 (by kernel_rfl))) <| .read (.plain rfl (pj_load_to (has_tmp rfl) (by kernel_rfl))) <| .nil) (j_to (Γ' := [(2, val (.pointer (some ⟨b1, 0, none⟩))), (4, val (.pointer (some ⟨b2, 0, none⟩))), (5, ptrTo (vec 64 u32) r1), (6, ptrTo (vec 64 u32) r2), (7, val (.pointer (some ⟨b5, 0, none⟩))), (8, i64.slot y1), (10, u32.slot x2), (70, u32.slot ((((y2[7]) + ((r3 ^^^ r4) ^^^ r5)) + x1) + x3)), (73, u32.slot x4)]) (H' := [box b5 126 (vec 8 u32) y2, box b2 126 (vec 8 u32) (Vector.replicate 8 (0#32)), box b1 126 (vec 8 u32) p_h]) (.cons (.of_lk rfl) <| .cons (.of_lk rfl) <| .cons (.of_lk rfl) <| .cons (.of_lk rfl) <| .cons (.of_lk rfl) <| .cons (.of_lk rfl) <| .cons (.of_lk rfl) <| .cons (.of_lk rfl) <| .cons (.of_lk rfl) <| .nil) (.cons .here <| .cons .here <| .cons .here <| .nil) ?_)
      refine j_pure (pj_uadd (k := .u32) (b := 32) rfl rfl (has_tmp rfl) (has_tmp rfl)) rfl rfl rfl ?_
      obtain ⟨x5, e11, h⟩ := bind_some h
      refine j_pure (PJ.eqv (pj_assign (has_tmp rfl)) (Option.some.inj e11)) rfl rfl rfl ?_
      refine j_end ?_
      refine run_seq ?_
      obtain ⟨r6, e12, h⟩ := bind_some h
      obtain ⟨r7, e13, h⟩ := bind_some h
      obtain ⟨r8, e14, h⟩ := bind_some h
      refine run_draw (n := 12) (by kernel_rfl) (by kernel_rfl) (by kernel_rfl) (by kernel_rfl) (.read (.plain rfl (pj_index_arr (n := 8) (sz := 1) (has_tmp rfl) has_i64 isInt_i64 (by decide) (by decide) (by kernel_rfl))) <| .read (.plain rfl (pj_load_box (has_tmp rfl) .here (Path.then (Path.all (vec 8 u32)) (Path.at 8 u32 0 (by decide))) (by kernel_rfl))) <| .read (.plain rfl (pj_call (hasL_cons (has_tmp rfl) <| hasL_cons (has_un (x := 2#32) rfl) <| hasL_nil) (by kernel_rfl) (c_rolodexref02_turned e12))) <| .read (.plain rfl (pj_index_arr (n := 8) (sz := 1) (has_tmp rfl) has_i64 isInt_i64 (by decide) (by decide) (by kernel_rfl))) <| .read (.plain rfl (pj_load_box (has_tmp rfl) .here (Path.then (Path.all (vec 8 u32)) (Path.at 8 u32 0 (by decide))) (by kernel_rfl))) <| .read (.plain rfl (pj_call (hasL_cons (has_tmp rfl) <| hasL_cons (has_un (x := 13#32) rfl) <| hasL_nil) (by kernel_rfl) (c_rolodexref02_turned e13))) <| .read (.plain rfl (pj_uxor (k := .u32) (b := 32) rfl rfl (has_tmp rfl) (has_tmp rfl))) <| .read (.plain rfl (pj_index_arr (n := 8) (sz := 1) (has_tmp rfl) has_i64 isInt_i64 (by decide) (by decide) (by kernel_rfl))) <| .read (.plain rfl (pj_load_box (has_tmp rfl) .here (Path.then (Path.all (vec 8 u32)) (Path.at 8 u32 0 (by decide))) (by kernel_rfl))) <| .read (.plain rfl (pj_call (hasL_cons (has_tmp rfl) <| hasL_cons (has_un (x := 22#32) rfl) <| hasL_nil) (by kernel_rfl) (c_rolodexref02_turned e14))) <| .read (.plain rfl (pj_uxor (k := .u32) (b := 32) rfl rfl (has_tmp rfl) (has_tmp rfl))) <| .read (.plain rfl (pj_move (has_tmp rfl))) <| .nil) (j_to (Γ' := [(2, val (.pointer (some ⟨b1, 0, none⟩))), (4, val (.pointer (some ⟨b2, 0, none⟩))), (5, ptrTo (vec 64 u32) r1), (6, ptrTo (vec 64 u32) r2), (7, val (.pointer (some ⟨b5, 0, none⟩))), (8, i64.slot y1), (11, u32.slot x5), (85, u32.slot ((r6 ^^^ r7) ^^^ r8)), (86, u32.slot x2)]) (H' := [box b5 126 (vec 8 u32) y2, box b2 126 (vec 8 u32) (Vector.replicate 8 (0#32)), box b1 126 (vec 8 u32) p_h]) (.cons (.of_lk rfl) <| .cons (.of_lk rfl) <| .cons (.of_lk rfl) <| .cons (.of_lk rfl) <| .cons (.of_lk rfl) <| .cons (.of_lk rfl) <| .cons (.of_lk rfl) <| .cons (.of_lk rfl) <| .cons (.of_lk rfl) <| .nil) (.cons .here <| .cons .here <| .cons .here <| .nil) ?_)
      refine j_pure (pj_uadd (k := .u32) (b := 32) rfl rfl (has_tmp rfl) (has_tmp rfl)) rfl rfl rfl ?_
      refine j_pure (pj_assign (has_tmp rfl)) rfl rfl rfl ?_
      refine j_end ?_
      refine run_text ?_
      refine j_pure (pj_move (has_tmp rfl)) rfl rfl rfl ?_
      refine j_pure (pj_move (has_tmp rfl)) rfl rfl rfl ?_
      refine j_pure (pj_uadd (k := .u32) (b := 32) rfl rfl (has_tmp rfl) (has_tmp rfl)) rfl rfl rfl ?_
      refine j_pure (pj_index_arr (n := 8) (sz := 1) (has_tmp rfl) has_i64 isInt_i64 (by decide) (by decide) (by kernel_rfl)) rfl rfl rfl ?_
      refine j_pure (pj_load_box (has_tmp rfl) .here (Path.then (Path.all (vec 8 u32)) (Path.at 8 u32 0 (by decide))) (by kernel_rfl)) rfl rfl rfl ?_
      refine j_pure (pj_index_arr (n := 8) (sz := 1) (has_tmp rfl) has_i64 isInt_i64 (by decide) (by decide) (by kernel_rfl)) rfl rfl rfl ?_
      refine j_pure (pj_load_box (has_tmp rfl) .here (Path.then (Path.all (vec 8 u32)) (Path.at 8 u32 1 (by decide))) (by kernel_rfl)) rfl rfl rfl ?_
      refine j_pure (pj_index_arr (n := 8) (sz := 1) (has_tmp rfl) has_i64 isInt_i64 (by decide) (by decide) (by kernel_rfl)) rfl rfl rfl ?_
      refine j_pure (pj_load_box (has_tmp rfl) .here (Path.then (Path.all (vec 8 u32)) (Path.at 8 u32 2 (by decide))) (by kernel_rfl)) rfl rfl rfl ?_
      refine j_pure (pj_index_arr (n := 8) (sz := 1) (has_tmp rfl) has_i64 isInt_i64 (by decide) (by decide) (by kernel_rfl)) rfl rfl rfl ?_
      refine j_pure (pj_load_box (has_tmp rfl) .here (Path.then (Path.all (vec 8 u32)) (Path.at 8 u32 3 (by decide))) (by kernel_rfl)) rfl rfl rfl ?_
      refine j_pure (pj_move (has_tmp rfl)) rfl rfl rfl ?_
      refine j_pure (pj_uadd (k := .u32) (b := 32) rfl rfl (has_tmp rfl) (has_tmp rfl)) rfl rfl rfl ?_
      refine j_pure (pj_index_arr (n := 8) (sz := 1) (has_tmp rfl) has_i64 isInt_i64 (by decide) (by decide) (by kernel_rfl)) rfl rfl rfl ?_
      refine j_pure (pj_load_box (has_tmp rfl) .here (Path.then (Path.all (vec 8 u32)) (Path.at 8 u32 4 (by decide))) (by kernel_rfl)) rfl rfl rfl ?_
      refine j_pure (pj_index_arr (n := 8) (sz := 1) (has_tmp rfl) has_i64 isInt_i64 (by decide) (by decide) (by kernel_rfl)) rfl rfl rfl ?_
      refine j_pure (pj_load_box (has_tmp rfl) .here (Path.then (Path.all (vec 8 u32)) (Path.at 8 u32 5 (by decide))) (by kernel_rfl)) rfl rfl rfl ?_
      refine j_pure (pj_index_arr (n := 8) (sz := 1) (has_tmp rfl) has_i64 isInt_i64 (by decide) (by decide) (by kernel_rfl)) rfl rfl rfl ?_
      refine j_pure (pj_load_box (has_tmp rfl) .here (Path.then (Path.all (vec 8 u32)) (Path.at 8 u32 6 (by decide))) (by kernel_rfl)) rfl rfl rfl ?_
      obtain ⟨x6, e15, h⟩ := bind_some h
      refine j_pure (PJ.eqv (pj_buildArr (z0 := 0#32) (zero_vec 8 zero_un) (by kernel_rfl) (.cons (has_tmp rfl) (.cons (has_tmp rfl) (.cons (has_tmp rfl) (.cons (has_tmp rfl) (.cons (has_tmp rfl) (.cons (has_tmp rfl) (.cons (has_tmp rfl) (.cons (has_tmp rfl) .nil)))))))) (by kernel_rfl) rfl) (Option.some.inj e15)) rfl rfl rfl ?_
      refine j_store_boxx (r' := x6) (has_tmp rfl) (has_tmp rfl) .here (Path.all (vec 8 u32)) (by kernel_rfl) rfl ?_
      refine j_end ?_
      refine run_endblock ?_
      refine run_text ?_
      refine j_pure (pj_move (has_tmp rfl)) rfl rfl rfl ?_
      refine j_pure (pj_iadd (has_tmp rfl) has_i64) rfl rfl rfl ?_
      refine j_pure (pj_assign (has_tmp rfl)) rfl rfl rfl ?_
      refine j_end ?_
      obtain rfl := Option.some.inj h
      exact run_next () (.cons (.of_lk rfl) <| .cons (.of_lk rfl) <| .cons (.of_lk rfl) <| .cons (.of_lk rfl) <| .cons (.of_lk rfl) <| .cons (.of_lk rfl) <| .nil) (.cons .here <| .cons .here <| .cons .here <| .nil)
    · replace h := bf e3 h
      obtain rfl := Option.some.inj h
      exact run_brk () (.cons (.of_lk rfl) <| .cons (.of_lk rfl) <| .cons (.of_lk rfl) <| .cons (.of_lk rfl) <| .cons (.of_lk rfl) <| .cons (.of_lk rfl) <| .nil) (.cons .here <| .cons .here <| .cons .here <| .nil)
  · rintro _
    show Run _ _ _ [(2, val (.pointer (some ⟨b1, 0, none⟩))), (4, val (.pointer (some ⟨b2, 0, none⟩))), (5, ptrTo (vec 64 u32) r1), (6, ptrTo (vec 64 u32) r2), (7, val (.pointer (some ⟨b5, 0, none⟩))), (8, i64.slot y3)] [box b5 126 (vec 8 u32) y4, box b2 126 (vec 8 u32) (Vector.replicate 8 (0#32)), box b1 126 (vec 8 u32) p_h]
    refine run_to (Γ' := [(2, val (.pointer (some ⟨b1, 0, none⟩))), (4, val (.pointer (some ⟨b2, 0, none⟩))), (7, val (.pointer (some ⟨b5, 0, none⟩)))]) (H' := [box b5 126 (vec 8 u32) y4, box b2 126 (vec 8 u32) (Vector.replicate 8 (0#32)), box b1 126 (vec 8 u32) p_h]) (.cons (.of_lk rfl) <| .cons (.of_lk rfl) <| .cons (.of_lk rfl) <| .nil) (.cons .here <| .cons .here <| .cons .here <| .nil) ?_
    refine run_seq ?_
    refine run_seq ?_
    refine run_text ?_
    refine j_pure (pj_assign has_i64) rfl rfl rfl ?_
    refine j_end ?_
    obtain ⟨⟨y7, y8⟩, e21, h⟩ := bind_some h
    refine run_loopS (Γi := fun (i : Unit) (s : Int × (Vector (BitVec 32) 8)) => [(2, val (.pointer (some ⟨b1, 0, none⟩))), (4, val (.pointer (some ⟨b2, 0, none⟩))), (7, val (.pointer (some ⟨b5, 0, none⟩))), (13, i64.slot s.1)]) (Hi := fun (i : Unit) (s : Int × (Vector (BitVec 32) 8)) => [box b5 126 (vec 8 u32) y4, box b2 126 (vec 8 u32) (Vector.replicate 8 (0#32)), box b1 126 (vec 8 u32) s.2]) e21 () (fun a w hst => (hst.sub (.cons (.of_lk rfl) <| .cons (.of_lk rfl) <| .cons (.of_lk rfl) <| .cons (.of_lk rfl) <| .nil)).keep (.cons .here <| .cons .here <| .cons .here <| .nil)) ?_ ?_
    · clear h e21
      rintro _ ⟨y5, y6⟩ lr h
      change rolodexref02_take_L2 y4 y5 y6 = some _ at h
      show Run _ _ _ [(2, val (.pointer (some ⟨b1, 0, none⟩))), (4, val (.pointer (some ⟨b2, 0, none⟩))), (7, val (.pointer (some ⟨b5, 0, none⟩))), (13, i64.slot y5)] [box b5 126 (vec 8 u32) y4, box b2 126 (vec 8 u32) (Vector.replicate 8 (0#32)), box b1 126 (vec 8 u32) y6]
      unfold rolodexref02_take_L2 at h
      refine run_seq ?_
      refine run_seq ?_
      refine run_text ?_
      refine j_pure (pj_move (has_tmp rfl)) rfl rfl rfl ?_
      refine j_pure (pj_ilss (has_tmp rfl) has_i64) rfl rfl rfl ?_
      refine j_end ?_
      refine run_cond (has_tmp rfl) (fun e17 => ?_) (fun e17 => ?_)
      · replace h := bt e17 h
        refine run_skip ?_
        refine run_seq ?_
        refine run_block ?_
        obtain ⟨x7, e18, h⟩ := bind_some h
        obtain ⟨x8, e19, h⟩ := bind_some h
        refine run_draw (n := 6) (by kernel_rfl) (by kernel_rfl) (by kernel_rfl) (by kernel_rfl) (.read (.plain rfl (pj_move (has_tmp rfl))) <| .read (.plain rfl (pj_index_arr (n := 8) (sz := 1) (has_tmp rfl) (has_tmp rfl) isInt_i64 (vget_some e18).1 (vget_lt e18) (by kernel_rfl))) <| .read (.plain rfl (PJ.eqv (pj_load_box (has_tmp rfl) (.next (.next .here)) (Path.then (Path.all (vec 8 u32)) (Path.atI 8 u32 y5.toNat (vget_some e18).2.1)) (by kernel_rfl)) (vget_eq e18 (vget_some e18).2.1))) <| .read (.plain rfl (pj_move (has_tmp rfl))) <| .read (.plain rfl (pj_index_arr (n := 8) (sz := 1) (has_tmp rfl) (has_tmp rfl) isInt_i64 (vget_some e19).1 (vget_lt e19) (by kernel_rfl))) <| .read (.plain rfl (PJ.eqv (pj_load_box (has_tmp rfl) .here (Path.then (Path.all (vec 8 u32)) (Path.atI 8 u32 y5.toNat (vget_some e19).2.1)) (by kernel_rfl)) (vget_eq e19 (vget_some e19).2.1))) <| .nil) (j_to (Γ' := [(2, val (.pointer (some ⟨b1, 0, none⟩))), (4, val (.pointer (some ⟨b2, 0, none⟩))), (7, val (.pointer (some ⟨b5, 0, none⟩))), (13, i64.slot y5), (112, i64.slot y5), (114, u32.slot x7), (117, u32.slot x8)]) (H' := [box b5 126 (vec 8 u32) y4, box b2 126 (vec 8 u32) (Vector.replicate 8 (0#32)), box b1 126 (vec 8 u32) y6]) (.cons (.of_lk rfl) <| .cons (.of_lk rfl) <| .cons (.of_lk rfl) <| .cons (.of_lk rfl) <| .cons (.of_lk rfl) <| .cons (.of_lk rfl) <| .cons (.of_lk rfl) <| .nil) (.cons .here <| .cons .here <| .cons .here <| .nil) ?_)
        refine j_pure (pj_uadd (k := .u32) (b := 32) rfl rfl (has_tmp rfl) (has_tmp rfl)) rfl rfl rfl ?_
        obtain ⟨e20, h⟩ := grd_some h
        refine j_pure (pj_index_arr (n := 8) (sz := 1) (has_tmp rfl) (has_tmp rfl) isInt_i64 e20.1 e20.2 (by kernel_rfl)) rfl rfl rfl ?_
        refine j_store_boxx (r' := (y6.setIfInBounds y5.toNat (x7 + x8))) (has_tmp rfl) (has_tmp rfl) (.next (.next .here)) (Path.then (Path.all (vec 8 u32)) (Path.atI 8 u32 y5.toNat (lt_nat e20))) (by kernel_rfl) rfl ?_
        refine j_end ?_
        refine run_endblock ?_
        refine run_text ?_
        refine j_pure (pj_move (has_tmp rfl)) rfl rfl rfl ?_
        refine j_pure (pj_iadd (has_tmp rfl) has_i64) rfl rfl rfl ?_
        refine j_pure (pj_assign (has_tmp rfl)) rfl rfl rfl ?_
        refine j_end ?_
        obtain rfl := Option.some.inj h
        exact run_next () (.cons (.of_lk rfl) <| .cons (.of_lk rfl) <| .cons (.of_lk rfl) <| .cons (.of_lk rfl) <| .nil) (.cons (.next .here) <| .cons (.next .here) <| .cons .here <| .nil)
      · replace h := bf e17 h
        obtain rfl := Option.some.inj h
        exact run_brk () (.cons (.of_lk rfl) <| .cons (.of_lk rfl) <| .cons (.of_lk rfl) <| .cons (.of_lk rfl) <| .nil) (.cons .here <| .cons .here <| .cons .here <| .nil)
    · rintro _
      show Run _ _ _ [(2, val (.pointer (some ⟨b1, 0, none⟩))), (4, val (.pointer (some ⟨b2, 0, none⟩))), (7, val (.pointer (some ⟨b5, 0, none⟩))), (13, i64.slot y7)] [box b5 126 (vec 8 u32) y4, box b2 126 (vec 8 u32) (Vector.replicate 8 (0#32)), box b1 126 (vec 8 u32) y8]
      refine run_to (Γ' := [(2, val (.pointer (some ⟨b1, 0, none⟩))), (4, val (.pointer (some ⟨b2, 0, none⟩)))]) (H' := [box b2 126 (vec 8 u32) (Vector.replicate 8 (0#32)), box b1 126 (vec 8 u32) y8]) (.cons (.of_lk rfl) <| .cons (.of_lk rfl) <| .nil) (.cons (.next .here) <| .cons (.next .here) <| .nil) ?_
      refine run_seq ?_
      refine run_text ?_
      refine j_pure (pj_load_box (has_tmp rfl) (.next .here) (Path.all (vec 8 u32)) (by kernel_rfl)) rfl rfl rfl ?_
      refine j_store_boxx (r' := y8) (has_tmp rfl) (has_tmp rfl) .here (Path.all (vec 8 u32)) (by kernel_rfl) rfl ?_
      refine j_end ?_
      obtain rfl := Option.some.inj h
      exact run_ret fun a w hst => q_ret1 hst rfl (.cell rfl .here (by kernel_rfl)) () (fun _ _ h => h) (.nil)
set_option maxRecDepth 100000 in
set_option maxHeartbeats 4000000 in
theorem c_rolodexref02_Sum {G : GP} {p_b : List (BitVec 8)} {r : T_api_Hash} (h : rolodexref02_Sum p_b = some r) : Ctr Tryd.prog G 52 [(sl u8).slot p_b] [] (fun (_ : Unit) => R_api_Hash.slot r) (fun (_ : Unit) => []) := by
  unfold rolodexref02_Sum at h
  refine ctr_of_run Tryd.func52 rfl 42 rfl rfl fun m0 w0 b0 => ?_
  show Run _ _ _ [(0, (sl u8).slot p_b)] _
  refine run_seq ?_
  refine run_text ?_
  refine j_alloc (x := (Vector.replicate 32 (0#8))) (R := R_api_Hash) (zero_vec 32 zero_un) (by kernel_rfl) rfl fun b1 => ?_
  refine j_end ?_
  refine run_seq ?_
  refine run_text ?_
  obtain ⟨r1, e1, h⟩ := bind_some h
  refine j_pure (pj_call (hasL_nil) (by kernel_rfl) (c_rolodexref02_Start e1)) rfl rfl rfl ?_
  refine j_alloc (x := (Vector.replicate 8 (0#32))) (R := (vec 8 u32)) (zero_vec 8 zero_un) (by kernel_rfl) rfl fun b2 => ?_
  refine j_store_boxx (r' := r1) (has_tmp rfl) (has_tmp rfl) .here (Path.all (vec 8 u32)) (by kernel_rfl) rfl ?_
  refine j_end ?_
  refine run_seq ?_
  refine run_text ?_
  refine j_pure (pj_move (has_tmp rfl)) rfl rfl rfl ?_
  obtain ⟨r2, e2, h⟩ := bind_some h
  refine j_pure (pj_call (hasL_cons (has_tmp rfl) <| hasL_nil) (by kernel_rfl) (Ctr.froze (c_rolodexref02_Padded e2))) rfl rfl rfl ?_
  refine j_pure (pj_assign (has_tmp rfl)) rfl rfl rfl ?_
  refine j_end ?_
  refine run_seq ?_
  refine run_seq ?_
  refine run_text ?_
  refine j_pure (pj_assign has_i64) rfl rfl rfl ?_
  refine j_end ?_
  obtain ⟨⟨y3, y4⟩, e6, h⟩ := bind_some h
  refine run_loopS (Γi := fun (i : Unit) (s : Int × (Vector (BitVec 32) 8)) => [(2, val (.pointer (some ⟨b1, 0, none⟩))), (3, val (.pointer (some ⟨b2, 0, none⟩))), (4, (sl u8).slot r2), (5, i64.slot s.1)]) (Hi := fun (i : Unit) (s : Int × (Vector (BitVec 32) 8)) => [box b2 126 (vec 8 u32) s.2, box b1 23 R_api_Hash (Vector.replicate 32 (0#8))]) e6 () (fun a w hst => (hst.sub (.cons (.of_lk rfl) <| .cons (.of_lk rfl) <| .cons (.of_lk rfl) <| .cons (.of_lk rfl) <| .nil)).keep (.cons .here <| .cons .here <| .nil)) ?_ ?_
  · clear h e6
    rintro _ ⟨y1, y2⟩ lr h
    change rolodexref02_Sum_L1 r2 y1 y2 = some _ at h
    show Run _ _ _ [(2, val (.pointer (some ⟨b1, 0, none⟩))), (3, val (.pointer (some ⟨b2, 0, none⟩))), (4, (sl u8).slot r2), (5, i64.slot y1)] [box b2 126 (vec 8 u32) y2, box b1 23 R_api_Hash (Vector.replicate 32 (0#8))]
    unfold rolodexref02_Sum_L1 at h
    refine run_seq ?_
    refine run_seq ?_
    refine run_text ?_
    refine j_pure (pj_move (has_tmp rfl)) rfl rfl rfl ?_
    refine j_pure (pj_move (has_tmp rfl)) rfl rfl rfl ?_
    refine j_pure (pj_len_sl (sz := 1) (has_tmp rfl) (by kernel_rfl)) rfl rfl rfl ?_
    refine j_pure (pj_ilss (has_tmp rfl) (has_tmp rfl)) rfl rfl rfl ?_
    refine j_end ?_
    refine run_cond (has_tmp rfl) (fun e3 => ?_) (fun e3 => ?_)
    · replace h := bt e3 h
      refine run_skip ?_
      refine run_seq ?_
      refine run_block ?_
      obtain ⟨x1, e4, h⟩ := bind_some h
      refine run_draw (n := 6) (by kernel_rfl) (by kernel_rfl) (by kernel_rfl) (by kernel_rfl) (.read (.plain rfl (pj_load_box (has_tmp rfl) .here (Path.all (vec 8 u32)) (by kernel_rfl))) <| .read (.plain rfl (pj_move (has_tmp rfl))) <| .read (.plain rfl (pj_move (has_tmp rfl))) <| .read (.plain rfl (pj_move (has_tmp rfl))) <| .read (.plain rfl (pj_iadd (has_tmp rfl) has_i64)) <| .read (.plain rfl (pj_slice_slx (has_tmp rfl) (.yes (has_tmp rfl) isInt_i64) (.yes (has_tmp rfl) isInt_i64) e4 (by kernel_rfl))) <| .nil) (j_to (Γ' := [(2, val (.pointer (some ⟨b1, 0, none⟩))), (3, val (.pointer (some ⟨b2, 0, none⟩))), (4, (sl u8).slot r2), (5, i64.slot y1), (17, (vec 8 u32).slot y2), (22, (sl u8).slot x1)]) (H' := [box b2 126 (vec 8 u32) y2, box b1 23 R_api_Hash (Vector.replicate 32 (0#8))]) (.cons (.of_lk rfl) <| .cons (.of_lk rfl) <| .cons (.of_lk rfl) <| .cons (.of_lk rfl) <| .cons (.of_lk rfl) <| .cons (.of_lk rfl) <| .nil) (.cons .here <| .cons .here <| .nil) ?_)
      obtain ⟨r3, e5, h⟩ := bind_some h
      refine j_pure (pj_call (hasL_cons (has_tmp rfl) <| hasL_cons (has_tmp rfl) <| hasL_nil) (by kernel_rfl) (c_rolodexref02_take e5)) rfl rfl rfl ?_
      refine j_store_boxx (r' := r3) (has_tmp rfl) (has_tmp rfl) .here (Path.all (vec 8 u32)) (by kernel_rfl) rfl ?_
      refine j_end ?_
      refine run_endblock ?_
      refine run_text ?_
      refine j_pure (pj_move (has_tmp rfl)) rfl rfl rfl ?_
      refine j_pure (pj_iadd (has_tmp rfl) has_i64) rfl rfl rfl ?_
      refine j_pure (pj_assign (has_tmp rfl)) rfl rfl rfl ?_
      refine j_end ?_
      obtain rfl := Option.some.inj h
      exact run_next () (.cons (.of_lk rfl) <| .cons (.of_lk rfl) <| .cons (.of_lk rfl) <| .cons (.of_lk rfl) <| .nil) (.cons .here <| .cons .here <| .nil)
    · replace h := bf e3 h
      obtain rfl := Option.some.inj h
      exact run_brk () (.cons (.of_lk rfl) <| .cons (.of_lk rfl) <| .cons (.of_lk rfl) <| .cons (.of_lk rfl) <| .nil) (.cons .here <| .cons .here <| .nil)
  · rintro _
    show Run _ _ _ [(2, val (.pointer (some ⟨b1, 0, none⟩))), (3, val (.pointer (some ⟨b2, 0, none⟩))), (4, (sl u8).slot r2), (5, i64.slot y3)] [box b2 126 (vec 8 u32) y4, box b1 23 R_api_Hash (Vector.replicate 32 (0#8))]
    refine run_to (Γ' := [(2, val (.pointer (some ⟨b1, 0, none⟩))), (3, val (.pointer (some ⟨b2, 0, none⟩)))]) (H' := [box b2 126 (vec 8 u32) y4, box b1 23 R_api_Hash (Vector.replicate 32 (0#8))]) (.cons (.of_lk rfl) <| .cons (.of_lk rfl) <| .nil) (.cons .here <| .cons .here <| .nil) ?_
    refine run_seq ?_
    refine run_text ?_
    refine j_alloc (x := (Vector.replicate 32 (0#8))) (R := R_api_Hash) (zero_vec 32 zero_un) (by kernel_rfl) rfl fun b3 => ?_
    refine j_end ?_
    refine run_seq ?_
    refine run_seq ?_
    refine run_text ?_
    refine j_pure (pj_assign has_i64) rfl rfl rfl ?_
    refine j_end ?_
    obtain ⟨⟨y7, y8⟩, e11, h⟩ := bind_some h
    refine run_loopS (Γi := fun (i : Unit) (s : Int × T_api_Hash) => [(2, val (.pointer (some ⟨b1, 0, none⟩))), (3, val (.pointer (some ⟨b2, 0, none⟩))), (6, val (.pointer (some ⟨b3, 0, none⟩))), (7, i64.slot s.1)]) (Hi := fun (i : Unit) (s : Int × T_api_Hash) => [box b3 23 R_api_Hash s.2, box b2 126 (vec 8 u32) y4, box b1 23 R_api_Hash (Vector.replicate 32 (0#8))]) e11 () (fun a w hst => (hst.sub (.cons (.of_lk rfl) <| .cons (.of_lk rfl) <| .cons (.of_lk rfl) <| .cons (.of_lk rfl) <| .nil)).keep (.cons .here <| .cons .here <| .cons .here <| .nil)) ?_ ?_
    · clear h e11
      rintro _ ⟨y5, y6⟩ lr h
      change rolodexref02_Sum_L2 y4 y5 y6 = some _ at h
      show Run _ _ _ [(2, val (.pointer (some ⟨b1, 0, none⟩))), (3, val (.pointer (some ⟨b2, 0, none⟩))), (6, val (.pointer (some ⟨b3, 0, none⟩))), (7, i64.slot y5)] [box b3 23 R_api_Hash y6, box b2 126 (vec 8 u32) y4, box b1 23 R_api_Hash (Vector.replicate 32 (0#8))]
      unfold rolodexref02_Sum_L2 at h
      refine run_seq ?_
      refine run_seq ?_
      refine run_text ?_
      refine j_pure (pj_move (has_tmp rfl)) rfl rfl rfl ?_
      refine j_pure (pj_ilss (has_tmp rfl) has_i64) rfl rfl rfl ?_
      refine j_end ?_
      refine run_cond (has_tmp rfl) (fun e7 => ?_) (fun e7 => ?_)
      · replace h := bt e7 h
        refine run_skip ?_
        refine run_seq ?_
        refine run_block ?_
        refine run_text ?_
        refine j_pure (pj_move (has_tmp rfl)) rfl rfl rfl ?_
        refine j_pure (pj_move (has_tmp rfl)) rfl rfl rfl ?_
        refine j_pure (pj_iquo (has_tmp rfl) has_i64 (by decide)) rfl rfl rfl ?_
        obtain ⟨x2, e8, h⟩ := bind_some h
        refine j_pure (pj_index_arr (n := 8) (sz := 1) (has_tmp rfl) (has_tmp rfl) isInt_i64 (vget_some e8).1 (vget_lt e8) (by kernel_rfl)) rfl rfl rfl ?_
        refine j_pure (PJ.eqv (pj_load_box (has_tmp rfl) (.next .here) (Path.then (Path.all (vec 8 u32)) (Path.atI 8 u32 ((w64 (Int.tdiv y5 (4 : Int))).toNat) (vget_some e8).2.1)) (by kernel_rfl)) (vget_eq e8 (vget_some e8).2.1)) rfl rfl rfl ?_
        refine j_pure (pj_move (has_tmp rfl)) rfl rfl rfl ?_
        refine j_pure (pj_irem (has_tmp rfl) has_i64 (by decide)) rfl rfl rfl ?_
        refine j_pure (pj_conv_un (k := .u32) (b := 32) rfl rfl (by kernel_rfl) (has_tmp rfl) isInt_i64) rfl rfl rfl ?_
        refine j_pure (pj_umul (k := .u32) (b := 32) rfl rfl (has_un (x := 8#32) rfl) (has_tmp rfl)) rfl rfl rfl ?_
        refine j_pure (pj_usub (k := .u32) (b := 32) rfl rfl (has_un (x := 24#32) rfl) (has_tmp rfl)) rfl rfl rfl ?_
        refine j_pure (pj_ushr (k := .u32) (b := 32) rfl (has_tmp rfl) (has_tmp rfl) isInt_un (Int.natCast_nonneg _)) rfl rfl rfl ?_
        refine j_pure (pj_conv_uu (k := .u8) (b := 8) rfl rfl (by kernel_rfl) (has_tmp rfl)) rfl rfl rfl ?_
        obtain ⟨e9, h⟩ := grd_some h
        refine j_pure (pj_index_arr (n := 32) (sz := 1) (has_tmp rfl) (has_tmp rfl) isInt_i64 e9.1 e9.2 (by kernel_rfl)) rfl rfl rfl ?_
        obtain ⟨x3, e10, h⟩ := bind_some h
        refine j_store_boxx (r' := x3) (has_tmp rfl) (has_tmp rfl) .here (Path.then (Path.all R_api_Hash) (Path.atI 32 u8 y5.toNat (lt_nat e9))) (by kernel_rfl) (Option.some.inj e10) ?_
        refine j_end ?_
        refine run_endblock ?_
        refine run_text ?_
        refine j_pure (pj_move (has_tmp rfl)) rfl rfl rfl ?_
        refine j_pure (pj_iadd (has_tmp rfl) has_i64) rfl rfl rfl ?_
        refine j_pure (pj_assign (has_tmp rfl)) rfl rfl rfl ?_
        refine j_end ?_
        obtain rfl := Option.some.inj h
        exact run_next () (.cons (.of_lk rfl) <| .cons (.of_lk rfl) <| .cons (.of_lk rfl) <| .cons (.of_lk rfl) <| .nil) (.cons .here <| .cons .here <| .cons .here <| .nil)
      · replace h := bf e7 h
        obtain rfl := Option.some.inj h
        exact run_brk () (.cons (.of_lk rfl) <| .cons (.of_lk rfl) <| .cons (.of_lk rfl) <| .cons (.of_lk rfl) <| .nil) (.cons .here <| .cons .here <| .cons .here <| .nil)
    · rintro _
      show Run _ _ _ [(2, val (.pointer (some ⟨b1, 0, none⟩))), (3, val (.pointer (some ⟨b2, 0, none⟩))), (6, val (.pointer (some ⟨b3, 0, none⟩))), (7, i64.slot y7)] [box b3 23 R_api_Hash y8, box b2 126 (vec 8 u32) y4, box b1 23 R_api_Hash (Vector.replicate 32 (0#8))]
      refine run_to (Γ' := [(2, val (.pointer (some ⟨b1, 0, none⟩))), (6, val (.pointer (some ⟨b3, 0, none⟩)))]) (H' := [box b3 23 R_api_Hash y8, box b1 23 R_api_Hash (Vector.replicate 32 (0#8))]) (.cons (.of_lk rfl) <| .cons (.of_lk rfl) <| .nil) (.cons .here <| .cons (.next .here) <| .nil) ?_
      refine run_seq ?_
      refine run_text ?_
      refine j_pure (pj_load_box (has_tmp rfl) .here (Path.all R_api_Hash) (by kernel_rfl)) rfl rfl rfl ?_
      refine j_store_boxx (r' := y8) (has_tmp rfl) (has_tmp rfl) (.next .here) (Path.all R_api_Hash) (by kernel_rfl) rfl ?_
      refine j_end ?_
      obtain rfl := Option.some.inj h
      exact run_ret fun a w hst => q_ret1 hst rfl (.cell rfl .here (by kernel_rfl)) () (fun _ _ h => h) (.nil)
set_option maxRecDepth 100000 in
set_option maxHeartbeats 4000000 in
theorem c_rolodexref15_Leaf {G : GP} {p_b : List (BitVec 8)} {r : T_api_Hash} (h : rolodexref15_Leaf p_b = some r) : Ctr Tryd.prog G 35 [(sl u8).slot p_b] [] (fun (_ : Unit) => R_api_Hash.slot r) (fun (_ : Unit) => []) := by
  unfold rolodexref15_Leaf at h
  refine ctr_of_run Tryd.func35 rfl 10 rfl rfl fun m0 w0 b0 => ?_
  show Run _ _ _ [(0, (sl u8).slot p_b)] _
  refine run_seq ?_
  refine run_text ?_
  refine j_alloc (x := (Vector.replicate 32 (0#8))) (R := R_api_Hash) (zero_vec 32 zero_un) (by kernel_rfl) rfl fun b1 => ?_
  refine j_end ?_
  refine run_seq ?_
  refine run_text ?_
  refine j_buildSlice (T := 5) (R := u8) (.cons (has_un (x := 0#8) rfl) .nil) rfl (by kernel_rfl) (by kernel_rfl) rfl fun v1 => ?_
  refine j_pure (pj_assign (has_tmp rfl)) rfl rfl rfl ?_
  refine j_end ?_
  refine run_seq ?_
  refine run_text ?_
  refine j_pure (pj_move (has_tmp rfl)) rfl rfl rfl ?_
  refine j_pure (pj_move (has_tmp rfl)) rfl rfl rfl ?_
  obtain ⟨e1, h⟩ := grd_some h
  refine j_append (T := 5) (E := 5) (has_tmp rfl) .here (src_data (has_tmp rfl)) (by kernel_rfl) (by kernel_rfl) e1 rfl fun v2 => ?_
  refine j_pure (pj_assign (has_tmp rfl)) rfl rfl rfl ?_
  refine j_end ?_
  refine run_seq ?_
  refine run_text ?_
  refine j_pure (pj_move (has_tmp rfl)) rfl rfl rfl ?_
  obtain ⟨r1, e2, h⟩ := bind_some h
  refine j_pure (pj_callB (hasBL_cons (hasB_own (has_tmp rfl) .here) <| hasBL_nil) (by kernel_rfl) (c_rolodexref02_Sum e2) (Rep.flat_slot (flat_vec _ (flat_un _ _)) _)) rfl rfl rfl ?_
  refine j_store_boxx (r' := r1) (has_tmp rfl) (has_tmp rfl) (.next .here) (Path.all R_api_Hash) (by kernel_rfl) rfl ?_
  refine j_end ?_
  obtain rfl := Option.some.inj h
  exact run_ret fun a w hst => q_ret1 hst rfl (.cell rfl .here (by kernel_rfl)) () (fun _ _ h => h) (.nil)
set_option maxRecDepth 100000 in
set_option maxHeartbeats 4000000 in
theorem c_rolodexref17_Entry {G : GP} {p_epoch : Int} {p_tree : T_api_Hash} {r : T_api_Hash} (h : rolodexref17_Entry p_epoch p_tree = some r) : Ctr Tryd.prog G 13 [i64.slot p_epoch, R_api_Hash.slot p_tree] [] (fun (_ : Unit) => R_api_Hash.slot r) (fun (_ : Unit) => []) := by
  unfold rolodexref17_Entry at h
  refine ctr_of_run Tryd.func13 rfl 14 rfl rfl fun m0 w0 b0 => ?_
  show Run _ _ _ [(0, i64.slot p_epoch), (1, R_api_Hash.slot p_tree)] _
  refine run_seq ?_
  refine run_text ?_
  refine j_pure (pj_box_to (has_tmp rfl)) rfl rfl rfl ?_
  refine j_alloc (x := (Vector.replicate 32 (0#8))) (R := R_api_Hash) (zero_vec 32 zero_un) (by kernel_rfl) rfl fun b1 => ?_
  refine j_end ?_
  refine run_seq ?_
  refine run_text ?_
  refine j_pure (pj_move (has_tmp rfl)) rfl rfl rfl ?_
  refine j_pure (pj_conv_un (k := .u64) (b := 64) rfl rfl (by kernel_rfl) (has_tmp rfl) isInt_i64) rfl rfl rfl ?_
  refine j_pure (pj_urem (k := .u64) (b := 64) (has_tmp rfl) (has_un (x := 4294967296#64) rfl) (by decide)) rfl rfl rfl ?_
  obtain ⟨r1, e1, h⟩ := bind_some h
  refine j_call (hasL_cons (has_tmp rfl) <| hasL_cons has_i64 <| hasL_nil) (by kernel_rfl) (c_rolodexref01_Number e1) .nil rfl fun v1 => ?_
  refine j_pure (pj_assign (has_tmp rfl)) rfl rfl rfl ?_
  refine j_end ?_
  refine run_seq ?_
  refine run_text ?_
  refine j_pure (pj_move (has_tmp rfl)) rfl rfl rfl ?_
  refine j_pure (pj_slice_toF (has_tmp rfl) (by decide) (by kernel_rfl)) rfl rfl rfl ?_
  obtain ⟨e2, h⟩ := grd_some h
  refine j_append (T := 5) (E := 5) (has_tmp rfl) .here (src_data (has_tmp rfl)) (by kernel_rfl) (by kernel_rfl) e2 rfl fun v2 => ?_
  obtain ⟨r2, e3, h⟩ := bind_some h
  refine j_pure (pj_callB (hasBL_cons (hasB_own (has_tmp rfl) .here) <| hasBL_nil) (by kernel_rfl) (c_rolodexref15_Leaf e3) (Rep.flat_slot (flat_vec _ (flat_un _ _)) _)) rfl rfl rfl ?_
  refine j_store_boxx (r' := r2) (has_tmp rfl) (has_tmp rfl) (.next .here) (Path.all R_api_Hash) (by kernel_rfl) rfl ?_
  refine j_end ?_
  obtain rfl := Option.some.inj h
  exact run_ret fun a w hst => q_ret1 hst rfl (.cell rfl .here (by kernel_rfl)) () (fun _ _ h => h) (.nil)
end Go.Sl.W
