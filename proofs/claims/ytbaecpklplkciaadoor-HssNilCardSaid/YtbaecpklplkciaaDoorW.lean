import Derived.Test.YtbaecpklplkciaaDoorWA
import Derived.Test.YtbaecpklplkciaaDoorOp14
import Derived.Test.YtbaecpklplkciaaDoorProg
set_option linter.unusedSimpArgs false
set_option linter.unusedVariables false
set_option linter.unusedSectionVars false
namespace Go.Sl.W
open Go.Proofs Go.Sl Go.Sl.M
set_option maxRecDepth 100000 in
set_option maxHeartbeats 4000000 in
theorem c_lmots_Sign {G : GP} (hg0 : HG0 G) (hg1 : HG1 G) (hg2 : HG2 G) {p_kind : Int} {p_id : T_api_ID} {p_q : BitVec 32} {p_seed : T_api_Hash} {p_message : List (BitVec 8)} {r : (List (BitVec 8)) × Int} (h : lmots_Sign p_kind p_id p_q p_seed p_message = some r) : Ctr Tryd.prog G 54 [i64.slot p_kind, R_api_ID.slot p_id, u32.slot p_q, R_api_Hash.slot p_seed, (sl u8).slot p_message] [] (fun (u0 : Value) => tup [ov u0, i64.slot r.2]) (fun (u0 : Value) => [own 5 u8 u0 r.1]) := by
  unfold lmots_Sign at h
  refine ctr_of_run Tryd.func54 rfl 71 rfl rfl fun m0 w0 b0 => ?_
  show Run _ _ _ [(0, i64.slot p_kind), (1, R_api_ID.slot p_id), (2, u32.slot p_q), (3, R_api_Hash.slot p_seed), (4, (sl u8).slot p_message)] _
  refine run_seq ?_
  refine run_text ?_
  refine j_pure (pj_box_to (has_tmp rfl)) rfl rfl rfl ?_
  refine j_pure (pj_box_to (has_tmp rfl)) rfl rfl rfl ?_
  refine j_assign_nil (T := 5) u8 rfl fun v1 => ?_
  refine j_pure (pj_assign has_i64) rfl rfl rfl ?_
  refine j_end ?_
  refine run_seq ?_
  refine run_text ?_
  refine j_pure (pj_move (has_tmp rfl)) rfl rfl rfl ?_
  obtain ⟨r1, e1, h⟩ := bind_some h
  refine j_pure (pj_call (hasL_cons (has_tmp rfl) <| hasL_nil) (by kernel_rfl) (c_lmots_of hg0 e1)) rfl rfl rfl ?_
  refine j_pure (pj_move (has_tmp rfl)) rfl rfl rfl ?_
  refine j_pure (pj_extract (has_tmp rfl) rfl) rfl rfl rfl ?_
  refine j_pure (pj_extract (has_tmp rfl) rfl) rfl rfl rfl ?_
  refine j_alloc (x := (0, 0, 0)) (R := R_lmots_form) (zero_prod zero_i64 (zero_prod zero_i64 zero_i64)) (by kernel_rfl) rfl fun b1 => ?_
  refine j_store_boxx (r' := r1.1) (has_tmp rfl) (has_tmp rfl) .here (Path.all R_lmots_form) (by kernel_rfl) rfl ?_
  refine j_freezeTo (t := 12) .here (.of_lk rfl) ?_
  refine j_pure (pj_assign (has_tmp rfl)) rfl rfl rfl ?_
  refine j_end ?_
  refine run_seq ?_
  refine run_seq ?_
  refine run_text ?_
  refine j_pure (pj_move (has_tmp rfl)) rfl rfl rfl ?_
  refine j_pure (pj_not (has_tmp rfl)) rfl rfl rfl ?_
  refine j_end ?_
  refine run_cond (has_tmp rfl) (fun e2 => ?_) (fun e2 => ?_)
  · replace h := bt e2 h
    refine run_seq ?_
    refine run_text ?_
    refine j_assign_nil (T := 5) u8 rfl fun v2 => ?_
    refine j_pure (pj_assign has_i64) rfl rfl rfl ?_
    refine j_end ?_
    obtain rfl := Option.some.inj h
    exact run_ret fun a w hst => q_retN hst rfl (.cons (.tmp rfl) <| .cons (.tmp rfl) <| .nil) rfl v2 (fun _ _ h => h) (.cons .here <| .nil)
  · replace h := bf e2 h
    refine run_skip ?_
    refine run_seq ?_
    refine run_text ?_
    refine j_pure (pj_load_to (has_tmp rfl) (by kernel_rfl)) rfl rfl rfl ?_
    refine j_pure (pj_move (has_tmp rfl)) rfl rfl rfl ?_
    refine j_pure (pj_load_to (has_tmp rfl) (by kernel_rfl)) rfl rfl rfl ?_
    obtain ⟨r2, e3, h⟩ := bind_some h
    refine j_pure (pj_call (hasL_cons (has_tmp rfl) <| hasL_cons (has_tmp rfl) <| hasL_cons has_i64 <| hasL_cons (has_tmp rfl) <| hasL_nil) (by kernel_rfl) (c_lmots_secret hg1 hg2 e3)) rfl rfl rfl ?_
    refine j_alloc (x := (Vector.replicate 32 (0#8))) (R := R_api_Hash) (zero_vec 32 zero_un) (by kernel_rfl) rfl fun b2 => ?_
    refine j_store_boxx (r' := r2) (has_tmp rfl) (has_tmp rfl) .here (Path.all R_api_Hash) (by kernel_rfl) rfl ?_
    refine j_freezeTo (t := 14) .here (.of_lk rfl) ?_
    refine j_end ?_
    refine run_seq ?_
    refine run_text ?_
    refine j_pure (pj_build (R := prod (exv (.slice none 0 0)) bl) (zero_prod zero_exv zero_bl) (by kernel_rfl) (by kernel_rfl) rfl .nil) rfl rfl rfl ?_
    refine j_box_w (T1 := 5) u8 (has_tmp rfl) rfl fun b3 v3 => ?_
    refine j_pure (pj_assign (has_tmp rfl)) rfl rfl rfl ?_
    refine j_end ?_
    refine run_seq ?_
    refine run_text ?_
    refine j_pure (pj_move (has_tmp rfl)) rfl rfl rfl ?_
    refine j_pure (pj_move (has_tmp rfl)) rfl rfl rfl ?_
    refine j_pure (pj_conv_un (k := .u32) (b := 32) rfl rfl (by kernel_rfl) (has_tmp rfl) isInt_i64) rfl rfl rfl ?_
    obtain ⟨r3, e4, h⟩ := bind_some h
    refine j_call (hasL_cons (has_tmp rfl) <| hasL_cons (has_tmp rfl) <| hasL_nil) (by kernel_rfl) (c_wire_Writer_U32 e4) (.cons (.next .here) <| .cons .here <| .nil) rfl fun v4 => ?_
    refine j_end ?_
    refine run_seq ?_
    refine run_text ?_
    refine j_pure (pj_move (has_tmp rfl)) rfl rfl rfl ?_
    refine j_pure (pj_slice_toF (has_tmp rfl) (by decide) (by kernel_rfl)) rfl rfl rfl ?_
    obtain ⟨r4, e5, h⟩ := bind_some h
    refine j_call (hasL_cons (has_tmp rfl) <| hasL_cons (has_tmp rfl) <| hasL_nil) (by kernel_rfl) (c_wire_Writer_Plain e5) (.cons .here <| .cons .here <| .nil) rfl fun v5 => ?_
    refine j_end ?_
    refine run_seq ?_
    refine run_seq ?_
    obtain ⟨r5, e6, h⟩ := bind_some h
    obtain ⟨r6, e7, h⟩ := bind_some h
    refine run_draw (n := 10) (by kernel_rfl) (by kernel_rfl) (by kernel_rfl) (by kernel_rfl) (.read (.plain rfl (pj_load_to (has_tmp rfl) (by kernel_rfl))) <| .read (.plain rfl (pj_load_to (has_tmp rfl) (by kernel_rfl))) <| .read (.plain rfl (pj_move (has_tmp rfl))) <| .read (.plain rfl (pj_slice_toF (has_tmp rfl) (by decide) (by kernel_rfl))) <| .read (.plain rfl (pj_move (has_tmp rfl))) <| .read (.plain rfl (pj_buildSlice (T := 38) (R := (sl u8)) (.cons (has_tmp rfl) (.cons (has_tmp rfl) .nil)) rfl (by kernel_rfl) (by kernel_rfl))) <| .read (.plain rfl (pj_call (hasL_cons (has_tmp rfl) <| hasL_cons (has_tmp rfl) <| hasL_cons has_i64 <| hasL_cons (has_tmp rfl) <| hasL_nil) (by kernel_rfl) (c_lmots_under hg1 hg2 e6))) <| .read (.plain rfl (pj_call (hasL_cons (has_tmp rfl) <| hasL_cons (has_tmp rfl) <| hasL_nil) (by kernel_rfl) (Ctr.froze (c_lmots_form_digits e7)))) <| .read (.plain rfl (pj_len_sl (sz := 1) (has_tmp rfl) (by kernel_rfl))) <| .read (.plain rfl (pj_move has_i64)) <| .nil) (j_to (Γ' := [(2, u32.slot p_q), (6, ptrTo R_api_ID p_id), (8, ptrTo R_api_Hash p_seed), (15, val (.pointer (some ⟨b3, 0, none⟩))), (46, (sl i64).slot r6), (47, i64.slot (r6.length : Int)), (48, i64.slot (0 : Int))]) (H' := [box b3 75 (prod (exv v5) bl) ((), r4.2), own 5 u8 v5 r4.1]) (.cons (.of_lk rfl) <| .cons (.of_lk rfl) <| .cons (.of_lk rfl) <| .cons (.of_lk rfl) <| .cons (.of_lk rfl) <| .cons (.of_lk rfl) <| .cons (.of_lk rfl) <| .nil) (.cons .here <| .cons .here <| .nil) ?_)
    refine j_end ?_
    obtain ⟨⟨y4, y5, y6⟩, e13, h⟩ := bind_some h
    refine run_loopS (Γi := fun (i : Value) (s : Int × Bool × (List (BitVec 8))) => [(2, u32.slot p_q), (6, ptrTo R_api_ID p_id), (8, ptrTo R_api_Hash p_seed), (15, val (.pointer (some ⟨b3, 0, none⟩))), (46, (sl i64).slot r6), (47, i64.slot (r6.length : Int)), (48, i64.slot s.1)]) (Hi := fun (i : Value) (s : Int × Bool × (List (BitVec 8))) => [box b3 75 (prod (exv i) bl) ((), s.2.1), own 5 u8 i s.2.2]) e13 v5 (fun a w hst => (hst.sub (.cons (.of_lk rfl) <| .cons (.of_lk rfl) <| .cons (.of_lk rfl) <| .cons (.of_lk rfl) <| .cons (.of_lk rfl) <| .cons (.of_lk rfl) <| .cons (.of_lk rfl) <| .nil)).keep (.cons .here <| .cons .here <| .nil)) ?_ ?_
    · clear h e13
      rintro v6 ⟨y1, y2, y3⟩ lr h
      change lmots_Sign_L1 r6 p_id p_q p_seed y1 y2 y3 = some _ at h
      show Run _ _ _ [(2, u32.slot p_q), (6, ptrTo R_api_ID p_id), (8, ptrTo R_api_Hash p_seed), (15, val (.pointer (some ⟨b3, 0, none⟩))), (46, (sl i64).slot r6), (47, i64.slot (r6.length : Int)), (48, i64.slot y1)] [box b3 75 (prod (exv v6) bl) ((), y2), own 5 u8 v6 y3]
      unfold lmots_Sign_L1 at h
      refine run_seq ?_
      refine run_text ?_
      refine j_pure (pj_ilss (has_tmp rfl) (has_tmp rfl)) rfl rfl rfl ?_
      refine j_end ?_
      refine run_seq ?_
      refine run_cond (has_tmp rfl) (fun e8 => ?_) (fun e8 => ?_)
      · replace h := bt e8 h
        refine run_skip ?_
        refine run_seq ?_
        refine run_block ?_
        refine run_seq ?_
        refine run_text ?_
        refine j_pure (pj_move (has_tmp rfl)) rfl rfl rfl ?_
        obtain ⟨x1, e9, h⟩ := bind_some h
        refine j_pure (pj_index_slx (has_tmp rfl) (has_tmp rfl) isInt_i64 e9 (by kernel_rfl)) rfl rfl rfl ?_
        refine j_pure (pj_load_to (has_tmp rfl) (by kernel_rfl)) rfl rfl rfl ?_
        refine j_pure (pj_assign (has_tmp rfl)) rfl rfl rfl ?_
        refine j_pure (pj_assign (has_tmp rfl)) rfl rfl rfl ?_
        refine j_end ?_
        refine run_seq ?_
        obtain ⟨r7, e10, h⟩ := bind_some h
        obtain ⟨r8, e11, h⟩ := bind_some h
        refine run_keep (H' := [box b3 75 (prod (exv v6) bl) ((), y2), own 5 u8 v6 y3]) (.cons .here <| .cons .here <| .nil) ?_
        refine run_drawL (n := 11) (H := [box b3 75 (prod (exv v6) bl) ((), y2), own 5 u8 v6 y3]) (Ls := [⟨[], [(10, ⟨Nat, fun (b4 : Nat) => [box b4 26 R_api_Hash (Vector.replicate 32 (0#8))], fun (b4 : Nat) => [(18, val (.pointer (some ⟨b4, 0, none⟩)))]⟩)]⟩]) (by kernel_rfl) (by kernel_rfl) (by kernel_rfl) (by kernel_rfl) (by kernel_rfl) rfl (.read rfl (.plain rfl (pj_load_to (has_tmp rfl) (by kernel_rfl))) <| .read rfl (.plain rfl (pj_move (has_tmp rfl))) <| .read rfl (.plain rfl (pj_move (has_tmp rfl))) <| .read rfl (.plain rfl (pj_load_to (has_tmp rfl) (by kernel_rfl))) <| .read rfl (.plain rfl (pj_move (has_tmp rfl))) <| .read rfl (.plain rfl (pj_move (has_tmp rfl))) <| .read rfl (.plain rfl (pj_load_to (has_tmp rfl) (by kernel_rfl))) <| .read rfl (.plain rfl (pj_call (hasL_cons (has_tmp rfl) <| hasL_cons (has_tmp rfl) <| hasL_cons (has_tmp rfl) <| hasL_cons (has_tmp rfl) <| hasL_nil) (by kernel_rfl) (c_lmots_secret hg1 hg2 e10))) <| .read rfl (.plain rfl (pj_move (has_tmp rfl))) <| .read rfl (.plain rfl (pj_call (hasL_cons (has_tmp rfl) <| hasL_cons (has_tmp rfl) <| hasL_cons (has_tmp rfl) <| hasL_cons (has_tmp rfl) <| hasL_cons has_i64 <| hasL_cons (has_tmp rfl) <| hasL_nil) (by kernel_rfl) (c_lmots_chain hg1 hg2 e11))) <| .step 0 rfl .here (.inl rfl) (fun i => ⟨_, _, fun j => j, (w_alloc (x := (Vector.replicate 32 (0#8))) (R := R_api_Hash) (zero_vec 32 zero_un) (by kernel_rfl) rfl), fun _ => rfl, slotAny, dst1⟩) <| .nil) ?_
        rintro b4
        refine j_to (Γ' := [(2, u32.slot p_q), (6, ptrTo R_api_ID p_id), (8, ptrTo R_api_Hash p_seed), (15, val (.pointer (some ⟨b3, 0, none⟩))), (18, val (.pointer (some ⟨b4, 0, none⟩))), (46, (sl i64).slot r6), (47, i64.slot (r6.length : Int)), (48, i64.slot y1), (62, R_api_Hash.slot r8)]) (H' := [box b4 26 R_api_Hash (Vector.replicate 32 (0#8)), box b3 75 (prod (exv v6) bl) ((), y2), own 5 u8 v6 y3]) (.cons (.of_lk rfl) <| .cons (.of_lk rfl) <| .cons (.of_lk rfl) <| .cons (.of_lk rfl) <| .cons (.of_lk rfl) <| .cons (.of_lk rfl) <| .cons (.of_lk rfl) <| .cons (.of_lk rfl) <| .cons (.of_lk rfl) <| .nil) (.cons .here <| .cons .here <| .cons .here <| .nil) ?_
        refine j_store_boxx (r' := r8) (has_tmp rfl) (has_tmp rfl) .here (Path.all R_api_Hash) (by kernel_rfl) rfl ?_
        refine j_freezeTo (t := 18) .here (.of_lk rfl) ?_
        refine j_end ?_
        refine run_text ?_
        refine j_pure (pj_move (has_tmp rfl)) rfl rfl rfl ?_
        refine j_pure (pj_slice_toF (has_tmp rfl) (by decide) (by kernel_rfl)) rfl rfl rfl ?_
        obtain ⟨r9, e12, h⟩ := bind_some h
        refine j_call (hasL_cons (has_tmp rfl) <| hasL_cons (has_tmp rfl) <| hasL_nil) (by kernel_rfl) (c_wire_Writer_Plain e12) (.cons .here <| .cons .here <| .nil) rfl fun v7 => ?_
        refine j_end ?_
        refine run_endblock ?_
        refine run_text ?_
        refine j_pure (pj_iadd (has_tmp rfl) has_i64) rfl rfl rfl ?_
        refine j_pure (pj_move (has_tmp rfl)) rfl rfl rfl ?_
        refine j_end ?_
        obtain rfl := Option.some.inj h
        exact run_next v7 (.cons (.of_lk rfl) <| .cons (.of_lk rfl) <| .cons (.of_lk rfl) <| .cons (.of_lk rfl) <| .cons (.of_lk rfl) <| .cons (.of_lk rfl) <| .cons (.of_lk rfl) <| .nil) (.cons .here <| .cons .here <| .nil)
      · replace h := bf e8 h
        obtain rfl := Option.some.inj h
        exact run_brk v6 (.cons (.of_lk rfl) <| .cons (.of_lk rfl) <| .cons (.of_lk rfl) <| .cons (.of_lk rfl) <| .cons (.of_lk rfl) <| .cons (.of_lk rfl) <| .cons (.of_lk rfl) <| .nil) (.cons .here <| .cons .here <| .nil)
    · rintro v8
      show Run _ _ _ [(2, u32.slot p_q), (6, ptrTo R_api_ID p_id), (8, ptrTo R_api_Hash p_seed), (15, val (.pointer (some ⟨b3, 0, none⟩))), (46, (sl i64).slot r6), (47, i64.slot (r6.length : Int)), (48, i64.slot y4)] [box b3 75 (prod (exv v8) bl) ((), y5), own 5 u8 v8 y6]
      refine run_to (Γ' := [(15, val (.pointer (some ⟨b3, 0, none⟩)))]) (H' := [box b3 75 (prod (exv v8) bl) ((), y5), own 5 u8 v8 y6]) (.cons (.of_lk rfl) <| .nil) (.cons .here <| .cons .here <| .nil) ?_
      refine run_seq ?_
      refine run_text ?_
      refine j_pure (pj_move (has_tmp rfl)) rfl rfl rfl ?_
      obtain ⟨r10, e14, h⟩ := bind_some h
      refine j_call (hasL_cons (has_tmp rfl) <| hasL_nil) (by kernel_rfl) (c_wire_Writer_Out e14) (.cons .here <| .cons .here <| .nil) rfl fun ⟨v9, v10⟩ => ?_
      refine j_pure (pj_extract (has_tmp rfl) rfl) rfl rfl rfl ?_
      refine j_pure (pj_extract (has_tmp rfl) rfl) rfl rfl rfl ?_
      refine j_pure (pj_assign (has_tmp rfl)) rfl rfl rfl ?_
      refine j_pure (pj_assign (has_tmp rfl)) rfl rfl rfl ?_
      refine j_end ?_
      obtain rfl := Option.some.inj h
      exact run_ret fun a w hst => q_retN hst rfl (.cons (.tmp rfl) <| .cons (.tmp rfl) <| .nil) rfl v10 (fun _ _ h => h) (.cons (.next (.next .here)) <| .nil)
set_option maxRecDepth 100000 in
set_option maxHeartbeats 4000000 in
theorem c_lms_Tree_Sign {G : GP} (hg0 : HG0 G) (hg1 : HG1 G) (hg2 : HG2 G) {p_t : Option T_lms_Tree} {p_q : Int} {p_message : List (BitVec 8)} {r : (List (BitVec 8)) × Int} (h : lms_Tree_Sign p_t p_q p_message = some r) : Ctr Tryd.prog G 25 [(ptr R_lms_Tree).slot p_t, i64.slot p_q, (sl u8).slot p_message] [] (fun (u0 : Value) => tup [ov u0, i64.slot r.2]) (fun (u0 : Value) => [own 5 u8 u0 r.1]) := by
  unfold lms_Tree_Sign at h
  refine ctr_of_run Tryd.func25 rfl 84 rfl rfl fun m0 w0 b0 => ?_
  show Run _ _ _ [(0, (ptr R_lms_Tree).slot p_t), (1, i64.slot p_q), (2, (sl u8).slot p_message)] _
  refine run_seq ?_
  refine run_text ?_
  refine j_assign_nil (T := 5) u8 rfl fun v1 => ?_
  refine j_pure (pj_assign has_i64) rfl rfl rfl ?_
  refine j_end ?_
  refine run_seq ?_
  refine run_block ?_
  refine run_seq ?_
  refine run_text ?_
  refine j_pure (pj_move (has_tmp rfl)) rfl rfl rfl ?_
  refine j_pure (pj_eq_nil (E := 68) (by kernel_rfl) (has_tmp rfl)) rfl rfl rfl ?_
  refine j_pure (pj_assign (has_tmp rfl)) rfl rfl rfl ?_
  refine j_end ?_
  refine run_cond (has_tmp rfl) (fun e1 => ?_) (fun e1 => ?_)
  · replace h := bt e1 h
    refine run_seq ?_
    refine run_text ?_
    refine j_assign_nil (T := 5) u8 rfl fun v2 => ?_
    refine j_pure (pj_assign has_i64) rfl rfl rfl ?_
    refine j_end ?_
    obtain rfl := Option.some.inj h
    exact run_ret fun a w hst => q_retN hst rfl (.cons (.tmp rfl) <| .cons (.tmp rfl) <| .nil) rfl v2 (fun _ _ h => h) (.cons .here <| .nil)
  · replace h := bf e1 h
    refine run_seq ?_
    refine run_text ?_
    refine j_pure (pj_move (has_tmp rfl)) rfl rfl rfl ?_
    refine j_pure (pj_ilss (has_tmp rfl) has_i64) rfl rfl rfl ?_
    refine j_pure (pj_move (has_tmp rfl)) rfl rfl rfl ?_
    obtain ⟨y1, e3, h⟩ := bind_some h
    refine j_joinx (ι := Unit) (Γ' := fun _ => [(0, (ptr R_lms_Tree).slot p_t), (1, i64.slot p_q), (2, (sl u8).slot p_message), (23, bl.slot y1)]) (H' := fun _ => []) 5 ?_ fun J => ?_
    · intro _
      clear e3
      show OpsJ _ _ _ [(0, (ptr R_lms_Tree).slot p_t), (1, i64.slot p_q), (2, (sl u8).slot p_message), (23, bl.slot y1)] [] _
      refine j_pure (pj_assign (has_tmp rfl)) rfl rfl rfl ?_
      refine j_end ?_
      refine run_cond (has_tmp rfl) (fun e5 => ?_) (fun e5 => ?_)
      · replace h := bt e5 h
        refine run_seq ?_
        refine run_text ?_
        refine j_assign_nil (T := 5) u8 rfl fun v3 => ?_
        refine j_pure (pj_assign has_i64) rfl rfl rfl ?_
        refine j_end ?_
        obtain rfl := Option.some.inj h
        exact run_ret fun a w hst => q_retN hst rfl (.cons (.tmp rfl) <| .cons (.tmp rfl) <| .nil) rfl v3 (fun _ _ h => h) (.cons .here <| .nil)
      · replace h := bf e5 h
        refine run_skip ?_
        refine run_endblock ?_
        refine run_seq ?_
        obtain ⟨x1, e6, h⟩ := bind_some h
        obtain ⟨x2, e7, h⟩ := bind_some h
        obtain ⟨x3, e8, h⟩ := bind_some h
        obtain ⟨r2, e9, h⟩ := bind_some h
        refine run_draw (n := 20) (by kernel_rfl) (by kernel_rfl) (by kernel_rfl) (by kernel_rfl) (.read (.plain rfl (pj_move (has_tmp rfl))) <| .read (.plain rfl (pj_nilCheck_some (has_tmp rfl) e6)) <| .read (.plain rfl (pj_field_to (has_tmp rfl) (Path.then (Path.snd i64 (prod i64 (prod R_api_ID (prod R_api_Hash (sl R_api_Hash))))) (Path.fst i64 (prod R_api_ID (prod R_api_Hash (sl R_api_Hash))))) (by kernel_rfl))) <| .read (.plain rfl (pj_load_to (has_tmp rfl) (by kernel_rfl))) <| .read (.plain rfl (pj_move (has_tmp rfl))) <| .read (.plain rfl (pj_nilCheck_some (has_tmp rfl) e7)) <| .read (.plain rfl (pj_field_to (has_tmp rfl) (Path.then (Path.snd i64 (prod i64 (prod R_api_ID (prod R_api_Hash (sl R_api_Hash))))) (Path.then (Path.snd i64 (prod R_api_ID (prod R_api_Hash (sl R_api_Hash)))) (Path.fst R_api_ID (prod R_api_Hash (sl R_api_Hash))))) (by kernel_rfl))) <| .read (.plain rfl (pj_load_to (has_tmp rfl) (by kernel_rfl))) <| .read (.plain rfl (pj_move (has_tmp rfl))) <| .read (.plain rfl (pj_conv_un (k := .u32) (b := 32) rfl rfl (by kernel_rfl) (has_tmp rfl) isInt_i64)) <| .read (.plain rfl (pj_move (has_tmp rfl))) <| .read (.plain rfl (pj_nilCheck_some (has_tmp rfl) e8)) <| .read (.plain rfl (pj_field_to (has_tmp rfl) (Path.then (Path.snd i64 (prod i64 (prod R_api_ID (prod R_api_Hash (sl R_api_Hash))))) (Path.then (Path.snd i64 (prod R_api_ID (prod R_api_Hash (sl R_api_Hash)))) (Path.then (Path.snd R_api_ID (prod R_api_Hash (sl R_api_Hash))) (Path.fst R_api_Hash (sl R_api_Hash))))) (by kernel_rfl))) <| .read (.plain rfl (pj_load_to (has_tmp rfl) (by kernel_rfl))) <| .read (.plain rfl (pj_move (has_tmp rfl))) <| .read (.plain rfl (pj_call (hasL_cons (has_tmp rfl) <| hasL_cons (has_tmp rfl) <| hasL_cons (has_tmp rfl) <| hasL_cons (has_tmp rfl) <| hasL_cons (has_tmp rfl) <| hasL_nil) (by kernel_rfl) (Ctr.froze2 (c_lmots_Sign hg0 hg1 hg2 e9)))) <| .read (.plain rfl (pj_move (has_tmp rfl))) <| .read (.plain rfl (pj_extract (has_tmp rfl) rfl)) <| .read (.plain rfl (pj_extract (has_tmp rfl) rfl)) <| .read (.plain rfl (pj_assign (has_tmp rfl))) <| .nil) (j_to (Γ' := [(0, (ptr R_lms_Tree).slot p_t), (1, i64.slot p_q), (8, (sl u8).slot r2.1), (42, i64.slot r2.2)]) (H' := []) (.cons (.of_lk rfl) <| .cons (.of_lk rfl) <| .cons (.of_lk rfl) <| .cons (.of_lk rfl) <| .nil) (.nil) ?_)
        refine j_pure (pj_assign (has_tmp rfl)) rfl rfl rfl ?_
        refine j_end ?_
        refine run_seq ?_
        refine run_seq ?_
        refine run_text ?_
        refine j_pure (pj_move (has_tmp rfl)) rfl rfl rfl ?_
        refine j_pure (pj_ineq (has_tmp rfl) has_i64) rfl rfl rfl ?_
        refine j_end ?_
        refine run_cond (has_tmp rfl) (fun e10 => ?_) (fun e10 => ?_)
        · replace h := bt e10 h
          refine run_seq ?_
          refine run_text ?_
          refine j_pure (pj_move (has_tmp rfl)) rfl rfl rfl ?_
          refine j_assign_nil (T := 5) u8 rfl fun v4 => ?_
          refine j_pure (pj_assign (has_tmp rfl)) rfl rfl rfl ?_
          refine j_end ?_
          obtain rfl := Option.some.inj h
          exact run_ret fun a w hst => q_retN hst rfl (.cons (.tmp rfl) <| .cons (.tmp rfl) <| .nil) rfl v4 (fun _ _ h => h) (.cons .here <| .nil)
        · replace h := bf e10 h
          refine run_skip ?_
          refine run_seq ?_
          refine run_text ?_
          refine j_pure (pj_build (R := prod (exv (.slice none 0 0)) bl) (zero_prod zero_exv zero_bl) (by kernel_rfl) (by kernel_rfl) rfl .nil) rfl rfl rfl ?_
          refine j_box_w (T1 := 5) u8 (has_tmp rfl) rfl fun b1 v5 => ?_
          refine j_pure (pj_assign (has_tmp rfl)) rfl rfl rfl ?_
          refine j_end ?_
          refine run_seq ?_
          refine run_text ?_
          refine j_pure (pj_move (has_tmp rfl)) rfl rfl rfl ?_
          refine j_pure (pj_move (has_tmp rfl)) rfl rfl rfl ?_
          refine j_pure (pj_conv_un (k := .u32) (b := 32) rfl rfl (by kernel_rfl) (has_tmp rfl) isInt_i64) rfl rfl rfl ?_
          obtain ⟨r3, e11, h⟩ := bind_some h
          refine j_call (hasL_cons (has_tmp rfl) <| hasL_cons (has_tmp rfl) <| hasL_nil) (by kernel_rfl) (c_wire_Writer_U32 e11) (.cons (.next .here) <| .cons .here <| .nil) rfl fun v6 => ?_
          refine j_end ?_
          refine run_seq ?_
          refine run_text ?_
          refine j_pure (pj_move (has_tmp rfl)) rfl rfl rfl ?_
          refine j_pure (pj_move (has_tmp rfl)) rfl rfl rfl ?_
          obtain ⟨r4, e12, h⟩ := bind_some h
          refine j_call (hasL_cons (has_tmp rfl) <| hasL_cons (has_tmp rfl) <| hasL_nil) (by kernel_rfl) (c_wire_Writer_Plain e12) (.cons .here <| .cons .here <| .nil) rfl fun v7 => ?_
          refine j_end ?_
          refine run_seq ?_
          refine run_text ?_
          refine j_pure (pj_move (has_tmp rfl)) rfl rfl rfl ?_
          refine j_pure (pj_move (has_tmp rfl)) rfl rfl rfl ?_
          obtain ⟨x4, e13, h⟩ := bind_some h
          refine j_pure (pj_nilCheck_some (has_tmp rfl) e13) rfl rfl rfl ?_
          refine j_pure (pj_field_to (has_tmp rfl) (Path.fst i64 (prod i64 (prod R_api_ID (prod R_api_Hash (sl R_api_Hash))))) (by kernel_rfl)) rfl rfl rfl ?_
          refine j_pure (pj_load_to (has_tmp rfl) (by kernel_rfl)) rfl rfl rfl ?_
          refine j_pure (pj_conv_un (k := .u32) (b := 32) rfl rfl (by kernel_rfl) (has_tmp rfl) isInt_i64) rfl rfl rfl ?_
          obtain ⟨r5, e14, h⟩ := bind_some h
          refine j_call (hasL_cons (has_tmp rfl) <| hasL_cons (has_tmp rfl) <| hasL_nil) (by kernel_rfl) (c_wire_Writer_U32 e14) (.cons .here <| .cons .here <| .nil) rfl fun v8 => ?_
          refine j_end ?_
          refine run_seq ?_
          refine run_seq ?_
          refine run_text ?_
          refine j_pure (pj_move (has_tmp rfl)) rfl rfl rfl ?_
          obtain ⟨r6, e15, h⟩ := bind_some h
          refine j_pure (pj_call (hasL_cons (has_tmp rfl) <| hasL_nil) (by kernel_rfl) (c_lms_Tree_Keys e15)) rfl rfl rfl ?_
          refine j_pure (pj_move (has_tmp rfl)) rfl rfl rfl ?_
          refine j_pure (pj_iadd (has_tmp rfl) (has_tmp rfl)) rfl rfl rfl ?_
          refine j_pure (pj_assign (has_tmp rfl)) rfl rfl rfl ?_
          refine j_end ?_
          obtain ⟨⟨y5, y6, y7⟩, e20, h⟩ := bind_some h
          refine run_loopS (Γi := fun (i : Value) (s : Int × Bool × (List (BitVec 8))) => [(0, (ptr R_lms_Tree).slot p_t), (10, val (.pointer (some ⟨b1, 0, none⟩))), (11, i64.slot s.1)]) (Hi := fun (i : Value) (s : Int × Bool × (List (BitVec 8))) => [box b1 75 (prod (exv i) bl) ((), s.2.1), own 5 u8 i s.2.2]) e20 v8 (fun a w hst => (hst.sub (.cons (.of_lk rfl) <| .cons (.of_lk rfl) <| .cons (.of_lk rfl) <| .nil)).keep (.cons .here <| .cons .here <| .nil)) ?_ ?_
          · clear h e20
            rintro v9 ⟨y2, y3, y4⟩ lr h
            change lms_Tree_Sign_L1 p_t y2 y3 y4 = some _ at h
            show Run _ _ _ [(0, (ptr R_lms_Tree).slot p_t), (10, val (.pointer (some ⟨b1, 0, none⟩))), (11, i64.slot y2)] [box b1 75 (prod (exv v9) bl) ((), y3), own 5 u8 v9 y4]
            unfold lms_Tree_Sign_L1 at h
            refine run_seq ?_
            refine run_seq ?_
            refine run_text ?_
            refine j_pure (pj_move (has_tmp rfl)) rfl rfl rfl ?_
            refine j_pure (pj_igtr (has_tmp rfl) has_i64) rfl rfl rfl ?_
            refine j_end ?_
            refine run_cond (has_tmp rfl) (fun e16 => ?_) (fun e16 => ?_)
            · replace h := bt e16 h
              refine run_skip ?_
              refine run_seq ?_
              refine run_block ?_
              refine run_text ?_
              refine j_pure (pj_move (has_tmp rfl)) rfl rfl rfl ?_
              refine j_pure (pj_move (has_tmp rfl)) rfl rfl rfl ?_
              obtain ⟨x5, e17, h⟩ := bind_some h
              refine j_pure (pj_nilCheck_some (has_tmp rfl) e17) rfl rfl rfl ?_
              refine j_pure (pj_field_to (has_tmp rfl) (Path.then (Path.snd i64 (prod i64 (prod R_api_ID (prod R_api_Hash (sl R_api_Hash))))) (Path.then (Path.snd i64 (prod R_api_ID (prod R_api_Hash (sl R_api_Hash)))) (Path.then (Path.snd R_api_ID (prod R_api_Hash (sl R_api_Hash))) (Path.snd R_api_Hash (sl R_api_Hash))))) (by kernel_rfl)) rfl rfl rfl ?_
              refine j_pure (pj_load_to (has_tmp rfl) (by kernel_rfl)) rfl rfl rfl ?_
              refine j_pure (pj_move (has_tmp rfl)) rfl rfl rfl ?_
              refine j_pure (pj_ixor (has_tmp rfl) has_i64) rfl rfl rfl ?_
              obtain ⟨x6, e18, h⟩ := bind_some h
              refine j_pure (pj_index_slx (has_tmp rfl) (has_tmp rfl) isInt_i64 e18 (by kernel_rfl)) rfl rfl rfl ?_
              refine j_pure (pj_slice_toF (has_tmp rfl) (by decide) (by kernel_rfl)) rfl rfl rfl ?_
              obtain ⟨r7, e19, h⟩ := bind_some h
              refine j_call (hasL_cons (has_tmp rfl) <| hasL_cons (has_tmp rfl) <| hasL_nil) (by kernel_rfl) (c_wire_Writer_Plain e19) (.cons .here <| .cons .here <| .nil) rfl fun v10 => ?_
              refine j_end ?_
              refine run_endblock ?_
              refine run_text ?_
              refine j_pure (pj_move (has_tmp rfl)) rfl rfl rfl ?_
              refine j_pure (pj_iquo (has_tmp rfl) has_i64 (by decide)) rfl rfl rfl ?_
              refine j_pure (pj_assign (has_tmp rfl)) rfl rfl rfl ?_
              refine j_end ?_
              obtain rfl := Option.some.inj h
              exact run_next v10 (.cons (.of_lk rfl) <| .cons (.of_lk rfl) <| .cons (.of_lk rfl) <| .nil) (.cons .here <| .cons .here <| .nil)
            · replace h := bf e16 h
              obtain rfl := Option.some.inj h
              exact run_brk v9 (.cons (.of_lk rfl) <| .cons (.of_lk rfl) <| .cons (.of_lk rfl) <| .nil) (.cons .here <| .cons .here <| .nil)
          · rintro v11
            show Run _ _ _ [(0, (ptr R_lms_Tree).slot p_t), (10, val (.pointer (some ⟨b1, 0, none⟩))), (11, i64.slot y5)] [box b1 75 (prod (exv v11) bl) ((), y6), own 5 u8 v11 y7]
            refine run_to (Γ' := [(10, val (.pointer (some ⟨b1, 0, none⟩)))]) (H' := [box b1 75 (prod (exv v11) bl) ((), y6), own 5 u8 v11 y7]) (.cons (.of_lk rfl) <| .nil) (.cons .here <| .cons .here <| .nil) ?_
            refine run_seq ?_
            refine run_text ?_
            refine j_pure (pj_move (has_tmp rfl)) rfl rfl rfl ?_
            obtain ⟨r8, e21, h⟩ := bind_some h
            refine j_call (hasL_cons (has_tmp rfl) <| hasL_nil) (by kernel_rfl) (c_wire_Writer_Out e21) (.cons .here <| .cons .here <| .nil) rfl fun ⟨v12, v13⟩ => ?_
            refine j_pure (pj_extract (has_tmp rfl) rfl) rfl rfl rfl ?_
            refine j_pure (pj_extract (has_tmp rfl) rfl) rfl rfl rfl ?_
            refine j_pure (pj_assign (has_tmp rfl)) rfl rfl rfl ?_
            refine j_pure (pj_assign (has_tmp rfl)) rfl rfl rfl ?_
            refine j_end ?_
            obtain rfl := Option.some.inj h
            exact run_ret fun a w hst => q_retN hst rfl (.cons (.tmp rfl) <| .cons (.tmp rfl) <| .nil) rfl v13 (fun _ _ h => h) (.cons (.next (.next .here)) <| .nil)
    · rcases bool_tf (decide (p_q < (0 : Int))) with e2 | e2
      · replace e3 := bt e2 e3
        refine j_guard_no2 (j := 2) (want := false) rfl rfl rfl rfl (bl_isx e2) rfl rfl rfl ?_
        refine j_guard_no2 (j := 2) (want := false) rfl rfl rfl rfl (bl_isx e2) rfl rfl rfl ?_
        refine j_guard_no2 (j := 2) (want := false) rfl rfl rfl rfl (bl_isx e2) rfl rfl rfl ?_
        refine j_guard_no2 (j := 2) (want := false) rfl rfl rfl rfl (bl_isx e2) rfl rfl rfl ?_
        refine j_pure (PJ.eqv (R := bl) (pj_pick (t := any) (has_tmp rfl) (fun _ => has_bl) (fun he => absurd (e2.symm.trans he) (by decide))) (Option.some.inj e3)) rfl rfl rfl ?_
        exact j_to (.cons (.of_lk rfl) <| .cons (.of_lk rfl) <| .cons (.of_lk rfl) <| .cons (.of_lk rfl) <| .nil) (.nil) (J ())
      · replace e3 := bf e2 e3
        refine j_pure_y (pj_move (has_tmp rfl)) rfl rfl rfl rfl (bl_isx e2) rfl rfl ?_
        refine j_pure_y (pj_move (has_tmp rfl)) rfl rfl rfl rfl (bl_isx e2) rfl rfl ?_
        obtain ⟨r1, e4, e3⟩ := bind_some e3
        refine j_pure_y (pj_call (hasL_cons (has_tmp rfl) <| hasL_nil) (by kernel_rfl) (c_lms_Tree_Keys e4)) rfl rfl rfl rfl (bl_isx e2) rfl rfl ?_
        refine j_pure_y (pj_igeq (has_tmp rfl) (has_tmp rfl)) rfl rfl rfl rfl (bl_isx e2) rfl rfl ?_
        refine j_pure (PJ.eqv (R := bl) (pj_pick (t := any) (has_tmp rfl) (fun he => absurd (e2.symm.trans he) (by decide)) (fun _ => (has_tmp rfl))) (Option.some.inj e3)) rfl rfl rfl ?_
        exact j_to (.cons (.of_lk rfl) <| .cons (.of_lk rfl) <| .cons (.of_lk rfl) <| .cons (.of_lk rfl) <| .nil) (.nil) (J ())
set_option maxRecDepth 100000 in
set_option maxHeartbeats 4000000 in
theorem c_hss_Signer_tree {G : GP} (hg0 : HG0 G) (hg1 : HG1 G) (hg2 : HG2 G) {p_s : Int × Int × T_api_Hash × (Option T_lms_Tree) × (Option T_lms_Tree) × Int} {p_i : Int} {b_s : Nat} {r : (Int × Int × T_api_Hash × (Option T_lms_Tree) × (Option T_lms_Tree) × Int) × (Option T_lms_Tree) × Int} (h : hss_Signer_tree p_s p_i = some r) : Ctr Tryd.prog G 70 [val (.pointer (some ⟨b_s, 0, none⟩)), i64.slot p_i] [box b_s 86 (prod i64 (prod i64 (prod R_api_Hash (prod (ptr R_lms_Tree) (prod (ptr R_lms_Tree) i64))))) (p_s.1, p_s.2.1, p_s.2.2.1, p_s.2.2.2.1, p_s.2.2.2.2.1, p_s.2.2.2.2.2)] (fun (_ : Unit) => tup [(ptr R_lms_Tree).slot r.2.1, i64.slot r.2.2]) (fun (_ : Unit) => [box b_s 86 (prod i64 (prod i64 (prod R_api_Hash (prod (ptr R_lms_Tree) (prod (ptr R_lms_Tree) i64))))) (r.1.1, r.1.2.1, r.1.2.2.1, r.1.2.2.2.1, r.1.2.2.2.2.1, r.1.2.2.2.2.2)]) := by
  unfold hss_Signer_tree at h
  refine ctr_of_run Tryd.func70 rfl 66 rfl rfl fun m0 w0 b0 => ?_
  show Run _ _ _ [(0, val (.pointer (some ⟨b_s, 0, none⟩))), (1, i64.slot p_i)] _
  refine run_seq ?_
  refine run_text ?_
  refine j_pure (pj_assign (has_nilp (R := R_lms_Tree))) rfl rfl rfl ?_
  refine j_pure (pj_assign has_i64) rfl rfl rfl ?_
  refine j_end ?_
  refine run_seq ?_
  refine run_seq ?_
  refine run_text ?_
  refine j_pure (pj_move (has_tmp rfl)) rfl rfl rfl ?_
  refine j_pure (pj_nilCheck_ptr (has_tmp rfl)) rfl rfl rfl ?_
  refine j_pure (pj_field_ptr (off := 36) (has_tmp rfl) (by kernel_rfl)) rfl rfl rfl ?_
  refine j_pure (pj_load_box (has_tmp rfl) .here (Path.then (Path.all (prod i64 (prod i64 (prod R_api_Hash (prod (ptr R_lms_Tree) (prod (ptr R_lms_Tree) i64)))))) (Path.then (Path.snd i64 (prod i64 (prod R_api_Hash (prod (ptr R_lms_Tree) (prod (ptr R_lms_Tree) i64))))) (Path.then (Path.snd i64 (prod R_api_Hash (prod (ptr R_lms_Tree) (prod (ptr R_lms_Tree) i64)))) (Path.then (Path.snd R_api_Hash (prod (ptr R_lms_Tree) (prod (ptr R_lms_Tree) i64))) (Path.then (Path.snd (ptr R_lms_Tree) (prod (ptr R_lms_Tree) i64)) (Path.snd (ptr R_lms_Tree) i64)))))) (by kernel_rfl)) rfl rfl rfl ?_
  refine j_pure (pj_move (has_tmp rfl)) rfl rfl rfl ?_
  refine j_pure (pj_ieql (has_tmp rfl) (has_tmp rfl)) rfl rfl rfl ?_
  refine j_end ?_
  refine run_cond (has_tmp rfl) (fun e1 => ?_) (fun e1 => ?_)
  · replace h := bt e1 h
    refine run_seq ?_
    refine run_text ?_
    refine j_pure (pj_move (has_tmp rfl)) rfl rfl rfl ?_
    refine j_pure (pj_nilCheck_ptr (has_tmp rfl)) rfl rfl rfl ?_
    refine j_pure (pj_field_ptr (off := 35) (has_tmp rfl) (by kernel_rfl)) rfl rfl rfl ?_
    refine j_pure (pj_load_box (has_tmp rfl) .here (Path.then (Path.all (prod i64 (prod i64 (prod R_api_Hash (prod (ptr R_lms_Tree) (prod (ptr R_lms_Tree) i64)))))) (Path.then (Path.snd i64 (prod i64 (prod R_api_Hash (prod (ptr R_lms_Tree) (prod (ptr R_lms_Tree) i64))))) (Path.then (Path.snd i64 (prod R_api_Hash (prod (ptr R_lms_Tree) (prod (ptr R_lms_Tree) i64)))) (Path.then (Path.snd R_api_Hash (prod (ptr R_lms_Tree) (prod (ptr R_lms_Tree) i64))) (Path.then (Path.snd (ptr R_lms_Tree) (prod (ptr R_lms_Tree) i64)) (Path.fst (ptr R_lms_Tree) i64)))))) (by kernel_rfl)) rfl rfl rfl ?_
    refine j_pure (pj_assign (has_tmp rfl)) rfl rfl rfl ?_
    refine j_pure (pj_assign has_i64) rfl rfl rfl ?_
    refine j_end ?_
    obtain rfl := Option.some.inj h
    exact run_ret fun a w hst => q_retN hst rfl (.cons (.tmp rfl) <| .cons (.tmp rfl) <| .nil) rfl () (fun _ _ h => h) (.cons .here <| .nil)
  · replace h := bf e1 h
    refine run_skip ?_
    refine run_seq ?_
    refine run_text ?_
    refine j_pure (pj_move (has_tmp rfl)) rfl rfl rfl ?_
    refine j_pure (pj_nilCheck_ptr (has_tmp rfl)) rfl rfl rfl ?_
    refine j_pure (pj_field_ptr (off := 2) (has_tmp rfl) (by kernel_rfl)) rfl rfl rfl ?_
    refine j_pure (pj_load_box (has_tmp rfl) .here (Path.then (Path.all (prod i64 (prod i64 (prod R_api_Hash (prod (ptr R_lms_Tree) (prod (ptr R_lms_Tree) i64)))))) (Path.then (Path.snd i64 (prod i64 (prod R_api_Hash (prod (ptr R_lms_Tree) (prod (ptr R_lms_Tree) i64))))) (Path.then (Path.snd i64 (prod R_api_Hash (prod (ptr R_lms_Tree) (prod (ptr R_lms_Tree) i64)))) (Path.fst R_api_Hash (prod (ptr R_lms_Tree) (prod (ptr R_lms_Tree) i64)))))) (by kernel_rfl)) rfl rfl rfl ?_
    refine j_pure (pj_move (has_tmp rfl)) rfl rfl rfl ?_
    refine j_pure (pj_ishr (has_tmp rfl) (has_un (x := 24#64) rfl) isInt_un (Int.natCast_nonneg _)) rfl rfl rfl ?_
    refine j_pure (pj_conv_un (k := .u8) (b := 8) rfl rfl (by kernel_rfl) (has_tmp rfl) isInt_i64) rfl rfl rfl ?_
    refine j_pure (pj_move (has_tmp rfl)) rfl rfl rfl ?_
    refine j_pure (pj_ishr (has_tmp rfl) (has_un (x := 16#64) rfl) isInt_un (Int.natCast_nonneg _)) rfl rfl rfl ?_
    refine j_pure (pj_conv_un (k := .u8) (b := 8) rfl rfl (by kernel_rfl) (has_tmp rfl) isInt_i64) rfl rfl rfl ?_
    refine j_pure (pj_move (has_tmp rfl)) rfl rfl rfl ?_
    refine j_pure (pj_ishr (has_tmp rfl) (has_un (x := 8#64) rfl) isInt_un (Int.natCast_nonneg _)) rfl rfl rfl ?_
    refine j_pure (pj_conv_un (k := .u8) (b := 8) rfl rfl (by kernel_rfl) (has_tmp rfl) isInt_i64) rfl rfl rfl ?_
    refine j_pure (pj_move (has_tmp rfl)) rfl rfl rfl ?_
    refine j_pure (pj_conv_un (k := .u8) (b := 8) rfl rfl (by kernel_rfl) (has_tmp rfl) isInt_i64) rfl rfl rfl ?_
    refine j_pure (pj_buildSlice (T := 5) (R := u8) (.cons (has_tmp rfl) (.cons (has_tmp rfl) (.cons (has_tmp rfl) (.cons (has_tmp rfl) .nil)))) rfl (by kernel_rfl) (by kernel_rfl)) rfl rfl rfl ?_
    obtain ⟨r1, e2, h⟩ := bind_some h
    refine j_pure (pj_call (hasL_cons (has_tmp rfl) <| hasL_cons (has_tmp rfl) <| hasL_nil) (by kernel_rfl) (c_hss_child hg1 hg2 e2)) rfl rfl rfl ?_
    refine j_pure (pj_move (has_tmp rfl)) rfl rfl rfl ?_
    refine j_pure (pj_extract (has_tmp rfl) rfl) rfl rfl rfl ?_
    refine j_pure (pj_extract (has_tmp rfl) rfl) rfl rfl rfl ?_
    refine j_alloc (x := (Vector.replicate 16 (0#8))) (R := R_api_ID) (zero_vec 16 zero_un) (by kernel_rfl) rfl fun b1 => ?_
    refine j_alloc (x := (Vector.replicate 32 (0#8))) (R := R_api_Hash) (zero_vec 32 zero_un) (by kernel_rfl) rfl fun b2 => ?_
    refine j_store_boxx (r' := r1.1) (has_tmp rfl) (has_tmp rfl) (.next .here) (Path.all R_api_ID) (by kernel_rfl) rfl ?_
    refine j_freezeTo (t := 6) .here (.of_lk rfl) ?_
    refine j_store_boxx (r' := r1.2) (has_tmp rfl) (has_tmp rfl) .here (Path.all R_api_Hash) (by kernel_rfl) rfl ?_
    refine j_freezeTo (t := 7) .here (.of_lk rfl) ?_
    refine j_end ?_
    refine run_seq ?_
    obtain ⟨r2, e3, h⟩ := bind_some h
    refine run_draw (n := 15) (by kernel_rfl) (by kernel_rfl) (by kernel_rfl) (by kernel_rfl) (.read (.plain rfl (pj_move (has_tmp rfl))) <| .read (.plain rfl (pj_nilCheck_ptr (has_tmp rfl))) <| .read (.plain rfl (pj_field_ptr (off := 0) (has_tmp rfl) (by kernel_rfl))) <| .read (.plain rfl (pj_load_box (has_tmp rfl) .here (Path.then (Path.all (prod i64 (prod i64 (prod R_api_Hash (prod (ptr R_lms_Tree) (prod (ptr R_lms_Tree) i64)))))) (Path.fst i64 (prod i64 (prod R_api_Hash (prod (ptr R_lms_Tree) (prod (ptr R_lms_Tree) i64)))))) (by kernel_rfl))) <| .read (.plain rfl (pj_move (has_tmp rfl))) <| .read (.plain rfl (pj_nilCheck_ptr (has_tmp rfl))) <| .read (.plain rfl (pj_field_ptr (off := 1) (has_tmp rfl) (by kernel_rfl))) <| .read (.plain rfl (pj_load_box (has_tmp rfl) .here (Path.then (Path.all (prod i64 (prod i64 (prod R_api_Hash (prod (ptr R_lms_Tree) (prod (ptr R_lms_Tree) i64)))))) (Path.then (Path.snd i64 (prod i64 (prod R_api_Hash (prod (ptr R_lms_Tree) (prod (ptr R_lms_Tree) i64))))) (Path.fst i64 (prod R_api_Hash (prod (ptr R_lms_Tree) (prod (ptr R_lms_Tree) i64)))))) (by kernel_rfl))) <| .read (.plain rfl (pj_load_to (has_tmp rfl) (by kernel_rfl))) <| .read (.plain rfl (pj_load_to (has_tmp rfl) (by kernel_rfl))) <| .read (.plain rfl (pj_call (hasL_cons (has_tmp rfl) <| hasL_cons (has_tmp rfl) <| hasL_cons (has_tmp rfl) <| hasL_cons (has_tmp rfl) <| hasL_nil) (by kernel_rfl) (c_lms_New hg0 hg1 hg2 e3))) <| .read (.plain rfl (pj_move (has_tmp rfl))) <| .read (.plain rfl (pj_extract (has_tmp rfl) rfl)) <| .read (.plain rfl (pj_extract (has_tmp rfl) rfl)) <| .read (.plain rfl (pj_assign (has_tmp rfl))) <| .nil) (j_to (Γ' := [(0, val (.pointer (some ⟨b_s, 0, none⟩))), (1, i64.slot p_i), (8, (ptr R_lms_Tree).slot r2.1), (53, i64.slot r2.2)]) (H' := [box b_s 86 (prod i64 (prod i64 (prod R_api_Hash (prod (ptr R_lms_Tree) (prod (ptr R_lms_Tree) i64))))) (p_s.1, p_s.2.1, p_s.2.2.1, p_s.2.2.2.1, p_s.2.2.2.2.1, p_s.2.2.2.2.2)]) (.cons (.of_lk rfl) <| .cons (.of_lk rfl) <| .cons (.of_lk rfl) <| .cons (.of_lk rfl) <| .nil) (.cons .here <| .nil) ?_)
    refine j_pure (pj_assign (has_tmp rfl)) rfl rfl rfl ?_
    refine j_end ?_
    refine run_seq ?_
    refine run_seq ?_
    refine run_text ?_
    refine j_pure (pj_move (has_tmp rfl)) rfl rfl rfl ?_
    refine j_pure (pj_ineq (has_tmp rfl) has_i64) rfl rfl rfl ?_
    refine j_end ?_
    refine run_cond (has_tmp rfl) (fun e4 => ?_) (fun e4 => ?_)
    · replace h := bt e4 h
      refine run_seq ?_
      refine run_text ?_
      refine j_pure (pj_move (has_tmp rfl)) rfl rfl rfl ?_
      refine j_pure (pj_assign (has_nilp (R := R_lms_Tree))) rfl rfl rfl ?_
      refine j_pure (pj_assign (has_tmp rfl)) rfl rfl rfl ?_
      refine j_end ?_
      obtain rfl := Option.some.inj h
      exact run_ret fun a w hst => q_retN hst rfl (.cons (.tmp rfl) <| .cons (.tmp rfl) <| .nil) rfl () (fun _ _ h => h) (.cons .here <| .nil)
    · replace h := bf e4 h
      refine run_skip ?_
      refine run_seq ?_
      refine run_text ?_
      refine j_pure (pj_move (has_tmp rfl)) rfl rfl rfl ?_
      refine j_pure (pj_move (has_tmp rfl)) rfl rfl rfl ?_
      refine j_pure (pj_move (has_tmp rfl)) rfl rfl rfl ?_
      refine j_pure (pj_move (has_tmp rfl)) rfl rfl rfl ?_
      refine j_pure (pj_nilCheck_ptr (has_tmp rfl)) rfl rfl rfl ?_
      refine j_pure (pj_field_ptr (off := 35) (has_tmp rfl) (by kernel_rfl)) rfl rfl rfl ?_
      refine j_store_boxx (r' := (p_s.1, p_s.2.1, p_s.2.2.1, p_s.2.2.2.1, r2.1, p_s.2.2.2.2.2)) (has_tmp rfl) (has_tmp rfl) .here (Path.then (Path.all (prod i64 (prod i64 (prod R_api_Hash (prod (ptr R_lms_Tree) (prod (ptr R_lms_Tree) i64)))))) (Path.then (Path.snd i64 (prod i64 (prod R_api_Hash (prod (ptr R_lms_Tree) (prod (ptr R_lms_Tree) i64))))) (Path.then (Path.snd i64 (prod R_api_Hash (prod (ptr R_lms_Tree) (prod (ptr R_lms_Tree) i64)))) (Path.then (Path.snd R_api_Hash (prod (ptr R_lms_Tree) (prod (ptr R_lms_Tree) i64))) (Path.then (Path.snd (ptr R_lms_Tree) (prod (ptr R_lms_Tree) i64)) (Path.fst (ptr R_lms_Tree) i64)))))) (by kernel_rfl) rfl ?_
      refine j_pure (pj_nilCheck_ptr (has_tmp rfl)) rfl rfl rfl ?_
      refine j_pure (pj_field_ptr (off := 36) (has_tmp rfl) (by kernel_rfl)) rfl rfl rfl ?_
      refine j_store_boxx (r' := (p_s.1, p_s.2.1, p_s.2.2.1, p_s.2.2.2.1, r2.1, p_i)) (has_tmp rfl) (has_tmp rfl) .here (Path.then (Path.all (prod i64 (prod i64 (prod R_api_Hash (prod (ptr R_lms_Tree) (prod (ptr R_lms_Tree) i64)))))) (Path.then (Path.snd i64 (prod i64 (prod R_api_Hash (prod (ptr R_lms_Tree) (prod (ptr R_lms_Tree) i64))))) (Path.then (Path.snd i64 (prod R_api_Hash (prod (ptr R_lms_Tree) (prod (ptr R_lms_Tree) i64)))) (Path.then (Path.snd R_api_Hash (prod (ptr R_lms_Tree) (prod (ptr R_lms_Tree) i64))) (Path.then (Path.snd (ptr R_lms_Tree) (prod (ptr R_lms_Tree) i64)) (Path.snd (ptr R_lms_Tree) i64)))))) (by kernel_rfl) rfl ?_
      refine j_end ?_
      refine run_seq ?_
      refine run_text ?_
      refine j_pure (pj_move (has_tmp rfl)) rfl rfl rfl ?_
      refine j_pure (pj_assign (has_tmp rfl)) rfl rfl rfl ?_
      refine j_pure (pj_assign has_i64) rfl rfl rfl ?_
      refine j_end ?_
      obtain rfl := Option.some.inj h
      exact run_ret fun a w hst => q_retN hst rfl (.cons (.tmp rfl) <| .cons (.tmp rfl) <| .nil) rfl () (fun _ _ h => h) (.cons .here <| .nil)
set_option maxRecDepth 100000 in
set_option maxHeartbeats 4000000 in
theorem c_hss_Signer_Sign {G : GP} (hg0 : HG0 G) (hg1 : HG1 G) (hg2 : HG2 G) {p_s : Int × Int × T_api_Hash × (Option T_lms_Tree) × (Option T_lms_Tree) × Int} {p_n : Int} {p_message : List (BitVec 8)} {b_s : Nat} {r : (Int × Int × T_api_Hash × (Option T_lms_Tree) × (Option T_lms_Tree) × Int) × (List (BitVec 8)) × Int} (h : hss_Signer_Sign p_s p_n p_message = some r) : Ctr Tryd.prog G 38 [val (.pointer (some ⟨b_s, 0, none⟩)), i64.slot p_n, (sl u8).slot p_message] [box b_s 86 (prod i64 (prod i64 (prod R_api_Hash (prod (ptr R_lms_Tree) (prod (ptr R_lms_Tree) i64))))) (p_s.1, p_s.2.1, p_s.2.2.1, p_s.2.2.2.1, p_s.2.2.2.2.1, p_s.2.2.2.2.2)] (fun (u0 : Value) => tup [ov u0, i64.slot r.2.2]) (fun (u0 : Value) => [box b_s 86 (prod i64 (prod i64 (prod R_api_Hash (prod (ptr R_lms_Tree) (prod (ptr R_lms_Tree) i64))))) (r.1.1, r.1.2.1, r.1.2.2.1, r.1.2.2.2.1, r.1.2.2.2.2.1, r.1.2.2.2.2.2), own 5 u8 u0 r.2.1]) := by
  unfold hss_Signer_Sign at h
  refine ctr_of_run Tryd.func38 rfl 81 rfl rfl fun m0 w0 b0 => ?_
  show Run _ _ _ [(0, val (.pointer (some ⟨b_s, 0, none⟩))), (1, i64.slot p_n), (2, (sl u8).slot p_message)] _
  refine run_seq ?_
  refine run_text ?_
  refine j_assign_nil (T := 5) u8 rfl fun v1 => ?_
  refine j_pure (pj_assign has_i64) rfl rfl rfl ?_
  refine j_end ?_
  refine run_seq ?_
  refine run_block ?_
  refine run_seq ?_
  refine run_text ?_
  refine j_pure (pj_move (has_tmp rfl)) rfl rfl rfl ?_
  refine j_pure (pj_eq_nil_val (E := 86) (by kernel_rfl) (has_tmp rfl)) rfl rfl rfl ?_
  refine j_pure (pj_assign (has_tmp rfl)) rfl rfl rfl ?_
  refine j_end ?_
  refine run_cond_f (has_tmp rfl) rfl ?_
  refine run_seq ?_
  refine run_text ?_
  refine j_pure (pj_move (has_tmp rfl)) rfl rfl rfl ?_
  refine j_pure (pj_ilss (has_tmp rfl) has_i64) rfl rfl rfl ?_
  refine j_pure (pj_move (has_tmp rfl)) rfl rfl rfl ?_
  obtain ⟨y1, e3, h⟩ := bind_some h
  refine j_joinx (ι := Unit) (Γ' := fun _ => [(0, val (.pointer (some ⟨b_s, 0, none⟩))), (1, i64.slot p_n), (2, (sl u8).slot p_message), (26, bl.slot y1)]) (H' := fun _ => [box b_s 86 (prod i64 (prod i64 (prod R_api_Hash (prod (ptr R_lms_Tree) (prod (ptr R_lms_Tree) i64))))) (p_s.1, p_s.2.1, p_s.2.2.1, p_s.2.2.2.1, p_s.2.2.2.2.1, p_s.2.2.2.2.2)]) 5 ?_ fun J => ?_
  · intro _
    clear e3
    show OpsJ _ _ _ [(0, val (.pointer (some ⟨b_s, 0, none⟩))), (1, i64.slot p_n), (2, (sl u8).slot p_message), (26, bl.slot y1)] [box b_s 86 (prod i64 (prod i64 (prod R_api_Hash (prod (ptr R_lms_Tree) (prod (ptr R_lms_Tree) i64))))) (p_s.1, p_s.2.1, p_s.2.2.1, p_s.2.2.2.1, p_s.2.2.2.2.1, p_s.2.2.2.2.2)] _
    refine j_pure (pj_assign (has_tmp rfl)) rfl rfl rfl ?_
    refine j_end ?_
    refine run_cond (has_tmp rfl) (fun e5 => ?_) (fun e5 => ?_)
    · replace h := bt e5 h
      refine run_seq ?_
      refine run_text ?_
      refine j_assign_nil (T := 5) u8 rfl fun v2 => ?_
      refine j_pure (pj_assign has_i64) rfl rfl rfl ?_
      refine j_end ?_
      obtain rfl := Option.some.inj h
      exact run_ret fun a w hst => q_retN hst rfl (.cons (.tmp rfl) <| .cons (.tmp rfl) <| .nil) rfl v2 (fun _ _ h => h) (.cons (.next .here) <| .cons .here <| .nil)
    · replace h := bf e5 h
      refine run_skip ?_
      refine run_endblock ?_
      refine run_seq ?_
      obtain ⟨e6, h⟩ := grd_some h
      obtain ⟨e7, h⟩ := grd_some h
      refine run_draw (n := 15) (by kernel_rfl) (by kernel_rfl) (by kernel_rfl) (by kernel_rfl) (.read (.plain rfl (pj_move (has_tmp rfl))) <| .read (.plain rfl (pj_move (has_tmp rfl))) <| .read (.plain rfl (pj_nilCheck_ptr (has_tmp rfl))) <| .read (.plain rfl (pj_field_ptr (off := 0) (has_tmp rfl) (by kernel_rfl))) <| .read (.plain rfl (pj_load_box (has_tmp rfl) .here (Path.then (Path.all (prod i64 (prod i64 (prod R_api_Hash (prod (ptr R_lms_Tree) (prod (ptr R_lms_Tree) i64)))))) (Path.fst i64 (prod i64 (prod R_api_Hash (prod (ptr R_lms_Tree) (prod (ptr R_lms_Tree) i64)))))) (by kernel_rfl))) <| .read (.plain rfl (pj_ishr (has_tmp rfl) (has_tmp rfl) isInt_i64 e6)) <| .read (.plain rfl (pj_move (has_tmp rfl))) <| .read (.plain rfl (pj_move (has_tmp rfl))) <| .read (.plain rfl (pj_nilCheck_ptr (has_tmp rfl))) <| .read (.plain rfl (pj_field_ptr (off := 0) (has_tmp rfl) (by kernel_rfl))) <| .read (.plain rfl (pj_load_box (has_tmp rfl) .here (Path.then (Path.all (prod i64 (prod i64 (prod R_api_Hash (prod (ptr R_lms_Tree) (prod (ptr R_lms_Tree) i64)))))) (Path.fst i64 (prod i64 (prod R_api_Hash (prod (ptr R_lms_Tree) (prod (ptr R_lms_Tree) i64)))))) (by kernel_rfl))) <| .read (.plain rfl (pj_ishl has_i64 (has_tmp rfl) isInt_i64 e7)) <| .read (.plain rfl (pj_isub (has_tmp rfl) has_i64)) <| .read (.plain rfl (pj_iand (has_tmp rfl) (has_tmp rfl))) <| .read (.plain rfl (pj_assign (has_tmp rfl))) <| .nil) (j_to (Γ' := [(0, val (.pointer (some ⟨b_s, 0, none⟩))), (2, (sl u8).slot p_message), (8, i64.slot (ishr p_n p_s.1)), (40, i64.slot (iand p_n (w64 ((ishl (1 : Int) p_s.1) - (1 : Int)))))]) (H' := [box b_s 86 (prod i64 (prod i64 (prod R_api_Hash (prod (ptr R_lms_Tree) (prod (ptr R_lms_Tree) i64))))) (p_s.1, p_s.2.1, p_s.2.2.1, p_s.2.2.2.1, p_s.2.2.2.2.1, p_s.2.2.2.2.2)]) (.cons (.of_lk rfl) <| .cons (.of_lk rfl) <| .cons (.of_lk rfl) <| .cons (.of_lk rfl) <| .nil) (.cons .here <| .nil) ?_)
      obtain ⟨x1, e8, h⟩ := bind_some h
      refine j_pure (PJ.eqv (pj_assign (has_tmp rfl)) (Option.some.inj e8)) rfl rfl rfl ?_
      refine j_end ?_
      refine run_seq ?_
      refine run_text ?_
      refine j_pure (pj_move (has_tmp rfl)) rfl rfl rfl ?_
      refine j_pure (pj_move (has_tmp rfl)) rfl rfl rfl ?_
      obtain ⟨r2, e9, h⟩ := bind_some h
      refine j_call (hasL_cons (has_tmp rfl) <| hasL_cons (has_tmp rfl) <| hasL_nil) (by kernel_rfl) (c_hss_Signer_tree hg0 hg1 hg2 e9) (.cons .here <| .nil) rfl fun _ => ?_
      refine j_pure (pj_move (has_tmp rfl)) rfl rfl rfl ?_
      refine j_pure (pj_extract (has_tmp rfl) rfl) rfl rfl rfl ?_
      refine j_pure (pj_extract (has_tmp rfl) rfl) rfl rfl rfl ?_
      refine j_pure (pj_assign (has_tmp rfl)) rfl rfl rfl ?_
      refine j_pure (pj_assign (has_tmp rfl)) rfl rfl rfl ?_
      refine j_end ?_
      refine run_seq ?_
      refine run_seq ?_
      refine run_text ?_
      refine j_pure (pj_move (has_tmp rfl)) rfl rfl rfl ?_
      refine j_pure (pj_ineq (has_tmp rfl) has_i64) rfl rfl rfl ?_
      refine j_end ?_
      refine run_cond (has_tmp rfl) (fun e10 => ?_) (fun e10 => ?_)
      · replace h := bt e10 h
        refine run_seq ?_
        refine run_text ?_
        refine j_pure (pj_move (has_tmp rfl)) rfl rfl rfl ?_
        refine j_assign_nil (T := 5) u8 rfl fun v3 => ?_
        refine j_pure (pj_assign (has_tmp rfl)) rfl rfl rfl ?_
        refine j_end ?_
        obtain rfl := Option.some.inj h
        exact run_ret fun a w hst => q_retN hst rfl (.cons (.tmp rfl) <| .cons (.tmp rfl) <| .nil) rfl v3 (fun _ _ h => h) (.cons (.next .here) <| .cons .here <| .nil)
      · replace h := bf e10 h
        refine run_skip ?_
        refine run_seq ?_
        refine run_text ?_
        refine j_pure (pj_move (has_tmp rfl)) rfl rfl rfl ?_
        obtain ⟨r3, e11, h⟩ := bind_some h
        refine j_pure (pj_call (hasL_cons (has_tmp rfl) <| hasL_nil) (by kernel_rfl) (Ctr.froze (c_lms_Tree_Public e11))) rfl rfl rfl ?_
        refine j_pure (pj_assign (has_tmp rfl)) rfl rfl rfl ?_
        refine j_end ?_
        refine run_seq ?_
        refine run_text ?_
        refine j_pure (pj_move (has_tmp rfl)) rfl rfl rfl ?_
        refine j_pure (pj_nilCheck_ptr (has_tmp rfl)) rfl rfl rfl ?_
        refine j_pure (pj_field_ptr (off := 34) (has_tmp rfl) (by kernel_rfl)) rfl rfl rfl ?_
        refine j_pure (pj_load_box (has_tmp rfl) .here (Path.then (Path.all (prod i64 (prod i64 (prod R_api_Hash (prod (ptr R_lms_Tree) (prod (ptr R_lms_Tree) i64)))))) (Path.then (Path.snd i64 (prod i64 (prod R_api_Hash (prod (ptr R_lms_Tree) (prod (ptr R_lms_Tree) i64))))) (Path.then (Path.snd i64 (prod R_api_Hash (prod (ptr R_lms_Tree) (prod (ptr R_lms_Tree) i64)))) (Path.then (Path.snd R_api_Hash (prod (ptr R_lms_Tree) (prod (ptr R_lms_Tree) i64))) (Path.fst (ptr R_lms_Tree) (prod (ptr R_lms_Tree) i64)))))) (by kernel_rfl)) rfl rfl rfl ?_
        refine j_pure (pj_move (has_tmp rfl)) rfl rfl rfl ?_
        refine j_pure (pj_move (has_tmp rfl)) rfl rfl rfl ?_
        obtain ⟨r4, e12, h⟩ := bind_some h
        refine j_pure (pj_call (hasL_cons (has_tmp rfl) <| hasL_cons (has_tmp rfl) <| hasL_cons (has_tmp rfl) <| hasL_nil) (by kernel_rfl) (Ctr.froze2 (c_lms_Tree_Sign hg0 hg1 hg2 e12))) rfl rfl rfl ?_
        refine j_pure (pj_move (has_tmp rfl)) rfl rfl rfl ?_
        refine j_pure (pj_extract (has_tmp rfl) rfl) rfl rfl rfl ?_
        refine j_pure (pj_extract (has_tmp rfl) rfl) rfl rfl rfl ?_
        refine j_pure (pj_assign (has_tmp rfl)) rfl rfl rfl ?_
        refine j_pure (pj_assign (has_tmp rfl)) rfl rfl rfl ?_
        refine j_end ?_
        refine run_seq ?_
        refine run_seq ?_
        refine run_text ?_
        refine j_pure (pj_move (has_tmp rfl)) rfl rfl rfl ?_
        refine j_pure (pj_ineq (has_tmp rfl) has_i64) rfl rfl rfl ?_
        refine j_end ?_
        refine run_cond (has_tmp rfl) (fun e13 => ?_) (fun e13 => ?_)
        · replace h := bt e13 h
          refine run_seq ?_
          refine run_text ?_
          refine j_pure (pj_move (has_tmp rfl)) rfl rfl rfl ?_
          refine j_assign_nil (T := 5) u8 rfl fun v4 => ?_
          refine j_pure (pj_assign (has_tmp rfl)) rfl rfl rfl ?_
          refine j_end ?_
          obtain rfl := Option.some.inj h
          exact run_ret fun a w hst => q_retN hst rfl (.cons (.tmp rfl) <| .cons (.tmp rfl) <| .nil) rfl v4 (fun _ _ h => h) (.cons (.next .here) <| .cons .here <| .nil)
        · replace h := bf e13 h
          refine run_skip ?_
          refine run_seq ?_
          refine run_text ?_
          refine j_pure (pj_move (has_tmp rfl)) rfl rfl rfl ?_
          refine j_pure (pj_move (has_tmp rfl)) rfl rfl rfl ?_
          refine j_pure (pj_move (has_tmp rfl)) rfl rfl rfl ?_
          obtain ⟨r5, e14, h⟩ := bind_some h
          refine j_pure (pj_call (hasL_cons (has_tmp rfl) <| hasL_cons (has_tmp rfl) <| hasL_cons (has_tmp rfl) <| hasL_nil) (by kernel_rfl) (Ctr.froze2 (c_lms_Tree_Sign hg0 hg1 hg2 e14))) rfl rfl rfl ?_
          refine j_pure (pj_move (has_tmp rfl)) rfl rfl rfl ?_
          refine j_pure (pj_extract (has_tmp rfl) rfl) rfl rfl rfl ?_
          refine j_pure (pj_extract (has_tmp rfl) rfl) rfl rfl rfl ?_
          refine j_pure (pj_assign (has_tmp rfl)) rfl rfl rfl ?_
          refine j_pure (pj_assign (has_tmp rfl)) rfl rfl rfl ?_
          refine j_end ?_
          refine run_seq ?_
          refine run_seq ?_
          refine run_text ?_
          refine j_pure (pj_move (has_tmp rfl)) rfl rfl rfl ?_
          refine j_pure (pj_ineq (has_tmp rfl) has_i64) rfl rfl rfl ?_
          refine j_end ?_
          refine run_cond (has_tmp rfl) (fun e15 => ?_) (fun e15 => ?_)
          · replace h := bt e15 h
            refine run_seq ?_
            refine run_text ?_
            refine j_pure (pj_move (has_tmp rfl)) rfl rfl rfl ?_
            refine j_assign_nil (T := 5) u8 rfl fun v5 => ?_
            refine j_pure (pj_assign (has_tmp rfl)) rfl rfl rfl ?_
            refine j_end ?_
            obtain rfl := Option.some.inj h
            exact run_ret fun a w hst => q_retN hst rfl (.cons (.tmp rfl) <| .cons (.tmp rfl) <| .nil) rfl v5 (fun _ _ h => h) (.cons (.next .here) <| .cons .here <| .nil)
          · replace h := bf e15 h
            refine run_skip ?_
            refine run_seq ?_
            refine run_text ?_
            refine j_pure (pj_buildSlice (T := 5) (R := u8) (.cons (has_un (x := 0#8) rfl) (.cons (has_un (x := 0#8) rfl) (.cons (has_un (x := 0#8) rfl) (.cons (has_un (x := 1#8) rfl) .nil)))) rfl (by kernel_rfl) (by kernel_rfl)) rfl rfl rfl ?_
            refine j_pure (pj_move (has_tmp rfl)) rfl rfl rfl ?_
            refine j_pure (pj_move (has_tmp rfl)) rfl rfl rfl ?_
            refine j_pure (pj_move (has_tmp rfl)) rfl rfl rfl ?_
            refine j_pure (pj_buildSlice (T := 38) (R := (sl u8)) (.cons (has_tmp rfl) (.cons (has_tmp rfl) (.cons (has_tmp rfl) (.cons (has_tmp rfl) .nil)))) rfl (by kernel_rfl) (by kernel_rfl)) rfl rfl rfl ?_
            obtain ⟨r6, e16, h⟩ := bind_some h
            refine j_call (hasL_cons (has_tmp rfl) <| hasL_nil) (by kernel_rfl) (c_slices_Concat_byte_byte e16) .nil rfl fun v6 => ?_
            refine j_pure (pj_assign (has_tmp rfl)) rfl rfl rfl ?_
            refine j_pure (pj_assign has_i64) rfl rfl rfl ?_
            refine j_end ?_
            obtain rfl := Option.some.inj h
            exact run_ret fun a w hst => q_retN hst rfl (.cons (.tmp rfl) <| .cons (.tmp rfl) <| .nil) rfl v6 (fun _ _ h => h) (.cons (.next .here) <| .cons .here <| .nil)
  · rcases bool_tf (decide (p_n < (0 : Int))) with e2 | e2
    · replace e3 := bt e2 e3
      refine j_guard_no2 (j := 2) (want := false) rfl rfl rfl rfl (bl_isx e2) rfl rfl rfl ?_
      refine j_guard_no2 (j := 2) (want := false) rfl rfl rfl rfl (bl_isx e2) rfl rfl rfl ?_
      refine j_guard_no2 (j := 2) (want := false) rfl rfl rfl rfl (bl_isx e2) rfl rfl rfl ?_
      refine j_guard_no2 (j := 2) (want := false) rfl rfl rfl rfl (bl_isx e2) rfl rfl rfl ?_
      refine j_pure (PJ.eqv (R := bl) (pj_pick (t := any) (has_tmp rfl) (fun _ => has_bl) (fun he => absurd (e2.symm.trans he) (by decide))) (Option.some.inj e3)) rfl rfl rfl ?_
      exact j_to (.cons (.of_lk rfl) <| .cons (.of_lk rfl) <| .cons (.of_lk rfl) <| .cons (.of_lk rfl) <| .nil) (.cons (.next .here) <| .nil) (J ())
    · replace e3 := bf e2 e3
      refine j_pure_y (pj_move (has_tmp rfl)) rfl rfl rfl rfl (bl_isx e2) rfl rfl ?_
      refine j_pure_y (pj_move (has_tmp rfl)) rfl rfl rfl rfl (bl_isx e2) rfl rfl ?_
      obtain ⟨r1, e4, e3⟩ := bind_some e3
      refine j_pure_y (pj_callR (hasL_cons (has_tmp rfl) <| hasL_nil) (.next .here) (by kernel_rfl) (fun _ => (c_hss_Signer_Keys e4))) rfl rfl rfl rfl (bl_isx e2) rfl rfl ?_
      refine j_pure_y (pj_igeq (has_tmp rfl) (has_tmp rfl)) rfl rfl rfl rfl (bl_isx e2) rfl rfl ?_
      refine j_pure (PJ.eqv (R := bl) (pj_pick (t := any) (has_tmp rfl) (fun he => absurd (e2.symm.trans he) (by decide)) (fun _ => (has_tmp rfl))) (Option.some.inj e3)) rfl rfl rfl ?_
      exact j_to (.cons (.of_lk rfl) <| .cons (.of_lk rfl) <| .cons (.of_lk rfl) <| .cons (.of_lk rfl) <| .nil) (.cons (.next .here) <| .nil) (J ())
set_option maxRecDepth 100000 in
set_option maxHeartbeats 4000000 in
theorem c_hss_Signer_Sign_nil {G : GP} (hg0 : HG0 G) (hg1 : HG1 G) (hg2 : HG2 G) {p_n : Int} {p_message : List (BitVec 8)} {r : (List (BitVec 8)) × Int} (h : hss_Signer_Sign_nil p_n p_message = some r) : Ctr Tryd.prog G 38 [(ptr R_hss_Signer).slot (none : Option T_hss_Signer), i64.slot p_n, (sl u8).slot p_message] [] (fun (u0 : Value) => tup [ov u0, i64.slot r.2]) (fun (u0 : Value) => [own 5 u8 u0 r.1]) := by
  unfold hss_Signer_Sign_nil at h
  refine ctr_of_run Tryd.func38 rfl 81 rfl rfl fun m0 w0 b0 => ?_
  show Run _ _ _ [(0, (ptr R_hss_Signer).slot (none : Option T_hss_Signer)), (1, i64.slot p_n), (2, (sl u8).slot p_message)] _
  refine run_seq ?_
  refine run_text ?_
  refine j_assign_nil (T := 5) u8 rfl fun v1 => ?_
  refine j_pure (pj_assign has_i64) rfl rfl rfl ?_
  refine j_end ?_
  refine run_seq ?_
  refine run_block ?_
  refine run_seq ?_
  refine run_text ?_
  refine j_pure (pj_move (has_tmp rfl)) rfl rfl rfl ?_
  refine j_pure (pj_eq_nil (E := 86) (by kernel_rfl) (has_tmp rfl)) rfl rfl rfl ?_
  refine j_pure (pj_assign (has_tmp rfl)) rfl rfl rfl ?_
  refine j_end ?_
  refine run_cond_t (has_tmp rfl) rfl ?_
  refine run_seq ?_
  refine run_text ?_
  refine j_assign_nil (T := 5) u8 rfl fun v2 => ?_
  refine j_pure (pj_assign has_i64) rfl rfl rfl ?_
  refine j_end ?_
  obtain rfl := Option.some.inj h
  exact run_ret fun a w hst => q_retN hst rfl (.cons (.tmp rfl) <| .cons (.tmp rfl) <| .nil) rfl v2 (fun _ _ h => h) (.cons .here <| .nil)
set_option maxRecDepth 100000 in
set_option maxHeartbeats 4000000 in
theorem c_hss_Signer_Keys_nil {G : GP} {r : Int} (h : hss_Signer_Keys_nil = some r) : Ctr Tryd.prog G 33 [(ptr R_hss_Signer).slot (none : Option T_hss_Signer)] [] (fun (_ : Unit) => i64.slot r) (fun (_ : Unit) => []) := by
  unfold hss_Signer_Keys_nil at h
  refine ctr_of_run Tryd.func33 rfl 15 rfl rfl fun m0 w0 b0 => ?_
  show Run _ _ _ [(0, (ptr R_hss_Signer).slot (none : Option T_hss_Signer))] _
  refine run_seq ?_
  refine run_text ?_
  refine j_pure (pj_assign has_i64) rfl rfl rfl ?_
  refine j_end ?_
  refine run_seq ?_
  refine run_seq ?_
  refine run_text ?_
  refine j_pure (pj_move (has_tmp rfl)) rfl rfl rfl ?_
  refine j_pure (pj_eq_nil (E := 86) (by kernel_rfl) (has_tmp rfl)) rfl rfl rfl ?_
  refine j_end ?_
  refine run_cond_t (has_tmp rfl) rfl ?_
  refine run_seq ?_
  refine run_text ?_
  refine j_pure (pj_assign has_i64) rfl rfl rfl ?_
  refine j_end ?_
  obtain rfl := Option.some.inj h
  exact run_ret fun a w hst => q_ret1 hst rfl (.tmp rfl) () (fun _ _ h => h) (.nil)
set_option maxRecDepth 100000 in
set_option maxHeartbeats 4000000 in
theorem c_hss_Signer_Public_nil {G : GP} {r : (List (BitVec 8))} (h : hss_Signer_Public_nil = some r) : Ctr Tryd.prog G 34 [(ptr R_hss_Signer).slot (none : Option T_hss_Signer)] [] (fun (u0 : Value) => ov u0) (fun (u0 : Value) => [own 5 u8 u0 r]) := by
  unfold hss_Signer_Public_nil at h
  refine ctr_of_run Tryd.func34 rfl 13 rfl rfl fun m0 w0 b0 => ?_
  show Run _ _ _ [(0, (ptr R_hss_Signer).slot (none : Option T_hss_Signer))] _
  refine run_seq ?_
  refine run_text ?_
  refine j_assign_nil (T := 5) u8 rfl fun v1 => ?_
  refine j_end ?_
  refine run_seq ?_
  refine run_seq ?_
  refine run_text ?_
  refine j_pure (pj_move (has_tmp rfl)) rfl rfl rfl ?_
  refine j_pure (pj_eq_nil (E := 86) (by kernel_rfl) (has_tmp rfl)) rfl rfl rfl ?_
  refine j_end ?_
  refine run_cond_t (has_tmp rfl) rfl ?_
  refine run_seq ?_
  refine run_text ?_
  refine j_assign_nil (T := 5) u8 rfl fun v2 => ?_
  refine j_end ?_
  obtain rfl := Option.some.inj h
  exact run_ret fun a w hst => q_ret1 hst rfl (.tmp rfl) v2 (fun _ _ h => h) (.cons .here <| .nil)
set_option maxRecDepth 100000 in
set_option maxHeartbeats 4000000 in
theorem c_rolodexlaw06_HssNil {G : GP} (hg0 : HG0 G) (hg1 : HG1 G) (hg2 : HG2 G) {p_n : Int} {p_message : List (BitVec 8)} {r : Bool} (h : rolodexlaw06_HssNil p_n p_message = some r) : Ctr Tryd.prog G 9 [i64.slot p_n, (sl u8).slot p_message] [] (fun (_ : Unit) => bl.slot r) (fun (_ : Unit) => []) := by
  unfold rolodexlaw06_HssNil at h
  refine ctr_of_run Tryd.func9 rfl 41 rfl rfl fun m0 w0 b0 => ?_
  show Run _ _ _ [(0, i64.slot p_n), (1, (sl u8).slot p_message)] _
  refine run_seq ?_
  refine run_text ?_
  refine j_pure (pj_assign has_bl) rfl rfl rfl ?_
  refine j_end ?_
  refine run_seq ?_
  refine run_seq ?_
  refine run_text ?_
  obtain ⟨r1, e1, h⟩ := bind_some h
  refine j_pure (pj_call (hasL_nil) (by kernel_rfl) (c_rolodexlaw06_awake hg0 hg1 hg2 e1)) rfl rfl rfl ?_
  refine j_pure (pj_not (has_tmp rfl)) rfl rfl rfl ?_
  refine j_pure (pj_move (has_tmp rfl)) rfl rfl rfl ?_
  obtain ⟨y1, e3, h⟩ := bind_some h
  refine j_joinx (ι := Unit) (Γ' := fun _ => [(0, i64.slot p_n), (1, (sl u8).slot p_message), (14, bl.slot y1)]) (H' := fun _ => []) 4 ?_ fun J => ?_
  · intro _
    clear e3
    show OpsJ _ _ _ [(0, i64.slot p_n), (1, (sl u8).slot p_message), (14, bl.slot y1)] [] _
    refine j_end ?_
    refine run_cond (has_tmp rfl) (fun e4 => ?_) (fun e4 => ?_)
    · replace h := bt e4 h
      refine run_seq ?_
      refine run_text ?_
      obtain ⟨r2, e5, h⟩ := bind_some h
      refine j_pure (pj_call (hasL_nil) (by kernel_rfl) (c_rolodexlaw06_awake hg0 hg1 hg2 e5)) rfl rfl rfl ?_
      refine j_pure (pj_assign (has_tmp rfl)) rfl rfl rfl ?_
      refine j_end ?_
      obtain rfl := Option.some.inj h
      exact run_ret fun a w hst => q_ret1 hst rfl (.tmp rfl) () (fun _ _ h => h) (.nil)
    · replace h := bf e4 h
      refine run_skip ?_
      refine run_seq ?_
      refine run_text ?_
      refine j_pure (pj_assign (has_nilp (R := R_hss_Signer))) rfl rfl rfl ?_
      refine j_end ?_
      refine run_seq ?_
      refine run_text ?_
      refine j_pure (pj_move (has_tmp rfl)) rfl rfl rfl ?_
      refine j_pure (pj_move (has_tmp rfl)) rfl rfl rfl ?_
      refine j_pure (pj_move (has_tmp rfl)) rfl rfl rfl ?_
      obtain ⟨r3, e6, h⟩ := bind_some h
      refine j_pure (pj_call (hasL_cons (has_tmp rfl) <| hasL_cons (has_tmp rfl) <| hasL_cons (has_tmp rfl) <| hasL_nil) (by kernel_rfl) (Ctr.froze2 (c_hss_Signer_Sign_nil hg0 hg1 hg2 e6))) rfl rfl rfl ?_
      refine j_pure (pj_move (has_tmp rfl)) rfl rfl rfl ?_
      refine j_pure (pj_extract (has_tmp rfl) rfl) rfl rfl rfl ?_
      refine j_pure (pj_extract (has_tmp rfl) rfl) rfl rfl rfl ?_
      refine j_pure (pj_assign (has_tmp rfl)) rfl rfl rfl ?_
      refine j_pure (pj_assign (has_tmp rfl)) rfl rfl rfl ?_
      refine j_end ?_
      refine run_seq ?_
      refine run_text ?_
      refine j_pure (pj_move (has_tmp rfl)) rfl rfl rfl ?_
      refine j_pure (pj_ieql (has_tmp rfl) has_i64) rfl rfl rfl ?_
      refine j_pure (pj_move (has_tmp rfl)) rfl rfl rfl ?_
      obtain ⟨y2, e8, h⟩ := bind_some h
      refine j_joinx (ι := Unit) (Γ' := fun _ => [(5, (ptr R_hss_Signer).slot (none : Option T_hss_Signer)), (29, bl.slot y2)]) (H' := fun _ => []) 4 ?_ fun J => ?_
      · intro _
        clear e8
        show OpsJ _ _ _ [(5, (ptr R_hss_Signer).slot (none : Option T_hss_Signer)), (29, bl.slot y2)] [] _
        refine j_pure (pj_move (has_tmp rfl)) rfl rfl rfl ?_
        obtain ⟨y3, e10, h⟩ := bind_some h
        refine j_joinx (ι := Unit) (Γ' := fun _ => [(5, (ptr R_hss_Signer).slot (none : Option T_hss_Signer)), (34, bl.slot y3)]) (H' := fun _ => []) 4 ?_ fun J => ?_
        · intro _
          clear e10
          show OpsJ _ _ _ [(5, (ptr R_hss_Signer).slot (none : Option T_hss_Signer)), (34, bl.slot y3)] [] _
          refine j_pure (pj_move (has_tmp rfl)) rfl rfl rfl ?_
          obtain ⟨y4, e13, h⟩ := bind_some h
          refine j_joinx (ι := Unit) (Γ' := fun _ => [(40, bl.slot y4)]) (H' := fun _ => []) 5 ?_ fun J => ?_
          · intro _
            clear e13
            show OpsJ _ _ _ [(40, bl.slot y4)] [] _
            refine j_pure (pj_assign (has_tmp rfl)) rfl rfl rfl ?_
            refine j_end ?_
            obtain rfl := Option.some.inj h
            exact run_ret fun a w hst => q_ret1 hst rfl (.tmp rfl) () (fun _ _ h => h) (.nil)
          · rcases bool_tf (y3) with e12 | e12
            · replace e13 := bt e12 e13
              refine j_pure_y (pj_move (has_tmp rfl)) rfl rfl rfl rfl (bl_isx e12) rfl rfl ?_
              obtain ⟨r5, e14, e13⟩ := bind_some e13
              refine j_pure_y (pj_call (hasL_cons (has_tmp rfl) <| hasL_nil) (by kernel_rfl) (Ctr.froze (c_hss_Signer_Public_nil e14))) rfl rfl rfl rfl (bl_isx e12) rfl rfl ?_
              refine j_pure_y (pj_len_sl (sz := 1) (has_tmp rfl) (by kernel_rfl)) rfl rfl rfl rfl (bl_isx e12) rfl rfl ?_
              refine j_pure_y (pj_ieql (has_tmp rfl) has_i64) rfl rfl rfl rfl (bl_isx e12) rfl rfl ?_
              refine j_pure (PJ.eqv (R := bl) (pj_pick (t := any) (has_tmp rfl) (fun _ => (has_tmp rfl)) (fun he => absurd (e12.symm.trans he) (by decide))) (Option.some.inj e13)) rfl rfl rfl ?_
              exact j_to (.cons (.of_lk rfl) <| .nil) (.nil) (J ())
            · replace e13 := bf e12 e13
              refine j_guard_no2 (j := 12) (want := true) rfl rfl rfl rfl (bl_isx e12) rfl rfl rfl ?_
              refine j_guard_no2 (j := 12) (want := true) rfl rfl rfl rfl (bl_isx e12) rfl rfl rfl ?_
              refine j_guard_no2 (j := 12) (want := true) rfl rfl rfl rfl (bl_isx e12) rfl rfl rfl ?_
              refine j_guard_no2 (j := 12) (want := true) rfl rfl rfl rfl (bl_isx e12) rfl rfl rfl ?_
              refine j_pure (PJ.eqv (R := bl) (pj_pick (t := any) (has_tmp rfl) (fun he => absurd (e12.symm.trans he) (by decide)) (fun _ => has_bl)) (Option.some.inj e13)) rfl rfl rfl ?_
              exact j_to (.cons (.of_lk rfl) <| .nil) (.nil) (J ())
        · rcases bool_tf (y2) with e9 | e9
          · replace e10 := bt e9 e10
            refine j_pure_y (pj_move (has_tmp rfl)) rfl rfl rfl rfl (bl_isx e9) rfl rfl ?_
            obtain ⟨r4, e11, e10⟩ := bind_some e10
            refine j_pure_y (pj_call (hasL_cons (has_tmp rfl) <| hasL_nil) (by kernel_rfl) (c_hss_Signer_Keys_nil e11)) rfl rfl rfl rfl (bl_isx e9) rfl rfl ?_
            refine j_pure_y (pj_ieql (has_tmp rfl) has_i64) rfl rfl rfl rfl (bl_isx e9) rfl rfl ?_
            refine j_pure (PJ.eqv (R := bl) (pj_pick (t := any) (has_tmp rfl) (fun _ => (has_tmp rfl)) (fun he => absurd (e9.symm.trans he) (by decide))) (Option.some.inj e10)) rfl rfl rfl ?_
            exact j_to (.cons (.of_lk rfl) <| .cons (.of_lk rfl) <| .nil) (.nil) (J ())
          · replace e10 := bf e9 e10
            refine j_guard_no2 (j := 7) (want := true) rfl rfl rfl rfl (bl_isx e9) rfl rfl rfl ?_
            refine j_guard_no2 (j := 7) (want := true) rfl rfl rfl rfl (bl_isx e9) rfl rfl rfl ?_
            refine j_guard_no2 (j := 7) (want := true) rfl rfl rfl rfl (bl_isx e9) rfl rfl rfl ?_
            refine j_pure (PJ.eqv (R := bl) (pj_pick (t := any) (has_tmp rfl) (fun he => absurd (e9.symm.trans he) (by decide)) (fun _ => has_bl)) (Option.some.inj e10)) rfl rfl rfl ?_
            exact j_to (.cons (.of_lk rfl) <| .cons (.of_lk rfl) <| .nil) (.nil) (J ())
      · rcases bool_tf (decide (r3.2 = (1 : Int))) with e7 | e7
        · replace e8 := bt e7 e8
          refine j_pure_y (pj_move (has_tmp rfl)) rfl rfl rfl rfl (bl_isx e7) rfl rfl ?_
          refine j_pure_y (pj_len_sl (sz := 1) (has_tmp rfl) (by kernel_rfl)) rfl rfl rfl rfl (bl_isx e7) rfl rfl ?_
          refine j_pure_y (pj_ieql (has_tmp rfl) has_i64) rfl rfl rfl rfl (bl_isx e7) rfl rfl ?_
          refine j_pure (PJ.eqv (R := bl) (pj_pick (t := any) (has_tmp rfl) (fun _ => (has_tmp rfl)) (fun he => absurd (e7.symm.trans he) (by decide))) (Option.some.inj e8)) rfl rfl rfl ?_
          exact j_to (.cons (.of_lk rfl) <| .cons (.of_lk rfl) <| .nil) (.nil) (J ())
        · replace e8 := bf e7 e8
          refine j_guard_no2 (j := 2) (want := true) rfl rfl rfl rfl (bl_isx e7) rfl rfl rfl ?_
          refine j_guard_no2 (j := 2) (want := true) rfl rfl rfl rfl (bl_isx e7) rfl rfl rfl ?_
          refine j_guard_no2 (j := 2) (want := true) rfl rfl rfl rfl (bl_isx e7) rfl rfl rfl ?_
          refine j_pure (PJ.eqv (R := bl) (pj_pick (t := any) (has_tmp rfl) (fun he => absurd (e7.symm.trans he) (by decide)) (fun _ => has_bl)) (Option.some.inj e8)) rfl rfl rfl ?_
          exact j_to (.cons (.of_lk rfl) <| .cons (.of_lk rfl) <| .nil) (.nil) (J ())
  · rcases bool_tf (!r1) with e2 | e2
    · replace e3 := bt e2 e3
      refine j_guard_no2 (j := 2) (want := false) rfl rfl rfl rfl (bl_isx e2) rfl rfl rfl ?_
      refine j_guard_no2 (j := 2) (want := false) rfl rfl rfl rfl (bl_isx e2) rfl rfl rfl ?_
      refine j_guard_no2 (j := 2) (want := false) rfl rfl rfl rfl (bl_isx e2) rfl rfl rfl ?_
      refine j_pure (PJ.eqv (R := bl) (pj_pick (t := any) (has_tmp rfl) (fun _ => has_bl) (fun he => absurd (e2.symm.trans he) (by decide))) (Option.some.inj e3)) rfl rfl rfl ?_
      exact j_to (.cons (.of_lk rfl) <| .cons (.of_lk rfl) <| .cons (.of_lk rfl) <| .nil) (.nil) (J ())
    · replace e3 := bf e2 e3
      refine j_pure_y (pj_move (has_tmp rfl)) rfl rfl rfl rfl (bl_isx e2) rfl rfl ?_
      refine j_pure_y (pj_len_sl (sz := 1) (has_tmp rfl) (by kernel_rfl)) rfl rfl rfl rfl (bl_isx e2) rfl rfl ?_
      refine j_pure_y (pj_igtr (has_tmp rfl) has_i64) rfl rfl rfl rfl (bl_isx e2) rfl rfl ?_
      refine j_pure (PJ.eqv (R := bl) (pj_pick (t := any) (has_tmp rfl) (fun he => absurd (e2.symm.trans he) (by decide)) (fun _ => (has_tmp rfl))) (Option.some.inj e3)) rfl rfl rfl ?_
      exact j_to (.cons (.of_lk rfl) <| .cons (.of_lk rfl) <| .cons (.of_lk rfl) <| .nil) (.nil) (J ())
end Go.Sl.W
