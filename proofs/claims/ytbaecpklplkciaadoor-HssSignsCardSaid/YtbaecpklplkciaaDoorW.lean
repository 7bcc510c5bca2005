import Derived.Test.YtbaecpklplkciaaDoorWB
import Derived.Test.YtbaecpklplkciaaDoorOp14
import Derived.Test.YtbaecpklplkciaaDoorProg
set_option linter.unusedSimpArgs false
set_option linter.unusedVariables false
set_option linter.unusedSectionVars false
namespace Go.Sl.W
open Go.Proofs Go.Sl Go.Sl.M
set_option maxRecDepth 100000 in
set_option maxHeartbeats 4000000 in
theorem c_rolodexlaw06_HssSigns {G : GP} (hg0 : HG0 G) (hg1 : HG1 G) (hg2 : HG2 G) {p_f : T_rolodexlaw06_Form} {p_n : Int} {p_message : List (BitVec 8)} {r : Bool} (h : rolodexlaw06_HssSigns p_f p_n p_message = some r) : Ctr Tryd.prog G 8 [R_rolodexlaw06_Form.slot p_f, i64.slot p_n, (sl u8).slot p_message] [] (fun (_ : Unit) => bl.slot r) (fun (_ : Unit) => []) := by
  unfold rolodexlaw06_HssSigns at h
  refine ctr_of_run Tryd.func8 rfl 79 rfl rfl fun m0 w0 b0 => ?_
  show Run _ _ _ [(0, R_rolodexlaw06_Form.slot p_f), (1, i64.slot p_n), (2, (sl u8).slot p_message)] _
  refine run_seq ?_
  refine run_text ?_
  refine j_pure (pj_box_to (has_tmp rfl)) rfl rfl rfl ?_
  refine j_pure (pj_assign has_bl) rfl rfl rfl ?_
  refine j_end ?_
  refine run_seq ?_
  refine run_text ?_
  refine j_pure (pj_field_to (has_tmp rfl) (Path.fst i64 (prod i64 (prod i64 R_api_Hash))) (by kernel_rfl)) rfl rfl rfl ?_
  refine j_pure (pj_load_to (has_tmp rfl) (by kernel_rfl)) rfl rfl rfl ?_
  refine j_pure (pj_field_to (has_tmp rfl) (Path.then (Path.snd i64 (prod i64 (prod i64 R_api_Hash))) (Path.fst i64 (prod i64 R_api_Hash))) (by kernel_rfl)) rfl rfl rfl ?_
  refine j_pure (pj_load_to (has_tmp rfl) (by kernel_rfl)) rfl rfl rfl ?_
  refine j_pure (pj_field_to (has_tmp rfl) (Path.then (Path.snd i64 (prod i64 (prod i64 R_api_Hash))) (Path.then (Path.snd i64 (prod i64 R_api_Hash)) (Path.fst i64 R_api_Hash))) (by kernel_rfl)) rfl rfl rfl ?_
  refine j_pure (pj_load_to (has_tmp rfl) (by kernel_rfl)) rfl rfl rfl ?_
  obtain ⟨r1, e1, h⟩ := bind_some h
  refine j_pure (pj_call (hasL_cons (has_tmp rfl) <| hasL_cons (has_tmp rfl) <| hasL_cons (has_tmp rfl) <| hasL_nil) (by kernel_rfl) (c_rolodexref06_Keys e1)) rfl rfl rfl ?_
  refine j_pure (pj_assign (has_tmp rfl)) rfl rfl rfl ?_
  refine j_end ?_
  refine run_seq ?_
  refine run_seq ?_
  refine run_text ?_
  obtain ⟨r2, e2, h⟩ := bind_some h
  refine j_pure (pj_call (hasL_nil) (by kernel_rfl) (c_rolodexlaw06_awake hg0 hg1 hg2 e2)) rfl rfl rfl ?_
  refine j_pure (pj_not (has_tmp rfl)) rfl rfl rfl ?_
  refine j_pure (pj_move (has_tmp rfl)) rfl rfl rfl ?_
  obtain ⟨y1, e4, h⟩ := bind_some h
  refine j_joinx (ι := Unit) (Γ' := fun _ => [(1, i64.slot p_n), (2, (sl u8).slot p_message), (3, ptrTo R_rolodexlaw06_Form p_f), (7, i64.slot r1), (27, bl.slot y1)]) (H' := fun _ => []) 4 ?_ fun J => ?_
  · intro _
    clear e4
    show OpsJ _ _ _ [(1, i64.slot p_n), (2, (sl u8).slot p_message), (3, ptrTo R_rolodexlaw06_Form p_f), (7, i64.slot r1), (27, bl.slot y1)] [] _
    refine j_pure (pj_move (has_tmp rfl)) rfl rfl rfl ?_
    obtain ⟨y2, e6, h⟩ := bind_some h
    refine j_joinx (ι := Unit) (Γ' := fun _ => [(1, i64.slot p_n), (2, (sl u8).slot p_message), (3, ptrTo R_rolodexlaw06_Form p_f), (31, bl.slot y2)]) (H' := fun _ => []) 3 ?_ fun J => ?_
    · intro _
      clear e6
      show OpsJ _ _ _ [(1, i64.slot p_n), (2, (sl u8).slot p_message), (3, ptrTo R_rolodexlaw06_Form p_f), (31, bl.slot y2)] [] _
      refine j_pure (pj_move (has_tmp rfl)) rfl rfl rfl ?_
      obtain ⟨y3, e8, h⟩ := bind_some h
      refine j_joinx (ι := Unit) (Γ' := fun _ => [(1, i64.slot p_n), (2, (sl u8).slot p_message), (3, ptrTo R_rolodexlaw06_Form p_f), (36, bl.slot y3)]) (H' := fun _ => []) 4 ?_ fun J => ?_
      · intro _
        clear e8
        show OpsJ _ _ _ [(1, i64.slot p_n), (2, (sl u8).slot p_message), (3, ptrTo R_rolodexlaw06_Form p_f), (36, bl.slot y3)] [] _
        refine j_end ?_
        refine run_cond (has_tmp rfl) (fun e10 => ?_) (fun e10 => ?_)
        · replace h := bt e10 h
          refine run_seq ?_
          refine run_text ?_
          obtain ⟨r4, e11, h⟩ := bind_some h
          refine j_pure (pj_call (hasL_nil) (by kernel_rfl) (c_rolodexlaw06_awake hg0 hg1 hg2 e11)) rfl rfl rfl ?_
          refine j_pure (pj_assign (has_tmp rfl)) rfl rfl rfl ?_
          refine j_end ?_
          obtain rfl := Option.some.inj h
          exact run_ret fun a w hst => q_ret1 hst rfl (.tmp rfl) () (fun _ _ h => h) (.nil)
        · replace h := bf e10 h
          refine run_skip ?_
          refine run_seq ?_
          refine run_text ?_
          refine j_pure (pj_field_to (has_tmp rfl) (Path.fst i64 (prod i64 (prod i64 R_api_Hash))) (by kernel_rfl)) rfl rfl rfl ?_
          refine j_pure (pj_load_to (has_tmp rfl) (by kernel_rfl)) rfl rfl rfl ?_
          refine j_pure (pj_field_to (has_tmp rfl) (Path.then (Path.snd i64 (prod i64 (prod i64 R_api_Hash))) (Path.fst i64 (prod i64 R_api_Hash))) (by kernel_rfl)) rfl rfl rfl ?_
          refine j_pure (pj_load_to (has_tmp rfl) (by kernel_rfl)) rfl rfl rfl ?_
          refine j_pure (pj_field_to (has_tmp rfl) (Path.then (Path.snd i64 (prod i64 (prod i64 R_api_Hash))) (Path.then (Path.snd i64 (prod i64 R_api_Hash)) (Path.fst i64 R_api_Hash))) (by kernel_rfl)) rfl rfl rfl ?_
          refine j_pure (pj_load_to (has_tmp rfl) (by kernel_rfl)) rfl rfl rfl ?_
          refine j_pure (pj_field_to (has_tmp rfl) (Path.then (Path.snd i64 (prod i64 (prod i64 R_api_Hash))) (Path.then (Path.snd i64 (prod i64 R_api_Hash)) (Path.snd i64 R_api_Hash))) (by kernel_rfl)) rfl rfl rfl ?_
          refine j_pure (pj_load_to (has_tmp rfl) (by kernel_rfl)) rfl rfl rfl ?_
          obtain ⟨r5, e12, h⟩ := bind_some h
          obtain ⟨x1, e13, h⟩ := bind_some h
          refine j_call (hasL_cons (has_tmp rfl) <| hasL_cons (has_tmp rfl) <| hasL_cons (has_tmp rfl) <| hasL_cons (has_tmp rfl) <| hasL_nil) (by kernel_rfl) (c_hss_New hg0 hg1 hg2 (e12.trans (congrArg some (show r5 = (some x1, r5.2) from Prod.ext e13 rfl)))) .nil rfl fun b1 => ?_
          refine j_pure (pj_move (has_tmp rfl)) rfl rfl rfl ?_
          refine j_pure (pj_extract (has_tmp rfl) rfl) rfl rfl rfl ?_
          refine j_pure (pj_extract (has_tmp rfl) rfl) rfl rfl rfl ?_
          refine j_pure (pj_assign (has_tmp rfl)) rfl rfl rfl ?_
          refine j_pure (pj_assign (has_tmp rfl)) rfl rfl rfl ?_
          refine j_end ?_
          refine run_seq ?_
          refine run_text ?_
          refine j_pure (pj_move (has_tmp rfl)) rfl rfl rfl ?_
          refine j_pure (pj_move (has_tmp rfl)) rfl rfl rfl ?_
          refine j_pure (pj_move (has_tmp rfl)) rfl rfl rfl ?_
          obtain ⟨r6, e14, h⟩ := bind_some h
          refine j_call (hasL_cons (has_tmp rfl) <| hasL_cons (has_tmp rfl) <| hasL_cons (has_tmp rfl) <| hasL_nil) (by kernel_rfl) (c_hss_Signer_Sign hg0 hg1 hg2 e14) (.cons .here <| .nil) rfl fun v1 => ?_
          refine j_pure (pj_move (has_tmp rfl)) rfl rfl rfl ?_
          refine j_pure (pj_extract (has_tmp rfl) rfl) rfl rfl rfl ?_
          refine j_pure (pj_extract (has_tmp rfl) rfl) rfl rfl rfl ?_
          refine j_pure (pj_assign (has_tmp rfl)) rfl rfl rfl ?_
          refine j_pure (pj_assign (has_tmp rfl)) rfl rfl rfl ?_
          refine j_end ?_
          refine run_seq ?_
          refine run_text ?_
          refine j_pure (pj_field_to (has_tmp rfl) (Path.fst i64 (prod i64 (prod i64 R_api_Hash))) (by kernel_rfl)) rfl rfl rfl ?_
          refine j_pure (pj_load_to (has_tmp rfl) (by kernel_rfl)) rfl rfl rfl ?_
          refine j_pure (pj_field_to (has_tmp rfl) (Path.then (Path.snd i64 (prod i64 (prod i64 R_api_Hash))) (Path.fst i64 (prod i64 R_api_Hash))) (by kernel_rfl)) rfl rfl rfl ?_
          refine j_pure (pj_load_to (has_tmp rfl) (by kernel_rfl)) rfl rfl rfl ?_
          refine j_pure (pj_field_to (has_tmp rfl) (Path.then (Path.snd i64 (prod i64 (prod i64 R_api_Hash))) (Path.then (Path.snd i64 (prod i64 R_api_Hash)) (Path.fst i64 R_api_Hash))) (by kernel_rfl)) rfl rfl rfl ?_
          refine j_pure (pj_load_to (has_tmp rfl) (by kernel_rfl)) rfl rfl rfl ?_
          refine j_pure (pj_field_to (has_tmp rfl) (Path.then (Path.snd i64 (prod i64 (prod i64 R_api_Hash))) (Path.then (Path.snd i64 (prod i64 R_api_Hash)) (Path.snd i64 R_api_Hash))) (by kernel_rfl)) rfl rfl rfl ?_
          refine j_pure (pj_load_to (has_tmp rfl) (by kernel_rfl)) rfl rfl rfl ?_
          refine j_pure (pj_move (has_tmp rfl)) rfl rfl rfl ?_
          refine j_pure (pj_move (has_tmp rfl)) rfl rfl rfl ?_
          obtain ⟨r7, e15, h⟩ := bind_some h
          refine j_pure (pj_call (hasL_cons (has_tmp rfl) <| hasL_cons (has_tmp rfl) <| hasL_cons (has_tmp rfl) <| hasL_cons (has_tmp rfl) <| hasL_cons (has_tmp rfl) <| hasL_cons (has_tmp rfl) <| hasL_nil) (by kernel_rfl) (Ctr.froze2 (c_rolodexref06_Sign e15))) rfl rfl rfl ?_
          refine j_pure (pj_move (has_tmp rfl)) rfl rfl rfl ?_
          refine j_pure (pj_extract (has_tmp rfl) rfl) rfl rfl rfl ?_
          refine j_pure (pj_extract (has_tmp rfl) rfl) rfl rfl rfl ?_
          refine j_pure (pj_assign (has_tmp rfl)) rfl rfl rfl ?_
          refine j_pure (pj_assign (has_tmp rfl)) rfl rfl rfl ?_
          refine j_end ?_
          refine run_seq ?_
          refine run_text ?_
          refine j_pure (pj_move (has_tmp rfl)) rfl rfl rfl ?_
          refine j_pure (pj_move (has_tmp rfl)) rfl rfl rfl ?_
          refine j_pure (pj_ieql (has_tmp rfl) (has_tmp rfl)) rfl rfl rfl ?_
          refine j_pure (pj_move (has_tmp rfl)) rfl rfl rfl ?_
          obtain ⟨y4, e17, h⟩ := bind_some h
          refine j_joinx (ι := Unit) (Γ' := fun _ => [(78, bl.slot y4)]) (H' := fun _ => []) 4 ?_ fun J => ?_
          · intro _
            clear e17
            show OpsJ _ _ _ [(78, bl.slot y4)] [] _
            refine j_pure (pj_assign (has_tmp rfl)) rfl rfl rfl ?_
            refine j_end ?_
            obtain rfl := Option.some.inj h
            exact run_ret fun a w hst => q_ret1 hst rfl (.tmp rfl) () (fun _ _ h => h) (.nil)
          · rcases bool_tf (decide (r6.2.2 = r7.2)) with e16 | e16
            · replace e17 := bt e16 e17
              refine j_pure_y (pj_move (has_tmp rfl)) rfl rfl rfl rfl (bl_isx e16) rfl rfl ?_
              refine j_pure_y (pj_move (has_tmp rfl)) rfl rfl rfl rfl (bl_isx e16) rfl rfl ?_
              obtain ⟨r8, e18, e17⟩ := bind_some e17
              refine j_pure_y (pj_callB (hasBL_cons (hasB_own (has_tmp rfl) (.next .here)) <| hasBL_cons (hasB_of (has_tmp rfl)) <| hasBL_nil) (by kernel_rfl) (c_rolodexref01_Same e18) (Rep.flat_slot flat_bl _)) rfl rfl rfl rfl (bl_isx e16) rfl rfl ?_
              refine j_pure (PJ.eqv (R := bl) (pj_pick (t := any) (has_tmp rfl) (fun _ => (has_tmp rfl)) (fun he => absurd (e16.symm.trans he) (by decide))) (Option.some.inj e17)) rfl rfl rfl ?_
              exact j_to (.cons (.of_lk rfl) <| .nil) (.nil) (J ())
            · replace e17 := bf e16 e17
              refine j_guard_no2 (j := 3) (want := true) rfl rfl rfl rfl (bl_isx e16) rfl rfl rfl ?_
              refine j_guard_no2 (j := 3) (want := true) rfl rfl rfl rfl (bl_isx e16) rfl rfl rfl ?_
              refine j_guard_no2 (j := 3) (want := true) rfl rfl rfl rfl (bl_isx e16) rfl rfl rfl ?_
              refine j_pure (PJ.eqv (R := bl) (pj_pick (t := any) (has_tmp rfl) (fun he => absurd (e16.symm.trans he) (by decide)) (fun _ => has_bl)) (Option.some.inj e17)) rfl rfl rfl ?_
              exact j_to (.cons (.of_lk rfl) <| .nil) (.nil) (J ())
      · rcases bool_tf (y2) with e7 | e7
        · replace e8 := bt e7 e8
          refine j_guard_no2 (j := 11) (want := false) rfl rfl rfl rfl (bl_isx e7) rfl rfl rfl ?_
          refine j_guard_no2 (j := 11) (want := false) rfl rfl rfl rfl (bl_isx e7) rfl rfl rfl ?_
          refine j_guard_no2 (j := 11) (want := false) rfl rfl rfl rfl (bl_isx e7) rfl rfl rfl ?_
          refine j_pure (PJ.eqv (R := bl) (pj_pick (t := any) (has_tmp rfl) (fun _ => has_bl) (fun he => absurd (e7.symm.trans he) (by decide))) (Option.some.inj e8)) rfl rfl rfl ?_
          exact j_to (.cons (.of_lk rfl) <| .cons (.of_lk rfl) <| .cons (.of_lk rfl) <| .cons (.of_lk rfl) <| .nil) (.nil) (J ())
        · replace e8 := bf e7 e8
          refine j_pure_y (pj_load_to (has_tmp rfl) (by kernel_rfl)) rfl rfl rfl rfl (bl_isx e7) rfl rfl ?_
          obtain ⟨r3, e9, e8⟩ := bind_some e8
          refine j_pure_y (pj_call (hasL_cons (has_tmp rfl) <| hasL_nil) (by kernel_rfl) (c_rolodexlaw06_small e9)) rfl rfl rfl rfl (bl_isx e7) rfl rfl ?_
          refine j_pure_y (pj_not (has_tmp rfl)) rfl rfl rfl rfl (bl_isx e7) rfl rfl ?_
          refine j_pure (PJ.eqv (R := bl) (pj_pick (t := any) (has_tmp rfl) (fun he => absurd (e7.symm.trans he) (by decide)) (fun _ => (has_tmp rfl))) (Option.some.inj e8)) rfl rfl rfl ?_
          exact j_to (.cons (.of_lk rfl) <| .cons (.of_lk rfl) <| .cons (.of_lk rfl) <| .cons (.of_lk rfl) <| .nil) (.nil) (J ())
    · rcases bool_tf (y1) with e5 | e5
      · replace e6 := bt e5 e6
        refine j_guard_no2 (j := 7) (want := false) rfl rfl rfl rfl (bl_isx e5) rfl rfl rfl ?_
        refine j_guard_no2 (j := 7) (want := false) rfl rfl rfl rfl (bl_isx e5) rfl rfl rfl ?_
        refine j_pure (PJ.eqv (R := bl) (pj_pick (t := any) (has_tmp rfl) (fun _ => has_bl) (fun he => absurd (e5.symm.trans he) (by decide))) (Option.some.inj e6)) rfl rfl rfl ?_
        exact j_to (.cons (.of_lk rfl) <| .cons (.of_lk rfl) <| .cons (.of_lk rfl) <| .cons (.of_lk rfl) <| .nil) (.nil) (J ())
      · replace e6 := bf e5 e6
        refine j_pure_y (pj_move (has_tmp rfl)) rfl rfl rfl rfl (bl_isx e5) rfl rfl ?_
        refine j_pure_y (pj_ieql (has_tmp rfl) has_i64) rfl rfl rfl rfl (bl_isx e5) rfl rfl ?_
        refine j_pure (PJ.eqv (R := bl) (pj_pick (t := any) (has_tmp rfl) (fun he => absurd (e5.symm.trans he) (by decide)) (fun _ => (has_tmp rfl))) (Option.some.inj e6)) rfl rfl rfl ?_
        exact j_to (.cons (.of_lk rfl) <| .cons (.of_lk rfl) <| .cons (.of_lk rfl) <| .cons (.of_lk rfl) <| .nil) (.nil) (J ())
  · rcases bool_tf (!r2) with e3 | e3
    · replace e4 := bt e3 e4
      refine j_guard_no2 (j := 2) (want := false) rfl rfl rfl rfl (bl_isx e3) rfl rfl rfl ?_
      refine j_guard_no2 (j := 2) (want := false) rfl rfl rfl rfl (bl_isx e3) rfl rfl rfl ?_
      refine j_guard_no2 (j := 2) (want := false) rfl rfl rfl rfl (bl_isx e3) rfl rfl rfl ?_
      refine j_pure (PJ.eqv (R := bl) (pj_pick (t := any) (has_tmp rfl) (fun _ => has_bl) (fun he => absurd (e3.symm.trans he) (by decide))) (Option.some.inj e4)) rfl rfl rfl ?_
      exact j_to (.cons (.of_lk rfl) <| .cons (.of_lk rfl) <| .cons (.of_lk rfl) <| .cons (.of_lk rfl) <| .cons (.of_lk rfl) <| .nil) (.nil) (J ())
    · replace e4 := bf e3 e4
      refine j_pure_y (pj_move (has_tmp rfl)) rfl rfl rfl rfl (bl_isx e3) rfl rfl ?_
      refine j_pure_y (pj_len_sl (sz := 1) (has_tmp rfl) (by kernel_rfl)) rfl rfl rfl rfl (bl_isx e3) rfl rfl ?_
      refine j_pure_y (pj_igtr (has_tmp rfl) has_i64) rfl rfl rfl rfl (bl_isx e3) rfl rfl ?_
      refine j_pure (PJ.eqv (R := bl) (pj_pick (t := any) (has_tmp rfl) (fun he => absurd (e3.symm.trans he) (by decide)) (fun _ => (has_tmp rfl))) (Option.some.inj e4)) rfl rfl rfl ?_
      exact j_to (.cons (.of_lk rfl) <| .cons (.of_lk rfl) <| .cons (.of_lk rfl) <| .cons (.of_lk rfl) <| .cons (.of_lk rfl) <| .nil) (.nil) (J ())
end Go.Sl.W
