import Derived.Test.YtcikfilncagbgaaDoorWA
import Derived.Test.YtcikfilncagbgaaDoorOp14
import Derived.Test.YtcikfilncagbgaaDoorProg
set_option linter.unusedSimpArgs false
set_option linter.unusedVariables false
set_option linter.unusedSectionVars false
namespace Go.Sl.W
open Go.Proofs Go.Sl Go.Sl.M
set_option maxRecDepth 100000 in
set_option maxHeartbeats 4000000 in
theorem c_trail_IsGrowth {G : GP} (hg0 : HG0 G) (hg1 : HG1 G) (hg2 : HG2 G) (hg3 : HG3 G) {p_t : T_trail_Trail} {p_m : Int} {p_n : Int} {p_old : T_api_Hash} {p_root : T_api_Hash} {r : Bool} (h : trail_IsGrowth p_t p_m p_n p_old p_root = some r) : Ctr Tryd.prog G 43 [R_trail_Trail.slot p_t, i64.slot p_m, i64.slot p_n, R_api_Hash.slot p_old, R_api_Hash.slot p_root] [] (fun (_ : Unit) => bl.slot r) (fun (_ : Unit) => []) := by
  unfold trail_IsGrowth at h
  refine ctr_of_run Tryd.func43 rfl 44 rfl rfl fun m0 w0 b0 => ?_
  show Run _ _ _ [(0, R_trail_Trail.slot p_t), (1, i64.slot p_m), (2, i64.slot p_n), (3, R_api_Hash.slot p_old), (4, R_api_Hash.slot p_root)] _
  refine run_seq ?_
  refine run_text ?_
  refine j_pure (pj_box_to (has_tmp rfl)) rfl rfl rfl ?_
  refine j_pure (pj_box_to (has_tmp rfl)) rfl rfl rfl ?_
  refine j_pure (pj_box_to (has_tmp rfl)) rfl rfl rfl ?_
  refine j_pure (pj_assign has_bl) rfl rfl rfl ?_
  refine j_end ?_
  refine run_seq ?_
  refine run_seq ?_
  refine run_text ?_
  refine j_pure (pj_move (has_tmp rfl)) rfl rfl rfl ?_
  refine j_pure (pj_ilss (has_tmp rfl) has_i64) rfl rfl rfl ?_
  refine j_pure (pj_move (has_tmp rfl)) rfl rfl rfl ?_
  obtain ⟨y1, e2, h⟩ := bind_some h
  refine j_joinx (ι := Unit) (Γ' := fun _ => [(1, i64.slot p_m), (2, i64.slot p_n), (5, ptrTo R_trail_Trail p_t), (8, ptrTo R_api_Hash p_old), (9, ptrTo R_api_Hash p_root), (19, bl.slot y1)]) (H' := fun _ => []) 4 ?_ fun J => ?_
  · intro _
    clear e2
    show OpsJ _ _ _ [(1, i64.slot p_m), (2, i64.slot p_n), (5, ptrTo R_trail_Trail p_t), (8, ptrTo R_api_Hash p_old), (9, ptrTo R_api_Hash p_root), (19, bl.slot y1)] [] _
    refine j_pure (pj_move (has_tmp rfl)) rfl rfl rfl ?_
    obtain ⟨y2, e4, h⟩ := bind_some h
    refine j_joinx (ι := Unit) (Γ' := fun _ => [(1, i64.slot p_m), (2, i64.slot p_n), (5, ptrTo R_trail_Trail p_t), (8, ptrTo R_api_Hash p_old), (9, ptrTo R_api_Hash p_root), (23, bl.slot y2)]) (H' := fun _ => []) 3 ?_ fun J => ?_
    · intro _
      clear e4
      show OpsJ _ _ _ [(1, i64.slot p_m), (2, i64.slot p_n), (5, ptrTo R_trail_Trail p_t), (8, ptrTo R_api_Hash p_old), (9, ptrTo R_api_Hash p_root), (23, bl.slot y2)] [] _
      refine j_end ?_
      refine run_cond (has_tmp rfl) (fun e5 => ?_) (fun e5 => ?_)
      · replace h := bt e5 h
        refine run_seq ?_
        refine run_text ?_
        refine j_pure (pj_assign has_bl) rfl rfl rfl ?_
        refine j_end ?_
        obtain rfl := Option.some.inj h
        exact run_ret fun a w hst => q_ret1 hst rfl (.tmp rfl) () (fun _ _ h => h) (.nil)
      · replace h := bf e5 h
        refine run_skip ?_
        refine run_seq ?_
        refine run_text ?_
        refine j_pure (pj_move (has_tmp rfl)) rfl rfl rfl ?_
        refine j_pure (pj_field_to (has_tmp rfl) (Path.fst (sl R_api_Hash) (sl R_api_Hash)) (by kernel_rfl)) rfl rfl rfl ?_
        refine j_pure (pj_load_to (has_tmp rfl) (by kernel_rfl)) rfl rfl rfl ?_
        obtain ⟨x1, e6, h⟩ := bind_some h
        refine j_pure (PJ.eqv (pj_build (R := R_frontier_Range) (zero_prod zero_i64 (zero_prod zero_i64 zero_sl)) (by kernel_rfl) (by kernel_rfl) rfl (.cons (has_tmp rfl) (Path.then (Path.snd i64 (prod i64 (sl R_api_Hash))) (Path.fst i64 (sl R_api_Hash))) (by kernel_rfl) (.cons (has_tmp rfl) (Path.then (Path.snd i64 (prod i64 (sl R_api_Hash))) (Path.snd i64 (sl R_api_Hash))) (by kernel_rfl) .nil))) (Option.some.inj e6)) rfl rfl rfl ?_
        refine j_alloc (x := (0, 0, ([] : List T_api_Hash))) (R := R_frontier_Range) (zero_prod zero_i64 (zero_prod zero_i64 zero_sl)) (by kernel_rfl) rfl fun b1 => ?_
        refine j_store_boxx (r' := x1) (has_tmp rfl) (has_tmp rfl) .here (Path.all R_frontier_Range) (by kernel_rfl) rfl ?_
        refine j_freezeTo (t := 11) .here (.of_lk rfl) ?_
        refine j_end ?_
        refine run_seq ?_
        refine run_text ?_
        refine j_pure (pj_move (has_tmp rfl)) rfl rfl rfl ?_
        refine j_pure (pj_move (has_tmp rfl)) rfl rfl rfl ?_
        refine j_pure (pj_field_to (has_tmp rfl) (Path.snd (sl R_api_Hash) (sl R_api_Hash)) (by kernel_rfl)) rfl rfl rfl ?_
        refine j_pure (pj_load_to (has_tmp rfl) (by kernel_rfl)) rfl rfl rfl ?_
        obtain ⟨x2, e7, h⟩ := bind_some h
        refine j_pure (PJ.eqv (pj_build (R := R_frontier_Range) (zero_prod zero_i64 (zero_prod zero_i64 zero_sl)) (by kernel_rfl) (by kernel_rfl) rfl (.cons (has_tmp rfl) (Path.fst i64 (prod i64 (sl R_api_Hash))) (by kernel_rfl) (.cons (has_tmp rfl) (Path.then (Path.snd i64 (prod i64 (sl R_api_Hash))) (Path.fst i64 (sl R_api_Hash))) (by kernel_rfl) (.cons (has_tmp rfl) (Path.then (Path.snd i64 (prod i64 (sl R_api_Hash))) (Path.snd i64 (sl R_api_Hash))) (by kernel_rfl) .nil)))) (Option.some.inj e7)) rfl rfl rfl ?_
        refine j_alloc (x := (0, 0, ([] : List T_api_Hash))) (R := R_frontier_Range) (zero_prod zero_i64 (zero_prod zero_i64 zero_sl)) (by kernel_rfl) rfl fun b2 => ?_
        refine j_store_boxx (r' := x2) (has_tmp rfl) (has_tmp rfl) .here (Path.all R_frontier_Range) (by kernel_rfl) rfl ?_
        refine j_freezeTo (t := 12) .here (.of_lk rfl) ?_
        refine j_end ?_
        refine run_seq ?_
        refine run_text ?_
        refine j_pure (pj_load_to (has_tmp rfl) (by kernel_rfl)) rfl rfl rfl ?_
        refine j_pure (pj_load_to (has_tmp rfl) (by kernel_rfl)) rfl rfl rfl ?_
        refine j_pure (pj_buildSlice (T := 35) (R := R_frontier_Range) (.cons (has_tmp rfl) .nil) rfl (by kernel_rfl) (by kernel_rfl)) rfl rfl rfl ?_
        obtain ⟨r1, e8, h⟩ := bind_some h
        refine j_pure (pj_call (hasL_cons (has_tmp rfl) <| hasL_cons (has_tmp rfl) <| hasL_nil) (by kernel_rfl) (c_trail_rooted hg0 hg1 hg2 hg3 e8)) rfl rfl rfl ?_
        refine j_pure (pj_move (has_tmp rfl)) rfl rfl rfl ?_
        obtain ⟨y3, e10, h⟩ := bind_some h
        refine j_joinx (ι := Unit) (Γ' := fun _ => [(43, bl.slot y3)]) (H' := fun _ => []) 6 ?_ fun J => ?_
        · intro _
          clear e10
          show OpsJ _ _ _ [(43, bl.slot y3)] [] _
          refine j_pure (pj_assign (has_tmp rfl)) rfl rfl rfl ?_
          refine j_end ?_
          obtain rfl := Option.some.inj h
          exact run_ret fun a w hst => q_ret1 hst rfl (.tmp rfl) () (fun _ _ h => h) (.nil)
        · rcases bool_tf (r1) with e9 | e9
          · replace e10 := bt e9 e10
            refine j_pure_y (pj_load_to (has_tmp rfl) (by kernel_rfl)) rfl rfl rfl rfl (bl_isx e9) rfl rfl ?_
            refine j_pure_y (pj_load_to (has_tmp rfl) (by kernel_rfl)) rfl rfl rfl rfl (bl_isx e9) rfl rfl ?_
            refine j_pure_y (pj_load_to (has_tmp rfl) (by kernel_rfl)) rfl rfl rfl rfl (bl_isx e9) rfl rfl ?_
            refine j_pure_y (pj_buildSlice (T := 35) (R := R_frontier_Range) (.cons (has_tmp rfl) (.cons (has_tmp rfl) .nil)) rfl (by kernel_rfl) (by kernel_rfl)) rfl rfl rfl rfl (bl_isx e9) rfl rfl ?_
            obtain ⟨r2, e11, e10⟩ := bind_some e10
            refine j_pure_y (pj_call (hasL_cons (has_tmp rfl) <| hasL_cons (has_tmp rfl) <| hasL_nil) (by kernel_rfl) (c_trail_rooted hg0 hg1 hg2 hg3 e11)) rfl rfl rfl rfl (bl_isx e9) rfl rfl ?_
            refine j_pure (PJ.eqv (R := bl) (pj_pick (t := any) (has_tmp rfl) (fun _ => (has_tmp rfl)) (fun he => absurd (e9.symm.trans he) (by decide))) (Option.some.inj e10)) rfl rfl rfl ?_
            exact j_to (.cons (.of_lk rfl) <| .nil) (.nil) (J ())
          · replace e10 := bf e9 e10
            refine j_guard_no2 (j := 4) (want := true) rfl rfl rfl rfl (bl_isx e9) rfl rfl rfl ?_
            refine j_guard_no2 (j := 4) (want := true) rfl rfl rfl rfl (bl_isx e9) rfl rfl rfl ?_
            refine j_guard_no2 (j := 4) (want := true) rfl rfl rfl rfl (bl_isx e9) rfl rfl rfl ?_
            refine j_guard_no2 (j := 4) (want := true) rfl rfl rfl rfl (bl_isx e9) rfl rfl rfl ?_
            refine j_guard_no2 (j := 4) (want := true) rfl rfl rfl rfl (bl_isx e9) rfl rfl rfl ?_
            refine j_pure (PJ.eqv (R := bl) (pj_pick (t := any) (has_tmp rfl) (fun he => absurd (e9.symm.trans he) (by decide)) (fun _ => has_bl)) (Option.some.inj e10)) rfl rfl rfl ?_
            exact j_to (.cons (.of_lk rfl) <| .nil) (.nil) (J ())
    · rcases bool_tf (y1) with e3 | e3
      · replace e4 := bt e3 e4
        refine j_guard_no2 (j := 7) (want := false) rfl rfl rfl rfl (bl_isx e3) rfl rfl rfl ?_
        refine j_guard_no2 (j := 7) (want := false) rfl rfl rfl rfl (bl_isx e3) rfl rfl rfl ?_
        refine j_pure (PJ.eqv (R := bl) (pj_pick (t := any) (has_tmp rfl) (fun _ => has_bl) (fun he => absurd (e3.symm.trans he) (by decide))) (Option.some.inj e4)) rfl rfl rfl ?_
        exact j_to (.cons (.of_lk rfl) <| .cons (.of_lk rfl) <| .cons (.of_lk rfl) <| .cons (.of_lk rfl) <| .cons (.of_lk rfl) <| .cons (.of_lk rfl) <| .nil) (.nil) (J ())
      · replace e4 := bf e3 e4
        refine j_pure_y (pj_move (has_tmp rfl)) rfl rfl rfl rfl (bl_isx e3) rfl rfl ?_
        refine j_pure_y (pj_igtr (has_tmp rfl) has_i64) rfl rfl rfl rfl (bl_isx e3) rfl rfl ?_
        refine j_pure (PJ.eqv (R := bl) (pj_pick (t := any) (has_tmp rfl) (fun he => absurd (e3.symm.trans he) (by decide)) (fun _ => (has_tmp rfl))) (Option.some.inj e4)) rfl rfl rfl ?_
        exact j_to (.cons (.of_lk rfl) <| .cons (.of_lk rfl) <| .cons (.of_lk rfl) <| .cons (.of_lk rfl) <| .cons (.of_lk rfl) <| .cons (.of_lk rfl) <| .nil) (.nil) (J ())
  · rcases bool_tf (decide (p_m < (0 : Int))) with e1 | e1
    · replace e2 := bt e1 e2
      refine j_guard_no2 (j := 2) (want := false) rfl rfl rfl rfl (bl_isx e1) rfl rfl rfl ?_
      refine j_guard_no2 (j := 2) (want := false) rfl rfl rfl rfl (bl_isx e1) rfl rfl rfl ?_
      refine j_guard_no2 (j := 2) (want := false) rfl rfl rfl rfl (bl_isx e1) rfl rfl rfl ?_
      refine j_pure (PJ.eqv (R := bl) (pj_pick (t := any) (has_tmp rfl) (fun _ => has_bl) (fun he => absurd (e1.symm.trans he) (by decide))) (Option.some.inj e2)) rfl rfl rfl ?_
      exact j_to (.cons (.of_lk rfl) <| .cons (.of_lk rfl) <| .cons (.of_lk rfl) <| .cons (.of_lk rfl) <| .cons (.of_lk rfl) <| .cons (.of_lk rfl) <| .nil) (.nil) (J ())
    · replace e2 := bf e1 e2
      refine j_pure_y (pj_move (has_tmp rfl)) rfl rfl rfl rfl (bl_isx e1) rfl rfl ?_
      refine j_pure_y (pj_move (has_tmp rfl)) rfl rfl rfl rfl (bl_isx e1) rfl rfl ?_
      refine j_pure_y (pj_igtr (has_tmp rfl) (has_tmp rfl)) rfl rfl rfl rfl (bl_isx e1) rfl rfl ?_
      refine j_pure (PJ.eqv (R := bl) (pj_pick (t := any) (has_tmp rfl) (fun he => absurd (e1.symm.trans he) (by decide)) (fun _ => (has_tmp rfl))) (Option.some.inj e2)) rfl rfl rfl ?_
      exact j_to (.cons (.of_lk rfl) <| .cons (.of_lk rfl) <| .cons (.of_lk rfl) <| .cons (.of_lk rfl) <| .cons (.of_lk rfl) <| .cons (.of_lk rfl) <| .nil) (.nil) (J ())
set_option maxRecDepth 100000 in
set_option maxHeartbeats 4000000 in
theorem c_frontier_Of {G : GP} (hg0 : HG0 G) (hg1 : HG1 G) {p_from : Int} {p_l : List T_api_Hash} {r : T_frontier_Range × Int} (h : frontier_Of p_from p_l = some r) : Ctr Tryd.prog G 24 [i64.slot p_from, (sl R_api_Hash).slot p_l] [] (fun (_ : Unit) => tup [R_frontier_Range.slot r.1, i64.slot r.2]) (fun (_ : Unit) => []) := by
  unfold frontier_Of at h
  refine ctr_of_run Tryd.func24 rfl 46 rfl rfl fun m0 w0 b0 => ?_
  show Run _ _ _ [(0, i64.slot p_from), (1, (sl R_api_Hash).slot p_l)] _
  refine run_seq ?_
  refine run_text ?_
  refine j_alloc (x := (0, 0, ([] : List T_api_Hash))) (R := R_frontier_Range) (zero_prod zero_i64 (zero_prod zero_i64 zero_sl)) (by kernel_rfl) rfl fun b1 => ?_
  refine j_pure (pj_assign has_i64) rfl rfl rfl ?_
  refine j_end ?_
  refine run_seq ?_
  refine run_seq ?_
  refine run_text ?_
  refine j_pure (pj_move (has_tmp rfl)) rfl rfl rfl ?_
  refine j_pure (pj_ilss (has_tmp rfl) has_i64) rfl rfl rfl ?_
  refine j_pure (pj_move (has_tmp rfl)) rfl rfl rfl ?_
  obtain ⟨y1, e2, h⟩ := bind_some h
  refine j_joinx (ι := Unit) (Γ' := fun _ => [(0, i64.slot p_from), (1, (sl R_api_Hash).slot p_l), (4, val (.pointer (some ⟨b1, 0, none⟩))), (14, bl.slot y1)]) (H' := fun _ => [box b1 35 R_frontier_Range (0, 0, ([] : List T_api_Hash))]) 3 ?_ fun J => ?_
  · intro _
    clear e2
    show OpsJ _ _ _ [(0, i64.slot p_from), (1, (sl R_api_Hash).slot p_l), (4, val (.pointer (some ⟨b1, 0, none⟩))), (14, bl.slot y1)] [box b1 35 R_frontier_Range (0, 0, ([] : List T_api_Hash))] _
    refine j_pure (pj_move (has_tmp rfl)) rfl rfl rfl ?_
    obtain ⟨y2, e4, h⟩ := bind_some h
    refine j_joinx (ι := Unit) (Γ' := fun _ => [(0, i64.slot p_from), (1, (sl R_api_Hash).slot p_l), (4, val (.pointer (some ⟨b1, 0, none⟩))), (21, bl.slot y2)]) (H' := fun _ => [box b1 35 R_frontier_Range (0, 0, ([] : List T_api_Hash))]) 6 ?_ fun J => ?_
    · intro _
      clear e4
      show OpsJ _ _ _ [(0, i64.slot p_from), (1, (sl R_api_Hash).slot p_l), (4, val (.pointer (some ⟨b1, 0, none⟩))), (21, bl.slot y2)] [box b1 35 R_frontier_Range (0, 0, ([] : List T_api_Hash))] _
      refine j_end ?_
      refine run_cond (has_tmp rfl) (fun e5 => ?_) (fun e5 => ?_)
      · replace h := bt e5 h
        refine run_seq ?_
        refine run_text ?_
        refine j_pure (pj_build (R := R_frontier_Range) (zero_prod zero_i64 (zero_prod zero_i64 zero_sl)) (by kernel_rfl) (by kernel_rfl) rfl .nil) rfl rfl rfl ?_
        refine j_store_boxx (r' := (0, 0, ([] : List T_api_Hash))) (has_tmp rfl) (has_tmp rfl) .here (Path.all R_frontier_Range) (by kernel_rfl) rfl ?_
        refine j_pure (pj_assign has_i64) rfl rfl rfl ?_
        refine j_end ?_
        obtain rfl := Option.some.inj h
        exact run_ret fun a w hst => q_retN hst rfl (.cons (.cell rfl .here (by kernel_rfl)) <| .cons (.tmp rfl) <| .nil) rfl () (fun _ _ h => h) (.nil)
      · replace h := bf e5 h
        refine run_skip ?_
        refine run_seq ?_
        refine run_text ?_
        refine j_assign_nil (T := 89) R_frontier_part rfl fun v1 => ?_
        refine j_end ?_
        refine run_seq ?_
        refine run_seq ?_
        refine run_text ?_
        refine j_pure (pj_move (has_tmp rfl)) rfl rfl rfl ?_
        refine j_pure (pj_len_sl (sz := 32) (has_tmp rfl) (by kernel_rfl)) rfl rfl rfl ?_
        refine j_pure (pj_move has_i64) rfl rfl rfl ?_
        refine j_end ?_
        obtain ⟨⟨y5, y6⟩, e10, h⟩ := bind_some h
        refine run_loopS (Γi := fun (i : Value) (s : Int × (List T_frontier_part)) => [(0, i64.slot p_from), (1, (sl R_api_Hash).slot p_l), (4, val (.pointer (some ⟨b1, 0, none⟩))), (6, ov i), (23, (sl R_api_Hash).slot p_l), (24, i64.slot (p_l.length : Int)), (25, i64.slot s.1)]) (Hi := fun (i : Value) (s : Int × (List T_frontier_part)) => [own 89 R_frontier_part i s.2, box b1 35 R_frontier_Range (0, 0, ([] : List T_api_Hash))]) e10 v1 (fun a w hst => (hst.sub (.cons (.of_lk rfl) <| .cons (.of_lk rfl) <| .cons (.of_lk rfl) <| .cons (.of_lk rfl) <| .cons (.of_lk rfl) <| .cons (.of_lk rfl) <| .cons (.of_lk rfl) <| .nil)).keep (.cons .here <| .cons .here <| .nil)) ?_ ?_
        · clear h e10
          rintro v2 ⟨y3, y4⟩ lr h
          change frontier_Of_L1 p_l p_from y3 y4 = some _ at h
          show Run _ _ _ [(0, i64.slot p_from), (1, (sl R_api_Hash).slot p_l), (4, val (.pointer (some ⟨b1, 0, none⟩))), (6, ov v2), (23, (sl R_api_Hash).slot p_l), (24, i64.slot (p_l.length : Int)), (25, i64.slot y3)] [own 89 R_frontier_part v2 y4, box b1 35 R_frontier_Range (0, 0, ([] : List T_api_Hash))]
          unfold frontier_Of_L1 at h
          refine run_seq ?_
          refine run_text ?_
          refine j_pure (pj_ilss (has_tmp rfl) (has_tmp rfl)) rfl rfl rfl ?_
          refine j_end ?_
          refine run_seq ?_
          refine run_cond (has_tmp rfl) (fun e6 => ?_) (fun e6 => ?_)
          · replace h := bt e6 h
            refine run_skip ?_
            refine run_seq ?_
            refine run_block ?_
            refine run_seq ?_
            refine run_text ?_
            refine j_pure (pj_move (has_tmp rfl)) rfl rfl rfl ?_
            obtain ⟨x1, e7, h⟩ := bind_some h
            refine j_pure (pj_index_slx (has_tmp rfl) (has_tmp rfl) isInt_i64 e7 (by kernel_rfl)) rfl rfl rfl ?_
            refine j_pure (pj_load_to (has_tmp rfl) (by kernel_rfl)) rfl rfl rfl ?_
            refine j_alloc (x := (Vector.replicate 32 (0#8))) (R := R_api_Hash) (zero_vec 32 zero_un) (by kernel_rfl) rfl fun b2 => ?_
            refine j_pure (pj_assign (has_tmp rfl)) rfl rfl rfl ?_
            refine j_store_boxx (r' := x1) (has_tmp rfl) (has_tmp rfl) .here (Path.all R_api_Hash) (by kernel_rfl) rfl ?_
            refine j_freezeTo (t := 8) .here (.of_lk rfl) ?_
            refine j_end ?_
            refine run_text ?_
            refine j_pure (pj_move (has_tmp rfl)) rfl rfl rfl ?_
            refine j_pure (pj_move (has_tmp rfl)) rfl rfl rfl ?_
            refine j_pure (pj_move (has_tmp rfl)) rfl rfl rfl ?_
            refine j_pure (pj_iadd (has_tmp rfl) (has_tmp rfl)) rfl rfl rfl ?_
            refine j_pure (pj_load_to (has_tmp rfl) (by kernel_rfl)) rfl rfl rfl ?_
            obtain ⟨x2, e8, h⟩ := bind_some h
            refine j_pure (PJ.eqv (pj_build (R := R_frontier_part) (zero_prod zero_i64 (zero_prod zero_i64 (zero_vec 32 zero_un))) (by kernel_rfl) (by kernel_rfl) rfl (.cons (has_tmp rfl) (Path.fst i64 (prod i64 R_api_Hash)) (by kernel_rfl) (.cons has_i64 (Path.then (Path.snd i64 (prod i64 R_api_Hash)) (Path.fst i64 R_api_Hash)) (by kernel_rfl) (.cons (has_tmp rfl) (Path.then (Path.snd i64 (prod i64 R_api_Hash)) (Path.snd i64 R_api_Hash)) (by kernel_rfl) .nil)))) (Option.some.inj e8)) rfl rfl rfl ?_
            obtain ⟨r1, e9, h⟩ := bind_some h
            refine j_call (hasL_cons (has_tmp rfl) <| hasL_cons (has_tmp rfl) <| hasL_nil) (by kernel_rfl) (c_frontier_stack_put hg0 hg1 e9) (.cons .here <| .nil) rfl fun v3 => ?_
            refine j_pure (pj_assign (has_tmp rfl)) rfl rfl rfl ?_
            refine j_end ?_
            refine run_endblock ?_
            refine run_text ?_
            refine j_pure (pj_iadd (has_tmp rfl) has_i64) rfl rfl rfl ?_
            refine j_pure (pj_move (has_tmp rfl)) rfl rfl rfl ?_
            refine j_end ?_
            obtain rfl := Option.some.inj h
            exact run_next v3 (.cons (.of_lk rfl) <| .cons (.of_lk rfl) <| .cons (.of_lk rfl) <| .cons (.of_lk rfl) <| .cons (.of_lk rfl) <| .cons (.of_lk rfl) <| .cons (.of_lk rfl) <| .nil) (.cons .here <| .cons .here <| .nil)
          · replace h := bf e6 h
            obtain rfl := Option.some.inj h
            exact run_brk v2 (.cons (.of_lk rfl) <| .cons (.of_lk rfl) <| .cons (.of_lk rfl) <| .cons (.of_lk rfl) <| .cons (.of_lk rfl) <| .cons (.of_lk rfl) <| .cons (.of_lk rfl) <| .nil) (.cons .here <| .cons .here <| .nil)
        · rintro v4
          show Run _ _ _ [(0, i64.slot p_from), (1, (sl R_api_Hash).slot p_l), (4, val (.pointer (some ⟨b1, 0, none⟩))), (6, ov v4), (23, (sl R_api_Hash).slot p_l), (24, i64.slot (p_l.length : Int)), (25, i64.slot y5)] [own 89 R_frontier_part v4 y6, box b1 35 R_frontier_Range (0, 0, ([] : List T_api_Hash))]
          refine run_to (Γ' := [(0, i64.slot p_from), (1, (sl R_api_Hash).slot p_l), (4, val (.pointer (some ⟨b1, 0, none⟩))), (6, ov v4)]) (H' := [own 89 R_frontier_part v4 y6, box b1 35 R_frontier_Range (0, 0, ([] : List T_api_Hash))]) (.cons (.of_lk rfl) <| .cons (.of_lk rfl) <| .cons (.of_lk rfl) <| .cons (.of_lk rfl) <| .nil) (.cons .here <| .cons .here <| .nil) ?_
          refine run_seq ?_
          refine run_text ?_
          refine j_pure (pj_move (has_tmp rfl)) rfl rfl rfl ?_
          refine j_pure (pj_move (has_tmp rfl)) rfl rfl rfl ?_
          refine j_pure (pj_move (has_tmp rfl)) rfl rfl rfl ?_
          refine j_pure (pj_len_sl (sz := 32) (has_tmp rfl) (by kernel_rfl)) rfl rfl rfl ?_
          refine j_pure (pj_iadd (has_tmp rfl) (has_tmp rfl)) rfl rfl rfl ?_
          refine j_pure (pj_move (has_tmp rfl)) rfl rfl rfl ?_
          obtain ⟨r2, e11, h⟩ := bind_some h
          refine j_pure (pj_callBF (hasBL_cons (hasB_own (has_tmp rfl) .here) <| hasBL_nil) (by kernel_rfl) (c_frontier_stack_hashes e11) (flat_vec _ (flat_un _ _))) rfl rfl rfl ?_
          obtain ⟨x3, e12, h⟩ := bind_some h
          refine j_pure (PJ.eqv (pj_build (R := R_frontier_Range) (zero_prod zero_i64 (zero_prod zero_i64 zero_sl)) (by kernel_rfl) (by kernel_rfl) rfl (.cons (has_tmp rfl) (Path.fst i64 (prod i64 (sl R_api_Hash))) (by kernel_rfl) (.cons (has_tmp rfl) (Path.then (Path.snd i64 (prod i64 (sl R_api_Hash))) (Path.fst i64 (sl R_api_Hash))) (by kernel_rfl) (.cons (has_tmp rfl) (Path.then (Path.snd i64 (prod i64 (sl R_api_Hash))) (Path.snd i64 (sl R_api_Hash))) (by kernel_rfl) .nil)))) (Option.some.inj e12)) rfl rfl rfl ?_
          refine j_store_boxx (r' := x3) (has_tmp rfl) (has_tmp rfl) (.next .here) (Path.all R_frontier_Range) (by kernel_rfl) rfl ?_
          refine j_pure (pj_assign has_i64) rfl rfl rfl ?_
          refine j_end ?_
          obtain rfl := Option.some.inj h
          exact run_ret fun a w hst => q_retN hst rfl (.cons (.cell rfl .here (by kernel_rfl)) <| .cons (.tmp rfl) <| .nil) rfl () (fun _ _ h => h) (.nil)
    · rcases bool_tf (y1) with e3 | e3
      · replace e4 := bt e3 e4
        refine j_guard_no2 (j := 6) (want := false) rfl rfl rfl rfl (bl_isx e3) rfl rfl rfl ?_
        refine j_guard_no2 (j := 6) (want := false) rfl rfl rfl rfl (bl_isx e3) rfl rfl rfl ?_
        refine j_guard_no2 (j := 6) (want := false) rfl rfl rfl rfl (bl_isx e3) rfl rfl rfl ?_
        refine j_guard_no2 (j := 6) (want := false) rfl rfl rfl rfl (bl_isx e3) rfl rfl rfl ?_
        refine j_guard_no2 (j := 6) (want := false) rfl rfl rfl rfl (bl_isx e3) rfl rfl rfl ?_
        refine j_pure (PJ.eqv (R := bl) (pj_pick (t := any) (has_tmp rfl) (fun _ => has_bl) (fun he => absurd (e3.symm.trans he) (by decide))) (Option.some.inj e4)) rfl rfl rfl ?_
        exact j_to (.cons (.of_lk rfl) <| .cons (.of_lk rfl) <| .cons (.of_lk rfl) <| .cons (.of_lk rfl) <| .nil) (.cons .here <| .nil) (J ())
      · replace e4 := bf e3 e4
        refine j_pure_y (pj_move (has_tmp rfl)) rfl rfl rfl rfl (bl_isx e3) rfl rfl ?_
        refine j_pure_y (pj_len_sl (sz := 32) (has_tmp rfl) (by kernel_rfl)) rfl rfl rfl rfl (bl_isx e3) rfl rfl ?_
        refine j_pure_y (pj_move (has_tmp rfl)) rfl rfl rfl rfl (bl_isx e3) rfl rfl ?_
        refine j_pure_y (pj_isub has_i64 (has_tmp rfl)) rfl rfl rfl rfl (bl_isx e3) rfl rfl ?_
        refine j_pure_y (pj_igtr (has_tmp rfl) (has_tmp rfl)) rfl rfl rfl rfl (bl_isx e3) rfl rfl ?_
        refine j_pure (PJ.eqv (R := bl) (pj_pick (t := any) (has_tmp rfl) (fun he => absurd (e3.symm.trans he) (by decide)) (fun _ => (has_tmp rfl))) (Option.some.inj e4)) rfl rfl rfl ?_
        exact j_to (.cons (.of_lk rfl) <| .cons (.of_lk rfl) <| .cons (.of_lk rfl) <| .cons (.of_lk rfl) <| .nil) (.cons .here <| .nil) (J ())
  · rcases bool_tf (decide (p_from < (0 : Int))) with e1 | e1
    · replace e2 := bt e1 e2
      refine j_guard_no2 (j := 2) (want := false) rfl rfl rfl rfl (bl_isx e1) rfl rfl rfl ?_
      refine j_guard_no2 (j := 2) (want := false) rfl rfl rfl rfl (bl_isx e1) rfl rfl rfl ?_
      refine j_pure (PJ.eqv (R := bl) (pj_pick (t := any) (has_tmp rfl) (fun _ => has_bl) (fun he => absurd (e1.symm.trans he) (by decide))) (Option.some.inj e2)) rfl rfl rfl ?_
      exact j_to (.cons (.of_lk rfl) <| .cons (.of_lk rfl) <| .cons (.of_lk rfl) <| .cons (.of_lk rfl) <| .nil) (.cons .here <| .nil) (J ())
    · replace e2 := bf e1 e2
      refine j_pure_y (pj_move (has_tmp rfl)) rfl rfl rfl rfl (bl_isx e1) rfl rfl ?_
      refine j_pure_y (pj_igtr (has_tmp rfl) has_i64) rfl rfl rfl rfl (bl_isx e1) rfl rfl ?_
      refine j_pure (PJ.eqv (R := bl) (pj_pick (t := any) (has_tmp rfl) (fun he => absurd (e1.symm.trans he) (by decide)) (fun _ => (has_tmp rfl))) (Option.some.inj e2)) rfl rfl rfl ?_
      exact j_to (.cons (.of_lk rfl) <| .cons (.of_lk rfl) <| .cons (.of_lk rfl) <| .cons (.of_lk rfl) <| .nil) (.cons .here <| .nil) (J ())
set_option maxRecDepth 100000 in
set_option maxHeartbeats 4000000 in
theorem c_trail_of {G : GP} (hg0 : HG0 G) (hg1 : HG1 G) {p_l : List T_api_Hash} {p_from : Int} {p_to : Int} {r : (List T_api_Hash)} (h : trail_of p_l p_from p_to = some r) : Ctr Tryd.prog G 66 [(sl R_api_Hash).slot p_l, i64.slot p_from, i64.slot p_to] [] (fun (_ : Unit) => (sl R_api_Hash).slot r) (fun (_ : Unit) => []) := by
  unfold trail_of at h
  refine ctr_of_run Tryd.func66 rfl 20 rfl rfl fun m0 w0 b0 => ?_
  show Run _ _ _ [(0, (sl R_api_Hash).slot p_l), (1, i64.slot p_from), (2, i64.slot p_to)] _
  refine run_seq ?_
  refine run_text ?_
  refine j_pure (pj_assign (has_nil (R := R_api_Hash))) rfl rfl rfl ?_
  refine j_end ?_
  refine run_seq ?_
  refine run_text ?_
  refine j_pure (pj_move (has_tmp rfl)) rfl rfl rfl ?_
  refine j_pure (pj_move (has_tmp rfl)) rfl rfl rfl ?_
  refine j_pure (pj_move (has_tmp rfl)) rfl rfl rfl ?_
  refine j_pure (pj_move (has_tmp rfl)) rfl rfl rfl ?_
  obtain ⟨x1, e1, h⟩ := bind_some h
  refine j_pure (pj_slice_slx (has_tmp rfl) (.yes (has_tmp rfl) isInt_i64) (.yes (has_tmp rfl) isInt_i64) e1 (by kernel_rfl)) rfl rfl rfl ?_
  obtain ⟨r1, e2, h⟩ := bind_some h
  refine j_pure (pj_call (hasL_cons (has_tmp rfl) <| hasL_cons (has_tmp rfl) <| hasL_nil) (by kernel_rfl) (c_frontier_Of hg0 hg1 e2)) rfl rfl rfl ?_
  refine j_pure (pj_move (has_tmp rfl)) rfl rfl rfl ?_
  refine j_pure (pj_extract (has_tmp rfl) rfl) rfl rfl rfl ?_
  refine j_pure (pj_extract (has_tmp rfl) rfl) rfl rfl rfl ?_
  refine j_alloc (x := (0, 0, ([] : List T_api_Hash))) (R := R_frontier_Range) (zero_prod zero_i64 (zero_prod zero_i64 zero_sl)) (by kernel_rfl) rfl fun b1 => ?_
  refine j_store_boxx (r' := r1.1) (has_tmp rfl) (has_tmp rfl) .here (Path.all R_frontier_Range) (by kernel_rfl) rfl ?_
  refine j_freezeTo (t := 7) .here (.of_lk rfl) ?_
  refine j_pure (pj_assign (has_tmp rfl)) rfl rfl rfl ?_
  refine j_end ?_
  refine run_seq ?_
  refine run_text ?_
  refine j_pure (pj_field_to (has_tmp rfl) (Path.then (Path.snd i64 (prod i64 (sl R_api_Hash))) (Path.snd i64 (sl R_api_Hash))) (by kernel_rfl)) rfl rfl rfl ?_
  refine j_pure (pj_load_to (has_tmp rfl) (by kernel_rfl)) rfl rfl rfl ?_
  refine j_pure (pj_assign (has_tmp rfl)) rfl rfl rfl ?_
  refine j_end ?_
  obtain rfl := Option.some.inj h
  exact run_ret fun a w hst => q_ret1 hst rfl (.tmp rfl) () (fun _ _ h => h) (.nil)
set_option maxRecDepth 100000 in
set_option maxHeartbeats 4000000 in
theorem c_trail_Entry {G : GP} (hg0 : HG0 G) (hg1 : HG1 G) {p_l : List T_api_Hash} {p_i : Int} {r : T_trail_Trail × Int} (h : trail_Entry p_l p_i = some r) : Ctr Tryd.prog G 46 [(sl R_api_Hash).slot p_l, i64.slot p_i] [] (fun (_ : Unit) => tup [R_trail_Trail.slot r.1, i64.slot r.2]) (fun (_ : Unit) => []) := by
  unfold trail_Entry at h
  refine ctr_of_run Tryd.func46 rfl 25 rfl rfl fun m0 w0 b0 => ?_
  show Run _ _ _ [(0, (sl R_api_Hash).slot p_l), (1, i64.slot p_i)] _
  refine run_seq ?_
  refine run_text ?_
  refine j_alloc (x := (([] : List T_api_Hash), ([] : List T_api_Hash))) (R := R_trail_Trail) (zero_prod zero_sl zero_sl) (by kernel_rfl) rfl fun b1 => ?_
  refine j_pure (pj_assign has_i64) rfl rfl rfl ?_
  refine j_end ?_
  refine run_seq ?_
  refine run_seq ?_
  refine run_text ?_
  refine j_pure (pj_move (has_tmp rfl)) rfl rfl rfl ?_
  refine j_pure (pj_ilss (has_tmp rfl) has_i64) rfl rfl rfl ?_
  refine j_pure (pj_move (has_tmp rfl)) rfl rfl rfl ?_
  obtain ⟨y1, e2, h⟩ := bind_some h
  refine j_joinx (ι := Unit) (Γ' := fun _ => [(0, (sl R_api_Hash).slot p_l), (1, i64.slot p_i), (4, val (.pointer (some ⟨b1, 0, none⟩))), (13, bl.slot y1)]) (H' := fun _ => [box b1 64 R_trail_Trail (([] : List T_api_Hash), ([] : List T_api_Hash))]) 5 ?_ fun J => ?_
  · intro _
    clear e2
    show OpsJ _ _ _ [(0, (sl R_api_Hash).slot p_l), (1, i64.slot p_i), (4, val (.pointer (some ⟨b1, 0, none⟩))), (13, bl.slot y1)] [box b1 64 R_trail_Trail (([] : List T_api_Hash), ([] : List T_api_Hash))] _
    refine j_end ?_
    refine run_cond (has_tmp rfl) (fun e3 => ?_) (fun e3 => ?_)
    · replace h := bt e3 h
      refine run_seq ?_
      refine run_text ?_
      refine j_pure (pj_build (R := R_trail_Trail) (zero_prod zero_sl zero_sl) (by kernel_rfl) (by kernel_rfl) rfl .nil) rfl rfl rfl ?_
      obtain ⟨x1, e4, h⟩ := bind_some h
      refine j_store_boxx (r' := x1) (has_tmp rfl) (has_tmp rfl) .here (Path.all R_trail_Trail) (by kernel_rfl) (Option.some.inj e4) ?_
      refine j_pure (pj_assign has_i64) rfl rfl rfl ?_
      refine j_end ?_
      obtain rfl := Option.some.inj h
      exact run_ret fun a w hst => q_retN hst rfl (.cons (.cell rfl .here (by kernel_rfl)) <| .cons (.tmp rfl) <| .nil) rfl () (fun _ _ h => h) (.nil)
    · replace h := bf e3 h
      refine run_skip ?_
      refine run_seq ?_
      refine run_text ?_
      refine j_pure (pj_move (has_tmp rfl)) rfl rfl rfl ?_
      refine j_pure (pj_move (has_tmp rfl)) rfl rfl rfl ?_
      obtain ⟨r1, e5, h⟩ := bind_some h
      refine j_pure (pj_call (hasL_cons (has_tmp rfl) <| hasL_cons has_i64 <| hasL_cons (has_tmp rfl) <| hasL_nil) (by kernel_rfl) (c_trail_of hg0 hg1 e5)) rfl rfl rfl ?_
      refine j_pure (pj_move (has_tmp rfl)) rfl rfl rfl ?_
      refine j_pure (pj_move (has_tmp rfl)) rfl rfl rfl ?_
      refine j_pure (pj_iadd (has_tmp rfl) has_i64) rfl rfl rfl ?_
      refine j_pure (pj_move (has_tmp rfl)) rfl rfl rfl ?_
      refine j_pure (pj_len_sl (sz := 32) (has_tmp rfl) (by kernel_rfl)) rfl rfl rfl ?_
      obtain ⟨r2, e6, h⟩ := bind_some h
      refine j_pure (pj_call (hasL_cons (has_tmp rfl) <| hasL_cons (has_tmp rfl) <| hasL_cons (has_tmp rfl) <| hasL_nil) (by kernel_rfl) (c_trail_of hg0 hg1 e6)) rfl rfl rfl ?_
      obtain ⟨x2, e7, h⟩ := bind_some h
      refine j_pure (PJ.eqv (pj_build (R := R_trail_Trail) (zero_prod zero_sl zero_sl) (by kernel_rfl) (by kernel_rfl) rfl (.cons (has_tmp rfl) (Path.fst (sl R_api_Hash) (sl R_api_Hash)) (by kernel_rfl) (.cons (has_tmp rfl) (Path.snd (sl R_api_Hash) (sl R_api_Hash)) (by kernel_rfl) .nil))) (Option.some.inj e7)) rfl rfl rfl ?_
      refine j_store_boxx (r' := x2) (has_tmp rfl) (has_tmp rfl) .here (Path.all R_trail_Trail) (by kernel_rfl) rfl ?_
      refine j_pure (pj_assign has_i64) rfl rfl rfl ?_
      refine j_end ?_
      obtain rfl := Option.some.inj h
      exact run_ret fun a w hst => q_retN hst rfl (.cons (.cell rfl .here (by kernel_rfl)) <| .cons (.tmp rfl) <| .nil) rfl () (fun _ _ h => h) (.nil)
  · rcases bool_tf (decide (p_i < (0 : Int))) with e1 | e1
    · replace e2 := bt e1 e2
      refine j_guard_no2 (j := 2) (want := false) rfl rfl rfl rfl (bl_isx e1) rfl rfl rfl ?_
      refine j_guard_no2 (j := 2) (want := false) rfl rfl rfl rfl (bl_isx e1) rfl rfl rfl ?_
      refine j_guard_no2 (j := 2) (want := false) rfl rfl rfl rfl (bl_isx e1) rfl rfl rfl ?_
      refine j_guard_no2 (j := 2) (want := false) rfl rfl rfl rfl (bl_isx e1) rfl rfl rfl ?_
      refine j_pure (PJ.eqv (R := bl) (pj_pick (t := any) (has_tmp rfl) (fun _ => has_bl) (fun he => absurd (e1.symm.trans he) (by decide))) (Option.some.inj e2)) rfl rfl rfl ?_
      exact j_to (.cons (.of_lk rfl) <| .cons (.of_lk rfl) <| .cons (.of_lk rfl) <| .cons (.of_lk rfl) <| .nil) (.cons .here <| .nil) (J ())
    · replace e2 := bf e1 e2
      refine j_pure_y (pj_move (has_tmp rfl)) rfl rfl rfl rfl (bl_isx e1) rfl rfl ?_
      refine j_pure_y (pj_move (has_tmp rfl)) rfl rfl rfl rfl (bl_isx e1) rfl rfl ?_
      refine j_pure_y (pj_len_sl (sz := 32) (has_tmp rfl) (by kernel_rfl)) rfl rfl rfl rfl (bl_isx e1) rfl rfl ?_
      refine j_pure_y (pj_igeq (has_tmp rfl) (has_tmp rfl)) rfl rfl rfl rfl (bl_isx e1) rfl rfl ?_
      refine j_pure (PJ.eqv (R := bl) (pj_pick (t := any) (has_tmp rfl) (fun he => absurd (e1.symm.trans he) (by decide)) (fun _ => (has_tmp rfl))) (Option.some.inj e2)) rfl rfl rfl ?_
      exact j_to (.cons (.of_lk rfl) <| .cons (.of_lk rfl) <| .cons (.of_lk rfl) <| .cons (.of_lk rfl) <| .nil) (.cons .here <| .nil) (J ())
end Go.Sl.W
