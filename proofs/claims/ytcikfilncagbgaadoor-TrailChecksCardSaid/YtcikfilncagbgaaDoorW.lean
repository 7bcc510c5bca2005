import Derived.Test.YtcikfilncagbgaaDoorWA
import Derived.Test.YtcikfilncagbgaaDoorOp14
import Derived.Test.YtcikfilncagbgaaDoorProg
set_option linter.unusedSimpArgs false
set_option linter.unusedVariables false
set_option linter.unusedSectionVars false
namespace Go.Sl.W
open Go.Proofs Go.Sl Go.Sl.M
set_option maxRecDepth 100000 in
set_option maxHeartbeats 4000000 in
theorem c_trail_rooted {G : GP} (hg0 : HG0 G) (hg1 : HG1 G) (hg2 : HG2 G) (hg3 : HG3 G) {p_root : T_api_Hash} {p_l : List T_frontier_Range} {r : Bool} (h : trail_rooted p_root p_l = some r) : Ctr Tryd.prog G 63 [R_api_Hash.slot p_root, (sl R_frontier_Range).slot p_l] [] (fun (_ : Unit) => bl.slot r) (fun (_ : Unit) => []) := by
  unfold trail_rooted at h
  refine ctr_of_run Tryd.func63 rfl 44 rfl rfl fun m0 w0 b0 => ?_
  refine run_ret0 fun Qf hq1 hq2 => ?_
  show Run _ _ _ [(0, R_api_Hash.slot p_root), (1, (sl R_frontier_Range).slot p_l)] _
  refine run_seq ?_
  refine run_text ?_
  refine j_pure (pj_box_to (has_tmp rfl)) rfl rfl rfl ?_
  refine j_pure (pj_assign has_bl) rfl rfl rfl ?_
  refine j_end ?_
  refine run_seq ?_
  refine run_text ?_
  refine j_pure (pj_move (has_tmp rfl)) rfl rfl rfl ?_
  obtain ⟨x1, e1, h⟩ := bind_some h
  refine j_pure (pj_index_slx (has_tmp rfl) has_i64 isInt_i64 e1 (by kernel_rfl)) rfl rfl rfl ?_
  refine j_pure (pj_load_to (has_tmp rfl) (by kernel_rfl)) rfl rfl rfl ?_
  refine j_alloc (x := (0, 0, ([] : List T_api_Hash))) (R := R_frontier_Range) (zero_prod zero_i64 (zero_prod zero_i64 zero_sl)) (by kernel_rfl) rfl fun b1 => ?_
  refine j_store_boxx (r' := x1) (has_tmp rfl) (has_tmp rfl) .here (Path.all R_frontier_Range) (by kernel_rfl) rfl ?_
  refine j_end ?_
  refine run_seq ?_
  refine run_seq ?_
  refine run_text ?_
  refine j_pure (pj_move (has_tmp rfl)) rfl rfl rfl ?_
  obtain ⟨x2, e2, h⟩ := bind_some h
  refine j_pure (pj_slice_slx (has_tmp rfl) (.yes has_i64 isInt_i64) .no e2 (by kernel_rfl)) rfl rfl rfl ?_
  refine j_pure (pj_len_sl (sz := 3) (has_tmp rfl) (by kernel_rfl)) rfl rfl rfl ?_
  refine j_pure (pj_move has_i64) rfl rfl rfl ?_
  refine j_end ?_
  obtain ⟨o, e7, h⟩ := bind_some h
  refine run_loop (Γi := fun (i : Unit) (s : Int × T_frontier_Range) => [(2, ptrTo R_api_Hash p_root), (5, val (.pointer (some ⟨b1, 0, none⟩))), (16, (sl R_frontier_Range).slot x2), (17, i64.slot (x2.length : Int)), (18, i64.slot s.1)]) (Hi := fun (i : Unit) (s : Int × T_frontier_Range) => [box b1 35 R_frontier_Range s.2]) (R := fun x a w => x = r → Qf a w) e7 () (fun a w hst => (hst.sub (.cons (.of_lk rfl) <| .cons (.of_lk rfl) <| .cons (.of_lk rfl) <| .cons (.of_lk rfl) <| .cons (.of_lk rfl) <| .nil)).keep (.cons .here <| .nil)) ?_ ?_ ?_
  · clear h e7
    rintro _ ⟨y1, y2⟩ lr h
    change trail_rooted_L1 x2 y1 y2 = some _ at h
    show Run _ _ _ [(2, ptrTo R_api_Hash p_root), (5, val (.pointer (some ⟨b1, 0, none⟩))), (16, (sl R_frontier_Range).slot x2), (17, i64.slot (x2.length : Int)), (18, i64.slot y1)] [box b1 35 R_frontier_Range y2]
    unfold trail_rooted_L1 at h
    refine run_seq ?_
    refine run_text ?_
    refine j_pure (pj_ilss (has_tmp rfl) (has_tmp rfl)) rfl rfl rfl ?_
    refine j_end ?_
    refine run_seq ?_
    refine run_cond (has_tmp rfl) (fun e3 => ?_) (fun e3 => ?_)
    · replace h := bt e3 h
      refine run_skip ?_
      refine run_seq ?_
      refine run_block ?_
      refine run_seq ?_
      refine run_text ?_
      obtain ⟨x3, e4, h⟩ := bind_some h
      refine j_pure (pj_index_slx (has_tmp rfl) (has_tmp rfl) isInt_i64 e4 (by kernel_rfl)) rfl rfl rfl ?_
      refine j_pure (pj_load_to (has_tmp rfl) (by kernel_rfl)) rfl rfl rfl ?_
      refine j_alloc (x := (0, 0, ([] : List T_api_Hash))) (R := R_frontier_Range) (zero_prod zero_i64 (zero_prod zero_i64 zero_sl)) (by kernel_rfl) rfl fun b2 => ?_
      refine j_store_boxx (r' := x3) (has_tmp rfl) (has_tmp rfl) .here (Path.all R_frontier_Range) (by kernel_rfl) rfl ?_
      refine j_freezeTo (t := 7) .here (.of_lk rfl) ?_
      refine j_end ?_
      refine run_seq ?_
      refine run_text ?_
      refine j_pure (pj_load_box (has_tmp rfl) .here (Path.all R_frontier_Range) (by kernel_rfl)) rfl rfl rfl ?_
      refine j_pure (pj_load_to (has_tmp rfl) (by kernel_rfl)) rfl rfl rfl ?_
      obtain ⟨r1, e5, h⟩ := bind_some h
      refine j_pure (pj_call (hasL_cons (has_tmp rfl) <| hasL_cons (has_tmp rfl) <| hasL_nil) (by kernel_rfl) (c_frontier_Join hg0 hg1 hg2 hg3 e5)) rfl rfl rfl ?_
      refine j_pure (pj_move (has_tmp rfl)) rfl rfl rfl ?_
      refine j_pure (pj_extract (has_tmp rfl) rfl) rfl rfl rfl ?_
      refine j_pure (pj_extract (has_tmp rfl) rfl) rfl rfl rfl ?_
      refine j_alloc (x := (0, 0, ([] : List T_api_Hash))) (R := R_frontier_Range) (zero_prod zero_i64 (zero_prod zero_i64 zero_sl)) (by kernel_rfl) rfl fun b3 => ?_
      refine j_store_boxx (r' := r1.1) (has_tmp rfl) (has_tmp rfl) .here (Path.all R_frontier_Range) (by kernel_rfl) rfl ?_
      refine j_freezeTo (t := 8) .here (.of_lk rfl) ?_
      refine j_pure (pj_assign (has_tmp rfl)) rfl rfl rfl ?_
      refine j_end ?_
      refine run_seq ?_
      refine run_seq ?_
      refine run_text ?_
      refine j_pure (pj_move (has_tmp rfl)) rfl rfl rfl ?_
      refine j_pure (pj_ineq (has_tmp rfl) has_i64) rfl rfl rfl ?_
      refine j_end ?_
      refine run_cond (has_tmp rfl) (fun e6 => ?_) (fun e6 => ?_)
      · replace h := bt e6 h
        refine run_seq ?_
        refine run_text ?_
        refine j_pure (pj_assign has_bl) rfl rfl rfl ?_
        refine j_end ?_
        obtain rfl := Option.some.inj h
        refine run_ret fun a w hst => ⟨rfl, fun hr => ?_⟩
        subst hr
        exact hq2 a w (q_ret1 hst rfl (.tmp rfl) () (fun _ _ h => h) (.nil))
      · replace h := bf e6 h
        refine run_skip ?_
        refine run_text ?_
        refine j_pure (pj_load_to (has_tmp rfl) (by kernel_rfl)) rfl rfl rfl ?_
        refine j_store_boxx (r' := r1.1) (has_tmp rfl) (has_tmp rfl) .here (Path.all R_frontier_Range) (by kernel_rfl) rfl ?_
        refine j_end ?_
        refine run_endblock ?_
        refine run_text ?_
        refine j_pure (pj_iadd (has_tmp rfl) has_i64) rfl rfl rfl ?_
        refine j_pure (pj_move (has_tmp rfl)) rfl rfl rfl ?_
        refine j_end ?_
        obtain rfl := Option.some.inj h
        exact run_next () (.cons (.of_lk rfl) <| .cons (.of_lk rfl) <| .cons (.of_lk rfl) <| .cons (.of_lk rfl) <| .cons (.of_lk rfl) <| .nil) (.cons .here <| .nil)
    · replace h := bf e3 h
      obtain rfl := Option.some.inj h
      exact run_brk () (.cons (.of_lk rfl) <| .cons (.of_lk rfl) <| .cons (.of_lk rfl) <| .cons (.of_lk rfl) <| .cons (.of_lk rfl) <| .nil) (.cons .here <| .nil)
  · rintro _ ⟨y3, y4⟩ ho
    subst ho
    show Run _ _ _ [(2, ptrTo R_api_Hash p_root), (5, val (.pointer (some ⟨b1, 0, none⟩))), (16, (sl R_frontier_Range).slot x2), (17, i64.slot (x2.length : Int)), (18, i64.slot y3)] [box b1 35 R_frontier_Range y4]
    refine run_to (Γ' := [(2, ptrTo R_api_Hash p_root), (5, val (.pointer (some ⟨b1, 0, none⟩)))]) (H' := [box b1 35 R_frontier_Range y4]) (.cons (.of_lk rfl) <| .cons (.of_lk rfl) <| .nil) (.cons .here <| .nil) ?_
    refine run_seq ?_
    refine run_text ?_
    refine j_pure (pj_load_box (has_tmp rfl) .here (Path.all R_frontier_Range) (by kernel_rfl)) rfl rfl rfl ?_
    obtain ⟨r2, e8, h⟩ := bind_some h
    refine j_pure (pj_call (hasL_cons (has_tmp rfl) <| hasL_nil) (by kernel_rfl) (c_frontier_Root hg0 hg1 hg2 hg3 e8)) rfl rfl rfl ?_
    refine j_pure (pj_move (has_tmp rfl)) rfl rfl rfl ?_
    refine j_pure (pj_extract (has_tmp rfl) rfl) rfl rfl rfl ?_
    refine j_pure (pj_extract (has_tmp rfl) rfl) rfl rfl rfl ?_
    refine j_alloc (x := (Vector.replicate 32 (0#8))) (R := R_api_Hash) (zero_vec 32 zero_un) (by kernel_rfl) rfl fun b4 => ?_
    refine j_store_boxx (r' := r2.1) (has_tmp rfl) (has_tmp rfl) .here (Path.all R_api_Hash) (by kernel_rfl) rfl ?_
    refine j_freezeTo (t := 10) .here (.of_lk rfl) ?_
    refine j_pure (pj_assign (has_tmp rfl)) rfl rfl rfl ?_
    refine j_end ?_
    refine run_seq ?_
    refine run_text ?_
    refine j_pure (pj_move (has_tmp rfl)) rfl rfl rfl ?_
    refine j_pure (pj_ieql (has_tmp rfl) has_i64) rfl rfl rfl ?_
    refine j_pure (pj_move (has_tmp rfl)) rfl rfl rfl ?_
    obtain ⟨y5, e10, h⟩ := bind_some h
    refine j_joinx (ι := Unit) (Γ' := fun _ => [(43, bl.slot y5)]) (H' := fun _ => []) 4 ?_ fun J => ?_
    · intro _
      clear e10
      show OpsJ _ _ _ [(43, bl.slot y5)] [] _
      refine j_pure (pj_assign (has_tmp rfl)) rfl rfl rfl ?_
      refine j_end ?_
      obtain rfl := Option.some.inj h
      exact run_ret fun a w hst => q_ret1 hst rfl (.tmp rfl) () (fun _ _ h => h) (.nil)
    · rcases bool_tf (decide (r2.2 = (0 : Int))) with e9 | e9
      · replace e10 := bt e9 e10
        refine j_pure_y (pj_load_to (has_tmp rfl) (by kernel_rfl)) rfl rfl rfl rfl (bl_isx e9) rfl rfl ?_
        refine j_pure_y (pj_load_to (has_tmp rfl) (by kernel_rfl)) rfl rfl rfl rfl (bl_isx e9) rfl rfl ?_
        refine j_pure_y (pj_eql (n := 2) (eq_vec (e := 5) (by kernel_rfl) (by kernel_rfl) (eq_un (by kernel_rfl))) (by decide) rfl (by kernel_rfl) (has_tmp rfl) (has_tmp rfl)) rfl rfl rfl rfl (bl_isx e9) rfl rfl ?_
        refine j_pure (PJ.eqv (R := bl) (pj_pick (t := any) (has_tmp rfl) (fun _ => (has_tmp rfl)) (fun he => absurd (e9.symm.trans he) (by decide))) (Option.some.inj e10)) rfl rfl rfl ?_
        exact j_to (.cons (.of_lk rfl) <| .nil) (.nil) (J ())
      · replace e10 := bf e9 e10
        refine j_guard_no2 (j := 2) (want := true) rfl rfl rfl rfl (bl_isx e9) rfl rfl rfl ?_
        refine j_guard_no2 (j := 2) (want := true) rfl rfl rfl rfl (bl_isx e9) rfl rfl rfl ?_
        refine j_guard_no2 (j := 2) (want := true) rfl rfl rfl rfl (bl_isx e9) rfl rfl rfl ?_
        refine j_pure (PJ.eqv (R := bl) (pj_pick (t := any) (has_tmp rfl) (fun he => absurd (e9.symm.trans he) (by decide)) (fun _ => has_bl)) (Option.some.inj e10)) rfl rfl rfl ?_
        exact j_to (.cons (.of_lk rfl) <| .nil) (.nil) (J ())
  · intro x a w ho hR
    subst ho
    exact hq1 a w (hR (Option.some.inj h))
set_option maxRecDepth 100000 in
set_option maxHeartbeats 4000000 in
theorem c_trail_IsEntry {G : GP} (hg0 : HG0 G) (hg1 : HG1 G) (hg2 : HG2 G) (hg3 : HG3 G) {p_t : T_trail_Trail} {p_i : Int} {p_n : Int} {p_h : T_api_Hash} {p_root : T_api_Hash} {r : Bool} (h : trail_IsEntry p_t p_i p_n p_h p_root = some r) : Ctr Tryd.prog G 38 [R_trail_Trail.slot p_t, i64.slot p_i, i64.slot p_n, R_api_Hash.slot p_h, R_api_Hash.slot p_root] [] (fun (_ : Unit) => bl.slot r) (fun (_ : Unit) => []) := by
  unfold trail_IsEntry at h
  refine ctr_of_run Tryd.func38 rfl 47 rfl rfl fun m0 w0 b0 => ?_
  show Run _ _ _ [(0, R_trail_Trail.slot p_t), (1, i64.slot p_i), (2, i64.slot p_n), (3, R_api_Hash.slot p_h), (4, R_api_Hash.slot p_root)] _
  refine run_seq ?_
  refine run_text ?_
  refine j_pure (pj_box_to (has_tmp rfl)) rfl rfl rfl ?_
  refine j_pure (pj_box_to (has_tmp rfl)) rfl rfl rfl ?_
  refine j_pure (pj_box_to (has_tmp rfl)) rfl rfl rfl ?_
  refine j_pure (pj_assign has_bl) rfl rfl rfl ?_
  refine j_end ?_
  refine run_seq ?_
  refine run_seq ?_
  refine run_text ?_
  refine j_pure (pj_move (has_tmp rfl)) rfl rfl rfl ?_
  refine j_pure (pj_ilss (has_tmp rfl) has_i64) rfl rfl rfl ?_
  refine j_pure (pj_move (has_tmp rfl)) rfl rfl rfl ?_
  obtain ⟨y1, e2, h⟩ := bind_some h
  refine j_joinx (ι := Unit) (Γ' := fun _ => [(1, i64.slot p_i), (2, i64.slot p_n), (5, ptrTo R_trail_Trail p_t), (8, ptrTo R_api_Hash p_h), (9, ptrTo R_api_Hash p_root), (20, bl.slot y1)]) (H' := fun _ => []) 4 ?_ fun J => ?_
  · intro _
    clear e2
    show OpsJ _ _ _ [(1, i64.slot p_i), (2, i64.slot p_n), (5, ptrTo R_trail_Trail p_t), (8, ptrTo R_api_Hash p_h), (9, ptrTo R_api_Hash p_root), (20, bl.slot y1)] [] _
    refine j_pure (pj_move (has_tmp rfl)) rfl rfl rfl ?_
    obtain ⟨y2, e4, h⟩ := bind_some h
    refine j_joinx (ι := Unit) (Γ' := fun _ => [(1, i64.slot p_i), (2, i64.slot p_n), (5, ptrTo R_trail_Trail p_t), (8, ptrTo R_api_Hash p_h), (9, ptrTo R_api_Hash p_root), (24, bl.slot y2)]) (H' := fun _ => []) 3 ?_ fun J => ?_
    · intro _
      clear e4
      show OpsJ _ _ _ [(1, i64.slot p_i), (2, i64.slot p_n), (5, ptrTo R_trail_Trail p_t), (8, ptrTo R_api_Hash p_h), (9, ptrTo R_api_Hash p_root), (24, bl.slot y2)] [] _
      refine j_end ?_
      refine run_cond (has_tmp rfl) (fun e5 => ?_) (fun e5 => ?_)
      · replace h := bt e5 h
        refine run_seq ?_
        refine run_text ?_
        refine j_pure (pj_assign has_bl) rfl rfl rfl ?_
        refine j_end ?_
        obtain rfl := Option.some.inj h
        exact run_ret fun a w hst => q_ret1 hst rfl (.tmp rfl) () (fun _ _ h => h) (.nil)
      · replace h := bf e5 h
        refine run_skip ?_
        refine run_seq ?_
        refine run_text ?_
        refine j_pure (pj_move (has_tmp rfl)) rfl rfl rfl ?_
        refine j_pure (pj_field_to (has_tmp rfl) (Path.fst (sl R_api_Hash) (sl R_api_Hash)) (by kernel_rfl)) rfl rfl rfl ?_
        refine j_pure (pj_load_to (has_tmp rfl) (by kernel_rfl)) rfl rfl rfl ?_
        obtain ⟨x1, e6, h⟩ := bind_some h
        refine j_pure (PJ.eqv (pj_build (R := R_frontier_Range) (zero_prod zero_i64 (zero_prod zero_i64 zero_sl)) (by kernel_rfl) (by kernel_rfl) rfl (.cons (has_tmp rfl) (Path.then (Path.snd i64 (prod i64 (sl R_api_Hash))) (Path.fst i64 (sl R_api_Hash))) (by kernel_rfl) (.cons (has_tmp rfl) (Path.then (Path.snd i64 (prod i64 (sl R_api_Hash))) (Path.snd i64 (sl R_api_Hash))) (by kernel_rfl) .nil))) (Option.some.inj e6)) rfl rfl rfl ?_
        refine j_alloc (x := (0, 0, ([] : List T_api_Hash))) (R := R_frontier_Range) (zero_prod zero_i64 (zero_prod zero_i64 zero_sl)) (by kernel_rfl) rfl fun b1 => ?_
        refine j_store_boxx (r' := x1) (has_tmp rfl) (has_tmp rfl) .here (Path.all R_frontier_Range) (by kernel_rfl) rfl ?_
        refine j_freezeTo (t := 11) .here (.of_lk rfl) ?_
        refine j_end ?_
        refine run_seq ?_
        refine run_text ?_
        refine j_pure (pj_move (has_tmp rfl)) rfl rfl rfl ?_
        refine j_pure (pj_move (has_tmp rfl)) rfl rfl rfl ?_
        refine j_pure (pj_iadd (has_tmp rfl) has_i64) rfl rfl rfl ?_
        refine j_pure (pj_load_to (has_tmp rfl) (by kernel_rfl)) rfl rfl rfl ?_
        refine j_pure (pj_buildSlice (T := 24) (R := R_api_Hash) (.cons (has_tmp rfl) .nil) rfl (by kernel_rfl) (by kernel_rfl)) rfl rfl rfl ?_
        obtain ⟨x2, e7, h⟩ := bind_some h
        refine j_pure (PJ.eqv (pj_build (R := R_frontier_Range) (zero_prod zero_i64 (zero_prod zero_i64 zero_sl)) (by kernel_rfl) (by kernel_rfl) rfl (.cons (has_tmp rfl) (Path.fst i64 (prod i64 (sl R_api_Hash))) (by kernel_rfl) (.cons (has_tmp rfl) (Path.then (Path.snd i64 (prod i64 (sl R_api_Hash))) (Path.fst i64 (sl R_api_Hash))) (by kernel_rfl) (.cons (has_tmp rfl) (Path.then (Path.snd i64 (prod i64 (sl R_api_Hash))) (Path.snd i64 (sl R_api_Hash))) (by kernel_rfl) .nil)))) (Option.some.inj e7)) rfl rfl rfl ?_
        refine j_alloc (x := (0, 0, ([] : List T_api_Hash))) (R := R_frontier_Range) (zero_prod zero_i64 (zero_prod zero_i64 zero_sl)) (by kernel_rfl) rfl fun b2 => ?_
        refine j_store_boxx (r' := x2) (has_tmp rfl) (has_tmp rfl) .here (Path.all R_frontier_Range) (by kernel_rfl) rfl ?_
        refine j_freezeTo (t := 12) .here (.of_lk rfl) ?_
        refine j_end ?_
        refine run_seq ?_
        refine run_text ?_
        refine j_pure (pj_move (has_tmp rfl)) rfl rfl rfl ?_
        refine j_pure (pj_iadd (has_tmp rfl) has_i64) rfl rfl rfl ?_
        refine j_pure (pj_move (has_tmp rfl)) rfl rfl rfl ?_
        refine j_pure (pj_field_to (has_tmp rfl) (Path.snd (sl R_api_Hash) (sl R_api_Hash)) (by kernel_rfl)) rfl rfl rfl ?_
        refine j_pure (pj_load_to (has_tmp rfl) (by kernel_rfl)) rfl rfl rfl ?_
        obtain ⟨x3, e8, h⟩ := bind_some h
        refine j_pure (PJ.eqv (pj_build (R := R_frontier_Range) (zero_prod zero_i64 (zero_prod zero_i64 zero_sl)) (by kernel_rfl) (by kernel_rfl) rfl (.cons (has_tmp rfl) (Path.fst i64 (prod i64 (sl R_api_Hash))) (by kernel_rfl) (.cons (has_tmp rfl) (Path.then (Path.snd i64 (prod i64 (sl R_api_Hash))) (Path.fst i64 (sl R_api_Hash))) (by kernel_rfl) (.cons (has_tmp rfl) (Path.then (Path.snd i64 (prod i64 (sl R_api_Hash))) (Path.snd i64 (sl R_api_Hash))) (by kernel_rfl) .nil)))) (Option.some.inj e8)) rfl rfl rfl ?_
        refine j_alloc (x := (0, 0, ([] : List T_api_Hash))) (R := R_frontier_Range) (zero_prod zero_i64 (zero_prod zero_i64 zero_sl)) (by kernel_rfl) rfl fun b3 => ?_
        refine j_store_boxx (r' := x3) (has_tmp rfl) (has_tmp rfl) .here (Path.all R_frontier_Range) (by kernel_rfl) rfl ?_
        refine j_freezeTo (t := 13) .here (.of_lk rfl) ?_
        refine j_end ?_
        refine run_seq ?_
        refine run_text ?_
        refine j_pure (pj_load_to (has_tmp rfl) (by kernel_rfl)) rfl rfl rfl ?_
        refine j_pure (pj_load_to (has_tmp rfl) (by kernel_rfl)) rfl rfl rfl ?_
        refine j_pure (pj_load_to (has_tmp rfl) (by kernel_rfl)) rfl rfl rfl ?_
        refine j_pure (pj_load_to (has_tmp rfl) (by kernel_rfl)) rfl rfl rfl ?_
        refine j_pure (pj_buildSlice (T := 35) (R := R_frontier_Range) (.cons (has_tmp rfl) (.cons (has_tmp rfl) (.cons (has_tmp rfl) .nil))) rfl (by kernel_rfl) (by kernel_rfl)) rfl rfl rfl ?_
        obtain ⟨r1, e9, h⟩ := bind_some h
        refine j_pure (pj_call (hasL_cons (has_tmp rfl) <| hasL_cons (has_tmp rfl) <| hasL_nil) (by kernel_rfl) (c_trail_rooted hg0 hg1 hg2 hg3 e9)) rfl rfl rfl ?_
        refine j_pure (pj_assign (has_tmp rfl)) rfl rfl rfl ?_
        refine j_end ?_
        obtain rfl := Option.some.inj h
        exact run_ret fun a w hst => q_ret1 hst rfl (.tmp rfl) () (fun _ _ h => h) (.nil)
    · rcases bool_tf (y1) with e3 | e3
      · replace e4 := bt e3 e4
        refine j_guard_no2 (j := 7) (want := false) rfl rfl rfl rfl (bl_isx e3) rfl rfl rfl ?_
        refine j_guard_no2 (j := 7) (want := false) rfl rfl rfl rfl (bl_isx e3) rfl rfl rfl ?_
        refine j_pure (PJ.eqv (R := bl) (pj_pick (t := any) (has_tmp rfl) (fun _ => has_bl) (fun he => absurd (e3.symm.trans he) (by decide))) (Option.some.inj e4)) rfl rfl rfl ?_
        exact j_to (.cons (.of_lk rfl) <| .cons (.of_lk rfl) <| .cons (.of_lk rfl) <| .cons (.of_lk rfl) <| .cons (.of_lk rfl) <| .cons (.of_lk rfl) <| .nil) (.nil) (J ())
      · replace e4 := bf e3 e4
        refine j_pure_y (pj_move (has_tmp rfl)) rfl rfl rfl rfl (bl_isx e3) rfl rfl ?_
        refine j_pure_y (pj_igtr (has_tmp rfl) has_i64) rfl rfl rfl rfl (bl_isx e3) rfl rfl ?_
        refine j_pure (PJ.eqv (R := bl) (pj_pick (t := any) (has_tmp rfl) (fun he => absurd (e3.symm.trans he) (by decide)) (fun _ => (has_tmp rfl))) (Option.some.inj e4)) rfl rfl rfl ?_
        exact j_to (.cons (.of_lk rfl) <| .cons (.of_lk rfl) <| .cons (.of_lk rfl) <| .cons (.of_lk rfl) <| .cons (.of_lk rfl) <| .cons (.of_lk rfl) <| .nil) (.nil) (J ())
  · rcases bool_tf (decide (p_i < (0 : Int))) with e1 | e1
    · replace e2 := bt e1 e2
      refine j_guard_no2 (j := 2) (want := false) rfl rfl rfl rfl (bl_isx e1) rfl rfl rfl ?_
      refine j_guard_no2 (j := 2) (want := false) rfl rfl rfl rfl (bl_isx e1) rfl rfl rfl ?_
      refine j_guard_no2 (j := 2) (want := false) rfl rfl rfl rfl (bl_isx e1) rfl rfl rfl ?_
      refine j_pure (PJ.eqv (R := bl) (pj_pick (t := any) (has_tmp rfl) (fun _ => has_bl) (fun he => absurd (e1.symm.trans he) (by decide))) (Option.some.inj e2)) rfl rfl rfl ?_
      exact j_to (.cons (.of_lk rfl) <| .cons (.of_lk rfl) <| .cons (.of_lk rfl) <| .cons (.of_lk rfl) <| .cons (.of_lk rfl) <| .cons (.of_lk rfl) <| .nil) (.nil) (J ())
    · replace e2 := bf e1 e2
      refine j_pure_y (pj_move (has_tmp rfl)) rfl rfl rfl rfl (bl_isx e1) rfl rfl ?_
      refine j_pure_y (pj_move (has_tmp rfl)) rfl rfl rfl rfl (bl_isx e1) rfl rfl ?_
      refine j_pure_y (pj_igeq (has_tmp rfl) (has_tmp rfl)) rfl rfl rfl rfl (bl_isx e1) rfl rfl ?_
      refine j_pure (PJ.eqv (R := bl) (pj_pick (t := any) (has_tmp rfl) (fun he => absurd (e1.symm.trans he) (by decide)) (fun _ => (has_tmp rfl))) (Option.some.inj e2)) rfl rfl rfl ?_
      exact j_to (.cons (.of_lk rfl) <| .cons (.of_lk rfl) <| .cons (.of_lk rfl) <| .cons (.of_lk rfl) <| .cons (.of_lk rfl) <| .cons (.of_lk rfl) <| .nil) (.nil) (J ())
set_option maxRecDepth 100000 in
set_option maxHeartbeats 4000000 in
theorem c_rolodexlaw16_awake {G : GP} (hg0 : HG0 G) (hg1 : HG1 G) (hg2 : HG2 G) (hg3 : HG3 G) {r : Bool} (h : rolodexlaw16_awake = some r) : Ctr Tryd.prog G 36 [] [] (fun (_ : Unit) => bl.slot r) (fun (_ : Unit) => []) := by
  unfold rolodexlaw16_awake at h
  refine ctr_of_run Tryd.func36 rfl 5 rfl rfl fun m0 w0 b0 => ?_
  show Run _ _ _ [] _
  refine run_seq ?_
  refine run_text ?_
  refine j_pure (pj_assign has_bl) rfl rfl rfl ?_
  refine j_end ?_
  refine run_seq ?_
  refine run_text ?_
  refine j_pure (pj_build (R := R_trail_Trail) (zero_prod zero_sl zero_sl) (by kernel_rfl) (by kernel_rfl) rfl .nil) rfl rfl rfl ?_
  obtain ⟨x1, e1, h⟩ := bind_some h
  refine j_pure (PJ.eqv (pj_build (R := R_api_Hash) (zero_vec 32 zero_un) (by kernel_rfl) (by kernel_rfl) rfl (.cons (has_un (x := 5#8) rfl) (Path.at 32 u8 0 (by decide)) (by kernel_rfl) .nil)) (Option.some.inj e1)) rfl rfl rfl ?_
  obtain ⟨x2, e2, h⟩ := bind_some h
  refine j_pure (PJ.eqv (pj_build (R := R_api_Hash) (zero_vec 32 zero_un) (by kernel_rfl) (by kernel_rfl) rfl (.cons (has_un (x := 5#8) rfl) (Path.at 32 u8 0 (by decide)) (by kernel_rfl) .nil)) (Option.some.inj e2)) rfl rfl rfl ?_
  obtain ⟨r1, e3, h⟩ := bind_some h
  refine j_pure (pj_call (hasL_cons (has_tmp rfl) <| hasL_cons has_i64 <| hasL_cons has_i64 <| hasL_cons (has_tmp rfl) <| hasL_cons (has_tmp rfl) <| hasL_nil) (by kernel_rfl) (c_trail_IsEntry hg0 hg1 hg2 hg3 e3)) rfl rfl rfl ?_
  refine j_pure (pj_assign (has_tmp rfl)) rfl rfl rfl ?_
  refine j_end ?_
  obtain rfl := Option.some.inj h
  exact run_ret fun a w hst => q_ret1 hst rfl (.tmp rfl) () (fun _ _ h => h) (.nil)
set_option maxRecDepth 100000 in
set_option maxHeartbeats 4000000 in
theorem c_rolodexlaw16_few {G : GP} {p_t : T_rolodexref16_Trail} {r : Bool} (h : rolodexlaw16_few p_t = some r) : Ctr Tryd.prog G 37 [R_rolodexref16_Trail.slot p_t] [] (fun (_ : Unit) => bl.slot r) (fun (_ : Unit) => []) := by
  unfold rolodexlaw16_few at h
  refine ctr_of_run Tryd.func37 rfl 13 rfl rfl fun m0 w0 b0 => ?_
  show Run _ _ _ [(0, R_rolodexref16_Trail.slot p_t)] _
  refine run_seq ?_
  refine run_text ?_
  refine j_pure (pj_box_to (has_tmp rfl)) rfl rfl rfl ?_
  refine j_pure (pj_assign has_bl) rfl rfl rfl ?_
  refine j_end ?_
  refine run_seq ?_
  refine run_text ?_
  refine j_pure (pj_field_to (has_tmp rfl) (Path.fst (sl R_api_Hash) (sl R_api_Hash)) (by kernel_rfl)) rfl rfl rfl ?_
  refine j_pure (pj_load_to (has_tmp rfl) (by kernel_rfl)) rfl rfl rfl ?_
  refine j_pure (pj_len_sl (sz := 32) (has_tmp rfl) (by kernel_rfl)) rfl rfl rfl ?_
  refine j_pure (pj_ileq (has_tmp rfl) has_i64) rfl rfl rfl ?_
  refine j_pure (pj_move (has_tmp rfl)) rfl rfl rfl ?_
  obtain ⟨y1, e2, h⟩ := bind_some h
  refine j_joinx (ι := Unit) (Γ' := fun _ => [(12, bl.slot y1)]) (H' := fun _ => []) 5 ?_ fun J => ?_
  · intro _
    clear e2
    show OpsJ _ _ _ [(12, bl.slot y1)] [] _
    refine j_pure (pj_assign (has_tmp rfl)) rfl rfl rfl ?_
    refine j_end ?_
    obtain rfl := Option.some.inj h
    exact run_ret fun a w hst => q_ret1 hst rfl (.tmp rfl) () (fun _ _ h => h) (.nil)
  · rcases bool_tf (decide ((p_t.1.length : Int) ≤ (70 : Int))) with e1 | e1
    · replace e2 := bt e1 e2
      refine j_pure_y (pj_field_to (has_tmp rfl) (Path.snd (sl R_api_Hash) (sl R_api_Hash)) (by kernel_rfl)) rfl rfl rfl rfl (bl_isx e1) rfl rfl ?_
      refine j_pure_y (pj_load_to (has_tmp rfl) (by kernel_rfl)) rfl rfl rfl rfl (bl_isx e1) rfl rfl ?_
      refine j_pure_y (pj_len_sl (sz := 32) (has_tmp rfl) (by kernel_rfl)) rfl rfl rfl rfl (bl_isx e1) rfl rfl ?_
      refine j_pure_y (pj_ileq (has_tmp rfl) has_i64) rfl rfl rfl rfl (bl_isx e1) rfl rfl ?_
      refine j_pure (PJ.eqv (R := bl) (pj_pick (t := any) (has_tmp rfl) (fun _ => (has_tmp rfl)) (fun he => absurd (e1.symm.trans he) (by decide))) (Option.some.inj e2)) rfl rfl rfl ?_
      exact j_to (.cons (.of_lk rfl) <| .nil) (.nil) (J ())
    · replace e2 := bf e1 e2
      refine j_guard_no2 (j := 4) (want := true) rfl rfl rfl rfl (bl_isx e1) rfl rfl rfl ?_
      refine j_guard_no2 (j := 4) (want := true) rfl rfl rfl rfl (bl_isx e1) rfl rfl rfl ?_
      refine j_guard_no2 (j := 4) (want := true) rfl rfl rfl rfl (bl_isx e1) rfl rfl rfl ?_
      refine j_guard_no2 (j := 4) (want := true) rfl rfl rfl rfl (bl_isx e1) rfl rfl rfl ?_
      refine j_pure (PJ.eqv (R := bl) (pj_pick (t := any) (has_tmp rfl) (fun he => absurd (e1.symm.trans he) (by decide)) (fun _ => has_bl)) (Option.some.inj e2)) rfl rfl rfl ?_
      exact j_to (.cons (.of_lk rfl) <| .nil) (.nil) (J ())
set_option maxRecDepth 100000 in
set_option maxHeartbeats 4000000 in
theorem c_rolodexref15_First {G : GP} {p_from : Int} {p_sizes : List Int} {r : Int} (h : rolodexref15_First p_from p_sizes = some r) : Ctr Tryd.prog G 60 [i64.slot p_from, (sl i64).slot p_sizes] [] (fun (_ : Unit) => i64.slot r) (fun (_ : Unit) => []) := by
  unfold rolodexref15_First at h
  refine ctr_of_run Tryd.func60 rfl 40 rfl rfl fun m0 w0 b0 => ?_
  refine run_ret0 fun Qf hq1 hq2 => ?_
  show Run _ _ _ [(0, i64.slot p_from), (1, (sl i64).slot p_sizes)] _
  refine run_seq ?_
  refine run_text ?_
  refine j_pure (pj_assign has_i64) rfl rfl rfl ?_
  refine j_end ?_
  refine run_seq ?_
  refine run_seq ?_
  refine run_text ?_
  refine j_pure (pj_assign has_i64) rfl rfl rfl ?_
  refine j_end ?_
  obtain ⟨o, e10, h⟩ := bind_some h
  refine run_loop (Γi := fun (i : Unit) (s : Int × Int) => [(0, i64.slot s.1), (1, (sl i64).slot p_sizes), (5, i64.slot s.2)]) (Hi := fun (i : Unit) (s : Int × Int) => []) (R := fun x a w => x = r → Qf a w) e10 () (fun a w hst => (hst.sub (.cons (.of_lk rfl) <| .cons (.of_lk rfl) <| .cons (.of_lk rfl) <| .nil)).keep (.nil)) ?_ ?_ ?_
  · clear h e10
    rintro _ ⟨y1, y2⟩ lr h
    change rolodexref15_First_L1 p_sizes y1 y2 = some _ at h
    show Run _ _ _ [(0, i64.slot y1), (1, (sl i64).slot p_sizes), (5, i64.slot y2)] []
    unfold rolodexref15_First_L1 at h
    refine run_seq ?_
    refine run_seq ?_
    refine run_text ?_
    refine j_pure (pj_move (has_tmp rfl)) rfl rfl rfl ?_
    refine j_pure (pj_iadd (has_tmp rfl) has_i64) rfl rfl rfl ?_
    refine j_pure (pj_move (has_tmp rfl)) rfl rfl rfl ?_
    refine j_pure (pj_len_sl (sz := 1) (has_tmp rfl) (by kernel_rfl)) rfl rfl rfl ?_
    refine j_pure (pj_ilss (has_tmp rfl) (has_tmp rfl)) rfl rfl rfl ?_
    refine j_end ?_
    refine run_cond (has_tmp rfl) (fun e1 => ?_) (fun e1 => ?_)
    · replace h := bt e1 h
      refine run_skip ?_
      refine run_seq ?_
      refine run_block ?_
      refine run_seq ?_
      refine run_seq ?_
      obtain ⟨x1, e2, h⟩ := bind_some h
      obtain ⟨x2, e3, h⟩ := bind_some h
      obtain ⟨y3, e5, h⟩ := bind_some h
      refine (run_drawJ (n := 20) (Γ' := [(0, i64.slot y1), (1, (sl i64).slot p_sizes), (5, i64.slot y2), (32, bl.slot y3)]) (H' := []) ?_ fun J => ?_)
      · clear e5
        refine j_end ?_
        refine run_cond (has_tmp rfl) (fun e8 => ?_) (fun e8 => ?_)
        · replace h := bt e8 h
          refine run_seq ?_
          refine run_text ?_
          refine j_pure (pj_move (has_tmp rfl)) rfl rfl rfl ?_
          refine j_pure (pj_assign (has_tmp rfl)) rfl rfl rfl ?_
          refine j_end ?_
          obtain rfl := Option.some.inj h
          refine run_ret fun a w hst => ⟨rfl, fun hr => ?_⟩
          subst hr
          exact hq2 a w (q_ret1 hst rfl (.tmp rfl) () (fun _ _ h => h) (.nil))
        · replace h := bf e8 h
          refine run_skip ?_
          refine run_text ?_
          refine j_pure (pj_move (has_tmp rfl)) rfl rfl rfl ?_
          refine j_pure (pj_move (has_tmp rfl)) rfl rfl rfl ?_
          refine j_pure (pj_move (has_tmp rfl)) rfl rfl rfl ?_
          obtain ⟨x4, e9, h⟩ := bind_some h
          refine j_pure (pj_index_slx (has_tmp rfl) (has_tmp rfl) isInt_i64 e9 (by kernel_rfl)) rfl rfl rfl ?_
          refine j_pure (pj_load_to (has_tmp rfl) (by kernel_rfl)) rfl rfl rfl ?_
          refine j_pure (pj_iadd (has_tmp rfl) (has_tmp rfl)) rfl rfl rfl ?_
          refine j_pure (pj_assign (has_tmp rfl)) rfl rfl rfl ?_
          refine j_end ?_
          refine run_endblock ?_
          refine run_text ?_
          refine j_pure (pj_move (has_tmp rfl)) rfl rfl rfl ?_
          refine j_pure (pj_iadd (has_tmp rfl) has_i64) rfl rfl rfl ?_
          refine j_pure (pj_assign (has_tmp rfl)) rfl rfl rfl ?_
          refine j_end ?_
          obtain rfl := Option.some.inj h
          exact run_next () (.cons (.of_lk rfl) <| .cons (.of_lk rfl) <| .cons (.of_lk rfl) <| .nil) (.nil)
      · rcases bool_tf (decide (x1 = x2)) with e4 | e4
        · replace e5 := bt e4 e5
          obtain ⟨x3, e6, e5⟩ := bind_some e5
          obtain ⟨e7, e5⟩ := grd_some e5
          exact run_draw (n := 20) (by kernel_rfl) (by kernel_rfl) (by kernel_rfl) (by kernel_rfl) (.read (.plain rfl (pj_move (has_tmp rfl))) <| .read (.plain rfl (pj_move (has_tmp rfl))) <| .read (.plain rfl (pj_index_slx (has_tmp rfl) (has_tmp rfl) isInt_i64 e2 (by kernel_rfl))) <| .read (.plain rfl (pj_load_to (has_tmp rfl) (by kernel_rfl))) <| .read (.plain rfl (pj_move (has_tmp rfl))) <| .read (.plain rfl (pj_move (has_tmp rfl))) <| .read (.plain rfl (pj_iadd (has_tmp rfl) has_i64)) <| .read (.plain rfl (pj_index_slx (has_tmp rfl) (has_tmp rfl) isInt_i64 e3 (by kernel_rfl))) <| .read (.plain rfl (pj_load_to (has_tmp rfl) (by kernel_rfl))) <| .read (.plain rfl (pj_ieql (has_tmp rfl) (has_tmp rfl))) <| .read (.plain rfl (pj_move (has_tmp rfl))) <| .read (.yes ⟨10, true, _, 23, _, rfl, rfl, rfl, fun _ _ => bl_p.1, gd_yes e4⟩ (pj_move (has_tmp rfl))) <| .read (.yes ⟨10, true, _, 23, _, rfl, rfl, rfl, fun _ _ => bl_p.1, gd_yes e4⟩ (pj_move (has_tmp rfl))) <| .read (.yes ⟨10, true, _, 23, _, rfl, rfl, rfl, fun _ _ => bl_p.1, gd_yes e4⟩ (pj_move (has_tmp rfl))) <| .read (.yes ⟨10, true, _, 23, _, rfl, rfl, rfl, fun _ _ => bl_p.1, gd_yes e4⟩ (pj_index_slx (has_tmp rfl) (has_tmp rfl) isInt_i64 e6 (by kernel_rfl))) <| .read (.yes ⟨10, true, _, 23, _, rfl, rfl, rfl, fun _ _ => bl_p.1, gd_yes e4⟩ (pj_load_to (has_tmp rfl) (by kernel_rfl))) <| .read (.yes ⟨10, true, _, 23, _, rfl, rfl, rfl, fun _ _ => bl_p.1, gd_yes e4⟩ (pj_imul has_i64 (has_tmp rfl))) <| .read (.yes ⟨10, true, _, 23, _, rfl, rfl, rfl, fun _ _ => bl_p.1, gd_yes e4⟩ (pj_irem (has_tmp rfl) (has_tmp rfl) e7)) <| .read (.yes ⟨10, true, _, 23, _, rfl, rfl, rfl, fun _ _ => bl_p.1, gd_yes e4⟩ (pj_ieql (has_tmp rfl) has_i64)) <| .read (.plain rfl (PJ.eqv (R := bl) (pj_pick (t := any) (has_tmp rfl) (fun _ => (has_tmp rfl)) (fun he => absurd (e4.symm.trans he) (by decide))) (Option.some.inj e5))) <| .nil) (j_to (Γ' := [(0, i64.slot y1), (1, (sl i64).slot p_sizes), (5, i64.slot y2), (32, bl.slot y3)]) (H' := []) (.cons (.of_lk rfl) <| .cons (.of_lk rfl) <| .cons (.of_lk rfl) <| .cons (.of_lk rfl) <| .nil) (.nil) J)
        · replace e5 := bf e4 e5
          exact run_draw (n := 20) (by kernel_rfl) (by kernel_rfl) (by kernel_rfl) (by kernel_rfl) (.read (.plain rfl (pj_move (has_tmp rfl))) <| .read (.plain rfl (pj_move (has_tmp rfl))) <| .read (.plain rfl (pj_index_slx (has_tmp rfl) (has_tmp rfl) isInt_i64 e2 (by kernel_rfl))) <| .read (.plain rfl (pj_load_to (has_tmp rfl) (by kernel_rfl))) <| .read (.plain rfl (pj_move (has_tmp rfl))) <| .read (.plain rfl (pj_move (has_tmp rfl))) <| .read (.plain rfl (pj_iadd (has_tmp rfl) has_i64)) <| .read (.plain rfl (pj_index_slx (has_tmp rfl) (has_tmp rfl) isInt_i64 e3 (by kernel_rfl))) <| .read (.plain rfl (pj_load_to (has_tmp rfl) (by kernel_rfl))) <| .read (.plain rfl (pj_ieql (has_tmp rfl) (has_tmp rfl))) <| .read (.plain rfl (pj_move (has_tmp rfl))) <| .read (.no ⟨10, true, _, 23, _, rfl, rfl, rfl, fun _ _ => bl_p.1, gd_no e4⟩) <| .read (.no ⟨10, true, _, 23, _, rfl, rfl, rfl, fun _ _ => bl_p.1, gd_no e4⟩) <| .read (.no ⟨10, true, _, 23, _, rfl, rfl, rfl, fun _ _ => bl_p.1, gd_no e4⟩) <| .read (.no ⟨10, true, _, 23, _, rfl, rfl, rfl, fun _ _ => bl_p.1, gd_no e4⟩) <| .read (.no ⟨10, true, _, 23, _, rfl, rfl, rfl, fun _ _ => bl_p.1, gd_no e4⟩) <| .read (.no ⟨10, true, _, 23, _, rfl, rfl, rfl, fun _ _ => bl_p.1, gd_no e4⟩) <| .read (.no ⟨10, true, _, 23, _, rfl, rfl, rfl, fun _ _ => bl_p.1, gd_no e4⟩) <| .read (.no ⟨10, true, _, 23, _, rfl, rfl, rfl, fun _ _ => bl_p.1, gd_no e4⟩) <| .read (.plain rfl (PJ.eqv (R := bl) (pj_pick (t := any) (has_tmp rfl) (fun he => absurd (e4.symm.trans he) (by decide)) (fun _ => has_bl)) (Option.some.inj e5))) <| .nil) (j_to (Γ' := [(0, i64.slot y1), (1, (sl i64).slot p_sizes), (5, i64.slot y2), (32, bl.slot y3)]) (H' := []) (.cons (.of_lk rfl) <| .cons (.of_lk rfl) <| .cons (.of_lk rfl) <| .cons (.of_lk rfl) <| .nil) (.nil) J)
    · replace h := bf e1 h
      obtain rfl := Option.some.inj h
      exact run_brk () (.cons (.of_lk rfl) <| .cons (.of_lk rfl) <| .cons (.of_lk rfl) <| .nil) (.nil)
  · rintro _ ⟨y4, y5⟩ ho
    subst ho
    show Run _ _ _ [(0, i64.slot y4), (1, (sl i64).slot p_sizes), (5, i64.slot y5)] []
    refine run_to (Γ' := []) (H' := []) (.nil) (.nil) ?_
    refine run_seq ?_
    refine run_text ?_
    refine j_pure (pj_assign has_i64) rfl rfl rfl ?_
    refine j_end ?_
    obtain rfl := Option.some.inj h
    exact run_ret fun a w hst => q_ret1 hst rfl (.tmp rfl) () (fun _ _ h => h) (.nil)
  · intro x a w ho hR
    subst ho
    exact hq1 a w (hR (Option.some.inj h))
set_option maxRecDepth 100000 in
set_option maxHeartbeats 4000000 in
theorem c_rolodexref15_Made {G : GP} {p_sizes : List Int} {p_l : List T_api_Hash} {p_i : Int} {r : (List Int) × (List T_api_Hash)} (h : rolodexref15_Made p_sizes p_l p_i = some r) : Ctr Tryd.prog G 61 [(sl i64).slot p_sizes, (sl R_api_Hash).slot p_l, i64.slot p_i] [] (fun (i : Value × Value) => tup [ov i.1, ov i.2]) (fun (i : Value × Value) => [own 3 i64 i.1 r.1, own 24 R_api_Hash i.2 r.2]) := by
  unfold rolodexref15_Made at h
  refine ctr_of_run Tryd.func61 rfl 55 rfl rfl fun m0 w0 b0 => ?_
  show Run _ _ _ [(0, (sl i64).slot p_sizes), (1, (sl R_api_Hash).slot p_l), (2, i64.slot p_i)] _
  refine run_seq ?_
  refine run_text ?_
  refine j_assign_nil (T := 3) i64 rfl fun v1 => ?_
  refine j_assign_nil (T := 24) R_api_Hash rfl fun v2 => ?_
  refine j_end ?_
  refine run_seq ?_
  refine run_text ?_
  refine j_assign_nil (T := 3) i64 rfl fun v3 => ?_
  refine j_end ?_
  refine run_seq ?_
  refine run_text ?_
  refine j_assign_nil (T := 24) R_api_Hash rfl fun v4 => ?_
  refine j_end ?_
  refine run_seq ?_
  refine run_text ?_
  refine j_pure (pj_move (has_tmp rfl)) rfl rfl rfl ?_
  refine j_pure (pj_move (has_tmp rfl)) rfl rfl rfl ?_
  refine j_pure (pj_move (has_tmp rfl)) rfl rfl rfl ?_
  obtain ⟨x1, e1, h⟩ := bind_some h
  refine j_pure (pj_slice_slx (has_tmp rfl) .no (.yes (has_tmp rfl) isInt_i64) e1 (by kernel_rfl)) rfl rfl rfl ?_
  obtain ⟨e2, h⟩ := grd_some h
  refine j_append (T := 3) (E := 3) (has_tmp rfl) (.next .here) (src_data (has_tmp rfl)) (by kernel_rfl) (by kernel_rfl) e2 rfl fun v5 => ?_
  refine j_pure (pj_assign (has_tmp rfl)) rfl rfl rfl ?_
  refine j_end ?_
  refine run_seq ?_
  refine run_text ?_
  refine j_pure (pj_move (has_tmp rfl)) rfl rfl rfl ?_
  refine j_pure (pj_move (has_tmp rfl)) rfl rfl rfl ?_
  refine j_pure (pj_move (has_tmp rfl)) rfl rfl rfl ?_
  obtain ⟨x2, e3, h⟩ := bind_some h
  refine j_pure (pj_index_slx (has_tmp rfl) (has_tmp rfl) isInt_i64 e3 (by kernel_rfl)) rfl rfl rfl ?_
  refine j_pure (pj_load_to (has_tmp rfl) (by kernel_rfl)) rfl rfl rfl ?_
  refine j_pure (pj_imul has_i64 (has_tmp rfl)) rfl rfl rfl ?_
  refine j_pure (pj_buildSlice (T := 3) (R := i64) (.cons (has_tmp rfl) .nil) rfl (by kernel_rfl) (by kernel_rfl)) rfl rfl rfl ?_
  obtain ⟨e4, h⟩ := grd_some h
  refine j_append (T := 3) (E := 3) (has_tmp rfl) .here (src_data (has_tmp rfl)) (by kernel_rfl) (by kernel_rfl) e4 rfl fun v6 => ?_
  refine j_pure (pj_assign (has_tmp rfl)) rfl rfl rfl ?_
  refine j_end ?_
  refine run_seq ?_
  refine run_text ?_
  refine j_pure (pj_move (has_tmp rfl)) rfl rfl rfl ?_
  refine j_pure (pj_move (has_tmp rfl)) rfl rfl rfl ?_
  refine j_pure (pj_move (has_tmp rfl)) rfl rfl rfl ?_
  refine j_pure (pj_iadd (has_tmp rfl) has_i64) rfl rfl rfl ?_
  obtain ⟨x3, e5, h⟩ := bind_some h
  refine j_pure (pj_slice_slx (has_tmp rfl) (.yes (has_tmp rfl) isInt_i64) .no e5 (by kernel_rfl)) rfl rfl rfl ?_
  obtain ⟨e6, h⟩ := grd_some h
  refine j_append (T := 3) (E := 3) (has_tmp rfl) .here (src_data (has_tmp rfl)) (by kernel_rfl) (by kernel_rfl) e6 rfl fun v7 => ?_
  refine j_pure (pj_assign (has_tmp rfl)) rfl rfl rfl ?_
  refine j_end ?_
  refine run_seq ?_
  refine run_text ?_
  refine j_pure (pj_move (has_tmp rfl)) rfl rfl rfl ?_
  refine j_pure (pj_move (has_tmp rfl)) rfl rfl rfl ?_
  refine j_pure (pj_move (has_tmp rfl)) rfl rfl rfl ?_
  obtain ⟨x4, e7, h⟩ := bind_some h
  refine j_pure (pj_slice_slx (has_tmp rfl) .no (.yes (has_tmp rfl) isInt_i64) e7 (by kernel_rfl)) rfl rfl rfl ?_
  obtain ⟨e8, h⟩ := grd_some h
  refine j_append (T := 24) (E := 24) (has_tmp rfl) (.next .here) (src_data (has_tmp rfl)) (by kernel_rfl) (by kernel_rfl) e8 rfl fun v8 => ?_
  refine j_pure (pj_assign (has_tmp rfl)) rfl rfl rfl ?_
  refine j_end ?_
  refine run_seq ?_
  obtain ⟨x5, e9, h⟩ := bind_some h
  obtain ⟨x6, e10, h⟩ := bind_some h
  obtain ⟨r1, e11, h⟩ := bind_some h
  refine run_draw (n := 12) (by kernel_rfl) (by kernel_rfl) (by kernel_rfl) (by kernel_rfl) (.read (.plain rfl (pj_move (has_tmp rfl))) <| .read (.plain rfl (pj_move (has_tmp rfl))) <| .read (.plain rfl (pj_move (has_tmp rfl))) <| .read (.plain rfl (pj_index_slx (has_tmp rfl) (has_tmp rfl) isInt_i64 e9 (by kernel_rfl))) <| .read (.plain rfl (pj_load_to (has_tmp rfl) (by kernel_rfl))) <| .read (.plain rfl (pj_move (has_tmp rfl))) <| .read (.plain rfl (pj_move (has_tmp rfl))) <| .read (.plain rfl (pj_iadd (has_tmp rfl) has_i64)) <| .read (.plain rfl (pj_index_slx (has_tmp rfl) (has_tmp rfl) isInt_i64 e10 (by kernel_rfl))) <| .read (.plain rfl (pj_load_to (has_tmp rfl) (by kernel_rfl))) <| .read (.plain rfl (pj_call (hasL_cons (has_tmp rfl) <| hasL_cons (has_tmp rfl) <| hasL_nil) (by kernel_rfl) (c_rolodexref15_Node e11))) <| .read (.plain rfl (pj_buildSlice (T := 24) (R := R_api_Hash) (.cons (has_tmp rfl) .nil) rfl (by kernel_rfl) (by kernel_rfl))) <| .nil) (j_to (Γ' := [(1, (sl R_api_Hash).slot p_l), (2, i64.slot p_i), (8, ov v7), (34, ov v8), (45, (sl R_api_Hash).slot ([r1]))]) (H' := [own 24 R_api_Hash v8 (([] : List T_api_Hash) ++ x4), own 3 i64 v7 (((([] : List Int) ++ x1) ++ ([w64 ((2 : Int) * x2)])) ++ x3)]) (.cons (.of_lk rfl) <| .cons (.of_lk rfl) <| .cons (.of_lk rfl) <| .cons (.of_lk rfl) <| .cons (.of_lk rfl) <| .nil) (.cons .here <| .cons .here <| .nil) ?_)
  obtain ⟨e12, h⟩ := grd_some h
  refine j_append (T := 24) (E := 24) (has_tmp rfl) .here (src_data (has_tmp rfl)) (by kernel_rfl) (by kernel_rfl) e12 rfl fun v9 => ?_
  refine j_pure (pj_assign (has_tmp rfl)) rfl rfl rfl ?_
  refine j_end ?_
  refine run_seq ?_
  refine run_text ?_
  refine j_pure (pj_move (has_tmp rfl)) rfl rfl rfl ?_
  refine j_pure (pj_move (has_tmp rfl)) rfl rfl rfl ?_
  refine j_pure (pj_move (has_tmp rfl)) rfl rfl rfl ?_
  refine j_pure (pj_iadd (has_tmp rfl) has_i64) rfl rfl rfl ?_
  obtain ⟨x7, e13, h⟩ := bind_some h
  refine j_pure (pj_slice_slx (has_tmp rfl) (.yes (has_tmp rfl) isInt_i64) .no e13 (by kernel_rfl)) rfl rfl rfl ?_
  obtain ⟨e14, h⟩ := grd_some h
  refine j_append (T := 24) (E := 24) (has_tmp rfl) .here (src_data (has_tmp rfl)) (by kernel_rfl) (by kernel_rfl) e14 rfl fun v10 => ?_
  refine j_pure (pj_assign (has_tmp rfl)) rfl rfl rfl ?_
  refine j_end ?_
  refine run_seq ?_
  refine run_text ?_
  refine j_pure (pj_move (has_tmp rfl)) rfl rfl rfl ?_
  refine j_pure (pj_move (has_tmp rfl)) rfl rfl rfl ?_
  refine j_pure (pj_assign (has_tmp rfl)) rfl rfl rfl ?_
  refine j_pure (pj_assign (has_tmp rfl)) rfl rfl rfl ?_
  refine j_end ?_
  obtain rfl := Option.some.inj h
  exact run_ret fun a w hst => q_retN hst rfl (.cons (.tmp rfl) <| .cons (.tmp rfl) <| .nil) rfl (v7, v10) (fun _ _ h => h) (.cons (.next .here) <| .cons .here <| .nil)
set_option maxRecDepth 100000 in
set_option maxHeartbeats 4000000 in
theorem c_rolodexref15_Join {G : GP} {p_a : T_rolodexref15_Range} {p_b : T_rolodexref15_Range} {r : T_rolodexref15_Range × Int} (h : rolodexref15_Join p_a p_b = some r) : Ctr Tryd.prog G 32 [R_rolodexref15_Range.slot p_a, R_rolodexref15_Range.slot p_b] [] (fun (_ : Unit) => tup [R_rolodexref15_Range.slot r.1, i64.slot r.2]) (fun (_ : Unit) => []) := by
  unfold rolodexref15_Join at h
  refine ctr_of_run Tryd.func32 rfl 68 rfl rfl fun m0 w0 b0 => ?_
  show Run _ _ _ [(0, R_rolodexref15_Range.slot p_a), (1, R_rolodexref15_Range.slot p_b)] _
  refine run_seq ?_
  refine run_text ?_
  refine j_pure (pj_box_to (has_tmp rfl)) rfl rfl rfl ?_
  refine j_pure (pj_box_to (has_tmp rfl)) rfl rfl rfl ?_
  refine j_alloc (x := (0, 0, ([] : List T_api_Hash))) (R := R_rolodexref15_Range) (zero_prod zero_i64 (zero_prod zero_i64 zero_sl)) (by kernel_rfl) rfl fun b1 => ?_
  refine j_pure (pj_assign has_i64) rfl rfl rfl ?_
  refine j_end ?_
  refine run_seq ?_
  refine run_seq ?_
  refine run_text ?_
  refine j_pure (pj_load_to (has_tmp rfl) (by kernel_rfl)) rfl rfl rfl ?_
  obtain ⟨r1, e1, h⟩ := bind_some h
  refine j_pure (pj_call (hasL_cons (has_tmp rfl) <| hasL_nil) (by kernel_rfl) (c_rolodexref15_Formed e1)) rfl rfl rfl ?_
  refine j_pure (pj_not (has_tmp rfl)) rfl rfl rfl ?_
  refine j_pure (pj_move (has_tmp rfl)) rfl rfl rfl ?_
  obtain ⟨y1, e3, h⟩ := bind_some h
  refine j_joinx (ι := Unit) (Γ' := fun _ => [(2, ptrTo R_rolodexref15_Range p_a), (3, ptrTo R_rolodexref15_Range p_b), (4, val (.pointer (some ⟨b1, 0, none⟩))), (16, bl.slot y1)]) (H' := fun _ => [box b1 39 R_rolodexref15_Range (0, 0, ([] : List T_api_Hash))]) 4 ?_ fun J => ?_
  · intro _
    clear e3
    show OpsJ _ _ _ [(2, ptrTo R_rolodexref15_Range p_a), (3, ptrTo R_rolodexref15_Range p_b), (4, val (.pointer (some ⟨b1, 0, none⟩))), (16, bl.slot y1)] [box b1 39 R_rolodexref15_Range (0, 0, ([] : List T_api_Hash))] _
    refine j_pure (pj_move (has_tmp rfl)) rfl rfl rfl ?_
    obtain ⟨y2, e6, h⟩ := bind_some h
    refine j_joinx (ι := Unit) (Γ' := fun _ => [(2, ptrTo R_rolodexref15_Range p_a), (3, ptrTo R_rolodexref15_Range p_b), (4, val (.pointer (some ⟨b1, 0, none⟩))), (23, bl.slot y2)]) (H' := fun _ => [box b1 39 R_rolodexref15_Range (0, 0, ([] : List T_api_Hash))]) 6 ?_ fun J => ?_
    · intro _
      clear e6
      show OpsJ _ _ _ [(2, ptrTo R_rolodexref15_Range p_a), (3, ptrTo R_rolodexref15_Range p_b), (4, val (.pointer (some ⟨b1, 0, none⟩))), (23, bl.slot y2)] [box b1 39 R_rolodexref15_Range (0, 0, ([] : List T_api_Hash))] _
      refine j_end ?_
      refine run_cond (has_tmp rfl) (fun e7 => ?_) (fun e7 => ?_)
      · replace h := bt e7 h
        refine run_seq ?_
        refine run_text ?_
        refine j_pure (pj_build (R := R_rolodexref15_Range) (zero_prod zero_i64 (zero_prod zero_i64 zero_sl)) (by kernel_rfl) (by kernel_rfl) rfl .nil) rfl rfl rfl ?_
        refine j_store_boxx (r' := (0, 0, ([] : List T_api_Hash))) (has_tmp rfl) (has_tmp rfl) .here (Path.all R_rolodexref15_Range) (by kernel_rfl) rfl ?_
        refine j_pure (pj_assign has_i64) rfl rfl rfl ?_
        refine j_end ?_
        obtain rfl := Option.some.inj h
        exact run_ret fun a w hst => q_retN hst rfl (.cons (.cell rfl .here (by kernel_rfl)) <| .cons (.tmp rfl) <| .nil) rfl () (fun _ _ h => h) (.nil)
      · replace h := bf e7 h
        refine run_skip ?_
        refine run_seq ?_
        refine run_text ?_
        refine j_assign_nil (T := 3) i64 rfl fun v1 => ?_
        refine j_end ?_
        refine run_seq ?_
        refine run_text ?_
        refine j_assign_nil (T := 24) R_api_Hash rfl fun v2 => ?_
        refine j_end ?_
        refine run_seq ?_
        refine run_text ?_
        refine j_pure (pj_move (has_tmp rfl)) rfl rfl rfl ?_
        refine j_pure (pj_field_to (has_tmp rfl) (Path.fst i64 (prod i64 (sl R_api_Hash))) (by kernel_rfl)) rfl rfl rfl ?_
        refine j_pure (pj_load_to (has_tmp rfl) (by kernel_rfl)) rfl rfl rfl ?_
        refine j_pure (pj_field_to (has_tmp rfl) (Path.then (Path.snd i64 (prod i64 (sl R_api_Hash))) (Path.fst i64 (sl R_api_Hash))) (by kernel_rfl)) rfl rfl rfl ?_
        refine j_pure (pj_load_to (has_tmp rfl) (by kernel_rfl)) rfl rfl rfl ?_
        obtain ⟨r3, e8, h⟩ := bind_some h
        refine j_pure (pj_call (hasL_cons (has_tmp rfl) <| hasL_cons (has_tmp rfl) <| hasL_nil) (by kernel_rfl) (Ctr.froze (c_rolodexref15_Segments e8))) rfl rfl rfl ?_
        obtain ⟨e9, h⟩ := grd_some h
        refine j_append (T := 3) (E := 3) (has_tmp rfl) (.next .here) (src_data (has_tmp rfl)) (by kernel_rfl) (by kernel_rfl) e9 rfl fun v3 => ?_
        refine j_pure (pj_assign (has_tmp rfl)) rfl rfl rfl ?_
        refine j_end ?_
        refine run_seq ?_
        refine run_text ?_
        refine j_pure (pj_move (has_tmp rfl)) rfl rfl rfl ?_
        refine j_pure (pj_field_to (has_tmp rfl) (Path.fst i64 (prod i64 (sl R_api_Hash))) (by kernel_rfl)) rfl rfl rfl ?_
        refine j_pure (pj_load_to (has_tmp rfl) (by kernel_rfl)) rfl rfl rfl ?_
        refine j_pure (pj_field_to (has_tmp rfl) (Path.then (Path.snd i64 (prod i64 (sl R_api_Hash))) (Path.fst i64 (sl R_api_Hash))) (by kernel_rfl)) rfl rfl rfl ?_
        refine j_pure (pj_load_to (has_tmp rfl) (by kernel_rfl)) rfl rfl rfl ?_
        obtain ⟨r4, e10, h⟩ := bind_some h
        refine j_pure (pj_call (hasL_cons (has_tmp rfl) <| hasL_cons (has_tmp rfl) <| hasL_nil) (by kernel_rfl) (Ctr.froze (c_rolodexref15_Segments e10))) rfl rfl rfl ?_
        obtain ⟨e11, h⟩ := grd_some h
        refine j_append (T := 3) (E := 3) (has_tmp rfl) .here (src_data (has_tmp rfl)) (by kernel_rfl) (by kernel_rfl) e11 rfl fun v4 => ?_
        refine j_pure (pj_assign (has_tmp rfl)) rfl rfl rfl ?_
        refine j_end ?_
        refine run_seq ?_
        refine run_text ?_
        refine j_pure (pj_move (has_tmp rfl)) rfl rfl rfl ?_
        refine j_pure (pj_field_to (has_tmp rfl) (Path.then (Path.snd i64 (prod i64 (sl R_api_Hash))) (Path.snd i64 (sl R_api_Hash))) (by kernel_rfl)) rfl rfl rfl ?_
        refine j_pure (pj_load_to (has_tmp rfl) (by kernel_rfl)) rfl rfl rfl ?_
        obtain ⟨e12, h⟩ := grd_some h
        refine j_append (T := 24) (E := 24) (has_tmp rfl) (.next .here) (src_data (has_tmp rfl)) (by kernel_rfl) (by kernel_rfl) e12 rfl fun v5 => ?_
        refine j_pure (pj_assign (has_tmp rfl)) rfl rfl rfl ?_
        refine j_end ?_
        refine run_seq ?_
        refine run_text ?_
        refine j_pure (pj_move (has_tmp rfl)) rfl rfl rfl ?_
        refine j_pure (pj_field_to (has_tmp rfl) (Path.then (Path.snd i64 (prod i64 (sl R_api_Hash))) (Path.snd i64 (sl R_api_Hash))) (by kernel_rfl)) rfl rfl rfl ?_
        refine j_pure (pj_load_to (has_tmp rfl) (by kernel_rfl)) rfl rfl rfl ?_
        obtain ⟨e13, h⟩ := grd_some h
        refine j_append (T := 24) (E := 24) (has_tmp rfl) .here (src_data (has_tmp rfl)) (by kernel_rfl) (by kernel_rfl) e13 rfl fun v6 => ?_
        refine j_pure (pj_assign (has_tmp rfl)) rfl rfl rfl ?_
        refine j_end ?_
        refine run_seq ?_
        refine run_seq ?_
        refine run_text ?_
        refine j_pure (pj_assign has_i64) rfl rfl rfl ?_
        refine j_end ?_
        obtain ⟨⟨y6, y7, y8⟩, e18, h⟩ := bind_some h
        refine run_loopS (Γi := fun (i : Value × Value) (s : Int × (List T_api_Hash) × (List Int)) => [(2, ptrTo R_rolodexref15_Range p_a), (3, ptrTo R_rolodexref15_Range p_b), (4, val (.pointer (some ⟨b1, 0, none⟩))), (6, ov i.2), (7, ov i.1), (8, i64.slot s.1)]) (Hi := fun (i : Value × Value) (s : Int × (List T_api_Hash) × (List Int)) => [own 24 R_api_Hash i.1 s.2.1, own 3 i64 i.2 s.2.2, box b1 39 R_rolodexref15_Range (0, 0, ([] : List T_api_Hash))]) e18 ⟨v6, v4⟩ (fun a w hst => (hst.sub (.cons (.of_lk rfl) <| .cons (.of_lk rfl) <| .cons (.of_lk rfl) <| .cons (.of_lk rfl) <| .cons (.of_lk rfl) <| .cons (.of_lk rfl) <| .nil)).keep (.cons .here <| .cons .here <| .cons .here <| .nil)) ?_ ?_
        · clear h e18
          rintro ⟨v7, v8⟩ ⟨y3, y4, y5⟩ lr h
          change rolodexref15_Join_L1 p_a y3 y4 y5 = some _ at h
          show Run _ _ _ [(2, ptrTo R_rolodexref15_Range p_a), (3, ptrTo R_rolodexref15_Range p_b), (4, val (.pointer (some ⟨b1, 0, none⟩))), (6, ov v8), (7, ov v7), (8, i64.slot y3)] [own 24 R_api_Hash v7 y4, own 3 i64 v8 y5, box b1 39 R_rolodexref15_Range (0, 0, ([] : List T_api_Hash))]
          unfold rolodexref15_Join_L1 at h
          refine run_seq ?_
          refine run_seq ?_
          refine run_text ?_
          refine j_pure (pj_move (has_tmp rfl)) rfl rfl rfl ?_
          refine j_pure (pj_igeq (has_tmp rfl) has_i64) rfl rfl rfl ?_
          refine j_end ?_
          refine run_cond (has_tmp rfl) (fun e14 => ?_) (fun e14 => ?_)
          · replace h := bt e14 h
            refine run_skip ?_
            refine run_block ?_
            refine run_seq ?_
            refine run_text ?_
            refine j_pure (pj_field_to (has_tmp rfl) (Path.fst i64 (prod i64 (sl R_api_Hash))) (by kernel_rfl)) rfl rfl rfl ?_
            refine j_pure (pj_load_to (has_tmp rfl) (by kernel_rfl)) rfl rfl rfl ?_
            refine j_pure (pj_move (has_tmp rfl)) rfl rfl rfl ?_
            obtain ⟨r5, e15, h⟩ := bind_some h
            refine j_pure (pj_callB (hasBL_cons (hasB_of (has_tmp rfl)) <| hasBL_cons (hasB_own (has_tmp rfl) (.next .here)) <| hasBL_nil) (by kernel_rfl) (c_rolodexref15_First e15) (Rep.flat_slot flat_i64 _)) rfl rfl rfl ?_
            refine j_pure (pj_assign (has_tmp rfl)) rfl rfl rfl ?_
            refine j_end ?_
            refine run_seq ?_
            refine run_text ?_
            refine j_pure (pj_move (has_tmp rfl)) rfl rfl rfl ?_
            refine j_pure (pj_igeq (has_tmp rfl) has_i64) rfl rfl rfl ?_
            refine j_end ?_
            refine run_cond (has_tmp rfl) (fun e16 => ?_) (fun e16 => ?_)
            · replace h := bt e16 h
              refine run_text ?_
              refine j_pure (pj_move (has_tmp rfl)) rfl rfl rfl ?_
              refine j_pure (pj_move (has_tmp rfl)) rfl rfl rfl ?_
              refine j_pure (pj_move (has_tmp rfl)) rfl rfl rfl ?_
              obtain ⟨r6, e17, h⟩ := bind_some h
              refine j_callB (hasBL_cons (hasB_own (has_tmp rfl) (.next .here)) <| hasBL_cons (hasB_own (has_tmp rfl) .here) <| hasBL_cons (hasB_of (has_tmp rfl)) <| hasBL_nil) (by kernel_rfl) (c_rolodexref15_Made e17) (fun i => flat_tup (flatL_cons (Rep.flat_slot (flat_exv _) _) (flatL_cons (Rep.flat_slot (flat_exv _) _) (flatL_nil)))) (fun i e he => own_mem2 he (own_flat flat_i64 _ _) (own_flat (flat_vec _ (flat_un _ _)) _ _)) rfl fun ⟨v9, v10⟩ => ?_
              refine j_pure (pj_move (has_tmp rfl)) rfl rfl rfl ?_
              refine j_pure (pj_extract (has_tmp rfl) rfl) rfl rfl rfl ?_
              refine j_pure (pj_extract (has_tmp rfl) rfl) rfl rfl rfl ?_
              refine j_pure (pj_assign (has_tmp rfl)) rfl rfl rfl ?_
              refine j_pure (pj_assign (has_tmp rfl)) rfl rfl rfl ?_
              refine j_end ?_
              refine run_endblock ?_
              obtain rfl := Option.some.inj h
              exact run_next ⟨v10, v9⟩ (.cons (.of_lk rfl) <| .cons (.of_lk rfl) <| .cons (.of_lk rfl) <| .cons (.of_lk rfl) <| .cons (.of_lk rfl) <| .cons (.of_lk rfl) <| .nil) (.cons (.next .here) <| .cons .here <| .cons (.next (.next .here)) <| .nil)
            · replace h := bf e16 h
              refine run_skip ?_
              refine run_endblock ?_
              obtain rfl := Option.some.inj h
              exact run_next ⟨v7, v8⟩ (.cons (.of_lk rfl) <| .cons (.of_lk rfl) <| .cons (.of_lk rfl) <| .cons (.of_lk rfl) <| .cons (.of_lk rfl) <| .cons (.of_lk rfl) <| .nil) (.cons .here <| .cons .here <| .cons .here <| .nil)
          · replace h := bf e14 h
            obtain rfl := Option.some.inj h
            exact run_brk ⟨v7, v8⟩ (.cons (.of_lk rfl) <| .cons (.of_lk rfl) <| .cons (.of_lk rfl) <| .cons (.of_lk rfl) <| .cons (.of_lk rfl) <| .cons (.of_lk rfl) <| .nil) (.cons .here <| .cons .here <| .cons .here <| .nil)
        · rintro ⟨v11, v12⟩
          show Run _ _ _ [(2, ptrTo R_rolodexref15_Range p_a), (3, ptrTo R_rolodexref15_Range p_b), (4, val (.pointer (some ⟨b1, 0, none⟩))), (6, ov v12), (7, ov v11), (8, i64.slot y6)] [own 24 R_api_Hash v11 y7, own 3 i64 v12 y8, box b1 39 R_rolodexref15_Range (0, 0, ([] : List T_api_Hash))]
          refine run_to (Γ' := [(2, ptrTo R_rolodexref15_Range p_a), (3, ptrTo R_rolodexref15_Range p_b), (4, val (.pointer (some ⟨b1, 0, none⟩))), (7, ov v11)]) (H' := [own 24 R_api_Hash v11 y7, box b1 39 R_rolodexref15_Range (0, 0, ([] : List T_api_Hash))]) (.cons (.of_lk rfl) <| .cons (.of_lk rfl) <| .cons (.of_lk rfl) <| .cons (.of_lk rfl) <| .nil) (.cons .here <| .cons (.next .here) <| .nil) ?_
          refine run_seq ?_
          refine run_text ?_
          refine j_pure (pj_field_to (has_tmp rfl) (Path.fst i64 (prod i64 (sl R_api_Hash))) (by kernel_rfl)) rfl rfl rfl ?_
          refine j_pure (pj_load_to (has_tmp rfl) (by kernel_rfl)) rfl rfl rfl ?_
          refine j_pure (pj_field_to (has_tmp rfl) (Path.then (Path.snd i64 (prod i64 (sl R_api_Hash))) (Path.fst i64 (sl R_api_Hash))) (by kernel_rfl)) rfl rfl rfl ?_
          refine j_pure (pj_load_to (has_tmp rfl) (by kernel_rfl)) rfl rfl rfl ?_
          refine j_pure (pj_move (has_tmp rfl)) rfl rfl rfl ?_
          refine j_freeze [7, 66] .here (frz_cons (.of_lk rfl) <| frz_cons (.of_lk rfl) <| frz_nil) ?_
          obtain ⟨x1, e19, h⟩ := bind_some h
          refine j_pure (PJ.eqv (pj_build (R := R_rolodexref15_Range) (zero_prod zero_i64 (zero_prod zero_i64 zero_sl)) (by kernel_rfl) (by kernel_rfl) rfl (.cons (has_tmp rfl) (Path.fst i64 (prod i64 (sl R_api_Hash))) (by kernel_rfl) (.cons (has_tmp rfl) (Path.then (Path.snd i64 (prod i64 (sl R_api_Hash))) (Path.fst i64 (sl R_api_Hash))) (by kernel_rfl) (.cons (has_tmp rfl) (Path.then (Path.snd i64 (prod i64 (sl R_api_Hash))) (Path.snd i64 (sl R_api_Hash))) (by kernel_rfl) .nil)))) (Option.some.inj e19)) rfl rfl rfl ?_
          refine j_store_boxx (r' := x1) (has_tmp rfl) (has_tmp rfl) .here (Path.all R_rolodexref15_Range) (by kernel_rfl) rfl ?_
          refine j_pure (pj_assign has_i64) rfl rfl rfl ?_
          refine j_end ?_
          obtain rfl := Option.some.inj h
          exact run_ret fun a w hst => q_retN hst rfl (.cons (.cell rfl .here (by kernel_rfl)) <| .cons (.tmp rfl) <| .nil) rfl () (fun _ _ h => h) (.nil)
    · rcases bool_tf (y1) with e5 | e5
      · replace e6 := bt e5 e6
        refine j_guard_no2 (j := 8) (want := false) rfl rfl rfl rfl (bl_isx e5) rfl rfl rfl ?_
        refine j_guard_no2 (j := 8) (want := false) rfl rfl rfl rfl (bl_isx e5) rfl rfl rfl ?_
        refine j_guard_no2 (j := 8) (want := false) rfl rfl rfl rfl (bl_isx e5) rfl rfl rfl ?_
        refine j_guard_no2 (j := 8) (want := false) rfl rfl rfl rfl (bl_isx e5) rfl rfl rfl ?_
        refine j_guard_no2 (j := 8) (want := false) rfl rfl rfl rfl (bl_isx e5) rfl rfl rfl ?_
        refine j_pure (PJ.eqv (R := bl) (pj_pick (t := any) (has_tmp rfl) (fun _ => has_bl) (fun he => absurd (e5.symm.trans he) (by decide))) (Option.some.inj e6)) rfl rfl rfl ?_
        exact j_to (.cons (.of_lk rfl) <| .cons (.of_lk rfl) <| .cons (.of_lk rfl) <| .cons (.of_lk rfl) <| .nil) (.cons .here <| .nil) (J ())
      · replace e6 := bf e5 e6
        refine j_pure_y (pj_field_to (has_tmp rfl) (Path.then (Path.snd i64 (prod i64 (sl R_api_Hash))) (Path.fst i64 (sl R_api_Hash))) (by kernel_rfl)) rfl rfl rfl rfl (bl_isx e5) rfl rfl ?_
        refine j_pure_y (pj_load_to (has_tmp rfl) (by kernel_rfl)) rfl rfl rfl rfl (bl_isx e5) rfl rfl ?_
        refine j_pure_y (pj_field_to (has_tmp rfl) (Path.fst i64 (prod i64 (sl R_api_Hash))) (by kernel_rfl)) rfl rfl rfl rfl (bl_isx e5) rfl rfl ?_
        refine j_pure_y (pj_load_to (has_tmp rfl) (by kernel_rfl)) rfl rfl rfl rfl (bl_isx e5) rfl rfl ?_
        refine j_pure_y (pj_ineq (has_tmp rfl) (has_tmp rfl)) rfl rfl rfl rfl (bl_isx e5) rfl rfl ?_
        refine j_pure (PJ.eqv (R := bl) (pj_pick (t := any) (has_tmp rfl) (fun he => absurd (e5.symm.trans he) (by decide)) (fun _ => (has_tmp rfl))) (Option.some.inj e6)) rfl rfl rfl ?_
        exact j_to (.cons (.of_lk rfl) <| .cons (.of_lk rfl) <| .cons (.of_lk rfl) <| .cons (.of_lk rfl) <| .nil) (.cons .here <| .nil) (J ())
  · rcases bool_tf (!r1) with e2 | e2
    · replace e3 := bt e2 e3
      refine j_guard_no2 (j := 3) (want := false) rfl rfl rfl rfl (bl_isx e2) rfl rfl rfl ?_
      refine j_guard_no2 (j := 3) (want := false) rfl rfl rfl rfl (bl_isx e2) rfl rfl rfl ?_
      refine j_guard_no2 (j := 3) (want := false) rfl rfl rfl rfl (bl_isx e2) rfl rfl rfl ?_
      refine j_pure (PJ.eqv (R := bl) (pj_pick (t := any) (has_tmp rfl) (fun _ => has_bl) (fun he => absurd (e2.symm.trans he) (by decide))) (Option.some.inj e3)) rfl rfl rfl ?_
      exact j_to (.cons (.of_lk rfl) <| .cons (.of_lk rfl) <| .cons (.of_lk rfl) <| .cons (.of_lk rfl) <| .nil) (.cons .here <| .nil) (J ())
    · replace e3 := bf e2 e3
      refine j_pure_y (pj_load_to (has_tmp rfl) (by kernel_rfl)) rfl rfl rfl rfl (bl_isx e2) rfl rfl ?_
      obtain ⟨r2, e4, e3⟩ := bind_some e3
      refine j_pure_y (pj_call (hasL_cons (has_tmp rfl) <| hasL_nil) (by kernel_rfl) (c_rolodexref15_Formed e4)) rfl rfl rfl rfl (bl_isx e2) rfl rfl ?_
      refine j_pure_y (pj_not (has_tmp rfl)) rfl rfl rfl rfl (bl_isx e2) rfl rfl ?_
      refine j_pure (PJ.eqv (R := bl) (pj_pick (t := any) (has_tmp rfl) (fun he => absurd (e2.symm.trans he) (by decide)) (fun _ => (has_tmp rfl))) (Option.some.inj e3)) rfl rfl rfl ?_
      exact j_to (.cons (.of_lk rfl) <| .cons (.of_lk rfl) <| .cons (.of_lk rfl) <| .cons (.of_lk rfl) <| .nil) (.cons .here <| .nil) (J ())
set_option maxRecDepth 100000 in
set_option maxHeartbeats 4000000 in
theorem c_rolodexref16_All {G : GP} {p_a : T_rolodexref15_Range} {p_b : T_rolodexref15_Range} {p_c : T_rolodexref15_Range} {r : T_api_Hash × Bool} (h : rolodexref16_All p_a p_b p_c = some r) : Ctr Tryd.prog G 45 [R_rolodexref15_Range.slot p_a, R_rolodexref15_Range.slot p_b, R_rolodexref15_Range.slot p_c] [] (fun (_ : Unit) => tup [R_api_Hash.slot r.1, bl.slot r.2]) (fun (_ : Unit) => []) := by
  unfold rolodexref16_All at h
  refine ctr_of_run Tryd.func45 rfl 42 rfl rfl fun m0 w0 b0 => ?_
  show Run _ _ _ [(0, R_rolodexref15_Range.slot p_a), (1, R_rolodexref15_Range.slot p_b), (2, R_rolodexref15_Range.slot p_c)] _
  refine run_seq ?_
  refine run_text ?_
  refine j_pure (pj_box_to (has_tmp rfl)) rfl rfl rfl ?_
  refine j_pure (pj_box_to (has_tmp rfl)) rfl rfl rfl ?_
  refine j_pure (pj_box_to (has_tmp rfl)) rfl rfl rfl ?_
  refine j_alloc (x := (Vector.replicate 32 (0#8))) (R := R_api_Hash) (zero_vec 32 zero_un) (by kernel_rfl) rfl fun b1 => ?_
  refine j_pure (pj_assign has_bl) rfl rfl rfl ?_
  refine j_end ?_
  refine run_seq ?_
  refine run_text ?_
  refine j_pure (pj_load_to (has_tmp rfl) (by kernel_rfl)) rfl rfl rfl ?_
  refine j_pure (pj_load_to (has_tmp rfl) (by kernel_rfl)) rfl rfl rfl ?_
  obtain ⟨r1, e1, h⟩ := bind_some h
  refine j_pure (pj_call (hasL_cons (has_tmp rfl) <| hasL_cons (has_tmp rfl) <| hasL_nil) (by kernel_rfl) (c_rolodexref15_Join e1)) rfl rfl rfl ?_
  refine j_pure (pj_move (has_tmp rfl)) rfl rfl rfl ?_
  refine j_pure (pj_extract (has_tmp rfl) rfl) rfl rfl rfl ?_
  refine j_pure (pj_extract (has_tmp rfl) rfl) rfl rfl rfl ?_
  refine j_alloc (x := (0, 0, ([] : List T_api_Hash))) (R := R_rolodexref15_Range) (zero_prod zero_i64 (zero_prod zero_i64 zero_sl)) (by kernel_rfl) rfl fun b2 => ?_
  refine j_store_boxx (r' := r1.1) (has_tmp rfl) (has_tmp rfl) .here (Path.all R_rolodexref15_Range) (by kernel_rfl) rfl ?_
  refine j_freezeTo (t := 8) .here (.of_lk rfl) ?_
  refine j_pure (pj_assign (has_tmp rfl)) rfl rfl rfl ?_
  refine j_end ?_
  refine run_seq ?_
  refine run_text ?_
  refine j_pure (pj_load_to (has_tmp rfl) (by kernel_rfl)) rfl rfl rfl ?_
  refine j_pure (pj_load_to (has_tmp rfl) (by kernel_rfl)) rfl rfl rfl ?_
  obtain ⟨r2, e2, h⟩ := bind_some h
  refine j_pure (pj_call (hasL_cons (has_tmp rfl) <| hasL_cons (has_tmp rfl) <| hasL_nil) (by kernel_rfl) (c_rolodexref15_Join e2)) rfl rfl rfl ?_
  refine j_pure (pj_move (has_tmp rfl)) rfl rfl rfl ?_
  refine j_pure (pj_extract (has_tmp rfl) rfl) rfl rfl rfl ?_
  refine j_pure (pj_extract (has_tmp rfl) rfl) rfl rfl rfl ?_
  refine j_alloc (x := (0, 0, ([] : List T_api_Hash))) (R := R_rolodexref15_Range) (zero_prod zero_i64 (zero_prod zero_i64 zero_sl)) (by kernel_rfl) rfl fun b3 => ?_
  refine j_store_boxx (r' := r2.1) (has_tmp rfl) (has_tmp rfl) .here (Path.all R_rolodexref15_Range) (by kernel_rfl) rfl ?_
  refine j_freezeTo (t := 10) .here (.of_lk rfl) ?_
  refine j_pure (pj_assign (has_tmp rfl)) rfl rfl rfl ?_
  refine j_end ?_
  refine run_seq ?_
  refine run_text ?_
  refine j_pure (pj_load_to (has_tmp rfl) (by kernel_rfl)) rfl rfl rfl ?_
  obtain ⟨r3, e3, h⟩ := bind_some h
  refine j_pure (pj_call (hasL_cons (has_tmp rfl) <| hasL_nil) (by kernel_rfl) (c_rolodexref15_Root e3)) rfl rfl rfl ?_
  refine j_pure (pj_move (has_tmp rfl)) rfl rfl rfl ?_
  refine j_pure (pj_extract (has_tmp rfl) rfl) rfl rfl rfl ?_
  refine j_pure (pj_extract (has_tmp rfl) rfl) rfl rfl rfl ?_
  refine j_alloc (x := (Vector.replicate 32 (0#8))) (R := R_api_Hash) (zero_vec 32 zero_un) (by kernel_rfl) rfl fun b4 => ?_
  refine j_store_boxx (r' := r3.1) (has_tmp rfl) (has_tmp rfl) .here (Path.all R_api_Hash) (by kernel_rfl) rfl ?_
  refine j_freezeTo (t := 12) .here (.of_lk rfl) ?_
  refine j_pure (pj_assign (has_tmp rfl)) rfl rfl rfl ?_
  refine j_end ?_
  refine run_seq ?_
  refine run_text ?_
  refine j_pure (pj_load_to (has_tmp rfl) (by kernel_rfl)) rfl rfl rfl ?_
  refine j_pure (pj_move (has_tmp rfl)) rfl rfl rfl ?_
  refine j_pure (pj_ieql (has_tmp rfl) has_i64) rfl rfl rfl ?_
  refine j_pure (pj_move (has_tmp rfl)) rfl rfl rfl ?_
  obtain ⟨y1, e5, h⟩ := bind_some h
  refine j_joinx (ι := Unit) (Γ' := fun _ => [(6, val (.pointer (some ⟨b1, 0, none⟩))), (13, i64.slot r3.2), (31, R_api_Hash.slot r3.1), (37, bl.slot y1)]) (H' := fun _ => [box b1 24 R_api_Hash (Vector.replicate 32 (0#8))]) 3 ?_ fun J => ?_
  · intro _
    clear e5
    show OpsJ _ _ _ [(6, val (.pointer (some ⟨b1, 0, none⟩))), (13, i64.slot r3.2), (31, R_api_Hash.slot r3.1), (37, bl.slot y1)] [box b1 24 R_api_Hash (Vector.replicate 32 (0#8))] _
    refine j_pure (pj_move (has_tmp rfl)) rfl rfl rfl ?_
    obtain ⟨y2, e7, h⟩ := bind_some h
    refine j_joinx (ι := Unit) (Γ' := fun _ => [(6, val (.pointer (some ⟨b1, 0, none⟩))), (31, R_api_Hash.slot r3.1), (41, bl.slot y2)]) (H' := fun _ => [box b1 24 R_api_Hash (Vector.replicate 32 (0#8))]) 3 ?_ fun J => ?_
    · intro _
      clear e7
      show OpsJ _ _ _ [(6, val (.pointer (some ⟨b1, 0, none⟩))), (31, R_api_Hash.slot r3.1), (41, bl.slot y2)] [box b1 24 R_api_Hash (Vector.replicate 32 (0#8))] _
      refine j_store_boxx (r' := r3.1) (has_tmp rfl) (has_tmp rfl) .here (Path.all R_api_Hash) (by kernel_rfl) rfl ?_
      refine j_pure (pj_assign (has_tmp rfl)) rfl rfl rfl ?_
      refine j_end ?_
      obtain rfl := Option.some.inj h
      exact run_ret fun a w hst => q_retN hst rfl (.cons (.cell rfl .here (by kernel_rfl)) <| .cons (.tmp rfl) <| .nil) rfl () (fun _ _ h => h) (.nil)
    · rcases bool_tf (y1) with e6 | e6
      · replace e7 := bt e6 e7
        refine j_pure_y (pj_move (has_tmp rfl)) rfl rfl rfl rfl (bl_isx e6) rfl rfl ?_
        refine j_pure_y (pj_ieql (has_tmp rfl) has_i64) rfl rfl rfl rfl (bl_isx e6) rfl rfl ?_
        refine j_pure (PJ.eqv (R := bl) (pj_pick (t := any) (has_tmp rfl) (fun _ => (has_tmp rfl)) (fun he => absurd (e6.symm.trans he) (by decide))) (Option.some.inj e7)) rfl rfl rfl ?_
        exact j_to (.cons (.of_lk rfl) <| .cons (.of_lk rfl) <| .cons (.of_lk rfl) <| .nil) (.cons .here <| .nil) (J ())
      · replace e7 := bf e6 e7
        refine j_guard_no2 (j := 7) (want := true) rfl rfl rfl rfl (bl_isx e6) rfl rfl rfl ?_
        refine j_guard_no2 (j := 7) (want := true) rfl rfl rfl rfl (bl_isx e6) rfl rfl rfl ?_
        refine j_pure (PJ.eqv (R := bl) (pj_pick (t := any) (has_tmp rfl) (fun he => absurd (e6.symm.trans he) (by decide)) (fun _ => has_bl)) (Option.some.inj e7)) rfl rfl rfl ?_
        exact j_to (.cons (.of_lk rfl) <| .cons (.of_lk rfl) <| .cons (.of_lk rfl) <| .nil) (.cons .here <| .nil) (J ())
  · rcases bool_tf (decide (r1.2 = (0 : Int))) with e4 | e4
    · replace e5 := bt e4 e5
      refine j_pure_y (pj_move (has_tmp rfl)) rfl rfl rfl rfl (bl_isx e4) rfl rfl ?_
      refine j_pure_y (pj_ieql (has_tmp rfl) has_i64) rfl rfl rfl rfl (bl_isx e4) rfl rfl ?_
      refine j_pure (PJ.eqv (R := bl) (pj_pick (t := any) (has_tmp rfl) (fun _ => (has_tmp rfl)) (fun he => absurd (e4.symm.trans he) (by decide))) (Option.some.inj e5)) rfl rfl rfl ?_
      exact j_to (.cons (.of_lk rfl) <| .cons (.of_lk rfl) <| .cons (.of_lk rfl) <| .cons (.of_lk rfl) <| .nil) (.cons .here <| .nil) (J ())
    · replace e5 := bf e4 e5
      refine j_guard_no2 (j := 3) (want := true) rfl rfl rfl rfl (bl_isx e4) rfl rfl rfl ?_
      refine j_guard_no2 (j := 3) (want := true) rfl rfl rfl rfl (bl_isx e4) rfl rfl rfl ?_
      refine j_pure (PJ.eqv (R := bl) (pj_pick (t := any) (has_tmp rfl) (fun he => absurd (e4.symm.trans he) (by decide)) (fun _ => has_bl)) (Option.some.inj e5)) rfl rfl rfl ?_
      exact j_to (.cons (.of_lk rfl) <| .cons (.of_lk rfl) <| .cons (.of_lk rfl) <| .cons (.of_lk rfl) <| .nil) (.cons .here <| .nil) (J ())
set_option maxRecDepth 100000 in
set_option maxHeartbeats 4000000 in
theorem c_rolodexref16_IsEntry {G : GP} {p_t : T_rolodexref16_Trail} {p_i : Int} {p_n : Int} {p_h : T_api_Hash} {p_root : T_api_Hash} {r : Bool} (h : rolodexref16_IsEntry p_t p_i p_n p_h p_root = some r) : Ctr Tryd.prog G 42 [R_rolodexref16_Trail.slot p_t, i64.slot p_i, i64.slot p_n, R_api_Hash.slot p_h, R_api_Hash.slot p_root] [] (fun (_ : Unit) => bl.slot r) (fun (_ : Unit) => []) := by
  unfold rolodexref16_IsEntry at h
  refine ctr_of_run Tryd.func42 rfl 50 rfl rfl fun m0 w0 b0 => ?_
  show Run _ _ _ [(0, R_rolodexref16_Trail.slot p_t), (1, i64.slot p_i), (2, i64.slot p_n), (3, R_api_Hash.slot p_h), (4, R_api_Hash.slot p_root)] _
  refine run_seq ?_
  refine run_text ?_
  refine j_pure (pj_box_to (has_tmp rfl)) rfl rfl rfl ?_
  refine j_pure (pj_box_to (has_tmp rfl)) rfl rfl rfl ?_
  refine j_pure (pj_box_to (has_tmp rfl)) rfl rfl rfl ?_
  refine j_pure (pj_assign has_bl) rfl rfl rfl ?_
  refine j_end ?_
  refine run_seq ?_
  refine run_seq ?_
  refine run_text ?_
  refine j_pure (pj_move (has_tmp rfl)) rfl rfl rfl ?_
  refine j_pure (pj_ilss (has_tmp rfl) has_i64) rfl rfl rfl ?_
  refine j_pure (pj_move (has_tmp rfl)) rfl rfl rfl ?_
  obtain ⟨y1, e2, h⟩ := bind_some h
  refine j_joinx (ι := Unit) (Γ' := fun _ => [(1, i64.slot p_i), (2, i64.slot p_n), (5, ptrTo R_rolodexref16_Trail p_t), (8, ptrTo R_api_Hash p_h), (9, ptrTo R_api_Hash p_root), (19, bl.slot y1)]) (H' := fun _ => []) 4 ?_ fun J => ?_
  · intro _
    clear e2
    show OpsJ _ _ _ [(1, i64.slot p_i), (2, i64.slot p_n), (5, ptrTo R_rolodexref16_Trail p_t), (8, ptrTo R_api_Hash p_h), (9, ptrTo R_api_Hash p_root), (19, bl.slot y1)] [] _
    refine j_pure (pj_move (has_tmp rfl)) rfl rfl rfl ?_
    obtain ⟨y2, e4, h⟩ := bind_some h
    refine j_joinx (ι := Unit) (Γ' := fun _ => [(1, i64.slot p_i), (2, i64.slot p_n), (5, ptrTo R_rolodexref16_Trail p_t), (8, ptrTo R_api_Hash p_h), (9, ptrTo R_api_Hash p_root), (23, bl.slot y2)]) (H' := fun _ => []) 3 ?_ fun J => ?_
    · intro _
      clear e4
      show OpsJ _ _ _ [(1, i64.slot p_i), (2, i64.slot p_n), (5, ptrTo R_rolodexref16_Trail p_t), (8, ptrTo R_api_Hash p_h), (9, ptrTo R_api_Hash p_root), (23, bl.slot y2)] [] _
      refine j_end ?_
      refine run_cond (has_tmp rfl) (fun e5 => ?_) (fun e5 => ?_)
      · replace h := bt e5 h
        refine run_seq ?_
        refine run_text ?_
        refine j_pure (pj_assign has_bl) rfl rfl rfl ?_
        refine j_end ?_
        obtain rfl := Option.some.inj h
        exact run_ret fun a w hst => q_ret1 hst rfl (.tmp rfl) () (fun _ _ h => h) (.nil)
      · replace h := bf e5 h
        refine run_skip ?_
        refine run_seq ?_
        refine run_text ?_
        refine j_pure (pj_move (has_tmp rfl)) rfl rfl rfl ?_
        refine j_pure (pj_field_to (has_tmp rfl) (Path.fst (sl R_api_Hash) (sl R_api_Hash)) (by kernel_rfl)) rfl rfl rfl ?_
        refine j_pure (pj_load_to (has_tmp rfl) (by kernel_rfl)) rfl rfl rfl ?_
        obtain ⟨x1, e6, h⟩ := bind_some h
        refine j_pure (PJ.eqv (pj_build (R := R_rolodexref15_Range) (zero_prod zero_i64 (zero_prod zero_i64 zero_sl)) (by kernel_rfl) (by kernel_rfl) rfl (.cons (has_tmp rfl) (Path.then (Path.snd i64 (prod i64 (sl R_api_Hash))) (Path.fst i64 (sl R_api_Hash))) (by kernel_rfl) (.cons (has_tmp rfl) (Path.then (Path.snd i64 (prod i64 (sl R_api_Hash))) (Path.snd i64 (sl R_api_Hash))) (by kernel_rfl) .nil))) (Option.some.inj e6)) rfl rfl rfl ?_
        refine j_pure (pj_move (has_tmp rfl)) rfl rfl rfl ?_
        refine j_pure (pj_move (has_tmp rfl)) rfl rfl rfl ?_
        refine j_pure (pj_iadd (has_tmp rfl) has_i64) rfl rfl rfl ?_
        refine j_pure (pj_load_to (has_tmp rfl) (by kernel_rfl)) rfl rfl rfl ?_
        refine j_pure (pj_buildSlice (T := 24) (R := R_api_Hash) (.cons (has_tmp rfl) .nil) rfl (by kernel_rfl) (by kernel_rfl)) rfl rfl rfl ?_
        obtain ⟨x2, e7, h⟩ := bind_some h
        refine j_pure (PJ.eqv (pj_build (R := R_rolodexref15_Range) (zero_prod zero_i64 (zero_prod zero_i64 zero_sl)) (by kernel_rfl) (by kernel_rfl) rfl (.cons (has_tmp rfl) (Path.fst i64 (prod i64 (sl R_api_Hash))) (by kernel_rfl) (.cons (has_tmp rfl) (Path.then (Path.snd i64 (prod i64 (sl R_api_Hash))) (Path.fst i64 (sl R_api_Hash))) (by kernel_rfl) (.cons (has_tmp rfl) (Path.then (Path.snd i64 (prod i64 (sl R_api_Hash))) (Path.snd i64 (sl R_api_Hash))) (by kernel_rfl) .nil)))) (Option.some.inj e7)) rfl rfl rfl ?_
        refine j_pure (pj_move (has_tmp rfl)) rfl rfl rfl ?_
        refine j_pure (pj_iadd (has_tmp rfl) has_i64) rfl rfl rfl ?_
        refine j_pure (pj_move (has_tmp rfl)) rfl rfl rfl ?_
        refine j_pure (pj_field_to (has_tmp rfl) (Path.snd (sl R_api_Hash) (sl R_api_Hash)) (by kernel_rfl)) rfl rfl rfl ?_
        refine j_pure (pj_load_to (has_tmp rfl) (by kernel_rfl)) rfl rfl rfl ?_
        obtain ⟨x3, e8, h⟩ := bind_some h
        refine j_pure (PJ.eqv (pj_build (R := R_rolodexref15_Range) (zero_prod zero_i64 (zero_prod zero_i64 zero_sl)) (by kernel_rfl) (by kernel_rfl) rfl (.cons (has_tmp rfl) (Path.fst i64 (prod i64 (sl R_api_Hash))) (by kernel_rfl) (.cons (has_tmp rfl) (Path.then (Path.snd i64 (prod i64 (sl R_api_Hash))) (Path.fst i64 (sl R_api_Hash))) (by kernel_rfl) (.cons (has_tmp rfl) (Path.then (Path.snd i64 (prod i64 (sl R_api_Hash))) (Path.snd i64 (sl R_api_Hash))) (by kernel_rfl) .nil)))) (Option.some.inj e8)) rfl rfl rfl ?_
        obtain ⟨r1, e9, h⟩ := bind_some h
        refine j_pure (pj_call (hasL_cons (has_tmp rfl) <| hasL_cons (has_tmp rfl) <| hasL_cons (has_tmp rfl) <| hasL_nil) (by kernel_rfl) (c_rolodexref16_All e9)) rfl rfl rfl ?_
        refine j_pure (pj_move (has_tmp rfl)) rfl rfl rfl ?_
        refine j_pure (pj_extract (has_tmp rfl) rfl) rfl rfl rfl ?_
        refine j_pure (pj_extract (has_tmp rfl) rfl) rfl rfl rfl ?_
        refine j_alloc (x := (Vector.replicate 32 (0#8))) (R := R_api_Hash) (zero_vec 32 zero_un) (by kernel_rfl) rfl fun b1 => ?_
        refine j_store_boxx (r' := r1.1) (has_tmp rfl) (has_tmp rfl) .here (Path.all R_api_Hash) (by kernel_rfl) rfl ?_
        refine j_freezeTo (t := 11) .here (.of_lk rfl) ?_
        refine j_pure (pj_assign (has_tmp rfl)) rfl rfl rfl ?_
        refine j_end ?_
        refine run_seq ?_
        refine run_text ?_
        refine j_pure (pj_move (has_tmp rfl)) rfl rfl rfl ?_
        refine j_pure (pj_move (has_tmp rfl)) rfl rfl rfl ?_
        obtain ⟨y3, e11, h⟩ := bind_some h
        refine j_joinx (ι := Unit) (Γ' := fun _ => [(49, bl.slot y3)]) (H' := fun _ => []) 4 ?_ fun J => ?_
        · intro _
          clear e11
          show OpsJ _ _ _ [(49, bl.slot y3)] [] _
          refine j_pure (pj_assign (has_tmp rfl)) rfl rfl rfl ?_
          refine j_end ?_
          obtain rfl := Option.some.inj h
          exact run_ret fun a w hst => q_ret1 hst rfl (.tmp rfl) () (fun _ _ h => h) (.nil)
        · rcases bool_tf (r1.2) with e10 | e10
          · replace e11 := bt e10 e11
            refine j_pure_y (pj_load_to (has_tmp rfl) (by kernel_rfl)) rfl rfl rfl rfl (bl_isx e10) rfl rfl ?_
            refine j_pure_y (pj_load_to (has_tmp rfl) (by kernel_rfl)) rfl rfl rfl rfl (bl_isx e10) rfl rfl ?_
            refine j_pure_y (pj_eql (n := 2) (eq_vec (e := 5) (by kernel_rfl) (by kernel_rfl) (eq_un (by kernel_rfl))) (by decide) rfl (by kernel_rfl) (has_tmp rfl) (has_tmp rfl)) rfl rfl rfl rfl (bl_isx e10) rfl rfl ?_
            refine j_pure (PJ.eqv (R := bl) (pj_pick (t := any) (has_tmp rfl) (fun _ => (has_tmp rfl)) (fun he => absurd (e10.symm.trans he) (by decide))) (Option.some.inj e11)) rfl rfl rfl ?_
            exact j_to (.cons (.of_lk rfl) <| .nil) (.nil) (J ())
          · replace e11 := bf e10 e11
            refine j_guard_no2 (j := 1) (want := true) rfl rfl rfl rfl (bl_isx e10) rfl rfl rfl ?_
            refine j_guard_no2 (j := 1) (want := true) rfl rfl rfl rfl (bl_isx e10) rfl rfl rfl ?_
            refine j_guard_no2 (j := 1) (want := true) rfl rfl rfl rfl (bl_isx e10) rfl rfl rfl ?_
            refine j_pure (PJ.eqv (R := bl) (pj_pick (t := any) (has_tmp rfl) (fun he => absurd (e10.symm.trans he) (by decide)) (fun _ => has_bl)) (Option.some.inj e11)) rfl rfl rfl ?_
            exact j_to (.cons (.of_lk rfl) <| .nil) (.nil) (J ())
    · rcases bool_tf (y1) with e3 | e3
      · replace e4 := bt e3 e4
        refine j_guard_no2 (j := 7) (want := false) rfl rfl rfl rfl (bl_isx e3) rfl rfl rfl ?_
        refine j_guard_no2 (j := 7) (want := false) rfl rfl rfl rfl (bl_isx e3) rfl rfl rfl ?_
        refine j_pure (PJ.eqv (R := bl) (pj_pick (t := any) (has_tmp rfl) (fun _ => has_bl) (fun he => absurd (e3.symm.trans he) (by decide))) (Option.some.inj e4)) rfl rfl rfl ?_
        exact j_to (.cons (.of_lk rfl) <| .cons (.of_lk rfl) <| .cons (.of_lk rfl) <| .cons (.of_lk rfl) <| .cons (.of_lk rfl) <| .cons (.of_lk rfl) <| .nil) (.nil) (J ())
      · replace e4 := bf e3 e4
        refine j_pure_y (pj_move (has_tmp rfl)) rfl rfl rfl rfl (bl_isx e3) rfl rfl ?_
        refine j_pure_y (pj_igtr (has_tmp rfl) has_i64) rfl rfl rfl rfl (bl_isx e3) rfl rfl ?_
        refine j_pure (PJ.eqv (R := bl) (pj_pick (t := any) (has_tmp rfl) (fun he => absurd (e3.symm.trans he) (by decide)) (fun _ => (has_tmp rfl))) (Option.some.inj e4)) rfl rfl rfl ?_
        exact j_to (.cons (.of_lk rfl) <| .cons (.of_lk rfl) <| .cons (.of_lk rfl) <| .cons (.of_lk rfl) <| .cons (.of_lk rfl) <| .cons (.of_lk rfl) <| .nil) (.nil) (J ())
  · rcases bool_tf (decide (p_i < (0 : Int))) with e1 | e1
    · replace e2 := bt e1 e2
      refine j_guard_no2 (j := 2) (want := false) rfl rfl rfl rfl (bl_isx e1) rfl rfl rfl ?_
      refine j_guard_no2 (j := 2) (want := false) rfl rfl rfl rfl (bl_isx e1) rfl rfl rfl ?_
      refine j_guard_no2 (j := 2) (want := false) rfl rfl rfl rfl (bl_isx e1) rfl rfl rfl ?_
      refine j_pure (PJ.eqv (R := bl) (pj_pick (t := any) (has_tmp rfl) (fun _ => has_bl) (fun he => absurd (e1.symm.trans he) (by decide))) (Option.some.inj e2)) rfl rfl rfl ?_
      exact j_to (.cons (.of_lk rfl) <| .cons (.of_lk rfl) <| .cons (.of_lk rfl) <| .cons (.of_lk rfl) <| .cons (.of_lk rfl) <| .cons (.of_lk rfl) <| .nil) (.nil) (J ())
    · replace e2 := bf e1 e2
      refine j_pure_y (pj_move (has_tmp rfl)) rfl rfl rfl rfl (bl_isx e1) rfl rfl ?_
      refine j_pure_y (pj_move (has_tmp rfl)) rfl rfl rfl rfl (bl_isx e1) rfl rfl ?_
      refine j_pure_y (pj_igeq (has_tmp rfl) (has_tmp rfl)) rfl rfl rfl rfl (bl_isx e1) rfl rfl ?_
      refine j_pure (PJ.eqv (R := bl) (pj_pick (t := any) (has_tmp rfl) (fun he => absurd (e1.symm.trans he) (by decide)) (fun _ => (has_tmp rfl))) (Option.some.inj e2)) rfl rfl rfl ?_
      exact j_to (.cons (.of_lk rfl) <| .cons (.of_lk rfl) <| .cons (.of_lk rfl) <| .cons (.of_lk rfl) <| .cons (.of_lk rfl) <| .cons (.of_lk rfl) <| .nil) (.nil) (J ())
set_option maxRecDepth 100000 in
set_option maxHeartbeats 4000000 in
theorem c_trail_IsGrowth {G : GP} (hg0 : HG0 G) (hg1 : HG1 G) (hg2 : HG2 G) (hg3 : HG3 G) {p_t : T_trail_Trail} {p_m : Int} {p_n : Int} {p_old : T_api_Hash} {p_root : T_api_Hash} {r : Bool} (h : trail_IsGrowth p_t p_m p_n p_old p_root = some r) : Ctr Tryd.prog G 43 [R_trail_Trail.slot p_t, i64.slot p_m, i64.slot p_n, R_api_Hash.slot p_old, R_api_Hash.slot p_root] [] (fun (_ : Unit) => bl.slot r) (fun (_ : Unit) => []) := by
  unfold trail_IsGrowth at h
  refine ctr_of_run Tryd.func43 rfl 44 rfl rfl fun m0 w0 b0 => ?_
  show Run _ _ _ [(0, R_trail_Trail.slot p_t), (1, i64.slot p_m), (2, i64.slot p_n), (3, R_api_Hash.slot p_old), (4, R_api_Hash.slot p_root)] _
  refine run_seq ?_
  refine run_text ?_
  refine j_pure (pj_box_to (has_tmp rfl)) rfl rfl rfl ?_
  refine j_pure (pj_box_to (has_tmp rfl)) rfl rfl rfl ?_
  refine j_pure (pj_box_to (has_tmp rfl)) rfl rfl rfl ?_
  refine j_pure (pj_assign has_bl) rfl rfl rfl ?_
  refine j_end ?_
  refine run_seq ?_
  refine run_seq ?_
  refine run_text ?_
  refine j_pure (pj_move (has_tmp rfl)) rfl rfl rfl ?_
  refine j_pure (pj_ilss (has_tmp rfl) has_i64) rfl rfl rfl ?_
  refine j_pure (pj_move (has_tmp rfl)) rfl rfl rfl ?_
  obtain ⟨y1, e2, h⟩ := bind_some h
  refine j_joinx (ι := Unit) (Γ' := fun _ => [(1, i64.slot p_m), (2, i64.slot p_n), (5, ptrTo R_trail_Trail p_t), (8, ptrTo R_api_Hash p_old), (9, ptrTo R_api_Hash p_root), (19, bl.slot y1)]) (H' := fun _ => []) 4 ?_ fun J => ?_
  · intro _
    clear e2
    show OpsJ _ _ _ [(1, i64.slot p_m), (2, i64.slot p_n), (5, ptrTo R_trail_Trail p_t), (8, ptrTo R_api_Hash p_old), (9, ptrTo R_api_Hash p_root), (19, bl.slot y1)] [] _
    refine j_pure (pj_move (has_tmp rfl)) rfl rfl rfl ?_
    obtain ⟨y2, e4, h⟩ := bind_some h
    refine j_joinx (ι := Unit) (Γ' := fun _ => [(1, i64.slot p_m), (2, i64.slot p_n), (5, ptrTo R_trail_Trail p_t), (8, ptrTo R_api_Hash p_old), (9, ptrTo R_api_Hash p_root), (23, bl.slot y2)]) (H' := fun _ => []) 3 ?_ fun J => ?_
    · intro _
      clear e4
      show OpsJ _ _ _ [(1, i64.slot p_m), (2, i64.slot p_n), (5, ptrTo R_trail_Trail p_t), (8, ptrTo R_api_Hash p_old), (9, ptrTo R_api_Hash p_root), (23, bl.slot y2)] [] _
      refine j_end ?_
      refine run_cond (has_tmp rfl) (fun e5 => ?_) (fun e5 => ?_)
      · replace h := bt e5 h
        refine run_seq ?_
        refine run_text ?_
        refine j_pure (pj_assign has_bl) rfl rfl rfl ?_
        refine j_end ?_
        obtain rfl := Option.some.inj h
        exact run_ret fun a w hst => q_ret1 hst rfl (.tmp rfl) () (fun _ _ h => h) (.nil)
      · replace h := bf e5 h
        refine run_skip ?_
        refine run_seq ?_
        refine run_text ?_
        refine j_pure (pj_move (has_tmp rfl)) rfl rfl rfl ?_
        refine j_pure (pj_field_to (has_tmp rfl) (Path.fst (sl R_api_Hash) (sl R_api_Hash)) (by kernel_rfl)) rfl rfl rfl ?_
        refine j_pure (pj_load_to (has_tmp rfl) (by kernel_rfl)) rfl rfl rfl ?_
        obtain ⟨x1, e6, h⟩ := bind_some h
        refine j_pure (PJ.eqv (pj_build (R := R_frontier_Range) (zero_prod zero_i64 (zero_prod zero_i64 zero_sl)) (by kernel_rfl) (by kernel_rfl) rfl (.cons (has_tmp rfl) (Path.then (Path.snd i64 (prod i64 (sl R_api_Hash))) (Path.fst i64 (sl R_api_Hash))) (by kernel_rfl) (.cons (has_tmp rfl) (Path.then (Path.snd i64 (prod i64 (sl R_api_Hash))) (Path.snd i64 (sl R_api_Hash))) (by kernel_rfl) .nil))) (Option.some.inj e6)) rfl rfl rfl ?_
        refine j_alloc (x := (0, 0, ([] : List T_api_Hash))) (R := R_frontier_Range) (zero_prod zero_i64 (zero_prod zero_i64 zero_sl)) (by kernel_rfl) rfl fun b1 => ?_
        refine j_store_boxx (r' := x1) (has_tmp rfl) (has_tmp rfl) .here (Path.all R_frontier_Range) (by kernel_rfl) rfl ?_
        refine j_freezeTo (t := 11) .here (.of_lk rfl) ?_
        refine j_end ?_
        refine run_seq ?_
        refine run_text ?_
        refine j_pure (pj_move (has_tmp rfl)) rfl rfl rfl ?_
        refine j_pure (pj_move (has_tmp rfl)) rfl rfl rfl ?_
        refine j_pure (pj_field_to (has_tmp rfl) (Path.snd (sl R_api_Hash) (sl R_api_Hash)) (by kernel_rfl)) rfl rfl rfl ?_
        refine j_pure (pj_load_to (has_tmp rfl) (by kernel_rfl)) rfl rfl rfl ?_
        obtain ⟨x2, e7, h⟩ := bind_some h
        refine j_pure (PJ.eqv (pj_build (R := R_frontier_Range) (zero_prod zero_i64 (zero_prod zero_i64 zero_sl)) (by kernel_rfl) (by kernel_rfl) rfl (.cons (has_tmp rfl) (Path.fst i64 (prod i64 (sl R_api_Hash))) (by kernel_rfl) (.cons (has_tmp rfl) (Path.then (Path.snd i64 (prod i64 (sl R_api_Hash))) (Path.fst i64 (sl R_api_Hash))) (by kernel_rfl) (.cons (has_tmp rfl) (Path.then (Path.snd i64 (prod i64 (sl R_api_Hash))) (Path.snd i64 (sl R_api_Hash))) (by kernel_rfl) .nil)))) (Option.some.inj e7)) rfl rfl rfl ?_
        refine j_alloc (x := (0, 0, ([] : List T_api_Hash))) (R := R_frontier_Range) (zero_prod zero_i64 (zero_prod zero_i64 zero_sl)) (by kernel_rfl) rfl fun b2 => ?_
        refine j_store_boxx (r' := x2) (has_tmp rfl) (has_tmp rfl) .here (Path.all R_frontier_Range) (by kernel_rfl) rfl ?_
        refine j_freezeTo (t := 12) .here (.of_lk rfl) ?_
        refine j_end ?_
        refine run_seq ?_
        refine run_text ?_
        refine j_pure (pj_load_to (has_tmp rfl) (by kernel_rfl)) rfl rfl rfl ?_
        refine j_pure (pj_load_to (has_tmp rfl) (by kernel_rfl)) rfl rfl rfl ?_
        refine j_pure (pj_buildSlice (T := 35) (R := R_frontier_Range) (.cons (has_tmp rfl) .nil) rfl (by kernel_rfl) (by kernel_rfl)) rfl rfl rfl ?_
        obtain ⟨r1, e8, h⟩ := bind_some h
        refine j_pure (pj_call (hasL_cons (has_tmp rfl) <| hasL_cons (has_tmp rfl) <| hasL_nil) (by kernel_rfl) (c_trail_rooted hg0 hg1 hg2 hg3 e8)) rfl rfl rfl ?_
        refine j_pure (pj_move (has_tmp rfl)) rfl rfl rfl ?_
        obtain ⟨y3, e10, h⟩ := bind_some h
        refine j_joinx (ι := Unit) (Γ' := fun _ => [(43, bl.slot y3)]) (H' := fun _ => []) 6 ?_ fun J => ?_
        · intro _
          clear e10
          show OpsJ _ _ _ [(43, bl.slot y3)] [] _
          refine j_pure (pj_assign (has_tmp rfl)) rfl rfl rfl ?_
          refine j_end ?_
          obtain rfl := Option.some.inj h
          exact run_ret fun a w hst => q_ret1 hst rfl (.tmp rfl) () (fun _ _ h => h) (.nil)
        · rcases bool_tf (r1) with e9 | e9
          · replace e10 := bt e9 e10
            refine j_pure_y (pj_load_to (has_tmp rfl) (by kernel_rfl)) rfl rfl rfl rfl (bl_isx e9) rfl rfl ?_
            refine j_pure_y (pj_load_to (has_tmp rfl) (by kernel_rfl)) rfl rfl rfl rfl (bl_isx e9) rfl rfl ?_
            refine j_pure_y (pj_load_to (has_tmp rfl) (by kernel_rfl)) rfl rfl rfl rfl (bl_isx e9) rfl rfl ?_
            refine j_pure_y (pj_buildSlice (T := 35) (R := R_frontier_Range) (.cons (has_tmp rfl) (.cons (has_tmp rfl) .nil)) rfl (by kernel_rfl) (by kernel_rfl)) rfl rfl rfl rfl (bl_isx e9) rfl rfl ?_
            obtain ⟨r2, e11, e10⟩ := bind_some e10
            refine j_pure_y (pj_call (hasL_cons (has_tmp rfl) <| hasL_cons (has_tmp rfl) <| hasL_nil) (by kernel_rfl) (c_trail_rooted hg0 hg1 hg2 hg3 e11)) rfl rfl rfl rfl (bl_isx e9) rfl rfl ?_
            refine j_pure (PJ.eqv (R := bl) (pj_pick (t := any) (has_tmp rfl) (fun _ => (has_tmp rfl)) (fun he => absurd (e9.symm.trans he) (by decide))) (Option.some.inj e10)) rfl rfl rfl ?_
            exact j_to (.cons (.of_lk rfl) <| .nil) (.nil) (J ())
          · replace e10 := bf e9 e10
            refine j_guard_no2 (j := 4) (want := true) rfl rfl rfl rfl (bl_isx e9) rfl rfl rfl ?_
            refine j_guard_no2 (j := 4) (want := true) rfl rfl rfl rfl (bl_isx e9) rfl rfl rfl ?_
            refine j_guard_no2 (j := 4) (want := true) rfl rfl rfl rfl (bl_isx e9) rfl rfl rfl ?_
            refine j_guard_no2 (j := 4) (want := true) rfl rfl rfl rfl (bl_isx e9) rfl rfl rfl ?_
            refine j_guard_no2 (j := 4) (want := true) rfl rfl rfl rfl (bl_isx e9) rfl rfl rfl ?_
            refine j_pure (PJ.eqv (R := bl) (pj_pick (t := any) (has_tmp rfl) (fun he => absurd (e9.symm.trans he) (by decide)) (fun _ => has_bl)) (Option.some.inj e10)) rfl rfl rfl ?_
            exact j_to (.cons (.of_lk rfl) <| .nil) (.nil) (J ())
    · rcases bool_tf (y1) with e3 | e3
      · replace e4 := bt e3 e4
        refine j_guard_no2 (j := 7) (want := false) rfl rfl rfl rfl (bl_isx e3) rfl rfl rfl ?_
        refine j_guard_no2 (j := 7) (want := false) rfl rfl rfl rfl (bl_isx e3) rfl rfl rfl ?_
        refine j_pure (PJ.eqv (R := bl) (pj_pick (t := any) (has_tmp rfl) (fun _ => has_bl) (fun he => absurd (e3.symm.trans he) (by decide))) (Option.some.inj e4)) rfl rfl rfl ?_
        exact j_to (.cons (.of_lk rfl) <| .cons (.of_lk rfl) <| .cons (.of_lk rfl) <| .cons (.of_lk rfl) <| .cons (.of_lk rfl) <| .cons (.of_lk rfl) <| .nil) (.nil) (J ())
      · replace e4 := bf e3 e4
        refine j_pure_y (pj_move (has_tmp rfl)) rfl rfl rfl rfl (bl_isx e3) rfl rfl ?_
        refine j_pure_y (pj_igtr (has_tmp rfl) has_i64) rfl rfl rfl rfl (bl_isx e3) rfl rfl ?_
        refine j_pure (PJ.eqv (R := bl) (pj_pick (t := any) (has_tmp rfl) (fun he => absurd (e3.symm.trans he) (by decide)) (fun _ => (has_tmp rfl))) (Option.some.inj e4)) rfl rfl rfl ?_
        exact j_to (.cons (.of_lk rfl) <| .cons (.of_lk rfl) <| .cons (.of_lk rfl) <| .cons (.of_lk rfl) <| .cons (.of_lk rfl) <| .cons (.of_lk rfl) <| .nil) (.nil) (J ())
  · rcases bool_tf (decide (p_m < (0 : Int))) with e1 | e1
    · replace e2 := bt e1 e2
      refine j_guard_no2 (j := 2) (want := false) rfl rfl rfl rfl (bl_isx e1) rfl rfl rfl ?_
      refine j_guard_no2 (j := 2) (want := false) rfl rfl rfl rfl (bl_isx e1) rfl rfl rfl ?_
      refine j_guard_no2 (j := 2) (want := false) rfl rfl rfl rfl (bl_isx e1) rfl rfl rfl ?_
      refine j_pure (PJ.eqv (R := bl) (pj_pick (t := any) (has_tmp rfl) (fun _ => has_bl) (fun he => absurd (e1.symm.trans he) (by decide))) (Option.some.inj e2)) rfl rfl rfl ?_
      exact j_to (.cons (.of_lk rfl) <| .cons (.of_lk rfl) <| .cons (.of_lk rfl) <| .cons (.of_lk rfl) <| .cons (.of_lk rfl) <| .cons (.of_lk rfl) <| .nil) (.nil) (J ())
    · replace e2 := bf e1 e2
      refine j_pure_y (pj_move (has_tmp rfl)) rfl rfl rfl rfl (bl_isx e1) rfl rfl ?_
      refine j_pure_y (pj_move (has_tmp rfl)) rfl rfl rfl rfl (bl_isx e1) rfl rfl ?_
      refine j_pure_y (pj_igtr (has_tmp rfl) (has_tmp rfl)) rfl rfl rfl rfl (bl_isx e1) rfl rfl ?_
      refine j_pure (PJ.eqv (R := bl) (pj_pick (t := any) (has_tmp rfl) (fun he => absurd (e1.symm.trans he) (by decide)) (fun _ => (has_tmp rfl))) (Option.some.inj e2)) rfl rfl rfl ?_
      exact j_to (.cons (.of_lk rfl) <| .cons (.of_lk rfl) <| .cons (.of_lk rfl) <| .cons (.of_lk rfl) <| .cons (.of_lk rfl) <| .cons (.of_lk rfl) <| .nil) (.nil) (J ())
set_option maxRecDepth 100000 in
set_option maxHeartbeats 4000000 in
theorem c_rolodexref16_IsGrowth {G : GP} {p_t : T_rolodexref16_Trail} {p_m : Int} {p_n : Int} {p_old : T_api_Hash} {p_root : T_api_Hash} {r : Bool} (h : rolodexref16_IsGrowth p_t p_m p_n p_old p_root = some r) : Ctr Tryd.prog G 44 [R_rolodexref16_Trail.slot p_t, i64.slot p_m, i64.slot p_n, R_api_Hash.slot p_old, R_api_Hash.slot p_root] [] (fun (_ : Unit) => bl.slot r) (fun (_ : Unit) => []) := by
  unfold rolodexref16_IsGrowth at h
  refine ctr_of_run Tryd.func44 rfl 64 rfl rfl fun m0 w0 b0 => ?_
  show Run _ _ _ [(0, R_rolodexref16_Trail.slot p_t), (1, i64.slot p_m), (2, i64.slot p_n), (3, R_api_Hash.slot p_old), (4, R_api_Hash.slot p_root)] _
  refine run_seq ?_
  refine run_text ?_
  refine j_pure (pj_box_to (has_tmp rfl)) rfl rfl rfl ?_
  refine j_pure (pj_box_to (has_tmp rfl)) rfl rfl rfl ?_
  refine j_pure (pj_box_to (has_tmp rfl)) rfl rfl rfl ?_
  refine j_pure (pj_assign has_bl) rfl rfl rfl ?_
  refine j_end ?_
  refine run_seq ?_
  refine run_seq ?_
  refine run_text ?_
  refine j_pure (pj_move (has_tmp rfl)) rfl rfl rfl ?_
  refine j_pure (pj_ilss (has_tmp rfl) has_i64) rfl rfl rfl ?_
  refine j_pure (pj_move (has_tmp rfl)) rfl rfl rfl ?_
  obtain ⟨y1, e2, h⟩ := bind_some h
  refine j_joinx (ι := Unit) (Γ' := fun _ => [(1, i64.slot p_m), (2, i64.slot p_n), (5, ptrTo R_rolodexref16_Trail p_t), (8, ptrTo R_api_Hash p_old), (9, ptrTo R_api_Hash p_root), (22, bl.slot y1)]) (H' := fun _ => []) 4 ?_ fun J => ?_
  · intro _
    clear e2
    show OpsJ _ _ _ [(1, i64.slot p_m), (2, i64.slot p_n), (5, ptrTo R_rolodexref16_Trail p_t), (8, ptrTo R_api_Hash p_old), (9, ptrTo R_api_Hash p_root), (22, bl.slot y1)] [] _
    refine j_pure (pj_move (has_tmp rfl)) rfl rfl rfl ?_
    obtain ⟨y2, e4, h⟩ := bind_some h
    refine j_joinx (ι := Unit) (Γ' := fun _ => [(1, i64.slot p_m), (2, i64.slot p_n), (5, ptrTo R_rolodexref16_Trail p_t), (8, ptrTo R_api_Hash p_old), (9, ptrTo R_api_Hash p_root), (26, bl.slot y2)]) (H' := fun _ => []) 3 ?_ fun J => ?_
    · intro _
      clear e4
      show OpsJ _ _ _ [(1, i64.slot p_m), (2, i64.slot p_n), (5, ptrTo R_rolodexref16_Trail p_t), (8, ptrTo R_api_Hash p_old), (9, ptrTo R_api_Hash p_root), (26, bl.slot y2)] [] _
      refine j_end ?_
      refine run_cond (has_tmp rfl) (fun e5 => ?_) (fun e5 => ?_)
      · replace h := bt e5 h
        refine run_seq ?_
        refine run_text ?_
        refine j_pure (pj_assign has_bl) rfl rfl rfl ?_
        refine j_end ?_
        obtain rfl := Option.some.inj h
        exact run_ret fun a w hst => q_ret1 hst rfl (.tmp rfl) () (fun _ _ h => h) (.nil)
      · replace h := bf e5 h
        refine run_skip ?_
        refine run_seq ?_
        refine run_text ?_
        refine j_pure (pj_move (has_tmp rfl)) rfl rfl rfl ?_
        refine j_pure (pj_field_to (has_tmp rfl) (Path.fst (sl R_api_Hash) (sl R_api_Hash)) (by kernel_rfl)) rfl rfl rfl ?_
        refine j_pure (pj_load_to (has_tmp rfl) (by kernel_rfl)) rfl rfl rfl ?_
        obtain ⟨x1, e6, h⟩ := bind_some h
        refine j_pure (PJ.eqv (pj_build (R := R_rolodexref15_Range) (zero_prod zero_i64 (zero_prod zero_i64 zero_sl)) (by kernel_rfl) (by kernel_rfl) rfl (.cons (has_tmp rfl) (Path.then (Path.snd i64 (prod i64 (sl R_api_Hash))) (Path.fst i64 (sl R_api_Hash))) (by kernel_rfl) (.cons (has_tmp rfl) (Path.then (Path.snd i64 (prod i64 (sl R_api_Hash))) (Path.snd i64 (sl R_api_Hash))) (by kernel_rfl) .nil))) (Option.some.inj e6)) rfl rfl rfl ?_
        refine j_alloc (x := (0, 0, ([] : List T_api_Hash))) (R := R_rolodexref15_Range) (zero_prod zero_i64 (zero_prod zero_i64 zero_sl)) (by kernel_rfl) rfl fun b1 => ?_
        refine j_store_boxx (r' := x1) (has_tmp rfl) (has_tmp rfl) .here (Path.all R_rolodexref15_Range) (by kernel_rfl) rfl ?_
        refine j_freezeTo (t := 11) .here (.of_lk rfl) ?_
        refine j_end ?_
        refine run_seq ?_
        refine run_text ?_
        refine j_pure (pj_load_to (has_tmp rfl) (by kernel_rfl)) rfl rfl rfl ?_
        obtain ⟨r1, e7, h⟩ := bind_some h
        refine j_pure (pj_call (hasL_cons (has_tmp rfl) <| hasL_nil) (by kernel_rfl) (c_rolodexref15_Root e7)) rfl rfl rfl ?_
        refine j_pure (pj_move (has_tmp rfl)) rfl rfl rfl ?_
        refine j_pure (pj_extract (has_tmp rfl) rfl) rfl rfl rfl ?_
        refine j_pure (pj_extract (has_tmp rfl) rfl) rfl rfl rfl ?_
        refine j_alloc (x := (Vector.replicate 32 (0#8))) (R := R_api_Hash) (zero_vec 32 zero_un) (by kernel_rfl) rfl fun b2 => ?_
        refine j_store_boxx (r' := r1.1) (has_tmp rfl) (has_tmp rfl) .here (Path.all R_api_Hash) (by kernel_rfl) rfl ?_
        refine j_freezeTo (t := 12) .here (.of_lk rfl) ?_
        refine j_pure (pj_assign (has_tmp rfl)) rfl rfl rfl ?_
        refine j_end ?_
        refine run_seq ?_
        refine run_text ?_
        refine j_pure (pj_load_to (has_tmp rfl) (by kernel_rfl)) rfl rfl rfl ?_
        refine j_pure (pj_move (has_tmp rfl)) rfl rfl rfl ?_
        refine j_pure (pj_move (has_tmp rfl)) rfl rfl rfl ?_
        refine j_pure (pj_field_to (has_tmp rfl) (Path.snd (sl R_api_Hash) (sl R_api_Hash)) (by kernel_rfl)) rfl rfl rfl ?_
        refine j_pure (pj_load_to (has_tmp rfl) (by kernel_rfl)) rfl rfl rfl ?_
        obtain ⟨x2, e8, h⟩ := bind_some h
        refine j_pure (PJ.eqv (pj_build (R := R_rolodexref15_Range) (zero_prod zero_i64 (zero_prod zero_i64 zero_sl)) (by kernel_rfl) (by kernel_rfl) rfl (.cons (has_tmp rfl) (Path.fst i64 (prod i64 (sl R_api_Hash))) (by kernel_rfl) (.cons (has_tmp rfl) (Path.then (Path.snd i64 (prod i64 (sl R_api_Hash))) (Path.fst i64 (sl R_api_Hash))) (by kernel_rfl) (.cons (has_tmp rfl) (Path.then (Path.snd i64 (prod i64 (sl R_api_Hash))) (Path.snd i64 (sl R_api_Hash))) (by kernel_rfl) .nil)))) (Option.some.inj e8)) rfl rfl rfl ?_
        refine j_pure (pj_move (has_tmp rfl)) rfl rfl rfl ?_
        refine j_pure (pj_move (has_tmp rfl)) rfl rfl rfl ?_
        obtain ⟨x3, e9, h⟩ := bind_some h
        refine j_pure (PJ.eqv (pj_build (R := R_rolodexref15_Range) (zero_prod zero_i64 (zero_prod zero_i64 zero_sl)) (by kernel_rfl) (by kernel_rfl) rfl (.cons (has_tmp rfl) (Path.fst i64 (prod i64 (sl R_api_Hash))) (by kernel_rfl) (.cons (has_tmp rfl) (Path.then (Path.snd i64 (prod i64 (sl R_api_Hash))) (Path.fst i64 (sl R_api_Hash))) (by kernel_rfl) .nil))) (Option.some.inj e9)) rfl rfl rfl ?_
        obtain ⟨r2, e10, h⟩ := bind_some h
        refine j_pure (pj_call (hasL_cons (has_tmp rfl) <| hasL_cons (has_tmp rfl) <| hasL_cons (has_tmp rfl) <| hasL_nil) (by kernel_rfl) (c_rolodexref16_All e10)) rfl rfl rfl ?_
        refine j_pure (pj_move (has_tmp rfl)) rfl rfl rfl ?_
        refine j_pure (pj_extract (has_tmp rfl) rfl) rfl rfl rfl ?_
        refine j_pure (pj_extract (has_tmp rfl) rfl) rfl rfl rfl ?_
        refine j_alloc (x := (Vector.replicate 32 (0#8))) (R := R_api_Hash) (zero_vec 32 zero_un) (by kernel_rfl) rfl fun b3 => ?_
        refine j_store_boxx (r' := r2.1) (has_tmp rfl) (has_tmp rfl) .here (Path.all R_api_Hash) (by kernel_rfl) rfl ?_
        refine j_freezeTo (t := 14) .here (.of_lk rfl) ?_
        refine j_pure (pj_assign (has_tmp rfl)) rfl rfl rfl ?_
        refine j_end ?_
        refine run_seq ?_
        refine run_text ?_
        refine j_pure (pj_move (has_tmp rfl)) rfl rfl rfl ?_
        refine j_pure (pj_ieql (has_tmp rfl) has_i64) rfl rfl rfl ?_
        refine j_pure (pj_move (has_tmp rfl)) rfl rfl rfl ?_
        obtain ⟨y3, e12, h⟩ := bind_some h
        refine j_joinx (ι := Unit) (Γ' := fun _ => [(9, ptrTo R_api_Hash p_root), (14, ptrTo R_api_Hash r2.1), (15, bl.slot r2.2), (55, bl.slot y3)]) (H' := fun _ => []) 4 ?_ fun J => ?_
        · intro _
          clear e12
          show OpsJ _ _ _ [(9, ptrTo R_api_Hash p_root), (14, ptrTo R_api_Hash r2.1), (15, bl.slot r2.2), (55, bl.slot y3)] [] _
          refine j_pure (pj_move (has_tmp rfl)) rfl rfl rfl ?_
          obtain ⟨y4, e14, h⟩ := bind_some h
          refine j_joinx (ι := Unit) (Γ' := fun _ => [(9, ptrTo R_api_Hash p_root), (14, ptrTo R_api_Hash r2.1), (58, bl.slot y4)]) (H' := fun _ => []) 2 ?_ fun J => ?_
          · intro _
            clear e14
            show OpsJ _ _ _ [(9, ptrTo R_api_Hash p_root), (14, ptrTo R_api_Hash r2.1), (58, bl.slot y4)] [] _
            refine j_pure (pj_move (has_tmp rfl)) rfl rfl rfl ?_
            obtain ⟨y5, e16, h⟩ := bind_some h
            refine j_joinx (ι := Unit) (Γ' := fun _ => [(63, bl.slot y5)]) (H' := fun _ => []) 4 ?_ fun J => ?_
            · intro _
              clear e16
              show OpsJ _ _ _ [(63, bl.slot y5)] [] _
              refine j_pure (pj_assign (has_tmp rfl)) rfl rfl rfl ?_
              refine j_end ?_
              obtain rfl := Option.some.inj h
              exact run_ret fun a w hst => q_ret1 hst rfl (.tmp rfl) () (fun _ _ h => h) (.nil)
            · rcases bool_tf (y4) with e15 | e15
              · replace e16 := bt e15 e16
                refine j_pure_y (pj_load_to (has_tmp rfl) (by kernel_rfl)) rfl rfl rfl rfl (bl_isx e15) rfl rfl ?_
                refine j_pure_y (pj_load_to (has_tmp rfl) (by kernel_rfl)) rfl rfl rfl rfl (bl_isx e15) rfl rfl ?_
                refine j_pure_y (pj_eql (n := 2) (eq_vec (e := 5) (by kernel_rfl) (by kernel_rfl) (eq_un (by kernel_rfl))) (by decide) rfl (by kernel_rfl) (has_tmp rfl) (has_tmp rfl)) rfl rfl rfl rfl (bl_isx e15) rfl rfl ?_
                refine j_pure (PJ.eqv (R := bl) (pj_pick (t := any) (has_tmp rfl) (fun _ => (has_tmp rfl)) (fun he => absurd (e15.symm.trans he) (by decide))) (Option.some.inj e16)) rfl rfl rfl ?_
                exact j_to (.cons (.of_lk rfl) <| .nil) (.nil) (J ())
              · replace e16 := bf e15 e16
                refine j_guard_no2 (j := 10) (want := true) rfl rfl rfl rfl (bl_isx e15) rfl rfl rfl ?_
                refine j_guard_no2 (j := 10) (want := true) rfl rfl rfl rfl (bl_isx e15) rfl rfl rfl ?_
                refine j_guard_no2 (j := 10) (want := true) rfl rfl rfl rfl (bl_isx e15) rfl rfl rfl ?_
                refine j_pure (PJ.eqv (R := bl) (pj_pick (t := any) (has_tmp rfl) (fun he => absurd (e15.symm.trans he) (by decide)) (fun _ => has_bl)) (Option.some.inj e16)) rfl rfl rfl ?_
                exact j_to (.cons (.of_lk rfl) <| .nil) (.nil) (J ())
          · rcases bool_tf (y3) with e13 | e13
            · replace e14 := bt e13 e14
              refine j_pure_y (pj_move (has_tmp rfl)) rfl rfl rfl rfl (bl_isx e13) rfl rfl ?_
              refine j_pure (PJ.eqv (R := bl) (pj_pick (t := any) (has_tmp rfl) (fun _ => (has_tmp rfl)) (fun he => absurd (e13.symm.trans he) (by decide))) (Option.some.inj e14)) rfl rfl rfl ?_
              exact j_to (.cons (.of_lk rfl) <| .cons (.of_lk rfl) <| .cons (.of_lk rfl) <| .nil) (.nil) (J ())
            · replace e14 := bf e13 e14
              refine j_guard_no2 (j := 7) (want := true) rfl rfl rfl rfl (bl_isx e13) rfl rfl rfl ?_
              refine j_pure (PJ.eqv (R := bl) (pj_pick (t := any) (has_tmp rfl) (fun he => absurd (e13.symm.trans he) (by decide)) (fun _ => has_bl)) (Option.some.inj e14)) rfl rfl rfl ?_
              exact j_to (.cons (.of_lk rfl) <| .cons (.of_lk rfl) <| .cons (.of_lk rfl) <| .nil) (.nil) (J ())
        · rcases bool_tf (decide (r1.2 = (0 : Int))) with e11 | e11
          · replace e12 := bt e11 e12
            refine j_pure_y (pj_load_to (has_tmp rfl) (by kernel_rfl)) rfl rfl rfl rfl (bl_isx e11) rfl rfl ?_
            refine j_pure_y (pj_load_to (has_tmp rfl) (by kernel_rfl)) rfl rfl rfl rfl (bl_isx e11) rfl rfl ?_
            refine j_pure_y (pj_eql (n := 2) (eq_vec (e := 5) (by kernel_rfl) (by kernel_rfl) (eq_un (by kernel_rfl))) (by decide) rfl (by kernel_rfl) (has_tmp rfl) (has_tmp rfl)) rfl rfl rfl rfl (bl_isx e11) rfl rfl ?_
            refine j_pure (PJ.eqv (R := bl) (pj_pick (t := any) (has_tmp rfl) (fun _ => (has_tmp rfl)) (fun he => absurd (e11.symm.trans he) (by decide))) (Option.some.inj e12)) rfl rfl rfl ?_
            exact j_to (.cons (.of_lk rfl) <| .cons (.of_lk rfl) <| .cons (.of_lk rfl) <| .cons (.of_lk rfl) <| .nil) (.nil) (J ())
          · replace e12 := bf e11 e12
            refine j_guard_no2 (j := 2) (want := true) rfl rfl rfl rfl (bl_isx e11) rfl rfl rfl ?_
            refine j_guard_no2 (j := 2) (want := true) rfl rfl rfl rfl (bl_isx e11) rfl rfl rfl ?_
            refine j_guard_no2 (j := 2) (want := true) rfl rfl rfl rfl (bl_isx e11) rfl rfl rfl ?_
            refine j_pure (PJ.eqv (R := bl) (pj_pick (t := any) (has_tmp rfl) (fun he => absurd (e11.symm.trans he) (by decide)) (fun _ => has_bl)) (Option.some.inj e12)) rfl rfl rfl ?_
            exact j_to (.cons (.of_lk rfl) <| .cons (.of_lk rfl) <| .cons (.of_lk rfl) <| .cons (.of_lk rfl) <| .nil) (.nil) (J ())
    · rcases bool_tf (y1) with e3 | e3
      · replace e4 := bt e3 e4
        refine j_guard_no2 (j := 7) (want := false) rfl rfl rfl rfl (bl_isx e3) rfl rfl rfl ?_
        refine j_guard_no2 (j := 7) (want := false) rfl rfl rfl rfl (bl_isx e3) rfl rfl rfl ?_
        refine j_pure (PJ.eqv (R := bl) (pj_pick (t := any) (has_tmp rfl) (fun _ => has_bl) (fun he => absurd (e3.symm.trans he) (by decide))) (Option.some.inj e4)) rfl rfl rfl ?_
        exact j_to (.cons (.of_lk rfl) <| .cons (.of_lk rfl) <| .cons (.of_lk rfl) <| .cons (.of_lk rfl) <| .cons (.of_lk rfl) <| .cons (.of_lk rfl) <| .nil) (.nil) (J ())
      · replace e4 := bf e3 e4
        refine j_pure_y (pj_move (has_tmp rfl)) rfl rfl rfl rfl (bl_isx e3) rfl rfl ?_
        refine j_pure_y (pj_igtr (has_tmp rfl) has_i64) rfl rfl rfl rfl (bl_isx e3) rfl rfl ?_
        refine j_pure (PJ.eqv (R := bl) (pj_pick (t := any) (has_tmp rfl) (fun he => absurd (e3.symm.trans he) (by decide)) (fun _ => (has_tmp rfl))) (Option.some.inj e4)) rfl rfl rfl ?_
        exact j_to (.cons (.of_lk rfl) <| .cons (.of_lk rfl) <| .cons (.of_lk rfl) <| .cons (.of_lk rfl) <| .cons (.of_lk rfl) <| .cons (.of_lk rfl) <| .nil) (.nil) (J ())
  · rcases bool_tf (decide (p_m < (0 : Int))) with e1 | e1
    · replace e2 := bt e1 e2
      refine j_guard_no2 (j := 2) (want := false) rfl rfl rfl rfl (bl_isx e1) rfl rfl rfl ?_
      refine j_guard_no2 (j := 2) (want := false) rfl rfl rfl rfl (bl_isx e1) rfl rfl rfl ?_
      refine j_guard_no2 (j := 2) (want := false) rfl rfl rfl rfl (bl_isx e1) rfl rfl rfl ?_
      refine j_pure (PJ.eqv (R := bl) (pj_pick (t := any) (has_tmp rfl) (fun _ => has_bl) (fun he => absurd (e1.symm.trans he) (by decide))) (Option.some.inj e2)) rfl rfl rfl ?_
      exact j_to (.cons (.of_lk rfl) <| .cons (.of_lk rfl) <| .cons (.of_lk rfl) <| .cons (.of_lk rfl) <| .cons (.of_lk rfl) <| .cons (.of_lk rfl) <| .nil) (.nil) (J ())
    · replace e2 := bf e1 e2
      refine j_pure_y (pj_move (has_tmp rfl)) rfl rfl rfl rfl (bl_isx e1) rfl rfl ?_
      refine j_pure_y (pj_move (has_tmp rfl)) rfl rfl rfl rfl (bl_isx e1) rfl rfl ?_
      refine j_pure_y (pj_igtr (has_tmp rfl) (has_tmp rfl)) rfl rfl rfl rfl (bl_isx e1) rfl rfl ?_
      refine j_pure (PJ.eqv (R := bl) (pj_pick (t := any) (has_tmp rfl) (fun he => absurd (e1.symm.trans he) (by decide)) (fun _ => (has_tmp rfl))) (Option.some.inj e2)) rfl rfl rfl ?_
      exact j_to (.cons (.of_lk rfl) <| .cons (.of_lk rfl) <| .cons (.of_lk rfl) <| .cons (.of_lk rfl) <| .cons (.of_lk rfl) <| .cons (.of_lk rfl) <| .nil) (.nil) (J ())
set_option maxRecDepth 100000 in
set_option maxHeartbeats 4000000 in
theorem c_rolodexlaw16_TrailChecks {G : GP} (hg0 : HG0 G) (hg1 : HG1 G) (hg2 : HG2 G) (hg3 : HG3 G) {p_t : T_rolodexref16_Trail} {p_s : T_rolodexlaw16_Said} {r : Bool} (h : rolodexlaw16_TrailChecks p_t p_s = some r) : Ctr Tryd.prog G 10 [R_rolodexref16_Trail.slot p_t, R_rolodexlaw16_Said.slot p_s] [] (fun (_ : Unit) => bl.slot r) (fun (_ : Unit) => []) := by
  unfold rolodexlaw16_TrailChecks at h
  refine ctr_of_run Tryd.func10 rfl 168 rfl rfl fun m0 w0 b0 => ?_
  show Run _ _ _ [(0, R_rolodexref16_Trail.slot p_t), (1, R_rolodexlaw16_Said.slot p_s)] _
  refine run_seq ?_
  refine run_text ?_
  refine j_pure (pj_box_to (has_tmp rfl)) rfl rfl rfl ?_
  refine j_pure (pj_box_to (has_tmp rfl)) rfl rfl rfl ?_
  refine j_pure (pj_assign has_bl) rfl rfl rfl ?_
  refine j_end ?_
  refine run_seq ?_
  refine run_seq ?_
  refine run_text ?_
  obtain ⟨r1, e1, h⟩ := bind_some h
  refine j_pure (pj_call (hasL_nil) (by kernel_rfl) (c_rolodexlaw16_awake hg0 hg1 hg2 hg3 e1)) rfl rfl rfl ?_
  refine j_pure (pj_not (has_tmp rfl)) rfl rfl rfl ?_
  refine j_pure (pj_move (has_tmp rfl)) rfl rfl rfl ?_
  obtain ⟨y1, e3, h⟩ := bind_some h
  refine j_joinx (ι := Unit) (Γ' := fun _ => [(2, ptrTo R_rolodexref16_Trail p_t), (3, ptrTo R_rolodexlaw16_Said p_s), (19, bl.slot y1)]) (H' := fun _ => []) 4 ?_ fun J => ?_
  · intro _
    clear e3
    show OpsJ _ _ _ [(2, ptrTo R_rolodexref16_Trail p_t), (3, ptrTo R_rolodexlaw16_Said p_s), (19, bl.slot y1)] [] _
    refine j_end ?_
    refine run_cond (has_tmp rfl) (fun e5 => ?_) (fun e5 => ?_)
    · replace h := bt e5 h
      refine run_seq ?_
      refine run_text ?_
      obtain ⟨r3, e6, h⟩ := bind_some h
      refine j_pure (pj_call (hasL_nil) (by kernel_rfl) (c_rolodexlaw16_awake hg0 hg1 hg2 hg3 e6)) rfl rfl rfl ?_
      refine j_pure (pj_assign (has_tmp rfl)) rfl rfl rfl ?_
      refine j_end ?_
      obtain rfl := Option.some.inj h
      exact run_ret fun a w hst => q_ret1 hst rfl (.tmp rfl) () (fun _ _ h => h) (.nil)
    · replace h := bf e5 h
      refine run_skip ?_
      refine run_seq ?_
      refine run_text ?_
      refine j_pure (pj_load_to (has_tmp rfl) (by kernel_rfl)) rfl rfl rfl ?_
      refine j_alloc (x := (([] : List T_api_Hash), ([] : List T_api_Hash))) (R := R_trail_Trail) (zero_prod zero_sl zero_sl) (by kernel_rfl) rfl fun b1 => ?_
      refine j_store_boxx (r' := p_t) (has_tmp rfl) (has_tmp rfl) .here (Path.all R_trail_Trail) (by kernel_rfl) rfl ?_
      refine j_freezeTo (t := 5) .here (.of_lk rfl) ?_
      refine j_end ?_
      refine run_seq ?_
      refine run_seq ?_
      obtain ⟨r4, e7, h⟩ := bind_some h
      obtain ⟨r5, e8, h⟩ := bind_some h
      obtain ⟨y2, e10, h⟩ := bind_some h
      refine (run_drawJ (n := 44) (Γ' := [(2, ptrTo R_rolodexref16_Trail p_t), (3, ptrTo R_rolodexlaw16_Said p_s), (5, ptrTo R_trail_Trail p_t), (65, bl.slot y2)]) (H' := []) ?_ fun J => ?_)
      · clear e10
        refine j_end ?_
        refine run_cond (has_tmp rfl) (fun e13 => ?_) (fun e13 => ?_)
        · replace h := bt e13 h
          refine run_seq ?_
          refine run_text ?_
          refine j_pure (pj_assign has_bl) rfl rfl rfl ?_
          refine j_end ?_
          obtain rfl := Option.some.inj h
          exact run_ret fun a w hst => q_ret1 hst rfl (.tmp rfl) () (fun _ _ h => h) (.nil)
        · replace h := bf e13 h
          refine run_skip ?_
          refine run_seq ?_
          refine run_seq ?_
          refine run_text ?_
          refine j_pure (pj_field_to (has_tmp rfl) (Path.fst i64 (prod i64 (prod R_api_Hash R_api_Hash))) (by kernel_rfl)) rfl rfl rfl ?_
          refine j_pure (pj_load_to (has_tmp rfl) (by kernel_rfl)) rfl rfl rfl ?_
          refine j_pure (pj_ilss (has_tmp rfl) has_i64) rfl rfl rfl ?_
          refine j_pure (pj_move (has_tmp rfl)) rfl rfl rfl ?_
          obtain ⟨y3, e15, h⟩ := bind_some h
          refine j_joinx (ι := Unit) (Γ' := fun _ => [(2, ptrTo R_rolodexref16_Trail p_t), (3, ptrTo R_rolodexlaw16_Said p_s), (5, ptrTo R_trail_Trail p_t), (75, bl.slot y3)]) (H' := fun _ => []) 6 ?_ fun J => ?_
          · intro _
            clear e15
            show OpsJ _ _ _ [(2, ptrTo R_rolodexref16_Trail p_t), (3, ptrTo R_rolodexlaw16_Said p_s), (5, ptrTo R_trail_Trail p_t), (75, bl.slot y3)] [] _
            refine j_pure (pj_move (has_tmp rfl)) rfl rfl rfl ?_
            obtain ⟨y4, e17, h⟩ := bind_some h
            refine j_joinx (ι := Unit) (Γ' := fun _ => [(2, ptrTo R_rolodexref16_Trail p_t), (3, ptrTo R_rolodexlaw16_Said p_s), (5, ptrTo R_trail_Trail p_t), (80, bl.slot y4)]) (H' := fun _ => []) 4 ?_ fun J => ?_
            · intro _
              clear e17
              show OpsJ _ _ _ [(2, ptrTo R_rolodexref16_Trail p_t), (3, ptrTo R_rolodexlaw16_Said p_s), (5, ptrTo R_trail_Trail p_t), (80, bl.slot y4)] [] _
              refine j_end ?_
              refine run_cond (has_tmp rfl) (fun e18 => ?_) (fun e18 => ?_)
              · replace h := bt e18 h
                refine run_seq ?_
                refine run_text ?_
                refine j_pure (pj_assign has_bl) rfl rfl rfl ?_
                refine j_end ?_
                obtain rfl := Option.some.inj h
                exact run_ret fun a w hst => q_ret1 hst rfl (.tmp rfl) () (fun _ _ h => h) (.nil)
              · replace h := bf e18 h
                refine run_skip ?_
                refine run_seq ?_
                refine run_text ?_
                refine j_pure (pj_field_to (has_tmp rfl) (Path.fst i64 (prod i64 (prod R_api_Hash R_api_Hash))) (by kernel_rfl)) rfl rfl rfl ?_
                refine j_pure (pj_load_to (has_tmp rfl) (by kernel_rfl)) rfl rfl rfl ?_
                refine j_pure (pj_field_to (has_tmp rfl) (Path.fst (sl R_api_Hash) (sl R_api_Hash)) (by kernel_rfl)) rfl rfl rfl ?_
                refine j_pure (pj_load_to (has_tmp rfl) (by kernel_rfl)) rfl rfl rfl ?_
                obtain ⟨x1, e19, h⟩ := bind_some h
                refine j_pure (PJ.eqv (pj_build (R := R_rolodexref15_Range) (zero_prod zero_i64 (zero_prod zero_i64 zero_sl)) (by kernel_rfl) (by kernel_rfl) rfl (.cons (has_tmp rfl) (Path.then (Path.snd i64 (prod i64 (sl R_api_Hash))) (Path.fst i64 (sl R_api_Hash))) (by kernel_rfl) (.cons (has_tmp rfl) (Path.then (Path.snd i64 (prod i64 (sl R_api_Hash))) (Path.snd i64 (sl R_api_Hash))) (by kernel_rfl) .nil))) (Option.some.inj e19)) rfl rfl rfl ?_
                refine j_alloc (x := (0, 0, ([] : List T_api_Hash))) (R := R_rolodexref15_Range) (zero_prod zero_i64 (zero_prod zero_i64 zero_sl)) (by kernel_rfl) rfl fun b2 => ?_
                refine j_store_boxx (r' := x1) (has_tmp rfl) (has_tmp rfl) .here (Path.all R_rolodexref15_Range) (by kernel_rfl) rfl ?_
                refine j_freezeTo (t := 6) .here (.of_lk rfl) ?_
                refine j_end ?_
                refine run_seq ?_
                refine run_text ?_
                refine j_pure (pj_load_to (has_tmp rfl) (by kernel_rfl)) rfl rfl rfl ?_
                refine j_pure (pj_field_to (has_tmp rfl) (Path.fst i64 (prod i64 (prod R_api_Hash R_api_Hash))) (by kernel_rfl)) rfl rfl rfl ?_
                refine j_pure (pj_load_to (has_tmp rfl) (by kernel_rfl)) rfl rfl rfl ?_
                refine j_pure (pj_field_to (has_tmp rfl) (Path.fst i64 (prod i64 (prod R_api_Hash R_api_Hash))) (by kernel_rfl)) rfl rfl rfl ?_
                refine j_pure (pj_load_to (has_tmp rfl) (by kernel_rfl)) rfl rfl rfl ?_
                refine j_pure (pj_iadd (has_tmp rfl) has_i64) rfl rfl rfl ?_
                refine j_pure (pj_field_to (has_tmp rfl) (Path.then (Path.snd i64 (prod i64 (prod R_api_Hash R_api_Hash))) (Path.then (Path.snd i64 (prod R_api_Hash R_api_Hash)) (Path.fst R_api_Hash R_api_Hash))) (by kernel_rfl)) rfl rfl rfl ?_
                refine j_pure (pj_load_to (has_tmp rfl) (by kernel_rfl)) rfl rfl rfl ?_
                refine j_pure (pj_buildSlice (T := 24) (R := R_api_Hash) (.cons (has_tmp rfl) .nil) rfl (by kernel_rfl) (by kernel_rfl)) rfl rfl rfl ?_
                obtain ⟨x2, e20, h⟩ := bind_some h
                refine j_pure (PJ.eqv (pj_build (R := R_rolodexref15_Range) (zero_prod zero_i64 (zero_prod zero_i64 zero_sl)) (by kernel_rfl) (by kernel_rfl) rfl (.cons (has_tmp rfl) (Path.fst i64 (prod i64 (sl R_api_Hash))) (by kernel_rfl) (.cons (has_tmp rfl) (Path.then (Path.snd i64 (prod i64 (sl R_api_Hash))) (Path.fst i64 (sl R_api_Hash))) (by kernel_rfl) (.cons (has_tmp rfl) (Path.then (Path.snd i64 (prod i64 (sl R_api_Hash))) (Path.snd i64 (sl R_api_Hash))) (by kernel_rfl) .nil)))) (Option.some.inj e20)) rfl rfl rfl ?_
                refine j_pure (pj_field_to (has_tmp rfl) (Path.fst i64 (prod i64 (prod R_api_Hash R_api_Hash))) (by kernel_rfl)) rfl rfl rfl ?_
                refine j_pure (pj_load_to (has_tmp rfl) (by kernel_rfl)) rfl rfl rfl ?_
                refine j_pure (pj_iadd (has_tmp rfl) has_i64) rfl rfl rfl ?_
                refine j_pure (pj_field_to (has_tmp rfl) (Path.then (Path.snd i64 (prod i64 (prod R_api_Hash R_api_Hash))) (Path.fst i64 (prod R_api_Hash R_api_Hash))) (by kernel_rfl)) rfl rfl rfl ?_
                refine j_pure (pj_load_to (has_tmp rfl) (by kernel_rfl)) rfl rfl rfl ?_
                refine j_pure (pj_field_to (has_tmp rfl) (Path.snd (sl R_api_Hash) (sl R_api_Hash)) (by kernel_rfl)) rfl rfl rfl ?_
                refine j_pure (pj_load_to (has_tmp rfl) (by kernel_rfl)) rfl rfl rfl ?_
                obtain ⟨x3, e21, h⟩ := bind_some h
                refine j_pure (PJ.eqv (pj_build (R := R_rolodexref15_Range) (zero_prod zero_i64 (zero_prod zero_i64 zero_sl)) (by kernel_rfl) (by kernel_rfl) rfl (.cons (has_tmp rfl) (Path.fst i64 (prod i64 (sl R_api_Hash))) (by kernel_rfl) (.cons (has_tmp rfl) (Path.then (Path.snd i64 (prod i64 (sl R_api_Hash))) (Path.fst i64 (sl R_api_Hash))) (by kernel_rfl) (.cons (has_tmp rfl) (Path.then (Path.snd i64 (prod i64 (sl R_api_Hash))) (Path.snd i64 (sl R_api_Hash))) (by kernel_rfl) .nil)))) (Option.some.inj e21)) rfl rfl rfl ?_
                obtain ⟨r8, e22, h⟩ := bind_some h
                refine j_pure (pj_call (hasL_cons (has_tmp rfl) <| hasL_cons (has_tmp rfl) <| hasL_cons (has_tmp rfl) <| hasL_nil) (by kernel_rfl) (c_rolodexref16_All e22)) rfl rfl rfl ?_
                refine j_pure (pj_move (has_tmp rfl)) rfl rfl rfl ?_
                refine j_pure (pj_extract (has_tmp rfl) rfl) rfl rfl rfl ?_
                refine j_pure (pj_extract (has_tmp rfl) rfl) rfl rfl rfl ?_
                refine j_alloc (x := (Vector.replicate 32 (0#8))) (R := R_api_Hash) (zero_vec 32 zero_un) (by kernel_rfl) rfl fun b3 => ?_
                refine j_store_boxx (r' := r8.1) (has_tmp rfl) (has_tmp rfl) .here (Path.all R_api_Hash) (by kernel_rfl) rfl ?_
                refine j_freezeTo (t := 7) .here (.of_lk rfl) ?_
                refine j_pure (pj_assign (has_tmp rfl)) rfl rfl rfl ?_
                refine j_end ?_
                refine run_seq ?_
                refine run_text ?_
                refine j_pure (pj_load_to (has_tmp rfl) (by kernel_rfl)) rfl rfl rfl ?_
                obtain ⟨r9, e23, h⟩ := bind_some h
                refine j_pure (pj_call (hasL_cons (has_tmp rfl) <| hasL_nil) (by kernel_rfl) (c_rolodexref15_Root e23)) rfl rfl rfl ?_
                refine j_pure (pj_move (has_tmp rfl)) rfl rfl rfl ?_
                refine j_pure (pj_extract (has_tmp rfl) rfl) rfl rfl rfl ?_
                refine j_pure (pj_extract (has_tmp rfl) rfl) rfl rfl rfl ?_
                refine j_alloc (x := (Vector.replicate 32 (0#8))) (R := R_api_Hash) (zero_vec 32 zero_un) (by kernel_rfl) rfl fun b4 => ?_
                refine j_store_boxx (r' := r9.1) (has_tmp rfl) (has_tmp rfl) .here (Path.all R_api_Hash) (by kernel_rfl) rfl ?_
                refine j_freezeTo (t := 9) .here (.of_lk rfl) ?_
                refine j_pure (pj_assign (has_tmp rfl)) rfl rfl rfl ?_
                refine j_end ?_
                refine run_seq ?_
                refine run_text ?_
                refine j_pure (pj_load_to (has_tmp rfl) (by kernel_rfl)) rfl rfl rfl ?_
                refine j_pure (pj_field_to (has_tmp rfl) (Path.fst i64 (prod i64 (prod R_api_Hash R_api_Hash))) (by kernel_rfl)) rfl rfl rfl ?_
                refine j_pure (pj_load_to (has_tmp rfl) (by kernel_rfl)) rfl rfl rfl ?_
                refine j_pure (pj_field_to (has_tmp rfl) (Path.then (Path.snd i64 (prod i64 (prod R_api_Hash R_api_Hash))) (Path.fst i64 (prod R_api_Hash R_api_Hash))) (by kernel_rfl)) rfl rfl rfl ?_
                refine j_pure (pj_load_to (has_tmp rfl) (by kernel_rfl)) rfl rfl rfl ?_
                refine j_pure (pj_field_to (has_tmp rfl) (Path.snd (sl R_api_Hash) (sl R_api_Hash)) (by kernel_rfl)) rfl rfl rfl ?_
                refine j_pure (pj_load_to (has_tmp rfl) (by kernel_rfl)) rfl rfl rfl ?_
                obtain ⟨x4, e24, h⟩ := bind_some h
                refine j_pure (PJ.eqv (pj_build (R := R_rolodexref15_Range) (zero_prod zero_i64 (zero_prod zero_i64 zero_sl)) (by kernel_rfl) (by kernel_rfl) rfl (.cons (has_tmp rfl) (Path.fst i64 (prod i64 (sl R_api_Hash))) (by kernel_rfl) (.cons (has_tmp rfl) (Path.then (Path.snd i64 (prod i64 (sl R_api_Hash))) (Path.fst i64 (sl R_api_Hash))) (by kernel_rfl) (.cons (has_tmp rfl) (Path.then (Path.snd i64 (prod i64 (sl R_api_Hash))) (Path.snd i64 (sl R_api_Hash))) (by kernel_rfl) .nil)))) (Option.some.inj e24)) rfl rfl rfl ?_
                refine j_pure (pj_field_to (has_tmp rfl) (Path.then (Path.snd i64 (prod i64 (prod R_api_Hash R_api_Hash))) (Path.fst i64 (prod R_api_Hash R_api_Hash))) (by kernel_rfl)) rfl rfl rfl ?_
                refine j_pure (pj_load_to (has_tmp rfl) (by kernel_rfl)) rfl rfl rfl ?_
                refine j_pure (pj_field_to (has_tmp rfl) (Path.then (Path.snd i64 (prod i64 (prod R_api_Hash R_api_Hash))) (Path.fst i64 (prod R_api_Hash R_api_Hash))) (by kernel_rfl)) rfl rfl rfl ?_
                refine j_pure (pj_load_to (has_tmp rfl) (by kernel_rfl)) rfl rfl rfl ?_
                obtain ⟨x5, e25, h⟩ := bind_some h
                refine j_pure (PJ.eqv (pj_build (R := R_rolodexref15_Range) (zero_prod zero_i64 (zero_prod zero_i64 zero_sl)) (by kernel_rfl) (by kernel_rfl) rfl (.cons (has_tmp rfl) (Path.fst i64 (prod i64 (sl R_api_Hash))) (by kernel_rfl) (.cons (has_tmp rfl) (Path.then (Path.snd i64 (prod i64 (sl R_api_Hash))) (Path.fst i64 (sl R_api_Hash))) (by kernel_rfl) .nil))) (Option.some.inj e25)) rfl rfl rfl ?_
                obtain ⟨r10, e26, h⟩ := bind_some h
                refine j_pure (pj_call (hasL_cons (has_tmp rfl) <| hasL_cons (has_tmp rfl) <| hasL_cons (has_tmp rfl) <| hasL_nil) (by kernel_rfl) (c_rolodexref16_All e26)) rfl rfl rfl ?_
                refine j_pure (pj_move (has_tmp rfl)) rfl rfl rfl ?_
                refine j_pure (pj_extract (has_tmp rfl) rfl) rfl rfl rfl ?_
                refine j_pure (pj_extract (has_tmp rfl) rfl) rfl rfl rfl ?_
                refine j_alloc (x := (Vector.replicate 32 (0#8))) (R := R_api_Hash) (zero_vec 32 zero_un) (by kernel_rfl) rfl fun b5 => ?_
                refine j_store_boxx (r' := r10.1) (has_tmp rfl) (has_tmp rfl) .here (Path.all R_api_Hash) (by kernel_rfl) rfl ?_
                refine j_freezeTo (t := 11) .here (.of_lk rfl) ?_
                refine j_pure (pj_assign (has_tmp rfl)) rfl rfl rfl ?_
                refine j_end ?_
                refine run_seq ?_
                obtain ⟨r11, e27, h⟩ := bind_some h
                obtain ⟨r12, e28, h⟩ := bind_some h
                obtain ⟨y5, e30, h⟩ := bind_some h
                refine (run_drawJ (n := 38) (Γ' := [(167, bl.slot y5)]) (H' := []) ?_ fun J => ?_)
                · clear e30
                  refine j_pure (pj_assign (has_tmp rfl)) rfl rfl rfl ?_
                  refine j_end ?_
                  obtain rfl := Option.some.inj h
                  exact run_ret fun a w hst => q_ret1 hst rfl (.tmp rfl) () (fun _ _ h => h) (.nil)
                · rcases bool_tf (r11 == r12) with e29 | e29
                  · replace e30 := bt e29 e30
                    obtain ⟨r13, e31, e30⟩ := bind_some e30
                    obtain ⟨r14, e32, e30⟩ := bind_some e30
                    exact run_draw (n := 38) (by kernel_rfl) (by kernel_rfl) (by kernel_rfl) (by kernel_rfl) (.read (.plain rfl (pj_load_to (has_tmp rfl) (by kernel_rfl))) <| .read (.plain rfl (pj_field_to (has_tmp rfl) (Path.fst i64 (prod i64 (prod R_api_Hash R_api_Hash))) (by kernel_rfl))) <| .read (.plain rfl (pj_load_to (has_tmp rfl) (by kernel_rfl))) <| .read (.plain rfl (pj_field_to (has_tmp rfl) (Path.then (Path.snd i64 (prod i64 (prod R_api_Hash R_api_Hash))) (Path.fst i64 (prod R_api_Hash R_api_Hash))) (by kernel_rfl))) <| .read (.plain rfl (pj_load_to (has_tmp rfl) (by kernel_rfl))) <| .read (.plain rfl (pj_field_to (has_tmp rfl) (Path.then (Path.snd i64 (prod i64 (prod R_api_Hash R_api_Hash))) (Path.then (Path.snd i64 (prod R_api_Hash R_api_Hash)) (Path.fst R_api_Hash R_api_Hash))) (by kernel_rfl))) <| .read (.plain rfl (pj_load_to (has_tmp rfl) (by kernel_rfl))) <| .read (.plain rfl (pj_load_to (has_tmp rfl) (by kernel_rfl))) <| .read (.plain rfl (pj_call (hasL_cons (has_tmp rfl) <| hasL_cons (has_tmp rfl) <| hasL_cons (has_tmp rfl) <| hasL_cons (has_tmp rfl) <| hasL_cons (has_tmp rfl) <| hasL_nil) (by kernel_rfl) (c_trail_IsEntry hg0 hg1 hg2 hg3 e27))) <| .read (.plain rfl (pj_load_to (has_tmp rfl) (by kernel_rfl))) <| .read (.plain rfl (pj_field_to (has_tmp rfl) (Path.fst i64 (prod i64 (prod R_api_Hash R_api_Hash))) (by kernel_rfl))) <| .read (.plain rfl (pj_load_to (has_tmp rfl) (by kernel_rfl))) <| .read (.plain rfl (pj_field_to (has_tmp rfl) (Path.then (Path.snd i64 (prod i64 (prod R_api_Hash R_api_Hash))) (Path.fst i64 (prod R_api_Hash R_api_Hash))) (by kernel_rfl))) <| .read (.plain rfl (pj_load_to (has_tmp rfl) (by kernel_rfl))) <| .read (.plain rfl (pj_field_to (has_tmp rfl) (Path.then (Path.snd i64 (prod i64 (prod R_api_Hash R_api_Hash))) (Path.then (Path.snd i64 (prod R_api_Hash R_api_Hash)) (Path.fst R_api_Hash R_api_Hash))) (by kernel_rfl))) <| .read (.plain rfl (pj_load_to (has_tmp rfl) (by kernel_rfl))) <| .read (.plain rfl (pj_load_to (has_tmp rfl) (by kernel_rfl))) <| .read (.plain rfl (pj_call (hasL_cons (has_tmp rfl) <| hasL_cons (has_tmp rfl) <| hasL_cons (has_tmp rfl) <| hasL_cons (has_tmp rfl) <| hasL_cons (has_tmp rfl) <| hasL_nil) (by kernel_rfl) (c_rolodexref16_IsEntry e28))) <| .read (.plain rfl (pj_beql (by kernel_rfl) (has_tmp rfl) (has_tmp rfl))) <| .read (.plain rfl (pj_move (has_tmp rfl))) <| .read (.yes ⟨19, true, _, 149, _, rfl, rfl, rfl, fun _ _ => bl_p.1, gd_yes e29⟩ (pj_load_to (has_tmp rfl) (by kernel_rfl))) <| .read (.yes ⟨19, true, _, 149, _, rfl, rfl, rfl, fun _ _ => bl_p.1, gd_yes e29⟩ (pj_field_to (has_tmp rfl) (Path.fst i64 (prod i64 (prod R_api_Hash R_api_Hash))) (by kernel_rfl))) <| .read (.yes ⟨19, true, _, 149, _, rfl, rfl, rfl, fun _ _ => bl_p.1, gd_yes e29⟩ (pj_load_to (has_tmp rfl) (by kernel_rfl))) <| .read (.yes ⟨19, true, _, 149, _, rfl, rfl, rfl, fun _ _ => bl_p.1, gd_yes e29⟩ (pj_field_to (has_tmp rfl) (Path.then (Path.snd i64 (prod i64 (prod R_api_Hash R_api_Hash))) (Path.fst i64 (prod R_api_Hash R_api_Hash))) (by kernel_rfl))) <| .read (.yes ⟨19, true, _, 149, _, rfl, rfl, rfl, fun _ _ => bl_p.1, gd_yes e29⟩ (pj_load_to (has_tmp rfl) (by kernel_rfl))) <| .read (.yes ⟨19, true, _, 149, _, rfl, rfl, rfl, fun _ _ => bl_p.1, gd_yes e29⟩ (pj_load_to (has_tmp rfl) (by kernel_rfl))) <| .read (.yes ⟨19, true, _, 149, _, rfl, rfl, rfl, fun _ _ => bl_p.1, gd_yes e29⟩ (pj_load_to (has_tmp rfl) (by kernel_rfl))) <| .read (.yes ⟨19, true, _, 149, _, rfl, rfl, rfl, fun _ _ => bl_p.1, gd_yes e29⟩ (pj_call (hasL_cons (has_tmp rfl) <| hasL_cons (has_tmp rfl) <| hasL_cons (has_tmp rfl) <| hasL_cons (has_tmp rfl) <| hasL_cons (has_tmp rfl) <| hasL_nil) (by kernel_rfl) (c_trail_IsGrowth hg0 hg1 hg2 hg3 e31))) <| .read (.yes ⟨19, true, _, 149, _, rfl, rfl, rfl, fun _ _ => bl_p.1, gd_yes e29⟩ (pj_load_to (has_tmp rfl) (by kernel_rfl))) <| .read (.yes ⟨19, true, _, 149, _, rfl, rfl, rfl, fun _ _ => bl_p.1, gd_yes e29⟩ (pj_field_to (has_tmp rfl) (Path.fst i64 (prod i64 (prod R_api_Hash R_api_Hash))) (by kernel_rfl))) <| .read (.yes ⟨19, true, _, 149, _, rfl, rfl, rfl, fun _ _ => bl_p.1, gd_yes e29⟩ (pj_load_to (has_tmp rfl) (by kernel_rfl))) <| .read (.yes ⟨19, true, _, 149, _, rfl, rfl, rfl, fun _ _ => bl_p.1, gd_yes e29⟩ (pj_field_to (has_tmp rfl) (Path.then (Path.snd i64 (prod i64 (prod R_api_Hash R_api_Hash))) (Path.fst i64 (prod R_api_Hash R_api_Hash))) (by kernel_rfl))) <| .read (.yes ⟨19, true, _, 149, _, rfl, rfl, rfl, fun _ _ => bl_p.1, gd_yes e29⟩ (pj_load_to (has_tmp rfl) (by kernel_rfl))) <| .read (.yes ⟨19, true, _, 149, _, rfl, rfl, rfl, fun _ _ => bl_p.1, gd_yes e29⟩ (pj_load_to (has_tmp rfl) (by kernel_rfl))) <| .read (.yes ⟨19, true, _, 149, _, rfl, rfl, rfl, fun _ _ => bl_p.1, gd_yes e29⟩ (pj_load_to (has_tmp rfl) (by kernel_rfl))) <| .read (.yes ⟨19, true, _, 149, _, rfl, rfl, rfl, fun _ _ => bl_p.1, gd_yes e29⟩ (pj_call (hasL_cons (has_tmp rfl) <| hasL_cons (has_tmp rfl) <| hasL_cons (has_tmp rfl) <| hasL_cons (has_tmp rfl) <| hasL_cons (has_tmp rfl) <| hasL_nil) (by kernel_rfl) (c_rolodexref16_IsGrowth e32))) <| .read (.yes ⟨19, true, _, 149, _, rfl, rfl, rfl, fun _ _ => bl_p.1, gd_yes e29⟩ (pj_beql (by kernel_rfl) (has_tmp rfl) (has_tmp rfl))) <| .read (.plain rfl (PJ.eqv (R := bl) (pj_pick (t := any) (has_tmp rfl) (fun _ => (has_tmp rfl)) (fun he => absurd (e29.symm.trans he) (by decide))) (Option.some.inj e30))) <| .nil) (j_to (Γ' := [(167, bl.slot y5)]) (H' := []) (.cons (.of_lk rfl) <| .nil) (.nil) J)
                  · replace e30 := bf e29 e30
                    exact run_draw (n := 38) (by kernel_rfl) (by kernel_rfl) (by kernel_rfl) (by kernel_rfl) (.read (.plain rfl (pj_load_to (has_tmp rfl) (by kernel_rfl))) <| .read (.plain rfl (pj_field_to (has_tmp rfl) (Path.fst i64 (prod i64 (prod R_api_Hash R_api_Hash))) (by kernel_rfl))) <| .read (.plain rfl (pj_load_to (has_tmp rfl) (by kernel_rfl))) <| .read (.plain rfl (pj_field_to (has_tmp rfl) (Path.then (Path.snd i64 (prod i64 (prod R_api_Hash R_api_Hash))) (Path.fst i64 (prod R_api_Hash R_api_Hash))) (by kernel_rfl))) <| .read (.plain rfl (pj_load_to (has_tmp rfl) (by kernel_rfl))) <| .read (.plain rfl (pj_field_to (has_tmp rfl) (Path.then (Path.snd i64 (prod i64 (prod R_api_Hash R_api_Hash))) (Path.then (Path.snd i64 (prod R_api_Hash R_api_Hash)) (Path.fst R_api_Hash R_api_Hash))) (by kernel_rfl))) <| .read (.plain rfl (pj_load_to (has_tmp rfl) (by kernel_rfl))) <| .read (.plain rfl (pj_load_to (has_tmp rfl) (by kernel_rfl))) <| .read (.plain rfl (pj_call (hasL_cons (has_tmp rfl) <| hasL_cons (has_tmp rfl) <| hasL_cons (has_tmp rfl) <| hasL_cons (has_tmp rfl) <| hasL_cons (has_tmp rfl) <| hasL_nil) (by kernel_rfl) (c_trail_IsEntry hg0 hg1 hg2 hg3 e27))) <| .read (.plain rfl (pj_load_to (has_tmp rfl) (by kernel_rfl))) <| .read (.plain rfl (pj_field_to (has_tmp rfl) (Path.fst i64 (prod i64 (prod R_api_Hash R_api_Hash))) (by kernel_rfl))) <| .read (.plain rfl (pj_load_to (has_tmp rfl) (by kernel_rfl))) <| .read (.plain rfl (pj_field_to (has_tmp rfl) (Path.then (Path.snd i64 (prod i64 (prod R_api_Hash R_api_Hash))) (Path.fst i64 (prod R_api_Hash R_api_Hash))) (by kernel_rfl))) <| .read (.plain rfl (pj_load_to (has_tmp rfl) (by kernel_rfl))) <| .read (.plain rfl (pj_field_to (has_tmp rfl) (Path.then (Path.snd i64 (prod i64 (prod R_api_Hash R_api_Hash))) (Path.then (Path.snd i64 (prod R_api_Hash R_api_Hash)) (Path.fst R_api_Hash R_api_Hash))) (by kernel_rfl))) <| .read (.plain rfl (pj_load_to (has_tmp rfl) (by kernel_rfl))) <| .read (.plain rfl (pj_load_to (has_tmp rfl) (by kernel_rfl))) <| .read (.plain rfl (pj_call (hasL_cons (has_tmp rfl) <| hasL_cons (has_tmp rfl) <| hasL_cons (has_tmp rfl) <| hasL_cons (has_tmp rfl) <| hasL_cons (has_tmp rfl) <| hasL_nil) (by kernel_rfl) (c_rolodexref16_IsEntry e28))) <| .read (.plain rfl (pj_beql (by kernel_rfl) (has_tmp rfl) (has_tmp rfl))) <| .read (.plain rfl (pj_move (has_tmp rfl))) <| .read (.no ⟨19, true, _, 149, _, rfl, rfl, rfl, fun _ _ => bl_p.1, gd_no e29⟩) <| .read (.no ⟨19, true, _, 149, _, rfl, rfl, rfl, fun _ _ => bl_p.1, gd_no e29⟩) <| .read (.no ⟨19, true, _, 149, _, rfl, rfl, rfl, fun _ _ => bl_p.1, gd_no e29⟩) <| .read (.no ⟨19, true, _, 149, _, rfl, rfl, rfl, fun _ _ => bl_p.1, gd_no e29⟩) <| .read (.no ⟨19, true, _, 149, _, rfl, rfl, rfl, fun _ _ => bl_p.1, gd_no e29⟩) <| .read (.no ⟨19, true, _, 149, _, rfl, rfl, rfl, fun _ _ => bl_p.1, gd_no e29⟩) <| .read (.no ⟨19, true, _, 149, _, rfl, rfl, rfl, fun _ _ => bl_p.1, gd_no e29⟩) <| .read (.no ⟨19, true, _, 149, _, rfl, rfl, rfl, fun _ _ => bl_p.1, gd_no e29⟩) <| .read (.no ⟨19, true, _, 149, _, rfl, rfl, rfl, fun _ _ => bl_p.1, gd_no e29⟩) <| .read (.no ⟨19, true, _, 149, _, rfl, rfl, rfl, fun _ _ => bl_p.1, gd_no e29⟩) <| .read (.no ⟨19, true, _, 149, _, rfl, rfl, rfl, fun _ _ => bl_p.1, gd_no e29⟩) <| .read (.no ⟨19, true, _, 149, _, rfl, rfl, rfl, fun _ _ => bl_p.1, gd_no e29⟩) <| .read (.no ⟨19, true, _, 149, _, rfl, rfl, rfl, fun _ _ => bl_p.1, gd_no e29⟩) <| .read (.no ⟨19, true, _, 149, _, rfl, rfl, rfl, fun _ _ => bl_p.1, gd_no e29⟩) <| .read (.no ⟨19, true, _, 149, _, rfl, rfl, rfl, fun _ _ => bl_p.1, gd_no e29⟩) <| .read (.no ⟨19, true, _, 149, _, rfl, rfl, rfl, fun _ _ => bl_p.1, gd_no e29⟩) <| .read (.no ⟨19, true, _, 149, _, rfl, rfl, rfl, fun _ _ => bl_p.1, gd_no e29⟩) <| .read (.plain rfl (PJ.eqv (R := bl) (pj_pick (t := any) (has_tmp rfl) (fun he => absurd (e29.symm.trans he) (by decide)) (fun _ => has_bl)) (Option.some.inj e30))) <| .nil) (j_to (Γ' := [(167, bl.slot y5)]) (H' := []) (.cons (.of_lk rfl) <| .nil) (.nil) J)
            · rcases bool_tf (y3) with e16 | e16
              · replace e17 := bt e16 e17
                refine j_guard_no2 (j := 10) (want := false) rfl rfl rfl rfl (bl_isx e16) rfl rfl rfl ?_
                refine j_guard_no2 (j := 10) (want := false) rfl rfl rfl rfl (bl_isx e16) rfl rfl rfl ?_
                refine j_guard_no2 (j := 10) (want := false) rfl rfl rfl rfl (bl_isx e16) rfl rfl rfl ?_
                refine j_pure (PJ.eqv (R := bl) (pj_pick (t := any) (has_tmp rfl) (fun _ => has_bl) (fun he => absurd (e16.symm.trans he) (by decide))) (Option.some.inj e17)) rfl rfl rfl ?_
                exact j_to (.cons (.of_lk rfl) <| .cons (.of_lk rfl) <| .cons (.of_lk rfl) <| .cons (.of_lk rfl) <| .nil) (.nil) (J ())
              · replace e17 := bf e16 e17
                refine j_pure_y (pj_field_to (has_tmp rfl) (Path.then (Path.snd i64 (prod i64 (prod R_api_Hash R_api_Hash))) (Path.fst i64 (prod R_api_Hash R_api_Hash))) (by kernel_rfl)) rfl rfl rfl rfl (bl_isx e16) rfl rfl ?_
                refine j_pure_y (pj_load_to (has_tmp rfl) (by kernel_rfl)) rfl rfl rfl rfl (bl_isx e16) rfl rfl ?_
                refine j_pure_y (pj_igtr (has_tmp rfl) has_i64) rfl rfl rfl rfl (bl_isx e16) rfl rfl ?_
                refine j_pure (PJ.eqv (R := bl) (pj_pick (t := any) (has_tmp rfl) (fun he => absurd (e16.symm.trans he) (by decide)) (fun _ => (has_tmp rfl))) (Option.some.inj e17)) rfl rfl rfl ?_
                exact j_to (.cons (.of_lk rfl) <| .cons (.of_lk rfl) <| .cons (.of_lk rfl) <| .cons (.of_lk rfl) <| .nil) (.nil) (J ())
          · rcases bool_tf (decide (p_s.1 < (0 : Int))) with e14 | e14
            · replace e15 := bt e14 e15
              refine j_guard_no2 (j := 3) (want := false) rfl rfl rfl rfl (bl_isx e14) rfl rfl rfl ?_
              refine j_guard_no2 (j := 3) (want := false) rfl rfl rfl rfl (bl_isx e14) rfl rfl rfl ?_
              refine j_guard_no2 (j := 3) (want := false) rfl rfl rfl rfl (bl_isx e14) rfl rfl rfl ?_
              refine j_guard_no2 (j := 3) (want := false) rfl rfl rfl rfl (bl_isx e14) rfl rfl rfl ?_
              refine j_guard_no2 (j := 3) (want := false) rfl rfl rfl rfl (bl_isx e14) rfl rfl rfl ?_
              refine j_pure (PJ.eqv (R := bl) (pj_pick (t := any) (has_tmp rfl) (fun _ => has_bl) (fun he => absurd (e14.symm.trans he) (by decide))) (Option.some.inj e15)) rfl rfl rfl ?_
              exact j_to (.cons (.of_lk rfl) <| .cons (.of_lk rfl) <| .cons (.of_lk rfl) <| .cons (.of_lk rfl) <| .nil) (.nil) (J ())
            · replace e15 := bf e14 e15
              refine j_pure_y (pj_field_to (has_tmp rfl) (Path.fst i64 (prod i64 (prod R_api_Hash R_api_Hash))) (by kernel_rfl)) rfl rfl rfl rfl (bl_isx e14) rfl rfl ?_
              refine j_pure_y (pj_load_to (has_tmp rfl) (by kernel_rfl)) rfl rfl rfl rfl (bl_isx e14) rfl rfl ?_
              refine j_pure_y (pj_field_to (has_tmp rfl) (Path.then (Path.snd i64 (prod i64 (prod R_api_Hash R_api_Hash))) (Path.fst i64 (prod R_api_Hash R_api_Hash))) (by kernel_rfl)) rfl rfl rfl rfl (bl_isx e14) rfl rfl ?_
              refine j_pure_y (pj_load_to (has_tmp rfl) (by kernel_rfl)) rfl rfl rfl rfl (bl_isx e14) rfl rfl ?_
              refine j_pure_y (pj_igeq (has_tmp rfl) (has_tmp rfl)) rfl rfl rfl rfl (bl_isx e14) rfl rfl ?_
              refine j_pure (PJ.eqv (R := bl) (pj_pick (t := any) (has_tmp rfl) (fun he => absurd (e14.symm.trans he) (by decide)) (fun _ => (has_tmp rfl))) (Option.some.inj e15)) rfl rfl rfl ?_
              exact j_to (.cons (.of_lk rfl) <| .cons (.of_lk rfl) <| .cons (.of_lk rfl) <| .cons (.of_lk rfl) <| .nil) (.nil) (J ())
      · rcases bool_tf (!(r4 == r5)) with e9 | e9
        · replace e10 := bt e9 e10
          exact run_draw (n := 44) (by kernel_rfl) (by kernel_rfl) (by kernel_rfl) (by kernel_rfl) (.read (.plain rfl (pj_load_to (has_tmp rfl) (by kernel_rfl))) <| .read (.plain rfl (pj_field_to (has_tmp rfl) (Path.fst i64 (prod i64 (prod R_api_Hash R_api_Hash))) (by kernel_rfl))) <| .read (.plain rfl (pj_load_to (has_tmp rfl) (by kernel_rfl))) <| .read (.plain rfl (pj_field_to (has_tmp rfl) (Path.then (Path.snd i64 (prod i64 (prod R_api_Hash R_api_Hash))) (Path.fst i64 (prod R_api_Hash R_api_Hash))) (by kernel_rfl))) <| .read (.plain rfl (pj_load_to (has_tmp rfl) (by kernel_rfl))) <| .read (.plain rfl (pj_field_to (has_tmp rfl) (Path.then (Path.snd i64 (prod i64 (prod R_api_Hash R_api_Hash))) (Path.then (Path.snd i64 (prod R_api_Hash R_api_Hash)) (Path.fst R_api_Hash R_api_Hash))) (by kernel_rfl))) <| .read (.plain rfl (pj_load_to (has_tmp rfl) (by kernel_rfl))) <| .read (.plain rfl (pj_field_to (has_tmp rfl) (Path.then (Path.snd i64 (prod i64 (prod R_api_Hash R_api_Hash))) (Path.then (Path.snd i64 (prod R_api_Hash R_api_Hash)) (Path.snd R_api_Hash R_api_Hash))) (by kernel_rfl))) <| .read (.plain rfl (pj_load_to (has_tmp rfl) (by kernel_rfl))) <| .read (.plain rfl (pj_call (hasL_cons (has_tmp rfl) <| hasL_cons (has_tmp rfl) <| hasL_cons (has_tmp rfl) <| hasL_cons (has_tmp rfl) <| hasL_cons (has_tmp rfl) <| hasL_nil) (by kernel_rfl) (c_trail_IsEntry hg0 hg1 hg2 hg3 e7))) <| .read (.plain rfl (pj_load_to (has_tmp rfl) (by kernel_rfl))) <| .read (.plain rfl (pj_field_to (has_tmp rfl) (Path.fst i64 (prod i64 (prod R_api_Hash R_api_Hash))) (by kernel_rfl))) <| .read (.plain rfl (pj_load_to (has_tmp rfl) (by kernel_rfl))) <| .read (.plain rfl (pj_field_to (has_tmp rfl) (Path.then (Path.snd i64 (prod i64 (prod R_api_Hash R_api_Hash))) (Path.fst i64 (prod R_api_Hash R_api_Hash))) (by kernel_rfl))) <| .read (.plain rfl (pj_load_to (has_tmp rfl) (by kernel_rfl))) <| .read (.plain rfl (pj_field_to (has_tmp rfl) (Path.then (Path.snd i64 (prod i64 (prod R_api_Hash R_api_Hash))) (Path.then (Path.snd i64 (prod R_api_Hash R_api_Hash)) (Path.fst R_api_Hash R_api_Hash))) (by kernel_rfl))) <| .read (.plain rfl (pj_load_to (has_tmp rfl) (by kernel_rfl))) <| .read (.plain rfl (pj_field_to (has_tmp rfl) (Path.then (Path.snd i64 (prod i64 (prod R_api_Hash R_api_Hash))) (Path.then (Path.snd i64 (prod R_api_Hash R_api_Hash)) (Path.snd R_api_Hash R_api_Hash))) (by kernel_rfl))) <| .read (.plain rfl (pj_load_to (has_tmp rfl) (by kernel_rfl))) <| .read (.plain rfl (pj_call (hasL_cons (has_tmp rfl) <| hasL_cons (has_tmp rfl) <| hasL_cons (has_tmp rfl) <| hasL_cons (has_tmp rfl) <| hasL_cons (has_tmp rfl) <| hasL_nil) (by kernel_rfl) (c_rolodexref16_IsEntry e8))) <| .read (.plain rfl (pj_bneq (by kernel_rfl) (has_tmp rfl) (has_tmp rfl))) <| .read (.plain rfl (pj_move (has_tmp rfl))) <| .read (.no ⟨21, false, _, 43, _, rfl, rfl, rfl, fun _ _ => bl_p.1, gd_no e9⟩) <| .read (.no ⟨21, false, _, 43, _, rfl, rfl, rfl, fun _ _ => bl_p.1, gd_no e9⟩) <| .read (.no ⟨21, false, _, 43, _, rfl, rfl, rfl, fun _ _ => bl_p.1, gd_no e9⟩) <| .read (.no ⟨21, false, _, 43, _, rfl, rfl, rfl, fun _ _ => bl_p.1, gd_no e9⟩) <| .read (.no ⟨21, false, _, 43, _, rfl, rfl, rfl, fun _ _ => bl_p.1, gd_no e9⟩) <| .read (.no ⟨21, false, _, 43, _, rfl, rfl, rfl, fun _ _ => bl_p.1, gd_no e9⟩) <| .read (.no ⟨21, false, _, 43, _, rfl, rfl, rfl, fun _ _ => bl_p.1, gd_no e9⟩) <| .read (.no ⟨21, false, _, 43, _, rfl, rfl, rfl, fun _ _ => bl_p.1, gd_no e9⟩) <| .read (.no ⟨21, false, _, 43, _, rfl, rfl, rfl, fun _ _ => bl_p.1, gd_no e9⟩) <| .read (.no ⟨21, false, _, 43, _, rfl, rfl, rfl, fun _ _ => bl_p.1, gd_no e9⟩) <| .read (.no ⟨21, false, _, 43, _, rfl, rfl, rfl, fun _ _ => bl_p.1, gd_no e9⟩) <| .read (.no ⟨21, false, _, 43, _, rfl, rfl, rfl, fun _ _ => bl_p.1, gd_no e9⟩) <| .read (.no ⟨21, false, _, 43, _, rfl, rfl, rfl, fun _ _ => bl_p.1, gd_no e9⟩) <| .read (.no ⟨21, false, _, 43, _, rfl, rfl, rfl, fun _ _ => bl_p.1, gd_no e9⟩) <| .read (.no ⟨21, false, _, 43, _, rfl, rfl, rfl, fun _ _ => bl_p.1, gd_no e9⟩) <| .read (.no ⟨21, false, _, 43, _, rfl, rfl, rfl, fun _ _ => bl_p.1, gd_no e9⟩) <| .read (.no ⟨21, false, _, 43, _, rfl, rfl, rfl, fun _ _ => bl_p.1, gd_no e9⟩) <| .read (.no ⟨21, false, _, 43, _, rfl, rfl, rfl, fun _ _ => bl_p.1, gd_no e9⟩) <| .read (.no ⟨21, false, _, 43, _, rfl, rfl, rfl, fun _ _ => bl_p.1, gd_no e9⟩) <| .read (.no ⟨21, false, _, 43, _, rfl, rfl, rfl, fun _ _ => bl_p.1, gd_no e9⟩) <| .read (.no ⟨21, false, _, 43, _, rfl, rfl, rfl, fun _ _ => bl_p.1, gd_no e9⟩) <| .read (.plain rfl (PJ.eqv (R := bl) (pj_pick (t := any) (has_tmp rfl) (fun _ => has_bl) (fun he => absurd (e9.symm.trans he) (by decide))) (Option.some.inj e10))) <| .nil) (j_to (Γ' := [(2, ptrTo R_rolodexref16_Trail p_t), (3, ptrTo R_rolodexlaw16_Said p_s), (5, ptrTo R_trail_Trail p_t), (65, bl.slot y2)]) (H' := []) (.cons (.of_lk rfl) <| .cons (.of_lk rfl) <| .cons (.of_lk rfl) <| .cons (.of_lk rfl) <| .nil) (.nil) J)
        · replace e10 := bf e9 e10
          obtain ⟨r6, e11, e10⟩ := bind_some e10
          obtain ⟨r7, e12, e10⟩ := bind_some e10
          exact run_draw (n := 44) (by kernel_rfl) (by kernel_rfl) (by kernel_rfl) (by kernel_rfl) (.read (.plain rfl (pj_load_to (has_tmp rfl) (by kernel_rfl))) <| .read (.plain rfl (pj_field_to (has_tmp rfl) (Path.fst i64 (prod i64 (prod R_api_Hash R_api_Hash))) (by kernel_rfl))) <| .read (.plain rfl (pj_load_to (has_tmp rfl) (by kernel_rfl))) <| .read (.plain rfl (pj_field_to (has_tmp rfl) (Path.then (Path.snd i64 (prod i64 (prod R_api_Hash R_api_Hash))) (Path.fst i64 (prod R_api_Hash R_api_Hash))) (by kernel_rfl))) <| .read (.plain rfl (pj_load_to (has_tmp rfl) (by kernel_rfl))) <| .read (.plain rfl (pj_field_to (has_tmp rfl) (Path.then (Path.snd i64 (prod i64 (prod R_api_Hash R_api_Hash))) (Path.then (Path.snd i64 (prod R_api_Hash R_api_Hash)) (Path.fst R_api_Hash R_api_Hash))) (by kernel_rfl))) <| .read (.plain rfl (pj_load_to (has_tmp rfl) (by kernel_rfl))) <| .read (.plain rfl (pj_field_to (has_tmp rfl) (Path.then (Path.snd i64 (prod i64 (prod R_api_Hash R_api_Hash))) (Path.then (Path.snd i64 (prod R_api_Hash R_api_Hash)) (Path.snd R_api_Hash R_api_Hash))) (by kernel_rfl))) <| .read (.plain rfl (pj_load_to (has_tmp rfl) (by kernel_rfl))) <| .read (.plain rfl (pj_call (hasL_cons (has_tmp rfl) <| hasL_cons (has_tmp rfl) <| hasL_cons (has_tmp rfl) <| hasL_cons (has_tmp rfl) <| hasL_cons (has_tmp rfl) <| hasL_nil) (by kernel_rfl) (c_trail_IsEntry hg0 hg1 hg2 hg3 e7))) <| .read (.plain rfl (pj_load_to (has_tmp rfl) (by kernel_rfl))) <| .read (.plain rfl (pj_field_to (has_tmp rfl) (Path.fst i64 (prod i64 (prod R_api_Hash R_api_Hash))) (by kernel_rfl))) <| .read (.plain rfl (pj_load_to (has_tmp rfl) (by kernel_rfl))) <| .read (.plain rfl (pj_field_to (has_tmp rfl) (Path.then (Path.snd i64 (prod i64 (prod R_api_Hash R_api_Hash))) (Path.fst i64 (prod R_api_Hash R_api_Hash))) (by kernel_rfl))) <| .read (.plain rfl (pj_load_to (has_tmp rfl) (by kernel_rfl))) <| .read (.plain rfl (pj_field_to (has_tmp rfl) (Path.then (Path.snd i64 (prod i64 (prod R_api_Hash R_api_Hash))) (Path.then (Path.snd i64 (prod R_api_Hash R_api_Hash)) (Path.fst R_api_Hash R_api_Hash))) (by kernel_rfl))) <| .read (.plain rfl (pj_load_to (has_tmp rfl) (by kernel_rfl))) <| .read (.plain rfl (pj_field_to (has_tmp rfl) (Path.then (Path.snd i64 (prod i64 (prod R_api_Hash R_api_Hash))) (Path.then (Path.snd i64 (prod R_api_Hash R_api_Hash)) (Path.snd R_api_Hash R_api_Hash))) (by kernel_rfl))) <| .read (.plain rfl (pj_load_to (has_tmp rfl) (by kernel_rfl))) <| .read (.plain rfl (pj_call (hasL_cons (has_tmp rfl) <| hasL_cons (has_tmp rfl) <| hasL_cons (has_tmp rfl) <| hasL_cons (has_tmp rfl) <| hasL_cons (has_tmp rfl) <| hasL_nil) (by kernel_rfl) (c_rolodexref16_IsEntry e8))) <| .read (.plain rfl (pj_bneq (by kernel_rfl) (has_tmp rfl) (has_tmp rfl))) <| .read (.plain rfl (pj_move (has_tmp rfl))) <| .read (.yes ⟨21, false, _, 43, _, rfl, rfl, rfl, fun _ _ => bl_p.1, gd_yes e9⟩ (pj_load_to (has_tmp rfl) (by kernel_rfl))) <| .read (.yes ⟨21, false, _, 43, _, rfl, rfl, rfl, fun _ _ => bl_p.1, gd_yes e9⟩ (pj_field_to (has_tmp rfl) (Path.fst i64 (prod i64 (prod R_api_Hash R_api_Hash))) (by kernel_rfl))) <| .read (.yes ⟨21, false, _, 43, _, rfl, rfl, rfl, fun _ _ => bl_p.1, gd_yes e9⟩ (pj_load_to (has_tmp rfl) (by kernel_rfl))) <| .read (.yes ⟨21, false, _, 43, _, rfl, rfl, rfl, fun _ _ => bl_p.1, gd_yes e9⟩ (pj_field_to (has_tmp rfl) (Path.then (Path.snd i64 (prod i64 (prod R_api_Hash R_api_Hash))) (Path.fst i64 (prod R_api_Hash R_api_Hash))) (by kernel_rfl))) <| .read (.yes ⟨21, false, _, 43, _, rfl, rfl, rfl, fun _ _ => bl_p.1, gd_yes e9⟩ (pj_load_to (has_tmp rfl) (by kernel_rfl))) <| .read (.yes ⟨21, false, _, 43, _, rfl, rfl, rfl, fun _ _ => bl_p.1, gd_yes e9⟩ (pj_field_to (has_tmp rfl) (Path.then (Path.snd i64 (prod i64 (prod R_api_Hash R_api_Hash))) (Path.then (Path.snd i64 (prod R_api_Hash R_api_Hash)) (Path.fst R_api_Hash R_api_Hash))) (by kernel_rfl))) <| .read (.yes ⟨21, false, _, 43, _, rfl, rfl, rfl, fun _ _ => bl_p.1, gd_yes e9⟩ (pj_load_to (has_tmp rfl) (by kernel_rfl))) <| .read (.yes ⟨21, false, _, 43, _, rfl, rfl, rfl, fun _ _ => bl_p.1, gd_yes e9⟩ (pj_field_to (has_tmp rfl) (Path.then (Path.snd i64 (prod i64 (prod R_api_Hash R_api_Hash))) (Path.then (Path.snd i64 (prod R_api_Hash R_api_Hash)) (Path.snd R_api_Hash R_api_Hash))) (by kernel_rfl))) <| .read (.yes ⟨21, false, _, 43, _, rfl, rfl, rfl, fun _ _ => bl_p.1, gd_yes e9⟩ (pj_load_to (has_tmp rfl) (by kernel_rfl))) <| .read (.yes ⟨21, false, _, 43, _, rfl, rfl, rfl, fun _ _ => bl_p.1, gd_yes e9⟩ (pj_call (hasL_cons (has_tmp rfl) <| hasL_cons (has_tmp rfl) <| hasL_cons (has_tmp rfl) <| hasL_cons (has_tmp rfl) <| hasL_cons (has_tmp rfl) <| hasL_nil) (by kernel_rfl) (c_trail_IsGrowth hg0 hg1 hg2 hg3 e11))) <| .read (.yes ⟨21, false, _, 43, _, rfl, rfl, rfl, fun _ _ => bl_p.1, gd_yes e9⟩ (pj_load_to (has_tmp rfl) (by kernel_rfl))) <| .read (.yes ⟨21, false, _, 43, _, rfl, rfl, rfl, fun _ _ => bl_p.1, gd_yes e9⟩ (pj_field_to (has_tmp rfl) (Path.fst i64 (prod i64 (prod R_api_Hash R_api_Hash))) (by kernel_rfl))) <| .read (.yes ⟨21, false, _, 43, _, rfl, rfl, rfl, fun _ _ => bl_p.1, gd_yes e9⟩ (pj_load_to (has_tmp rfl) (by kernel_rfl))) <| .read (.yes ⟨21, false, _, 43, _, rfl, rfl, rfl, fun _ _ => bl_p.1, gd_yes e9⟩ (pj_field_to (has_tmp rfl) (Path.then (Path.snd i64 (prod i64 (prod R_api_Hash R_api_Hash))) (Path.fst i64 (prod R_api_Hash R_api_Hash))) (by kernel_rfl))) <| .read (.yes ⟨21, false, _, 43, _, rfl, rfl, rfl, fun _ _ => bl_p.1, gd_yes e9⟩ (pj_load_to (has_tmp rfl) (by kernel_rfl))) <| .read (.yes ⟨21, false, _, 43, _, rfl, rfl, rfl, fun _ _ => bl_p.1, gd_yes e9⟩ (pj_field_to (has_tmp rfl) (Path.then (Path.snd i64 (prod i64 (prod R_api_Hash R_api_Hash))) (Path.then (Path.snd i64 (prod R_api_Hash R_api_Hash)) (Path.fst R_api_Hash R_api_Hash))) (by kernel_rfl))) <| .read (.yes ⟨21, false, _, 43, _, rfl, rfl, rfl, fun _ _ => bl_p.1, gd_yes e9⟩ (pj_load_to (has_tmp rfl) (by kernel_rfl))) <| .read (.yes ⟨21, false, _, 43, _, rfl, rfl, rfl, fun _ _ => bl_p.1, gd_yes e9⟩ (pj_field_to (has_tmp rfl) (Path.then (Path.snd i64 (prod i64 (prod R_api_Hash R_api_Hash))) (Path.then (Path.snd i64 (prod R_api_Hash R_api_Hash)) (Path.snd R_api_Hash R_api_Hash))) (by kernel_rfl))) <| .read (.yes ⟨21, false, _, 43, _, rfl, rfl, rfl, fun _ _ => bl_p.1, gd_yes e9⟩ (pj_load_to (has_tmp rfl) (by kernel_rfl))) <| .read (.yes ⟨21, false, _, 43, _, rfl, rfl, rfl, fun _ _ => bl_p.1, gd_yes e9⟩ (pj_call (hasL_cons (has_tmp rfl) <| hasL_cons (has_tmp rfl) <| hasL_cons (has_tmp rfl) <| hasL_cons (has_tmp rfl) <| hasL_cons (has_tmp rfl) <| hasL_nil) (by kernel_rfl) (c_rolodexref16_IsGrowth e12))) <| .read (.yes ⟨21, false, _, 43, _, rfl, rfl, rfl, fun _ _ => bl_p.1, gd_yes e9⟩ (pj_bneq (by kernel_rfl) (has_tmp rfl) (has_tmp rfl))) <| .read (.plain rfl (PJ.eqv (R := bl) (pj_pick (t := any) (has_tmp rfl) (fun he => absurd (e9.symm.trans he) (by decide)) (fun _ => (has_tmp rfl))) (Option.some.inj e10))) <| .nil) (j_to (Γ' := [(2, ptrTo R_rolodexref16_Trail p_t), (3, ptrTo R_rolodexlaw16_Said p_s), (5, ptrTo R_trail_Trail p_t), (65, bl.slot y2)]) (H' := []) (.cons (.of_lk rfl) <| .cons (.of_lk rfl) <| .cons (.of_lk rfl) <| .cons (.of_lk rfl) <| .nil) (.nil) J)
  · rcases bool_tf (!r1) with e2 | e2
    · replace e3 := bt e2 e3
      refine j_guard_no2 (j := 2) (want := false) rfl rfl rfl rfl (bl_isx e2) rfl rfl rfl ?_
      refine j_guard_no2 (j := 2) (want := false) rfl rfl rfl rfl (bl_isx e2) rfl rfl rfl ?_
      refine j_guard_no2 (j := 2) (want := false) rfl rfl rfl rfl (bl_isx e2) rfl rfl rfl ?_
      refine j_pure (PJ.eqv (R := bl) (pj_pick (t := any) (has_tmp rfl) (fun _ => has_bl) (fun he => absurd (e2.symm.trans he) (by decide))) (Option.some.inj e3)) rfl rfl rfl ?_
      exact j_to (.cons (.of_lk rfl) <| .cons (.of_lk rfl) <| .cons (.of_lk rfl) <| .nil) (.nil) (J ())
    · replace e3 := bf e2 e3
      refine j_pure_y (pj_load_to (has_tmp rfl) (by kernel_rfl)) rfl rfl rfl rfl (bl_isx e2) rfl rfl ?_
      obtain ⟨r2, e4, e3⟩ := bind_some e3
      refine j_pure_y (pj_call (hasL_cons (has_tmp rfl) <| hasL_nil) (by kernel_rfl) (c_rolodexlaw16_few e4)) rfl rfl rfl rfl (bl_isx e2) rfl rfl ?_
      refine j_pure_y (pj_not (has_tmp rfl)) rfl rfl rfl rfl (bl_isx e2) rfl rfl ?_
      refine j_pure (PJ.eqv (R := bl) (pj_pick (t := any) (has_tmp rfl) (fun he => absurd (e2.symm.trans he) (by decide)) (fun _ => (has_tmp rfl))) (Option.some.inj e3)) rfl rfl rfl ?_
      exact j_to (.cons (.of_lk rfl) <| .cons (.of_lk rfl) <| .cons (.of_lk rfl) <| .nil) (.nil) (J ())
end Go.Sl.W
