import Derived.Test.YtcikfilncagbgaaDoorWA
import Derived.Test.YtcikfilncagbgaaDoorOp14
import Derived.Test.YtcikfilncagbgaaDoorProg
set_option linter.unusedSimpArgs false
set_option linter.unusedVariables false
set_option linter.unusedSectionVars false
namespace Go.Sl.W
open Go.Proofs Go.Sl Go.Sl.M
set_option maxRecDepth 100000 in
set_option maxHeartbeats 4000000 in
theorem c_frontier_Root {G : GP} (hg0 : HG0 G) (hg1 : HG1 G) (hg2 : HG2 G) (hg3 : HG3 G) {p_r : T_frontier_Range} {r : T_api_Hash × Int} (h : frontier_Root p_r = some r) : Ctr Tryd.prog G 26 [R_frontier_Range.slot p_r] [] (fun (_ : Unit) => tup [R_api_Hash.slot r.1, i64.slot r.2]) (fun (_ : Unit) => []) := by
  unfold frontier_Root at h
  refine ctr_of_run Tryd.func26 rfl 42 rfl rfl fun m0 w0 b0 => ?_
  show Run _ _ _ [(0, R_frontier_Range.slot p_r)] _
  refine run_seq ?_
  refine run_text ?_
  refine j_pure (pj_box_to (has_tmp rfl)) rfl rfl rfl ?_
  refine j_alloc (x := (Vector.replicate 32 (0#8))) (R := R_api_Hash) (zero_vec 32 zero_un) (by kernel_rfl) rfl fun b1 => ?_
  refine j_pure (pj_assign has_i64) rfl rfl rfl ?_
  refine j_end ?_
  refine run_seq ?_
  refine run_seq ?_
  refine run_text ?_
  refine j_pure (pj_load_to (has_tmp rfl) (by kernel_rfl)) rfl rfl rfl ?_
  obtain ⟨r1, e1, h⟩ := bind_some h
  refine j_pure (pj_call (hasL_cons (has_tmp rfl) <| hasL_nil) (by kernel_rfl) (c_frontier_Formed hg2 hg3 e1)) rfl rfl rfl ?_
  refine j_pure (pj_not (has_tmp rfl)) rfl rfl rfl ?_
  refine j_pure (pj_move (has_tmp rfl)) rfl rfl rfl ?_
  obtain ⟨y1, e3, h⟩ := bind_some h
  refine j_joinx (ι := Unit) (Γ' := fun _ => [(1, ptrTo R_frontier_Range p_r), (2, val (.pointer (some ⟨b1, 0, none⟩))), (14, bl.slot y1)]) (H' := fun _ => [box b1 24 R_api_Hash (Vector.replicate 32 (0#8))]) 4 ?_ fun J => ?_
  · intro _
    clear e3
    show OpsJ _ _ _ [(1, ptrTo R_frontier_Range p_r), (2, val (.pointer (some ⟨b1, 0, none⟩))), (14, bl.slot y1)] [box b1 24 R_api_Hash (Vector.replicate 32 (0#8))] _
    refine j_end ?_
    refine run_cond (has_tmp rfl) (fun e4 => ?_) (fun e4 => ?_)
    · replace h := bt e4 h
      refine run_seq ?_
      refine run_text ?_
      refine j_pure (pj_build (R := R_api_Hash) (zero_vec 32 zero_un) (by kernel_rfl) (by kernel_rfl) rfl .nil) rfl rfl rfl ?_
      refine j_store_boxx (r' := (Vector.replicate 32 (0#8))) (has_tmp rfl) (has_tmp rfl) .here (Path.all R_api_Hash) (by kernel_rfl) rfl ?_
      refine j_pure (pj_assign has_i64) rfl rfl rfl ?_
      refine j_end ?_
      obtain rfl := Option.some.inj h
      exact run_ret fun a w hst => q_retN hst rfl (.cons (.cell rfl .here (by kernel_rfl)) <| .cons (.tmp rfl) <| .nil) rfl () (fun _ _ h => h) (.nil)
    · replace h := bf e4 h
      refine run_skip ?_
      refine run_seq ?_
      refine run_text ?_
      refine j_pure (pj_field_to (has_tmp rfl) (Path.then (Path.snd i64 (prod i64 (sl R_api_Hash))) (Path.snd i64 (sl R_api_Hash))) (by kernel_rfl)) rfl rfl rfl ?_
      refine j_pure (pj_load_to (has_tmp rfl) (by kernel_rfl)) rfl rfl rfl ?_
      refine j_pure (pj_len_sl (sz := 32) (has_tmp rfl) (by kernel_rfl)) rfl rfl rfl ?_
      refine j_pure (pj_assign (has_tmp rfl)) rfl rfl rfl ?_
      refine j_end ?_
      refine run_seq ?_
      refine run_seq ?_
      refine run_text ?_
      refine j_pure (pj_move (has_tmp rfl)) rfl rfl rfl ?_
      refine j_pure (pj_ieql (has_tmp rfl) has_i64) rfl rfl rfl ?_
      refine j_end ?_
      refine run_cond (has_tmp rfl) (fun e5 => ?_) (fun e5 => ?_)
      · replace h := bt e5 h
        refine run_seq ?_
        refine run_text ?_
        obtain ⟨r2, e6, h⟩ := bind_some h
        refine j_pure (pj_call (hasL_cons (has_nil (R := u8)) <| hasL_nil) (by kernel_rfl) (c_hash_Sum hg0 hg1 e6)) rfl rfl rfl ?_
        refine j_store_boxx (r' := r2) (has_tmp rfl) (has_tmp rfl) .here (Path.all R_api_Hash) (by kernel_rfl) rfl ?_
        refine j_pure (pj_assign has_i64) rfl rfl rfl ?_
        refine j_end ?_
        obtain rfl := Option.some.inj h
        exact run_ret fun a w hst => q_retN hst rfl (.cons (.cell rfl .here (by kernel_rfl)) <| .cons (.tmp rfl) <| .nil) rfl () (fun _ _ h => h) (.nil)
      · replace h := bf e5 h
        refine run_skip ?_
        refine run_seq ?_
        refine run_text ?_
        refine j_pure (pj_field_to (has_tmp rfl) (Path.then (Path.snd i64 (prod i64 (sl R_api_Hash))) (Path.snd i64 (sl R_api_Hash))) (by kernel_rfl)) rfl rfl rfl ?_
        refine j_pure (pj_load_to (has_tmp rfl) (by kernel_rfl)) rfl rfl rfl ?_
        refine j_pure (pj_move (has_tmp rfl)) rfl rfl rfl ?_
        refine j_pure (pj_isub (has_tmp rfl) has_i64) rfl rfl rfl ?_
        obtain ⟨x1, e7, h⟩ := bind_some h
        refine j_pure (pj_index_slx (has_tmp rfl) (has_tmp rfl) isInt_i64 e7 (by kernel_rfl)) rfl rfl rfl ?_
        refine j_pure (pj_load_to (has_tmp rfl) (by kernel_rfl)) rfl rfl rfl ?_
        refine j_alloc (x := (Vector.replicate 32 (0#8))) (R := R_api_Hash) (zero_vec 32 zero_un) (by kernel_rfl) rfl fun b2 => ?_
        refine j_store_boxx (r' := x1) (has_tmp rfl) (has_tmp rfl) .here (Path.all R_api_Hash) (by kernel_rfl) rfl ?_
        refine j_end ?_
        refine run_seq ?_
        refine run_seq ?_
        refine run_text ?_
        refine j_pure (pj_move (has_tmp rfl)) rfl rfl rfl ?_
        refine j_pure (pj_isub (has_tmp rfl) has_i64) rfl rfl rfl ?_
        refine j_pure (pj_assign (has_tmp rfl)) rfl rfl rfl ?_
        refine j_end ?_
        obtain ⟨⟨y4, y5⟩, e11, h⟩ := bind_some h
        refine run_loopS (Γi := fun (i : Unit) (s : Int × T_api_Hash) => [(1, ptrTo R_frontier_Range p_r), (2, val (.pointer (some ⟨b1, 0, none⟩))), (5, val (.pointer (some ⟨b2, 0, none⟩))), (6, i64.slot s.1)]) (Hi := fun (i : Unit) (s : Int × T_api_Hash) => [box b2 24 R_api_Hash s.2, box b1 24 R_api_Hash (Vector.replicate 32 (0#8))]) e11 () (fun a w hst => (hst.sub (.cons (.of_lk rfl) <| .cons (.of_lk rfl) <| .cons (.of_lk rfl) <| .cons (.of_lk rfl) <| .nil)).keep (.cons .here <| .cons .here <| .nil)) ?_ ?_
        · clear h e11
          rintro _ ⟨y2, y3⟩ lr h
          change frontier_Root_L1 p_r y2 y3 = some _ at h
          show Run _ _ _ [(1, ptrTo R_frontier_Range p_r), (2, val (.pointer (some ⟨b1, 0, none⟩))), (5, val (.pointer (some ⟨b2, 0, none⟩))), (6, i64.slot y2)] [box b2 24 R_api_Hash y3, box b1 24 R_api_Hash (Vector.replicate 32 (0#8))]
          unfold frontier_Root_L1 at h
          refine run_seq ?_
          refine run_seq ?_
          refine run_text ?_
          refine j_pure (pj_move (has_tmp rfl)) rfl rfl rfl ?_
          refine j_pure (pj_igeq (has_tmp rfl) has_i64) rfl rfl rfl ?_
          refine j_end ?_
          refine run_cond (has_tmp rfl) (fun e8 => ?_) (fun e8 => ?_)
          · replace h := bt e8 h
            refine run_skip ?_
            refine run_seq ?_
            refine run_block ?_
            obtain ⟨x2, e9, h⟩ := bind_some h
            refine run_draw (n := 6) (by kernel_rfl) (by kernel_rfl) (by kernel_rfl) (by kernel_rfl) (.read (.plain rfl (pj_field_to (has_tmp rfl) (Path.then (Path.snd i64 (prod i64 (sl R_api_Hash))) (Path.snd i64 (sl R_api_Hash))) (by kernel_rfl))) <| .read (.plain rfl (pj_load_to (has_tmp rfl) (by kernel_rfl))) <| .read (.plain rfl (pj_move (has_tmp rfl))) <| .read (.plain rfl (pj_index_slx (has_tmp rfl) (has_tmp rfl) isInt_i64 e9 (by kernel_rfl))) <| .read (.plain rfl (pj_load_to (has_tmp rfl) (by kernel_rfl))) <| .read (.plain rfl (pj_load_box (has_tmp rfl) .here (Path.all R_api_Hash) (by kernel_rfl))) <| .nil) (j_to (Γ' := [(1, ptrTo R_frontier_Range p_r), (2, val (.pointer (some ⟨b1, 0, none⟩))), (5, val (.pointer (some ⟨b2, 0, none⟩))), (6, i64.slot y2), (38, R_api_Hash.slot x2), (39, R_api_Hash.slot y3)]) (H' := [box b2 24 R_api_Hash y3, box b1 24 R_api_Hash (Vector.replicate 32 (0#8))]) (.cons (.of_lk rfl) <| .cons (.of_lk rfl) <| .cons (.of_lk rfl) <| .cons (.of_lk rfl) <| .cons (.of_lk rfl) <| .cons (.of_lk rfl) <| .nil) (.cons .here <| .cons .here <| .nil) ?_)
            obtain ⟨r3, e10, h⟩ := bind_some h
            refine j_pure (pj_call (hasL_cons (has_tmp rfl) <| hasL_cons (has_tmp rfl) <| hasL_nil) (by kernel_rfl) (c_frontier_Node hg0 hg1 e10)) rfl rfl rfl ?_
            refine j_store_boxx (r' := r3) (has_tmp rfl) (has_tmp rfl) .here (Path.all R_api_Hash) (by kernel_rfl) rfl ?_
            refine j_end ?_
            refine run_endblock ?_
            refine run_text ?_
            refine j_pure (pj_move (has_tmp rfl)) rfl rfl rfl ?_
            refine j_pure (pj_isub (has_tmp rfl) has_i64) rfl rfl rfl ?_
            refine j_pure (pj_assign (has_tmp rfl)) rfl rfl rfl ?_
            refine j_end ?_
            obtain rfl := Option.some.inj h
            exact run_next () (.cons (.of_lk rfl) <| .cons (.of_lk rfl) <| .cons (.of_lk rfl) <| .cons (.of_lk rfl) <| .nil) (.cons .here <| .cons .here <| .nil)
          · replace h := bf e8 h
            obtain rfl := Option.some.inj h
            exact run_brk () (.cons (.of_lk rfl) <| .cons (.of_lk rfl) <| .cons (.of_lk rfl) <| .cons (.of_lk rfl) <| .nil) (.cons .here <| .cons .here <| .nil)
        · rintro _
          show Run _ _ _ [(1, ptrTo R_frontier_Range p_r), (2, val (.pointer (some ⟨b1, 0, none⟩))), (5, val (.pointer (some ⟨b2, 0, none⟩))), (6, i64.slot y4)] [box b2 24 R_api_Hash y5, box b1 24 R_api_Hash (Vector.replicate 32 (0#8))]
          refine run_to (Γ' := [(2, val (.pointer (some ⟨b1, 0, none⟩))), (5, val (.pointer (some ⟨b2, 0, none⟩)))]) (H' := [box b2 24 R_api_Hash y5, box b1 24 R_api_Hash (Vector.replicate 32 (0#8))]) (.cons (.of_lk rfl) <| .cons (.of_lk rfl) <| .nil) (.cons .here <| .cons .here <| .nil) ?_
          refine run_seq ?_
          refine run_text ?_
          refine j_pure (pj_load_box (has_tmp rfl) .here (Path.all R_api_Hash) (by kernel_rfl)) rfl rfl rfl ?_
          refine j_store_boxx (r' := y5) (has_tmp rfl) (has_tmp rfl) (.next .here) (Path.all R_api_Hash) (by kernel_rfl) rfl ?_
          refine j_pure (pj_assign has_i64) rfl rfl rfl ?_
          refine j_end ?_
          obtain rfl := Option.some.inj h
          exact run_ret fun a w hst => q_retN hst rfl (.cons (.cell rfl .here (by kernel_rfl)) <| .cons (.tmp rfl) <| .nil) rfl () (fun _ _ h => h) (.nil)
  · rcases bool_tf (!r1) with e2 | e2
    · replace e3 := bt e2 e3
      refine j_guard_no2 (j := 3) (want := false) rfl rfl rfl rfl (bl_isx e2) rfl rfl rfl ?_
      refine j_guard_no2 (j := 3) (want := false) rfl rfl rfl rfl (bl_isx e2) rfl rfl rfl ?_
      refine j_guard_no2 (j := 3) (want := false) rfl rfl rfl rfl (bl_isx e2) rfl rfl rfl ?_
      refine j_pure (PJ.eqv (R := bl) (pj_pick (t := any) (has_tmp rfl) (fun _ => has_bl) (fun he => absurd (e2.symm.trans he) (by decide))) (Option.some.inj e3)) rfl rfl rfl ?_
      exact j_to (.cons (.of_lk rfl) <| .cons (.of_lk rfl) <| .cons (.of_lk rfl) <| .nil) (.cons .here <| .nil) (J ())
    · replace e3 := bf e2 e3
      refine j_pure_y (pj_field_to (has_tmp rfl) (Path.fst i64 (prod i64 (sl R_api_Hash))) (by kernel_rfl)) rfl rfl rfl rfl (bl_isx e2) rfl rfl ?_
      refine j_pure_y (pj_load_to (has_tmp rfl) (by kernel_rfl)) rfl rfl rfl rfl (bl_isx e2) rfl rfl ?_
      refine j_pure_y (pj_ineq (has_tmp rfl) has_i64) rfl rfl rfl rfl (bl_isx e2) rfl rfl ?_
      refine j_pure (PJ.eqv (R := bl) (pj_pick (t := any) (has_tmp rfl) (fun he => absurd (e2.symm.trans he) (by decide)) (fun _ => (has_tmp rfl))) (Option.some.inj e3)) rfl rfl rfl ?_
      exact j_to (.cons (.of_lk rfl) <| .cons (.of_lk rfl) <| .cons (.of_lk rfl) <| .nil) (.cons .here <| .nil) (J ())
set_option maxRecDepth 100000 in
set_option maxHeartbeats 4000000 in
theorem c_rolodexref15_Same {G : GP} {p_a : List T_api_Hash} {p_b : List T_api_Hash} {r : Bool} (h : rolodexref15_Same p_a p_b = some r) : Ctr Tryd.prog G 35 [(sl R_api_Hash).slot p_a, (sl R_api_Hash).slot p_b] [] (fun (_ : Unit) => bl.slot r) (fun (_ : Unit) => []) := by
  unfold rolodexref15_Same at h
  refine ctr_of_run Tryd.func35 rfl 26 rfl rfl fun m0 w0 b0 => ?_
  refine run_ret0 fun Qf hq1 hq2 => ?_
  show Run _ _ _ [(0, (sl R_api_Hash).slot p_a), (1, (sl R_api_Hash).slot p_b)] _
  refine run_seq ?_
  refine run_text ?_
  refine j_pure (pj_assign has_bl) rfl rfl rfl ?_
  refine j_end ?_
  refine run_seq ?_
  refine run_seq ?_
  refine run_text ?_
  refine j_pure (pj_move (has_tmp rfl)) rfl rfl rfl ?_
  refine j_pure (pj_len_sl (sz := 32) (has_tmp rfl) (by kernel_rfl)) rfl rfl rfl ?_
  refine j_pure (pj_move (has_tmp rfl)) rfl rfl rfl ?_
  refine j_pure (pj_len_sl (sz := 32) (has_tmp rfl) (by kernel_rfl)) rfl rfl rfl ?_
  refine j_pure (pj_ineq (has_tmp rfl) (has_tmp rfl)) rfl rfl rfl ?_
  refine j_end ?_
  refine run_cond (has_tmp rfl) (fun e1 => ?_) (fun e1 => ?_)
  · replace h := bt e1 h
    refine run_seq ?_
    refine run_text ?_
    refine j_pure (pj_assign has_bl) rfl rfl rfl ?_
    refine j_end ?_
    obtain rfl := Option.some.inj h
    exact run_ret fun a w hst => q_ret1 hst rfl (.tmp rfl) () (fun _ _ h => h) (.nil)
  · replace h := bf e1 h
    refine run_skip ?_
    refine run_seq ?_
    refine run_seq ?_
    refine run_text ?_
    refine j_pure (pj_assign has_i64) rfl rfl rfl ?_
    refine j_end ?_
    obtain ⟨o, e6, h⟩ := bind_some h
    refine run_loop (Γi := fun (i : Unit) (s : Int) => [(0, (sl R_api_Hash).slot p_a), (1, (sl R_api_Hash).slot p_b), (5, i64.slot s)]) (Hi := fun (i : Unit) (s : Int) => []) (R := fun x a w => x = r → Qf a w) e6 () (fun a w hst => (hst.sub (.cons (.of_lk rfl) <| .cons (.of_lk rfl) <| .cons (.of_lk rfl) <| .nil)).keep (.nil)) ?_ ?_ ?_
    · clear h e6
      rintro _ y1 lr h
      change rolodexref15_Same_L1 p_a p_b y1 = some _ at h
      show Run _ _ _ [(0, (sl R_api_Hash).slot p_a), (1, (sl R_api_Hash).slot p_b), (5, i64.slot y1)] []
      unfold rolodexref15_Same_L1 at h
      refine run_seq ?_
      refine run_seq ?_
      refine run_text ?_
      refine j_pure (pj_move (has_tmp rfl)) rfl rfl rfl ?_
      refine j_pure (pj_move (has_tmp rfl)) rfl rfl rfl ?_
      refine j_pure (pj_len_sl (sz := 32) (has_tmp rfl) (by kernel_rfl)) rfl rfl rfl ?_
      refine j_pure (pj_ilss (has_tmp rfl) (has_tmp rfl)) rfl rfl rfl ?_
      refine j_end ?_
      refine run_cond (has_tmp rfl) (fun e2 => ?_) (fun e2 => ?_)
      · replace h := bt e2 h
        refine run_skip ?_
        refine run_seq ?_
        refine run_block ?_
        refine run_seq ?_
        obtain ⟨x1, e3, h⟩ := bind_some h
        obtain ⟨x2, e4, h⟩ := bind_some h
        refine run_draw (n := 8) (by kernel_rfl) (by kernel_rfl) (by kernel_rfl) (by kernel_rfl) (.read (.plain rfl (pj_move (has_tmp rfl))) <| .read (.plain rfl (pj_move (has_tmp rfl))) <| .read (.plain rfl (pj_index_slx (has_tmp rfl) (has_tmp rfl) isInt_i64 e3 (by kernel_rfl))) <| .read (.plain rfl (pj_load_to (has_tmp rfl) (by kernel_rfl))) <| .read (.plain rfl (pj_move (has_tmp rfl))) <| .read (.plain rfl (pj_move (has_tmp rfl))) <| .read (.plain rfl (pj_index_slx (has_tmp rfl) (has_tmp rfl) isInt_i64 e4 (by kernel_rfl))) <| .read (.plain rfl (pj_load_to (has_tmp rfl) (by kernel_rfl))) <| .nil) (j_to (Γ' := [(0, (sl R_api_Hash).slot p_a), (1, (sl R_api_Hash).slot p_b), (5, i64.slot y1), (20, R_api_Hash.slot x1), (24, R_api_Hash.slot x2)]) (H' := []) (.cons (.of_lk rfl) <| .cons (.of_lk rfl) <| .cons (.of_lk rfl) <| .cons (.of_lk rfl) <| .cons (.of_lk rfl) <| .nil) (.nil) ?_)
        refine j_pure (pj_neq (n := 2) (eq_vec (e := 5) (by kernel_rfl) (by kernel_rfl) (eq_un (by kernel_rfl))) (by decide) rfl (by kernel_rfl) (has_tmp rfl) (has_tmp rfl)) rfl rfl rfl ?_
        refine j_end ?_
        refine run_cond (has_tmp rfl) (fun e5 => ?_) (fun e5 => ?_)
        · replace h := bt e5 h
          refine run_seq ?_
          refine run_text ?_
          refine j_pure (pj_assign has_bl) rfl rfl rfl ?_
          refine j_end ?_
          obtain rfl := Option.some.inj h
          refine run_ret fun a w hst => ⟨rfl, fun hr => ?_⟩
          subst hr
          exact hq2 a w (q_ret1 hst rfl (.tmp rfl) () (fun _ _ h => h) (.nil))
        · replace h := bf e5 h
          refine run_skip ?_
          refine run_endblock ?_
          refine run_text ?_
          refine j_pure (pj_move (has_tmp rfl)) rfl rfl rfl ?_
          refine j_pure (pj_iadd (has_tmp rfl) has_i64) rfl rfl rfl ?_
          refine j_pure (pj_assign (has_tmp rfl)) rfl rfl rfl ?_
          refine j_end ?_
          obtain rfl := Option.some.inj h
          exact run_next () (.cons (.of_lk rfl) <| .cons (.of_lk rfl) <| .cons (.of_lk rfl) <| .nil) (.nil)
      · replace h := bf e2 h
        obtain rfl := Option.some.inj h
        exact run_brk () (.cons (.of_lk rfl) <| .cons (.of_lk rfl) <| .cons (.of_lk rfl) <| .nil) (.nil)
    · rintro _ y2 ho
      subst ho
      show Run _ _ _ [(0, (sl R_api_Hash).slot p_a), (1, (sl R_api_Hash).slot p_b), (5, i64.slot y2)] []
      refine run_to (Γ' := []) (H' := []) (.nil) (.nil) ?_
      refine run_seq ?_
      refine run_text ?_
      refine j_pure (pj_assign has_bl) rfl rfl rfl ?_
      refine j_end ?_
      obtain rfl := Option.some.inj h
      exact run_ret fun a w hst => q_ret1 hst rfl (.tmp rfl) () (fun _ _ h => h) (.nil)
    · intro x a w ho hR
      subst ho
      exact hq1 a w (hR (Option.some.inj h))
set_option maxRecDepth 100000 in
set_option maxHeartbeats 4000000 in
theorem c_rolodexref15_Ranges {G : GP} {p_a : T_rolodexref15_Range} {p_b : T_rolodexref15_Range} {r : Bool} (h : rolodexref15_Ranges p_a p_b = some r) : Ctr Tryd.prog G 27 [R_rolodexref15_Range.slot p_a, R_rolodexref15_Range.slot p_b] [] (fun (_ : Unit) => bl.slot r) (fun (_ : Unit) => []) := by
  unfold rolodexref15_Ranges at h
  refine ctr_of_run Tryd.func27 rfl 24 rfl rfl fun m0 w0 b0 => ?_
  show Run _ _ _ [(0, R_rolodexref15_Range.slot p_a), (1, R_rolodexref15_Range.slot p_b)] _
  refine run_seq ?_
  refine run_text ?_
  refine j_pure (pj_box_to (has_tmp rfl)) rfl rfl rfl ?_
  refine j_pure (pj_box_to (has_tmp rfl)) rfl rfl rfl ?_
  refine j_pure (pj_assign has_bl) rfl rfl rfl ?_
  refine j_end ?_
  refine run_seq ?_
  refine run_text ?_
  refine j_pure (pj_field_to (has_tmp rfl) (Path.fst i64 (prod i64 (sl R_api_Hash))) (by kernel_rfl)) rfl rfl rfl ?_
  refine j_pure (pj_load_to (has_tmp rfl) (by kernel_rfl)) rfl rfl rfl ?_
  refine j_pure (pj_field_to (has_tmp rfl) (Path.fst i64 (prod i64 (sl R_api_Hash))) (by kernel_rfl)) rfl rfl rfl ?_
  refine j_pure (pj_load_to (has_tmp rfl) (by kernel_rfl)) rfl rfl rfl ?_
  refine j_pure (pj_ieql (has_tmp rfl) (has_tmp rfl)) rfl rfl rfl ?_
  refine j_pure (pj_move (has_tmp rfl)) rfl rfl rfl ?_
  obtain ⟨y1, e2, h⟩ := bind_some h
  refine j_joinx (ι := Unit) (Γ' := fun _ => [(2, ptrTo R_rolodexref15_Range p_a), (3, ptrTo R_rolodexref15_Range p_b), (16, bl.slot y1)]) (H' := fun _ => []) 6 ?_ fun J => ?_
  · intro _
    clear e2
    show OpsJ _ _ _ [(2, ptrTo R_rolodexref15_Range p_a), (3, ptrTo R_rolodexref15_Range p_b), (16, bl.slot y1)] [] _
    refine j_pure (pj_move (has_tmp rfl)) rfl rfl rfl ?_
    obtain ⟨y2, e4, h⟩ := bind_some h
    refine j_joinx (ι := Unit) (Γ' := fun _ => [(23, bl.slot y2)]) (H' := fun _ => []) 6 ?_ fun J => ?_
    · intro _
      clear e4
      show OpsJ _ _ _ [(23, bl.slot y2)] [] _
      refine j_pure (pj_assign (has_tmp rfl)) rfl rfl rfl ?_
      refine j_end ?_
      obtain rfl := Option.some.inj h
      exact run_ret fun a w hst => q_ret1 hst rfl (.tmp rfl) () (fun _ _ h => h) (.nil)
    · rcases bool_tf (y1) with e3 | e3
      · replace e4 := bt e3 e4
        refine j_pure_y (pj_field_to (has_tmp rfl) (Path.then (Path.snd i64 (prod i64 (sl R_api_Hash))) (Path.snd i64 (sl R_api_Hash))) (by kernel_rfl)) rfl rfl rfl rfl (bl_isx e3) rfl rfl ?_
        refine j_pure_y (pj_load_to (has_tmp rfl) (by kernel_rfl)) rfl rfl rfl rfl (bl_isx e3) rfl rfl ?_
        refine j_pure_y (pj_field_to (has_tmp rfl) (Path.then (Path.snd i64 (prod i64 (sl R_api_Hash))) (Path.snd i64 (sl R_api_Hash))) (by kernel_rfl)) rfl rfl rfl rfl (bl_isx e3) rfl rfl ?_
        refine j_pure_y (pj_load_to (has_tmp rfl) (by kernel_rfl)) rfl rfl rfl rfl (bl_isx e3) rfl rfl ?_
        obtain ⟨r1, e5, e4⟩ := bind_some e4
        refine j_pure_y (pj_call (hasL_cons (has_tmp rfl) <| hasL_cons (has_tmp rfl) <| hasL_nil) (by kernel_rfl) (c_rolodexref15_Same e5)) rfl rfl rfl rfl (bl_isx e3) rfl rfl ?_
        refine j_pure (PJ.eqv (R := bl) (pj_pick (t := any) (has_tmp rfl) (fun _ => (has_tmp rfl)) (fun he => absurd (e3.symm.trans he) (by decide))) (Option.some.inj e4)) rfl rfl rfl ?_
        exact j_to (.cons (.of_lk rfl) <| .nil) (.nil) (J ())
      · replace e4 := bf e3 e4
        refine j_guard_no2 (j := 12) (want := true) rfl rfl rfl rfl (bl_isx e3) rfl rfl rfl ?_
        refine j_guard_no2 (j := 12) (want := true) rfl rfl rfl rfl (bl_isx e3) rfl rfl rfl ?_
        refine j_guard_no2 (j := 12) (want := true) rfl rfl rfl rfl (bl_isx e3) rfl rfl rfl ?_
        refine j_guard_no2 (j := 12) (want := true) rfl rfl rfl rfl (bl_isx e3) rfl rfl rfl ?_
        refine j_guard_no2 (j := 12) (want := true) rfl rfl rfl rfl (bl_isx e3) rfl rfl rfl ?_
        refine j_pure (PJ.eqv (R := bl) (pj_pick (t := any) (has_tmp rfl) (fun he => absurd (e3.symm.trans he) (by decide)) (fun _ => has_bl)) (Option.some.inj e4)) rfl rfl rfl ?_
        exact j_to (.cons (.of_lk rfl) <| .nil) (.nil) (J ())
  · rcases bool_tf (decide (p_a.1 = p_b.1)) with e1 | e1
    · replace e2 := bt e1 e2
      refine j_pure_y (pj_field_to (has_tmp rfl) (Path.then (Path.snd i64 (prod i64 (sl R_api_Hash))) (Path.fst i64 (sl R_api_Hash))) (by kernel_rfl)) rfl rfl rfl rfl (bl_isx e1) rfl rfl ?_
      refine j_pure_y (pj_load_to (has_tmp rfl) (by kernel_rfl)) rfl rfl rfl rfl (bl_isx e1) rfl rfl ?_
      refine j_pure_y (pj_field_to (has_tmp rfl) (Path.then (Path.snd i64 (prod i64 (sl R_api_Hash))) (Path.fst i64 (sl R_api_Hash))) (by kernel_rfl)) rfl rfl rfl rfl (bl_isx e1) rfl rfl ?_
      refine j_pure_y (pj_load_to (has_tmp rfl) (by kernel_rfl)) rfl rfl rfl rfl (bl_isx e1) rfl rfl ?_
      refine j_pure_y (pj_ieql (has_tmp rfl) (has_tmp rfl)) rfl rfl rfl rfl (bl_isx e1) rfl rfl ?_
      refine j_pure (PJ.eqv (R := bl) (pj_pick (t := any) (has_tmp rfl) (fun _ => (has_tmp rfl)) (fun he => absurd (e1.symm.trans he) (by decide))) (Option.some.inj e2)) rfl rfl rfl ?_
      exact j_to (.cons (.of_lk rfl) <| .cons (.of_lk rfl) <| .cons (.of_lk rfl) <| .nil) (.nil) (J ())
    · replace e2 := bf e1 e2
      refine j_guard_no2 (j := 5) (want := true) rfl rfl rfl rfl (bl_isx e1) rfl rfl rfl ?_
      refine j_guard_no2 (j := 5) (want := true) rfl rfl rfl rfl (bl_isx e1) rfl rfl rfl ?_
      refine j_guard_no2 (j := 5) (want := true) rfl rfl rfl rfl (bl_isx e1) rfl rfl rfl ?_
      refine j_guard_no2 (j := 5) (want := true) rfl rfl rfl rfl (bl_isx e1) rfl rfl rfl ?_
      refine j_guard_no2 (j := 5) (want := true) rfl rfl rfl rfl (bl_isx e1) rfl rfl rfl ?_
      refine j_pure (PJ.eqv (R := bl) (pj_pick (t := any) (has_tmp rfl) (fun he => absurd (e1.symm.trans he) (by decide)) (fun _ => has_bl)) (Option.some.inj e2)) rfl rfl rfl ?_
      exact j_to (.cons (.of_lk rfl) <| .cons (.of_lk rfl) <| .cons (.of_lk rfl) <| .nil) (.nil) (J ())
set_option maxRecDepth 100000 in
set_option maxHeartbeats 4000000 in
theorem c_rolodexlaw15_to {G : GP} {p_r : T_frontier_Range} {r : T_rolodexref15_Range} (h : rolodexlaw15_to p_r = some r) : Ctr Tryd.prog G 28 [R_frontier_Range.slot p_r] [] (fun (_ : Unit) => R_rolodexref15_Range.slot r) (fun (_ : Unit) => []) := by
  unfold rolodexlaw15_to at h
  refine ctr_of_run Tryd.func28 rfl 4 rfl rfl fun m0 w0 b0 => ?_
  show Run _ _ _ [(0, R_frontier_Range.slot p_r)] _
  refine run_seq ?_
  refine run_text ?_
  refine j_pure (pj_box_to (has_tmp rfl)) rfl rfl rfl ?_
  refine j_alloc (x := (0, 0, ([] : List T_api_Hash))) (R := R_rolodexref15_Range) (zero_prod zero_i64 (zero_prod zero_i64 zero_sl)) (by kernel_rfl) rfl fun b1 => ?_
  refine j_end ?_
  refine run_seq ?_
  refine run_text ?_
  refine j_pure (pj_load_to (has_tmp rfl) (by kernel_rfl)) rfl rfl rfl ?_
  refine j_store_boxx (r' := p_r) (has_tmp rfl) (has_tmp rfl) .here (Path.all R_rolodexref15_Range) (by kernel_rfl) rfl ?_
  refine j_end ?_
  obtain rfl := Option.some.inj h
  exact run_ret fun a w hst => q_ret1 hst rfl (.cell rfl .here (by kernel_rfl)) () (fun _ _ h => h) (.nil)
set_option maxRecDepth 100000 in
set_option maxHeartbeats 4000000 in
theorem c_rolodexlaw15_FrontierRanges {G : GP} (hg0 : HG0 G) (hg1 : HG1 G) (hg2 : HG2 G) (hg3 : HG3 G) {p_from : Int} {p_l : List T_api_Hash} {r : Bool} (h : rolodexlaw15_FrontierRanges p_from p_l = some r) : Ctr Tryd.prog G 5 [i64.slot p_from, (sl R_api_Hash).slot p_l] [] (fun (_ : Unit) => bl.slot r) (fun (_ : Unit) => []) := by
  unfold rolodexlaw15_FrontierRanges at h
  refine ctr_of_run Tryd.func5 rfl 71 rfl rfl fun m0 w0 b0 => ?_
  show Run _ _ _ [(0, i64.slot p_from), (1, (sl R_api_Hash).slot p_l)] _
  refine run_seq ?_
  refine run_text ?_
  refine j_pure (pj_assign has_bl) rfl rfl rfl ?_
  refine j_end ?_
  refine run_seq ?_
  refine run_seq ?_
  refine run_text ?_
  obtain ⟨r1, e1, h⟩ := bind_some h
  refine j_pure (pj_call (hasL_nil) (by kernel_rfl) (c_rolodexlaw15_awake hg0 hg1 e1)) rfl rfl rfl ?_
  refine j_pure (pj_not (has_tmp rfl)) rfl rfl rfl ?_
  refine j_pure (pj_move (has_tmp rfl)) rfl rfl rfl ?_
  obtain ⟨y1, e3, h⟩ := bind_some h
  refine j_joinx (ι := Unit) (Γ' := fun _ => [(0, i64.slot p_from), (1, (sl R_api_Hash).slot p_l), (17, bl.slot y1)]) (H' := fun _ => []) 4 ?_ fun J => ?_
  · intro _
    clear e3
    show OpsJ _ _ _ [(0, i64.slot p_from), (1, (sl R_api_Hash).slot p_l), (17, bl.slot y1)] [] _
    refine j_end ?_
    refine run_cond (has_tmp rfl) (fun e4 => ?_) (fun e4 => ?_)
    · replace h := bt e4 h
      refine run_seq ?_
      refine run_text ?_
      obtain ⟨r2, e5, h⟩ := bind_some h
      refine j_pure (pj_call (hasL_nil) (by kernel_rfl) (c_rolodexlaw15_awake hg0 hg1 e5)) rfl rfl rfl ?_
      refine j_pure (pj_assign (has_tmp rfl)) rfl rfl rfl ?_
      refine j_end ?_
      obtain rfl := Option.some.inj h
      exact run_ret fun a w hst => q_ret1 hst rfl (.tmp rfl) () (fun _ _ h => h) (.nil)
    · replace h := bf e4 h
      refine run_skip ?_
      refine run_seq ?_
      refine run_text ?_
      refine j_pure (pj_move (has_tmp rfl)) rfl rfl rfl ?_
      refine j_pure (pj_move (has_tmp rfl)) rfl rfl rfl ?_
      obtain ⟨r3, e6, h⟩ := bind_some h
      refine j_pure (pj_call (hasL_cons (has_tmp rfl) <| hasL_cons (has_tmp rfl) <| hasL_nil) (by kernel_rfl) (c_frontier_Of hg0 hg1 e6)) rfl rfl rfl ?_
      refine j_pure (pj_move (has_tmp rfl)) rfl rfl rfl ?_
      refine j_pure (pj_extract (has_tmp rfl) rfl) rfl rfl rfl ?_
      refine j_pure (pj_extract (has_tmp rfl) rfl) rfl rfl rfl ?_
      refine j_alloc (x := (0, 0, ([] : List T_api_Hash))) (R := R_frontier_Range) (zero_prod zero_i64 (zero_prod zero_i64 zero_sl)) (by kernel_rfl) rfl fun b1 => ?_
      refine j_store_boxx (r' := r3.1) (has_tmp rfl) (has_tmp rfl) .here (Path.all R_frontier_Range) (by kernel_rfl) rfl ?_
      refine j_freezeTo (t := 5) .here (.of_lk rfl) ?_
      refine j_pure (pj_assign (has_tmp rfl)) rfl rfl rfl ?_
      refine j_end ?_
      refine run_seq ?_
      refine run_text ?_
      refine j_pure (pj_move (has_tmp rfl)) rfl rfl rfl ?_
      refine j_pure (pj_move (has_tmp rfl)) rfl rfl rfl ?_
      obtain ⟨r4, e7, h⟩ := bind_some h
      refine j_pure (pj_call (hasL_cons (has_tmp rfl) <| hasL_cons (has_tmp rfl) <| hasL_nil) (by kernel_rfl) (c_rolodexref15_Of e7)) rfl rfl rfl ?_
      refine j_pure (pj_move (has_tmp rfl)) rfl rfl rfl ?_
      refine j_pure (pj_extract (has_tmp rfl) rfl) rfl rfl rfl ?_
      refine j_pure (pj_extract (has_tmp rfl) rfl) rfl rfl rfl ?_
      refine j_alloc (x := (0, 0, ([] : List T_api_Hash))) (R := R_rolodexref15_Range) (zero_prod zero_i64 (zero_prod zero_i64 zero_sl)) (by kernel_rfl) rfl fun b2 => ?_
      refine j_store_boxx (r' := r4.1) (has_tmp rfl) (has_tmp rfl) .here (Path.all R_rolodexref15_Range) (by kernel_rfl) rfl ?_
      refine j_freezeTo (t := 7) .here (.of_lk rfl) ?_
      refine j_pure (pj_assign (has_tmp rfl)) rfl rfl rfl ?_
      refine j_end ?_
      refine run_seq ?_
      refine run_text ?_
      refine j_pure (pj_load_to (has_tmp rfl) (by kernel_rfl)) rfl rfl rfl ?_
      obtain ⟨r5, e8, h⟩ := bind_some h
      refine j_pure (pj_call (hasL_cons (has_tmp rfl) <| hasL_nil) (by kernel_rfl) (c_frontier_Root hg0 hg1 hg2 hg3 e8)) rfl rfl rfl ?_
      refine j_pure (pj_move (has_tmp rfl)) rfl rfl rfl ?_
      refine j_pure (pj_extract (has_tmp rfl) rfl) rfl rfl rfl ?_
      refine j_pure (pj_extract (has_tmp rfl) rfl) rfl rfl rfl ?_
      refine j_alloc (x := (Vector.replicate 32 (0#8))) (R := R_api_Hash) (zero_vec 32 zero_un) (by kernel_rfl) rfl fun b3 => ?_
      refine j_store_boxx (r' := r5.1) (has_tmp rfl) (has_tmp rfl) .here (Path.all R_api_Hash) (by kernel_rfl) rfl ?_
      refine j_freezeTo (t := 9) .here (.of_lk rfl) ?_
      refine j_pure (pj_assign (has_tmp rfl)) rfl rfl rfl ?_
      refine j_end ?_
      refine run_seq ?_
      refine run_seq ?_
      obtain ⟨y2, e10, h⟩ := bind_some h
      refine (run_drawJ (n := 10) (Γ' := [(0, i64.slot p_from), (1, (sl R_api_Hash).slot p_l), (5, ptrTo R_frontier_Range r3.1), (6, i64.slot r3.2), (9, ptrTo R_api_Hash r5.1), (10, i64.slot r5.2), (45, bl.slot y2)]) (H' := []) ?_ fun J => ?_)
      · clear e10
        refine j_pure (pj_move (has_tmp rfl)) rfl rfl rfl ?_
        obtain ⟨y3, e14, h⟩ := bind_some h
        refine j_joinx (ι := Unit) (Γ' := fun _ => [(0, i64.slot p_from), (1, (sl R_api_Hash).slot p_l), (6, i64.slot r3.2), (9, ptrTo R_api_Hash r5.1), (10, i64.slot r5.2), (54, bl.slot y3)]) (H' := fun _ => []) 8 ?_ fun J => ?_
        · intro _
          clear e14
          show OpsJ _ _ _ [(0, i64.slot p_from), (1, (sl R_api_Hash).slot p_l), (6, i64.slot r3.2), (9, ptrTo R_api_Hash r5.1), (10, i64.slot r5.2), (54, bl.slot y3)] [] _
          refine j_end ?_
          refine run_cond (has_tmp rfl) (fun e18 => ?_) (fun e18 => ?_)
          · replace h := bt e18 h
            refine run_seq ?_
            refine run_text ?_
            refine j_pure (pj_assign has_bl) rfl rfl rfl ?_
            refine j_end ?_
            obtain rfl := Option.some.inj h
            exact run_ret fun a w hst => q_ret1 hst rfl (.tmp rfl) () (fun _ _ h => h) (.nil)
          · replace h := bf e18 h
            refine run_skip ?_
            refine run_seq ?_
            obtain ⟨y5, e20, h⟩ := bind_some h
            refine (run_drawJ (n := 16) (Γ' := [(70, bl.slot y5)]) (H' := []) ?_ fun J => ?_)
            · clear e20
              refine j_pure (pj_assign (has_tmp rfl)) rfl rfl rfl ?_
              refine j_end ?_
              obtain rfl := Option.some.inj h
              exact run_ret fun a w hst => q_ret1 hst rfl (.tmp rfl) () (fun _ _ h => h) (.nil)
            · rcases bool_tf (!decide (p_from = (0 : Int))) with e19 | e19
              · replace e20 := bt e19 e20
                exact run_draw (n := 16) (by kernel_rfl) (by kernel_rfl) (by kernel_rfl) (by kernel_rfl) (.read (.plain rfl (pj_move (has_tmp rfl))) <| .read (.plain rfl (pj_ineq (has_tmp rfl) has_i64)) <| .read (.plain rfl (pj_move (has_tmp rfl))) <| .read (.no ⟨2, false, _, 57, _, rfl, rfl, rfl, fun _ _ => bl_p.1, gd_no e19⟩) <| .read (.no ⟨2, false, _, 57, _, rfl, rfl, rfl, fun _ _ => bl_p.1, gd_no e19⟩) <| .read (.no ⟨2, false, _, 57, _, rfl, rfl, rfl, fun _ _ => bl_p.1, gd_no e19⟩) <| .read (.undef ⟨5, true, 60, rfl, rfl, rfl⟩) <| .read (.undef ⟨5, true, 60, rfl, rfl, rfl⟩) <| .read (.no ⟨2, false, _, 57, _, rfl, rfl, rfl, fun _ _ => bl_p.1, gd_no e19⟩) <| .read (.no ⟨2, false, _, 57, _, rfl, rfl, rfl, fun _ _ => bl_p.1, gd_no e19⟩) <| .read (.undef ⟨9, true, 64, rfl, rfl, rfl⟩) <| .read (.undef ⟨9, true, 64, rfl, rfl, rfl⟩) <| .read (.undef ⟨9, true, 64, rfl, rfl, rfl⟩) <| .read (.undef ⟨9, true, 64, rfl, rfl, rfl⟩) <| .read (.no ⟨2, false, _, 57, _, rfl, rfl, rfl, fun _ _ => bl_p.1, gd_no e19⟩) <| .read (.plain rfl (PJ.eqv (R := bl) (pj_pick (t := any) (has_tmp rfl) (fun _ => has_bl) (fun he => absurd (e19.symm.trans he) (by decide))) (Option.some.inj e20))) <| .nil) (j_to (Γ' := [(70, bl.slot y5)]) (H' := []) (.cons (.of_lk rfl) <| .nil) (.nil) J)
              · replace e20 := bf e19 e20
                obtain ⟨y6, e22, e20⟩ := bind_some e20
                rcases bool_tf (decide (r3.2 = (0 : Int))) with e21 | e21
                · replace e22 := bt e21 e22
                  obtain ⟨y7, e24, e20⟩ := bind_some e20
                  rcases bool_tf (y6) with e23 | e23
                  · replace e24 := bt e23 e24
                    obtain ⟨r9, e25, e24⟩ := bind_some e24
                    exact run_draw (n := 16) (by kernel_rfl) (by kernel_rfl) (by kernel_rfl) (by kernel_rfl) (.read (.plain rfl (pj_move (has_tmp rfl))) <| .read (.plain rfl (pj_ineq (has_tmp rfl) has_i64)) <| .read (.plain rfl (pj_move (has_tmp rfl))) <| .read (.yes ⟨2, false, _, 57, _, rfl, rfl, rfl, fun _ _ => bl_p.1, gd_yes e19⟩ (pj_move (has_tmp rfl))) <| .read (.yes ⟨2, false, _, 57, _, rfl, rfl, rfl, fun _ _ => bl_p.1, gd_yes e19⟩ (pj_ieql (has_tmp rfl) has_i64)) <| .read (.yes ⟨2, false, _, 57, _, rfl, rfl, rfl, fun _ _ => bl_p.1, gd_yes e19⟩ (pj_move (has_tmp rfl))) <| .read (.yes ⟨5, true, _, 60, _, rfl, rfl, rfl, fun _ _ => bl_p.1, gd_yes e21⟩ (pj_move (has_tmp rfl))) <| .read (.yes ⟨5, true, _, 60, _, rfl, rfl, rfl, fun _ _ => bl_p.1, gd_yes e21⟩ (pj_ieql (has_tmp rfl) has_i64)) <| .read (.yes ⟨2, false, _, 57, _, rfl, rfl, rfl, fun _ _ => bl_p.1, gd_yes e19⟩ (PJ.eqv (R := bl) (pj_pick (t := any) (has_tmp rfl) (fun _ => (has_tmp rfl)) (fun he => absurd (e21.symm.trans he) (by decide))) (Option.some.inj e22))) <| .read (.yes ⟨2, false, _, 57, _, rfl, rfl, rfl, fun _ _ => bl_p.1, gd_yes e19⟩ (pj_move (has_tmp rfl))) <| .read (.yes ⟨9, true, _, 64, _, rfl, rfl, rfl, fun _ _ => bl_p.1, gd_yes e23⟩ (pj_load_to (has_tmp rfl) (by kernel_rfl))) <| .read (.yes ⟨9, true, _, 64, _, rfl, rfl, rfl, fun _ _ => bl_p.1, gd_yes e23⟩ (pj_move (has_tmp rfl))) <| .read (.yes ⟨9, true, _, 64, _, rfl, rfl, rfl, fun _ _ => bl_p.1, gd_yes e23⟩ (pj_call (hasL_cons (has_tmp rfl) <| hasL_nil) (by kernel_rfl) (c_rolodexref15_List e25))) <| .read (.yes ⟨9, true, _, 64, _, rfl, rfl, rfl, fun _ _ => bl_p.1, gd_yes e23⟩ (pj_eql (n := 2) (eq_vec (e := 5) (by kernel_rfl) (by kernel_rfl) (eq_un (by kernel_rfl))) (by decide) rfl (by kernel_rfl) (has_tmp rfl) (has_tmp rfl))) <| .read (.yes ⟨2, false, _, 57, _, rfl, rfl, rfl, fun _ _ => bl_p.1, gd_yes e19⟩ (PJ.eqv (R := bl) (pj_pick (t := any) (has_tmp rfl) (fun _ => (has_tmp rfl)) (fun he => absurd (e23.symm.trans he) (by decide))) (Option.some.inj e24))) <| .read (.plain rfl (PJ.eqv (R := bl) (pj_pick (t := any) (has_tmp rfl) (fun he => absurd (e19.symm.trans he) (by decide)) (fun _ => (has_tmp rfl))) (Option.some.inj e20))) <| .nil) (j_to (Γ' := [(70, bl.slot y5)]) (H' := []) (.cons (.of_lk rfl) <| .nil) (.nil) J)
                  · replace e24 := bf e23 e24
                    exact run_draw (n := 16) (by kernel_rfl) (by kernel_rfl) (by kernel_rfl) (by kernel_rfl) (.read (.plain rfl (pj_move (has_tmp rfl))) <| .read (.plain rfl (pj_ineq (has_tmp rfl) has_i64)) <| .read (.plain rfl (pj_move (has_tmp rfl))) <| .read (.yes ⟨2, false, _, 57, _, rfl, rfl, rfl, fun _ _ => bl_p.1, gd_yes e19⟩ (pj_move (has_tmp rfl))) <| .read (.yes ⟨2, false, _, 57, _, rfl, rfl, rfl, fun _ _ => bl_p.1, gd_yes e19⟩ (pj_ieql (has_tmp rfl) has_i64)) <| .read (.yes ⟨2, false, _, 57, _, rfl, rfl, rfl, fun _ _ => bl_p.1, gd_yes e19⟩ (pj_move (has_tmp rfl))) <| .read (.yes ⟨5, true, _, 60, _, rfl, rfl, rfl, fun _ _ => bl_p.1, gd_yes e21⟩ (pj_move (has_tmp rfl))) <| .read (.yes ⟨5, true, _, 60, _, rfl, rfl, rfl, fun _ _ => bl_p.1, gd_yes e21⟩ (pj_ieql (has_tmp rfl) has_i64)) <| .read (.yes ⟨2, false, _, 57, _, rfl, rfl, rfl, fun _ _ => bl_p.1, gd_yes e19⟩ (PJ.eqv (R := bl) (pj_pick (t := any) (has_tmp rfl) (fun _ => (has_tmp rfl)) (fun he => absurd (e21.symm.trans he) (by decide))) (Option.some.inj e22))) <| .read (.yes ⟨2, false, _, 57, _, rfl, rfl, rfl, fun _ _ => bl_p.1, gd_yes e19⟩ (pj_move (has_tmp rfl))) <| .read (.no ⟨9, true, _, 64, _, rfl, rfl, rfl, fun _ _ => bl_p.1, gd_no e23⟩) <| .read (.no ⟨9, true, _, 64, _, rfl, rfl, rfl, fun _ _ => bl_p.1, gd_no e23⟩) <| .read (.no ⟨9, true, _, 64, _, rfl, rfl, rfl, fun _ _ => bl_p.1, gd_no e23⟩) <| .read (.no ⟨9, true, _, 64, _, rfl, rfl, rfl, fun _ _ => bl_p.1, gd_no e23⟩) <| .read (.yes ⟨2, false, _, 57, _, rfl, rfl, rfl, fun _ _ => bl_p.1, gd_yes e19⟩ (PJ.eqv (R := bl) (pj_pick (t := any) (has_tmp rfl) (fun he => absurd (e23.symm.trans he) (by decide)) (fun _ => has_bl)) (Option.some.inj e24))) <| .read (.plain rfl (PJ.eqv (R := bl) (pj_pick (t := any) (has_tmp rfl) (fun he => absurd (e19.symm.trans he) (by decide)) (fun _ => (has_tmp rfl))) (Option.some.inj e20))) <| .nil) (j_to (Γ' := [(70, bl.slot y5)]) (H' := []) (.cons (.of_lk rfl) <| .nil) (.nil) J)
                · replace e22 := bf e21 e22
                  obtain ⟨y7, e24, e20⟩ := bind_some e20
                  rcases bool_tf (y6) with e23 | e23
                  · replace e24 := bt e23 e24
                    obtain ⟨r9, e25, e24⟩ := bind_some e24
                    exact run_draw (n := 16) (by kernel_rfl) (by kernel_rfl) (by kernel_rfl) (by kernel_rfl) (.read (.plain rfl (pj_move (has_tmp rfl))) <| .read (.plain rfl (pj_ineq (has_tmp rfl) has_i64)) <| .read (.plain rfl (pj_move (has_tmp rfl))) <| .read (.yes ⟨2, false, _, 57, _, rfl, rfl, rfl, fun _ _ => bl_p.1, gd_yes e19⟩ (pj_move (has_tmp rfl))) <| .read (.yes ⟨2, false, _, 57, _, rfl, rfl, rfl, fun _ _ => bl_p.1, gd_yes e19⟩ (pj_ieql (has_tmp rfl) has_i64)) <| .read (.yes ⟨2, false, _, 57, _, rfl, rfl, rfl, fun _ _ => bl_p.1, gd_yes e19⟩ (pj_move (has_tmp rfl))) <| .read (.no ⟨5, true, _, 60, _, rfl, rfl, rfl, fun _ _ => bl_p.1, gd_no e21⟩) <| .read (.no ⟨5, true, _, 60, _, rfl, rfl, rfl, fun _ _ => bl_p.1, gd_no e21⟩) <| .read (.yes ⟨2, false, _, 57, _, rfl, rfl, rfl, fun _ _ => bl_p.1, gd_yes e19⟩ (PJ.eqv (R := bl) (pj_pick (t := any) (has_tmp rfl) (fun he => absurd (e21.symm.trans he) (by decide)) (fun _ => has_bl)) (Option.some.inj e22))) <| .read (.yes ⟨2, false, _, 57, _, rfl, rfl, rfl, fun _ _ => bl_p.1, gd_yes e19⟩ (pj_move (has_tmp rfl))) <| .read (.yes ⟨9, true, _, 64, _, rfl, rfl, rfl, fun _ _ => bl_p.1, gd_yes e23⟩ (pj_load_to (has_tmp rfl) (by kernel_rfl))) <| .read (.yes ⟨9, true, _, 64, _, rfl, rfl, rfl, fun _ _ => bl_p.1, gd_yes e23⟩ (pj_move (has_tmp rfl))) <| .read (.yes ⟨9, true, _, 64, _, rfl, rfl, rfl, fun _ _ => bl_p.1, gd_yes e23⟩ (pj_call (hasL_cons (has_tmp rfl) <| hasL_nil) (by kernel_rfl) (c_rolodexref15_List e25))) <| .read (.yes ⟨9, true, _, 64, _, rfl, rfl, rfl, fun _ _ => bl_p.1, gd_yes e23⟩ (pj_eql (n := 2) (eq_vec (e := 5) (by kernel_rfl) (by kernel_rfl) (eq_un (by kernel_rfl))) (by decide) rfl (by kernel_rfl) (has_tmp rfl) (has_tmp rfl))) <| .read (.yes ⟨2, false, _, 57, _, rfl, rfl, rfl, fun _ _ => bl_p.1, gd_yes e19⟩ (PJ.eqv (R := bl) (pj_pick (t := any) (has_tmp rfl) (fun _ => (has_tmp rfl)) (fun he => absurd (e23.symm.trans he) (by decide))) (Option.some.inj e24))) <| .read (.plain rfl (PJ.eqv (R := bl) (pj_pick (t := any) (has_tmp rfl) (fun he => absurd (e19.symm.trans he) (by decide)) (fun _ => (has_tmp rfl))) (Option.some.inj e20))) <| .nil) (j_to (Γ' := [(70, bl.slot y5)]) (H' := []) (.cons (.of_lk rfl) <| .nil) (.nil) J)
                  · replace e24 := bf e23 e24
                    exact run_draw (n := 16) (by kernel_rfl) (by kernel_rfl) (by kernel_rfl) (by kernel_rfl) (.read (.plain rfl (pj_move (has_tmp rfl))) <| .read (.plain rfl (pj_ineq (has_tmp rfl) has_i64)) <| .read (.plain rfl (pj_move (has_tmp rfl))) <| .read (.yes ⟨2, false, _, 57, _, rfl, rfl, rfl, fun _ _ => bl_p.1, gd_yes e19⟩ (pj_move (has_tmp rfl))) <| .read (.yes ⟨2, false, _, 57, _, rfl, rfl, rfl, fun _ _ => bl_p.1, gd_yes e19⟩ (pj_ieql (has_tmp rfl) has_i64)) <| .read (.yes ⟨2, false, _, 57, _, rfl, rfl, rfl, fun _ _ => bl_p.1, gd_yes e19⟩ (pj_move (has_tmp rfl))) <| .read (.no ⟨5, true, _, 60, _, rfl, rfl, rfl, fun _ _ => bl_p.1, gd_no e21⟩) <| .read (.no ⟨5, true, _, 60, _, rfl, rfl, rfl, fun _ _ => bl_p.1, gd_no e21⟩) <| .read (.yes ⟨2, false, _, 57, _, rfl, rfl, rfl, fun _ _ => bl_p.1, gd_yes e19⟩ (PJ.eqv (R := bl) (pj_pick (t := any) (has_tmp rfl) (fun he => absurd (e21.symm.trans he) (by decide)) (fun _ => has_bl)) (Option.some.inj e22))) <| .read (.yes ⟨2, false, _, 57, _, rfl, rfl, rfl, fun _ _ => bl_p.1, gd_yes e19⟩ (pj_move (has_tmp rfl))) <| .read (.no ⟨9, true, _, 64, _, rfl, rfl, rfl, fun _ _ => bl_p.1, gd_no e23⟩) <| .read (.no ⟨9, true, _, 64, _, rfl, rfl, rfl, fun _ _ => bl_p.1, gd_no e23⟩) <| .read (.no ⟨9, true, _, 64, _, rfl, rfl, rfl, fun _ _ => bl_p.1, gd_no e23⟩) <| .read (.no ⟨9, true, _, 64, _, rfl, rfl, rfl, fun _ _ => bl_p.1, gd_no e23⟩) <| .read (.yes ⟨2, false, _, 57, _, rfl, rfl, rfl, fun _ _ => bl_p.1, gd_yes e19⟩ (PJ.eqv (R := bl) (pj_pick (t := any) (has_tmp rfl) (fun he => absurd (e23.symm.trans he) (by decide)) (fun _ => has_bl)) (Option.some.inj e24))) <| .read (.plain rfl (PJ.eqv (R := bl) (pj_pick (t := any) (has_tmp rfl) (fun he => absurd (e19.symm.trans he) (by decide)) (fun _ => (has_tmp rfl))) (Option.some.inj e20))) <| .nil) (j_to (Γ' := [(70, bl.slot y5)]) (H' := []) (.cons (.of_lk rfl) <| .nil) (.nil) J)
        · rcases bool_tf (y2) with e13 | e13
          · replace e14 := bt e13 e14
            refine j_guard_no2 (j := 10) (want := false) rfl rfl rfl rfl (bl_isx e13) rfl rfl rfl ?_
            refine j_guard_no2 (j := 10) (want := false) rfl rfl rfl rfl (bl_isx e13) rfl rfl rfl ?_
            refine j_guard_no2 (j := 10) (want := false) rfl rfl rfl rfl (bl_isx e13) rfl rfl rfl ?_
            refine j_guard_undef (j := 13) (want := true) rfl rfl rfl rfl rfl ?_
            refine j_guard_undef (j := 13) (want := true) rfl rfl rfl rfl rfl ?_
            refine j_guard_undef (j := 13) (want := true) rfl rfl rfl rfl rfl ?_
            refine j_guard_no2 (j := 10) (want := false) rfl rfl rfl rfl (bl_isx e13) rfl rfl rfl ?_
            refine j_pure (PJ.eqv (R := bl) (pj_pick (t := any) (has_tmp rfl) (fun _ => has_bl) (fun he => absurd (e13.symm.trans he) (by decide))) (Option.some.inj e14)) rfl rfl rfl ?_
            exact j_to (.cons (.of_lk rfl) <| .cons (.of_lk rfl) <| .cons (.of_lk rfl) <| .cons (.of_lk rfl) <| .cons (.of_lk rfl) <| .cons (.of_lk rfl) <| .nil) (.nil) (J ())
          · replace e14 := bf e13 e14
            refine j_pure_y (pj_move (has_tmp rfl)) rfl rfl rfl rfl (bl_isx e13) rfl rfl ?_
            refine j_pure_y (pj_ieql (has_tmp rfl) has_i64) rfl rfl rfl rfl (bl_isx e13) rfl rfl ?_
            refine j_pure_y (pj_move (has_tmp rfl)) rfl rfl rfl rfl (bl_isx e13) rfl rfl ?_
            obtain ⟨y4, e16, e14⟩ := bind_some e14
            rcases bool_tf (decide (r3.2 = (0 : Int))) with e15 | e15
            · replace e16 := bt e15 e16
              refine j_pure_y (pj_load_to (has_tmp rfl) (by kernel_rfl)) rfl rfl rfl rfl (bl_isx e15) rfl rfl ?_
              obtain ⟨r8, e17, e16⟩ := bind_some e16
              refine j_pure_y (pj_call (hasL_cons (has_tmp rfl) <| hasL_nil) (by kernel_rfl) (c_frontier_Formed hg2 hg3 e17)) rfl rfl rfl rfl (bl_isx e15) rfl rfl ?_
              refine j_pure_y (pj_not (has_tmp rfl)) rfl rfl rfl rfl (bl_isx e15) rfl rfl ?_
              refine j_pure_y (PJ.eqv (R := bl) (pj_pick (t := any) (has_tmp rfl) (fun _ => (has_tmp rfl)) (fun he => absurd (e15.symm.trans he) (by decide))) (Option.some.inj e16)) rfl rfl rfl rfl (bl_isx e13) rfl rfl ?_
              refine j_pure (PJ.eqv (R := bl) (pj_pick (t := any) (has_tmp rfl) (fun he => absurd (e13.symm.trans he) (by decide)) (fun _ => (has_tmp rfl))) (Option.some.inj e14)) rfl rfl rfl ?_
              exact j_to (.cons (.of_lk rfl) <| .cons (.of_lk rfl) <| .cons (.of_lk rfl) <| .cons (.of_lk rfl) <| .cons (.of_lk rfl) <| .cons (.of_lk rfl) <| .nil) (.nil) (J ())
            · replace e16 := bf e15 e16
              refine j_guard_no2 (j := 13) (want := true) rfl rfl rfl rfl (bl_isx e15) rfl rfl rfl ?_
              refine j_guard_no2 (j := 13) (want := true) rfl rfl rfl rfl (bl_isx e15) rfl rfl rfl ?_
              refine j_guard_no2 (j := 13) (want := true) rfl rfl rfl rfl (bl_isx e15) rfl rfl rfl ?_
              refine j_pure_y (PJ.eqv (R := bl) (pj_pick (t := any) (has_tmp rfl) (fun he => absurd (e15.symm.trans he) (by decide)) (fun _ => has_bl)) (Option.some.inj e16)) rfl rfl rfl rfl (bl_isx e13) rfl rfl ?_
              refine j_pure (PJ.eqv (R := bl) (pj_pick (t := any) (has_tmp rfl) (fun he => absurd (e13.symm.trans he) (by decide)) (fun _ => (has_tmp rfl))) (Option.some.inj e14)) rfl rfl rfl ?_
              exact j_to (.cons (.of_lk rfl) <| .cons (.of_lk rfl) <| .cons (.of_lk rfl) <| .cons (.of_lk rfl) <| .cons (.of_lk rfl) <| .cons (.of_lk rfl) <| .nil) (.nil) (J ())
      · rcases bool_tf (!decide (r3.2 = r4.2)) with e9 | e9
        · replace e10 := bt e9 e10
          exact run_draw (n := 10) (by kernel_rfl) (by kernel_rfl) (by kernel_rfl) (by kernel_rfl) (.read (.plain rfl (pj_move (has_tmp rfl))) <| .read (.plain rfl (pj_move (has_tmp rfl))) <| .read (.plain rfl (pj_ineq (has_tmp rfl) (has_tmp rfl))) <| .read (.plain rfl (pj_move (has_tmp rfl))) <| .read (.no ⟨3, false, _, 39, _, rfl, rfl, rfl, fun _ _ => bl_p.1, gd_no e9⟩) <| .read (.no ⟨3, false, _, 39, _, rfl, rfl, rfl, fun _ _ => bl_p.1, gd_no e9⟩) <| .read (.no ⟨3, false, _, 39, _, rfl, rfl, rfl, fun _ _ => bl_p.1, gd_no e9⟩) <| .read (.no ⟨3, false, _, 39, _, rfl, rfl, rfl, fun _ _ => bl_p.1, gd_no e9⟩) <| .read (.no ⟨3, false, _, 39, _, rfl, rfl, rfl, fun _ _ => bl_p.1, gd_no e9⟩) <| .read (.plain rfl (PJ.eqv (R := bl) (pj_pick (t := any) (has_tmp rfl) (fun _ => has_bl) (fun he => absurd (e9.symm.trans he) (by decide))) (Option.some.inj e10))) <| .nil) (j_to (Γ' := [(0, i64.slot p_from), (1, (sl R_api_Hash).slot p_l), (5, ptrTo R_frontier_Range r3.1), (6, i64.slot r3.2), (9, ptrTo R_api_Hash r5.1), (10, i64.slot r5.2), (45, bl.slot y2)]) (H' := []) (.cons (.of_lk rfl) <| .cons (.of_lk rfl) <| .cons (.of_lk rfl) <| .cons (.of_lk rfl) <| .cons (.of_lk rfl) <| .cons (.of_lk rfl) <| .cons (.of_lk rfl) <| .nil) (.nil) J)
        · replace e10 := bf e9 e10
          obtain ⟨r6, e11, e10⟩ := bind_some e10
          obtain ⟨r7, e12, e10⟩ := bind_some e10
          exact run_draw (n := 10) (by kernel_rfl) (by kernel_rfl) (by kernel_rfl) (by kernel_rfl) (.read (.plain rfl (pj_move (has_tmp rfl))) <| .read (.plain rfl (pj_move (has_tmp rfl))) <| .read (.plain rfl (pj_ineq (has_tmp rfl) (has_tmp rfl))) <| .read (.plain rfl (pj_move (has_tmp rfl))) <| .read (.yes ⟨3, false, _, 39, _, rfl, rfl, rfl, fun _ _ => bl_p.1, gd_yes e9⟩ (pj_load_to (has_tmp rfl) (by kernel_rfl))) <| .read (.yes ⟨3, false, _, 39, _, rfl, rfl, rfl, fun _ _ => bl_p.1, gd_yes e9⟩ (pj_call (hasL_cons (has_tmp rfl) <| hasL_nil) (by kernel_rfl) (c_rolodexlaw15_to e11))) <| .read (.yes ⟨3, false, _, 39, _, rfl, rfl, rfl, fun _ _ => bl_p.1, gd_yes e9⟩ (pj_load_to (has_tmp rfl) (by kernel_rfl))) <| .read (.yes ⟨3, false, _, 39, _, rfl, rfl, rfl, fun _ _ => bl_p.1, gd_yes e9⟩ (pj_call (hasL_cons (has_tmp rfl) <| hasL_cons (has_tmp rfl) <| hasL_nil) (by kernel_rfl) (c_rolodexref15_Ranges e12))) <| .read (.yes ⟨3, false, _, 39, _, rfl, rfl, rfl, fun _ _ => bl_p.1, gd_yes e9⟩ (pj_not (has_tmp rfl))) <| .read (.plain rfl (PJ.eqv (R := bl) (pj_pick (t := any) (has_tmp rfl) (fun he => absurd (e9.symm.trans he) (by decide)) (fun _ => (has_tmp rfl))) (Option.some.inj e10))) <| .nil) (j_to (Γ' := [(0, i64.slot p_from), (1, (sl R_api_Hash).slot p_l), (5, ptrTo R_frontier_Range r3.1), (6, i64.slot r3.2), (9, ptrTo R_api_Hash r5.1), (10, i64.slot r5.2), (45, bl.slot y2)]) (H' := []) (.cons (.of_lk rfl) <| .cons (.of_lk rfl) <| .cons (.of_lk rfl) <| .cons (.of_lk rfl) <| .cons (.of_lk rfl) <| .cons (.of_lk rfl) <| .cons (.of_lk rfl) <| .nil) (.nil) J)
  · rcases bool_tf (!r1) with e2 | e2
    · replace e3 := bt e2 e3
      refine j_guard_no2 (j := 2) (want := false) rfl rfl rfl rfl (bl_isx e2) rfl rfl rfl ?_
      refine j_guard_no2 (j := 2) (want := false) rfl rfl rfl rfl (bl_isx e2) rfl rfl rfl ?_
      refine j_guard_no2 (j := 2) (want := false) rfl rfl rfl rfl (bl_isx e2) rfl rfl rfl ?_
      refine j_pure (PJ.eqv (R := bl) (pj_pick (t := any) (has_tmp rfl) (fun _ => has_bl) (fun he => absurd (e2.symm.trans he) (by decide))) (Option.some.inj e3)) rfl rfl rfl ?_
      exact j_to (.cons (.of_lk rfl) <| .cons (.of_lk rfl) <| .cons (.of_lk rfl) <| .nil) (.nil) (J ())
    · replace e3 := bf e2 e3
      refine j_pure_y (pj_move (has_tmp rfl)) rfl rfl rfl rfl (bl_isx e2) rfl rfl ?_
      refine j_pure_y (pj_len_sl (sz := 32) (has_tmp rfl) (by kernel_rfl)) rfl rfl rfl rfl (bl_isx e2) rfl rfl ?_
      refine j_pure_y (pj_igtr (has_tmp rfl) has_i64) rfl rfl rfl rfl (bl_isx e2) rfl rfl ?_
      refine j_pure (PJ.eqv (R := bl) (pj_pick (t := any) (has_tmp rfl) (fun he => absurd (e2.symm.trans he) (by decide)) (fun _ => (has_tmp rfl))) (Option.some.inj e3)) rfl rfl rfl ?_
      exact j_to (.cons (.of_lk rfl) <| .cons (.of_lk rfl) <| .cons (.of_lk rfl) <| .nil) (.nil) (J ())
end Go.Sl.W
