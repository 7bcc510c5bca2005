import Derived.Test.YtcikfilncagbgaaDoorWA
import Derived.Test.YtcikfilncagbgaaDoorOp14
import Derived.Test.YtcikfilncagbgaaDoorProg
set_option linter.unusedSimpArgs false
set_option linter.unusedVariables false
set_option linter.unusedSectionVars false
namespace Go.Sl.W
open Go.Proofs Go.Sl Go.Sl.M
set_option maxRecDepth 100000 in
set_option maxHeartbeats 4000000 in
theorem c_rolodexref15_Same {G : GP} {p_a : List T_api_Hash} {p_b : List T_api_Hash} {r : Bool} (h : rolodexref15_Same p_a p_b = some r) : Ctr Tryd.prog G 35 [(sl R_api_Hash).slot p_a, (sl R_api_Hash).slot p_b] [] (fun (_ : Unit) => bl.slot r) (fun (_ : Unit) => []) := by
  unfold rolodexref15_Same at h
  refine ctr_of_run Tryd.func35 rfl 26 rfl rfl fun m0 w0 b0 => ?_
  refine run_ret0 fun Qf hq1 hq2 => ?_
  show Run _ _ _ [(0, (sl R_api_Hash).slot p_a), (1, (sl R_api_Hash).slot p_b)] _
  refine run_seq ?_
  refine run_text ?_
  refine j_pure (pj_assign has_bl) rfl rfl rfl ?_
  refine j_end ?_
  refine run_seq ?_
  refine run_seq ?_
  refine run_text ?_
  refine j_pure (pj_move (has_tmp rfl)) rfl rfl rfl ?_
  refine j_pure (pj_len_sl (sz := 32) (has_tmp rfl) (by kernel_rfl)) rfl rfl rfl ?_
  refine j_pure (pj_move (has_tmp rfl)) rfl rfl rfl ?_
  refine j_pure (pj_len_sl (sz := 32) (has_tmp rfl) (by kernel_rfl)) rfl rfl rfl ?_
  refine j_pure (pj_ineq (has_tmp rfl) (has_tmp rfl)) rfl rfl rfl ?_
  refine j_end ?_
  refine run_cond (has_tmp rfl) (fun e1 => ?_) (fun e1 => ?_)
  · replace h := bt e1 h
    refine run_seq ?_
    refine run_text ?_
    refine j_pure (pj_assign has_bl) rfl rfl rfl ?_
    refine j_end ?_
    obtain rfl := Option.some.inj h
    exact run_ret fun a w hst => q_ret1 hst rfl (.tmp rfl) () (fun _ _ h => h) (.nil)
  · replace h := bf e1 h
    refine run_skip ?_
    refine run_seq ?_
    refine run_seq ?_
    refine run_text ?_
    refine j_pure (pj_assign has_i64) rfl rfl rfl ?_
    refine j_end ?_
    obtain ⟨o, e6, h⟩ := bind_some h
    refine run_loop (Γi := fun (i : Unit) (s : Int) => [(0, (sl R_api_Hash).slot p_a), (1, (sl R_api_Hash).slot p_b), (5, i64.slot s)]) (Hi := fun (i : Unit) (s : Int) => []) (R := fun x a w => x = r → Qf a w) e6 () (fun a w hst => (hst.sub (.cons (.of_lk rfl) <| .cons (.of_lk rfl) <| .cons (.of_lk rfl) <| .nil)).keep (.nil)) ?_ ?_ ?_
    · clear h e6
      rintro _ y1 lr h
      change rolodexref15_Same_L1 p_a p_b y1 = some _ at h
      show Run _ _ _ [(0, (sl R_api_Hash).slot p_a), (1, (sl R_api_Hash).slot p_b), (5, i64.slot y1)] []
      unfold rolodexref15_Same_L1 at h
      refine run_seq ?_
      refine run_seq ?_
      refine run_text ?_
      refine j_pure (pj_move (has_tmp rfl)) rfl rfl rfl ?_
      refine j_pure (pj_move (has_tmp rfl)) rfl rfl rfl ?_
      refine j_pure (pj_len_sl (sz := 32) (has_tmp rfl) (by kernel_rfl)) rfl rfl rfl ?_
      refine j_pure (pj_ilss (has_tmp rfl) (has_tmp rfl)) rfl rfl rfl ?_
      refine j_end ?_
      refine run_cond (has_tmp rfl) (fun e2 => ?_) (fun e2 => ?_)
      · replace h := bt e2 h
        refine run_skip ?_
        refine run_seq ?_
        refine run_block ?_
        refine run_seq ?_
        obtain ⟨x1, e3, h⟩ := bind_some h
        obtain ⟨x2, e4, h⟩ := bind_some h
        refine run_draw (n := 8) (by kernel_rfl) (by kernel_rfl) (by kernel_rfl) (by kernel_rfl) (.read (.plain rfl (pj_move (has_tmp rfl))) <| .read (.plain rfl (pj_move (has_tmp rfl))) <| .read (.plain rfl (pj_index_slx (has_tmp rfl) (has_tmp rfl) isInt_i64 e3 (by kernel_rfl))) <| .read (.plain rfl (pj_load_to (has_tmp rfl) (by kernel_rfl))) <| .read (.plain rfl (pj_move (has_tmp rfl))) <| .read (.plain rfl (pj_move (has_tmp rfl))) <| .read (.plain rfl (pj_index_slx (has_tmp rfl) (has_tmp rfl) isInt_i64 e4 (by kernel_rfl))) <| .read (.plain rfl (pj_load_to (has_tmp rfl) (by kernel_rfl))) <| .nil) (j_to (Γ' := [(0, (sl R_api_Hash).slot p_a), (1, (sl R_api_Hash).slot p_b), (5, i64.slot y1), (20, R_api_Hash.slot x1), (24, R_api_Hash.slot x2)]) (H' := []) (.cons (.of_lk rfl) <| .cons (.of_lk rfl) <| .cons (.of_lk rfl) <| .cons (.of_lk rfl) <| .cons (.of_lk rfl) <| .nil) (.nil) ?_)
        refine j_pure (pj_neq (n := 2) (eq_vec (e := 5) (by kernel_rfl) (by kernel_rfl) (eq_un (by kernel_rfl))) (by decide) rfl (by kernel_rfl) (has_tmp rfl) (has_tmp rfl)) rfl rfl rfl ?_
        refine j_end ?_
        refine run_cond (has_tmp rfl) (fun e5 => ?_) (fun e5 => ?_)
        · replace h := bt e5 h
          refine run_seq ?_
          refine run_text ?_
          refine j_pure (pj_assign has_bl) rfl rfl rfl ?_
          refine j_end ?_
          obtain rfl := Option.some.inj h
          refine run_ret fun a w hst => ⟨rfl, fun hr => ?_⟩
          subst hr
          exact hq2 a w (q_ret1 hst rfl (.tmp rfl) () (fun _ _ h => h) (.nil))
        · replace h := bf e5 h
          refine run_skip ?_
          refine run_endblock ?_
          refine run_text ?_
          refine j_pure (pj_move (has_tmp rfl)) rfl rfl rfl ?_
          refine j_pure (pj_iadd (has_tmp rfl) has_i64) rfl rfl rfl ?_
          refine j_pure (pj_assign (has_tmp rfl)) rfl rfl rfl ?_
          refine j_end ?_
          obtain rfl := Option.some.inj h
          exact run_next () (.cons (.of_lk rfl) <| .cons (.of_lk rfl) <| .cons (.of_lk rfl) <| .nil) (.nil)
      · replace h := bf e2 h
        obtain rfl := Option.some.inj h
        exact run_brk () (.cons (.of_lk rfl) <| .cons (.of_lk rfl) <| .cons (.of_lk rfl) <| .nil) (.nil)
    · rintro _ y2 ho
      subst ho
      show Run _ _ _ [(0, (sl R_api_Hash).slot p_a), (1, (sl R_api_Hash).slot p_b), (5, i64.slot y2)] []
      refine run_to (Γ' := []) (H' := []) (.nil) (.nil) ?_
      refine run_seq ?_
      refine run_text ?_
      refine j_pure (pj_assign has_bl) rfl rfl rfl ?_
      refine j_end ?_
      obtain rfl := Option.some.inj h
      exact run_ret fun a w hst => q_ret1 hst rfl (.tmp rfl) () (fun _ _ h => h) (.nil)
    · intro x a w ho hR
      subst ho
      exact hq1 a w (hR (Option.some.inj h))
set_option maxRecDepth 100000 in
set_option maxHeartbeats 4000000 in
theorem c_rolodexlaw15_FrontierGrows {G : GP} (hg0 : HG0 G) (hg1 : HG1 G) (hg2 : HG2 G) (hg3 : HG3 G) {p_l : List T_api_Hash} {r : Bool} (h : rolodexlaw15_FrontierGrows p_l = some r) : Ctr Tryd.prog G 8 [(sl R_api_Hash).slot p_l] [] (fun (_ : Unit) => bl.slot r) (fun (_ : Unit) => []) := by
  unfold rolodexlaw15_FrontierGrows at h
  refine ctr_of_run Tryd.func8 rfl 81 rfl rfl fun m0 w0 b0 => ?_
  refine run_ret0 fun Qf hq1 hq2 => ?_
  show Run _ _ _ [(0, (sl R_api_Hash).slot p_l)] _
  refine run_seq ?_
  refine run_text ?_
  refine j_pure (pj_assign has_bl) rfl rfl rfl ?_
  refine j_end ?_
  refine run_seq ?_
  refine run_seq ?_
  refine run_text ?_
  obtain ⟨r1, e1, h⟩ := bind_some h
  refine j_pure (pj_call (hasL_nil) (by kernel_rfl) (c_rolodexlaw15_awake hg0 hg1 e1)) rfl rfl rfl ?_
  refine j_pure (pj_not (has_tmp rfl)) rfl rfl rfl ?_
  refine j_pure (pj_move (has_tmp rfl)) rfl rfl rfl ?_
  obtain ⟨y1, e3, h⟩ := bind_some h
  refine j_joinx (ι := Unit) (Γ' := fun _ => [(0, (sl R_api_Hash).slot p_l), (18, bl.slot y1)]) (H' := fun _ => []) 4 ?_ fun J => ?_
  · intro _
    clear e3
    show OpsJ _ _ _ [(0, (sl R_api_Hash).slot p_l), (18, bl.slot y1)] [] _
    refine j_end ?_
    refine run_cond (has_tmp rfl) (fun e4 => ?_) (fun e4 => ?_)
    · replace h := bt e4 h
      refine run_seq ?_
      refine run_text ?_
      obtain ⟨r2, e5, h⟩ := bind_some h
      refine j_pure (pj_call (hasL_nil) (by kernel_rfl) (c_rolodexlaw15_awake hg0 hg1 e5)) rfl rfl rfl ?_
      refine j_pure (pj_assign (has_tmp rfl)) rfl rfl rfl ?_
      refine j_end ?_
      obtain rfl := Option.some.inj h
      exact run_ret fun a w hst => q_ret1 hst rfl (.tmp rfl) () (fun _ _ h => h) (.nil)
    · replace h := bf e4 h
      refine run_skip ?_
      refine run_seq ?_
      refine run_text ?_
      refine j_alloc (x := (0, 0, ([] : List T_api_Hash))) (R := R_frontier_Range) (zero_prod zero_i64 (zero_prod zero_i64 zero_sl)) (by kernel_rfl) rfl fun b1 => ?_
      refine j_end ?_
      refine run_seq ?_
      refine run_seq ?_
      refine run_text ?_
      refine j_pure (pj_assign has_i64) rfl rfl rfl ?_
      refine j_end ?_
      obtain ⟨o, e23, h⟩ := bind_some h
      refine run_loop (Γi := fun (i : Unit) (s : Int × T_frontier_Range) => [(0, (sl R_api_Hash).slot p_l), (3, val (.pointer (some ⟨b1, 0, none⟩))), (4, i64.slot s.1)]) (Hi := fun (i : Unit) (s : Int × T_frontier_Range) => [box b1 35 R_frontier_Range s.2]) (R := fun x a w => x = r → Qf a w) e23 () (fun a w hst => (hst.sub (.cons (.of_lk rfl) <| .cons (.of_lk rfl) <| .cons (.of_lk rfl) <| .nil)).keep (.cons .here <| .nil)) ?_ ?_ ?_
      · clear h e23
        rintro _ ⟨y2, y3⟩ lr h
        change rolodexlaw15_FrontierGrows_L1 p_l y2 y3 = some _ at h
        show Run _ _ _ [(0, (sl R_api_Hash).slot p_l), (3, val (.pointer (some ⟨b1, 0, none⟩))), (4, i64.slot y2)] [box b1 35 R_frontier_Range y3]
        unfold rolodexlaw15_FrontierGrows_L1 at h
        refine run_seq ?_
        refine run_seq ?_
        refine run_text ?_
        refine j_pure (pj_move (has_tmp rfl)) rfl rfl rfl ?_
        refine j_pure (pj_move (has_tmp rfl)) rfl rfl rfl ?_
        refine j_pure (pj_len_sl (sz := 32) (has_tmp rfl) (by kernel_rfl)) rfl rfl rfl ?_
        refine j_pure (pj_ilss (has_tmp rfl) (has_tmp rfl)) rfl rfl rfl ?_
        refine j_end ?_
        refine run_cond (has_tmp rfl) (fun e6 => ?_) (fun e6 => ?_)
        · replace h := bt e6 h
          refine run_skip ?_
          refine run_seq ?_
          refine run_block ?_
          refine run_seq ?_
          refine run_text ?_
          refine j_pure (pj_move (has_tmp rfl)) rfl rfl rfl ?_
          refine j_pure (pj_move (has_tmp rfl)) rfl rfl rfl ?_
          refine j_pure (pj_move (has_tmp rfl)) rfl rfl rfl ?_
          refine j_pure (pj_move (has_tmp rfl)) rfl rfl rfl ?_
          refine j_pure (pj_iadd (has_tmp rfl) has_i64) rfl rfl rfl ?_
          obtain ⟨x1, e7, h⟩ := bind_some h
          refine j_pure (pj_slice_slx (has_tmp rfl) (.yes (has_tmp rfl) isInt_i64) (.yes (has_tmp rfl) isInt_i64) e7 (by kernel_rfl)) rfl rfl rfl ?_
          obtain ⟨r3, e8, h⟩ := bind_some h
          refine j_pure (pj_call (hasL_cons (has_tmp rfl) <| hasL_cons (has_tmp rfl) <| hasL_nil) (by kernel_rfl) (c_frontier_Of hg0 hg1 e8)) rfl rfl rfl ?_
          refine j_pure (pj_move (has_tmp rfl)) rfl rfl rfl ?_
          refine j_pure (pj_extract (has_tmp rfl) rfl) rfl rfl rfl ?_
          refine j_pure (pj_extract (has_tmp rfl) rfl) rfl rfl rfl ?_
          refine j_alloc (x := (0, 0, ([] : List T_api_Hash))) (R := R_frontier_Range) (zero_prod zero_i64 (zero_prod zero_i64 zero_sl)) (by kernel_rfl) rfl fun b2 => ?_
          refine j_store_boxx (r' := r3.1) (has_tmp rfl) (has_tmp rfl) .here (Path.all R_frontier_Range) (by kernel_rfl) rfl ?_
          refine j_freezeTo (t := 5) .here (.of_lk rfl) ?_
          refine j_pure (pj_assign (has_tmp rfl)) rfl rfl rfl ?_
          refine j_end ?_
          refine run_seq ?_
          refine run_text ?_
          refine j_buildSlice (T := 24) (R := R_api_Hash) .nil rfl (by kernel_rfl) (by kernel_rfl) rfl fun v1 => ?_
          refine j_pure (pj_field_ptr (off := 2) (has_tmp rfl) (by kernel_rfl)) rfl rfl rfl ?_
          refine j_pure (pj_load_box (has_tmp rfl) (.next .here) (Path.then (Path.all R_frontier_Range) (Path.then (Path.snd i64 (prod i64 (sl R_api_Hash))) (Path.snd i64 (sl R_api_Hash)))) (by kernel_rfl)) rfl rfl rfl ?_
          obtain ⟨e9, h⟩ := grd_some h
          refine j_append (T := 24) (E := 24) (has_tmp rfl) .here (src_data (has_tmp rfl)) (by kernel_rfl) (by kernel_rfl) e9 rfl fun v2 => ?_
          refine j_pure (pj_assign (has_tmp rfl)) rfl rfl rfl ?_
          refine j_end ?_
          refine run_seq ?_
          refine run_text ?_
          refine j_pure (pj_load_box (has_tmp rfl) (.next .here) (Path.all R_frontier_Range) (by kernel_rfl)) rfl rfl rfl ?_
          refine j_pure (pj_load_to (has_tmp rfl) (by kernel_rfl)) rfl rfl rfl ?_
          obtain ⟨r4, e10, h⟩ := bind_some h
          refine j_pure (pj_call (hasL_cons (has_tmp rfl) <| hasL_cons (has_tmp rfl) <| hasL_nil) (by kernel_rfl) (c_frontier_Join hg0 hg1 hg2 hg3 e10)) rfl rfl rfl ?_
          refine j_pure (pj_move (has_tmp rfl)) rfl rfl rfl ?_
          refine j_pure (pj_extract (has_tmp rfl) rfl) rfl rfl rfl ?_
          refine j_pure (pj_extract (has_tmp rfl) rfl) rfl rfl rfl ?_
          refine j_alloc (x := (0, 0, ([] : List T_api_Hash))) (R := R_frontier_Range) (zero_prod zero_i64 (zero_prod zero_i64 zero_sl)) (by kernel_rfl) rfl fun b3 => ?_
          refine j_store_boxx (r' := r4.1) (has_tmp rfl) (has_tmp rfl) .here (Path.all R_frontier_Range) (by kernel_rfl) rfl ?_
          refine j_freezeTo (t := 8) .here (.of_lk rfl) ?_
          refine j_pure (pj_assign (has_tmp rfl)) rfl rfl rfl ?_
          refine j_end ?_
          refine run_seq ?_
          refine run_seq ?_
          refine run_text ?_
          refine j_pure (pj_move (has_tmp rfl)) rfl rfl rfl ?_
          refine j_pure (pj_ineq (has_tmp rfl) has_i64) rfl rfl rfl ?_
          refine j_pure (pj_move (has_tmp rfl)) rfl rfl rfl ?_
          obtain ⟨y4, e12, h⟩ := bind_some h
          refine j_joinx (ι := Unit) (Γ' := fun _ => [(0, (sl R_api_Hash).slot p_l), (3, val (.pointer (some ⟨b1, 0, none⟩))), (4, i64.slot y2), (7, ov v2), (8, ptrTo R_frontier_Range r4.1), (51, bl.slot y4)]) (H' := fun _ => [own 24 R_api_Hash v2 (([] : List T_api_Hash) ++ y3.2.2), box b1 35 R_frontier_Range y3]) 3 ?_ fun J => ?_
          · intro _
            clear e12
            show OpsJ _ _ _ [(0, (sl R_api_Hash).slot p_l), (3, val (.pointer (some ⟨b1, 0, none⟩))), (4, i64.slot y2), (7, ov v2), (8, ptrTo R_frontier_Range r4.1), (51, bl.slot y4)] [own 24 R_api_Hash v2 (([] : List T_api_Hash) ++ y3.2.2), box b1 35 R_frontier_Range y3] _
            refine j_pure (pj_move (has_tmp rfl)) rfl rfl rfl ?_
            obtain ⟨y5, e14, h⟩ := bind_some h
            refine j_joinx (ι := Unit) (Γ' := fun _ => [(0, (sl R_api_Hash).slot p_l), (3, val (.pointer (some ⟨b1, 0, none⟩))), (4, i64.slot y2), (8, ptrTo R_frontier_Range r4.1), (58, bl.slot y5)]) (H' := fun _ => [box b1 35 R_frontier_Range y3]) 6 ?_ fun J => ?_
            · intro _
              clear e14
              show OpsJ _ _ _ [(0, (sl R_api_Hash).slot p_l), (3, val (.pointer (some ⟨b1, 0, none⟩))), (4, i64.slot y2), (8, ptrTo R_frontier_Range r4.1), (58, bl.slot y5)] [box b1 35 R_frontier_Range y3] _
              refine j_end ?_
              refine run_cond (has_tmp rfl) (fun e16 => ?_) (fun e16 => ?_)
              · replace h := bt e16 h
                refine run_seq ?_
                refine run_text ?_
                refine j_pure (pj_assign has_bl) rfl rfl rfl ?_
                refine j_end ?_
                obtain rfl := Option.some.inj h
                refine run_ret fun a w hst => ⟨rfl, fun hr => ?_⟩
                subst hr
                exact hq2 a w (q_ret1 hst rfl (.tmp rfl) () (fun _ _ h => h) (.nil))
              · replace h := bf e16 h
                refine run_skip ?_
                refine run_seq ?_
                refine run_text ?_
                refine j_pure (pj_load_to (has_tmp rfl) (by kernel_rfl)) rfl rfl rfl ?_
                obtain ⟨r6, e17, h⟩ := bind_some h
                refine j_pure (pj_call (hasL_cons (has_tmp rfl) <| hasL_nil) (by kernel_rfl) (c_frontier_Root hg0 hg1 hg2 hg3 e17)) rfl rfl rfl ?_
                refine j_pure (pj_move (has_tmp rfl)) rfl rfl rfl ?_
                refine j_pure (pj_extract (has_tmp rfl) rfl) rfl rfl rfl ?_
                refine j_pure (pj_extract (has_tmp rfl) rfl) rfl rfl rfl ?_
                refine j_alloc (x := (Vector.replicate 32 (0#8))) (R := R_api_Hash) (zero_vec 32 zero_un) (by kernel_rfl) rfl fun b4 => ?_
                refine j_store_boxx (r' := r6.1) (has_tmp rfl) (has_tmp rfl) .here (Path.all R_api_Hash) (by kernel_rfl) rfl ?_
                refine j_freezeTo (t := 10) .here (.of_lk rfl) ?_
                refine j_pure (pj_assign (has_tmp rfl)) rfl rfl rfl ?_
                refine j_end ?_
                refine run_seq ?_
                refine run_seq ?_
                obtain ⟨y6, e19, h⟩ := bind_some h
                refine (run_drawJ (n := 11) (Γ' := [(0, (sl R_api_Hash).slot p_l), (3, val (.pointer (some ⟨b1, 0, none⟩))), (4, i64.slot y2), (8, ptrTo R_frontier_Range r4.1), (74, bl.slot y6)]) (H' := [box b1 35 R_frontier_Range y3]) ?_ fun J => ?_)
                · clear e19
                  refine j_end ?_
                  refine run_cond (has_tmp rfl) (fun e22 => ?_) (fun e22 => ?_)
                  · replace h := bt e22 h
                    refine run_seq ?_
                    refine run_text ?_
                    refine j_pure (pj_assign has_bl) rfl rfl rfl ?_
                    refine j_end ?_
                    obtain rfl := Option.some.inj h
                    refine run_ret fun a w hst => ⟨rfl, fun hr => ?_⟩
                    subst hr
                    exact hq2 a w (q_ret1 hst rfl (.tmp rfl) () (fun _ _ h => h) (.nil))
                  · replace h := bf e22 h
                    refine run_skip ?_
                    refine run_text ?_
                    refine j_pure (pj_load_to (has_tmp rfl) (by kernel_rfl)) rfl rfl rfl ?_
                    refine j_store_boxx (r' := r4.1) (has_tmp rfl) (has_tmp rfl) .here (Path.all R_frontier_Range) (by kernel_rfl) rfl ?_
                    refine j_end ?_
                    refine run_endblock ?_
                    refine run_text ?_
                    refine j_pure (pj_move (has_tmp rfl)) rfl rfl rfl ?_
                    refine j_pure (pj_iadd (has_tmp rfl) has_i64) rfl rfl rfl ?_
                    refine j_pure (pj_assign (has_tmp rfl)) rfl rfl rfl ?_
                    refine j_end ?_
                    obtain rfl := Option.some.inj h
                    exact run_next () (.cons (.of_lk rfl) <| .cons (.of_lk rfl) <| .cons (.of_lk rfl) <| .nil) (.cons .here <| .nil)
                · rcases bool_tf (!decide (r6.2 = (0 : Int))) with e18 | e18
                  · replace e19 := bt e18 e19
                    exact run_draw (n := 11) (by kernel_rfl) (by kernel_rfl) (by kernel_rfl) (by kernel_rfl) (.read (.plain rfl (pj_move (has_tmp rfl))) <| .read (.plain rfl (pj_ineq (has_tmp rfl) has_i64)) <| .read (.plain rfl (pj_move (has_tmp rfl))) <| .read (.no ⟨2, false, _, 66, _, rfl, rfl, rfl, fun _ _ => bl_p.1, gd_no e18⟩) <| .read (.no ⟨2, false, _, 66, _, rfl, rfl, rfl, fun _ _ => bl_p.1, gd_no e18⟩) <| .read (.no ⟨2, false, _, 66, _, rfl, rfl, rfl, fun _ _ => bl_p.1, gd_no e18⟩) <| .read (.no ⟨2, false, _, 66, _, rfl, rfl, rfl, fun _ _ => bl_p.1, gd_no e18⟩) <| .read (.no ⟨2, false, _, 66, _, rfl, rfl, rfl, fun _ _ => bl_p.1, gd_no e18⟩) <| .read (.no ⟨2, false, _, 66, _, rfl, rfl, rfl, fun _ _ => bl_p.1, gd_no e18⟩) <| .read (.no ⟨2, false, _, 66, _, rfl, rfl, rfl, fun _ _ => bl_p.1, gd_no e18⟩) <| .read (.plain rfl (PJ.eqv (R := bl) (pj_pick (t := any) (has_tmp rfl) (fun _ => has_bl) (fun he => absurd (e18.symm.trans he) (by decide))) (Option.some.inj e19))) <| .nil) (j_to (Γ' := [(0, (sl R_api_Hash).slot p_l), (3, val (.pointer (some ⟨b1, 0, none⟩))), (4, i64.slot y2), (8, ptrTo R_frontier_Range r4.1), (74, bl.slot y6)]) (H' := [box b1 35 R_frontier_Range y3]) (.cons (.of_lk rfl) <| .cons (.of_lk rfl) <| .cons (.of_lk rfl) <| .cons (.of_lk rfl) <| .cons (.of_lk rfl) <| .nil) (.cons .here <| .nil) J)
                  · replace e19 := bf e18 e19
                    obtain ⟨x2, e20, e19⟩ := bind_some e19
                    obtain ⟨r7, e21, e19⟩ := bind_some e19
                    exact run_draw (n := 11) (by kernel_rfl) (by kernel_rfl) (by kernel_rfl) (by kernel_rfl) (.read (.plain rfl (pj_move (has_tmp rfl))) <| .read (.plain rfl (pj_ineq (has_tmp rfl) has_i64)) <| .read (.plain rfl (pj_move (has_tmp rfl))) <| .read (.yes ⟨2, false, _, 66, _, rfl, rfl, rfl, fun _ _ => bl_p.1, gd_yes e18⟩ (pj_load_to (has_tmp rfl) (by kernel_rfl))) <| .read (.yes ⟨2, false, _, 66, _, rfl, rfl, rfl, fun _ _ => bl_p.1, gd_yes e18⟩ (pj_move (has_tmp rfl))) <| .read (.yes ⟨2, false, _, 66, _, rfl, rfl, rfl, fun _ _ => bl_p.1, gd_yes e18⟩ (pj_move (has_tmp rfl))) <| .read (.yes ⟨2, false, _, 66, _, rfl, rfl, rfl, fun _ _ => bl_p.1, gd_yes e18⟩ (pj_iadd (has_tmp rfl) has_i64)) <| .read (.yes ⟨2, false, _, 66, _, rfl, rfl, rfl, fun _ _ => bl_p.1, gd_yes e18⟩ (pj_slice_slx (has_tmp rfl) .no (.yes (has_tmp rfl) isInt_i64) e20 (by kernel_rfl))) <| .read (.yes ⟨2, false, _, 66, _, rfl, rfl, rfl, fun _ _ => bl_p.1, gd_yes e18⟩ (pj_call (hasL_cons (has_tmp rfl) <| hasL_nil) (by kernel_rfl) (c_rolodexref15_List e21))) <| .read (.yes ⟨2, false, _, 66, _, rfl, rfl, rfl, fun _ _ => bl_p.1, gd_yes e18⟩ (pj_neq (n := 2) (eq_vec (e := 5) (by kernel_rfl) (by kernel_rfl) (eq_un (by kernel_rfl))) (by decide) rfl (by kernel_rfl) (has_tmp rfl) (has_tmp rfl))) <| .read (.plain rfl (PJ.eqv (R := bl) (pj_pick (t := any) (has_tmp rfl) (fun he => absurd (e18.symm.trans he) (by decide)) (fun _ => (has_tmp rfl))) (Option.some.inj e19))) <| .nil) (j_to (Γ' := [(0, (sl R_api_Hash).slot p_l), (3, val (.pointer (some ⟨b1, 0, none⟩))), (4, i64.slot y2), (8, ptrTo R_frontier_Range r4.1), (74, bl.slot y6)]) (H' := [box b1 35 R_frontier_Range y3]) (.cons (.of_lk rfl) <| .cons (.of_lk rfl) <| .cons (.of_lk rfl) <| .cons (.of_lk rfl) <| .cons (.of_lk rfl) <| .nil) (.cons .here <| .nil) J)
            · rcases bool_tf (y4) with e13 | e13
              · replace e14 := bt e13 e14
                refine j_guard_no2 (j := 6) (want := false) rfl rfl rfl rfl (bl_isx e13) rfl rfl rfl ?_
                refine j_guard_no2 (j := 6) (want := false) rfl rfl rfl rfl (bl_isx e13) rfl rfl rfl ?_
                refine j_guard_no2 (j := 6) (want := false) rfl rfl rfl rfl (bl_isx e13) rfl rfl rfl ?_
                refine j_guard_no2 (j := 6) (want := false) rfl rfl rfl rfl (bl_isx e13) rfl rfl rfl ?_
                refine j_guard_no2 (j := 6) (want := false) rfl rfl rfl rfl (bl_isx e13) rfl rfl rfl ?_
                refine j_pure (PJ.eqv (R := bl) (pj_pick (t := any) (has_tmp rfl) (fun _ => has_bl) (fun he => absurd (e13.symm.trans he) (by decide))) (Option.some.inj e14)) rfl rfl rfl ?_
                exact j_to (.cons (.of_lk rfl) <| .cons (.of_lk rfl) <| .cons (.of_lk rfl) <| .cons (.of_lk rfl) <| .cons (.of_lk rfl) <| .nil) (.cons (.next .here) <| .nil) (J ())
              · replace e14 := bf e13 e14
                refine j_pure_y (pj_move (has_tmp rfl)) rfl rfl rfl rfl (bl_isx e13) rfl rfl ?_
                refine j_pure_y (pj_field_ptr (off := 2) (has_tmp rfl) (by kernel_rfl)) rfl rfl rfl rfl (bl_isx e13) rfl rfl ?_
                refine j_pure_y (pj_load_box (has_tmp rfl) (.next .here) (Path.then (Path.all R_frontier_Range) (Path.then (Path.snd i64 (prod i64 (sl R_api_Hash))) (Path.snd i64 (sl R_api_Hash)))) (by kernel_rfl)) rfl rfl rfl rfl (bl_isx e13) rfl rfl ?_
                obtain ⟨r5, e15, e14⟩ := bind_some e14
                refine j_pure_y (pj_callB (hasBL_cons (hasB_own (has_tmp rfl) .here) <| hasBL_cons (hasB_of (has_tmp rfl)) <| hasBL_nil) (by kernel_rfl) (c_rolodexref15_Same e15) (Rep.flat_slot flat_bl _)) rfl rfl rfl rfl (bl_isx e13) rfl rfl ?_
                refine j_pure_y (pj_not (has_tmp rfl)) rfl rfl rfl rfl (bl_isx e13) rfl rfl ?_
                refine j_pure (PJ.eqv (R := bl) (pj_pick (t := any) (has_tmp rfl) (fun he => absurd (e13.symm.trans he) (by decide)) (fun _ => (has_tmp rfl))) (Option.some.inj e14)) rfl rfl rfl ?_
                exact j_to (.cons (.of_lk rfl) <| .cons (.of_lk rfl) <| .cons (.of_lk rfl) <| .cons (.of_lk rfl) <| .cons (.of_lk rfl) <| .nil) (.cons (.next .here) <| .nil) (J ())
          · rcases bool_tf (!decide (r3.2 = (0 : Int))) with e11 | e11
            · replace e12 := bt e11 e12
              refine j_guard_no2 (j := 2) (want := false) rfl rfl rfl rfl (bl_isx e11) rfl rfl rfl ?_
              refine j_guard_no2 (j := 2) (want := false) rfl rfl rfl rfl (bl_isx e11) rfl rfl rfl ?_
              refine j_pure (PJ.eqv (R := bl) (pj_pick (t := any) (has_tmp rfl) (fun _ => has_bl) (fun he => absurd (e11.symm.trans he) (by decide))) (Option.some.inj e12)) rfl rfl rfl ?_
              exact j_to (.cons (.of_lk rfl) <| .cons (.of_lk rfl) <| .cons (.of_lk rfl) <| .cons (.of_lk rfl) <| .cons (.of_lk rfl) <| .cons (.of_lk rfl) <| .nil) (.cons .here <| .cons .here <| .nil) (J ())
            · replace e12 := bf e11 e12
              refine j_pure_y (pj_move (has_tmp rfl)) rfl rfl rfl rfl (bl_isx e11) rfl rfl ?_
              refine j_pure_y (pj_ineq (has_tmp rfl) has_i64) rfl rfl rfl rfl (bl_isx e11) rfl rfl ?_
              refine j_pure (PJ.eqv (R := bl) (pj_pick (t := any) (has_tmp rfl) (fun he => absurd (e11.symm.trans he) (by decide)) (fun _ => (has_tmp rfl))) (Option.some.inj e12)) rfl rfl rfl ?_
              exact j_to (.cons (.of_lk rfl) <| .cons (.of_lk rfl) <| .cons (.of_lk rfl) <| .cons (.of_lk rfl) <| .cons (.of_lk rfl) <| .cons (.of_lk rfl) <| .nil) (.cons .here <| .cons .here <| .nil) (J ())
        · replace h := bf e6 h
          obtain rfl := Option.some.inj h
          exact run_brk () (.cons (.of_lk rfl) <| .cons (.of_lk rfl) <| .cons (.of_lk rfl) <| .nil) (.cons .here <| .nil)
      · rintro _ ⟨y7, y8⟩ ho
        subst ho
        show Run _ _ _ [(0, (sl R_api_Hash).slot p_l), (3, val (.pointer (some ⟨b1, 0, none⟩))), (4, i64.slot y7)] [box b1 35 R_frontier_Range y8]
        refine run_to (Γ' := [(0, (sl R_api_Hash).slot p_l), (3, val (.pointer (some ⟨b1, 0, none⟩)))]) (H' := [box b1 35 R_frontier_Range y8]) (.cons (.of_lk rfl) <| .cons (.of_lk rfl) <| .nil) (.cons .here <| .nil) ?_
        refine run_seq ?_
        refine run_text ?_
        refine j_pure (pj_field_ptr (off := 1) (has_tmp rfl) (by kernel_rfl)) rfl rfl rfl ?_
        refine j_pure (pj_load_box (has_tmp rfl) .here (Path.then (Path.all R_frontier_Range) (Path.then (Path.snd i64 (prod i64 (sl R_api_Hash))) (Path.fst i64 (sl R_api_Hash)))) (by kernel_rfl)) rfl rfl rfl ?_
        refine j_pure (pj_move (has_tmp rfl)) rfl rfl rfl ?_
        refine j_pure (pj_len_sl (sz := 32) (has_tmp rfl) (by kernel_rfl)) rfl rfl rfl ?_
        refine j_pure (pj_ieql (has_tmp rfl) (has_tmp rfl)) rfl rfl rfl ?_
        refine j_pure (pj_assign (has_tmp rfl)) rfl rfl rfl ?_
        refine j_end ?_
        obtain rfl := Option.some.inj h
        exact run_ret fun a w hst => q_ret1 hst rfl (.tmp rfl) () (fun _ _ h => h) (.nil)
      · intro x a w ho hR
        subst ho
        exact hq1 a w (hR (Option.some.inj h))
  · rcases bool_tf (!r1) with e2 | e2
    · replace e3 := bt e2 e3
      refine j_guard_no2 (j := 2) (want := false) rfl rfl rfl rfl (bl_isx e2) rfl rfl rfl ?_
      refine j_guard_no2 (j := 2) (want := false) rfl rfl rfl rfl (bl_isx e2) rfl rfl rfl ?_
      refine j_guard_no2 (j := 2) (want := false) rfl rfl rfl rfl (bl_isx e2) rfl rfl rfl ?_
      refine j_pure (PJ.eqv (R := bl) (pj_pick (t := any) (has_tmp rfl) (fun _ => has_bl) (fun he => absurd (e2.symm.trans he) (by decide))) (Option.some.inj e3)) rfl rfl rfl ?_
      exact j_to (.cons (.of_lk rfl) <| .cons (.of_lk rfl) <| .nil) (.nil) (J ())
    · replace e3 := bf e2 e3
      refine j_pure_y (pj_move (has_tmp rfl)) rfl rfl rfl rfl (bl_isx e2) rfl rfl ?_
      refine j_pure_y (pj_len_sl (sz := 32) (has_tmp rfl) (by kernel_rfl)) rfl rfl rfl rfl (bl_isx e2) rfl rfl ?_
      refine j_pure_y (pj_igtr (has_tmp rfl) has_i64) rfl rfl rfl rfl (bl_isx e2) rfl rfl ?_
      refine j_pure (PJ.eqv (R := bl) (pj_pick (t := any) (has_tmp rfl) (fun he => absurd (e2.symm.trans he) (by decide)) (fun _ => (has_tmp rfl))) (Option.some.inj e3)) rfl rfl rfl ?_
      exact j_to (.cons (.of_lk rfl) <| .cons (.of_lk rfl) <| .nil) (.nil) (J ())
end Go.Sl.W
