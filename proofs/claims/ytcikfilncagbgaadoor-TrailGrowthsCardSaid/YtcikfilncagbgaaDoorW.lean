import Derived.Test.YtcikfilncagbgaaDoorWA
import Derived.Test.YtcikfilncagbgaaDoorOp14
import Derived.Test.YtcikfilncagbgaaDoorProg
set_option linter.unusedSimpArgs false
set_option linter.unusedVariables false
set_option linter.unusedSectionVars false
namespace Go.Sl.W
open Go.Proofs Go.Sl Go.Sl.M
set_option maxRecDepth 100000 in
set_option maxHeartbeats 4000000 in
theorem c_rolodexlaw16_few {G : GP} {p_t : T_rolodexref16_Trail} {r : Bool} (h : rolodexlaw16_few p_t = some r) : Ctr Tryd.prog G 37 [R_rolodexref16_Trail.slot p_t] [] (fun (_ : Unit) => bl.slot r) (fun (_ : Unit) => []) := by
  unfold rolodexlaw16_few at h
  refine ctr_of_run Tryd.func37 rfl 13 rfl rfl fun m0 w0 b0 => ?_
  show Run _ _ _ [(0, R_rolodexref16_Trail.slot p_t)] _
  refine run_seq ?_
  refine run_text ?_
  refine j_pure (pj_box_to (has_tmp rfl)) rfl rfl rfl ?_
  refine j_pure (pj_assign has_bl) rfl rfl rfl ?_
  refine j_end ?_
  refine run_seq ?_
  refine run_text ?_
  refine j_pure (pj_field_to (has_tmp rfl) (Path.fst (sl R_api_Hash) (sl R_api_Hash)) (by kernel_rfl)) rfl rfl rfl ?_
  refine j_pure (pj_load_to (has_tmp rfl) (by kernel_rfl)) rfl rfl rfl ?_
  refine j_pure (pj_len_sl (sz := 32) (has_tmp rfl) (by kernel_rfl)) rfl rfl rfl ?_
  refine j_pure (pj_ileq (has_tmp rfl) has_i64) rfl rfl rfl ?_
  refine j_pure (pj_move (has_tmp rfl)) rfl rfl rfl ?_
  obtain ⟨y1, e2, h⟩ := bind_some h
  refine j_joinx (ι := Unit) (Γ' := fun _ => [(12, bl.slot y1)]) (H' := fun _ => []) 5 ?_ fun J => ?_
  · intro _
    clear e2
    show OpsJ _ _ _ [(12, bl.slot y1)] [] _
    refine j_pure (pj_assign (has_tmp rfl)) rfl rfl rfl ?_
    refine j_end ?_
    obtain rfl := Option.some.inj h
    exact run_ret fun a w hst => q_ret1 hst rfl (.tmp rfl) () (fun _ _ h => h) (.nil)
  · rcases bool_tf (decide ((p_t.1.length : Int) ≤ (70 : Int))) with e1 | e1
    · replace e2 := bt e1 e2
      refine j_pure_y (pj_field_to (has_tmp rfl) (Path.snd (sl R_api_Hash) (sl R_api_Hash)) (by kernel_rfl)) rfl rfl rfl rfl (bl_isx e1) rfl rfl ?_
      refine j_pure_y (pj_load_to (has_tmp rfl) (by kernel_rfl)) rfl rfl rfl rfl (bl_isx e1) rfl rfl ?_
      refine j_pure_y (pj_len_sl (sz := 32) (has_tmp rfl) (by kernel_rfl)) rfl rfl rfl rfl (bl_isx e1) rfl rfl ?_
      refine j_pure_y (pj_ileq (has_tmp rfl) has_i64) rfl rfl rfl rfl (bl_isx e1) rfl rfl ?_
      refine j_pure (PJ.eqv (R := bl) (pj_pick (t := any) (has_tmp rfl) (fun _ => (has_tmp rfl)) (fun he => absurd (e1.symm.trans he) (by decide))) (Option.some.inj e2)) rfl rfl rfl ?_
      exact j_to (.cons (.of_lk rfl) <| .nil) (.nil) (J ())
    · replace e2 := bf e1 e2
      refine j_guard_no2 (j := 4) (want := true) rfl rfl rfl rfl (bl_isx e1) rfl rfl rfl ?_
      refine j_guard_no2 (j := 4) (want := true) rfl rfl rfl rfl (bl_isx e1) rfl rfl rfl ?_
      refine j_guard_no2 (j := 4) (want := true) rfl rfl rfl rfl (bl_isx e1) rfl rfl rfl ?_
      refine j_guard_no2 (j := 4) (want := true) rfl rfl rfl rfl (bl_isx e1) rfl rfl rfl ?_
      refine j_pure (PJ.eqv (R := bl) (pj_pick (t := any) (has_tmp rfl) (fun he => absurd (e1.symm.trans he) (by decide)) (fun _ => has_bl)) (Option.some.inj e2)) rfl rfl rfl ?_
      exact j_to (.cons (.of_lk rfl) <| .nil) (.nil) (J ())
set_option maxRecDepth 100000 in
set_option maxHeartbeats 4000000 in
theorem c_rolodexref01_Same {G : GP} {p_a : List (BitVec 8)} {p_b : List (BitVec 8)} {r : Bool} (h : rolodexref01_Same p_a p_b = some r) : Ctr Tryd.prog G 64 [(sl u8).slot p_a, (sl u8).slot p_b] [] (fun (_ : Unit) => bl.slot r) (fun (_ : Unit) => []) := by
  unfold rolodexref01_Same at h
  refine ctr_of_run Tryd.func64 rfl 26 rfl rfl fun m0 w0 b0 => ?_
  refine run_ret0 fun Qf hq1 hq2 => ?_
  show Run _ _ _ [(0, (sl u8).slot p_a), (1, (sl u8).slot p_b)] _
  refine run_seq ?_
  refine run_text ?_
  refine j_pure (pj_assign has_bl) rfl rfl rfl ?_
  refine j_end ?_
  refine run_seq ?_
  refine run_seq ?_
  refine run_text ?_
  refine j_pure (pj_move (has_tmp rfl)) rfl rfl rfl ?_
  refine j_pure (pj_len_sl (sz := 1) (has_tmp rfl) (by kernel_rfl)) rfl rfl rfl ?_
  refine j_pure (pj_move (has_tmp rfl)) rfl rfl rfl ?_
  refine j_pure (pj_len_sl (sz := 1) (has_tmp rfl) (by kernel_rfl)) rfl rfl rfl ?_
  refine j_pure (pj_ineq (has_tmp rfl) (has_tmp rfl)) rfl rfl rfl ?_
  refine j_end ?_
  refine run_cond (has_tmp rfl) (fun e1 => ?_) (fun e1 => ?_)
  · replace h := bt e1 h
    refine run_seq ?_
    refine run_text ?_
    refine j_pure (pj_assign has_bl) rfl rfl rfl ?_
    refine j_end ?_
    obtain rfl := Option.some.inj h
    exact run_ret fun a w hst => q_ret1 hst rfl (.tmp rfl) () (fun _ _ h => h) (.nil)
  · replace h := bf e1 h
    refine run_skip ?_
    refine run_seq ?_
    refine run_seq ?_
    refine run_text ?_
    refine j_pure (pj_assign has_i64) rfl rfl rfl ?_
    refine j_end ?_
    obtain ⟨o, e6, h⟩ := bind_some h
    refine run_loop (Γi := fun (i : Unit) (s : Int) => [(0, (sl u8).slot p_a), (1, (sl u8).slot p_b), (5, i64.slot s)]) (Hi := fun (i : Unit) (s : Int) => []) (R := fun x a w => x = r → Qf a w) e6 () (fun a w hst => (hst.sub (.cons (.of_lk rfl) <| .cons (.of_lk rfl) <| .cons (.of_lk rfl) <| .nil)).keep (.nil)) ?_ ?_ ?_
    · clear h e6
      rintro _ y1 lr h
      change rolodexref01_Same_L1 p_a p_b y1 = some _ at h
      show Run _ _ _ [(0, (sl u8).slot p_a), (1, (sl u8).slot p_b), (5, i64.slot y1)] []
      unfold rolodexref01_Same_L1 at h
      refine run_seq ?_
      refine run_seq ?_
      refine run_text ?_
      refine j_pure (pj_move (has_tmp rfl)) rfl rfl rfl ?_
      refine j_pure (pj_move (has_tmp rfl)) rfl rfl rfl ?_
      refine j_pure (pj_len_sl (sz := 1) (has_tmp rfl) (by kernel_rfl)) rfl rfl rfl ?_
      refine j_pure (pj_ilss (has_tmp rfl) (has_tmp rfl)) rfl rfl rfl ?_
      refine j_end ?_
      refine run_cond (has_tmp rfl) (fun e2 => ?_) (fun e2 => ?_)
      · replace h := bt e2 h
        refine run_skip ?_
        refine run_seq ?_
        refine run_block ?_
        refine run_seq ?_
        obtain ⟨x1, e3, h⟩ := bind_some h
        obtain ⟨x2, e4, h⟩ := bind_some h
        refine run_draw (n := 8) (by kernel_rfl) (by kernel_rfl) (by kernel_rfl) (by kernel_rfl) (.read (.plain rfl (pj_move (has_tmp rfl))) <| .read (.plain rfl (pj_move (has_tmp rfl))) <| .read (.plain rfl (pj_index_slx (has_tmp rfl) (has_tmp rfl) isInt_i64 e3 (by kernel_rfl))) <| .read (.plain rfl (pj_load_to (has_tmp rfl) (by kernel_rfl))) <| .read (.plain rfl (pj_move (has_tmp rfl))) <| .read (.plain rfl (pj_move (has_tmp rfl))) <| .read (.plain rfl (pj_index_slx (has_tmp rfl) (has_tmp rfl) isInt_i64 e4 (by kernel_rfl))) <| .read (.plain rfl (pj_load_to (has_tmp rfl) (by kernel_rfl))) <| .nil) (j_to (Γ' := [(0, (sl u8).slot p_a), (1, (sl u8).slot p_b), (5, i64.slot y1), (20, u8.slot x1), (24, u8.slot x2)]) (H' := []) (.cons (.of_lk rfl) <| .cons (.of_lk rfl) <| .cons (.of_lk rfl) <| .cons (.of_lk rfl) <| .cons (.of_lk rfl) <| .nil) (.nil) ?_)
        refine j_pure (pj_uneq (k := .u8) (b := 8) (has_tmp rfl) (has_tmp rfl)) rfl rfl rfl ?_
        refine j_end ?_
        refine run_cond (has_tmp rfl) (fun e5 => ?_) (fun e5 => ?_)
        · replace h := bt e5 h
          refine run_seq ?_
          refine run_text ?_
          refine j_pure (pj_assign has_bl) rfl rfl rfl ?_
          refine j_end ?_
          obtain rfl := Option.some.inj h
          refine run_ret fun a w hst => ⟨rfl, fun hr => ?_⟩
          subst hr
          exact hq2 a w (q_ret1 hst rfl (.tmp rfl) () (fun _ _ h => h) (.nil))
        · replace h := bf e5 h
          refine run_skip ?_
          refine run_endblock ?_
          refine run_text ?_
          refine j_pure (pj_move (has_tmp rfl)) rfl rfl rfl ?_
          refine j_pure (pj_iadd (has_tmp rfl) has_i64) rfl rfl rfl ?_
          refine j_pure (pj_assign (has_tmp rfl)) rfl rfl rfl ?_
          refine j_end ?_
          obtain rfl := Option.some.inj h
          exact run_next () (.cons (.of_lk rfl) <| .cons (.of_lk rfl) <| .cons (.of_lk rfl) <| .nil) (.nil)
      · replace h := bf e2 h
        obtain rfl := Option.some.inj h
        exact run_brk () (.cons (.of_lk rfl) <| .cons (.of_lk rfl) <| .cons (.of_lk rfl) <| .nil) (.nil)
    · rintro _ y2 ho
      subst ho
      show Run _ _ _ [(0, (sl u8).slot p_a), (1, (sl u8).slot p_b), (5, i64.slot y2)] []
      refine run_to (Γ' := []) (H' := []) (.nil) (.nil) ?_
      refine run_seq ?_
      refine run_text ?_
      refine j_pure (pj_assign has_bl) rfl rfl rfl ?_
      refine j_end ?_
      obtain rfl := Option.some.inj h
      exact run_ret fun a w hst => q_ret1 hst rfl (.tmp rfl) () (fun _ _ h => h) (.nil)
    · intro x a w ho hR
      subst ho
      exact hq1 a w (hR (Option.some.inj h))
set_option maxRecDepth 100000 in
set_option maxHeartbeats 4000000 in
theorem c_rolodexref12_Clash {G : GP} {p_a : List (List (BitVec 8))} {p_b : List (List (BitVec 8))} {r : Bool} (h : rolodexref12_Clash p_a p_b = some r) : Ctr Tryd.prog G 39 [(sl (sl u8)).slot p_a, (sl (sl u8)).slot p_b] [] (fun (_ : Unit) => bl.slot r) (fun (_ : Unit) => []) := by
  unfold rolodexref12_Clash at h
  refine ctr_of_run Tryd.func39 rfl 42 rfl rfl fun m0 w0 b0 => ?_
  refine run_ret0 fun Qf hq1 hq2 => ?_
  show Run _ _ _ [(0, (sl (sl u8)).slot p_a), (1, (sl (sl u8)).slot p_b)] _
  refine run_seq ?_
  refine run_text ?_
  refine j_pure (pj_assign has_bl) rfl rfl rfl ?_
  refine j_end ?_
  refine run_seq ?_
  refine run_seq ?_
  refine run_text ?_
  refine j_pure (pj_assign has_i64) rfl rfl rfl ?_
  refine j_end ?_
  obtain ⟨o, e14, h⟩ := bind_some h
  refine run_loop (Γi := fun (i : Unit) (s : Int) => [(0, (sl (sl u8)).slot p_a), (1, (sl (sl u8)).slot p_b), (5, i64.slot s)]) (Hi := fun (i : Unit) (s : Int) => []) (R := fun x a w => x = r → Qf a w) e14 () (fun a w hst => (hst.sub (.cons (.of_lk rfl) <| .cons (.of_lk rfl) <| .cons (.of_lk rfl) <| .nil)).keep (.nil)) ?_ ?_ ?_
  · clear h e14
    rintro _ y1 lr h
    change rolodexref12_Clash_L1 p_a p_b y1 = some _ at h
    show Run _ _ _ [(0, (sl (sl u8)).slot p_a), (1, (sl (sl u8)).slot p_b), (5, i64.slot y1)] []
    unfold rolodexref12_Clash_L1 at h
    refine run_seq ?_
    refine run_seq ?_
    refine run_text ?_
    refine j_pure (pj_move (has_tmp rfl)) rfl rfl rfl ?_
    refine j_pure (pj_move (has_tmp rfl)) rfl rfl rfl ?_
    refine j_pure (pj_len_sl (sz := 1) (has_tmp rfl) (by kernel_rfl)) rfl rfl rfl ?_
    refine j_pure (pj_ilss (has_tmp rfl) (has_tmp rfl)) rfl rfl rfl ?_
    refine j_end ?_
    refine run_cond (has_tmp rfl) (fun e1 => ?_) (fun e1 => ?_)
    · replace h := bt e1 h
      refine run_skip ?_
      refine run_seq ?_
      refine run_block ?_
      refine run_seq ?_
      refine run_text ?_
      refine j_pure (pj_assign has_i64) rfl rfl rfl ?_
      refine j_end ?_
      obtain ⟨o, e13, h⟩ := bind_some h
      refine run_loop (Γi := fun (i : Unit) (s : Int) => [(0, (sl (sl u8)).slot p_a), (1, (sl (sl u8)).slot p_b), (5, i64.slot y1), (6, i64.slot s)]) (Hi := fun (i : Unit) (s : Int) => []) (R := fun x a w => x = r → Qf a w) e13 () (fun a w hst => (hst.sub (.cons (.of_lk rfl) <| .cons (.of_lk rfl) <| .cons (.of_lk rfl) <| .cons (.of_lk rfl) <| .nil)).keep (.nil)) ?_ ?_ ?_
      · clear h e13
        rintro _ y2 lr h
        change rolodexref12_Clash_L2 p_b p_a y1 y2 = some _ at h
        show Run _ _ _ [(0, (sl (sl u8)).slot p_a), (1, (sl (sl u8)).slot p_b), (5, i64.slot y1), (6, i64.slot y2)] []
        unfold rolodexref12_Clash_L2 at h
        refine run_seq ?_
        refine run_seq ?_
        refine run_text ?_
        refine j_pure (pj_move (has_tmp rfl)) rfl rfl rfl ?_
        refine j_pure (pj_move (has_tmp rfl)) rfl rfl rfl ?_
        refine j_pure (pj_len_sl (sz := 1) (has_tmp rfl) (by kernel_rfl)) rfl rfl rfl ?_
        refine j_pure (pj_ilss (has_tmp rfl) (has_tmp rfl)) rfl rfl rfl ?_
        refine j_end ?_
        refine run_cond (has_tmp rfl) (fun e2 => ?_) (fun e2 => ?_)
        · replace h := bt e2 h
          refine run_skip ?_
          refine run_seq ?_
          refine run_block ?_
          refine run_seq ?_
          obtain ⟨x1, e3, h⟩ := bind_some h
          obtain ⟨x2, e4, h⟩ := bind_some h
          obtain ⟨r1, e5, h⟩ := bind_some h
          obtain ⟨y3, e7, h⟩ := bind_some h
          refine (run_drawJ (n := 23) (Γ' := [(0, (sl (sl u8)).slot p_a), (1, (sl (sl u8)).slot p_b), (5, i64.slot y1), (6, i64.slot y2), (41, bl.slot y3)]) (H' := []) ?_ fun J => ?_)
          · clear e7
            refine j_end ?_
            refine run_cond (has_tmp rfl) (fun e12 => ?_) (fun e12 => ?_)
            · replace h := bt e12 h
              refine run_seq ?_
              refine run_text ?_
              refine j_pure (pj_assign has_bl) rfl rfl rfl ?_
              refine j_end ?_
              obtain rfl := Option.some.inj h
              refine run_ret fun a w hst => ⟨rfl, fun hr => ?_⟩
              subst hr
              exact hq2 a w (q_ret1 hst rfl (.tmp rfl) () (fun _ _ h => h) (.nil))
            · replace h := bf e12 h
              refine run_skip ?_
              refine run_endblock ?_
              refine run_text ?_
              refine j_pure (pj_move (has_tmp rfl)) rfl rfl rfl ?_
              refine j_pure (pj_iadd (has_tmp rfl) has_i64) rfl rfl rfl ?_
              refine j_pure (pj_assign (has_tmp rfl)) rfl rfl rfl ?_
              refine j_end ?_
              obtain rfl := Option.some.inj h
              exact run_next () (.cons (.of_lk rfl) <| .cons (.of_lk rfl) <| .cons (.of_lk rfl) <| .cons (.of_lk rfl) <| .nil) (.nil)
          · rcases bool_tf (!r1) with e6 | e6
            · replace e7 := bt e6 e7
              obtain ⟨x3, e8, e7⟩ := bind_some e7
              obtain ⟨r2, e9, e7⟩ := bind_some e7
              obtain ⟨x4, e10, e7⟩ := bind_some e7
              obtain ⟨r3, e11, e7⟩ := bind_some e7
              exact run_draw (n := 23) (by kernel_rfl) (by kernel_rfl) (by kernel_rfl) (by kernel_rfl) (.read (.plain rfl (pj_move (has_tmp rfl))) <| .read (.plain rfl (pj_move (has_tmp rfl))) <| .read (.plain rfl (pj_index_slx (has_tmp rfl) (has_tmp rfl) isInt_i64 e3 (by kernel_rfl))) <| .read (.plain rfl (pj_load_to (has_tmp rfl) (by kernel_rfl))) <| .read (.plain rfl (pj_move (has_tmp rfl))) <| .read (.plain rfl (pj_move (has_tmp rfl))) <| .read (.plain rfl (pj_index_slx (has_tmp rfl) (has_tmp rfl) isInt_i64 e4 (by kernel_rfl))) <| .read (.plain rfl (pj_load_to (has_tmp rfl) (by kernel_rfl))) <| .read (.plain rfl (pj_call (hasL_cons (has_tmp rfl) <| hasL_cons (has_tmp rfl) <| hasL_nil) (by kernel_rfl) (c_rolodexref01_Same e5))) <| .read (.plain rfl (pj_not (has_tmp rfl))) <| .read (.plain rfl (pj_move (has_tmp rfl))) <| .read (.yes ⟨10, true, _, 29, _, rfl, rfl, rfl, fun _ _ => bl_p.1, gd_yes e6⟩ (pj_move (has_tmp rfl))) <| .read (.yes ⟨10, true, _, 29, _, rfl, rfl, rfl, fun _ _ => bl_p.1, gd_yes e6⟩ (pj_move (has_tmp rfl))) <| .read (.yes ⟨10, true, _, 29, _, rfl, rfl, rfl, fun _ _ => bl_p.1, gd_yes e6⟩ (pj_index_slx (has_tmp rfl) (has_tmp rfl) isInt_i64 e8 (by kernel_rfl))) <| .read (.yes ⟨10, true, _, 29, _, rfl, rfl, rfl, fun _ _ => bl_p.1, gd_yes e6⟩ (pj_load_to (has_tmp rfl) (by kernel_rfl))) <| .read (.yes ⟨10, true, _, 29, _, rfl, rfl, rfl, fun _ _ => bl_p.1, gd_yes e6⟩ (pj_call (hasL_cons (has_tmp rfl) <| hasL_nil) (by kernel_rfl) (c_rolodexref02_Sum e9))) <| .read (.yes ⟨10, true, _, 29, _, rfl, rfl, rfl, fun _ _ => bl_p.1, gd_yes e6⟩ (pj_move (has_tmp rfl))) <| .read (.yes ⟨10, true, _, 29, _, rfl, rfl, rfl, fun _ _ => bl_p.1, gd_yes e6⟩ (pj_move (has_tmp rfl))) <| .read (.yes ⟨10, true, _, 29, _, rfl, rfl, rfl, fun _ _ => bl_p.1, gd_yes e6⟩ (pj_index_slx (has_tmp rfl) (has_tmp rfl) isInt_i64 e10 (by kernel_rfl))) <| .read (.yes ⟨10, true, _, 29, _, rfl, rfl, rfl, fun _ _ => bl_p.1, gd_yes e6⟩ (pj_load_to (has_tmp rfl) (by kernel_rfl))) <| .read (.yes ⟨10, true, _, 29, _, rfl, rfl, rfl, fun _ _ => bl_p.1, gd_yes e6⟩ (pj_call (hasL_cons (has_tmp rfl) <| hasL_nil) (by kernel_rfl) (c_rolodexref02_Sum e11))) <| .read (.yes ⟨10, true, _, 29, _, rfl, rfl, rfl, fun _ _ => bl_p.1, gd_yes e6⟩ (pj_eql (n := 2) (eq_vec (e := 5) (by kernel_rfl) (by kernel_rfl) (eq_un (by kernel_rfl))) (by decide) rfl (by kernel_rfl) (has_tmp rfl) (has_tmp rfl))) <| .read (.plain rfl (PJ.eqv (R := bl) (pj_pick (t := any) (has_tmp rfl) (fun _ => (has_tmp rfl)) (fun he => absurd (e6.symm.trans he) (by decide))) (Option.some.inj e7))) <| .nil) (j_to (Γ' := [(0, (sl (sl u8)).slot p_a), (1, (sl (sl u8)).slot p_b), (5, i64.slot y1), (6, i64.slot y2), (41, bl.slot y3)]) (H' := []) (.cons (.of_lk rfl) <| .cons (.of_lk rfl) <| .cons (.of_lk rfl) <| .cons (.of_lk rfl) <| .cons (.of_lk rfl) <| .nil) (.nil) J)
            · replace e7 := bf e6 e7
              exact run_draw (n := 23) (by kernel_rfl) (by kernel_rfl) (by kernel_rfl) (by kernel_rfl) (.read (.plain rfl (pj_move (has_tmp rfl))) <| .read (.plain rfl (pj_move (has_tmp rfl))) <| .read (.plain rfl (pj_index_slx (has_tmp rfl) (has_tmp rfl) isInt_i64 e3 (by kernel_rfl))) <| .read (.plain rfl (pj_load_to (has_tmp rfl) (by kernel_rfl))) <| .read (.plain rfl (pj_move (has_tmp rfl))) <| .read (.plain rfl (pj_move (has_tmp rfl))) <| .read (.plain rfl (pj_index_slx (has_tmp rfl) (has_tmp rfl) isInt_i64 e4 (by kernel_rfl))) <| .read (.plain rfl (pj_load_to (has_tmp rfl) (by kernel_rfl))) <| .read (.plain rfl (pj_call (hasL_cons (has_tmp rfl) <| hasL_cons (has_tmp rfl) <| hasL_nil) (by kernel_rfl) (c_rolodexref01_Same e5))) <| .read (.plain rfl (pj_not (has_tmp rfl))) <| .read (.plain rfl (pj_move (has_tmp rfl))) <| .read (.no ⟨10, true, _, 29, _, rfl, rfl, rfl, fun _ _ => bl_p.1, gd_no e6⟩) <| .read (.no ⟨10, true, _, 29, _, rfl, rfl, rfl, fun _ _ => bl_p.1, gd_no e6⟩) <| .read (.no ⟨10, true, _, 29, _, rfl, rfl, rfl, fun _ _ => bl_p.1, gd_no e6⟩) <| .read (.no ⟨10, true, _, 29, _, rfl, rfl, rfl, fun _ _ => bl_p.1, gd_no e6⟩) <| .read (.no ⟨10, true, _, 29, _, rfl, rfl, rfl, fun _ _ => bl_p.1, gd_no e6⟩) <| .read (.no ⟨10, true, _, 29, _, rfl, rfl, rfl, fun _ _ => bl_p.1, gd_no e6⟩) <| .read (.no ⟨10, true, _, 29, _, rfl, rfl, rfl, fun _ _ => bl_p.1, gd_no e6⟩) <| .read (.no ⟨10, true, _, 29, _, rfl, rfl, rfl, fun _ _ => bl_p.1, gd_no e6⟩) <| .read (.no ⟨10, true, _, 29, _, rfl, rfl, rfl, fun _ _ => bl_p.1, gd_no e6⟩) <| .read (.no ⟨10, true, _, 29, _, rfl, rfl, rfl, fun _ _ => bl_p.1, gd_no e6⟩) <| .read (.no ⟨10, true, _, 29, _, rfl, rfl, rfl, fun _ _ => bl_p.1, gd_no e6⟩) <| .read (.plain rfl (PJ.eqv (R := bl) (pj_pick (t := any) (has_tmp rfl) (fun he => absurd (e6.symm.trans he) (by decide)) (fun _ => has_bl)) (Option.some.inj e7))) <| .nil) (j_to (Γ' := [(0, (sl (sl u8)).slot p_a), (1, (sl (sl u8)).slot p_b), (5, i64.slot y1), (6, i64.slot y2), (41, bl.slot y3)]) (H' := []) (.cons (.of_lk rfl) <| .cons (.of_lk rfl) <| .cons (.of_lk rfl) <| .cons (.of_lk rfl) <| .cons (.of_lk rfl) <| .nil) (.nil) J)
        · replace h := bf e2 h
          obtain rfl := Option.some.inj h
          exact run_brk () (.cons (.of_lk rfl) <| .cons (.of_lk rfl) <| .cons (.of_lk rfl) <| .cons (.of_lk rfl) <| .nil) (.nil)
      · rintro _ y4 ho
        subst ho
        show Run _ _ _ [(0, (sl (sl u8)).slot p_a), (1, (sl (sl u8)).slot p_b), (5, i64.slot y1), (6, i64.slot y4)] []
        refine run_to (Γ' := [(0, (sl (sl u8)).slot p_a), (1, (sl (sl u8)).slot p_b), (5, i64.slot y1)]) (H' := []) (.cons (.of_lk rfl) <| .cons (.of_lk rfl) <| .cons (.of_lk rfl) <| .nil) (.nil) ?_
        refine run_endblock ?_
        refine run_text ?_
        refine j_pure (pj_move (has_tmp rfl)) rfl rfl rfl ?_
        refine j_pure (pj_iadd (has_tmp rfl) has_i64) rfl rfl rfl ?_
        refine j_pure (pj_assign (has_tmp rfl)) rfl rfl rfl ?_
        refine j_end ?_
        obtain rfl := Option.some.inj h
        exact run_next () (.cons (.of_lk rfl) <| .cons (.of_lk rfl) <| .cons (.of_lk rfl) <| .nil) (.nil)
      · intro x a w ho hR
        subst ho
        obtain rfl := Option.some.inj h
        exact ⟨rfl, hR⟩
    · replace h := bf e1 h
      obtain rfl := Option.some.inj h
      exact run_brk () (.cons (.of_lk rfl) <| .cons (.of_lk rfl) <| .cons (.of_lk rfl) <| .nil) (.nil)
  · rintro _ y5 ho
    subst ho
    show Run _ _ _ [(0, (sl (sl u8)).slot p_a), (1, (sl (sl u8)).slot p_b), (5, i64.slot y5)] []
    refine run_to (Γ' := []) (H' := []) (.nil) (.nil) ?_
    refine run_seq ?_
    refine run_text ?_
    refine j_pure (pj_assign has_bl) rfl rfl rfl ?_
    refine j_end ?_
    obtain rfl := Option.some.inj h
    exact run_ret fun a w hst => q_ret1 hst rfl (.tmp rfl) () (fun _ _ h => h) (.nil)
  · intro x a w ho hR
    subst ho
    exact hq1 a w (hR (Option.some.inj h))
set_option maxRecDepth 100000 in
set_option maxHeartbeats 4000000 in
theorem c_rolodexref15_May {G : GP} {p_from : Int} {p_to : Int} {r : Bool} (h : rolodexref15_May p_from p_to = some r) : Ctr Tryd.prog G 23 [i64.slot p_from, i64.slot p_to] [] (fun (_ : Unit) => bl.slot r) (fun (_ : Unit) => []) := by
  unfold rolodexref15_May at h
  refine ctr_of_run Tryd.func23 rfl 16 rfl rfl fun m0 w0 b0 => ?_
  show Run _ _ _ [(0, i64.slot p_from), (1, i64.slot p_to)] _
  refine run_seq ?_
  refine run_text ?_
  refine j_pure (pj_assign has_bl) rfl rfl rfl ?_
  refine j_end ?_
  refine run_seq ?_
  refine run_text ?_
  refine j_pure (pj_move (has_tmp rfl)) rfl rfl rfl ?_
  refine j_pure (pj_igeq (has_tmp rfl) has_i64) rfl rfl rfl ?_
  refine j_pure (pj_move (has_tmp rfl)) rfl rfl rfl ?_
  obtain ⟨y1, e2, h⟩ := bind_some h
  refine j_joinx (ι := Unit) (Γ' := fun _ => [(1, i64.slot p_to), (11, bl.slot y1)]) (H' := fun _ => []) 4 ?_ fun J => ?_
  · intro _
    clear e2
    show OpsJ _ _ _ [(1, i64.slot p_to), (11, bl.slot y1)] [] _
    refine j_pure (pj_move (has_tmp rfl)) rfl rfl rfl ?_
    obtain ⟨y2, e4, h⟩ := bind_some h
    refine j_joinx (ι := Unit) (Γ' := fun _ => [(15, bl.slot y2)]) (H' := fun _ => []) 3 ?_ fun J => ?_
    · intro _
      clear e4
      show OpsJ _ _ _ [(15, bl.slot y2)] [] _
      refine j_pure (pj_assign (has_tmp rfl)) rfl rfl rfl ?_
      refine j_end ?_
      obtain rfl := Option.some.inj h
      exact run_ret fun a w hst => q_ret1 hst rfl (.tmp rfl) () (fun _ _ h => h) (.nil)
    · rcases bool_tf (y1) with e3 | e3
      · replace e4 := bt e3 e4
        refine j_pure_y (pj_move (has_tmp rfl)) rfl rfl rfl rfl (bl_isx e3) rfl rfl ?_
        refine j_pure_y (pj_ileq (has_tmp rfl) has_i64) rfl rfl rfl rfl (bl_isx e3) rfl rfl ?_
        refine j_pure (PJ.eqv (R := bl) (pj_pick (t := any) (has_tmp rfl) (fun _ => (has_tmp rfl)) (fun he => absurd (e3.symm.trans he) (by decide))) (Option.some.inj e4)) rfl rfl rfl ?_
        exact j_to (.cons (.of_lk rfl) <| .nil) (.nil) (J ())
      · replace e4 := bf e3 e4
        refine j_guard_no2 (j := 7) (want := true) rfl rfl rfl rfl (bl_isx e3) rfl rfl rfl ?_
        refine j_guard_no2 (j := 7) (want := true) rfl rfl rfl rfl (bl_isx e3) rfl rfl rfl ?_
        refine j_pure (PJ.eqv (R := bl) (pj_pick (t := any) (has_tmp rfl) (fun he => absurd (e3.symm.trans he) (by decide)) (fun _ => has_bl)) (Option.some.inj e4)) rfl rfl rfl ?_
        exact j_to (.cons (.of_lk rfl) <| .nil) (.nil) (J ())
  · rcases bool_tf (decide ((0 : Int) ≤ p_from)) with e1 | e1
    · replace e2 := bt e1 e2
      refine j_pure_y (pj_move (has_tmp rfl)) rfl rfl rfl rfl (bl_isx e1) rfl rfl ?_
      refine j_pure_y (pj_move (has_tmp rfl)) rfl rfl rfl rfl (bl_isx e1) rfl rfl ?_
      refine j_pure_y (pj_ileq (has_tmp rfl) (has_tmp rfl)) rfl rfl rfl rfl (bl_isx e1) rfl rfl ?_
      refine j_pure (PJ.eqv (R := bl) (pj_pick (t := any) (has_tmp rfl) (fun _ => (has_tmp rfl)) (fun he => absurd (e1.symm.trans he) (by decide))) (Option.some.inj e2)) rfl rfl rfl ?_
      exact j_to (.cons (.of_lk rfl) <| .cons (.of_lk rfl) <| .nil) (.nil) (J ())
    · replace e2 := bf e1 e2
      refine j_guard_no2 (j := 2) (want := true) rfl rfl rfl rfl (bl_isx e1) rfl rfl rfl ?_
      refine j_guard_no2 (j := 2) (want := true) rfl rfl rfl rfl (bl_isx e1) rfl rfl rfl ?_
      refine j_guard_no2 (j := 2) (want := true) rfl rfl rfl rfl (bl_isx e1) rfl rfl rfl ?_
      refine j_pure (PJ.eqv (R := bl) (pj_pick (t := any) (has_tmp rfl) (fun he => absurd (e1.symm.trans he) (by decide)) (fun _ => has_bl)) (Option.some.inj e2)) rfl rfl rfl ?_
      exact j_to (.cons (.of_lk rfl) <| .cons (.of_lk rfl) <| .nil) (.nil) (J ())
set_option maxRecDepth 100000 in
set_option maxHeartbeats 4000000 in
theorem c_rolodexref15_Size {G : GP} {p_from : Int} {p_to : Int} {r : Int} (h : rolodexref15_Size p_from p_to = some r) : Ctr Tryd.prog G 57 [i64.slot p_from, i64.slot p_to] [] (fun (_ : Unit) => i64.slot r) (fun (_ : Unit) => []) := by
  unfold rolodexref15_Size at h
  refine ctr_of_run Tryd.func57 rfl 22 rfl rfl fun m0 w0 b0 => ?_
  show Run _ _ _ [(0, i64.slot p_from), (1, i64.slot p_to)] _
  refine run_seq ?_
  refine run_text ?_
  refine j_pure (pj_assign has_i64) rfl rfl rfl ?_
  refine j_end ?_
  refine run_seq ?_
  refine run_text ?_
  refine j_pure (pj_assign has_i64) rfl rfl rfl ?_
  refine j_end ?_
  refine run_seq ?_
  obtain ⟨y3, e5, h⟩ := bind_some h
  refine run_loopS (Γi := fun (i : Unit) (s : Int) => [(0, i64.slot p_from), (1, i64.slot p_to), (5, i64.slot s)]) (Hi := fun (i : Unit) (s : Int) => []) e5 () (fun a w hst => (hst.sub (.cons (.of_lk rfl) <| .cons (.of_lk rfl) <| .cons (.of_lk rfl) <| .nil)).keep (.nil)) ?_ ?_
  · clear h e5
    rintro _ y1 lr h
    change rolodexref15_Size_L1 p_to p_from y1 = some _ at h
    show Run _ _ _ [(0, i64.slot p_from), (1, i64.slot p_to), (5, i64.slot y1)] []
    unfold rolodexref15_Size_L1 at h
    refine run_seq ?_
    refine run_seq ?_
    refine run_text ?_
    refine j_pure (pj_move (has_tmp rfl)) rfl rfl rfl ?_
    refine j_pure (pj_imul has_i64 (has_tmp rfl)) rfl rfl rfl ?_
    refine j_pure (pj_move (has_tmp rfl)) rfl rfl rfl ?_
    refine j_pure (pj_move (has_tmp rfl)) rfl rfl rfl ?_
    refine j_pure (pj_isub (has_tmp rfl) (has_tmp rfl)) rfl rfl rfl ?_
    refine j_pure (pj_ileq (has_tmp rfl) (has_tmp rfl)) rfl rfl rfl ?_
    refine j_pure (pj_move (has_tmp rfl)) rfl rfl rfl ?_
    obtain ⟨y2, e2, h⟩ := bind_some h
    refine j_joinx (ι := Unit) (Γ' := fun _ => [(0, i64.slot p_from), (1, i64.slot p_to), (5, i64.slot y1), (18, bl.slot y2)]) (H' := fun _ => []) 6 ?_ fun J => ?_
    · intro _
      clear e2
      show OpsJ _ _ _ [(0, i64.slot p_from), (1, i64.slot p_to), (5, i64.slot y1), (18, bl.slot y2)] [] _
      refine j_end ?_
      refine run_cond (has_tmp rfl) (fun e4 => ?_) (fun e4 => ?_)
      · replace h := bt e4 h
        refine run_skip ?_
        refine run_block ?_
        refine run_text ?_
        refine j_pure (pj_move (has_tmp rfl)) rfl rfl rfl ?_
        refine j_pure (pj_imul has_i64 (has_tmp rfl)) rfl rfl rfl ?_
        refine j_pure (pj_assign (has_tmp rfl)) rfl rfl rfl ?_
        refine j_end ?_
        refine run_endblock ?_
        obtain rfl := Option.some.inj h
        exact run_next () (.cons (.of_lk rfl) <| .cons (.of_lk rfl) <| .cons (.of_lk rfl) <| .nil) (.nil)
      · replace h := bf e4 h
        obtain rfl := Option.some.inj h
        exact run_brk () (.cons (.of_lk rfl) <| .cons (.of_lk rfl) <| .cons (.of_lk rfl) <| .nil) (.nil)
    · rcases bool_tf (decide ((w64 ((2 : Int) * y1)) ≤ (w64 (p_to - p_from)))) with e1 | e1
      · replace e2 := bt e1 e2
        refine j_pure_y (pj_move (has_tmp rfl)) rfl rfl rfl rfl (bl_isx e1) rfl rfl ?_
        refine j_pure_y (pj_move (has_tmp rfl)) rfl rfl rfl rfl (bl_isx e1) rfl rfl ?_
        refine j_pure_y (pj_imul has_i64 (has_tmp rfl)) rfl rfl rfl rfl (bl_isx e1) rfl rfl ?_
        obtain ⟨e3, e2⟩ := grd_some e2
        refine j_pure_y (pj_irem (has_tmp rfl) (has_tmp rfl) e3) rfl rfl rfl rfl (bl_isx e1) rfl rfl ?_
        refine j_pure_y (pj_ieql (has_tmp rfl) has_i64) rfl rfl rfl rfl (bl_isx e1) rfl rfl ?_
        refine j_pure (PJ.eqv (R := bl) (pj_pick (t := any) (has_tmp rfl) (fun _ => (has_tmp rfl)) (fun he => absurd (e1.symm.trans he) (by decide))) (Option.some.inj e2)) rfl rfl rfl ?_
        exact j_to (.cons (.of_lk rfl) <| .cons (.of_lk rfl) <| .cons (.of_lk rfl) <| .cons (.of_lk rfl) <| .nil) (.nil) (J ())
      · replace e2 := bf e1 e2
        refine j_guard_no2 (j := 6) (want := true) rfl rfl rfl rfl (bl_isx e1) rfl rfl rfl ?_
        refine j_guard_no2 (j := 6) (want := true) rfl rfl rfl rfl (bl_isx e1) rfl rfl rfl ?_
        refine j_guard_no2 (j := 6) (want := true) rfl rfl rfl rfl (bl_isx e1) rfl rfl rfl ?_
        refine j_guard_no2 (j := 6) (want := true) rfl rfl rfl rfl (bl_isx e1) rfl rfl rfl ?_
        refine j_guard_no2 (j := 6) (want := true) rfl rfl rfl rfl (bl_isx e1) rfl rfl rfl ?_
        refine j_pure (PJ.eqv (R := bl) (pj_pick (t := any) (has_tmp rfl) (fun he => absurd (e1.symm.trans he) (by decide)) (fun _ => has_bl)) (Option.some.inj e2)) rfl rfl rfl ?_
        exact j_to (.cons (.of_lk rfl) <| .cons (.of_lk rfl) <| .cons (.of_lk rfl) <| .cons (.of_lk rfl) <| .nil) (.nil) (J ())
  · rintro _
    show Run _ _ _ [(0, i64.slot p_from), (1, i64.slot p_to), (5, i64.slot y3)] []
    refine run_to (Γ' := [(5, i64.slot y3)]) (H' := []) (.cons (.of_lk rfl) <| .nil) (.nil) ?_
    refine run_seq ?_
    refine run_text ?_
    refine j_pure (pj_move (has_tmp rfl)) rfl rfl rfl ?_
    refine j_pure (pj_assign (has_tmp rfl)) rfl rfl rfl ?_
    refine j_end ?_
    obtain rfl := Option.some.inj h
    exact run_ret fun a w hst => q_ret1 hst rfl (.tmp rfl) () (fun _ _ h => h) (.nil)
set_option maxRecDepth 100000 in
set_option maxHeartbeats 4000000 in
theorem c_rolodexref15_Segments {G : GP} {p_from : Int} {p_to : Int} {r : (List Int)} (h : rolodexref15_Segments p_from p_to = some r) : Ctr Tryd.prog G 22 [i64.slot p_from, i64.slot p_to] [] (fun (u0 : Value) => ov u0) (fun (u0 : Value) => [own 3 i64 u0 r]) := by
  unfold rolodexref15_Segments at h
  refine ctr_of_run Tryd.func22 rfl 25 rfl rfl fun m0 w0 b0 => ?_
  show Run _ _ _ [(0, i64.slot p_from), (1, i64.slot p_to)] _
  refine run_seq ?_
  refine run_text ?_
  refine j_assign_nil (T := 3) i64 rfl fun v1 => ?_
  refine j_end ?_
  refine run_seq ?_
  refine run_text ?_
  refine j_assign_nil (T := 3) i64 rfl fun v2 => ?_
  refine j_end ?_
  refine run_seq ?_
  refine run_seq ?_
  refine run_text ?_
  refine j_pure (pj_move (has_tmp rfl)) rfl rfl rfl ?_
  refine j_pure (pj_move (has_tmp rfl)) rfl rfl rfl ?_
  obtain ⟨r1, e1, h⟩ := bind_some h
  refine j_pure (pj_call (hasL_cons (has_tmp rfl) <| hasL_cons (has_tmp rfl) <| hasL_nil) (by kernel_rfl) (c_rolodexref15_May e1)) rfl rfl rfl ?_
  refine j_pure (pj_not (has_tmp rfl)) rfl rfl rfl ?_
  refine j_end ?_
  refine run_cond (has_tmp rfl) (fun e2 => ?_) (fun e2 => ?_)
  · replace h := bt e2 h
    refine run_seq ?_
    refine run_text ?_
    refine j_assign_nil (T := 3) i64 rfl fun v3 => ?_
    refine j_end ?_
    obtain rfl := Option.some.inj h
    exact run_ret fun a w hst => q_ret1 hst rfl (.tmp rfl) v3 (fun _ _ h => h) (.cons .here <| .nil)
  · replace h := bf e2 h
    refine run_skip ?_
    refine run_seq ?_
    obtain ⟨⟨y3, y4⟩, e6, h⟩ := bind_some h
    refine run_loopS (Γi := fun (i : Value) (s : Int × (List Int)) => [(0, i64.slot s.1), (1, i64.slot p_to), (5, ov i)]) (Hi := fun (i : Value) (s : Int × (List Int)) => [own 3 i64 i s.2]) e6 v2 (fun a w hst => (hst.sub (.cons (.of_lk rfl) <| .cons (.of_lk rfl) <| .cons (.of_lk rfl) <| .nil)).keep (.cons .here <| .nil)) ?_ ?_
    · clear h e6
      rintro v4 ⟨y1, y2⟩ lr h
      change rolodexref15_Segments_L1 p_to y1 y2 = some _ at h
      show Run _ _ _ [(0, i64.slot y1), (1, i64.slot p_to), (5, ov v4)] [own 3 i64 v4 y2]
      unfold rolodexref15_Segments_L1 at h
      refine run_seq ?_
      refine run_seq ?_
      refine run_text ?_
      refine j_pure (pj_move (has_tmp rfl)) rfl rfl rfl ?_
      refine j_pure (pj_move (has_tmp rfl)) rfl rfl rfl ?_
      refine j_pure (pj_ilss (has_tmp rfl) (has_tmp rfl)) rfl rfl rfl ?_
      refine j_end ?_
      refine run_cond (has_tmp rfl) (fun e3 => ?_) (fun e3 => ?_)
      · replace h := bt e3 h
        refine run_skip ?_
        refine run_block ?_
        refine run_seq ?_
        refine run_text ?_
        refine j_pure (pj_move (has_tmp rfl)) rfl rfl rfl ?_
        refine j_pure (pj_move (has_tmp rfl)) rfl rfl rfl ?_
        obtain ⟨r2, e4, h⟩ := bind_some h
        refine j_pure (pj_call (hasL_cons (has_tmp rfl) <| hasL_cons (has_tmp rfl) <| hasL_nil) (by kernel_rfl) (c_rolodexref15_Size e4)) rfl rfl rfl ?_
        refine j_pure (pj_assign (has_tmp rfl)) rfl rfl rfl ?_
        refine j_end ?_
        refine run_seq ?_
        refine run_text ?_
        refine j_pure (pj_move (has_tmp rfl)) rfl rfl rfl ?_
        refine j_pure (pj_move (has_tmp rfl)) rfl rfl rfl ?_
        refine j_pure (pj_buildSlice (T := 3) (R := i64) (.cons (has_tmp rfl) .nil) rfl (by kernel_rfl) (by kernel_rfl)) rfl rfl rfl ?_
        obtain ⟨e5, h⟩ := grd_some h
        refine j_append (T := 3) (E := 3) (has_tmp rfl) .here (src_data (has_tmp rfl)) (by kernel_rfl) (by kernel_rfl) e5 rfl fun v5 => ?_
        refine j_pure (pj_assign (has_tmp rfl)) rfl rfl rfl ?_
        refine j_end ?_
        refine run_text ?_
        refine j_pure (pj_move (has_tmp rfl)) rfl rfl rfl ?_
        refine j_pure (pj_move (has_tmp rfl)) rfl rfl rfl ?_
        refine j_pure (pj_iadd (has_tmp rfl) (has_tmp rfl)) rfl rfl rfl ?_
        refine j_pure (pj_assign (has_tmp rfl)) rfl rfl rfl ?_
        refine j_end ?_
        refine run_endblock ?_
        obtain rfl := Option.some.inj h
        exact run_next v5 (.cons (.of_lk rfl) <| .cons (.of_lk rfl) <| .cons (.of_lk rfl) <| .nil) (.cons .here <| .nil)
      · replace h := bf e3 h
        obtain rfl := Option.some.inj h
        exact run_brk v4 (.cons (.of_lk rfl) <| .cons (.of_lk rfl) <| .cons (.of_lk rfl) <| .nil) (.cons .here <| .nil)
    · rintro v6
      show Run _ _ _ [(0, i64.slot y3), (1, i64.slot p_to), (5, ov v6)] [own 3 i64 v6 y4]
      refine run_to (Γ' := [(5, ov v6)]) (H' := [own 3 i64 v6 y4]) (.cons (.of_lk rfl) <| .nil) (.cons .here <| .nil) ?_
      refine run_seq ?_
      refine run_text ?_
      refine j_pure (pj_move (has_tmp rfl)) rfl rfl rfl ?_
      refine j_pure (pj_assign (has_tmp rfl)) rfl rfl rfl ?_
      refine j_end ?_
      obtain rfl := Option.some.inj h
      exact run_ret fun a w hst => q_ret1 hst rfl (.tmp rfl) v6 (fun _ _ h => h) (.cons .here <| .nil)
set_option maxRecDepth 100000 in
set_option maxHeartbeats 4000000 in
theorem c_rolodexref15_First {G : GP} {p_from : Int} {p_sizes : List Int} {r : Int} (h : rolodexref15_First p_from p_sizes = some r) : Ctr Tryd.prog G 60 [i64.slot p_from, (sl i64).slot p_sizes] [] (fun (_ : Unit) => i64.slot r) (fun (_ : Unit) => []) := by
  unfold rolodexref15_First at h
  refine ctr_of_run Tryd.func60 rfl 40 rfl rfl fun m0 w0 b0 => ?_
  refine run_ret0 fun Qf hq1 hq2 => ?_
  show Run _ _ _ [(0, i64.slot p_from), (1, (sl i64).slot p_sizes)] _
  refine run_seq ?_
  refine run_text ?_
  refine j_pure (pj_assign has_i64) rfl rfl rfl ?_
  refine j_end ?_
  refine run_seq ?_
  refine run_seq ?_
  refine run_text ?_
  refine j_pure (pj_assign has_i64) rfl rfl rfl ?_
  refine j_end ?_
  obtain ⟨o, e10, h⟩ := bind_some h
  refine run_loop (Γi := fun (i : Unit) (s : Int × Int) => [(0, i64.slot s.1), (1, (sl i64).slot p_sizes), (5, i64.slot s.2)]) (Hi := fun (i : Unit) (s : Int × Int) => []) (R := fun x a w => x = r → Qf a w) e10 () (fun a w hst => (hst.sub (.cons (.of_lk rfl) <| .cons (.of_lk rfl) <| .cons (.of_lk rfl) <| .nil)).keep (.nil)) ?_ ?_ ?_
  · clear h e10
    rintro _ ⟨y1, y2⟩ lr h
    change rolodexref15_First_L1 p_sizes y1 y2 = some _ at h
    show Run _ _ _ [(0, i64.slot y1), (1, (sl i64).slot p_sizes), (5, i64.slot y2)] []
    unfold rolodexref15_First_L1 at h
    refine run_seq ?_
    refine run_seq ?_
    refine run_text ?_
    refine j_pure (pj_move (has_tmp rfl)) rfl rfl rfl ?_
    refine j_pure (pj_iadd (has_tmp rfl) has_i64) rfl rfl rfl ?_
    refine j_pure (pj_move (has_tmp rfl)) rfl rfl rfl ?_
    refine j_pure (pj_len_sl (sz := 1) (has_tmp rfl) (by kernel_rfl)) rfl rfl rfl ?_
    refine j_pure (pj_ilss (has_tmp rfl) (has_tmp rfl)) rfl rfl rfl ?_
    refine j_end ?_
    refine run_cond (has_tmp rfl) (fun e1 => ?_) (fun e1 => ?_)
    · replace h := bt e1 h
      refine run_skip ?_
      refine run_seq ?_
      refine run_block ?_
      refine run_seq ?_
      refine run_seq ?_
      obtain ⟨x1, e2, h⟩ := bind_some h
      obtain ⟨x2, e3, h⟩ := bind_some h
      obtain ⟨y3, e5, h⟩ := bind_some h
      refine (run_drawJ (n := 20) (Γ' := [(0, i64.slot y1), (1, (sl i64).slot p_sizes), (5, i64.slot y2), (32, bl.slot y3)]) (H' := []) ?_ fun J => ?_)
      · clear e5
        refine j_end ?_
        refine run_cond (has_tmp rfl) (fun e8 => ?_) (fun e8 => ?_)
        · replace h := bt e8 h
          refine run_seq ?_
          refine run_text ?_
          refine j_pure (pj_move (has_tmp rfl)) rfl rfl rfl ?_
          refine j_pure (pj_assign (has_tmp rfl)) rfl rfl rfl ?_
          refine j_end ?_
          obtain rfl := Option.some.inj h
          refine run_ret fun a w hst => ⟨rfl, fun hr => ?_⟩
          subst hr
          exact hq2 a w (q_ret1 hst rfl (.tmp rfl) () (fun _ _ h => h) (.nil))
        · replace h := bf e8 h
          refine run_skip ?_
          refine run_text ?_
          refine j_pure (pj_move (has_tmp rfl)) rfl rfl rfl ?_
          refine j_pure (pj_move (has_tmp rfl)) rfl rfl rfl ?_
          refine j_pure (pj_move (has_tmp rfl)) rfl rfl rfl ?_
          obtain ⟨x4, e9, h⟩ := bind_some h
          refine j_pure (pj_index_slx (has_tmp rfl) (has_tmp rfl) isInt_i64 e9 (by kernel_rfl)) rfl rfl rfl ?_
          refine j_pure (pj_load_to (has_tmp rfl) (by kernel_rfl)) rfl rfl rfl ?_
          refine j_pure (pj_iadd (has_tmp rfl) (has_tmp rfl)) rfl rfl rfl ?_
          refine j_pure (pj_assign (has_tmp rfl)) rfl rfl rfl ?_
          refine j_end ?_
          refine run_endblock ?_
          refine run_text ?_
          refine j_pure (pj_move (has_tmp rfl)) rfl rfl rfl ?_
          refine j_pure (pj_iadd (has_tmp rfl) has_i64) rfl rfl rfl ?_
          refine j_pure (pj_assign (has_tmp rfl)) rfl rfl rfl ?_
          refine j_end ?_
          obtain rfl := Option.some.inj h
          exact run_next () (.cons (.of_lk rfl) <| .cons (.of_lk rfl) <| .cons (.of_lk rfl) <| .nil) (.nil)
      · rcases bool_tf (decide (x1 = x2)) with e4 | e4
        · replace e5 := bt e4 e5
          obtain ⟨x3, e6, e5⟩ := bind_some e5
          obtain ⟨e7, e5⟩ := grd_some e5
          exact run_draw (n := 20) (by kernel_rfl) (by kernel_rfl) (by kernel_rfl) (by kernel_rfl) (.read (.plain rfl (pj_move (has_tmp rfl))) <| .read (.plain rfl (pj_move (has_tmp rfl))) <| .read (.plain rfl (pj_index_slx (has_tmp rfl) (has_tmp rfl) isInt_i64 e2 (by kernel_rfl))) <| .read (.plain rfl (pj_load_to (has_tmp rfl) (by kernel_rfl))) <| .read (.plain rfl (pj_move (has_tmp rfl))) <| .read (.plain rfl (pj_move (has_tmp rfl))) <| .read (.plain rfl (pj_iadd (has_tmp rfl) has_i64)) <| .read (.plain rfl (pj_index_slx (has_tmp rfl) (has_tmp rfl) isInt_i64 e3 (by kernel_rfl))) <| .read (.plain rfl (pj_load_to (has_tmp rfl) (by kernel_rfl))) <| .read (.plain rfl (pj_ieql (has_tmp rfl) (has_tmp rfl))) <| .read (.plain rfl (pj_move (has_tmp rfl))) <| .read (.yes ⟨10, true, _, 23, _, rfl, rfl, rfl, fun _ _ => bl_p.1, gd_yes e4⟩ (pj_move (has_tmp rfl))) <| .read (.yes ⟨10, true, _, 23, _, rfl, rfl, rfl, fun _ _ => bl_p.1, gd_yes e4⟩ (pj_move (has_tmp rfl))) <| .read (.yes ⟨10, true, _, 23, _, rfl, rfl, rfl, fun _ _ => bl_p.1, gd_yes e4⟩ (pj_move (has_tmp rfl))) <| .read (.yes ⟨10, true, _, 23, _, rfl, rfl, rfl, fun _ _ => bl_p.1, gd_yes e4⟩ (pj_index_slx (has_tmp rfl) (has_tmp rfl) isInt_i64 e6 (by kernel_rfl))) <| .read (.yes ⟨10, true, _, 23, _, rfl, rfl, rfl, fun _ _ => bl_p.1, gd_yes e4⟩ (pj_load_to (has_tmp rfl) (by kernel_rfl))) <| .read (.yes ⟨10, true, _, 23, _, rfl, rfl, rfl, fun _ _ => bl_p.1, gd_yes e4⟩ (pj_imul has_i64 (has_tmp rfl))) <| .read (.yes ⟨10, true, _, 23, _, rfl, rfl, rfl, fun _ _ => bl_p.1, gd_yes e4⟩ (pj_irem (has_tmp rfl) (has_tmp rfl) e7)) <| .read (.yes ⟨10, true, _, 23, _, rfl, rfl, rfl, fun _ _ => bl_p.1, gd_yes e4⟩ (pj_ieql (has_tmp rfl) has_i64)) <| .read (.plain rfl (PJ.eqv (R := bl) (pj_pick (t := any) (has_tmp rfl) (fun _ => (has_tmp rfl)) (fun he => absurd (e4.symm.trans he) (by decide))) (Option.some.inj e5))) <| .nil) (j_to (Γ' := [(0, i64.slot y1), (1, (sl i64).slot p_sizes), (5, i64.slot y2), (32, bl.slot y3)]) (H' := []) (.cons (.of_lk rfl) <| .cons (.of_lk rfl) <| .cons (.of_lk rfl) <| .cons (.of_lk rfl) <| .nil) (.nil) J)
        · replace e5 := bf e4 e5
          exact run_draw (n := 20) (by kernel_rfl) (by kernel_rfl) (by kernel_rfl) (by kernel_rfl) (.read (.plain rfl (pj_move (has_tmp rfl))) <| .read (.plain rfl (pj_move (has_tmp rfl))) <| .read (.plain rfl (pj_index_slx (has_tmp rfl) (has_tmp rfl) isInt_i64 e2 (by kernel_rfl))) <| .read (.plain rfl (pj_load_to (has_tmp rfl) (by kernel_rfl))) <| .read (.plain rfl (pj_move (has_tmp rfl))) <| .read (.plain rfl (pj_move (has_tmp rfl))) <| .read (.plain rfl (pj_iadd (has_tmp rfl) has_i64)) <| .read (.plain rfl (pj_index_slx (has_tmp rfl) (has_tmp rfl) isInt_i64 e3 (by kernel_rfl))) <| .read (.plain rfl (pj_load_to (has_tmp rfl) (by kernel_rfl))) <| .read (.plain rfl (pj_ieql (has_tmp rfl) (has_tmp rfl))) <| .read (.plain rfl (pj_move (has_tmp rfl))) <| .read (.no ⟨10, true, _, 23, _, rfl, rfl, rfl, fun _ _ => bl_p.1, gd_no e4⟩) <| .read (.no ⟨10, true, _, 23, _, rfl, rfl, rfl, fun _ _ => bl_p.1, gd_no e4⟩) <| .read (.no ⟨10, true, _, 23, _, rfl, rfl, rfl, fun _ _ => bl_p.1, gd_no e4⟩) <| .read (.no ⟨10, true, _, 23, _, rfl, rfl, rfl, fun _ _ => bl_p.1, gd_no e4⟩) <| .read (.no ⟨10, true, _, 23, _, rfl, rfl, rfl, fun _ _ => bl_p.1, gd_no e4⟩) <| .read (.no ⟨10, true, _, 23, _, rfl, rfl, rfl, fun _ _ => bl_p.1, gd_no e4⟩) <| .read (.no ⟨10, true, _, 23, _, rfl, rfl, rfl, fun _ _ => bl_p.1, gd_no e4⟩) <| .read (.no ⟨10, true, _, 23, _, rfl, rfl, rfl, fun _ _ => bl_p.1, gd_no e4⟩) <| .read (.plain rfl (PJ.eqv (R := bl) (pj_pick (t := any) (has_tmp rfl) (fun he => absurd (e4.symm.trans he) (by decide)) (fun _ => has_bl)) (Option.some.inj e5))) <| .nil) (j_to (Γ' := [(0, i64.slot y1), (1, (sl i64).slot p_sizes), (5, i64.slot y2), (32, bl.slot y3)]) (H' := []) (.cons (.of_lk rfl) <| .cons (.of_lk rfl) <| .cons (.of_lk rfl) <| .cons (.of_lk rfl) <| .nil) (.nil) J)
    · replace h := bf e1 h
      obtain rfl := Option.some.inj h
      exact run_brk () (.cons (.of_lk rfl) <| .cons (.of_lk rfl) <| .cons (.of_lk rfl) <| .nil) (.nil)
  · rintro _ ⟨y4, y5⟩ ho
    subst ho
    show Run _ _ _ [(0, i64.slot y4), (1, (sl i64).slot p_sizes), (5, i64.slot y5)] []
    refine run_to (Γ' := []) (H' := []) (.nil) (.nil) ?_
    refine run_seq ?_
    refine run_text ?_
    refine j_pure (pj_assign has_i64) rfl rfl rfl ?_
    refine j_end ?_
    obtain rfl := Option.some.inj h
    exact run_ret fun a w hst => q_ret1 hst rfl (.tmp rfl) () (fun _ _ h => h) (.nil)
  · intro x a w ho hR
    subst ho
    exact hq1 a w (hR (Option.some.inj h))
set_option maxRecDepth 100000 in
set_option maxHeartbeats 4000000 in
theorem c_rolodexref15_Made {G : GP} {p_sizes : List Int} {p_l : List T_api_Hash} {p_i : Int} {r : (List Int) × (List T_api_Hash)} (h : rolodexref15_Made p_sizes p_l p_i = some r) : Ctr Tryd.prog G 61 [(sl i64).slot p_sizes, (sl R_api_Hash).slot p_l, i64.slot p_i] [] (fun (i : Value × Value) => tup [ov i.1, ov i.2]) (fun (i : Value × Value) => [own 3 i64 i.1 r.1, own 24 R_api_Hash i.2 r.2]) := by
  unfold rolodexref15_Made at h
  refine ctr_of_run Tryd.func61 rfl 55 rfl rfl fun m0 w0 b0 => ?_
  show Run _ _ _ [(0, (sl i64).slot p_sizes), (1, (sl R_api_Hash).slot p_l), (2, i64.slot p_i)] _
  refine run_seq ?_
  refine run_text ?_
  refine j_assign_nil (T := 3) i64 rfl fun v1 => ?_
  refine j_assign_nil (T := 24) R_api_Hash rfl fun v2 => ?_
  refine j_end ?_
  refine run_seq ?_
  refine run_text ?_
  refine j_assign_nil (T := 3) i64 rfl fun v3 => ?_
  refine j_end ?_
  refine run_seq ?_
  refine run_text ?_
  refine j_assign_nil (T := 24) R_api_Hash rfl fun v4 => ?_
  refine j_end ?_
  refine run_seq ?_
  refine run_text ?_
  refine j_pure (pj_move (has_tmp rfl)) rfl rfl rfl ?_
  refine j_pure (pj_move (has_tmp rfl)) rfl rfl rfl ?_
  refine j_pure (pj_move (has_tmp rfl)) rfl rfl rfl ?_
  obtain ⟨x1, e1, h⟩ := bind_some h
  refine j_pure (pj_slice_slx (has_tmp rfl) .no (.yes (has_tmp rfl) isInt_i64) e1 (by kernel_rfl)) rfl rfl rfl ?_
  obtain ⟨e2, h⟩ := grd_some h
  refine j_append (T := 3) (E := 3) (has_tmp rfl) (.next .here) (src_data (has_tmp rfl)) (by kernel_rfl) (by kernel_rfl) e2 rfl fun v5 => ?_
  refine j_pure (pj_assign (has_tmp rfl)) rfl rfl rfl ?_
  refine j_end ?_
  refine run_seq ?_
  refine run_text ?_
  refine j_pure (pj_move (has_tmp rfl)) rfl rfl rfl ?_
  refine j_pure (pj_move (has_tmp rfl)) rfl rfl rfl ?_
  refine j_pure (pj_move (has_tmp rfl)) rfl rfl rfl ?_
  obtain ⟨x2, e3, h⟩ := bind_some h
  refine j_pure (pj_index_slx (has_tmp rfl) (has_tmp rfl) isInt_i64 e3 (by kernel_rfl)) rfl rfl rfl ?_
  refine j_pure (pj_load_to (has_tmp rfl) (by kernel_rfl)) rfl rfl rfl ?_
  refine j_pure (pj_imul has_i64 (has_tmp rfl)) rfl rfl rfl ?_
  refine j_pure (pj_buildSlice (T := 3) (R := i64) (.cons (has_tmp rfl) .nil) rfl (by kernel_rfl) (by kernel_rfl)) rfl rfl rfl ?_
  obtain ⟨e4, h⟩ := grd_some h
  refine j_append (T := 3) (E := 3) (has_tmp rfl) .here (src_data (has_tmp rfl)) (by kernel_rfl) (by kernel_rfl) e4 rfl fun v6 => ?_
  refine j_pure (pj_assign (has_tmp rfl)) rfl rfl rfl ?_
  refine j_end ?_
  refine run_seq ?_
  refine run_text ?_
  refine j_pure (pj_move (has_tmp rfl)) rfl rfl rfl ?_
  refine j_pure (pj_move (has_tmp rfl)) rfl rfl rfl ?_
  refine j_pure (pj_move (has_tmp rfl)) rfl rfl rfl ?_
  refine j_pure (pj_iadd (has_tmp rfl) has_i64) rfl rfl rfl ?_
  obtain ⟨x3, e5, h⟩ := bind_some h
  refine j_pure (pj_slice_slx (has_tmp rfl) (.yes (has_tmp rfl) isInt_i64) .no e5 (by kernel_rfl)) rfl rfl rfl ?_
  obtain ⟨e6, h⟩ := grd_some h
  refine j_append (T := 3) (E := 3) (has_tmp rfl) .here (src_data (has_tmp rfl)) (by kernel_rfl) (by kernel_rfl) e6 rfl fun v7 => ?_
  refine j_pure (pj_assign (has_tmp rfl)) rfl rfl rfl ?_
  refine j_end ?_
  refine run_seq ?_
  refine run_text ?_
  refine j_pure (pj_move (has_tmp rfl)) rfl rfl rfl ?_
  refine j_pure (pj_move (has_tmp rfl)) rfl rfl rfl ?_
  refine j_pure (pj_move (has_tmp rfl)) rfl rfl rfl ?_
  obtain ⟨x4, e7, h⟩ := bind_some h
  refine j_pure (pj_slice_slx (has_tmp rfl) .no (.yes (has_tmp rfl) isInt_i64) e7 (by kernel_rfl)) rfl rfl rfl ?_
  obtain ⟨e8, h⟩ := grd_some h
  refine j_append (T := 24) (E := 24) (has_tmp rfl) (.next .here) (src_data (has_tmp rfl)) (by kernel_rfl) (by kernel_rfl) e8 rfl fun v8 => ?_
  refine j_pure (pj_assign (has_tmp rfl)) rfl rfl rfl ?_
  refine j_end ?_
  refine run_seq ?_
  obtain ⟨x5, e9, h⟩ := bind_some h
  obtain ⟨x6, e10, h⟩ := bind_some h
  obtain ⟨r1, e11, h⟩ := bind_some h
  refine run_draw (n := 12) (by kernel_rfl) (by kernel_rfl) (by kernel_rfl) (by kernel_rfl) (.read (.plain rfl (pj_move (has_tmp rfl))) <| .read (.plain rfl (pj_move (has_tmp rfl))) <| .read (.plain rfl (pj_move (has_tmp rfl))) <| .read (.plain rfl (pj_index_slx (has_tmp rfl) (has_tmp rfl) isInt_i64 e9 (by kernel_rfl))) <| .read (.plain rfl (pj_load_to (has_tmp rfl) (by kernel_rfl))) <| .read (.plain rfl (pj_move (has_tmp rfl))) <| .read (.plain rfl (pj_move (has_tmp rfl))) <| .read (.plain rfl (pj_iadd (has_tmp rfl) has_i64)) <| .read (.plain rfl (pj_index_slx (has_tmp rfl) (has_tmp rfl) isInt_i64 e10 (by kernel_rfl))) <| .read (.plain rfl (pj_load_to (has_tmp rfl) (by kernel_rfl))) <| .read (.plain rfl (pj_call (hasL_cons (has_tmp rfl) <| hasL_cons (has_tmp rfl) <| hasL_nil) (by kernel_rfl) (c_rolodexref15_Node e11))) <| .read (.plain rfl (pj_buildSlice (T := 24) (R := R_api_Hash) (.cons (has_tmp rfl) .nil) rfl (by kernel_rfl) (by kernel_rfl))) <| .nil) (j_to (Γ' := [(1, (sl R_api_Hash).slot p_l), (2, i64.slot p_i), (8, ov v7), (34, ov v8), (45, (sl R_api_Hash).slot ([r1]))]) (H' := [own 24 R_api_Hash v8 (([] : List T_api_Hash) ++ x4), own 3 i64 v7 (((([] : List Int) ++ x1) ++ ([w64 ((2 : Int) * x2)])) ++ x3)]) (.cons (.of_lk rfl) <| .cons (.of_lk rfl) <| .cons (.of_lk rfl) <| .cons (.of_lk rfl) <| .cons (.of_lk rfl) <| .nil) (.cons .here <| .cons .here <| .nil) ?_)
  obtain ⟨e12, h⟩ := grd_some h
  refine j_append (T := 24) (E := 24) (has_tmp rfl) .here (src_data (has_tmp rfl)) (by kernel_rfl) (by kernel_rfl) e12 rfl fun v9 => ?_
  refine j_pure (pj_assign (has_tmp rfl)) rfl rfl rfl ?_
  refine j_end ?_
  refine run_seq ?_
  refine run_text ?_
  refine j_pure (pj_move (has_tmp rfl)) rfl rfl rfl ?_
  refine j_pure (pj_move (has_tmp rfl)) rfl rfl rfl ?_
  refine j_pure (pj_move (has_tmp rfl)) rfl rfl rfl ?_
  refine j_pure (pj_iadd (has_tmp rfl) has_i64) rfl rfl rfl ?_
  obtain ⟨x7, e13, h⟩ := bind_some h
  refine j_pure (pj_slice_slx (has_tmp rfl) (.yes (has_tmp rfl) isInt_i64) .no e13 (by kernel_rfl)) rfl rfl rfl ?_
  obtain ⟨e14, h⟩ := grd_some h
  refine j_append (T := 24) (E := 24) (has_tmp rfl) .here (src_data (has_tmp rfl)) (by kernel_rfl) (by kernel_rfl) e14 rfl fun v10 => ?_
  refine j_pure (pj_assign (has_tmp rfl)) rfl rfl rfl ?_
  refine j_end ?_
  refine run_seq ?_
  refine run_text ?_
  refine j_pure (pj_move (has_tmp rfl)) rfl rfl rfl ?_
  refine j_pure (pj_move (has_tmp rfl)) rfl rfl rfl ?_
  refine j_pure (pj_assign (has_tmp rfl)) rfl rfl rfl ?_
  refine j_pure (pj_assign (has_tmp rfl)) rfl rfl rfl ?_
  refine j_end ?_
  obtain rfl := Option.some.inj h
  exact run_ret fun a w hst => q_retN hst rfl (.cons (.tmp rfl) <| .cons (.tmp rfl) <| .nil) rfl (v7, v10) (fun _ _ h => h) (.cons (.next .here) <| .cons .here <| .nil)
set_option maxRecDepth 100000 in
set_option maxHeartbeats 4000000 in
theorem c_rolodexref16_Joined {G : GP} {p_from : Int} {p_sizes : List Int} {p_l : List T_api_Hash} {r : (List (List (BitVec 8)))} (h : rolodexref16_Joined p_from p_sizes p_l = some r) : Ctr Tryd.prog G 65 [i64.slot p_from, (sl i64).slot p_sizes, (sl R_api_Hash).slot p_l] [] (fun (u0 : Value) => ov u0) (fun (u0 : Value) => [own 22 (sl u8) u0 r]) := by
  unfold rolodexref16_Joined at h
  refine ctr_of_run Tryd.func65 rfl 84 rfl rfl fun m0 w0 b0 => ?_
  show Run _ _ _ [(0, i64.slot p_from), (1, (sl i64).slot p_sizes), (2, (sl R_api_Hash).slot p_l)] _
  refine run_seq ?_
  refine run_text ?_
  refine j_assign_nil (T := 22) (sl u8) rfl fun v1 => ?_
  refine j_end ?_
  refine run_seq ?_
  refine run_text ?_
  refine j_assign_nil (T := 22) (sl u8) rfl fun v2 => ?_
  refine j_end ?_
  refine run_seq ?_
  refine run_seq ?_
  refine run_text ?_
  refine j_pure (pj_move (has_tmp rfl)) rfl rfl rfl ?_
  refine j_pure (pj_move (has_tmp rfl)) rfl rfl rfl ?_
  obtain ⟨r1, e1, h⟩ := bind_some h
  refine j_pure (pj_call (hasL_cons (has_tmp rfl) <| hasL_cons (has_tmp rfl) <| hasL_nil) (by kernel_rfl) (c_rolodexref15_First e1)) rfl rfl rfl ?_
  refine j_pure (pj_assign (has_tmp rfl)) rfl rfl rfl ?_
  refine j_end ?_
  obtain ⟨⟨y5, y6, y7, y8⟩, e9, h⟩ := bind_some h
  refine run_loopS (Γi := fun (i : Value) (s : (List Int) × (List T_api_Hash) × Int × (List (List (BitVec 8)))) => [(0, i64.slot p_from), (1, (sl i64).slot s.1), (2, (sl R_api_Hash).slot s.2.1), (7, ov i), (8, i64.slot s.2.2.1)]) (Hi := fun (i : Value) (s : (List Int) × (List T_api_Hash) × Int × (List (List (BitVec 8)))) => [own 22 (sl u8) i s.2.2.2]) e9 v2 (fun a w hst => (hst.sub (.cons (.of_lk rfl) <| .cons (.of_lk rfl) <| .cons (.of_lk rfl) <| .cons (.of_lk rfl) <| .cons (.of_lk rfl) <| .nil)).keep (.cons .here <| .nil)) ?_ ?_
  · clear h e9
    rintro v3 ⟨y1, y2, y3, y4⟩ lr h
    change rolodexref16_Joined_L1 p_from y1 y2 y3 y4 = some _ at h
    show Run _ _ _ [(0, i64.slot p_from), (1, (sl i64).slot y1), (2, (sl R_api_Hash).slot y2), (7, ov v3), (8, i64.slot y3)] [own 22 (sl u8) v3 y4]
    unfold rolodexref16_Joined_L1 at h
    refine run_seq ?_
    refine run_seq ?_
    refine run_text ?_
    refine j_pure (pj_move (has_tmp rfl)) rfl rfl rfl ?_
    refine j_pure (pj_igeq (has_tmp rfl) has_i64) rfl rfl rfl ?_
    refine j_end ?_
    refine run_cond (has_tmp rfl) (fun e2 => ?_) (fun e2 => ?_)
    · replace h := bt e2 h
      refine run_skip ?_
      refine run_seq ?_
      refine run_block ?_
      refine run_seq ?_
      obtain ⟨x1, e3, h⟩ := bind_some h
      obtain ⟨x2, e4, h⟩ := bind_some h
      obtain ⟨r2, e5, h⟩ := bind_some h
      refine run_draw (n := 12) (by kernel_rfl) (by kernel_rfl) (by kernel_rfl) (by kernel_rfl) (.read (.plain rfl (pj_move (has_tmp rfl))) <| .read (.plain rfl (pj_move (has_tmp rfl))) <| .read (.plain rfl (pj_move (has_tmp rfl))) <| .read (.plain rfl (pj_index_slx (has_tmp rfl) (has_tmp rfl) isInt_i64 e3 (by kernel_rfl))) <| .read (.plain rfl (pj_load_to (has_tmp rfl) (by kernel_rfl))) <| .read (.plain rfl (pj_move (has_tmp rfl))) <| .read (.plain rfl (pj_move (has_tmp rfl))) <| .read (.plain rfl (pj_iadd (has_tmp rfl) has_i64)) <| .read (.plain rfl (pj_index_slx (has_tmp rfl) (has_tmp rfl) isInt_i64 e4 (by kernel_rfl))) <| .read (.plain rfl (pj_load_to (has_tmp rfl) (by kernel_rfl))) <| .read (.plain rfl (pj_call (hasL_cons (has_tmp rfl) <| hasL_cons (has_tmp rfl) <| hasL_nil) (by kernel_rfl) (Ctr.froze (c_rolodexref15_Text e5)))) <| .read (.plain rfl (pj_buildSlice (T := 22) (R := (sl u8)) (.cons (has_tmp rfl) .nil) rfl (by kernel_rfl) (by kernel_rfl))) <| .nil) (j_to (Γ' := [(0, i64.slot p_from), (1, (sl i64).slot y1), (2, (sl R_api_Hash).slot y2), (8, i64.slot y3), (21, ov v3), (32, (sl (sl u8)).slot ([r2]))]) (H' := [own 22 (sl u8) v3 y4]) (.cons (.of_lk rfl) <| .cons (.of_lk rfl) <| .cons (.of_lk rfl) <| .cons (.of_lk rfl) <| .cons (.of_lk rfl) <| .cons (.of_lk rfl) <| .nil) (.cons .here <| .nil) ?_)
      obtain ⟨e6, h⟩ := grd_some h
      refine j_append (T := 22) (E := 22) (has_tmp rfl) .here (src_data (has_tmp rfl)) (by kernel_rfl) (by kernel_rfl) e6 rfl fun v4 => ?_
      refine j_pure (pj_assign (has_tmp rfl)) rfl rfl rfl ?_
      refine j_end ?_
      refine run_seq ?_
      refine run_text ?_
      refine j_pure (pj_move (has_tmp rfl)) rfl rfl rfl ?_
      refine j_pure (pj_move (has_tmp rfl)) rfl rfl rfl ?_
      refine j_pure (pj_move (has_tmp rfl)) rfl rfl rfl ?_
      obtain ⟨r3, e7, h⟩ := bind_some h
      refine j_call (hasL_cons (has_tmp rfl) <| hasL_cons (has_tmp rfl) <| hasL_cons (has_tmp rfl) <| hasL_nil) (by kernel_rfl) (c_rolodexref15_Made e7) .nil rfl fun ⟨v5, v6⟩ => ?_
      refine j_pure (pj_move (has_tmp rfl)) rfl rfl rfl ?_
      refine j_pure (pj_extract (has_tmp rfl) rfl) rfl rfl rfl ?_
      refine j_pure (pj_extract (has_tmp rfl) rfl) rfl rfl rfl ?_
      refine j_pure (pj_assign (has_tmp rfl)) rfl rfl rfl ?_
      refine j_pure (pj_assign (has_tmp rfl)) rfl rfl rfl ?_
      refine j_end ?_
      refine run_seq ?_
      refine run_text ?_
      refine j_pure (pj_move (has_tmp rfl)) rfl rfl rfl ?_
      refine j_pure (pj_assign (has_tmp rfl)) rfl rfl rfl ?_
      refine j_end ?_
      refine run_text ?_
      refine j_pure (pj_move (has_tmp rfl)) rfl rfl rfl ?_
      refine j_pure (pj_assign (has_tmp rfl)) rfl rfl rfl ?_
      refine j_end ?_
      refine run_endblock ?_
      refine run_text ?_
      refine j_pure (pj_move (has_tmp rfl)) rfl rfl rfl ?_
      refine j_pure (pj_move (has_tmp rfl)) rfl rfl rfl ?_
      obtain ⟨r4, e8, h⟩ := bind_some h
      refine j_pure (pj_callB (hasBL_cons (hasB_of (has_tmp rfl)) <| hasBL_cons (hasB_own (has_tmp rfl) .here) <| hasBL_nil) (by kernel_rfl) (c_rolodexref15_First e8) (Rep.flat_slot flat_i64 _)) rfl rfl rfl ?_
      refine j_pure (pj_assign (has_tmp rfl)) rfl rfl rfl ?_
      refine j_end ?_
      refine run_freeze [1, 9, 19, 39, 41] .here (frz_cons (.of_lk rfl) <| frz_cons (.of_lk rfl) <| frz_cons (.of_lk rfl) <| frz_cons (.of_lk rfl) <| frz_cons (.of_lk rfl) <| frz_nil) ?_
      refine run_freeze [2, 10, 40, 42] .here (frz_cons (.of_lk rfl) <| frz_cons (.of_lk rfl) <| frz_cons (.of_lk rfl) <| frz_cons (.of_lk rfl) <| frz_nil) ?_
      obtain rfl := Option.some.inj h
      exact run_next v4 (.cons (.of_lk rfl) <| .cons (.of_lk rfl) <| .cons (.of_lk rfl) <| .cons (.of_lk rfl) <| .cons (.of_lk rfl) <| .nil) (.cons .here <| .nil)
    · replace h := bf e2 h
      obtain rfl := Option.some.inj h
      exact run_brk v3 (.cons (.of_lk rfl) <| .cons (.of_lk rfl) <| .cons (.of_lk rfl) <| .cons (.of_lk rfl) <| .cons (.of_lk rfl) <| .nil) (.cons .here <| .nil)
  · rintro v7
    show Run _ _ _ [(0, i64.slot p_from), (1, (sl i64).slot y5), (2, (sl R_api_Hash).slot y6), (7, ov v7), (8, i64.slot y7)] [own 22 (sl u8) v7 y8]
    refine run_to (Γ' := [(2, (sl R_api_Hash).slot y6), (7, ov v7)]) (H' := [own 22 (sl u8) v7 y8]) (.cons (.of_lk rfl) <| .cons (.of_lk rfl) <| .nil) (.cons .here <| .nil) ?_
    refine run_seq ?_
    obtain ⟨⟨y11, y12⟩, e21, h⟩ := bind_some h
    refine run_loopS (Γi := fun (i : Value) (s : (List T_api_Hash) × (List (List (BitVec 8)))) => [(2, (sl R_api_Hash).slot s.1), (7, ov i)]) (Hi := fun (i : Value) (s : (List T_api_Hash) × (List (List (BitVec 8)))) => [own 22 (sl u8) i s.2]) e21 v7 (fun a w hst => (hst.sub (.cons (.of_lk rfl) <| .cons (.of_lk rfl) <| .nil)).keep (.cons .here <| .nil)) ?_ ?_
    · clear h e21
      rintro v8 ⟨y9, y10⟩ lr h
      change rolodexref16_Joined_L2 y9 y10 = some _ at h
      show Run _ _ _ [(2, (sl R_api_Hash).slot y9), (7, ov v8)] [own 22 (sl u8) v8 y10]
      unfold rolodexref16_Joined_L2 at h
      refine run_seq ?_
      refine run_seq ?_
      refine run_text ?_
      refine j_pure (pj_move (has_tmp rfl)) rfl rfl rfl ?_
      refine j_pure (pj_len_sl (sz := 32) (has_tmp rfl) (by kernel_rfl)) rfl rfl rfl ?_
      refine j_pure (pj_igtr (has_tmp rfl) has_i64) rfl rfl rfl ?_
      refine j_end ?_
      refine run_cond (has_tmp rfl) (fun e10 => ?_) (fun e10 => ?_)
      · replace h := bt e10 h
        refine run_skip ?_
        refine run_block ?_
        refine run_seq ?_
        refine run_text ?_
        refine j_pure (pj_move (has_tmp rfl)) rfl rfl rfl ?_
        refine j_pure (pj_len_sl (sz := 32) (has_tmp rfl) (by kernel_rfl)) rfl rfl rfl ?_
        refine j_pure (pj_assign (has_tmp rfl)) rfl rfl rfl ?_
        refine j_end ?_
        refine run_seq ?_
        obtain ⟨x3, e11, h⟩ := bind_some h
        obtain ⟨x4, e12, h⟩ := bind_some h
        obtain ⟨r5, e13, h⟩ := bind_some h
        refine run_draw (n := 13) (by kernel_rfl) (by kernel_rfl) (by kernel_rfl) (by kernel_rfl) (.read (.plain rfl (pj_move (has_tmp rfl))) <| .read (.plain rfl (pj_move (has_tmp rfl))) <| .read (.plain rfl (pj_move (has_tmp rfl))) <| .read (.plain rfl (pj_isub (has_tmp rfl) has_i64)) <| .read (.plain rfl (pj_index_slx (has_tmp rfl) (has_tmp rfl) isInt_i64 e11 (by kernel_rfl))) <| .read (.plain rfl (pj_load_to (has_tmp rfl) (by kernel_rfl))) <| .read (.plain rfl (pj_move (has_tmp rfl))) <| .read (.plain rfl (pj_move (has_tmp rfl))) <| .read (.plain rfl (pj_isub (has_tmp rfl) has_i64)) <| .read (.plain rfl (pj_index_slx (has_tmp rfl) (has_tmp rfl) isInt_i64 e12 (by kernel_rfl))) <| .read (.plain rfl (pj_load_to (has_tmp rfl) (by kernel_rfl))) <| .read (.plain rfl (pj_call (hasL_cons (has_tmp rfl) <| hasL_cons (has_tmp rfl) <| hasL_nil) (by kernel_rfl) (Ctr.froze (c_rolodexref15_Text e13)))) <| .read (.plain rfl (pj_buildSlice (T := 22) (R := (sl u8)) (.cons (has_tmp rfl) .nil) rfl (by kernel_rfl) (by kernel_rfl))) <| .nil) (j_to (Γ' := [(2, (sl R_api_Hash).slot y9), (11, i64.slot (y9.length : Int)), (48, ov v8), (60, (sl (sl u8)).slot ([r5]))]) (H' := [own 22 (sl u8) v8 y10]) (.cons (.of_lk rfl) <| .cons (.of_lk rfl) <| .cons (.of_lk rfl) <| .cons (.of_lk rfl) <| .nil) (.cons .here <| .nil) ?_)
        obtain ⟨e14, h⟩ := grd_some h
        refine j_append (T := 22) (E := 22) (has_tmp rfl) .here (src_data (has_tmp rfl)) (by kernel_rfl) (by kernel_rfl) e14 rfl fun v9 => ?_
        refine j_pure (pj_assign (has_tmp rfl)) rfl rfl rfl ?_
        refine j_end ?_
        refine run_seq ?_
        refine run_text ?_
        refine j_assign_nil (T := 24) R_api_Hash rfl fun v10 => ?_
        refine j_end ?_
        refine run_seq ?_
        refine run_text ?_
        refine j_pure (pj_move (has_tmp rfl)) rfl rfl rfl ?_
        refine j_pure (pj_move (has_tmp rfl)) rfl rfl rfl ?_
        refine j_pure (pj_move (has_tmp rfl)) rfl rfl rfl ?_
        refine j_pure (pj_isub (has_tmp rfl) has_i64) rfl rfl rfl ?_
        obtain ⟨x5, e15, h⟩ := bind_some h
        refine j_pure (pj_slice_slx (has_tmp rfl) .no (.yes (has_tmp rfl) isInt_i64) e15 (by kernel_rfl)) rfl rfl rfl ?_
        obtain ⟨e16, h⟩ := grd_some h
        refine j_append (T := 24) (E := 24) (has_tmp rfl) .here (src_data (has_tmp rfl)) (by kernel_rfl) (by kernel_rfl) e16 rfl fun v11 => ?_
        refine j_pure (pj_assign (has_tmp rfl)) rfl rfl rfl ?_
        refine j_end ?_
        refine run_seq ?_
        obtain ⟨x6, e17, h⟩ := bind_some h
        obtain ⟨x7, e18, h⟩ := bind_some h
        obtain ⟨r6, e19, h⟩ := bind_some h
        refine run_draw (n := 13) (by kernel_rfl) (by kernel_rfl) (by kernel_rfl) (by kernel_rfl) (.read (.plain rfl (pj_move (has_tmp rfl))) <| .read (.plain rfl (pj_move (has_tmp rfl))) <| .read (.plain rfl (pj_move (has_tmp rfl))) <| .read (.plain rfl (pj_isub (has_tmp rfl) has_i64)) <| .read (.plain rfl (pj_index_slx (has_tmp rfl) (has_tmp rfl) isInt_i64 e17 (by kernel_rfl))) <| .read (.plain rfl (pj_load_to (has_tmp rfl) (by kernel_rfl))) <| .read (.plain rfl (pj_move (has_tmp rfl))) <| .read (.plain rfl (pj_move (has_tmp rfl))) <| .read (.plain rfl (pj_isub (has_tmp rfl) has_i64)) <| .read (.plain rfl (pj_index_slx (has_tmp rfl) (has_tmp rfl) isInt_i64 e18 (by kernel_rfl))) <| .read (.plain rfl (pj_load_to (has_tmp rfl) (by kernel_rfl))) <| .read (.plain rfl (pj_call (hasL_cons (has_tmp rfl) <| hasL_cons (has_tmp rfl) <| hasL_nil) (by kernel_rfl) (c_rolodexref15_Node e19))) <| .read (.plain rfl (pj_buildSlice (T := 24) (R := R_api_Hash) (.cons (has_tmp rfl) .nil) rfl (by kernel_rfl) (by kernel_rfl))) <| .nil) (j_to (Γ' := [(7, ov v9), (68, ov v11), (80, (sl R_api_Hash).slot ([r6]))]) (H' := [own 24 R_api_Hash v11 (([] : List T_api_Hash) ++ x5), own 22 (sl u8) v9 (y10 ++ ([r5]))]) (.cons (.of_lk rfl) <| .cons (.of_lk rfl) <| .cons (.of_lk rfl) <| .nil) (.cons .here <| .cons .here <| .nil) ?_)
        obtain ⟨e20, h⟩ := grd_some h
        refine j_append (T := 24) (E := 24) (has_tmp rfl) .here (src_data (has_tmp rfl)) (by kernel_rfl) (by kernel_rfl) e20 rfl fun v12 => ?_
        refine j_pure (pj_assign (has_tmp rfl)) rfl rfl rfl ?_
        refine j_end ?_
        refine run_text ?_
        refine j_pure (pj_move (has_tmp rfl)) rfl rfl rfl ?_
        refine j_pure (pj_assign (has_tmp rfl)) rfl rfl rfl ?_
        refine j_end ?_
        refine run_endblock ?_
        refine run_freeze [2, 12, 81, 82] .here (frz_cons (.of_lk rfl) <| frz_cons (.of_lk rfl) <| frz_cons (.of_lk rfl) <| frz_cons (.of_lk rfl) <| frz_nil) ?_
        obtain rfl := Option.some.inj h
        exact run_next v9 (.cons (.of_lk rfl) <| .cons (.of_lk rfl) <| .nil) (.cons .here <| .nil)
      · replace h := bf e10 h
        obtain rfl := Option.some.inj h
        exact run_brk v8 (.cons (.of_lk rfl) <| .cons (.of_lk rfl) <| .nil) (.cons .here <| .nil)
    · rintro v13
      show Run _ _ _ [(2, (sl R_api_Hash).slot y11), (7, ov v13)] [own 22 (sl u8) v13 y12]
      refine run_to (Γ' := [(7, ov v13)]) (H' := [own 22 (sl u8) v13 y12]) (.cons (.of_lk rfl) <| .nil) (.cons .here <| .nil) ?_
      refine run_seq ?_
      refine run_text ?_
      refine j_pure (pj_move (has_tmp rfl)) rfl rfl rfl ?_
      refine j_pure (pj_assign (has_tmp rfl)) rfl rfl rfl ?_
      refine j_end ?_
      obtain rfl := Option.some.inj h
      exact run_ret fun a w hst => q_ret1 hst rfl (.tmp rfl) v13 (fun _ _ h => h) (.cons .here <| .nil)
set_option maxRecDepth 100000 in
set_option maxHeartbeats 4000000 in
theorem c_rolodexref16_Texts {G : GP} {p_t : T_rolodexref16_Trail} {p_m : Int} {p_n : Int} {p_between : List T_api_Hash} {r : (List (List (BitVec 8)))} (h : rolodexref16_Texts p_t p_m p_n p_between = some r) : Ctr Tryd.prog G 40 [R_rolodexref16_Trail.slot p_t, i64.slot p_m, i64.slot p_n, (sl R_api_Hash).slot p_between] [] (fun (u0 : Value) => ov u0) (fun (u0 : Value) => [own 22 (sl u8) u0 r]) := by
  unfold rolodexref16_Texts at h
  refine ctr_of_run Tryd.func40 rfl 45 rfl rfl fun m0 w0 b0 => ?_
  show Run _ _ _ [(0, R_rolodexref16_Trail.slot p_t), (1, i64.slot p_m), (2, i64.slot p_n), (3, (sl R_api_Hash).slot p_between)] _
  refine run_seq ?_
  refine run_text ?_
  refine j_pure (pj_box_to (has_tmp rfl)) rfl rfl rfl ?_
  refine j_assign_nil (T := 22) (sl u8) rfl fun v1 => ?_
  refine j_end ?_
  refine run_seq ?_
  refine run_text ?_
  refine j_assign_nil (T := 3) i64 rfl fun v2 => ?_
  refine j_end ?_
  refine run_seq ?_
  refine run_text ?_
  refine j_assign_nil (T := 24) R_api_Hash rfl fun v3 => ?_
  refine j_end ?_
  refine run_seq ?_
  refine run_text ?_
  refine j_pure (pj_move (has_tmp rfl)) rfl rfl rfl ?_
  refine j_pure (pj_move (has_tmp rfl)) rfl rfl rfl ?_
  obtain ⟨r1, e1, h⟩ := bind_some h
  refine j_pure (pj_call (hasL_cons has_i64 <| hasL_cons (has_tmp rfl) <| hasL_nil) (by kernel_rfl) (Ctr.froze (c_rolodexref15_Segments e1))) rfl rfl rfl ?_
  obtain ⟨e2, h⟩ := grd_some h
  refine j_append (T := 3) (E := 3) (has_tmp rfl) (.next .here) (src_data (has_tmp rfl)) (by kernel_rfl) (by kernel_rfl) e2 rfl fun v4 => ?_
  refine j_pure (pj_assign (has_tmp rfl)) rfl rfl rfl ?_
  refine j_end ?_
  refine run_seq ?_
  refine run_text ?_
  refine j_pure (pj_move (has_tmp rfl)) rfl rfl rfl ?_
  refine j_pure (pj_move (has_tmp rfl)) rfl rfl rfl ?_
  refine j_pure (pj_move (has_tmp rfl)) rfl rfl rfl ?_
  refine j_pure (pj_move (has_tmp rfl)) rfl rfl rfl ?_
  refine j_pure (pj_len_sl (sz := 32) (has_tmp rfl) (by kernel_rfl)) rfl rfl rfl ?_
  refine j_pure (pj_iadd (has_tmp rfl) (has_tmp rfl)) rfl rfl rfl ?_
  obtain ⟨r2, e3, h⟩ := bind_some h
  refine j_pure (pj_call (hasL_cons (has_tmp rfl) <| hasL_cons (has_tmp rfl) <| hasL_nil) (by kernel_rfl) (Ctr.froze (c_rolodexref15_Segments e3))) rfl rfl rfl ?_
  obtain ⟨e4, h⟩ := grd_some h
  refine j_append (T := 3) (E := 3) (has_tmp rfl) .here (src_data (has_tmp rfl)) (by kernel_rfl) (by kernel_rfl) e4 rfl fun v5 => ?_
  refine j_pure (pj_assign (has_tmp rfl)) rfl rfl rfl ?_
  refine j_end ?_
  refine run_seq ?_
  refine run_text ?_
  refine j_pure (pj_move (has_tmp rfl)) rfl rfl rfl ?_
  refine j_pure (pj_move (has_tmp rfl)) rfl rfl rfl ?_
  refine j_pure (pj_move (has_tmp rfl)) rfl rfl rfl ?_
  refine j_pure (pj_len_sl (sz := 32) (has_tmp rfl) (by kernel_rfl)) rfl rfl rfl ?_
  refine j_pure (pj_iadd (has_tmp rfl) (has_tmp rfl)) rfl rfl rfl ?_
  refine j_pure (pj_move (has_tmp rfl)) rfl rfl rfl ?_
  obtain ⟨r3, e5, h⟩ := bind_some h
  refine j_pure (pj_call (hasL_cons (has_tmp rfl) <| hasL_cons (has_tmp rfl) <| hasL_nil) (by kernel_rfl) (Ctr.froze (c_rolodexref15_Segments e5))) rfl rfl rfl ?_
  obtain ⟨e6, h⟩ := grd_some h
  refine j_append (T := 3) (E := 3) (has_tmp rfl) .here (src_data (has_tmp rfl)) (by kernel_rfl) (by kernel_rfl) e6 rfl fun v6 => ?_
  refine j_pure (pj_assign (has_tmp rfl)) rfl rfl rfl ?_
  refine j_end ?_
  refine run_seq ?_
  refine run_text ?_
  refine j_pure (pj_move (has_tmp rfl)) rfl rfl rfl ?_
  refine j_pure (pj_field_to (has_tmp rfl) (Path.fst (sl R_api_Hash) (sl R_api_Hash)) (by kernel_rfl)) rfl rfl rfl ?_
  refine j_pure (pj_load_to (has_tmp rfl) (by kernel_rfl)) rfl rfl rfl ?_
  obtain ⟨e7, h⟩ := grd_some h
  refine j_append (T := 24) (E := 24) (has_tmp rfl) (.next .here) (src_data (has_tmp rfl)) (by kernel_rfl) (by kernel_rfl) e7 rfl fun v7 => ?_
  refine j_pure (pj_assign (has_tmp rfl)) rfl rfl rfl ?_
  refine j_end ?_
  refine run_seq ?_
  refine run_text ?_
  refine j_pure (pj_move (has_tmp rfl)) rfl rfl rfl ?_
  refine j_pure (pj_move (has_tmp rfl)) rfl rfl rfl ?_
  obtain ⟨e8, h⟩ := grd_some h
  refine j_append (T := 24) (E := 24) (has_tmp rfl) .here (src_data (has_tmp rfl)) (by kernel_rfl) (by kernel_rfl) e8 rfl fun v8 => ?_
  refine j_pure (pj_assign (has_tmp rfl)) rfl rfl rfl ?_
  refine j_end ?_
  refine run_seq ?_
  refine run_text ?_
  refine j_pure (pj_move (has_tmp rfl)) rfl rfl rfl ?_
  refine j_pure (pj_field_to (has_tmp rfl) (Path.snd (sl R_api_Hash) (sl R_api_Hash)) (by kernel_rfl)) rfl rfl rfl ?_
  refine j_pure (pj_load_to (has_tmp rfl) (by kernel_rfl)) rfl rfl rfl ?_
  obtain ⟨e9, h⟩ := grd_some h
  refine j_append (T := 24) (E := 24) (has_tmp rfl) .here (src_data (has_tmp rfl)) (by kernel_rfl) (by kernel_rfl) e9 rfl fun v9 => ?_
  refine j_pure (pj_assign (has_tmp rfl)) rfl rfl rfl ?_
  refine j_end ?_
  refine run_seq ?_
  refine run_text ?_
  refine j_pure (pj_move (has_tmp rfl)) rfl rfl rfl ?_
  refine j_pure (pj_move (has_tmp rfl)) rfl rfl rfl ?_
  refine j_freeze [9, 30, 42] (.next .here) (frz_cons (.of_lk rfl) <| frz_cons (.of_lk rfl) <| frz_cons (.of_lk rfl) <| frz_nil) ?_
  refine j_freeze [10, 41, 43] .here (frz_cons (.of_lk rfl) <| frz_cons (.of_lk rfl) <| frz_cons (.of_lk rfl) <| frz_nil) ?_
  obtain ⟨r6, e12, h⟩ := bind_some h
  refine j_call (hasL_cons has_i64 <| hasL_cons (has_tmp rfl) <| hasL_cons (has_tmp rfl) <| hasL_nil) (by kernel_rfl) (c_rolodexref16_Joined e12) .nil rfl fun v12 => ?_
  refine j_pure (pj_assign (has_tmp rfl)) rfl rfl rfl ?_
  refine j_end ?_
  obtain rfl := Option.some.inj h
  exact run_ret fun a w hst => q_ret1 hst rfl (.tmp rfl) v12 (fun _ _ h => h) (.cons .here <| .nil)
set_option maxRecDepth 100000 in
set_option maxHeartbeats 4000000 in
theorem c_rolodexref16_Tree_B {G : GP} {rc : (List T_api_Hash) → Option (List (List (BitVec 8)))} (hrc : ∀ {p_l : List T_api_Hash} {r : (List (List (BitVec 8)))}, rc p_l = some r → Ctr Tryd.prog G 41 [(sl R_api_Hash).slot p_l] [] (fun (u0 : Value) => ov u0) (fun (u0 : Value) => [own 22 (sl u8) u0 r])) {p_l : List T_api_Hash} {r : (List (List (BitVec 8)))} (h : rolodexref16_Tree_B rc p_l = some r) : Ctr Tryd.prog G 41 [(sl R_api_Hash).slot p_l] [] (fun (u0 : Value) => ov u0) (fun (u0 : Value) => [own 22 (sl u8) u0 r]) := by
  unfold rolodexref16_Tree_B at h
  refine ctr_of_run Tryd.func41 rfl 38 rfl rfl fun m0 w0 b0 => ?_
  show Run _ _ _ [(0, (sl R_api_Hash).slot p_l)] _
  refine run_seq ?_
  refine run_text ?_
  refine j_assign_nil (T := 22) (sl u8) rfl fun v1 => ?_
  refine j_end ?_
  refine run_seq ?_
  refine run_seq ?_
  refine run_text ?_
  refine j_pure (pj_move (has_tmp rfl)) rfl rfl rfl ?_
  refine j_pure (pj_len_sl (sz := 32) (has_tmp rfl) (by kernel_rfl)) rfl rfl rfl ?_
  refine j_pure (pj_ilss (has_tmp rfl) has_i64) rfl rfl rfl ?_
  refine j_end ?_
  refine run_cond (has_tmp rfl) (fun e1 => ?_) (fun e1 => ?_)
  · replace h := bt e1 h
    refine run_seq ?_
    refine run_text ?_
    refine j_assign_nil (T := 22) (sl u8) rfl fun v2 => ?_
    refine j_end ?_
    obtain rfl := Option.some.inj h
    exact run_ret fun a w hst => q_ret1 hst rfl (.tmp rfl) v2 (fun _ _ h => h) (.cons .here <| .nil)
  · replace h := bf e1 h
    refine run_skip ?_
    refine run_seq ?_
    refine run_text ?_
    refine j_pure (pj_assign has_i64) rfl rfl rfl ?_
    refine j_end ?_
    refine run_seq ?_
    obtain ⟨y2, e3, h⟩ := bind_some h
    refine run_loopS (Γi := fun (i : Unit) (s : Int) => [(0, (sl R_api_Hash).slot p_l), (3, i64.slot s)]) (Hi := fun (i : Unit) (s : Int) => []) e3 () (fun a w hst => (hst.sub (.cons (.of_lk rfl) <| .cons (.of_lk rfl) <| .nil)).keep (.nil)) ?_ ?_
    · clear h e3
      rintro _ y1 lr h
      change rolodexref16_Tree_L1 p_l y1 = some _ at h
      show Run _ _ _ [(0, (sl R_api_Hash).slot p_l), (3, i64.slot y1)] []
      unfold rolodexref16_Tree_L1 at h
      refine run_seq ?_
      refine run_seq ?_
      refine run_text ?_
      refine j_pure (pj_move (has_tmp rfl)) rfl rfl rfl ?_
      refine j_pure (pj_move (has_tmp rfl)) rfl rfl rfl ?_
      refine j_pure (pj_len_sl (sz := 32) (has_tmp rfl) (by kernel_rfl)) rfl rfl rfl ?_
      refine j_pure (pj_move (has_tmp rfl)) rfl rfl rfl ?_
      refine j_pure (pj_isub (has_tmp rfl) (has_tmp rfl)) rfl rfl rfl ?_
      refine j_pure (pj_ilss (has_tmp rfl) (has_tmp rfl)) rfl rfl rfl ?_
      refine j_end ?_
      refine run_cond (has_tmp rfl) (fun e2 => ?_) (fun e2 => ?_)
      · replace h := bt e2 h
        refine run_skip ?_
        refine run_block ?_
        refine run_text ?_
        refine j_pure (pj_move (has_tmp rfl)) rfl rfl rfl ?_
        refine j_pure (pj_imul has_i64 (has_tmp rfl)) rfl rfl rfl ?_
        refine j_pure (pj_assign (has_tmp rfl)) rfl rfl rfl ?_
        refine j_end ?_
        refine run_endblock ?_
        obtain rfl := Option.some.inj h
        exact run_next () (.cons (.of_lk rfl) <| .cons (.of_lk rfl) <| .nil) (.nil)
      · replace h := bf e2 h
        obtain rfl := Option.some.inj h
        exact run_brk () (.cons (.of_lk rfl) <| .cons (.of_lk rfl) <| .nil) (.nil)
    · rintro _
      show Run _ _ _ [(0, (sl R_api_Hash).slot p_l), (3, i64.slot y2)] []
      refine run_to (Γ' := [(0, (sl R_api_Hash).slot p_l), (3, i64.slot y2)]) (H' := []) (.cons (.of_lk rfl) <| .cons (.of_lk rfl) <| .nil) (.nil) ?_
      refine run_seq ?_
      refine run_text ?_
      refine j_pure (pj_move (has_tmp rfl)) rfl rfl rfl ?_
      refine j_pure (pj_move (has_tmp rfl)) rfl rfl rfl ?_
      obtain ⟨x1, e4, h⟩ := bind_some h
      refine j_pure (pj_slice_slx (has_tmp rfl) .no (.yes (has_tmp rfl) isInt_i64) e4 (by kernel_rfl)) rfl rfl rfl ?_
      obtain ⟨r1, e5, h⟩ := bind_some h
      refine j_call (hasL_cons (has_tmp rfl) <| hasL_nil) (by kernel_rfl) (hrc e5) .nil rfl fun v3 => ?_
      refine j_pure (pj_assign (has_tmp rfl)) rfl rfl rfl ?_
      refine j_end ?_
      refine run_seq ?_
      refine run_text ?_
      refine j_pure (pj_move (has_tmp rfl)) rfl rfl rfl ?_
      refine j_pure (pj_move (has_tmp rfl)) rfl rfl rfl ?_
      refine j_pure (pj_move (has_tmp rfl)) rfl rfl rfl ?_
      obtain ⟨x2, e6, h⟩ := bind_some h
      refine j_pure (pj_slice_slx (has_tmp rfl) (.yes (has_tmp rfl) isInt_i64) .no e6 (by kernel_rfl)) rfl rfl rfl ?_
      obtain ⟨r2, e7, h⟩ := bind_some h
      refine j_pure (pj_call (hasL_cons (has_tmp rfl) <| hasL_nil) (by kernel_rfl) (Ctr.froze (hrc e7))) rfl rfl rfl ?_
      obtain ⟨e8, h⟩ := grd_some h
      refine j_append (T := 22) (E := 22) (has_tmp rfl) .here (src_data (has_tmp rfl)) (by kernel_rfl) (by kernel_rfl) e8 rfl fun v4 => ?_
      refine j_pure (pj_assign (has_tmp rfl)) rfl rfl rfl ?_
      refine j_end ?_
      refine run_seq ?_
      obtain ⟨x3, e9, h⟩ := bind_some h
      obtain ⟨r3, e10, h⟩ := bind_some h
      obtain ⟨x4, e11, h⟩ := bind_some h
      obtain ⟨r4, e12, h⟩ := bind_some h
      obtain ⟨r5, e13, h⟩ := bind_some h
      refine run_draw (n := 11) (by kernel_rfl) (by kernel_rfl) (by kernel_rfl) (by kernel_rfl) (.read (.plain rfl (pj_move (has_tmp rfl))) <| .read (.plain rfl (pj_move (has_tmp rfl))) <| .read (.plain rfl (pj_move (has_tmp rfl))) <| .read (.plain rfl (pj_slice_slx (has_tmp rfl) .no (.yes (has_tmp rfl) isInt_i64) e9 (by kernel_rfl))) <| .read (.plain rfl (pj_call (hasL_cons (has_tmp rfl) <| hasL_nil) (by kernel_rfl) (c_rolodexref15_List e10))) <| .read (.plain rfl (pj_move (has_tmp rfl))) <| .read (.plain rfl (pj_move (has_tmp rfl))) <| .read (.plain rfl (pj_slice_slx (has_tmp rfl) (.yes (has_tmp rfl) isInt_i64) .no e11 (by kernel_rfl))) <| .read (.plain rfl (pj_call (hasL_cons (has_tmp rfl) <| hasL_nil) (by kernel_rfl) (c_rolodexref15_List e12))) <| .read (.plain rfl (pj_call (hasL_cons (has_tmp rfl) <| hasL_cons (has_tmp rfl) <| hasL_nil) (by kernel_rfl) (Ctr.froze (c_rolodexref15_Text e13)))) <| .read (.plain rfl (pj_buildSlice (T := 22) (R := (sl u8)) (.cons (has_tmp rfl) .nil) rfl (by kernel_rfl) (by kernel_rfl))) <| .nil) (j_to (Γ' := [(26, ov v4), (36, (sl (sl u8)).slot ([r5]))]) (H' := [own 22 (sl u8) v4 (r1 ++ r2)]) (.cons (.of_lk rfl) <| .cons (.of_lk rfl) <| .nil) (.cons .here <| .nil) ?_)
      obtain ⟨e14, h⟩ := grd_some h
      refine j_append (T := 22) (E := 22) (has_tmp rfl) .here (src_data (has_tmp rfl)) (by kernel_rfl) (by kernel_rfl) e14 rfl fun v5 => ?_
      refine j_pure (pj_assign (has_tmp rfl)) rfl rfl rfl ?_
      refine j_end ?_
      obtain rfl := Option.some.inj h
      exact run_ret fun a w hst => q_ret1 hst rfl (.tmp rfl) v5 (fun _ _ h => h) (.cons .here <| .nil)
theorem c_rolodexref16_Tree_F {G : GP} : ∀ (n : Nat) {p_l : List T_api_Hash} {r : (List (List (BitVec 8)))}, rolodexref16_Tree_F n p_l = some r → Ctr Tryd.prog G 41 [(sl R_api_Hash).slot p_l] [] (fun (u0 : Value) => ov u0) (fun (u0 : Value) => [own 22 (sl u8) u0 r]) := by
  intro n
  induction n with
  | zero => intro p_l r h; cases h
  | succ n ih => intro p_l r h; exact c_rolodexref16_Tree_B (fun h => ih h) h
theorem c_rolodexref16_Tree {G : GP} {p_l : List T_api_Hash} {r : (List (List (BitVec 8)))} (h : rolodexref16_Tree p_l = some r) : Ctr Tryd.prog G 41 [(sl R_api_Hash).slot p_l] [] (fun (u0 : Value) => ov u0) (fun (u0 : Value) => [own 22 (sl u8) u0 r]) := c_rolodexref16_Tree_F FU h
set_option maxRecDepth 100000 in
set_option maxHeartbeats 4000000 in
theorem c_trail_IsGrowth {G : GP} (hg0 : HG0 G) (hg1 : HG1 G) (hg2 : HG2 G) (hg3 : HG3 G) {p_t : T_trail_Trail} {p_m : Int} {p_n : Int} {p_old : T_api_Hash} {p_root : T_api_Hash} {r : Bool} (h : trail_IsGrowth p_t p_m p_n p_old p_root = some r) : Ctr Tryd.prog G 43 [R_trail_Trail.slot p_t, i64.slot p_m, i64.slot p_n, R_api_Hash.slot p_old, R_api_Hash.slot p_root] [] (fun (_ : Unit) => bl.slot r) (fun (_ : Unit) => []) := by
  unfold trail_IsGrowth at h
  refine ctr_of_run Tryd.func43 rfl 44 rfl rfl fun m0 w0 b0 => ?_
  show Run _ _ _ [(0, R_trail_Trail.slot p_t), (1, i64.slot p_m), (2, i64.slot p_n), (3, R_api_Hash.slot p_old), (4, R_api_Hash.slot p_root)] _
  refine run_seq ?_
  refine run_text ?_
  refine j_pure (pj_box_to (has_tmp rfl)) rfl rfl rfl ?_
  refine j_pure (pj_box_to (has_tmp rfl)) rfl rfl rfl ?_
  refine j_pure (pj_box_to (has_tmp rfl)) rfl rfl rfl ?_
  refine j_pure (pj_assign has_bl) rfl rfl rfl ?_
  refine j_end ?_
  refine run_seq ?_
  refine run_seq ?_
  refine run_text ?_
  refine j_pure (pj_move (has_tmp rfl)) rfl rfl rfl ?_
  refine j_pure (pj_ilss (has_tmp rfl) has_i64) rfl rfl rfl ?_
  refine j_pure (pj_move (has_tmp rfl)) rfl rfl rfl ?_
  obtain ⟨y1, e2, h⟩ := bind_some h
  refine j_joinx (ι := Unit) (Γ' := fun _ => [(1, i64.slot p_m), (2, i64.slot p_n), (5, ptrTo R_trail_Trail p_t), (8, ptrTo R_api_Hash p_old), (9, ptrTo R_api_Hash p_root), (19, bl.slot y1)]) (H' := fun _ => []) 4 ?_ fun J => ?_
  · intro _
    clear e2
    show OpsJ _ _ _ [(1, i64.slot p_m), (2, i64.slot p_n), (5, ptrTo R_trail_Trail p_t), (8, ptrTo R_api_Hash p_old), (9, ptrTo R_api_Hash p_root), (19, bl.slot y1)] [] _
    refine j_pure (pj_move (has_tmp rfl)) rfl rfl rfl ?_
    obtain ⟨y2, e4, h⟩ := bind_some h
    refine j_joinx (ι := Unit) (Γ' := fun _ => [(1, i64.slot p_m), (2, i64.slot p_n), (5, ptrTo R_trail_Trail p_t), (8, ptrTo R_api_Hash p_old), (9, ptrTo R_api_Hash p_root), (23, bl.slot y2)]) (H' := fun _ => []) 3 ?_ fun J => ?_
    · intro _
      clear e4
      show OpsJ _ _ _ [(1, i64.slot p_m), (2, i64.slot p_n), (5, ptrTo R_trail_Trail p_t), (8, ptrTo R_api_Hash p_old), (9, ptrTo R_api_Hash p_root), (23, bl.slot y2)] [] _
      refine j_end ?_
      refine run_cond (has_tmp rfl) (fun e5 => ?_) (fun e5 => ?_)
      · replace h := bt e5 h
        refine run_seq ?_
        refine run_text ?_
        refine j_pure (pj_assign has_bl) rfl rfl rfl ?_
        refine j_end ?_
        obtain rfl := Option.some.inj h
        exact run_ret fun a w hst => q_ret1 hst rfl (.tmp rfl) () (fun _ _ h => h) (.nil)
      · replace h := bf e5 h
        refine run_skip ?_
        refine run_seq ?_
        refine run_text ?_
        refine j_pure (pj_move (has_tmp rfl)) rfl rfl rfl ?_
        refine j_pure (pj_field_to (has_tmp rfl) (Path.fst (sl R_api_Hash) (sl R_api_Hash)) (by kernel_rfl)) rfl rfl rfl ?_
        refine j_pure (pj_load_to (has_tmp rfl) (by kernel_rfl)) rfl rfl rfl ?_
        obtain ⟨x1, e6, h⟩ := bind_some h
        refine j_pure (PJ.eqv (pj_build (R := R_frontier_Range) (zero_prod zero_i64 (zero_prod zero_i64 zero_sl)) (by kernel_rfl) (by kernel_rfl) rfl (.cons (has_tmp rfl) (Path.then (Path.snd i64 (prod i64 (sl R_api_Hash))) (Path.fst i64 (sl R_api_Hash))) (by kernel_rfl) (.cons (has_tmp rfl) (Path.then (Path.snd i64 (prod i64 (sl R_api_Hash))) (Path.snd i64 (sl R_api_Hash))) (by kernel_rfl) .nil))) (Option.some.inj e6)) rfl rfl rfl ?_
        refine j_alloc (x := (0, 0, ([] : List T_api_Hash))) (R := R_frontier_Range) (zero_prod zero_i64 (zero_prod zero_i64 zero_sl)) (by kernel_rfl) rfl fun b1 => ?_
        refine j_store_boxx (r' := x1) (has_tmp rfl) (has_tmp rfl) .here (Path.all R_frontier_Range) (by kernel_rfl) rfl ?_
        refine j_freezeTo (t := 11) .here (.of_lk rfl) ?_
        refine j_end ?_
        refine run_seq ?_
        refine run_text ?_
        refine j_pure (pj_move (has_tmp rfl)) rfl rfl rfl ?_
        refine j_pure (pj_move (has_tmp rfl)) rfl rfl rfl ?_
        refine j_pure (pj_field_to (has_tmp rfl) (Path.snd (sl R_api_Hash) (sl R_api_Hash)) (by kernel_rfl)) rfl rfl rfl ?_
        refine j_pure (pj_load_to (has_tmp rfl) (by kernel_rfl)) rfl rfl rfl ?_
        obtain ⟨x2, e7, h⟩ := bind_some h
        refine j_pure (PJ.eqv (pj_build (R := R_frontier_Range) (zero_prod zero_i64 (zero_prod zero_i64 zero_sl)) (by kernel_rfl) (by kernel_rfl) rfl (.cons (has_tmp rfl) (Path.fst i64 (prod i64 (sl R_api_Hash))) (by kernel_rfl) (.cons (has_tmp rfl) (Path.then (Path.snd i64 (prod i64 (sl R_api_Hash))) (Path.fst i64 (sl R_api_Hash))) (by kernel_rfl) (.cons (has_tmp rfl) (Path.then (Path.snd i64 (prod i64 (sl R_api_Hash))) (Path.snd i64 (sl R_api_Hash))) (by kernel_rfl) .nil)))) (Option.some.inj e7)) rfl rfl rfl ?_
        refine j_alloc (x := (0, 0, ([] : List T_api_Hash))) (R := R_frontier_Range) (zero_prod zero_i64 (zero_prod zero_i64 zero_sl)) (by kernel_rfl) rfl fun b2 => ?_
        refine j_store_boxx (r' := x2) (has_tmp rfl) (has_tmp rfl) .here (Path.all R_frontier_Range) (by kernel_rfl) rfl ?_
        refine j_freezeTo (t := 12) .here (.of_lk rfl) ?_
        refine j_end ?_
        refine run_seq ?_
        refine run_text ?_
        refine j_pure (pj_load_to (has_tmp rfl) (by kernel_rfl)) rfl rfl rfl ?_
        refine j_pure (pj_load_to (has_tmp rfl) (by kernel_rfl)) rfl rfl rfl ?_
        refine j_pure (pj_buildSlice (T := 35) (R := R_frontier_Range) (.cons (has_tmp rfl) .nil) rfl (by kernel_rfl) (by kernel_rfl)) rfl rfl rfl ?_
        obtain ⟨r1, e8, h⟩ := bind_some h
        refine j_pure (pj_call (hasL_cons (has_tmp rfl) <| hasL_cons (has_tmp rfl) <| hasL_nil) (by kernel_rfl) (c_trail_rooted hg0 hg1 hg2 hg3 e8)) rfl rfl rfl ?_
        refine j_pure (pj_move (has_tmp rfl)) rfl rfl rfl ?_
        obtain ⟨y3, e10, h⟩ := bind_some h
        refine j_joinx (ι := Unit) (Γ' := fun _ => [(43, bl.slot y3)]) (H' := fun _ => []) 6 ?_ fun J => ?_
        · intro _
          clear e10
          show OpsJ _ _ _ [(43, bl.slot y3)] [] _
          refine j_pure (pj_assign (has_tmp rfl)) rfl rfl rfl ?_
          refine j_end ?_
          obtain rfl := Option.some.inj h
          exact run_ret fun a w hst => q_ret1 hst rfl (.tmp rfl) () (fun _ _ h => h) (.nil)
        · rcases bool_tf (r1) with e9 | e9
          · replace e10 := bt e9 e10
            refine j_pure_y (pj_load_to (has_tmp rfl) (by kernel_rfl)) rfl rfl rfl rfl (bl_isx e9) rfl rfl ?_
            refine j_pure_y (pj_load_to (has_tmp rfl) (by kernel_rfl)) rfl rfl rfl rfl (bl_isx e9) rfl rfl ?_
            refine j_pure_y (pj_load_to (has_tmp rfl) (by kernel_rfl)) rfl rfl rfl rfl (bl_isx e9) rfl rfl ?_
            refine j_pure_y (pj_buildSlice (T := 35) (R := R_frontier_Range) (.cons (has_tmp rfl) (.cons (has_tmp rfl) .nil)) rfl (by kernel_rfl) (by kernel_rfl)) rfl rfl rfl rfl (bl_isx e9) rfl rfl ?_
            obtain ⟨r2, e11, e10⟩ := bind_some e10
            refine j_pure_y (pj_call (hasL_cons (has_tmp rfl) <| hasL_cons (has_tmp rfl) <| hasL_nil) (by kernel_rfl) (c_trail_rooted hg0 hg1 hg2 hg3 e11)) rfl rfl rfl rfl (bl_isx e9) rfl rfl ?_
            refine j_pure (PJ.eqv (R := bl) (pj_pick (t := any) (has_tmp rfl) (fun _ => (has_tmp rfl)) (fun he => absurd (e9.symm.trans he) (by decide))) (Option.some.inj e10)) rfl rfl rfl ?_
            exact j_to (.cons (.of_lk rfl) <| .nil) (.nil) (J ())
          · replace e10 := bf e9 e10
            refine j_guard_no2 (j := 4) (want := true) rfl rfl rfl rfl (bl_isx e9) rfl rfl rfl ?_
            refine j_guard_no2 (j := 4) (want := true) rfl rfl rfl rfl (bl_isx e9) rfl rfl rfl ?_
            refine j_guard_no2 (j := 4) (want := true) rfl rfl rfl rfl (bl_isx e9) rfl rfl rfl ?_
            refine j_guard_no2 (j := 4) (want := true) rfl rfl rfl rfl (bl_isx e9) rfl rfl rfl ?_
            refine j_guard_no2 (j := 4) (want := true) rfl rfl rfl rfl (bl_isx e9) rfl rfl rfl ?_
            refine j_pure (PJ.eqv (R := bl) (pj_pick (t := any) (has_tmp rfl) (fun he => absurd (e9.symm.trans he) (by decide)) (fun _ => has_bl)) (Option.some.inj e10)) rfl rfl rfl ?_
            exact j_to (.cons (.of_lk rfl) <| .nil) (.nil) (J ())
    · rcases bool_tf (y1) with e3 | e3
      · replace e4 := bt e3 e4
        refine j_guard_no2 (j := 7) (want := false) rfl rfl rfl rfl (bl_isx e3) rfl rfl rfl ?_
        refine j_guard_no2 (j := 7) (want := false) rfl rfl rfl rfl (bl_isx e3) rfl rfl rfl ?_
        refine j_pure (PJ.eqv (R := bl) (pj_pick (t := any) (has_tmp rfl) (fun _ => has_bl) (fun he => absurd (e3.symm.trans he) (by decide))) (Option.some.inj e4)) rfl rfl rfl ?_
        exact j_to (.cons (.of_lk rfl) <| .cons (.of_lk rfl) <| .cons (.of_lk rfl) <| .cons (.of_lk rfl) <| .cons (.of_lk rfl) <| .cons (.of_lk rfl) <| .nil) (.nil) (J ())
      · replace e4 := bf e3 e4
        refine j_pure_y (pj_move (has_tmp rfl)) rfl rfl rfl rfl (bl_isx e3) rfl rfl ?_
        refine j_pure_y (pj_igtr (has_tmp rfl) has_i64) rfl rfl rfl rfl (bl_isx e3) rfl rfl ?_
        refine j_pure (PJ.eqv (R := bl) (pj_pick (t := any) (has_tmp rfl) (fun he => absurd (e3.symm.trans he) (by decide)) (fun _ => (has_tmp rfl))) (Option.some.inj e4)) rfl rfl rfl ?_
        exact j_to (.cons (.of_lk rfl) <| .cons (.of_lk rfl) <| .cons (.of_lk rfl) <| .cons (.of_lk rfl) <| .cons (.of_lk rfl) <| .cons (.of_lk rfl) <| .nil) (.nil) (J ())
  · rcases bool_tf (decide (p_m < (0 : Int))) with e1 | e1
    · replace e2 := bt e1 e2
      refine j_guard_no2 (j := 2) (want := false) rfl rfl rfl rfl (bl_isx e1) rfl rfl rfl ?_
      refine j_guard_no2 (j := 2) (want := false) rfl rfl rfl rfl (bl_isx e1) rfl rfl rfl ?_
      refine j_guard_no2 (j := 2) (want := false) rfl rfl rfl rfl (bl_isx e1) rfl rfl rfl ?_
      refine j_pure (PJ.eqv (R := bl) (pj_pick (t := any) (has_tmp rfl) (fun _ => has_bl) (fun he => absurd (e1.symm.trans he) (by decide))) (Option.some.inj e2)) rfl rfl rfl ?_
      exact j_to (.cons (.of_lk rfl) <| .cons (.of_lk rfl) <| .cons (.of_lk rfl) <| .cons (.of_lk rfl) <| .cons (.of_lk rfl) <| .cons (.of_lk rfl) <| .nil) (.nil) (J ())
    · replace e2 := bf e1 e2
      refine j_pure_y (pj_move (has_tmp rfl)) rfl rfl rfl rfl (bl_isx e1) rfl rfl ?_
      refine j_pure_y (pj_move (has_tmp rfl)) rfl rfl rfl rfl (bl_isx e1) rfl rfl ?_
      refine j_pure_y (pj_igtr (has_tmp rfl) (has_tmp rfl)) rfl rfl rfl rfl (bl_isx e1) rfl rfl ?_
      refine j_pure (PJ.eqv (R := bl) (pj_pick (t := any) (has_tmp rfl) (fun he => absurd (e1.symm.trans he) (by decide)) (fun _ => (has_tmp rfl))) (Option.some.inj e2)) rfl rfl rfl ?_
      exact j_to (.cons (.of_lk rfl) <| .cons (.of_lk rfl) <| .cons (.of_lk rfl) <| .cons (.of_lk rfl) <| .cons (.of_lk rfl) <| .cons (.of_lk rfl) <| .nil) (.nil) (J ())
set_option maxRecDepth 100000 in
set_option maxHeartbeats 4000000 in
theorem c_rolodexlaw16_TrailGrowths {G : GP} (hg0 : HG0 G) (hg1 : HG1 G) (hg2 : HG2 G) (hg3 : HG3 G) {p_l : List T_api_Hash} {p_t : T_rolodexref16_Trail} {p_s : T_rolodexlaw16_Said} {r : Bool} (h : rolodexlaw16_TrailGrowths p_l p_t p_s = some r) : Ctr Tryd.prog G 11 [(sl R_api_Hash).slot p_l, R_rolodexref16_Trail.slot p_t, R_rolodexlaw16_Said.slot p_s] [] (fun (_ : Unit) => bl.slot r) (fun (_ : Unit) => []) := by
  unfold rolodexlaw16_TrailGrowths at h
  refine ctr_of_run Tryd.func11 rfl 60 rfl rfl fun m0 w0 b0 => ?_
  show Run _ _ _ [(0, (sl R_api_Hash).slot p_l), (1, R_rolodexref16_Trail.slot p_t), (2, R_rolodexlaw16_Said.slot p_s)] _
  refine run_seq ?_
  refine run_text ?_
  refine j_pure (pj_box_to (has_tmp rfl)) rfl rfl rfl ?_
  refine j_pure (pj_box_to (has_tmp rfl)) rfl rfl rfl ?_
  refine j_pure (pj_assign has_bl) rfl rfl rfl ?_
  refine j_end ?_
  refine run_seq ?_
  refine run_seq ?_
  obtain ⟨r1, e1, h⟩ := bind_some h
  obtain ⟨y1, e3, h⟩ := bind_some h
  obtain ⟨y2, e5, h⟩ := bind_some h
  obtain ⟨y3, e8, h⟩ := bind_some h
  refine (run_drawJ (n := 25) (Γ' := [(0, (sl R_api_Hash).slot p_l), (4, ptrTo R_rolodexref16_Trail p_t), (5, ptrTo R_rolodexlaw16_Said p_s), (31, bl.slot y3)]) (H' := []) ?_ fun J => ?_)
  · clear e3 e5 e8
    refine j_end ?_
    refine run_cond (has_tmp rfl) (fun e11 => ?_) (fun e11 => ?_)
    · replace h := bt e11 h
      refine run_seq ?_
      refine run_text ?_
      obtain ⟨r5, e12, h⟩ := bind_some h
      refine j_pure (pj_call (hasL_nil) (by kernel_rfl) (c_rolodexlaw16_awake hg0 hg1 hg2 hg3 e12)) rfl rfl rfl ?_
      refine j_pure (pj_assign (has_tmp rfl)) rfl rfl rfl ?_
      refine j_end ?_
      obtain rfl := Option.some.inj h
      exact run_ret fun a w hst => q_ret1 hst rfl (.tmp rfl) () (fun _ _ h => h) (.nil)
    · replace h := bf e11 h
      refine run_skip ?_
      refine run_seq ?_
      refine run_seq ?_
      refine run_text ?_
      refine j_pure (pj_field_to (has_tmp rfl) (Path.fst i64 (prod i64 (prod R_api_Hash R_api_Hash))) (by kernel_rfl)) rfl rfl rfl ?_
      refine j_pure (pj_load_to (has_tmp rfl) (by kernel_rfl)) rfl rfl rfl ?_
      refine j_pure (pj_ilss (has_tmp rfl) has_i64) rfl rfl rfl ?_
      refine j_pure (pj_move (has_tmp rfl)) rfl rfl rfl ?_
      obtain ⟨y4, e14, h⟩ := bind_some h
      refine j_joinx (ι := Unit) (Γ' := fun _ => [(0, (sl R_api_Hash).slot p_l), (4, ptrTo R_rolodexref16_Trail p_t), (5, ptrTo R_rolodexlaw16_Said p_s), (42, bl.slot y4)]) (H' := fun _ => []) 6 ?_ fun J => ?_
      · intro _
        clear e14
        show OpsJ _ _ _ [(0, (sl R_api_Hash).slot p_l), (4, ptrTo R_rolodexref16_Trail p_t), (5, ptrTo R_rolodexlaw16_Said p_s), (42, bl.slot y4)] [] _
        refine j_end ?_
        refine run_cond (has_tmp rfl) (fun e15 => ?_) (fun e15 => ?_)
        · replace h := bt e15 h
          refine run_seq ?_
          refine run_text ?_
          refine j_pure (pj_assign has_bl) rfl rfl rfl ?_
          refine j_end ?_
          obtain rfl := Option.some.inj h
          exact run_ret fun a w hst => q_ret1 hst rfl (.tmp rfl) () (fun _ _ h => h) (.nil)
        · replace h := bf e15 h
          refine run_skip ?_
          refine run_seq ?_
          refine run_seq ?_
          obtain ⟨x1, e16, h⟩ := bind_some h
          obtain ⟨r6, e17, h⟩ := bind_some h
          refine run_draw (n := 7) (by kernel_rfl) (by kernel_rfl) (by kernel_rfl) (by kernel_rfl) (.read (.plain rfl (pj_move (has_tmp rfl))) <| .read (.plain rfl (pj_field_to (has_tmp rfl) (Path.fst i64 (prod i64 (prod R_api_Hash R_api_Hash))) (by kernel_rfl))) <| .read (.plain rfl (pj_load_to (has_tmp rfl) (by kernel_rfl))) <| .read (.plain rfl (pj_slice_slx (has_tmp rfl) .no (.yes (has_tmp rfl) isInt_i64) e16 (by kernel_rfl))) <| .read (.plain rfl (pj_call (hasL_cons (has_tmp rfl) <| hasL_nil) (by kernel_rfl) (c_rolodexref15_List e17))) <| .read (.plain rfl (pj_field_to (has_tmp rfl) (Path.then (Path.snd i64 (prod i64 (prod R_api_Hash R_api_Hash))) (Path.then (Path.snd i64 (prod R_api_Hash R_api_Hash)) (Path.fst R_api_Hash R_api_Hash))) (by kernel_rfl))) <| .read (.plain rfl (pj_load_to (has_tmp rfl) (by kernel_rfl))) <| .nil) (j_to (Γ' := [(0, (sl R_api_Hash).slot p_l), (4, ptrTo R_rolodexref16_Trail p_t), (5, ptrTo R_rolodexlaw16_Said p_s), (47, R_api_Hash.slot r6), (49, R_api_Hash.slot p_s.2.2.1)]) (H' := []) (.cons (.of_lk rfl) <| .cons (.of_lk rfl) <| .cons (.of_lk rfl) <| .cons (.of_lk rfl) <| .cons (.of_lk rfl) <| .nil) (.nil) ?_)
          refine j_pure (pj_eql (n := 2) (eq_vec (e := 5) (by kernel_rfl) (by kernel_rfl) (eq_un (by kernel_rfl))) (by decide) rfl (by kernel_rfl) (has_tmp rfl) (has_tmp rfl)) rfl rfl rfl ?_
          refine j_end ?_
          refine run_cond (has_tmp rfl) (fun e18 => ?_) (fun e18 => ?_)
          · replace h := bt e18 h
            refine run_seq ?_
            refine run_text ?_
            refine j_pure (pj_assign has_bl) rfl rfl rfl ?_
            refine j_end ?_
            obtain rfl := Option.some.inj h
            exact run_ret fun a w hst => q_ret1 hst rfl (.tmp rfl) () (fun _ _ h => h) (.nil)
          · replace h := bf e18 h
            refine run_skip ?_
            refine run_seq ?_
            refine run_text ?_
            refine j_pure (pj_load_to (has_tmp rfl) (by kernel_rfl)) rfl rfl rfl ?_
            refine j_pure (pj_field_to (has_tmp rfl) (Path.fst i64 (prod i64 (prod R_api_Hash R_api_Hash))) (by kernel_rfl)) rfl rfl rfl ?_
            refine j_pure (pj_load_to (has_tmp rfl) (by kernel_rfl)) rfl rfl rfl ?_
            refine j_pure (pj_move (has_tmp rfl)) rfl rfl rfl ?_
            refine j_pure (pj_len_sl (sz := 32) (has_tmp rfl) (by kernel_rfl)) rfl rfl rfl ?_
            obtain ⟨r7, e19, h⟩ := bind_some h
            refine j_pure (pj_call (hasL_cons (has_tmp rfl) <| hasL_cons (has_tmp rfl) <| hasL_cons (has_tmp rfl) <| hasL_cons (has_nil (R := R_api_Hash)) <| hasL_nil) (by kernel_rfl) (Ctr.froze (c_rolodexref16_Texts e19))) rfl rfl rfl ?_
            refine j_pure (pj_move (has_tmp rfl)) rfl rfl rfl ?_
            obtain ⟨r8, e20, h⟩ := bind_some h
            refine j_pure (pj_call (hasL_cons (has_tmp rfl) <| hasL_nil) (by kernel_rfl) (Ctr.froze (c_rolodexref16_Tree e20))) rfl rfl rfl ?_
            obtain ⟨r9, e21, h⟩ := bind_some h
            refine j_pure (pj_call (hasL_cons (has_tmp rfl) <| hasL_cons (has_tmp rfl) <| hasL_nil) (by kernel_rfl) (c_rolodexref12_Clash e21)) rfl rfl rfl ?_
            refine j_pure (pj_assign (has_tmp rfl)) rfl rfl rfl ?_
            refine j_end ?_
            obtain rfl := Option.some.inj h
            exact run_ret fun a w hst => q_ret1 hst rfl (.tmp rfl) () (fun _ _ h => h) (.nil)
      · rcases bool_tf (decide (p_s.1 < (0 : Int))) with e13 | e13
        · replace e14 := bt e13 e14
          refine j_guard_no2 (j := 3) (want := false) rfl rfl rfl rfl (bl_isx e13) rfl rfl rfl ?_
          refine j_guard_no2 (j := 3) (want := false) rfl rfl rfl rfl (bl_isx e13) rfl rfl rfl ?_
          refine j_guard_no2 (j := 3) (want := false) rfl rfl rfl rfl (bl_isx e13) rfl rfl rfl ?_
          refine j_guard_no2 (j := 3) (want := false) rfl rfl rfl rfl (bl_isx e13) rfl rfl rfl ?_
          refine j_guard_no2 (j := 3) (want := false) rfl rfl rfl rfl (bl_isx e13) rfl rfl rfl ?_
          refine j_pure (PJ.eqv (R := bl) (pj_pick (t := any) (has_tmp rfl) (fun _ => has_bl) (fun he => absurd (e13.symm.trans he) (by decide))) (Option.some.inj e14)) rfl rfl rfl ?_
          exact j_to (.cons (.of_lk rfl) <| .cons (.of_lk rfl) <| .cons (.of_lk rfl) <| .cons (.of_lk rfl) <| .nil) (.nil) (J ())
        · replace e14 := bf e13 e14
          refine j_pure_y (pj_field_to (has_tmp rfl) (Path.fst i64 (prod i64 (prod R_api_Hash R_api_Hash))) (by kernel_rfl)) rfl rfl rfl rfl (bl_isx e13) rfl rfl ?_
          refine j_pure_y (pj_load_to (has_tmp rfl) (by kernel_rfl)) rfl rfl rfl rfl (bl_isx e13) rfl rfl ?_
          refine j_pure_y (pj_move (has_tmp rfl)) rfl rfl rfl rfl (bl_isx e13) rfl rfl ?_
          refine j_pure_y (pj_len_sl (sz := 32) (has_tmp rfl) (by kernel_rfl)) rfl rfl rfl rfl (bl_isx e13) rfl rfl ?_
          refine j_pure_y (pj_igtr (has_tmp rfl) (has_tmp rfl)) rfl rfl rfl rfl (bl_isx e13) rfl rfl ?_
          refine j_pure (PJ.eqv (R := bl) (pj_pick (t := any) (has_tmp rfl) (fun he => absurd (e13.symm.trans he) (by decide)) (fun _ => (has_tmp rfl))) (Option.some.inj e14)) rfl rfl rfl ?_
          exact j_to (.cons (.of_lk rfl) <| .cons (.of_lk rfl) <| .cons (.of_lk rfl) <| .cons (.of_lk rfl) <| .nil) (.nil) (J ())
  · rcases bool_tf (!r1) with e2 | e2
    · replace e3 := bt e2 e3
      rcases bool_tf (y1) with e4 | e4
      · replace e5 := bt e4 e5
        rcases bool_tf (y2) with e7 | e7
        · replace e8 := bt e7 e8
          exact run_draw (n := 25) (by kernel_rfl) (by kernel_rfl) (by kernel_rfl) (by kernel_rfl) (.read (.plain rfl (pj_call (hasL_nil) (by kernel_rfl) (c_rolodexlaw16_awake hg0 hg1 hg2 hg3 e1))) <| .read (.plain rfl (pj_not (has_tmp rfl))) <| .read (.plain rfl (pj_move (has_tmp rfl))) <| .read (.no ⟨2, false, _, 9, _, rfl, rfl, rfl, fun _ _ => bl_p.1, gd_no e2⟩) <| .read (.no ⟨2, false, _, 9, _, rfl, rfl, rfl, fun _ _ => bl_p.1, gd_no e2⟩) <| .read (.no ⟨2, false, _, 9, _, rfl, rfl, rfl, fun _ _ => bl_p.1, gd_no e2⟩) <| .read (.plain rfl (PJ.eqv (R := bl) (pj_pick (t := any) (has_tmp rfl) (fun _ => has_bl) (fun he => absurd (e2.symm.trans he) (by decide))) (Option.some.inj e3))) <| .read (.plain rfl (pj_move (has_tmp rfl))) <| .read (.no ⟨7, false, _, 14, _, rfl, rfl, rfl, fun _ _ => bl_p.1, gd_no e4⟩) <| .read (.no ⟨7, false, _, 14, _, rfl, rfl, rfl, fun _ _ => bl_p.1, gd_no e4⟩) <| .read (.no ⟨7, false, _, 14, _, rfl, rfl, rfl, fun _ _ => bl_p.1, gd_no e4⟩) <| .read (.plain rfl (PJ.eqv (R := bl) (pj_pick (t := any) (has_tmp rfl) (fun _ => has_bl) (fun he => absurd (e4.symm.trans he) (by decide))) (Option.some.inj e5))) <| .read (.plain rfl (pj_move (has_tmp rfl))) <| .read (.no ⟨12, false, _, 19, _, rfl, rfl, rfl, fun _ _ => bl_p.1, gd_no e7⟩) <| .read (.no ⟨12, false, _, 19, _, rfl, rfl, rfl, fun _ _ => bl_p.1, gd_no e7⟩) <| .read (.no ⟨12, false, _, 19, _, rfl, rfl, rfl, fun _ _ => bl_p.1, gd_no e7⟩) <| .read (.no ⟨12, false, _, 19, _, rfl, rfl, rfl, fun _ _ => bl_p.1, gd_no e7⟩) <| .read (.no ⟨12, false, _, 19, _, rfl, rfl, rfl, fun _ _ => bl_p.1, gd_no e7⟩) <| .read (.no ⟨12, false, _, 19, _, rfl, rfl, rfl, fun _ _ => bl_p.1, gd_no e7⟩) <| .read (.no ⟨12, false, _, 19, _, rfl, rfl, rfl, fun _ _ => bl_p.1, gd_no e7⟩) <| .read (.no ⟨12, false, _, 19, _, rfl, rfl, rfl, fun _ _ => bl_p.1, gd_no e7⟩) <| .read (.no ⟨12, false, _, 19, _, rfl, rfl, rfl, fun _ _ => bl_p.1, gd_no e7⟩) <| .read (.no ⟨12, false, _, 19, _, rfl, rfl, rfl, fun _ _ => bl_p.1, gd_no e7⟩) <| .read (.no ⟨12, false, _, 19, _, rfl, rfl, rfl, fun _ _ => bl_p.1, gd_no e7⟩) <| .read (.plain rfl (PJ.eqv (R := bl) (pj_pick (t := any) (has_tmp rfl) (fun _ => has_bl) (fun he => absurd (e7.symm.trans he) (by decide))) (Option.some.inj e8))) <| .nil) (j_to (Γ' := [(0, (sl R_api_Hash).slot p_l), (4, ptrTo R_rolodexref16_Trail p_t), (5, ptrTo R_rolodexlaw16_Said p_s), (31, bl.slot y3)]) (H' := []) (.cons (.of_lk rfl) <| .cons (.of_lk rfl) <| .cons (.of_lk rfl) <| .cons (.of_lk rfl) <| .nil) (.nil) J)
        · replace e8 := bf e7 e8
          obtain ⟨r3, e9, e8⟩ := bind_some e8
          obtain ⟨r4, e10, e8⟩ := bind_some e8
          exact run_draw (n := 25) (by kernel_rfl) (by kernel_rfl) (by kernel_rfl) (by kernel_rfl) (.read (.plain rfl (pj_call (hasL_nil) (by kernel_rfl) (c_rolodexlaw16_awake hg0 hg1 hg2 hg3 e1))) <| .read (.plain rfl (pj_not (has_tmp rfl))) <| .read (.plain rfl (pj_move (has_tmp rfl))) <| .read (.no ⟨2, false, _, 9, _, rfl, rfl, rfl, fun _ _ => bl_p.1, gd_no e2⟩) <| .read (.no ⟨2, false, _, 9, _, rfl, rfl, rfl, fun _ _ => bl_p.1, gd_no e2⟩) <| .read (.no ⟨2, false, _, 9, _, rfl, rfl, rfl, fun _ _ => bl_p.1, gd_no e2⟩) <| .read (.plain rfl (PJ.eqv (R := bl) (pj_pick (t := any) (has_tmp rfl) (fun _ => has_bl) (fun he => absurd (e2.symm.trans he) (by decide))) (Option.some.inj e3))) <| .read (.plain rfl (pj_move (has_tmp rfl))) <| .read (.no ⟨7, false, _, 14, _, rfl, rfl, rfl, fun _ _ => bl_p.1, gd_no e4⟩) <| .read (.no ⟨7, false, _, 14, _, rfl, rfl, rfl, fun _ _ => bl_p.1, gd_no e4⟩) <| .read (.no ⟨7, false, _, 14, _, rfl, rfl, rfl, fun _ _ => bl_p.1, gd_no e4⟩) <| .read (.plain rfl (PJ.eqv (R := bl) (pj_pick (t := any) (has_tmp rfl) (fun _ => has_bl) (fun he => absurd (e4.symm.trans he) (by decide))) (Option.some.inj e5))) <| .read (.plain rfl (pj_move (has_tmp rfl))) <| .read (.yes ⟨12, false, _, 19, _, rfl, rfl, rfl, fun _ _ => bl_p.1, gd_yes e7⟩ (pj_load_to (has_tmp rfl) (by kernel_rfl))) <| .read (.yes ⟨12, false, _, 19, _, rfl, rfl, rfl, fun _ _ => bl_p.1, gd_yes e7⟩ (pj_field_to (has_tmp rfl) (Path.fst i64 (prod i64 (prod R_api_Hash R_api_Hash))) (by kernel_rfl))) <| .read (.yes ⟨12, false, _, 19, _, rfl, rfl, rfl, fun _ _ => bl_p.1, gd_yes e7⟩ (pj_load_to (has_tmp rfl) (by kernel_rfl))) <| .read (.yes ⟨12, false, _, 19, _, rfl, rfl, rfl, fun _ _ => bl_p.1, gd_yes e7⟩ (pj_move (has_tmp rfl))) <| .read (.yes ⟨12, false, _, 19, _, rfl, rfl, rfl, fun _ _ => bl_p.1, gd_yes e7⟩ (pj_len_sl (sz := 32) (has_tmp rfl) (by kernel_rfl))) <| .read (.yes ⟨12, false, _, 19, _, rfl, rfl, rfl, fun _ _ => bl_p.1, gd_yes e7⟩ (pj_field_to (has_tmp rfl) (Path.then (Path.snd i64 (prod i64 (prod R_api_Hash R_api_Hash))) (Path.then (Path.snd i64 (prod R_api_Hash R_api_Hash)) (Path.fst R_api_Hash R_api_Hash))) (by kernel_rfl))) <| .read (.yes ⟨12, false, _, 19, _, rfl, rfl, rfl, fun _ _ => bl_p.1, gd_yes e7⟩ (pj_load_to (has_tmp rfl) (by kernel_rfl))) <| .read (.yes ⟨12, false, _, 19, _, rfl, rfl, rfl, fun _ _ => bl_p.1, gd_yes e7⟩ (pj_move (has_tmp rfl))) <| .read (.yes ⟨12, false, _, 19, _, rfl, rfl, rfl, fun _ _ => bl_p.1, gd_yes e7⟩ (pj_call (hasL_cons (has_tmp rfl) <| hasL_nil) (by kernel_rfl) (c_rolodexref15_List e9))) <| .read (.yes ⟨12, false, _, 19, _, rfl, rfl, rfl, fun _ _ => bl_p.1, gd_yes e7⟩ (pj_call (hasL_cons (has_tmp rfl) <| hasL_cons (has_tmp rfl) <| hasL_cons (has_tmp rfl) <| hasL_cons (has_tmp rfl) <| hasL_cons (has_tmp rfl) <| hasL_nil) (by kernel_rfl) (c_trail_IsGrowth hg0 hg1 hg2 hg3 e10))) <| .read (.yes ⟨12, false, _, 19, _, rfl, rfl, rfl, fun _ _ => bl_p.1, gd_yes e7⟩ (pj_not (has_tmp rfl))) <| .read (.plain rfl (PJ.eqv (R := bl) (pj_pick (t := any) (has_tmp rfl) (fun he => absurd (e7.symm.trans he) (by decide)) (fun _ => (has_tmp rfl))) (Option.some.inj e8))) <| .nil) (j_to (Γ' := [(0, (sl R_api_Hash).slot p_l), (4, ptrTo R_rolodexref16_Trail p_t), (5, ptrTo R_rolodexlaw16_Said p_s), (31, bl.slot y3)]) (H' := []) (.cons (.of_lk rfl) <| .cons (.of_lk rfl) <| .cons (.of_lk rfl) <| .cons (.of_lk rfl) <| .nil) (.nil) J)
      · replace e5 := bf e4 e5
        obtain ⟨r2, e6, e5⟩ := bind_some e5
        rcases bool_tf (y2) with e7 | e7
        · replace e8 := bt e7 e8
          exact run_draw (n := 25) (by kernel_rfl) (by kernel_rfl) (by kernel_rfl) (by kernel_rfl) (.read (.plain rfl (pj_call (hasL_nil) (by kernel_rfl) (c_rolodexlaw16_awake hg0 hg1 hg2 hg3 e1))) <| .read (.plain rfl (pj_not (has_tmp rfl))) <| .read (.plain rfl (pj_move (has_tmp rfl))) <| .read (.no ⟨2, false, _, 9, _, rfl, rfl, rfl, fun _ _ => bl_p.1, gd_no e2⟩) <| .read (.no ⟨2, false, _, 9, _, rfl, rfl, rfl, fun _ _ => bl_p.1, gd_no e2⟩) <| .read (.no ⟨2, false, _, 9, _, rfl, rfl, rfl, fun _ _ => bl_p.1, gd_no e2⟩) <| .read (.plain rfl (PJ.eqv (R := bl) (pj_pick (t := any) (has_tmp rfl) (fun _ => has_bl) (fun he => absurd (e2.symm.trans he) (by decide))) (Option.some.inj e3))) <| .read (.plain rfl (pj_move (has_tmp rfl))) <| .read (.yes ⟨7, false, _, 14, _, rfl, rfl, rfl, fun _ _ => bl_p.1, gd_yes e4⟩ (pj_load_to (has_tmp rfl) (by kernel_rfl))) <| .read (.yes ⟨7, false, _, 14, _, rfl, rfl, rfl, fun _ _ => bl_p.1, gd_yes e4⟩ (pj_call (hasL_cons (has_tmp rfl) <| hasL_nil) (by kernel_rfl) (c_rolodexlaw16_few e6))) <| .read (.yes ⟨7, false, _, 14, _, rfl, rfl, rfl, fun _ _ => bl_p.1, gd_yes e4⟩ (pj_not (has_tmp rfl))) <| .read (.plain rfl (PJ.eqv (R := bl) (pj_pick (t := any) (has_tmp rfl) (fun he => absurd (e4.symm.trans he) (by decide)) (fun _ => (has_tmp rfl))) (Option.some.inj e5))) <| .read (.plain rfl (pj_move (has_tmp rfl))) <| .read (.no ⟨12, false, _, 19, _, rfl, rfl, rfl, fun _ _ => bl_p.1, gd_no e7⟩) <| .read (.no ⟨12, false, _, 19, _, rfl, rfl, rfl, fun _ _ => bl_p.1, gd_no e7⟩) <| .read (.no ⟨12, false, _, 19, _, rfl, rfl, rfl, fun _ _ => bl_p.1, gd_no e7⟩) <| .read (.no ⟨12, false, _, 19, _, rfl, rfl, rfl, fun _ _ => bl_p.1, gd_no e7⟩) <| .read (.no ⟨12, false, _, 19, _, rfl, rfl, rfl, fun _ _ => bl_p.1, gd_no e7⟩) <| .read (.no ⟨12, false, _, 19, _, rfl, rfl, rfl, fun _ _ => bl_p.1, gd_no e7⟩) <| .read (.no ⟨12, false, _, 19, _, rfl, rfl, rfl, fun _ _ => bl_p.1, gd_no e7⟩) <| .read (.no ⟨12, false, _, 19, _, rfl, rfl, rfl, fun _ _ => bl_p.1, gd_no e7⟩) <| .read (.no ⟨12, false, _, 19, _, rfl, rfl, rfl, fun _ _ => bl_p.1, gd_no e7⟩) <| .read (.no ⟨12, false, _, 19, _, rfl, rfl, rfl, fun _ _ => bl_p.1, gd_no e7⟩) <| .read (.no ⟨12, false, _, 19, _, rfl, rfl, rfl, fun _ _ => bl_p.1, gd_no e7⟩) <| .read (.plain rfl (PJ.eqv (R := bl) (pj_pick (t := any) (has_tmp rfl) (fun _ => has_bl) (fun he => absurd (e7.symm.trans he) (by decide))) (Option.some.inj e8))) <| .nil) (j_to (Γ' := [(0, (sl R_api_Hash).slot p_l), (4, ptrTo R_rolodexref16_Trail p_t), (5, ptrTo R_rolodexlaw16_Said p_s), (31, bl.slot y3)]) (H' := []) (.cons (.of_lk rfl) <| .cons (.of_lk rfl) <| .cons (.of_lk rfl) <| .cons (.of_lk rfl) <| .nil) (.nil) J)
        · replace e8 := bf e7 e8
          obtain ⟨r3, e9, e8⟩ := bind_some e8
          obtain ⟨r4, e10, e8⟩ := bind_some e8
          exact run_draw (n := 25) (by kernel_rfl) (by kernel_rfl) (by kernel_rfl) (by kernel_rfl) (.read (.plain rfl (pj_call (hasL_nil) (by kernel_rfl) (c_rolodexlaw16_awake hg0 hg1 hg2 hg3 e1))) <| .read (.plain rfl (pj_not (has_tmp rfl))) <| .read (.plain rfl (pj_move (has_tmp rfl))) <| .read (.no ⟨2, false, _, 9, _, rfl, rfl, rfl, fun _ _ => bl_p.1, gd_no e2⟩) <| .read (.no ⟨2, false, _, 9, _, rfl, rfl, rfl, fun _ _ => bl_p.1, gd_no e2⟩) <| .read (.no ⟨2, false, _, 9, _, rfl, rfl, rfl, fun _ _ => bl_p.1, gd_no e2⟩) <| .read (.plain rfl (PJ.eqv (R := bl) (pj_pick (t := any) (has_tmp rfl) (fun _ => has_bl) (fun he => absurd (e2.symm.trans he) (by decide))) (Option.some.inj e3))) <| .read (.plain rfl (pj_move (has_tmp rfl))) <| .read (.yes ⟨7, false, _, 14, _, rfl, rfl, rfl, fun _ _ => bl_p.1, gd_yes e4⟩ (pj_load_to (has_tmp rfl) (by kernel_rfl))) <| .read (.yes ⟨7, false, _, 14, _, rfl, rfl, rfl, fun _ _ => bl_p.1, gd_yes e4⟩ (pj_call (hasL_cons (has_tmp rfl) <| hasL_nil) (by kernel_rfl) (c_rolodexlaw16_few e6))) <| .read (.yes ⟨7, false, _, 14, _, rfl, rfl, rfl, fun _ _ => bl_p.1, gd_yes e4⟩ (pj_not (has_tmp rfl))) <| .read (.plain rfl (PJ.eqv (R := bl) (pj_pick (t := any) (has_tmp rfl) (fun he => absurd (e4.symm.trans he) (by decide)) (fun _ => (has_tmp rfl))) (Option.some.inj e5))) <| .read (.plain rfl (pj_move (has_tmp rfl))) <| .read (.yes ⟨12, false, _, 19, _, rfl, rfl, rfl, fun _ _ => bl_p.1, gd_yes e7⟩ (pj_load_to (has_tmp rfl) (by kernel_rfl))) <| .read (.yes ⟨12, false, _, 19, _, rfl, rfl, rfl, fun _ _ => bl_p.1, gd_yes e7⟩ (pj_field_to (has_tmp rfl) (Path.fst i64 (prod i64 (prod R_api_Hash R_api_Hash))) (by kernel_rfl))) <| .read (.yes ⟨12, false, _, 19, _, rfl, rfl, rfl, fun _ _ => bl_p.1, gd_yes e7⟩ (pj_load_to (has_tmp rfl) (by kernel_rfl))) <| .read (.yes ⟨12, false, _, 19, _, rfl, rfl, rfl, fun _ _ => bl_p.1, gd_yes e7⟩ (pj_move (has_tmp rfl))) <| .read (.yes ⟨12, false, _, 19, _, rfl, rfl, rfl, fun _ _ => bl_p.1, gd_yes e7⟩ (pj_len_sl (sz := 32) (has_tmp rfl) (by kernel_rfl))) <| .read (.yes ⟨12, false, _, 19, _, rfl, rfl, rfl, fun _ _ => bl_p.1, gd_yes e7⟩ (pj_field_to (has_tmp rfl) (Path.then (Path.snd i64 (prod i64 (prod R_api_Hash R_api_Hash))) (Path.then (Path.snd i64 (prod R_api_Hash R_api_Hash)) (Path.fst R_api_Hash R_api_Hash))) (by kernel_rfl))) <| .read (.yes ⟨12, false, _, 19, _, rfl, rfl, rfl, fun _ _ => bl_p.1, gd_yes e7⟩ (pj_load_to (has_tmp rfl) (by kernel_rfl))) <| .read (.yes ⟨12, false, _, 19, _, rfl, rfl, rfl, fun _ _ => bl_p.1, gd_yes e7⟩ (pj_move (has_tmp rfl))) <| .read (.yes ⟨12, false, _, 19, _, rfl, rfl, rfl, fun _ _ => bl_p.1, gd_yes e7⟩ (pj_call (hasL_cons (has_tmp rfl) <| hasL_nil) (by kernel_rfl) (c_rolodexref15_List e9))) <| .read (.yes ⟨12, false, _, 19, _, rfl, rfl, rfl, fun _ _ => bl_p.1, gd_yes e7⟩ (pj_call (hasL_cons (has_tmp rfl) <| hasL_cons (has_tmp rfl) <| hasL_cons (has_tmp rfl) <| hasL_cons (has_tmp rfl) <| hasL_cons (has_tmp rfl) <| hasL_nil) (by kernel_rfl) (c_trail_IsGrowth hg0 hg1 hg2 hg3 e10))) <| .read (.yes ⟨12, false, _, 19, _, rfl, rfl, rfl, fun _ _ => bl_p.1, gd_yes e7⟩ (pj_not (has_tmp rfl))) <| .read (.plain rfl (PJ.eqv (R := bl) (pj_pick (t := any) (has_tmp rfl) (fun he => absurd (e7.symm.trans he) (by decide)) (fun _ => (has_tmp rfl))) (Option.some.inj e8))) <| .nil) (j_to (Γ' := [(0, (sl R_api_Hash).slot p_l), (4, ptrTo R_rolodexref16_Trail p_t), (5, ptrTo R_rolodexlaw16_Said p_s), (31, bl.slot y3)]) (H' := []) (.cons (.of_lk rfl) <| .cons (.of_lk rfl) <| .cons (.of_lk rfl) <| .cons (.of_lk rfl) <| .nil) (.nil) J)
    · replace e3 := bf e2 e3
      rcases bool_tf (y1) with e4 | e4
      · replace e5 := bt e4 e5
        rcases bool_tf (y2) with e7 | e7
        · replace e8 := bt e7 e8
          exact run_draw (n := 25) (by kernel_rfl) (by kernel_rfl) (by kernel_rfl) (by kernel_rfl) (.read (.plain rfl (pj_call (hasL_nil) (by kernel_rfl) (c_rolodexlaw16_awake hg0 hg1 hg2 hg3 e1))) <| .read (.plain rfl (pj_not (has_tmp rfl))) <| .read (.plain rfl (pj_move (has_tmp rfl))) <| .read (.yes ⟨2, false, _, 9, _, rfl, rfl, rfl, fun _ _ => bl_p.1, gd_yes e2⟩ (pj_move (has_tmp rfl))) <| .read (.yes ⟨2, false, _, 9, _, rfl, rfl, rfl, fun _ _ => bl_p.1, gd_yes e2⟩ (pj_len_sl (sz := 32) (has_tmp rfl) (by kernel_rfl))) <| .read (.yes ⟨2, false, _, 9, _, rfl, rfl, rfl, fun _ _ => bl_p.1, gd_yes e2⟩ (pj_igtr (has_tmp rfl) has_i64)) <| .read (.plain rfl (PJ.eqv (R := bl) (pj_pick (t := any) (has_tmp rfl) (fun he => absurd (e2.symm.trans he) (by decide)) (fun _ => (has_tmp rfl))) (Option.some.inj e3))) <| .read (.plain rfl (pj_move (has_tmp rfl))) <| .read (.no ⟨7, false, _, 14, _, rfl, rfl, rfl, fun _ _ => bl_p.1, gd_no e4⟩) <| .read (.no ⟨7, false, _, 14, _, rfl, rfl, rfl, fun _ _ => bl_p.1, gd_no e4⟩) <| .read (.no ⟨7, false, _, 14, _, rfl, rfl, rfl, fun _ _ => bl_p.1, gd_no e4⟩) <| .read (.plain rfl (PJ.eqv (R := bl) (pj_pick (t := any) (has_tmp rfl) (fun _ => has_bl) (fun he => absurd (e4.symm.trans he) (by decide))) (Option.some.inj e5))) <| .read (.plain rfl (pj_move (has_tmp rfl))) <| .read (.no ⟨12, false, _, 19, _, rfl, rfl, rfl, fun _ _ => bl_p.1, gd_no e7⟩) <| .read (.no ⟨12, false, _, 19, _, rfl, rfl, rfl, fun _ _ => bl_p.1, gd_no e7⟩) <| .read (.no ⟨12, false, _, 19, _, rfl, rfl, rfl, fun _ _ => bl_p.1, gd_no e7⟩) <| .read (.no ⟨12, false, _, 19, _, rfl, rfl, rfl, fun _ _ => bl_p.1, gd_no e7⟩) <| .read (.no ⟨12, false, _, 19, _, rfl, rfl, rfl, fun _ _ => bl_p.1, gd_no e7⟩) <| .read (.no ⟨12, false, _, 19, _, rfl, rfl, rfl, fun _ _ => bl_p.1, gd_no e7⟩) <| .read (.no ⟨12, false, _, 19, _, rfl, rfl, rfl, fun _ _ => bl_p.1, gd_no e7⟩) <| .read (.no ⟨12, false, _, 19, _, rfl, rfl, rfl, fun _ _ => bl_p.1, gd_no e7⟩) <| .read (.no ⟨12, false, _, 19, _, rfl, rfl, rfl, fun _ _ => bl_p.1, gd_no e7⟩) <| .read (.no ⟨12, false, _, 19, _, rfl, rfl, rfl, fun _ _ => bl_p.1, gd_no e7⟩) <| .read (.no ⟨12, false, _, 19, _, rfl, rfl, rfl, fun _ _ => bl_p.1, gd_no e7⟩) <| .read (.plain rfl (PJ.eqv (R := bl) (pj_pick (t := any) (has_tmp rfl) (fun _ => has_bl) (fun he => absurd (e7.symm.trans he) (by decide))) (Option.some.inj e8))) <| .nil) (j_to (Γ' := [(0, (sl R_api_Hash).slot p_l), (4, ptrTo R_rolodexref16_Trail p_t), (5, ptrTo R_rolodexlaw16_Said p_s), (31, bl.slot y3)]) (H' := []) (.cons (.of_lk rfl) <| .cons (.of_lk rfl) <| .cons (.of_lk rfl) <| .cons (.of_lk rfl) <| .nil) (.nil) J)
        · replace e8 := bf e7 e8
          obtain ⟨r3, e9, e8⟩ := bind_some e8
          obtain ⟨r4, e10, e8⟩ := bind_some e8
          exact run_draw (n := 25) (by kernel_rfl) (by kernel_rfl) (by kernel_rfl) (by kernel_rfl) (.read (.plain rfl (pj_call (hasL_nil) (by kernel_rfl) (c_rolodexlaw16_awake hg0 hg1 hg2 hg3 e1))) <| .read (.plain rfl (pj_not (has_tmp rfl))) <| .read (.plain rfl (pj_move (has_tmp rfl))) <| .read (.yes ⟨2, false, _, 9, _, rfl, rfl, rfl, fun _ _ => bl_p.1, gd_yes e2⟩ (pj_move (has_tmp rfl))) <| .read (.yes ⟨2, false, _, 9, _, rfl, rfl, rfl, fun _ _ => bl_p.1, gd_yes e2⟩ (pj_len_sl (sz := 32) (has_tmp rfl) (by kernel_rfl))) <| .read (.yes ⟨2, false, _, 9, _, rfl, rfl, rfl, fun _ _ => bl_p.1, gd_yes e2⟩ (pj_igtr (has_tmp rfl) has_i64)) <| .read (.plain rfl (PJ.eqv (R := bl) (pj_pick (t := any) (has_tmp rfl) (fun he => absurd (e2.symm.trans he) (by decide)) (fun _ => (has_tmp rfl))) (Option.some.inj e3))) <| .read (.plain rfl (pj_move (has_tmp rfl))) <| .read (.no ⟨7, false, _, 14, _, rfl, rfl, rfl, fun _ _ => bl_p.1, gd_no e4⟩) <| .read (.no ⟨7, false, _, 14, _, rfl, rfl, rfl, fun _ _ => bl_p.1, gd_no e4⟩) <| .read (.no ⟨7, false, _, 14, _, rfl, rfl, rfl, fun _ _ => bl_p.1, gd_no e4⟩) <| .read (.plain rfl (PJ.eqv (R := bl) (pj_pick (t := any) (has_tmp rfl) (fun _ => has_bl) (fun he => absurd (e4.symm.trans he) (by decide))) (Option.some.inj e5))) <| .read (.plain rfl (pj_move (has_tmp rfl))) <| .read (.yes ⟨12, false, _, 19, _, rfl, rfl, rfl, fun _ _ => bl_p.1, gd_yes e7⟩ (pj_load_to (has_tmp rfl) (by kernel_rfl))) <| .read (.yes ⟨12, false, _, 19, _, rfl, rfl, rfl, fun _ _ => bl_p.1, gd_yes e7⟩ (pj_field_to (has_tmp rfl) (Path.fst i64 (prod i64 (prod R_api_Hash R_api_Hash))) (by kernel_rfl))) <| .read (.yes ⟨12, false, _, 19, _, rfl, rfl, rfl, fun _ _ => bl_p.1, gd_yes e7⟩ (pj_load_to (has_tmp rfl) (by kernel_rfl))) <| .read (.yes ⟨12, false, _, 19, _, rfl, rfl, rfl, fun _ _ => bl_p.1, gd_yes e7⟩ (pj_move (has_tmp rfl))) <| .read (.yes ⟨12, false, _, 19, _, rfl, rfl, rfl, fun _ _ => bl_p.1, gd_yes e7⟩ (pj_len_sl (sz := 32) (has_tmp rfl) (by kernel_rfl))) <| .read (.yes ⟨12, false, _, 19, _, rfl, rfl, rfl, fun _ _ => bl_p.1, gd_yes e7⟩ (pj_field_to (has_tmp rfl) (Path.then (Path.snd i64 (prod i64 (prod R_api_Hash R_api_Hash))) (Path.then (Path.snd i64 (prod R_api_Hash R_api_Hash)) (Path.fst R_api_Hash R_api_Hash))) (by kernel_rfl))) <| .read (.yes ⟨12, false, _, 19, _, rfl, rfl, rfl, fun _ _ => bl_p.1, gd_yes e7⟩ (pj_load_to (has_tmp rfl) (by kernel_rfl))) <| .read (.yes ⟨12, false, _, 19, _, rfl, rfl, rfl, fun _ _ => bl_p.1, gd_yes e7⟩ (pj_move (has_tmp rfl))) <| .read (.yes ⟨12, false, _, 19, _, rfl, rfl, rfl, fun _ _ => bl_p.1, gd_yes e7⟩ (pj_call (hasL_cons (has_tmp rfl) <| hasL_nil) (by kernel_rfl) (c_rolodexref15_List e9))) <| .read (.yes ⟨12, false, _, 19, _, rfl, rfl, rfl, fun _ _ => bl_p.1, gd_yes e7⟩ (pj_call (hasL_cons (has_tmp rfl) <| hasL_cons (has_tmp rfl) <| hasL_cons (has_tmp rfl) <| hasL_cons (has_tmp rfl) <| hasL_cons (has_tmp rfl) <| hasL_nil) (by kernel_rfl) (c_trail_IsGrowth hg0 hg1 hg2 hg3 e10))) <| .read (.yes ⟨12, false, _, 19, _, rfl, rfl, rfl, fun _ _ => bl_p.1, gd_yes e7⟩ (pj_not (has_tmp rfl))) <| .read (.plain rfl (PJ.eqv (R := bl) (pj_pick (t := any) (has_tmp rfl) (fun he => absurd (e7.symm.trans he) (by decide)) (fun _ => (has_tmp rfl))) (Option.some.inj e8))) <| .nil) (j_to (Γ' := [(0, (sl R_api_Hash).slot p_l), (4, ptrTo R_rolodexref16_Trail p_t), (5, ptrTo R_rolodexlaw16_Said p_s), (31, bl.slot y3)]) (H' := []) (.cons (.of_lk rfl) <| .cons (.of_lk rfl) <| .cons (.of_lk rfl) <| .cons (.of_lk rfl) <| .nil) (.nil) J)
      · replace e5 := bf e4 e5
        obtain ⟨r2, e6, e5⟩ := bind_some e5
        rcases bool_tf (y2) with e7 | e7
        · replace e8 := bt e7 e8
          exact run_draw (n := 25) (by kernel_rfl) (by kernel_rfl) (by kernel_rfl) (by kernel_rfl) (.read (.plain rfl (pj_call (hasL_nil) (by kernel_rfl) (c_rolodexlaw16_awake hg0 hg1 hg2 hg3 e1))) <| .read (.plain rfl (pj_not (has_tmp rfl))) <| .read (.plain rfl (pj_move (has_tmp rfl))) <| .read (.yes ⟨2, false, _, 9, _, rfl, rfl, rfl, fun _ _ => bl_p.1, gd_yes e2⟩ (pj_move (has_tmp rfl))) <| .read (.yes ⟨2, false, _, 9, _, rfl, rfl, rfl, fun _ _ => bl_p.1, gd_yes e2⟩ (pj_len_sl (sz := 32) (has_tmp rfl) (by kernel_rfl))) <| .read (.yes ⟨2, false, _, 9, _, rfl, rfl, rfl, fun _ _ => bl_p.1, gd_yes e2⟩ (pj_igtr (has_tmp rfl) has_i64)) <| .read (.plain rfl (PJ.eqv (R := bl) (pj_pick (t := any) (has_tmp rfl) (fun he => absurd (e2.symm.trans he) (by decide)) (fun _ => (has_tmp rfl))) (Option.some.inj e3))) <| .read (.plain rfl (pj_move (has_tmp rfl))) <| .read (.yes ⟨7, false, _, 14, _, rfl, rfl, rfl, fun _ _ => bl_p.1, gd_yes e4⟩ (pj_load_to (has_tmp rfl) (by kernel_rfl))) <| .read (.yes ⟨7, false, _, 14, _, rfl, rfl, rfl, fun _ _ => bl_p.1, gd_yes e4⟩ (pj_call (hasL_cons (has_tmp rfl) <| hasL_nil) (by kernel_rfl) (c_rolodexlaw16_few e6))) <| .read (.yes ⟨7, false, _, 14, _, rfl, rfl, rfl, fun _ _ => bl_p.1, gd_yes e4⟩ (pj_not (has_tmp rfl))) <| .read (.plain rfl (PJ.eqv (R := bl) (pj_pick (t := any) (has_tmp rfl) (fun he => absurd (e4.symm.trans he) (by decide)) (fun _ => (has_tmp rfl))) (Option.some.inj e5))) <| .read (.plain rfl (pj_move (has_tmp rfl))) <| .read (.no ⟨12, false, _, 19, _, rfl, rfl, rfl, fun _ _ => bl_p.1, gd_no e7⟩) <| .read (.no ⟨12, false, _, 19, _, rfl, rfl, rfl, fun _ _ => bl_p.1, gd_no e7⟩) <| .read (.no ⟨12, false, _, 19, _, rfl, rfl, rfl, fun _ _ => bl_p.1, gd_no e7⟩) <| .read (.no ⟨12, false, _, 19, _, rfl, rfl, rfl, fun _ _ => bl_p.1, gd_no e7⟩) <| .read (.no ⟨12, false, _, 19, _, rfl, rfl, rfl, fun _ _ => bl_p.1, gd_no e7⟩) <| .read (.no ⟨12, false, _, 19, _, rfl, rfl, rfl, fun _ _ => bl_p.1, gd_no e7⟩) <| .read (.no ⟨12, false, _, 19, _, rfl, rfl, rfl, fun _ _ => bl_p.1, gd_no e7⟩) <| .read (.no ⟨12, false, _, 19, _, rfl, rfl, rfl, fun _ _ => bl_p.1, gd_no e7⟩) <| .read (.no ⟨12, false, _, 19, _, rfl, rfl, rfl, fun _ _ => bl_p.1, gd_no e7⟩) <| .read (.no ⟨12, false, _, 19, _, rfl, rfl, rfl, fun _ _ => bl_p.1, gd_no e7⟩) <| .read (.no ⟨12, false, _, 19, _, rfl, rfl, rfl, fun _ _ => bl_p.1, gd_no e7⟩) <| .read (.plain rfl (PJ.eqv (R := bl) (pj_pick (t := any) (has_tmp rfl) (fun _ => has_bl) (fun he => absurd (e7.symm.trans he) (by decide))) (Option.some.inj e8))) <| .nil) (j_to (Γ' := [(0, (sl R_api_Hash).slot p_l), (4, ptrTo R_rolodexref16_Trail p_t), (5, ptrTo R_rolodexlaw16_Said p_s), (31, bl.slot y3)]) (H' := []) (.cons (.of_lk rfl) <| .cons (.of_lk rfl) <| .cons (.of_lk rfl) <| .cons (.of_lk rfl) <| .nil) (.nil) J)
        · replace e8 := bf e7 e8
          obtain ⟨r3, e9, e8⟩ := bind_some e8
          obtain ⟨r4, e10, e8⟩ := bind_some e8
          exact run_draw (n := 25) (by kernel_rfl) (by kernel_rfl) (by kernel_rfl) (by kernel_rfl) (.read (.plain rfl (pj_call (hasL_nil) (by kernel_rfl) (c_rolodexlaw16_awake hg0 hg1 hg2 hg3 e1))) <| .read (.plain rfl (pj_not (has_tmp rfl))) <| .read (.plain rfl (pj_move (has_tmp rfl))) <| .read (.yes ⟨2, false, _, 9, _, rfl, rfl, rfl, fun _ _ => bl_p.1, gd_yes e2⟩ (pj_move (has_tmp rfl))) <| .read (.yes ⟨2, false, _, 9, _, rfl, rfl, rfl, fun _ _ => bl_p.1, gd_yes e2⟩ (pj_len_sl (sz := 32) (has_tmp rfl) (by kernel_rfl))) <| .read (.yes ⟨2, false, _, 9, _, rfl, rfl, rfl, fun _ _ => bl_p.1, gd_yes e2⟩ (pj_igtr (has_tmp rfl) has_i64)) <| .read (.plain rfl (PJ.eqv (R := bl) (pj_pick (t := any) (has_tmp rfl) (fun he => absurd (e2.symm.trans he) (by decide)) (fun _ => (has_tmp rfl))) (Option.some.inj e3))) <| .read (.plain rfl (pj_move (has_tmp rfl))) <| .read (.yes ⟨7, false, _, 14, _, rfl, rfl, rfl, fun _ _ => bl_p.1, gd_yes e4⟩ (pj_load_to (has_tmp rfl) (by kernel_rfl))) <| .read (.yes ⟨7, false, _, 14, _, rfl, rfl, rfl, fun _ _ => bl_p.1, gd_yes e4⟩ (pj_call (hasL_cons (has_tmp rfl) <| hasL_nil) (by kernel_rfl) (c_rolodexlaw16_few e6))) <| .read (.yes ⟨7, false, _, 14, _, rfl, rfl, rfl, fun _ _ => bl_p.1, gd_yes e4⟩ (pj_not (has_tmp rfl))) <| .read (.plain rfl (PJ.eqv (R := bl) (pj_pick (t := any) (has_tmp rfl) (fun he => absurd (e4.symm.trans he) (by decide)) (fun _ => (has_tmp rfl))) (Option.some.inj e5))) <| .read (.plain rfl (pj_move (has_tmp rfl))) <| .read (.yes ⟨12, false, _, 19, _, rfl, rfl, rfl, fun _ _ => bl_p.1, gd_yes e7⟩ (pj_load_to (has_tmp rfl) (by kernel_rfl))) <| .read (.yes ⟨12, false, _, 19, _, rfl, rfl, rfl, fun _ _ => bl_p.1, gd_yes e7⟩ (pj_field_to (has_tmp rfl) (Path.fst i64 (prod i64 (prod R_api_Hash R_api_Hash))) (by kernel_rfl))) <| .read (.yes ⟨12, false, _, 19, _, rfl, rfl, rfl, fun _ _ => bl_p.1, gd_yes e7⟩ (pj_load_to (has_tmp rfl) (by kernel_rfl))) <| .read (.yes ⟨12, false, _, 19, _, rfl, rfl, rfl, fun _ _ => bl_p.1, gd_yes e7⟩ (pj_move (has_tmp rfl))) <| .read (.yes ⟨12, false, _, 19, _, rfl, rfl, rfl, fun _ _ => bl_p.1, gd_yes e7⟩ (pj_len_sl (sz := 32) (has_tmp rfl) (by kernel_rfl))) <| .read (.yes ⟨12, false, _, 19, _, rfl, rfl, rfl, fun _ _ => bl_p.1, gd_yes e7⟩ (pj_field_to (has_tmp rfl) (Path.then (Path.snd i64 (prod i64 (prod R_api_Hash R_api_Hash))) (Path.then (Path.snd i64 (prod R_api_Hash R_api_Hash)) (Path.fst R_api_Hash R_api_Hash))) (by kernel_rfl))) <| .read (.yes ⟨12, false, _, 19, _, rfl, rfl, rfl, fun _ _ => bl_p.1, gd_yes e7⟩ (pj_load_to (has_tmp rfl) (by kernel_rfl))) <| .read (.yes ⟨12, false, _, 19, _, rfl, rfl, rfl, fun _ _ => bl_p.1, gd_yes e7⟩ (pj_move (has_tmp rfl))) <| .read (.yes ⟨12, false, _, 19, _, rfl, rfl, rfl, fun _ _ => bl_p.1, gd_yes e7⟩ (pj_call (hasL_cons (has_tmp rfl) <| hasL_nil) (by kernel_rfl) (c_rolodexref15_List e9))) <| .read (.yes ⟨12, false, _, 19, _, rfl, rfl, rfl, fun _ _ => bl_p.1, gd_yes e7⟩ (pj_call (hasL_cons (has_tmp rfl) <| hasL_cons (has_tmp rfl) <| hasL_cons (has_tmp rfl) <| hasL_cons (has_tmp rfl) <| hasL_cons (has_tmp rfl) <| hasL_nil) (by kernel_rfl) (c_trail_IsGrowth hg0 hg1 hg2 hg3 e10))) <| .read (.yes ⟨12, false, _, 19, _, rfl, rfl, rfl, fun _ _ => bl_p.1, gd_yes e7⟩ (pj_not (has_tmp rfl))) <| .read (.plain rfl (PJ.eqv (R := bl) (pj_pick (t := any) (has_tmp rfl) (fun he => absurd (e7.symm.trans he) (by decide)) (fun _ => (has_tmp rfl))) (Option.some.inj e8))) <| .nil) (j_to (Γ' := [(0, (sl R_api_Hash).slot p_l), (4, ptrTo R_rolodexref16_Trail p_t), (5, ptrTo R_rolodexlaw16_Said p_s), (31, bl.slot y3)]) (H' := []) (.cons (.of_lk rfl) <| .cons (.of_lk rfl) <| .cons (.of_lk rfl) <| .cons (.of_lk rfl) <| .nil) (.nil) J)
end Go.Sl.W
