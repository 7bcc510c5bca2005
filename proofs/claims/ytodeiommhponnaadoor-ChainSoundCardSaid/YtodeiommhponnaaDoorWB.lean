import Derived.Test.YtodeiommhponnaaDoorWA
import Derived.Test.YtodeiommhponnaaDoorOp10
import Derived.Test.YtodeiommhponnaaDoorProg
set_option linter.unusedSimpArgs false
set_option linter.unusedVariables false
set_option linter.unusedSectionVars false
namespace Go.Sl.W
open Go.Proofs Go.Sl Go.Sl.M
set_option maxRecDepth 100000 in
set_option maxHeartbeats 4000000 in
theorem c_rolodexref14_Formed {G : GP} {p_label : List (BitVec 8)} {p_l : List T_rolodexref14_Version} {r : Bool} (h : rolodexref14_Formed p_label p_l = some r) : Ctr Tryd.prog G 33 [(sl u8).slot p_label, (sl R_rolodexref14_Version).slot p_l] [] (fun (_ : Unit) => bl.slot r) (fun (_ : Unit) => []) := by
  unfold rolodexref14_Formed at h
  refine ctr_of_run Tryd.func33 rfl 84 rfl rfl fun m0 w0 b0 => ?_
  refine run_ret0 fun Qf hq1 hq2 => ?_
  show Run _ _ _ [(0, (sl u8).slot p_label), (1, (sl R_rolodexref14_Version).slot p_l)] _
  refine run_seq ?_
  refine run_text ?_
  refine j_pure (pj_assign has_bl) rfl rfl rfl ?_
  refine j_end ?_
  refine run_seq ?_
  refine run_seq ?_
  refine run_text ?_
  refine j_pure (pj_move (has_tmp rfl)) rfl rfl rfl ?_
  refine j_pure (pj_len_sl (sz := 1) (has_tmp rfl) (by kernel_rfl)) rfl rfl rfl ?_
  refine j_pure (pj_ieql (has_tmp rfl) has_i64) rfl rfl rfl ?_
  refine j_pure (pj_move (has_tmp rfl)) rfl rfl rfl ?_
  obtain ⟨y1, e2, h⟩ := bind_some h
  refine j_joinx (ι := Unit) (Γ' := fun _ => [(0, (sl u8).slot p_label), (1, (sl R_rolodexref14_Version).slot p_l), (14, bl.slot y1)]) (H' := fun _ => []) 4 ?_ fun J => ?_
  · intro _
    clear e2
    show OpsJ _ _ _ [(0, (sl u8).slot p_label), (1, (sl R_rolodexref14_Version).slot p_l), (14, bl.slot y1)] [] _
    refine j_pure (pj_move (has_tmp rfl)) rfl rfl rfl ?_
    obtain ⟨y2, e4, h⟩ := bind_some h
    refine j_joinx (ι := Unit) (Γ' := fun _ => [(0, (sl u8).slot p_label), (1, (sl R_rolodexref14_Version).slot p_l), (19, bl.slot y2)]) (H' := fun _ => []) 4 ?_ fun J => ?_
    · intro _
      clear e4
      show OpsJ _ _ _ [(0, (sl u8).slot p_label), (1, (sl R_rolodexref14_Version).slot p_l), (19, bl.slot y2)] [] _
      refine j_end ?_
      refine run_cond (has_tmp rfl) (fun e5 => ?_) (fun e5 => ?_)
      · replace h := bt e5 h
        refine run_seq ?_
        refine run_text ?_
        refine j_pure (pj_assign has_bl) rfl rfl rfl ?_
        refine j_end ?_
        obtain rfl := Option.some.inj h
        exact run_ret fun a w hst => q_ret1 hst rfl (.tmp rfl) () (fun _ _ h => h) (.nil)
      · replace h := bf e5 h
        refine run_skip ?_
        refine run_seq ?_
        refine run_seq ?_
        refine run_text ?_
        refine j_pure (pj_assign has_i64) rfl rfl rfl ?_
        refine j_end ?_
        obtain ⟨o, e26, h⟩ := bind_some h
        refine run_loop (Γi := fun (i : Unit) (s : Int) => [(0, (sl u8).slot p_label), (1, (sl R_rolodexref14_Version).slot p_l), (5, i64.slot s)]) (Hi := fun (i : Unit) (s : Int) => []) (R := fun x a w => x = r → Qf a w) e26 () (fun a w hst => (hst.sub (.cons (.of_lk rfl) <| .cons (.of_lk rfl) <| .cons (.of_lk rfl) <| .nil)).keep (.nil)) ?_ ?_ ?_
        · clear h e26
          rintro _ y3 lr h
          change rolodexref14_Formed_L1 p_l p_label y3 = some _ at h
          show Run _ _ _ [(0, (sl u8).slot p_label), (1, (sl R_rolodexref14_Version).slot p_l), (5, i64.slot y3)] []
          unfold rolodexref14_Formed_L1 at h
          refine run_seq ?_
          refine run_seq ?_
          refine run_text ?_
          refine j_pure (pj_move (has_tmp rfl)) rfl rfl rfl ?_
          refine j_pure (pj_move (has_tmp rfl)) rfl rfl rfl ?_
          refine j_pure (pj_len_sl (sz := 67) (has_tmp rfl) (by kernel_rfl)) rfl rfl rfl ?_
          refine j_pure (pj_ilss (has_tmp rfl) (has_tmp rfl)) rfl rfl rfl ?_
          refine j_end ?_
          refine run_cond (has_tmp rfl) (fun e6 => ?_) (fun e6 => ?_)
          · replace h := bt e6 h
            refine run_skip ?_
            refine run_seq ?_
            refine run_block ?_
            refine run_seq ?_
            refine run_text ?_
            refine j_pure (pj_move (has_tmp rfl)) rfl rfl rfl ?_
            refine j_pure (pj_move (has_tmp rfl)) rfl rfl rfl ?_
            obtain ⟨x1, e7, h⟩ := bind_some h
            refine j_pure (pj_index_slx (has_tmp rfl) (has_tmp rfl) isInt_i64 e7 (by kernel_rfl)) rfl rfl rfl ?_
            refine j_pure (pj_load_to (has_tmp rfl) (by kernel_rfl)) rfl rfl rfl ?_
            refine j_alloc (x := (0, 0, (Vector.replicate 32 (0#8)), (Vector.replicate 32 (0#8)), ([] : List (BitVec 8)))) (R := R_rolodexref14_Version) (zero_prod zero_i64 (zero_prod zero_i64 (zero_prod (zero_vec 32 zero_un) (zero_prod (zero_vec 32 zero_un) zero_sl)))) (by kernel_rfl) rfl fun b1 => ?_
            refine j_store_boxx (r' := x1) (has_tmp rfl) (has_tmp rfl) .here (Path.all R_rolodexref14_Version) (by kernel_rfl) rfl ?_
            refine j_freezeTo (t := 6) .here (.of_lk rfl) ?_
            refine j_end ?_
            refine run_seq ?_
            refine run_seq ?_
            refine run_text ?_
            refine j_pure (pj_field_to (has_tmp rfl) (Path.fst i64 (prod i64 (prod R_api_Hash (prod R_api_Hash (sl u8))))) (by kernel_rfl)) rfl rfl rfl ?_
            refine j_pure (pj_load_to (has_tmp rfl) (by kernel_rfl)) rfl rfl rfl ?_
            refine j_pure (pj_move (has_tmp rfl)) rfl rfl rfl ?_
            refine j_pure (pj_iadd (has_tmp rfl) has_i64) rfl rfl rfl ?_
            refine j_pure (pj_ineq (has_tmp rfl) (has_tmp rfl)) rfl rfl rfl ?_
            refine j_pure (pj_move (has_tmp rfl)) rfl rfl rfl ?_
            obtain ⟨y4, e9, h⟩ := bind_some h
            refine j_joinx (ι := Unit) (Γ' := fun _ => [(0, (sl u8).slot p_label), (1, (sl R_rolodexref14_Version).slot p_l), (5, i64.slot y3), (6, ptrTo R_rolodexref14_Version x1), (39, bl.slot y4)]) (H' := fun _ => []) 4 ?_ fun J => ?_
            · intro _
              clear e9
              show OpsJ _ _ _ [(0, (sl u8).slot p_label), (1, (sl R_rolodexref14_Version).slot p_l), (5, i64.slot y3), (6, ptrTo R_rolodexref14_Version x1), (39, bl.slot y4)] [] _
              refine j_pure (pj_move (has_tmp rfl)) rfl rfl rfl ?_
              obtain ⟨y5, e11, h⟩ := bind_some h
              refine j_joinx (ι := Unit) (Γ' := fun _ => [(0, (sl u8).slot p_label), (1, (sl R_rolodexref14_Version).slot p_l), (5, i64.slot y3), (6, ptrTo R_rolodexref14_Version x1), (44, bl.slot y5)]) (H' := fun _ => []) 4 ?_ fun J => ?_
              · intro _
                clear e11
                show OpsJ _ _ _ [(0, (sl u8).slot p_label), (1, (sl R_rolodexref14_Version).slot p_l), (5, i64.slot y3), (6, ptrTo R_rolodexref14_Version x1), (44, bl.slot y5)] [] _
                refine j_pure (pj_move (has_tmp rfl)) rfl rfl rfl ?_
                obtain ⟨y6, e13, h⟩ := bind_some h
                refine j_joinx (ι := Unit) (Γ' := fun _ => [(0, (sl u8).slot p_label), (1, (sl R_rolodexref14_Version).slot p_l), (5, i64.slot y3), (6, ptrTo R_rolodexref14_Version x1), (50, bl.slot y6)]) (H' := fun _ => []) 5 ?_ fun J => ?_
                · intro _
                  clear e13
                  show OpsJ _ _ _ [(0, (sl u8).slot p_label), (1, (sl R_rolodexref14_Version).slot p_l), (5, i64.slot y3), (6, ptrTo R_rolodexref14_Version x1), (50, bl.slot y6)] [] _
                  refine j_end ?_
                  refine run_cond (has_tmp rfl) (fun e14 => ?_) (fun e14 => ?_)
                  · replace h := bt e14 h
                    refine run_seq ?_
                    refine run_text ?_
                    refine j_pure (pj_assign has_bl) rfl rfl rfl ?_
                    refine j_end ?_
                    obtain rfl := Option.some.inj h
                    refine run_ret fun a w hst => ⟨rfl, fun hr => ?_⟩
                    subst hr
                    exact hq2 a w (q_ret1 hst rfl (.tmp rfl) () (fun _ _ h => h) (.nil))
                  · replace h := bf e14 h
                    refine run_skip ?_
                    refine run_seq ?_
                    refine run_seq ?_
                    refine run_text ?_
                    refine j_pure (pj_move (has_tmp rfl)) rfl rfl rfl ?_
                    refine j_pure (pj_ieql (has_tmp rfl) has_i64) rfl rfl rfl ?_
                    refine j_pure (pj_move (has_tmp rfl)) rfl rfl rfl ?_
                    obtain ⟨y7, e16, h⟩ := bind_some h
                    refine j_joinx (ι := Unit) (Γ' := fun _ => [(0, (sl u8).slot p_label), (1, (sl R_rolodexref14_Version).slot p_l), (5, i64.slot y3), (6, ptrTo R_rolodexref14_Version x1), (58, bl.slot y7)]) (H' := fun _ => []) 5 ?_ fun J => ?_
                    · intro _
                      clear e16
                      show OpsJ _ _ _ [(0, (sl u8).slot p_label), (1, (sl R_rolodexref14_Version).slot p_l), (5, i64.slot y3), (6, ptrTo R_rolodexref14_Version x1), (58, bl.slot y7)] [] _
                      refine j_end ?_
                      refine run_cond (has_tmp rfl) (fun e17 => ?_) (fun e17 => ?_)
                      · replace h := bt e17 h
                        refine run_seq ?_
                        refine run_text ?_
                        refine j_pure (pj_assign has_bl) rfl rfl rfl ?_
                        refine j_end ?_
                        obtain rfl := Option.some.inj h
                        refine run_ret fun a w hst => ⟨rfl, fun hr => ?_⟩
                        subst hr
                        exact hq2 a w (q_ret1 hst rfl (.tmp rfl) () (fun _ _ h => h) (.nil))
                      · replace h := bf e17 h
                        refine run_skip ?_
                        refine run_seq ?_
                        obtain ⟨y8, e19, h⟩ := bind_some h
                        refine (run_drawJ (n := 25) (Γ' := [(0, (sl u8).slot p_label), (1, (sl R_rolodexref14_Version).slot p_l), (5, i64.slot y3), (83, bl.slot y8)]) (H' := []) ?_ fun J => ?_)
                        · clear e19
                          refine j_end ?_
                          refine run_cond (has_tmp rfl) (fun e25 => ?_) (fun e25 => ?_)
                          · replace h := bt e25 h
                            refine run_seq ?_
                            refine run_text ?_
                            refine j_pure (pj_assign has_bl) rfl rfl rfl ?_
                            refine j_end ?_
                            obtain rfl := Option.some.inj h
                            refine run_ret fun a w hst => ⟨rfl, fun hr => ?_⟩
                            subst hr
                            exact hq2 a w (q_ret1 hst rfl (.tmp rfl) () (fun _ _ h => h) (.nil))
                          · replace h := bf e25 h
                            refine run_skip ?_
                            refine run_endblock ?_
                            refine run_text ?_
                            refine j_pure (pj_move (has_tmp rfl)) rfl rfl rfl ?_
                            refine j_pure (pj_iadd (has_tmp rfl) has_i64) rfl rfl rfl ?_
                            refine j_pure (pj_assign (has_tmp rfl)) rfl rfl rfl ?_
                            refine j_end ?_
                            obtain rfl := Option.some.inj h
                            exact run_next () (.cons (.of_lk rfl) <| .cons (.of_lk rfl) <| .cons (.of_lk rfl) <| .nil) (.nil)
                        · rcases bool_tf (decide ((0 : Int) < y3)) with e18 | e18
                          · replace e19 := bt e18 e19
                            obtain ⟨x2, e20, e19⟩ := bind_some e19
                            obtain ⟨y9, e22, e19⟩ := bind_some e19
                            rcases bool_tf (decide (x1.2.1 ≤ x2.2.1)) with e21 | e21
                            · replace e22 := bt e21 e22
                              exact run_draw (n := 25) (by kernel_rfl) (by kernel_rfl) (by kernel_rfl) (by kernel_rfl) (.read (.plain rfl (pj_move (has_tmp rfl))) <| .read (.plain rfl (pj_igtr (has_tmp rfl) has_i64)) <| .read (.plain rfl (pj_move (has_tmp rfl))) <| .read (.yes ⟨2, true, _, 61, _, rfl, rfl, rfl, fun _ _ => bl_p.1, gd_yes e18⟩ (pj_field_to (has_tmp rfl) (Path.then (Path.snd i64 (prod i64 (prod R_api_Hash (prod R_api_Hash (sl u8))))) (Path.fst i64 (prod R_api_Hash (prod R_api_Hash (sl u8))))) (by kernel_rfl))) <| .read (.yes ⟨2, true, _, 61, _, rfl, rfl, rfl, fun _ _ => bl_p.1, gd_yes e18⟩ (pj_load_to (has_tmp rfl) (by kernel_rfl))) <| .read (.yes ⟨2, true, _, 61, _, rfl, rfl, rfl, fun _ _ => bl_p.1, gd_yes e18⟩ (pj_move (has_tmp rfl))) <| .read (.yes ⟨2, true, _, 61, _, rfl, rfl, rfl, fun _ _ => bl_p.1, gd_yes e18⟩ (pj_move (has_tmp rfl))) <| .read (.yes ⟨2, true, _, 61, _, rfl, rfl, rfl, fun _ _ => bl_p.1, gd_yes e18⟩ (pj_isub (has_tmp rfl) has_i64)) <| .read (.yes ⟨2, true, _, 61, _, rfl, rfl, rfl, fun _ _ => bl_p.1, gd_yes e18⟩ (pj_index_slx (has_tmp rfl) (has_tmp rfl) isInt_i64 e20 (by kernel_rfl))) <| .read (.yes ⟨2, true, _, 61, _, rfl, rfl, rfl, fun _ _ => bl_p.1, gd_yes e18⟩ (pj_field_to (has_tmp rfl) (Path.then (Path.snd i64 (prod i64 (prod R_api_Hash (prod R_api_Hash (sl u8))))) (Path.fst i64 (prod R_api_Hash (prod R_api_Hash (sl u8))))) (by kernel_rfl))) <| .read (.yes ⟨2, true, _, 61, _, rfl, rfl, rfl, fun _ _ => bl_p.1, gd_yes e18⟩ (pj_load_to (has_tmp rfl) (by kernel_rfl))) <| .read (.yes ⟨2, true, _, 61, _, rfl, rfl, rfl, fun _ _ => bl_p.1, gd_yes e18⟩ (pj_ileq (has_tmp rfl) (has_tmp rfl))) <| .read (.yes ⟨2, true, _, 61, _, rfl, rfl, rfl, fun _ _ => bl_p.1, gd_yes e18⟩ (pj_move (has_tmp rfl))) <| .read (.no ⟨12, false, _, 71, _, rfl, rfl, rfl, fun _ _ => bl_p.1, gd_no e21⟩) <| .read (.no ⟨12, false, _, 71, _, rfl, rfl, rfl, fun _ _ => bl_p.1, gd_no e21⟩) <| .read (.no ⟨12, false, _, 71, _, rfl, rfl, rfl, fun _ _ => bl_p.1, gd_no e21⟩) <| .read (.no ⟨12, false, _, 71, _, rfl, rfl, rfl, fun _ _ => bl_p.1, gd_no e21⟩) <| .read (.no ⟨12, false, _, 71, _, rfl, rfl, rfl, fun _ _ => bl_p.1, gd_no e21⟩) <| .read (.no ⟨12, false, _, 71, _, rfl, rfl, rfl, fun _ _ => bl_p.1, gd_no e21⟩) <| .read (.no ⟨12, false, _, 71, _, rfl, rfl, rfl, fun _ _ => bl_p.1, gd_no e21⟩) <| .read (.no ⟨12, false, _, 71, _, rfl, rfl, rfl, fun _ _ => bl_p.1, gd_no e21⟩) <| .read (.no ⟨12, false, _, 71, _, rfl, rfl, rfl, fun _ _ => bl_p.1, gd_no e21⟩) <| .read (.no ⟨12, false, _, 71, _, rfl, rfl, rfl, fun _ _ => bl_p.1, gd_no e21⟩) <| .read (.yes ⟨2, true, _, 61, _, rfl, rfl, rfl, fun _ _ => bl_p.1, gd_yes e18⟩ (PJ.eqv (R := bl) (pj_pick (t := any) (has_tmp rfl) (fun _ => has_bl) (fun he => absurd (e21.symm.trans he) (by decide))) (Option.some.inj e22))) <| .read (.plain rfl (PJ.eqv (R := bl) (pj_pick (t := any) (has_tmp rfl) (fun _ => (has_tmp rfl)) (fun he => absurd (e18.symm.trans he) (by decide))) (Option.some.inj e19))) <| .nil) (j_to (Γ' := [(0, (sl u8).slot p_label), (1, (sl R_rolodexref14_Version).slot p_l), (5, i64.slot y3), (83, bl.slot y8)]) (H' := []) (.cons (.of_lk rfl) <| .cons (.of_lk rfl) <| .cons (.of_lk rfl) <| .cons (.of_lk rfl) <| .nil) (.nil) J)
                            · replace e22 := bf e21 e22
                              obtain ⟨x3, e23, e22⟩ := bind_some e22
                              obtain ⟨r1, e24, e22⟩ := bind_some e22
                              exact run_draw (n := 25) (by kernel_rfl) (by kernel_rfl) (by kernel_rfl) (by kernel_rfl) (.read (.plain rfl (pj_move (has_tmp rfl))) <| .read (.plain rfl (pj_igtr (has_tmp rfl) has_i64)) <| .read (.plain rfl (pj_move (has_tmp rfl))) <| .read (.yes ⟨2, true, _, 61, _, rfl, rfl, rfl, fun _ _ => bl_p.1, gd_yes e18⟩ (pj_field_to (has_tmp rfl) (Path.then (Path.snd i64 (prod i64 (prod R_api_Hash (prod R_api_Hash (sl u8))))) (Path.fst i64 (prod R_api_Hash (prod R_api_Hash (sl u8))))) (by kernel_rfl))) <| .read (.yes ⟨2, true, _, 61, _, rfl, rfl, rfl, fun _ _ => bl_p.1, gd_yes e18⟩ (pj_load_to (has_tmp rfl) (by kernel_rfl))) <| .read (.yes ⟨2, true, _, 61, _, rfl, rfl, rfl, fun _ _ => bl_p.1, gd_yes e18⟩ (pj_move (has_tmp rfl))) <| .read (.yes ⟨2, true, _, 61, _, rfl, rfl, rfl, fun _ _ => bl_p.1, gd_yes e18⟩ (pj_move (has_tmp rfl))) <| .read (.yes ⟨2, true, _, 61, _, rfl, rfl, rfl, fun _ _ => bl_p.1, gd_yes e18⟩ (pj_isub (has_tmp rfl) has_i64)) <| .read (.yes ⟨2, true, _, 61, _, rfl, rfl, rfl, fun _ _ => bl_p.1, gd_yes e18⟩ (pj_index_slx (has_tmp rfl) (has_tmp rfl) isInt_i64 e20 (by kernel_rfl))) <| .read (.yes ⟨2, true, _, 61, _, rfl, rfl, rfl, fun _ _ => bl_p.1, gd_yes e18⟩ (pj_field_to (has_tmp rfl) (Path.then (Path.snd i64 (prod i64 (prod R_api_Hash (prod R_api_Hash (sl u8))))) (Path.fst i64 (prod R_api_Hash (prod R_api_Hash (sl u8))))) (by kernel_rfl))) <| .read (.yes ⟨2, true, _, 61, _, rfl, rfl, rfl, fun _ _ => bl_p.1, gd_yes e18⟩ (pj_load_to (has_tmp rfl) (by kernel_rfl))) <| .read (.yes ⟨2, true, _, 61, _, rfl, rfl, rfl, fun _ _ => bl_p.1, gd_yes e18⟩ (pj_ileq (has_tmp rfl) (has_tmp rfl))) <| .read (.yes ⟨2, true, _, 61, _, rfl, rfl, rfl, fun _ _ => bl_p.1, gd_yes e18⟩ (pj_move (has_tmp rfl))) <| .read (.yes ⟨12, false, _, 71, _, rfl, rfl, rfl, fun _ _ => bl_p.1, gd_yes e21⟩ (pj_field_to (has_tmp rfl) (Path.then (Path.snd i64 (prod i64 (prod R_api_Hash (prod R_api_Hash (sl u8))))) (Path.then (Path.snd i64 (prod R_api_Hash (prod R_api_Hash (sl u8)))) (Path.then (Path.snd R_api_Hash (prod R_api_Hash (sl u8))) (Path.fst R_api_Hash (sl u8))))) (by kernel_rfl))) <| .read (.yes ⟨12, false, _, 71, _, rfl, rfl, rfl, fun _ _ => bl_p.1, gd_yes e21⟩ (pj_load_to (has_tmp rfl) (by kernel_rfl))) <| .read (.yes ⟨12, false, _, 71, _, rfl, rfl, rfl, fun _ _ => bl_p.1, gd_yes e21⟩ (pj_move (has_tmp rfl))) <| .read (.yes ⟨12, false, _, 71, _, rfl, rfl, rfl, fun _ _ => bl_p.1, gd_yes e21⟩ (pj_move (has_tmp rfl))) <| .read (.yes ⟨12, false, _, 71, _, rfl, rfl, rfl, fun _ _ => bl_p.1, gd_yes e21⟩ (pj_move (has_tmp rfl))) <| .read (.yes ⟨12, false, _, 71, _, rfl, rfl, rfl, fun _ _ => bl_p.1, gd_yes e21⟩ (pj_isub (has_tmp rfl) has_i64)) <| .read (.yes ⟨12, false, _, 71, _, rfl, rfl, rfl, fun _ _ => bl_p.1, gd_yes e21⟩ (pj_index_slx (has_tmp rfl) (has_tmp rfl) isInt_i64 e23 (by kernel_rfl))) <| .read (.yes ⟨12, false, _, 71, _, rfl, rfl, rfl, fun _ _ => bl_p.1, gd_yes e21⟩ (pj_load_to (has_tmp rfl) (by kernel_rfl))) <| .read (.yes ⟨12, false, _, 71, _, rfl, rfl, rfl, fun _ _ => bl_p.1, gd_yes e21⟩ (pj_call (hasL_cons (has_tmp rfl) <| hasL_cons (has_tmp rfl) <| hasL_nil) (by kernel_rfl) (c_rolodexref14_Commit e24))) <| .read (.yes ⟨12, false, _, 71, _, rfl, rfl, rfl, fun _ _ => bl_p.1, gd_yes e21⟩ (pj_neq (n := 2) (eq_vec (e := 5) (by kernel_rfl) (by kernel_rfl) (eq_un (by kernel_rfl))) (by decide) rfl (by kernel_rfl) (has_tmp rfl) (has_tmp rfl))) <| .read (.yes ⟨2, true, _, 61, _, rfl, rfl, rfl, fun _ _ => bl_p.1, gd_yes e18⟩ (PJ.eqv (R := bl) (pj_pick (t := any) (has_tmp rfl) (fun he => absurd (e21.symm.trans he) (by decide)) (fun _ => (has_tmp rfl))) (Option.some.inj e22))) <| .read (.plain rfl (PJ.eqv (R := bl) (pj_pick (t := any) (has_tmp rfl) (fun _ => (has_tmp rfl)) (fun he => absurd (e18.symm.trans he) (by decide))) (Option.some.inj e19))) <| .nil) (j_to (Γ' := [(0, (sl u8).slot p_label), (1, (sl R_rolodexref14_Version).slot p_l), (5, i64.slot y3), (83, bl.slot y8)]) (H' := []) (.cons (.of_lk rfl) <| .cons (.of_lk rfl) <| .cons (.of_lk rfl) <| .cons (.of_lk rfl) <| .nil) (.nil) J)
                          · replace e19 := bf e18 e19
                            exact run_draw (n := 25) (by kernel_rfl) (by kernel_rfl) (by kernel_rfl) (by kernel_rfl) (.read (.plain rfl (pj_move (has_tmp rfl))) <| .read (.plain rfl (pj_igtr (has_tmp rfl) has_i64)) <| .read (.plain rfl (pj_move (has_tmp rfl))) <| .read (.no ⟨2, true, _, 61, _, rfl, rfl, rfl, fun _ _ => bl_p.1, gd_no e18⟩) <| .read (.no ⟨2, true, _, 61, _, rfl, rfl, rfl, fun _ _ => bl_p.1, gd_no e18⟩) <| .read (.no ⟨2, true, _, 61, _, rfl, rfl, rfl, fun _ _ => bl_p.1, gd_no e18⟩) <| .read (.no ⟨2, true, _, 61, _, rfl, rfl, rfl, fun _ _ => bl_p.1, gd_no e18⟩) <| .read (.no ⟨2, true, _, 61, _, rfl, rfl, rfl, fun _ _ => bl_p.1, gd_no e18⟩) <| .read (.no ⟨2, true, _, 61, _, rfl, rfl, rfl, fun _ _ => bl_p.1, gd_no e18⟩) <| .read (.no ⟨2, true, _, 61, _, rfl, rfl, rfl, fun _ _ => bl_p.1, gd_no e18⟩) <| .read (.no ⟨2, true, _, 61, _, rfl, rfl, rfl, fun _ _ => bl_p.1, gd_no e18⟩) <| .read (.no ⟨2, true, _, 61, _, rfl, rfl, rfl, fun _ _ => bl_p.1, gd_no e18⟩) <| .read (.no ⟨2, true, _, 61, _, rfl, rfl, rfl, fun _ _ => bl_p.1, gd_no e18⟩) <| .read (.undef ⟨12, false, 71, rfl, rfl, rfl⟩) <| .read (.undef ⟨12, false, 71, rfl, rfl, rfl⟩) <| .read (.undef ⟨12, false, 71, rfl, rfl, rfl⟩) <| .read (.undef ⟨12, false, 71, rfl, rfl, rfl⟩) <| .read (.undef ⟨12, false, 71, rfl, rfl, rfl⟩) <| .read (.undef ⟨12, false, 71, rfl, rfl, rfl⟩) <| .read (.undef ⟨12, false, 71, rfl, rfl, rfl⟩) <| .read (.undef ⟨12, false, 71, rfl, rfl, rfl⟩) <| .read (.undef ⟨12, false, 71, rfl, rfl, rfl⟩) <| .read (.undef ⟨12, false, 71, rfl, rfl, rfl⟩) <| .read (.no ⟨2, true, _, 61, _, rfl, rfl, rfl, fun _ _ => bl_p.1, gd_no e18⟩) <| .read (.plain rfl (PJ.eqv (R := bl) (pj_pick (t := any) (has_tmp rfl) (fun he => absurd (e18.symm.trans he) (by decide)) (fun _ => has_bl)) (Option.some.inj e19))) <| .nil) (j_to (Γ' := [(0, (sl u8).slot p_label), (1, (sl R_rolodexref14_Version).slot p_l), (5, i64.slot y3), (83, bl.slot y8)]) (H' := []) (.cons (.of_lk rfl) <| .cons (.of_lk rfl) <| .cons (.of_lk rfl) <| .cons (.of_lk rfl) <| .nil) (.nil) J)
                    · rcases bool_tf (decide (y3 = (0 : Int))) with e15 | e15
                      · replace e16 := bt e15 e16
                        refine j_pure_y (pj_field_to (has_tmp rfl) (Path.then (Path.snd i64 (prod i64 (prod R_api_Hash (prod R_api_Hash (sl u8))))) (Path.then (Path.snd i64 (prod R_api_Hash (prod R_api_Hash (sl u8)))) (Path.then (Path.snd R_api_Hash (prod R_api_Hash (sl u8))) (Path.fst R_api_Hash (sl u8))))) (by kernel_rfl)) rfl rfl rfl rfl (bl_isx e15) rfl rfl ?_
                        refine j_pure_y (pj_load_to (has_tmp rfl) (by kernel_rfl)) rfl rfl rfl rfl (bl_isx e15) rfl rfl ?_
                        refine j_pure_y (pj_build (R := R_api_Hash) (zero_vec 32 zero_un) (by kernel_rfl) (by kernel_rfl) rfl .nil) rfl rfl rfl rfl (bl_isx e15) rfl rfl ?_
                        refine j_pure_y (pj_neq (n := 2) (eq_vec (e := 5) (by kernel_rfl) (by kernel_rfl) (eq_un (by kernel_rfl))) (by decide) rfl (by kernel_rfl) (has_tmp rfl) (has_tmp rfl)) rfl rfl rfl rfl (bl_isx e15) rfl rfl ?_
                        refine j_pure (PJ.eqv (R := bl) (pj_pick (t := any) (has_tmp rfl) (fun _ => (has_tmp rfl)) (fun he => absurd (e15.symm.trans he) (by decide))) (Option.some.inj e16)) rfl rfl rfl ?_
                        exact j_to (.cons (.of_lk rfl) <| .cons (.of_lk rfl) <| .cons (.of_lk rfl) <| .cons (.of_lk rfl) <| .cons (.of_lk rfl) <| .nil) (.nil) (J ())
                      · replace e16 := bf e15 e16
                        refine j_guard_no2 (j := 2) (want := true) rfl rfl rfl rfl (bl_isx e15) rfl rfl rfl ?_
                        refine j_guard_no2 (j := 2) (want := true) rfl rfl rfl rfl (bl_isx e15) rfl rfl rfl ?_
                        refine j_guard_no2 (j := 2) (want := true) rfl rfl rfl rfl (bl_isx e15) rfl rfl rfl ?_
                        refine j_guard_no2 (j := 2) (want := true) rfl rfl rfl rfl (bl_isx e15) rfl rfl rfl ?_
                        refine j_pure (PJ.eqv (R := bl) (pj_pick (t := any) (has_tmp rfl) (fun he => absurd (e15.symm.trans he) (by decide)) (fun _ => has_bl)) (Option.some.inj e16)) rfl rfl rfl ?_
                        exact j_to (.cons (.of_lk rfl) <| .cons (.of_lk rfl) <| .cons (.of_lk rfl) <| .cons (.of_lk rfl) <| .cons (.of_lk rfl) <| .nil) (.nil) (J ())
                · rcases bool_tf (y5) with e12 | e12
                  · replace e13 := bt e12 e13
                    refine j_guard_no2 (j := 15) (want := false) rfl rfl rfl rfl (bl_isx e12) rfl rfl rfl ?_
                    refine j_guard_no2 (j := 15) (want := false) rfl rfl rfl rfl (bl_isx e12) rfl rfl rfl ?_
                    refine j_guard_no2 (j := 15) (want := false) rfl rfl rfl rfl (bl_isx e12) rfl rfl rfl ?_
                    refine j_guard_no2 (j := 15) (want := false) rfl rfl rfl rfl (bl_isx e12) rfl rfl rfl ?_
                    refine j_pure (PJ.eqv (R := bl) (pj_pick (t := any) (has_tmp rfl) (fun _ => has_bl) (fun he => absurd (e12.symm.trans he) (by decide))) (Option.some.inj e13)) rfl rfl rfl ?_
                    exact j_to (.cons (.of_lk rfl) <| .cons (.of_lk rfl) <| .cons (.of_lk rfl) <| .cons (.of_lk rfl) <| .cons (.of_lk rfl) <| .nil) (.nil) (J ())
                  · replace e13 := bf e12 e13
                    refine j_pure_y (pj_field_to (has_tmp rfl) (Path.then (Path.snd i64 (prod i64 (prod R_api_Hash (prod R_api_Hash (sl u8))))) (Path.then (Path.snd i64 (prod R_api_Hash (prod R_api_Hash (sl u8)))) (Path.then (Path.snd R_api_Hash (prod R_api_Hash (sl u8))) (Path.snd R_api_Hash (sl u8))))) (by kernel_rfl)) rfl rfl rfl rfl (bl_isx e12) rfl rfl ?_
                    refine j_pure_y (pj_load_to (has_tmp rfl) (by kernel_rfl)) rfl rfl rfl rfl (bl_isx e12) rfl rfl ?_
                    refine j_pure_y (pj_len_sl (sz := 1) (has_tmp rfl) (by kernel_rfl)) rfl rfl rfl rfl (bl_isx e12) rfl rfl ?_
                    refine j_pure_y (pj_igtr (has_tmp rfl) has_i64) rfl rfl rfl rfl (bl_isx e12) rfl rfl ?_
                    refine j_pure (PJ.eqv (R := bl) (pj_pick (t := any) (has_tmp rfl) (fun he => absurd (e12.symm.trans he) (by decide)) (fun _ => (has_tmp rfl))) (Option.some.inj e13)) rfl rfl rfl ?_
                    exact j_to (.cons (.of_lk rfl) <| .cons (.of_lk rfl) <| .cons (.of_lk rfl) <| .cons (.of_lk rfl) <| .cons (.of_lk rfl) <| .nil) (.nil) (J ())
              · rcases bool_tf (y4) with e10 | e10
                · replace e11 := bt e10 e11
                  refine j_guard_no2 (j := 10) (want := false) rfl rfl rfl rfl (bl_isx e10) rfl rfl rfl ?_
                  refine j_guard_no2 (j := 10) (want := false) rfl rfl rfl rfl (bl_isx e10) rfl rfl rfl ?_
                  refine j_guard_no2 (j := 10) (want := false) rfl rfl rfl rfl (bl_isx e10) rfl rfl rfl ?_
                  refine j_pure (PJ.eqv (R := bl) (pj_pick (t := any) (has_tmp rfl) (fun _ => has_bl) (fun he => absurd (e10.symm.trans he) (by decide))) (Option.some.inj e11)) rfl rfl rfl ?_
                  exact j_to (.cons (.of_lk rfl) <| .cons (.of_lk rfl) <| .cons (.of_lk rfl) <| .cons (.of_lk rfl) <| .cons (.of_lk rfl) <| .nil) (.nil) (J ())
                · replace e11 := bf e10 e11
                  refine j_pure_y (pj_field_to (has_tmp rfl) (Path.then (Path.snd i64 (prod i64 (prod R_api_Hash (prod R_api_Hash (sl u8))))) (Path.fst i64 (prod R_api_Hash (prod R_api_Hash (sl u8))))) (by kernel_rfl)) rfl rfl rfl rfl (bl_isx e10) rfl rfl ?_
                  refine j_pure_y (pj_load_to (has_tmp rfl) (by kernel_rfl)) rfl rfl rfl rfl (bl_isx e10) rfl rfl ?_
                  refine j_pure_y (pj_igtr (has_tmp rfl) has_i64) rfl rfl rfl rfl (bl_isx e10) rfl rfl ?_
                  refine j_pure (PJ.eqv (R := bl) (pj_pick (t := any) (has_tmp rfl) (fun he => absurd (e10.symm.trans he) (by decide)) (fun _ => (has_tmp rfl))) (Option.some.inj e11)) rfl rfl rfl ?_
                  exact j_to (.cons (.of_lk rfl) <| .cons (.of_lk rfl) <| .cons (.of_lk rfl) <| .cons (.of_lk rfl) <| .cons (.of_lk rfl) <| .nil) (.nil) (J ())
            · rcases bool_tf (!decide (x1.1 = (w64 (y3 + (1 : Int))))) with e8 | e8
              · replace e9 := bt e8 e9
                refine j_guard_no2 (j := 5) (want := false) rfl rfl rfl rfl (bl_isx e8) rfl rfl rfl ?_
                refine j_guard_no2 (j := 5) (want := false) rfl rfl rfl rfl (bl_isx e8) rfl rfl rfl ?_
                refine j_guard_no2 (j := 5) (want := false) rfl rfl rfl rfl (bl_isx e8) rfl rfl rfl ?_
                refine j_pure (PJ.eqv (R := bl) (pj_pick (t := any) (has_tmp rfl) (fun _ => has_bl) (fun he => absurd (e8.symm.trans he) (by decide))) (Option.some.inj e9)) rfl rfl rfl ?_
                exact j_to (.cons (.of_lk rfl) <| .cons (.of_lk rfl) <| .cons (.of_lk rfl) <| .cons (.of_lk rfl) <| .cons (.of_lk rfl) <| .nil) (.nil) (J ())
              · replace e9 := bf e8 e9
                refine j_pure_y (pj_field_to (has_tmp rfl) (Path.then (Path.snd i64 (prod i64 (prod R_api_Hash (prod R_api_Hash (sl u8))))) (Path.fst i64 (prod R_api_Hash (prod R_api_Hash (sl u8))))) (by kernel_rfl)) rfl rfl rfl rfl (bl_isx e8) rfl rfl ?_
                refine j_pure_y (pj_load_to (has_tmp rfl) (by kernel_rfl)) rfl rfl rfl rfl (bl_isx e8) rfl rfl ?_
                refine j_pure_y (pj_ilss (has_tmp rfl) has_i64) rfl rfl rfl rfl (bl_isx e8) rfl rfl ?_
                refine j_pure (PJ.eqv (R := bl) (pj_pick (t := any) (has_tmp rfl) (fun he => absurd (e8.symm.trans he) (by decide)) (fun _ => (has_tmp rfl))) (Option.some.inj e9)) rfl rfl rfl ?_
                exact j_to (.cons (.of_lk rfl) <| .cons (.of_lk rfl) <| .cons (.of_lk rfl) <| .cons (.of_lk rfl) <| .cons (.of_lk rfl) <| .nil) (.nil) (J ())
          · replace h := bf e6 h
            obtain rfl := Option.some.inj h
            exact run_brk () (.cons (.of_lk rfl) <| .cons (.of_lk rfl) <| .cons (.of_lk rfl) <| .nil) (.nil)
        · rintro _ y10 ho
          subst ho
          show Run _ _ _ [(0, (sl u8).slot p_label), (1, (sl R_rolodexref14_Version).slot p_l), (5, i64.slot y10)] []
          refine run_to (Γ' := []) (H' := []) (.nil) (.nil) ?_
          refine run_seq ?_
          refine run_text ?_
          refine j_pure (pj_assign has_bl) rfl rfl rfl ?_
          refine j_end ?_
          obtain rfl := Option.some.inj h
          exact run_ret fun a w hst => q_ret1 hst rfl (.tmp rfl) () (fun _ _ h => h) (.nil)
        · intro x a w ho hR
          subst ho
          exact hq1 a w (hR (Option.some.inj h))
    · rcases bool_tf (y1) with e3 | e3
      · replace e4 := bt e3 e4
        refine j_guard_no2 (j := 8) (want := false) rfl rfl rfl rfl (bl_isx e3) rfl rfl rfl ?_
        refine j_guard_no2 (j := 8) (want := false) rfl rfl rfl rfl (bl_isx e3) rfl rfl rfl ?_
        refine j_guard_no2 (j := 8) (want := false) rfl rfl rfl rfl (bl_isx e3) rfl rfl rfl ?_
        refine j_pure (PJ.eqv (R := bl) (pj_pick (t := any) (has_tmp rfl) (fun _ => has_bl) (fun he => absurd (e3.symm.trans he) (by decide))) (Option.some.inj e4)) rfl rfl rfl ?_
        exact j_to (.cons (.of_lk rfl) <| .cons (.of_lk rfl) <| .cons (.of_lk rfl) <| .nil) (.nil) (J ())
      · replace e4 := bf e3 e4
        refine j_pure_y (pj_move (has_tmp rfl)) rfl rfl rfl rfl (bl_isx e3) rfl rfl ?_
        refine j_pure_y (pj_len_sl (sz := 67) (has_tmp rfl) (by kernel_rfl)) rfl rfl rfl rfl (bl_isx e3) rfl rfl ?_
        refine j_pure_y (pj_ieql (has_tmp rfl) has_i64) rfl rfl rfl rfl (bl_isx e3) rfl rfl ?_
        refine j_pure (PJ.eqv (R := bl) (pj_pick (t := any) (has_tmp rfl) (fun he => absurd (e3.symm.trans he) (by decide)) (fun _ => (has_tmp rfl))) (Option.some.inj e4)) rfl rfl rfl ?_
        exact j_to (.cons (.of_lk rfl) <| .cons (.of_lk rfl) <| .cons (.of_lk rfl) <| .nil) (.nil) (J ())
  · rcases bool_tf (decide ((p_label.length : Int) = (0 : Int))) with e1 | e1
    · replace e2 := bt e1 e2
      refine j_guard_no2 (j := 3) (want := false) rfl rfl rfl rfl (bl_isx e1) rfl rfl rfl ?_
      refine j_guard_no2 (j := 3) (want := false) rfl rfl rfl rfl (bl_isx e1) rfl rfl rfl ?_
      refine j_guard_no2 (j := 3) (want := false) rfl rfl rfl rfl (bl_isx e1) rfl rfl rfl ?_
      refine j_pure (PJ.eqv (R := bl) (pj_pick (t := any) (has_tmp rfl) (fun _ => has_bl) (fun he => absurd (e1.symm.trans he) (by decide))) (Option.some.inj e2)) rfl rfl rfl ?_
      exact j_to (.cons (.of_lk rfl) <| .cons (.of_lk rfl) <| .cons (.of_lk rfl) <| .nil) (.nil) (J ())
    · replace e2 := bf e1 e2
      refine j_pure_y (pj_move (has_tmp rfl)) rfl rfl rfl rfl (bl_isx e1) rfl rfl ?_
      refine j_pure_y (pj_len_sl (sz := 1) (has_tmp rfl) (by kernel_rfl)) rfl rfl rfl rfl (bl_isx e1) rfl rfl ?_
      refine j_pure_y (pj_igtr (has_tmp rfl) has_i64) rfl rfl rfl rfl (bl_isx e1) rfl rfl ?_
      refine j_pure (PJ.eqv (R := bl) (pj_pick (t := any) (has_tmp rfl) (fun he => absurd (e1.symm.trans he) (by decide)) (fun _ => (has_tmp rfl))) (Option.some.inj e2)) rfl rfl rfl ?_
      exact j_to (.cons (.of_lk rfl) <| .cons (.of_lk rfl) <| .cons (.of_lk rfl) <| .nil) (.nil) (J ())
set_option maxRecDepth 100000 in
set_option maxHeartbeats 4000000 in
theorem c_rolodexref14_Grow {G : GP} {p_seed : T_api_Hash} {p_label : List (BitVec 8)} {p_l : List T_rolodexref14_Version} {p_epoch : Int} {p_value : List (BitVec 8)} {r : (List T_rolodexref14_Version) × Int} (h : rolodexref14_Grow p_seed p_label p_l p_epoch p_value = some r) : Ctr Tryd.prog G 17 [R_api_Hash.slot p_seed, (sl u8).slot p_label, (sl R_rolodexref14_Version).slot p_l, i64.slot p_epoch, (sl u8).slot p_value] [] (fun (u0 : Value) => tup [ov u0, i64.slot r.2]) (fun (u0 : Value) => [own 41 R_rolodexref14_Version u0 r.1]) := by
  unfold rolodexref14_Grow at h
  refine ctr_of_run Tryd.func17 rfl 61 rfl rfl fun m0 w0 b0 => ?_
  show Run _ _ _ [(0, R_api_Hash.slot p_seed), (1, (sl u8).slot p_label), (2, (sl R_rolodexref14_Version).slot p_l), (3, i64.slot p_epoch), (4, (sl u8).slot p_value)] _
  refine run_seq ?_
  refine run_text ?_
  refine j_pure (pj_box_to (has_tmp rfl)) rfl rfl rfl ?_
  refine j_assign_nil (T := 41) R_rolodexref14_Version rfl fun v1 => ?_
  refine j_pure (pj_assign has_i64) rfl rfl rfl ?_
  refine j_end ?_
  refine run_seq ?_
  refine run_text ?_
  refine j_pure (pj_move (has_tmp rfl)) rfl rfl rfl ?_
  refine j_pure (pj_len_sl (sz := 67) (has_tmp rfl) (by kernel_rfl)) rfl rfl rfl ?_
  refine j_pure (pj_iadd (has_tmp rfl) has_i64) rfl rfl rfl ?_
  refine j_pure (pj_move (has_tmp rfl)) rfl rfl rfl ?_
  refine j_pure (pj_load_to (has_tmp rfl) (by kernel_rfl)) rfl rfl rfl ?_
  refine j_pure (pj_move (has_tmp rfl)) rfl rfl rfl ?_
  refine j_pure (pj_move (has_tmp rfl)) rfl rfl rfl ?_
  refine j_pure (pj_len_sl (sz := 67) (has_tmp rfl) (by kernel_rfl)) rfl rfl rfl ?_
  refine j_pure (pj_iadd (has_tmp rfl) has_i64) rfl rfl rfl ?_
  obtain ⟨r1, e1, h⟩ := bind_some h
  refine j_pure (pj_call (hasL_cons (has_tmp rfl) <| hasL_cons (has_tmp rfl) <| hasL_cons (has_tmp rfl) <| hasL_nil) (by kernel_rfl) (c_rolodexref14_Salt e1)) rfl rfl rfl ?_
  refine j_pure (pj_move (has_tmp rfl)) rfl rfl rfl ?_
  obtain ⟨x1, e2, h⟩ := bind_some h
  refine j_pure (PJ.eqv (pj_build (R := R_rolodexref14_Version) (zero_prod zero_i64 (zero_prod zero_i64 (zero_prod (zero_vec 32 zero_un) (zero_prod (zero_vec 32 zero_un) zero_sl)))) (by kernel_rfl) (by kernel_rfl) rfl (.cons (has_tmp rfl) (Path.fst i64 (prod i64 (prod R_api_Hash (prod R_api_Hash (sl u8))))) (by kernel_rfl) (.cons (has_tmp rfl) (Path.then (Path.snd i64 (prod i64 (prod R_api_Hash (prod R_api_Hash (sl u8))))) (Path.fst i64 (prod R_api_Hash (prod R_api_Hash (sl u8))))) (by kernel_rfl) (.cons (has_tmp rfl) (Path.then (Path.snd i64 (prod i64 (prod R_api_Hash (prod R_api_Hash (sl u8))))) (Path.then (Path.snd i64 (prod R_api_Hash (prod R_api_Hash (sl u8)))) (Path.fst R_api_Hash (prod R_api_Hash (sl u8))))) (by kernel_rfl) (.cons (has_tmp rfl) (Path.then (Path.snd i64 (prod i64 (prod R_api_Hash (prod R_api_Hash (sl u8))))) (Path.then (Path.snd i64 (prod R_api_Hash (prod R_api_Hash (sl u8)))) (Path.then (Path.snd R_api_Hash (prod R_api_Hash (sl u8))) (Path.snd R_api_Hash (sl u8))))) (by kernel_rfl) .nil))))) (Option.some.inj e2)) rfl rfl rfl ?_
  refine j_alloc (x := (0, 0, (Vector.replicate 32 (0#8)), (Vector.replicate 32 (0#8)), ([] : List (BitVec 8)))) (R := R_rolodexref14_Version) (zero_prod zero_i64 (zero_prod zero_i64 (zero_prod (zero_vec 32 zero_un) (zero_prod (zero_vec 32 zero_un) zero_sl)))) (by kernel_rfl) rfl fun b1 => ?_
  refine j_store_boxx (r' := x1) (has_tmp rfl) (has_tmp rfl) .here (Path.all R_rolodexref14_Version) (by kernel_rfl) rfl ?_
  refine j_end ?_
  refine run_seq ?_
  refine run_seq ?_
  refine run_text ?_
  refine j_pure (pj_move (has_tmp rfl)) rfl rfl rfl ?_
  refine j_pure (pj_len_sl (sz := 67) (has_tmp rfl) (by kernel_rfl)) rfl rfl rfl ?_
  refine j_pure (pj_igtr (has_tmp rfl) has_i64) rfl rfl rfl ?_
  refine j_end ?_
  obtain ⟨y1, e6, h⟩ := bind_some h
  refine run_joinx (ι := Unit) (Γ' := fun (_ : Unit) => [(1, (sl u8).slot p_label), (2, (sl R_rolodexref14_Version).slot p_l), (12, val (.pointer (some ⟨b1, 0, none⟩)))]) (H' := fun (_ : Unit) => [box b1 41 R_rolodexref14_Version y1]) ?_ fun J => ?_
  · intro _
    clear e6
    show Run _ _ _ [(1, (sl u8).slot p_label), (2, (sl R_rolodexref14_Version).slot p_l), (12, val (.pointer (some ⟨b1, 0, none⟩)))] [box b1 41 R_rolodexref14_Version y1]
    refine run_seq ?_
    refine run_text ?_
    refine j_assign_nil (T := 41) R_rolodexref14_Version rfl fun v2 => ?_
    refine j_end ?_
    refine run_seq ?_
    refine run_text ?_
    refine j_pure (pj_move (has_tmp rfl)) rfl rfl rfl ?_
    refine j_pure (pj_move (has_tmp rfl)) rfl rfl rfl ?_
    obtain ⟨e7, h⟩ := grd_some h
    refine j_append (T := 41) (E := 41) (has_tmp rfl) .here (src_data (has_tmp rfl)) (by kernel_rfl) (by kernel_rfl) e7 rfl fun v3 => ?_
    refine j_pure (pj_assign (has_tmp rfl)) rfl rfl rfl ?_
    refine j_end ?_
    refine run_seq ?_
    refine run_text ?_
    refine j_pure (pj_move (has_tmp rfl)) rfl rfl rfl ?_
    refine j_pure (pj_load_box (has_tmp rfl) (.next .here) (Path.all R_rolodexref14_Version) (by kernel_rfl)) rfl rfl rfl ?_
    refine j_pure (pj_buildSlice (T := 41) (R := R_rolodexref14_Version) (.cons (has_tmp rfl) .nil) rfl (by kernel_rfl) (by kernel_rfl)) rfl rfl rfl ?_
    obtain ⟨e8, h⟩ := grd_some h
    refine j_append (T := 41) (E := 41) (has_tmp rfl) .here (src_data (has_tmp rfl)) (by kernel_rfl) (by kernel_rfl) e8 rfl fun v4 => ?_
    refine j_pure (pj_assign (has_tmp rfl)) rfl rfl rfl ?_
    refine j_end ?_
    refine run_seq ?_
    refine run_seq ?_
    refine run_text ?_
    refine j_pure (pj_move (has_tmp rfl)) rfl rfl rfl ?_
    refine j_pure (pj_len_sl (sz := 67) (has_tmp rfl) (by kernel_rfl)) rfl rfl rfl ?_
    refine j_pure (pj_igtr (has_tmp rfl) has_i64) rfl rfl rfl ?_
    refine j_pure (pj_move (has_tmp rfl)) rfl rfl rfl ?_
    obtain ⟨y2, e10, h⟩ := bind_some h
    refine j_joinx (ι := Unit) (Γ' := fun _ => [(1, (sl u8).slot p_label), (13, ov v4), (53, bl.slot y2)]) (H' := fun _ => [own 41 R_rolodexref14_Version v4 ((([] : List T_rolodexref14_Version) ++ p_l) ++ ([y1]))]) 5 ?_ fun J => ?_
    · intro _
      clear e10
      show OpsJ _ _ _ [(1, (sl u8).slot p_label), (13, ov v4), (53, bl.slot y2)] [own 41 R_rolodexref14_Version v4 ((([] : List T_rolodexref14_Version) ++ p_l) ++ ([y1]))] _
      refine j_pure (pj_move (has_tmp rfl)) rfl rfl rfl ?_
      obtain ⟨y3, e13, h⟩ := bind_some h
      refine j_joinx (ι := Unit) (Γ' := fun _ => [(13, ov v4), (59, bl.slot y3)]) (H' := fun _ => [own 41 R_rolodexref14_Version v4 ((([] : List T_rolodexref14_Version) ++ p_l) ++ ([y1]))]) 5 ?_ fun J => ?_
      · intro _
        clear e13
        show OpsJ _ _ _ [(13, ov v4), (59, bl.slot y3)] [own 41 R_rolodexref14_Version v4 ((([] : List T_rolodexref14_Version) ++ p_l) ++ ([y1]))] _
        refine j_end ?_
        refine run_cond (has_tmp rfl) (fun e15 => ?_) (fun e15 => ?_)
        · replace h := bt e15 h
          refine run_seq ?_
          refine run_text ?_
          refine j_assign_nil (T := 41) R_rolodexref14_Version rfl fun v5 => ?_
          refine j_pure (pj_assign has_i64) rfl rfl rfl ?_
          refine j_end ?_
          obtain rfl := Option.some.inj h
          exact run_ret fun a w hst => q_retN hst rfl (.cons (.tmp rfl) <| .cons (.tmp rfl) <| .nil) rfl v5 (fun _ _ h => h) (.cons .here <| .nil)
        · replace h := bf e15 h
          refine run_skip ?_
          refine run_seq ?_
          refine run_text ?_
          refine j_pure (pj_move (has_tmp rfl)) rfl rfl rfl ?_
          refine j_pure (pj_assign (has_tmp rfl)) rfl rfl rfl ?_
          refine j_pure (pj_assign has_i64) rfl rfl rfl ?_
          refine j_end ?_
          obtain rfl := Option.some.inj h
          exact run_ret fun a w hst => q_retN hst rfl (.cons (.tmp rfl) <| .cons (.tmp rfl) <| .nil) rfl v4 (fun _ _ h => h) (.cons .here <| .nil)
      · rcases bool_tf (y2) with e12 | e12
        · replace e13 := bt e12 e13
          refine j_guard_no2 (j := 9) (want := false) rfl rfl rfl rfl (bl_isx e12) rfl rfl rfl ?_
          refine j_guard_no2 (j := 9) (want := false) rfl rfl rfl rfl (bl_isx e12) rfl rfl rfl ?_
          refine j_guard_no2 (j := 9) (want := false) rfl rfl rfl rfl (bl_isx e12) rfl rfl rfl ?_
          refine j_guard_no2 (j := 9) (want := false) rfl rfl rfl rfl (bl_isx e12) rfl rfl rfl ?_
          refine j_pure (PJ.eqv (R := bl) (pj_pick (t := any) (has_tmp rfl) (fun _ => has_bl) (fun he => absurd (e12.symm.trans he) (by decide))) (Option.some.inj e13)) rfl rfl rfl ?_
          exact j_to (.cons (.of_lk rfl) <| .cons (.of_lk rfl) <| .nil) (.cons .here <| .nil) (J ())
        · replace e13 := bf e12 e13
          refine j_pure_y (pj_move (has_tmp rfl)) rfl rfl rfl rfl (bl_isx e12) rfl rfl ?_
          refine j_pure_y (pj_move (has_tmp rfl)) rfl rfl rfl rfl (bl_isx e12) rfl rfl ?_
          obtain ⟨r4, e14, e13⟩ := bind_some e13
          refine j_pure_y (pj_callB (hasBL_cons (hasB_of (has_tmp rfl)) <| hasBL_cons (hasB_own (has_tmp rfl) .here) <| hasBL_nil) (by kernel_rfl) (c_rolodexref14_Formed e14) (Rep.flat_slot flat_bl _)) rfl rfl rfl rfl (bl_isx e12) rfl rfl ?_
          refine j_pure_y (pj_not (has_tmp rfl)) rfl rfl rfl rfl (bl_isx e12) rfl rfl ?_
          refine j_pure (PJ.eqv (R := bl) (pj_pick (t := any) (has_tmp rfl) (fun he => absurd (e12.symm.trans he) (by decide)) (fun _ => (has_tmp rfl))) (Option.some.inj e13)) rfl rfl rfl ?_
          exact j_to (.cons (.of_lk rfl) <| .cons (.of_lk rfl) <| .nil) (.cons .here <| .nil) (J ())
    · rcases bool_tf (decide ((0 : Int) < (p_l.length : Int))) with e9 | e9
      · replace e10 := bt e9 e10
        refine j_pure_y (pj_move (has_tmp rfl)) rfl rfl rfl rfl (bl_isx e9) rfl rfl ?_
        refine j_pure_y (pj_move (has_tmp rfl)) rfl rfl rfl rfl (bl_isx e9) rfl rfl ?_
        obtain ⟨r3, e11, e10⟩ := bind_some e10
        refine j_pure_y (pj_call (hasL_cons (has_tmp rfl) <| hasL_cons (has_tmp rfl) <| hasL_nil) (by kernel_rfl) (c_rolodexref14_Formed e11)) rfl rfl rfl rfl (bl_isx e9) rfl rfl ?_
        refine j_pure_y (pj_not (has_tmp rfl)) rfl rfl rfl rfl (bl_isx e9) rfl rfl ?_
        refine j_pure (PJ.eqv (R := bl) (pj_pick (t := any) (has_tmp rfl) (fun _ => (has_tmp rfl)) (fun he => absurd (e9.symm.trans he) (by decide))) (Option.some.inj e10)) rfl rfl rfl ?_
        exact j_to (.cons (.of_lk rfl) <| .cons (.of_lk rfl) <| .cons (.of_lk rfl) <| .nil) (.cons .here <| .nil) (J ())
      · replace e10 := bf e9 e10
        refine j_guard_no2 (j := 3) (want := true) rfl rfl rfl rfl (bl_isx e9) rfl rfl rfl ?_
        refine j_guard_no2 (j := 3) (want := true) rfl rfl rfl rfl (bl_isx e9) rfl rfl rfl ?_
        refine j_guard_no2 (j := 3) (want := true) rfl rfl rfl rfl (bl_isx e9) rfl rfl rfl ?_
        refine j_guard_no2 (j := 3) (want := true) rfl rfl rfl rfl (bl_isx e9) rfl rfl rfl ?_
        refine j_pure (PJ.eqv (R := bl) (pj_pick (t := any) (has_tmp rfl) (fun he => absurd (e9.symm.trans he) (by decide)) (fun _ => has_bl)) (Option.some.inj e10)) rfl rfl rfl ?_
        exact j_to (.cons (.of_lk rfl) <| .cons (.of_lk rfl) <| .cons (.of_lk rfl) <| .nil) (.cons .here <| .nil) (J ())
  · refine run_cond (has_tmp rfl) (fun e3 => ?_) (fun e3 => ?_)
    · replace h := bt e3 e6
      refine run_text ?_
      refine j_pure (pj_move (has_tmp rfl)) rfl rfl rfl ?_
      refine j_pure (pj_move (has_tmp rfl)) rfl rfl rfl ?_
      refine j_pure (pj_move (has_tmp rfl)) rfl rfl rfl ?_
      refine j_pure (pj_len_sl (sz := 67) (has_tmp rfl) (by kernel_rfl)) rfl rfl rfl ?_
      refine j_pure (pj_isub (has_tmp rfl) has_i64) rfl rfl rfl ?_
      obtain ⟨x2, e4, h⟩ := bind_some h
      refine j_pure (pj_index_slx (has_tmp rfl) (has_tmp rfl) isInt_i64 e4 (by kernel_rfl)) rfl rfl rfl ?_
      refine j_pure (pj_load_to (has_tmp rfl) (by kernel_rfl)) rfl rfl rfl ?_
      obtain ⟨r2, e5, h⟩ := bind_some h
      refine j_pure (pj_call (hasL_cons (has_tmp rfl) <| hasL_cons (has_tmp rfl) <| hasL_nil) (by kernel_rfl) (c_rolodexref14_Commit e5)) rfl rfl rfl ?_
      refine j_pure (pj_field_ptr (off := 34) (has_tmp rfl) (by kernel_rfl)) rfl rfl rfl ?_
      refine j_store_boxx (r' := (x1.1, x1.2.1, x1.2.2.1, r2, x1.2.2.2.2)) (has_tmp rfl) (has_tmp rfl) .here (Path.then (Path.all R_rolodexref14_Version) (Path.then (Path.snd i64 (prod i64 (prod R_api_Hash (prod R_api_Hash (sl u8))))) (Path.then (Path.snd i64 (prod R_api_Hash (prod R_api_Hash (sl u8)))) (Path.then (Path.snd R_api_Hash (prod R_api_Hash (sl u8))) (Path.fst R_api_Hash (sl u8)))))) (by kernel_rfl) rfl ?_
      refine j_end ?_
      obtain rfl := Option.some.inj h
      exact run_to (.cons (.of_lk rfl) <| .cons (.of_lk rfl) <| .cons (.of_lk rfl) <| .nil) (.cons .here <| .nil) (J ())
    · replace h := bf e3 e6
      refine run_skip ?_
      obtain rfl := Option.some.inj h
      exact run_to (.cons (.of_lk rfl) <| .cons (.of_lk rfl) <| .cons (.of_lk rfl) <| .nil) (.cons .here <| .nil) (J ())
set_option maxRecDepth 100000 in
set_option maxHeartbeats 4000000 in
theorem c_rolodexref01_Same {G : GP} {p_a : List (BitVec 8)} {p_b : List (BitVec 8)} {r : Bool} (h : rolodexref01_Same p_a p_b = some r) : Ctr Tryd.prog G 26 [(sl u8).slot p_a, (sl u8).slot p_b] [] (fun (_ : Unit) => bl.slot r) (fun (_ : Unit) => []) := by
  unfold rolodexref01_Same at h
  refine ctr_of_run Tryd.func26 rfl 26 rfl rfl fun m0 w0 b0 => ?_
  refine run_ret0 fun Qf hq1 hq2 => ?_
  show Run _ _ _ [(0, (sl u8).slot p_a), (1, (sl u8).slot p_b)] _
  refine run_seq ?_
  refine run_text ?_
  refine j_pure (pj_assign has_bl) rfl rfl rfl ?_
  refine j_end ?_
  refine run_seq ?_
  refine run_seq ?_
  refine run_text ?_
  refine j_pure (pj_move (has_tmp rfl)) rfl rfl rfl ?_
  refine j_pure (pj_len_sl (sz := 1) (has_tmp rfl) (by kernel_rfl)) rfl rfl rfl ?_
  refine j_pure (pj_move (has_tmp rfl)) rfl rfl rfl ?_
  refine j_pure (pj_len_sl (sz := 1) (has_tmp rfl) (by kernel_rfl)) rfl rfl rfl ?_
  refine j_pure (pj_ineq (has_tmp rfl) (has_tmp rfl)) rfl rfl rfl ?_
  refine j_end ?_
  refine run_cond (has_tmp rfl) (fun e1 => ?_) (fun e1 => ?_)
  · replace h := bt e1 h
    refine run_seq ?_
    refine run_text ?_
    refine j_pure (pj_assign has_bl) rfl rfl rfl ?_
    refine j_end ?_
    obtain rfl := Option.some.inj h
    exact run_ret fun a w hst => q_ret1 hst rfl (.tmp rfl) () (fun _ _ h => h) (.nil)
  · replace h := bf e1 h
    refine run_skip ?_
    refine run_seq ?_
    refine run_seq ?_
    refine run_text ?_
    refine j_pure (pj_assign has_i64) rfl rfl rfl ?_
    refine j_end ?_
    obtain ⟨o, e6, h⟩ := bind_some h
    refine run_loop (Γi := fun (i : Unit) (s : Int) => [(0, (sl u8).slot p_a), (1, (sl u8).slot p_b), (5, i64.slot s)]) (Hi := fun (i : Unit) (s : Int) => []) (R := fun x a w => x = r → Qf a w) e6 () (fun a w hst => (hst.sub (.cons (.of_lk rfl) <| .cons (.of_lk rfl) <| .cons (.of_lk rfl) <| .nil)).keep (.nil)) ?_ ?_ ?_
    · clear h e6
      rintro _ y1 lr h
      change rolodexref01_Same_L1 p_a p_b y1 = some _ at h
      show Run _ _ _ [(0, (sl u8).slot p_a), (1, (sl u8).slot p_b), (5, i64.slot y1)] []
      unfold rolodexref01_Same_L1 at h
      refine run_seq ?_
      refine run_seq ?_
      refine run_text ?_
      refine j_pure (pj_move (has_tmp rfl)) rfl rfl rfl ?_
      refine j_pure (pj_move (has_tmp rfl)) rfl rfl rfl ?_
      refine j_pure (pj_len_sl (sz := 1) (has_tmp rfl) (by kernel_rfl)) rfl rfl rfl ?_
      refine j_pure (pj_ilss (has_tmp rfl) (has_tmp rfl)) rfl rfl rfl ?_
      refine j_end ?_
      refine run_cond (has_tmp rfl) (fun e2 => ?_) (fun e2 => ?_)
      · replace h := bt e2 h
        refine run_skip ?_
        refine run_seq ?_
        refine run_block ?_
        refine run_seq ?_
        obtain ⟨x1, e3, h⟩ := bind_some h
        obtain ⟨x2, e4, h⟩ := bind_some h
        refine run_draw (n := 9) (by kernel_rfl) (by kernel_rfl) (by kernel_rfl) (by kernel_rfl) (.read (.plain rfl (pj_move (has_tmp rfl))) <| .read (.plain rfl (pj_move (has_tmp rfl))) <| .read (.plain rfl (pj_index_slx (has_tmp rfl) (has_tmp rfl) isInt_i64 e3 (by kernel_rfl))) <| .read (.plain rfl (pj_load_to (has_tmp rfl) (by kernel_rfl))) <| .read (.plain rfl (pj_move (has_tmp rfl))) <| .read (.plain rfl (pj_move (has_tmp rfl))) <| .read (.plain rfl (pj_index_slx (has_tmp rfl) (has_tmp rfl) isInt_i64 e4 (by kernel_rfl))) <| .read (.plain rfl (pj_load_to (has_tmp rfl) (by kernel_rfl))) <| .read (.plain rfl (pj_uneq (k := .u8) (b := 8) (has_tmp rfl) (has_tmp rfl))) <| .nil) (j_to (Γ' := [(0, (sl u8).slot p_a), (1, (sl u8).slot p_b), (5, i64.slot y1), (25, bl.slot (!decide (x1 = x2)))]) (H' := []) (.cons (.of_lk rfl) <| .cons (.of_lk rfl) <| .cons (.of_lk rfl) <| .cons (.of_lk rfl) <| .nil) (.nil) ?_)
        refine j_end ?_
        refine run_cond (has_tmp rfl) (fun e5 => ?_) (fun e5 => ?_)
        · replace h := bt e5 h
          refine run_seq ?_
          refine run_text ?_
          refine j_pure (pj_assign has_bl) rfl rfl rfl ?_
          refine j_end ?_
          obtain rfl := Option.some.inj h
          refine run_ret fun a w hst => ⟨rfl, fun hr => ?_⟩
          subst hr
          exact hq2 a w (q_ret1 hst rfl (.tmp rfl) () (fun _ _ h => h) (.nil))
        · replace h := bf e5 h
          refine run_skip ?_
          refine run_endblock ?_
          refine run_text ?_
          refine j_pure (pj_move (has_tmp rfl)) rfl rfl rfl ?_
          refine j_pure (pj_iadd (has_tmp rfl) has_i64) rfl rfl rfl ?_
          refine j_pure (pj_assign (has_tmp rfl)) rfl rfl rfl ?_
          refine j_end ?_
          obtain rfl := Option.some.inj h
          exact run_next () (.cons (.of_lk rfl) <| .cons (.of_lk rfl) <| .cons (.of_lk rfl) <| .nil) (.nil)
      · replace h := bf e2 h
        obtain rfl := Option.some.inj h
        exact run_brk () (.cons (.of_lk rfl) <| .cons (.of_lk rfl) <| .cons (.of_lk rfl) <| .nil) (.nil)
    · rintro _ y2 ho
      subst ho
      show Run _ _ _ [(0, (sl u8).slot p_a), (1, (sl u8).slot p_b), (5, i64.slot y2)] []
      refine run_to (Γ' := []) (H' := []) (.nil) (.nil) ?_
      refine run_seq ?_
      refine run_text ?_
      refine j_pure (pj_assign has_bl) rfl rfl rfl ?_
      refine j_end ?_
      obtain rfl := Option.some.inj h
      exact run_ret fun a w hst => q_ret1 hst rfl (.tmp rfl) () (fun _ _ h => h) (.nil)
    · intro x a w ho hR
      subst ho
      exact hq1 a w (hR (Option.some.inj h))
set_option maxRecDepth 100000 in
set_option maxHeartbeats 4000000 in
theorem c_rolodexref14_One {G : GP} {p_a : T_rolodexref14_Version} {p_b : T_rolodexref14_Version} {r : Bool} (h : rolodexref14_One p_a p_b = some r) : Ctr Tryd.prog G 50 [R_rolodexref14_Version.slot p_a, R_rolodexref14_Version.slot p_b] [] (fun (_ : Unit) => bl.slot r) (fun (_ : Unit) => []) := by
  unfold rolodexref14_One at h
  refine ctr_of_run Tryd.func50 rfl 38 rfl rfl fun m0 w0 b0 => ?_
  show Run _ _ _ [(0, R_rolodexref14_Version.slot p_a), (1, R_rolodexref14_Version.slot p_b)] _
  refine run_seq ?_
  refine run_text ?_
  refine j_pure (pj_box_to (has_tmp rfl)) rfl rfl rfl ?_
  refine j_pure (pj_box_to (has_tmp rfl)) rfl rfl rfl ?_
  refine j_pure (pj_assign has_bl) rfl rfl rfl ?_
  refine j_end ?_
  refine run_seq ?_
  refine run_text ?_
  refine j_pure (pj_field_to (has_tmp rfl) (Path.fst i64 (prod i64 (prod R_api_Hash (prod R_api_Hash (sl u8))))) (by kernel_rfl)) rfl rfl rfl ?_
  refine j_pure (pj_load_to (has_tmp rfl) (by kernel_rfl)) rfl rfl rfl ?_
  refine j_pure (pj_field_to (has_tmp rfl) (Path.fst i64 (prod i64 (prod R_api_Hash (prod R_api_Hash (sl u8))))) (by kernel_rfl)) rfl rfl rfl ?_
  refine j_pure (pj_load_to (has_tmp rfl) (by kernel_rfl)) rfl rfl rfl ?_
  refine j_pure (pj_ieql (has_tmp rfl) (has_tmp rfl)) rfl rfl rfl ?_
  refine j_pure (pj_move (has_tmp rfl)) rfl rfl rfl ?_
  obtain ⟨y1, e2, h⟩ := bind_some h
  refine j_joinx (ι := Unit) (Γ' := fun _ => [(2, ptrTo R_rolodexref14_Version p_a), (3, ptrTo R_rolodexref14_Version p_b), (16, bl.slot y1)]) (H' := fun _ => []) 6 ?_ fun J => ?_
  · intro _
    clear e2
    show OpsJ _ _ _ [(2, ptrTo R_rolodexref14_Version p_a), (3, ptrTo R_rolodexref14_Version p_b), (16, bl.slot y1)] [] _
    refine j_pure (pj_move (has_tmp rfl)) rfl rfl rfl ?_
    obtain ⟨y2, e4, h⟩ := bind_some h
    refine j_joinx (ι := Unit) (Γ' := fun _ => [(2, ptrTo R_rolodexref14_Version p_a), (3, ptrTo R_rolodexref14_Version p_b), (23, bl.slot y2)]) (H' := fun _ => []) 6 ?_ fun J => ?_
    · intro _
      clear e4
      show OpsJ _ _ _ [(2, ptrTo R_rolodexref14_Version p_a), (3, ptrTo R_rolodexref14_Version p_b), (23, bl.slot y2)] [] _
      refine j_pure (pj_move (has_tmp rfl)) rfl rfl rfl ?_
      obtain ⟨y3, e6, h⟩ := bind_some h
      refine j_joinx (ι := Unit) (Γ' := fun _ => [(2, ptrTo R_rolodexref14_Version p_a), (3, ptrTo R_rolodexref14_Version p_b), (30, bl.slot y3)]) (H' := fun _ => []) 6 ?_ fun J => ?_
      · intro _
        clear e6
        show OpsJ _ _ _ [(2, ptrTo R_rolodexref14_Version p_a), (3, ptrTo R_rolodexref14_Version p_b), (30, bl.slot y3)] [] _
        refine j_pure (pj_move (has_tmp rfl)) rfl rfl rfl ?_
        obtain ⟨y4, e8, h⟩ := bind_some h
        refine j_joinx (ι := Unit) (Γ' := fun _ => [(37, bl.slot y4)]) (H' := fun _ => []) 6 ?_ fun J => ?_
        · intro _
          clear e8
          show OpsJ _ _ _ [(37, bl.slot y4)] [] _
          refine j_pure (pj_assign (has_tmp rfl)) rfl rfl rfl ?_
          refine j_end ?_
          obtain rfl := Option.some.inj h
          exact run_ret fun a w hst => q_ret1 hst rfl (.tmp rfl) () (fun _ _ h => h) (.nil)
        · rcases bool_tf (y3) with e7 | e7
          · replace e8 := bt e7 e8
            refine j_pure_y (pj_field_to (has_tmp rfl) (Path.then (Path.snd i64 (prod i64 (prod R_api_Hash (prod R_api_Hash (sl u8))))) (Path.then (Path.snd i64 (prod R_api_Hash (prod R_api_Hash (sl u8)))) (Path.then (Path.snd R_api_Hash (prod R_api_Hash (sl u8))) (Path.snd R_api_Hash (sl u8))))) (by kernel_rfl)) rfl rfl rfl rfl (bl_isx e7) rfl rfl ?_
            refine j_pure_y (pj_load_to (has_tmp rfl) (by kernel_rfl)) rfl rfl rfl rfl (bl_isx e7) rfl rfl ?_
            refine j_pure_y (pj_field_to (has_tmp rfl) (Path.then (Path.snd i64 (prod i64 (prod R_api_Hash (prod R_api_Hash (sl u8))))) (Path.then (Path.snd i64 (prod R_api_Hash (prod R_api_Hash (sl u8)))) (Path.then (Path.snd R_api_Hash (prod R_api_Hash (sl u8))) (Path.snd R_api_Hash (sl u8))))) (by kernel_rfl)) rfl rfl rfl rfl (bl_isx e7) rfl rfl ?_
            refine j_pure_y (pj_load_to (has_tmp rfl) (by kernel_rfl)) rfl rfl rfl rfl (bl_isx e7) rfl rfl ?_
            obtain ⟨r1, e9, e8⟩ := bind_some e8
            refine j_pure_y (pj_call (hasL_cons (has_tmp rfl) <| hasL_cons (has_tmp rfl) <| hasL_nil) (by kernel_rfl) (c_rolodexref01_Same e9)) rfl rfl rfl rfl (bl_isx e7) rfl rfl ?_
            refine j_pure (PJ.eqv (R := bl) (pj_pick (t := any) (has_tmp rfl) (fun _ => (has_tmp rfl)) (fun he => absurd (e7.symm.trans he) (by decide))) (Option.some.inj e8)) rfl rfl rfl ?_
            exact j_to (.cons (.of_lk rfl) <| .nil) (.nil) (J ())
          · replace e8 := bf e7 e8
            refine j_guard_no2 (j := 26) (want := true) rfl rfl rfl rfl (bl_isx e7) rfl rfl rfl ?_
            refine j_guard_no2 (j := 26) (want := true) rfl rfl rfl rfl (bl_isx e7) rfl rfl rfl ?_
            refine j_guard_no2 (j := 26) (want := true) rfl rfl rfl rfl (bl_isx e7) rfl rfl rfl ?_
            refine j_guard_no2 (j := 26) (want := true) rfl rfl rfl rfl (bl_isx e7) rfl rfl rfl ?_
            refine j_guard_no2 (j := 26) (want := true) rfl rfl rfl rfl (bl_isx e7) rfl rfl rfl ?_
            refine j_pure (PJ.eqv (R := bl) (pj_pick (t := any) (has_tmp rfl) (fun he => absurd (e7.symm.trans he) (by decide)) (fun _ => has_bl)) (Option.some.inj e8)) rfl rfl rfl ?_
            exact j_to (.cons (.of_lk rfl) <| .nil) (.nil) (J ())
      · rcases bool_tf (y2) with e5 | e5
        · replace e6 := bt e5 e6
          refine j_pure_y (pj_field_to (has_tmp rfl) (Path.then (Path.snd i64 (prod i64 (prod R_api_Hash (prod R_api_Hash (sl u8))))) (Path.then (Path.snd i64 (prod R_api_Hash (prod R_api_Hash (sl u8)))) (Path.then (Path.snd R_api_Hash (prod R_api_Hash (sl u8))) (Path.fst R_api_Hash (sl u8))))) (by kernel_rfl)) rfl rfl rfl rfl (bl_isx e5) rfl rfl ?_
          refine j_pure_y (pj_load_to (has_tmp rfl) (by kernel_rfl)) rfl rfl rfl rfl (bl_isx e5) rfl rfl ?_
          refine j_pure_y (pj_field_to (has_tmp rfl) (Path.then (Path.snd i64 (prod i64 (prod R_api_Hash (prod R_api_Hash (sl u8))))) (Path.then (Path.snd i64 (prod R_api_Hash (prod R_api_Hash (sl u8)))) (Path.then (Path.snd R_api_Hash (prod R_api_Hash (sl u8))) (Path.fst R_api_Hash (sl u8))))) (by kernel_rfl)) rfl rfl rfl rfl (bl_isx e5) rfl rfl ?_
          refine j_pure_y (pj_load_to (has_tmp rfl) (by kernel_rfl)) rfl rfl rfl rfl (bl_isx e5) rfl rfl ?_
          refine j_pure_y (pj_eql (n := 2) (eq_vec (e := 5) (by kernel_rfl) (by kernel_rfl) (eq_un (by kernel_rfl))) (by decide) rfl (by kernel_rfl) (has_tmp rfl) (has_tmp rfl)) rfl rfl rfl rfl (bl_isx e5) rfl rfl ?_
          refine j_pure (PJ.eqv (R := bl) (pj_pick (t := any) (has_tmp rfl) (fun _ => (has_tmp rfl)) (fun he => absurd (e5.symm.trans he) (by decide))) (Option.some.inj e6)) rfl rfl rfl ?_
          exact j_to (.cons (.of_lk rfl) <| .cons (.of_lk rfl) <| .cons (.of_lk rfl) <| .nil) (.nil) (J ())
        · replace e6 := bf e5 e6
          refine j_guard_no2 (j := 19) (want := true) rfl rfl rfl rfl (bl_isx e5) rfl rfl rfl ?_
          refine j_guard_no2 (j := 19) (want := true) rfl rfl rfl rfl (bl_isx e5) rfl rfl rfl ?_
          refine j_guard_no2 (j := 19) (want := true) rfl rfl rfl rfl (bl_isx e5) rfl rfl rfl ?_
          refine j_guard_no2 (j := 19) (want := true) rfl rfl rfl rfl (bl_isx e5) rfl rfl rfl ?_
          refine j_guard_no2 (j := 19) (want := true) rfl rfl rfl rfl (bl_isx e5) rfl rfl rfl ?_
          refine j_pure (PJ.eqv (R := bl) (pj_pick (t := any) (has_tmp rfl) (fun he => absurd (e5.symm.trans he) (by decide)) (fun _ => has_bl)) (Option.some.inj e6)) rfl rfl rfl ?_
          exact j_to (.cons (.of_lk rfl) <| .cons (.of_lk rfl) <| .cons (.of_lk rfl) <| .nil) (.nil) (J ())
    · rcases bool_tf (y1) with e3 | e3
      · replace e4 := bt e3 e4
        refine j_pure_y (pj_field_to (has_tmp rfl) (Path.then (Path.snd i64 (prod i64 (prod R_api_Hash (prod R_api_Hash (sl u8))))) (Path.then (Path.snd i64 (prod R_api_Hash (prod R_api_Hash (sl u8)))) (Path.fst R_api_Hash (prod R_api_Hash (sl u8))))) (by kernel_rfl)) rfl rfl rfl rfl (bl_isx e3) rfl rfl ?_
        refine j_pure_y (pj_load_to (has_tmp rfl) (by kernel_rfl)) rfl rfl rfl rfl (bl_isx e3) rfl rfl ?_
        refine j_pure_y (pj_field_to (has_tmp rfl) (Path.then (Path.snd i64 (prod i64 (prod R_api_Hash (prod R_api_Hash (sl u8))))) (Path.then (Path.snd i64 (prod R_api_Hash (prod R_api_Hash (sl u8)))) (Path.fst R_api_Hash (prod R_api_Hash (sl u8))))) (by kernel_rfl)) rfl rfl rfl rfl (bl_isx e3) rfl rfl ?_
        refine j_pure_y (pj_load_to (has_tmp rfl) (by kernel_rfl)) rfl rfl rfl rfl (bl_isx e3) rfl rfl ?_
        refine j_pure_y (pj_eql (n := 2) (eq_vec (e := 5) (by kernel_rfl) (by kernel_rfl) (eq_un (by kernel_rfl))) (by decide) rfl (by kernel_rfl) (has_tmp rfl) (has_tmp rfl)) rfl rfl rfl rfl (bl_isx e3) rfl rfl ?_
        refine j_pure (PJ.eqv (R := bl) (pj_pick (t := any) (has_tmp rfl) (fun _ => (has_tmp rfl)) (fun he => absurd (e3.symm.trans he) (by decide))) (Option.some.inj e4)) rfl rfl rfl ?_
        exact j_to (.cons (.of_lk rfl) <| .cons (.of_lk rfl) <| .cons (.of_lk rfl) <| .nil) (.nil) (J ())
      · replace e4 := bf e3 e4
        refine j_guard_no2 (j := 12) (want := true) rfl rfl rfl rfl (bl_isx e3) rfl rfl rfl ?_
        refine j_guard_no2 (j := 12) (want := true) rfl rfl rfl rfl (bl_isx e3) rfl rfl rfl ?_
        refine j_guard_no2 (j := 12) (want := true) rfl rfl rfl rfl (bl_isx e3) rfl rfl rfl ?_
        refine j_guard_no2 (j := 12) (want := true) rfl rfl rfl rfl (bl_isx e3) rfl rfl rfl ?_
        refine j_guard_no2 (j := 12) (want := true) rfl rfl rfl rfl (bl_isx e3) rfl rfl rfl ?_
        refine j_pure (PJ.eqv (R := bl) (pj_pick (t := any) (has_tmp rfl) (fun he => absurd (e3.symm.trans he) (by decide)) (fun _ => has_bl)) (Option.some.inj e4)) rfl rfl rfl ?_
        exact j_to (.cons (.of_lk rfl) <| .cons (.of_lk rfl) <| .cons (.of_lk rfl) <| .nil) (.nil) (J ())
  · rcases bool_tf (decide (p_a.1 = p_b.1)) with e1 | e1
    · replace e2 := bt e1 e2
      refine j_pure_y (pj_field_to (has_tmp rfl) (Path.then (Path.snd i64 (prod i64 (prod R_api_Hash (prod R_api_Hash (sl u8))))) (Path.fst i64 (prod R_api_Hash (prod R_api_Hash (sl u8))))) (by kernel_rfl)) rfl rfl rfl rfl (bl_isx e1) rfl rfl ?_
      refine j_pure_y (pj_load_to (has_tmp rfl) (by kernel_rfl)) rfl rfl rfl rfl (bl_isx e1) rfl rfl ?_
      refine j_pure_y (pj_field_to (has_tmp rfl) (Path.then (Path.snd i64 (prod i64 (prod R_api_Hash (prod R_api_Hash (sl u8))))) (Path.fst i64 (prod R_api_Hash (prod R_api_Hash (sl u8))))) (by kernel_rfl)) rfl rfl rfl rfl (bl_isx e1) rfl rfl ?_
      refine j_pure_y (pj_load_to (has_tmp rfl) (by kernel_rfl)) rfl rfl rfl rfl (bl_isx e1) rfl rfl ?_
      refine j_pure_y (pj_ieql (has_tmp rfl) (has_tmp rfl)) rfl rfl rfl rfl (bl_isx e1) rfl rfl ?_
      refine j_pure (PJ.eqv (R := bl) (pj_pick (t := any) (has_tmp rfl) (fun _ => (has_tmp rfl)) (fun he => absurd (e1.symm.trans he) (by decide))) (Option.some.inj e2)) rfl rfl rfl ?_
      exact j_to (.cons (.of_lk rfl) <| .cons (.of_lk rfl) <| .cons (.of_lk rfl) <| .nil) (.nil) (J ())
    · replace e2 := bf e1 e2
      refine j_guard_no2 (j := 5) (want := true) rfl rfl rfl rfl (bl_isx e1) rfl rfl rfl ?_
      refine j_guard_no2 (j := 5) (want := true) rfl rfl rfl rfl (bl_isx e1) rfl rfl rfl ?_
      refine j_guard_no2 (j := 5) (want := true) rfl rfl rfl rfl (bl_isx e1) rfl rfl rfl ?_
      refine j_guard_no2 (j := 5) (want := true) rfl rfl rfl rfl (bl_isx e1) rfl rfl rfl ?_
      refine j_guard_no2 (j := 5) (want := true) rfl rfl rfl rfl (bl_isx e1) rfl rfl rfl ?_
      refine j_pure (PJ.eqv (R := bl) (pj_pick (t := any) (has_tmp rfl) (fun he => absurd (e1.symm.trans he) (by decide)) (fun _ => has_bl)) (Option.some.inj e2)) rfl rfl rfl ?_
      exact j_to (.cons (.of_lk rfl) <| .cons (.of_lk rfl) <| .cons (.of_lk rfl) <| .nil) (.nil) (J ())
set_option maxRecDepth 100000 in
set_option maxHeartbeats 4000000 in
theorem c_rolodexref14_Same {G : GP} {p_a : List T_rolodexref14_Version} {p_b : List T_rolodexref14_Version} {r : Bool} (h : rolodexref14_Same p_a p_b = some r) : Ctr Tryd.prog G 18 [(sl R_rolodexref14_Version).slot p_a, (sl R_rolodexref14_Version).slot p_b] [] (fun (_ : Unit) => bl.slot r) (fun (_ : Unit) => []) := by
  unfold rolodexref14_Same at h
  refine ctr_of_run Tryd.func18 rfl 27 rfl rfl fun m0 w0 b0 => ?_
  refine run_ret0 fun Qf hq1 hq2 => ?_
  show Run _ _ _ [(0, (sl R_rolodexref14_Version).slot p_a), (1, (sl R_rolodexref14_Version).slot p_b)] _
  refine run_seq ?_
  refine run_text ?_
  refine j_pure (pj_assign has_bl) rfl rfl rfl ?_
  refine j_end ?_
  refine run_seq ?_
  refine run_seq ?_
  refine run_text ?_
  refine j_pure (pj_move (has_tmp rfl)) rfl rfl rfl ?_
  refine j_pure (pj_len_sl (sz := 67) (has_tmp rfl) (by kernel_rfl)) rfl rfl rfl ?_
  refine j_pure (pj_move (has_tmp rfl)) rfl rfl rfl ?_
  refine j_pure (pj_len_sl (sz := 67) (has_tmp rfl) (by kernel_rfl)) rfl rfl rfl ?_
  refine j_pure (pj_ineq (has_tmp rfl) (has_tmp rfl)) rfl rfl rfl ?_
  refine j_end ?_
  refine run_cond (has_tmp rfl) (fun e1 => ?_) (fun e1 => ?_)
  · replace h := bt e1 h
    refine run_seq ?_
    refine run_text ?_
    refine j_pure (pj_assign has_bl) rfl rfl rfl ?_
    refine j_end ?_
    obtain rfl := Option.some.inj h
    exact run_ret fun a w hst => q_ret1 hst rfl (.tmp rfl) () (fun _ _ h => h) (.nil)
  · replace h := bf e1 h
    refine run_skip ?_
    refine run_seq ?_
    refine run_seq ?_
    refine run_text ?_
    refine j_pure (pj_assign has_i64) rfl rfl rfl ?_
    refine j_end ?_
    obtain ⟨o, e7, h⟩ := bind_some h
    refine run_loop (Γi := fun (i : Unit) (s : Int) => [(0, (sl R_rolodexref14_Version).slot p_a), (1, (sl R_rolodexref14_Version).slot p_b), (5, i64.slot s)]) (Hi := fun (i : Unit) (s : Int) => []) (R := fun x a w => x = r → Qf a w) e7 () (fun a w hst => (hst.sub (.cons (.of_lk rfl) <| .cons (.of_lk rfl) <| .cons (.of_lk rfl) <| .nil)).keep (.nil)) ?_ ?_ ?_
    · clear h e7
      rintro _ y1 lr h
      change rolodexref14_Same_L1 p_a p_b y1 = some _ at h
      show Run _ _ _ [(0, (sl R_rolodexref14_Version).slot p_a), (1, (sl R_rolodexref14_Version).slot p_b), (5, i64.slot y1)] []
      unfold rolodexref14_Same_L1 at h
      refine run_seq ?_
      refine run_seq ?_
      refine run_text ?_
      refine j_pure (pj_move (has_tmp rfl)) rfl rfl rfl ?_
      refine j_pure (pj_move (has_tmp rfl)) rfl rfl rfl ?_
      refine j_pure (pj_len_sl (sz := 67) (has_tmp rfl) (by kernel_rfl)) rfl rfl rfl ?_
      refine j_pure (pj_ilss (has_tmp rfl) (has_tmp rfl)) rfl rfl rfl ?_
      refine j_end ?_
      refine run_cond (has_tmp rfl) (fun e2 => ?_) (fun e2 => ?_)
      · replace h := bt e2 h
        refine run_skip ?_
        refine run_seq ?_
        refine run_block ?_
        refine run_seq ?_
        obtain ⟨x1, e3, h⟩ := bind_some h
        obtain ⟨x2, e4, h⟩ := bind_some h
        obtain ⟨r1, e5, h⟩ := bind_some h
        refine run_draw (n := 10) (by kernel_rfl) (by kernel_rfl) (by kernel_rfl) (by kernel_rfl) (.read (.plain rfl (pj_move (has_tmp rfl))) <| .read (.plain rfl (pj_move (has_tmp rfl))) <| .read (.plain rfl (pj_index_slx (has_tmp rfl) (has_tmp rfl) isInt_i64 e3 (by kernel_rfl))) <| .read (.plain rfl (pj_load_to (has_tmp rfl) (by kernel_rfl))) <| .read (.plain rfl (pj_move (has_tmp rfl))) <| .read (.plain rfl (pj_move (has_tmp rfl))) <| .read (.plain rfl (pj_index_slx (has_tmp rfl) (has_tmp rfl) isInt_i64 e4 (by kernel_rfl))) <| .read (.plain rfl (pj_load_to (has_tmp rfl) (by kernel_rfl))) <| .read (.plain rfl (pj_call (hasL_cons (has_tmp rfl) <| hasL_cons (has_tmp rfl) <| hasL_nil) (by kernel_rfl) (c_rolodexref14_One e5))) <| .read (.plain rfl (pj_not (has_tmp rfl))) <| .nil) (j_to (Γ' := [(0, (sl R_rolodexref14_Version).slot p_a), (1, (sl R_rolodexref14_Version).slot p_b), (5, i64.slot y1), (26, bl.slot (!r1))]) (H' := []) (.cons (.of_lk rfl) <| .cons (.of_lk rfl) <| .cons (.of_lk rfl) <| .cons (.of_lk rfl) <| .nil) (.nil) ?_)
        refine j_end ?_
        refine run_cond (has_tmp rfl) (fun e6 => ?_) (fun e6 => ?_)
        · replace h := bt e6 h
          refine run_seq ?_
          refine run_text ?_
          refine j_pure (pj_assign has_bl) rfl rfl rfl ?_
          refine j_end ?_
          obtain rfl := Option.some.inj h
          refine run_ret fun a w hst => ⟨rfl, fun hr => ?_⟩
          subst hr
          exact hq2 a w (q_ret1 hst rfl (.tmp rfl) () (fun _ _ h => h) (.nil))
        · replace h := bf e6 h
          refine run_skip ?_
          refine run_endblock ?_
          refine run_text ?_
          refine j_pure (pj_move (has_tmp rfl)) rfl rfl rfl ?_
          refine j_pure (pj_iadd (has_tmp rfl) has_i64) rfl rfl rfl ?_
          refine j_pure (pj_assign (has_tmp rfl)) rfl rfl rfl ?_
          refine j_end ?_
          obtain rfl := Option.some.inj h
          exact run_next () (.cons (.of_lk rfl) <| .cons (.of_lk rfl) <| .cons (.of_lk rfl) <| .nil) (.nil)
      · replace h := bf e2 h
        obtain rfl := Option.some.inj h
        exact run_brk () (.cons (.of_lk rfl) <| .cons (.of_lk rfl) <| .cons (.of_lk rfl) <| .nil) (.nil)
    · rintro _ y2 ho
      subst ho
      show Run _ _ _ [(0, (sl R_rolodexref14_Version).slot p_a), (1, (sl R_rolodexref14_Version).slot p_b), (5, i64.slot y2)] []
      refine run_to (Γ' := []) (H' := []) (.nil) (.nil) ?_
      refine run_seq ?_
      refine run_text ?_
      refine j_pure (pj_assign has_bl) rfl rfl rfl ?_
      refine j_end ?_
      obtain rfl := Option.some.inj h
      exact run_ret fun a w hst => q_ret1 hst rfl (.tmp rfl) () (fun _ _ h => h) (.nil)
    · intro x a w ho hR
      subst ho
      exact hq1 a w (hR (Option.some.inj h))
set_option maxRecDepth 100000 in
set_option maxHeartbeats 4000000 in
theorem c_rolodexlaw14_To {G : GP} {p_l : List T_chain_Version} {r : (List T_rolodexref14_Version)} (h : rolodexlaw14_To p_l = some r) : Ctr Tryd.prog G 19 [(sl R_chain_Version).slot p_l] [] (fun (u0 : Value) => ov u0) (fun (u0 : Value) => [own 41 R_rolodexref14_Version u0 r]) := by
  unfold rolodexlaw14_To at h
  refine ctr_of_run Tryd.func19 rfl 19 rfl rfl fun m0 w0 b0 => ?_
  show Run _ _ _ [(0, (sl R_chain_Version).slot p_l)] _
  refine run_seq ?_
  refine run_text ?_
  refine j_assign_nil (T := 41) R_rolodexref14_Version rfl fun v1 => ?_
  refine j_end ?_
  refine run_seq ?_
  refine run_text ?_
  refine j_assign_nil (T := 41) R_rolodexref14_Version rfl fun v2 => ?_
  refine j_end ?_
  refine run_seq ?_
  refine run_seq ?_
  refine run_text ?_
  refine j_pure (pj_assign has_i64) rfl rfl rfl ?_
  refine j_end ?_
  obtain ⟨⟨y3, y4⟩, e4, h⟩ := bind_some h
  refine run_loopS (Γi := fun (i : Value) (s : Int × (List T_rolodexref14_Version)) => [(0, (sl R_chain_Version).slot p_l), (3, ov i), (4, i64.slot s.1)]) (Hi := fun (i : Value) (s : Int × (List T_rolodexref14_Version)) => [own 41 R_rolodexref14_Version i s.2]) e4 v2 (fun a w hst => (hst.sub (.cons (.of_lk rfl) <| .cons (.of_lk rfl) <| .cons (.of_lk rfl) <| .nil)).keep (.cons .here <| .nil)) ?_ ?_
  · clear h e4
    rintro v3 ⟨y1, y2⟩ lr h
    change rolodexlaw14_To_L1 p_l y1 y2 = some _ at h
    show Run _ _ _ [(0, (sl R_chain_Version).slot p_l), (3, ov v3), (4, i64.slot y1)] [own 41 R_rolodexref14_Version v3 y2]
    unfold rolodexlaw14_To_L1 at h
    refine run_seq ?_
    refine run_seq ?_
    refine run_text ?_
    refine j_pure (pj_move (has_tmp rfl)) rfl rfl rfl ?_
    refine j_pure (pj_move (has_tmp rfl)) rfl rfl rfl ?_
    refine j_pure (pj_len_sl (sz := 67) (has_tmp rfl) (by kernel_rfl)) rfl rfl rfl ?_
    refine j_pure (pj_ilss (has_tmp rfl) (has_tmp rfl)) rfl rfl rfl ?_
    refine j_end ?_
    refine run_cond (has_tmp rfl) (fun e1 => ?_) (fun e1 => ?_)
    · replace h := bt e1 h
      refine run_skip ?_
      refine run_seq ?_
      refine run_block ?_
      refine run_text ?_
      refine j_pure (pj_move (has_tmp rfl)) rfl rfl rfl ?_
      refine j_pure (pj_move (has_tmp rfl)) rfl rfl rfl ?_
      refine j_pure (pj_move (has_tmp rfl)) rfl rfl rfl ?_
      obtain ⟨x1, e2, h⟩ := bind_some h
      refine j_pure (pj_index_slx (has_tmp rfl) (has_tmp rfl) isInt_i64 e2 (by kernel_rfl)) rfl rfl rfl ?_
      refine j_pure (pj_load_to (has_tmp rfl) (by kernel_rfl)) rfl rfl rfl ?_
      refine j_pure (pj_buildSlice (T := 41) (R := R_rolodexref14_Version) (.cons (has_tmp rfl) .nil) rfl (by kernel_rfl) (by kernel_rfl)) rfl rfl rfl ?_
      obtain ⟨e3, h⟩ := grd_some h
      refine j_append (T := 41) (E := 41) (has_tmp rfl) .here (src_data (has_tmp rfl)) (by kernel_rfl) (by kernel_rfl) e3 rfl fun v4 => ?_
      refine j_pure (pj_assign (has_tmp rfl)) rfl rfl rfl ?_
      refine j_end ?_
      refine run_endblock ?_
      refine run_text ?_
      refine j_pure (pj_move (has_tmp rfl)) rfl rfl rfl ?_
      refine j_pure (pj_iadd (has_tmp rfl) has_i64) rfl rfl rfl ?_
      refine j_pure (pj_assign (has_tmp rfl)) rfl rfl rfl ?_
      refine j_end ?_
      obtain rfl := Option.some.inj h
      exact run_next v4 (.cons (.of_lk rfl) <| .cons (.of_lk rfl) <| .cons (.of_lk rfl) <| .nil) (.cons .here <| .nil)
    · replace h := bf e1 h
      obtain rfl := Option.some.inj h
      exact run_brk v3 (.cons (.of_lk rfl) <| .cons (.of_lk rfl) <| .cons (.of_lk rfl) <| .nil) (.cons .here <| .nil)
  · rintro v5
    show Run _ _ _ [(0, (sl R_chain_Version).slot p_l), (3, ov v5), (4, i64.slot y3)] [own 41 R_rolodexref14_Version v5 y4]
    refine run_to (Γ' := [(3, ov v5)]) (H' := [own 41 R_rolodexref14_Version v5 y4]) (.cons (.of_lk rfl) <| .nil) (.cons .here <| .nil) ?_
    refine run_seq ?_
    refine run_text ?_
    refine j_pure (pj_move (has_tmp rfl)) rfl rfl rfl ?_
    refine j_pure (pj_assign (has_tmp rfl)) rfl rfl rfl ?_
    refine j_end ?_
    obtain rfl := Option.some.inj h
    exact run_ret fun a w hst => q_ret1 hst rfl (.tmp rfl) v5 (fun _ _ h => h) (.cons .here <| .nil)
set_option maxRecDepth 100000 in
set_option maxHeartbeats 4000000 in
theorem c_rolodexlaw14_ChainGrows {G : GP} (hg0 : HG0 G) (hg1 : HG1 G) {p_label : List (BitVec 8)} {p_l : List T_rolodexref14_Version} {p_g : T_rolodexlaw14_Grown} {r : Bool} (h : rolodexlaw14_ChainGrows p_label p_l p_g = some r) : Ctr Tryd.prog G 3 [(sl u8).slot p_label, (sl R_rolodexref14_Version).slot p_l, R_rolodexlaw14_Grown.slot p_g] [] (fun (_ : Unit) => bl.slot r) (fun (_ : Unit) => []) := by
  unfold rolodexlaw14_ChainGrows at h
  refine ctr_of_run Tryd.func3 rfl 72 rfl rfl fun m0 w0 b0 => ?_
  show Run _ _ _ [(0, (sl u8).slot p_label), (1, (sl R_rolodexref14_Version).slot p_l), (2, R_rolodexlaw14_Grown.slot p_g)] _
  refine run_seq ?_
  refine run_text ?_
  refine j_pure (pj_box_to (has_tmp rfl)) rfl rfl rfl ?_
  refine j_pure (pj_assign has_bl) rfl rfl rfl ?_
  refine j_end ?_
  refine run_seq ?_
  refine run_seq ?_
  refine run_text ?_
  obtain ⟨r1, e1, h⟩ := bind_some h
  refine j_pure (pj_call (hasL_nil) (by kernel_rfl) (c_rolodexlaw14_awake hg0 hg1 e1)) rfl rfl rfl ?_
  refine j_pure (pj_not (has_tmp rfl)) rfl rfl rfl ?_
  refine j_pure (pj_move (has_tmp rfl)) rfl rfl rfl ?_
  obtain ⟨y1, e3, h⟩ := bind_some h
  refine j_joinx (ι := Unit) (Γ' := fun _ => [(0, (sl u8).slot p_label), (1, (sl R_rolodexref14_Version).slot p_l), (5, ptrTo R_rolodexlaw14_Grown p_g), (18, bl.slot y1)]) (H' := fun _ => []) 4 ?_ fun J => ?_
  · intro _
    clear e3
    show OpsJ _ _ _ [(0, (sl u8).slot p_label), (1, (sl R_rolodexref14_Version).slot p_l), (5, ptrTo R_rolodexlaw14_Grown p_g), (18, bl.slot y1)] [] _
    refine j_pure (pj_move (has_tmp rfl)) rfl rfl rfl ?_
    obtain ⟨y2, e5, h⟩ := bind_some h
    refine j_joinx (ι := Unit) (Γ' := fun _ => [(0, (sl u8).slot p_label), (1, (sl R_rolodexref14_Version).slot p_l), (5, ptrTo R_rolodexlaw14_Grown p_g), (23, bl.slot y2)]) (H' := fun _ => []) 4 ?_ fun J => ?_
    · intro _
      clear e5
      show OpsJ _ _ _ [(0, (sl u8).slot p_label), (1, (sl R_rolodexref14_Version).slot p_l), (5, ptrTo R_rolodexlaw14_Grown p_g), (23, bl.slot y2)] [] _
      refine j_pure (pj_move (has_tmp rfl)) rfl rfl rfl ?_
      obtain ⟨y3, e8, h⟩ := bind_some h
      refine j_joinx (ι := Unit) (Γ' := fun _ => [(0, (sl u8).slot p_label), (1, (sl R_rolodexref14_Version).slot p_l), (5, ptrTo R_rolodexlaw14_Grown p_g), (29, bl.slot y3)]) (H' := fun _ => []) 5 ?_ fun J => ?_
      · intro _
        clear e8
        show OpsJ _ _ _ [(0, (sl u8).slot p_label), (1, (sl R_rolodexref14_Version).slot p_l), (5, ptrTo R_rolodexlaw14_Grown p_g), (29, bl.slot y3)] [] _
        refine j_end ?_
        refine run_cond (has_tmp rfl) (fun e9 => ?_) (fun e9 => ?_)
        · replace h := bt e9 h
          refine run_seq ?_
          refine run_text ?_
          obtain ⟨r3, e10, h⟩ := bind_some h
          refine j_pure (pj_call (hasL_nil) (by kernel_rfl) (c_rolodexlaw14_awake hg0 hg1 e10)) rfl rfl rfl ?_
          refine j_pure (pj_assign (has_tmp rfl)) rfl rfl rfl ?_
          refine j_end ?_
          obtain rfl := Option.some.inj h
          exact run_ret fun a w hst => q_ret1 hst rfl (.tmp rfl) () (fun _ _ h => h) (.nil)
        · replace h := bf e9 h
          refine run_skip ?_
          refine run_seq ?_
          refine run_text ?_
          refine j_pure (pj_move (has_tmp rfl)) rfl rfl rfl ?_
          obtain ⟨r4, e11, h⟩ := bind_some h
          refine j_pure (pj_call (hasL_cons (has_tmp rfl) <| hasL_nil) (by kernel_rfl) (Ctr.froze (c_rolodexlaw14_From e11))) rfl rfl rfl ?_
          refine j_pure (pj_assign (has_tmp rfl)) rfl rfl rfl ?_
          refine j_end ?_
          refine run_seq ?_
          refine run_text ?_
          refine j_pure (pj_field_to (has_tmp rfl) (Path.fst R_api_Hash (prod i64 (sl u8))) (by kernel_rfl)) rfl rfl rfl ?_
          refine j_pure (pj_load_to (has_tmp rfl) (by kernel_rfl)) rfl rfl rfl ?_
          refine j_pure (pj_move (has_tmp rfl)) rfl rfl rfl ?_
          refine j_pure (pj_move (has_tmp rfl)) rfl rfl rfl ?_
          refine j_pure (pj_field_to (has_tmp rfl) (Path.then (Path.snd R_api_Hash (prod i64 (sl u8))) (Path.fst i64 (sl u8))) (by kernel_rfl)) rfl rfl rfl ?_
          refine j_pure (pj_load_to (has_tmp rfl) (by kernel_rfl)) rfl rfl rfl ?_
          refine j_pure (pj_field_to (has_tmp rfl) (Path.then (Path.snd R_api_Hash (prod i64 (sl u8))) (Path.snd i64 (sl u8))) (by kernel_rfl)) rfl rfl rfl ?_
          refine j_pure (pj_load_to (has_tmp rfl) (by kernel_rfl)) rfl rfl rfl ?_
          obtain ⟨r5, e12, h⟩ := bind_some h
          refine j_pure (pj_call (hasL_cons (has_tmp rfl) <| hasL_cons (has_tmp rfl) <| hasL_cons (has_tmp rfl) <| hasL_cons (has_tmp rfl) <| hasL_cons (has_tmp rfl) <| hasL_nil) (by kernel_rfl) (Ctr.froze2 (c_chain_Grow hg0 hg1 e12))) rfl rfl rfl ?_
          refine j_pure (pj_move (has_tmp rfl)) rfl rfl rfl ?_
          refine j_pure (pj_extract (has_tmp rfl) rfl) rfl rfl rfl ?_
          refine j_pure (pj_extract (has_tmp rfl) rfl) rfl rfl rfl ?_
          refine j_pure (pj_assign (has_tmp rfl)) rfl rfl rfl ?_
          refine j_pure (pj_assign (has_tmp rfl)) rfl rfl rfl ?_
          refine j_end ?_
          refine run_seq ?_
          refine run_text ?_
          refine j_pure (pj_field_to (has_tmp rfl) (Path.fst R_api_Hash (prod i64 (sl u8))) (by kernel_rfl)) rfl rfl rfl ?_
          refine j_pure (pj_load_to (has_tmp rfl) (by kernel_rfl)) rfl rfl rfl ?_
          refine j_pure (pj_move (has_tmp rfl)) rfl rfl rfl ?_
          refine j_pure (pj_move (has_tmp rfl)) rfl rfl rfl ?_
          refine j_pure (pj_field_to (has_tmp rfl) (Path.then (Path.snd R_api_Hash (prod i64 (sl u8))) (Path.fst i64 (sl u8))) (by kernel_rfl)) rfl rfl rfl ?_
          refine j_pure (pj_load_to (has_tmp rfl) (by kernel_rfl)) rfl rfl rfl ?_
          refine j_pure (pj_field_to (has_tmp rfl) (Path.then (Path.snd R_api_Hash (prod i64 (sl u8))) (Path.snd i64 (sl u8))) (by kernel_rfl)) rfl rfl rfl ?_
          refine j_pure (pj_load_to (has_tmp rfl) (by kernel_rfl)) rfl rfl rfl ?_
          obtain ⟨r6, e13, h⟩ := bind_some h
          refine j_pure (pj_call (hasL_cons (has_tmp rfl) <| hasL_cons (has_tmp rfl) <| hasL_cons (has_tmp rfl) <| hasL_cons (has_tmp rfl) <| hasL_cons (has_tmp rfl) <| hasL_nil) (by kernel_rfl) (Ctr.froze2 (c_rolodexref14_Grow e13))) rfl rfl rfl ?_
          refine j_pure (pj_move (has_tmp rfl)) rfl rfl rfl ?_
          refine j_pure (pj_extract (has_tmp rfl) rfl) rfl rfl rfl ?_
          refine j_pure (pj_extract (has_tmp rfl) rfl) rfl rfl rfl ?_
          refine j_pure (pj_assign (has_tmp rfl)) rfl rfl rfl ?_
          refine j_pure (pj_assign (has_tmp rfl)) rfl rfl rfl ?_
          refine j_end ?_
          refine run_seq ?_
          refine run_text ?_
          refine j_pure (pj_move (has_tmp rfl)) rfl rfl rfl ?_
          refine j_pure (pj_move (has_tmp rfl)) rfl rfl rfl ?_
          refine j_pure (pj_ieql (has_tmp rfl) (has_tmp rfl)) rfl rfl rfl ?_
          refine j_pure (pj_move (has_tmp rfl)) rfl rfl rfl ?_
          obtain ⟨y4, e15, h⟩ := bind_some h
          refine j_joinx (ι := Unit) (Γ' := fun _ => [(1, (sl R_rolodexref14_Version).slot p_l), (7, (sl R_chain_Version).slot r4), (65, bl.slot y4)]) (H' := fun _ => []) 5 ?_ fun J => ?_
          · intro _
            clear e15
            show OpsJ _ _ _ [(1, (sl R_rolodexref14_Version).slot p_l), (7, (sl R_chain_Version).slot r4), (65, bl.slot y4)] [] _
            refine j_pure (pj_move (has_tmp rfl)) rfl rfl rfl ?_
            obtain ⟨y5, e19, h⟩ := bind_some h
            refine j_joinx (ι := Unit) (Γ' := fun _ => [(71, bl.slot y5)]) (H' := fun _ => []) 5 ?_ fun J => ?_
            · intro _
              clear e19
              show OpsJ _ _ _ [(71, bl.slot y5)] [] _
              refine j_pure (pj_assign (has_tmp rfl)) rfl rfl rfl ?_
              refine j_end ?_
              obtain rfl := Option.some.inj h
              exact run_ret fun a w hst => q_ret1 hst rfl (.tmp rfl) () (fun _ _ h => h) (.nil)
            · rcases bool_tf (y4) with e18 | e18
              · replace e19 := bt e18 e19
                refine j_pure_y (pj_move (has_tmp rfl)) rfl rfl rfl rfl (bl_isx e18) rfl rfl ?_
                obtain ⟨r9, e20, e19⟩ := bind_some e19
                refine j_pure_y (pj_call (hasL_cons (has_tmp rfl) <| hasL_nil) (by kernel_rfl) (Ctr.froze (c_rolodexlaw14_To e20))) rfl rfl rfl rfl (bl_isx e18) rfl rfl ?_
                refine j_pure_y (pj_move (has_tmp rfl)) rfl rfl rfl rfl (bl_isx e18) rfl rfl ?_
                obtain ⟨r10, e21, e19⟩ := bind_some e19
                refine j_pure_y (pj_call (hasL_cons (has_tmp rfl) <| hasL_cons (has_tmp rfl) <| hasL_nil) (by kernel_rfl) (c_rolodexref14_Same e21)) rfl rfl rfl rfl (bl_isx e18) rfl rfl ?_
                refine j_pure (PJ.eqv (R := bl) (pj_pick (t := any) (has_tmp rfl) (fun _ => (has_tmp rfl)) (fun he => absurd (e18.symm.trans he) (by decide))) (Option.some.inj e19)) rfl rfl rfl ?_
                exact j_to (.cons (.of_lk rfl) <| .nil) (.nil) (J ())
              · replace e19 := bf e18 e19
                refine j_guard_no2 (j := 9) (want := true) rfl rfl rfl rfl (bl_isx e18) rfl rfl rfl ?_
                refine j_guard_no2 (j := 9) (want := true) rfl rfl rfl rfl (bl_isx e18) rfl rfl rfl ?_
                refine j_guard_no2 (j := 9) (want := true) rfl rfl rfl rfl (bl_isx e18) rfl rfl rfl ?_
                refine j_guard_no2 (j := 9) (want := true) rfl rfl rfl rfl (bl_isx e18) rfl rfl rfl ?_
                refine j_pure (PJ.eqv (R := bl) (pj_pick (t := any) (has_tmp rfl) (fun he => absurd (e18.symm.trans he) (by decide)) (fun _ => has_bl)) (Option.some.inj e19)) rfl rfl rfl ?_
                exact j_to (.cons (.of_lk rfl) <| .nil) (.nil) (J ())
          · rcases bool_tf (decide (r5.2 = r6.2)) with e14 | e14
            · replace e15 := bt e14 e15
              refine j_pure_y (pj_move (has_tmp rfl)) rfl rfl rfl rfl (bl_isx e14) rfl rfl ?_
              obtain ⟨r7, e16, e15⟩ := bind_some e15
              refine j_pure_y (pj_call (hasL_cons (has_tmp rfl) <| hasL_nil) (by kernel_rfl) (Ctr.froze (c_rolodexlaw14_To e16))) rfl rfl rfl rfl (bl_isx e14) rfl rfl ?_
              refine j_pure_y (pj_move (has_tmp rfl)) rfl rfl rfl rfl (bl_isx e14) rfl rfl ?_
              obtain ⟨r8, e17, e15⟩ := bind_some e15
              refine j_pure_y (pj_call (hasL_cons (has_tmp rfl) <| hasL_cons (has_tmp rfl) <| hasL_nil) (by kernel_rfl) (c_rolodexref14_Same e17)) rfl rfl rfl rfl (bl_isx e14) rfl rfl ?_
              refine j_pure (PJ.eqv (R := bl) (pj_pick (t := any) (has_tmp rfl) (fun _ => (has_tmp rfl)) (fun he => absurd (e14.symm.trans he) (by decide))) (Option.some.inj e15)) rfl rfl rfl ?_
              exact j_to (.cons (.of_lk rfl) <| .cons (.of_lk rfl) <| .cons (.of_lk rfl) <| .nil) (.nil) (J ())
            · replace e15 := bf e14 e15
              refine j_guard_no2 (j := 3) (want := true) rfl rfl rfl rfl (bl_isx e14) rfl rfl rfl ?_
              refine j_guard_no2 (j := 3) (want := true) rfl rfl rfl rfl (bl_isx e14) rfl rfl rfl ?_
              refine j_guard_no2 (j := 3) (want := true) rfl rfl rfl rfl (bl_isx e14) rfl rfl rfl ?_
              refine j_guard_no2 (j := 3) (want := true) rfl rfl rfl rfl (bl_isx e14) rfl rfl rfl ?_
              refine j_pure (PJ.eqv (R := bl) (pj_pick (t := any) (has_tmp rfl) (fun he => absurd (e14.symm.trans he) (by decide)) (fun _ => has_bl)) (Option.some.inj e15)) rfl rfl rfl ?_
              exact j_to (.cons (.of_lk rfl) <| .cons (.of_lk rfl) <| .cons (.of_lk rfl) <| .nil) (.nil) (J ())
      · rcases bool_tf (y2) with e7 | e7
        · replace e8 := bt e7 e8
          refine j_guard_no2 (j := 12) (want := false) rfl rfl rfl rfl (bl_isx e7) rfl rfl rfl ?_
          refine j_guard_no2 (j := 12) (want := false) rfl rfl rfl rfl (bl_isx e7) rfl rfl rfl ?_
          refine j_guard_no2 (j := 12) (want := false) rfl rfl rfl rfl (bl_isx e7) rfl rfl rfl ?_
          refine j_guard_no2 (j := 12) (want := false) rfl rfl rfl rfl (bl_isx e7) rfl rfl rfl ?_
          refine j_pure (PJ.eqv (R := bl) (pj_pick (t := any) (has_tmp rfl) (fun _ => has_bl) (fun he => absurd (e7.symm.trans he) (by decide))) (Option.some.inj e8)) rfl rfl rfl ?_
          exact j_to (.cons (.of_lk rfl) <| .cons (.of_lk rfl) <| .cons (.of_lk rfl) <| .cons (.of_lk rfl) <| .nil) (.nil) (J ())
        · replace e8 := bf e7 e8
          refine j_pure_y (pj_field_to (has_tmp rfl) (Path.then (Path.snd R_api_Hash (prod i64 (sl u8))) (Path.snd i64 (sl u8))) (by kernel_rfl)) rfl rfl rfl rfl (bl_isx e7) rfl rfl ?_
          refine j_pure_y (pj_load_to (has_tmp rfl) (by kernel_rfl)) rfl rfl rfl rfl (bl_isx e7) rfl rfl ?_
          refine j_pure_y (pj_len_sl (sz := 1) (has_tmp rfl) (by kernel_rfl)) rfl rfl rfl rfl (bl_isx e7) rfl rfl ?_
          refine j_pure_y (pj_igtr (has_tmp rfl) has_i64) rfl rfl rfl rfl (bl_isx e7) rfl rfl ?_
          refine j_pure (PJ.eqv (R := bl) (pj_pick (t := any) (has_tmp rfl) (fun he => absurd (e7.symm.trans he) (by decide)) (fun _ => (has_tmp rfl))) (Option.some.inj e8)) rfl rfl rfl ?_
          exact j_to (.cons (.of_lk rfl) <| .cons (.of_lk rfl) <| .cons (.of_lk rfl) <| .cons (.of_lk rfl) <| .nil) (.nil) (J ())
    · rcases bool_tf (y1) with e4 | e4
      · replace e5 := bt e4 e5
        refine j_guard_no2 (j := 7) (want := false) rfl rfl rfl rfl (bl_isx e4) rfl rfl rfl ?_
        refine j_guard_no2 (j := 7) (want := false) rfl rfl rfl rfl (bl_isx e4) rfl rfl rfl ?_
        refine j_guard_no2 (j := 7) (want := false) rfl rfl rfl rfl (bl_isx e4) rfl rfl rfl ?_
        refine j_pure (PJ.eqv (R := bl) (pj_pick (t := any) (has_tmp rfl) (fun _ => has_bl) (fun he => absurd (e4.symm.trans he) (by decide))) (Option.some.inj e5)) rfl rfl rfl ?_
        exact j_to (.cons (.of_lk rfl) <| .cons (.of_lk rfl) <| .cons (.of_lk rfl) <| .cons (.of_lk rfl) <| .nil) (.nil) (J ())
      · replace e5 := bf e4 e5
        refine j_pure_y (pj_move (has_tmp rfl)) rfl rfl rfl rfl (bl_isx e4) rfl rfl ?_
        obtain ⟨r2, e6, e5⟩ := bind_some e5
        refine j_pure_y (pj_call (hasL_cons (has_tmp rfl) <| hasL_cons has_i64 <| hasL_nil) (by kernel_rfl) (c_rolodexref14_Few e6)) rfl rfl rfl rfl (bl_isx e4) rfl rfl ?_
        refine j_pure_y (pj_not (has_tmp rfl)) rfl rfl rfl rfl (bl_isx e4) rfl rfl ?_
        refine j_pure (PJ.eqv (R := bl) (pj_pick (t := any) (has_tmp rfl) (fun he => absurd (e4.symm.trans he) (by decide)) (fun _ => (has_tmp rfl))) (Option.some.inj e5)) rfl rfl rfl ?_
        exact j_to (.cons (.of_lk rfl) <| .cons (.of_lk rfl) <| .cons (.of_lk rfl) <| .cons (.of_lk rfl) <| .nil) (.nil) (J ())
  · rcases bool_tf (!r1) with e2 | e2
    · replace e3 := bt e2 e3
      refine j_guard_no2 (j := 2) (want := false) rfl rfl rfl rfl (bl_isx e2) rfl rfl rfl ?_
      refine j_guard_no2 (j := 2) (want := false) rfl rfl rfl rfl (bl_isx e2) rfl rfl rfl ?_
      refine j_guard_no2 (j := 2) (want := false) rfl rfl rfl rfl (bl_isx e2) rfl rfl rfl ?_
      refine j_pure (PJ.eqv (R := bl) (pj_pick (t := any) (has_tmp rfl) (fun _ => has_bl) (fun he => absurd (e2.symm.trans he) (by decide))) (Option.some.inj e3)) rfl rfl rfl ?_
      exact j_to (.cons (.of_lk rfl) <| .cons (.of_lk rfl) <| .cons (.of_lk rfl) <| .cons (.of_lk rfl) <| .nil) (.nil) (J ())
    · replace e3 := bf e2 e3
      refine j_pure_y (pj_move (has_tmp rfl)) rfl rfl rfl rfl (bl_isx e2) rfl rfl ?_
      refine j_pure_y (pj_len_sl (sz := 1) (has_tmp rfl) (by kernel_rfl)) rfl rfl rfl rfl (bl_isx e2) rfl rfl ?_
      refine j_pure_y (pj_igtr (has_tmp rfl) has_i64) rfl rfl rfl rfl (bl_isx e2) rfl rfl ?_
      refine j_pure (PJ.eqv (R := bl) (pj_pick (t := any) (has_tmp rfl) (fun he => absurd (e2.symm.trans he) (by decide)) (fun _ => (has_tmp rfl))) (Option.some.inj e3)) rfl rfl rfl ?_
      exact j_to (.cons (.of_lk rfl) <| .cons (.of_lk rfl) <| .cons (.of_lk rfl) <| .cons (.of_lk rfl) <| .nil) (.nil) (J ())
set_option maxRecDepth 100000 in
set_option maxHeartbeats 4000000 in
theorem c_chain_Key {G : GP} (hg0 : HG0 G) (hg1 : HG1 G) {p_label : List (BitVec 8)} {r : T_api_Hash} (h : chain_Key p_label = some r) : Ctr Tryd.prog G 20 [(sl u8).slot p_label] [] (fun (_ : Unit) => R_api_Hash.slot r) (fun (_ : Unit) => []) := by
  unfold chain_Key at h
  refine ctr_of_run Tryd.func20 rfl 6 rfl rfl fun m0 w0 b0 => ?_
  show Run _ _ _ [(0, (sl u8).slot p_label)] _
  refine run_seq ?_
  refine run_text ?_
  refine j_alloc (x := (Vector.replicate 32 (0#8))) (R := R_api_Hash) (zero_vec 32 zero_un) (by kernel_rfl) rfl fun b1 => ?_
  refine j_end ?_
  refine run_seq ?_
  refine run_text ?_
  refine j_pure (pj_move (has_tmp rfl)) rfl rfl rfl ?_
  refine j_pure (pj_buildSlice (T := 22) (R := (sl u8)) (.cons (has_tmp rfl) .nil) rfl (by kernel_rfl) (by kernel_rfl)) rfl rfl rfl ?_
  obtain ⟨r1, e1, h⟩ := bind_some h
  refine j_pure (pj_call (hasL_cons (has_un (x := 107#8) rfl) <| hasL_cons (has_tmp rfl) <| hasL_nil) (by kernel_rfl) (c_hash_Tagged hg0 hg1 e1)) rfl rfl rfl ?_
  refine j_store_boxx (r' := r1) (has_tmp rfl) (has_tmp rfl) .here (Path.all R_api_Hash) (by kernel_rfl) rfl ?_
  refine j_end ?_
  obtain rfl := Option.some.inj h
  exact run_ret fun a w hst => q_ret1 hst rfl (.cell rfl .here (by kernel_rfl)) () (fun _ _ h => h) (.nil)
set_option maxRecDepth 100000 in
set_option maxHeartbeats 4000000 in
theorem c_rolodexref14_Key {G : GP} {p_label : List (BitVec 8)} {r : T_api_Hash} (h : rolodexref14_Key p_label = some r) : Ctr Tryd.prog G 21 [(sl u8).slot p_label] [] (fun (_ : Unit) => R_api_Hash.slot r) (fun (_ : Unit) => []) := by
  unfold rolodexref14_Key at h
  refine ctr_of_run Tryd.func21 rfl 6 rfl rfl fun m0 w0 b0 => ?_
  show Run _ _ _ [(0, (sl u8).slot p_label)] _
  refine run_seq ?_
  refine run_text ?_
  refine j_alloc (x := (Vector.replicate 32 (0#8))) (R := R_api_Hash) (zero_vec 32 zero_un) (by kernel_rfl) rfl fun b1 => ?_
  refine j_end ?_
  refine run_seq ?_
  refine run_text ?_
  refine j_pure (pj_move (has_tmp rfl)) rfl rfl rfl ?_
  refine j_pure (pj_buildSlice (T := 22) (R := (sl u8)) (.cons (has_tmp rfl) .nil) rfl (by kernel_rfl) (by kernel_rfl)) rfl rfl rfl ?_
  obtain ⟨r1, e1, h⟩ := bind_some h
  refine j_pure (pj_call (hasL_cons (has_un (x := 107#8) rfl) <| hasL_cons (has_tmp rfl) <| hasL_nil) (by kernel_rfl) (c_rolodexref02_Tagged e1)) rfl rfl rfl ?_
  refine j_store_boxx (r' := r1) (has_tmp rfl) (has_tmp rfl) .here (Path.all R_api_Hash) (by kernel_rfl) rfl ?_
  refine j_end ?_
  obtain rfl := Option.some.inj h
  exact run_ret fun a w hst => q_ret1 hst rfl (.cell rfl .here (by kernel_rfl)) () (fun _ _ h => h) (.nil)
set_option maxRecDepth 100000 in
set_option maxHeartbeats 4000000 in
theorem c_rolodexlaw14_ChainHashes {G : GP} (hg0 : HG0 G) (hg1 : HG1 G) {p_label : List (BitVec 8)} {p_v : T_rolodexref14_Version} {p_g : T_rolodexlaw14_Grown} {r : Bool} (h : rolodexlaw14_ChainHashes p_label p_v p_g = some r) : Ctr Tryd.prog G 4 [(sl u8).slot p_label, R_rolodexref14_Version.slot p_v, R_rolodexlaw14_Grown.slot p_g] [] (fun (_ : Unit) => bl.slot r) (fun (_ : Unit) => []) := by
  unfold rolodexlaw14_ChainHashes at h
  refine ctr_of_run Tryd.func4 rfl 60 rfl rfl fun m0 w0 b0 => ?_
  show Run _ _ _ [(0, (sl u8).slot p_label), (1, R_rolodexref14_Version.slot p_v), (2, R_rolodexlaw14_Grown.slot p_g)] _
  refine run_seq ?_
  refine run_text ?_
  refine j_pure (pj_box_to (has_tmp rfl)) rfl rfl rfl ?_
  refine j_pure (pj_box_to (has_tmp rfl)) rfl rfl rfl ?_
  refine j_pure (pj_assign has_bl) rfl rfl rfl ?_
  refine j_end ?_
  refine run_seq ?_
  refine run_text ?_
  refine j_pure (pj_field_to (has_tmp rfl) (Path.fst R_api_Hash (prod i64 (sl u8))) (by kernel_rfl)) rfl rfl rfl ?_
  refine j_pure (pj_load_to (has_tmp rfl) (by kernel_rfl)) rfl rfl rfl ?_
  refine j_alloc (x := (Vector.replicate 32 (0#8))) (R := R_api_Hash) (zero_vec 32 zero_un) (by kernel_rfl) rfl fun b1 => ?_
  refine j_store_boxx (r' := p_g.1) (has_tmp rfl) (has_tmp rfl) .here (Path.all R_api_Hash) (by kernel_rfl) rfl ?_
  refine j_freezeTo (t := 7) .here (.of_lk rfl) ?_
  refine j_end ?_
  refine run_seq ?_
  refine run_seq ?_
  refine run_text ?_
  obtain ⟨r1, e1, h⟩ := bind_some h
  refine j_pure (pj_call (hasL_nil) (by kernel_rfl) (c_rolodexlaw14_awake hg0 hg1 e1)) rfl rfl rfl ?_
  refine j_pure (pj_not (has_tmp rfl)) rfl rfl rfl ?_
  refine j_pure (pj_move (has_tmp rfl)) rfl rfl rfl ?_
  obtain ⟨y1, e3, h⟩ := bind_some h
  refine j_joinx (ι := Unit) (Γ' := fun _ => [(0, (sl u8).slot p_label), (4, ptrTo R_rolodexref14_Version p_v), (7, ptrTo R_api_Hash p_g.1), (16, bl.slot y1)]) (H' := fun _ => []) 4 ?_ fun J => ?_
  · intro _
    clear e3
    show OpsJ _ _ _ [(0, (sl u8).slot p_label), (4, ptrTo R_rolodexref14_Version p_v), (7, ptrTo R_api_Hash p_g.1), (16, bl.slot y1)] [] _
    refine j_pure (pj_move (has_tmp rfl)) rfl rfl rfl ?_
    obtain ⟨y2, e5, h⟩ := bind_some h
    refine j_joinx (ι := Unit) (Γ' := fun _ => [(0, (sl u8).slot p_label), (4, ptrTo R_rolodexref14_Version p_v), (7, ptrTo R_api_Hash p_g.1), (22, bl.slot y2)]) (H' := fun _ => []) 5 ?_ fun J => ?_
    · intro _
      clear e5
      show OpsJ _ _ _ [(0, (sl u8).slot p_label), (4, ptrTo R_rolodexref14_Version p_v), (7, ptrTo R_api_Hash p_g.1), (22, bl.slot y2)] [] _
      refine j_end ?_
      refine run_cond (has_tmp rfl) (fun e6 => ?_) (fun e6 => ?_)
      · replace h := bt e6 h
        refine run_seq ?_
        refine run_text ?_
        obtain ⟨r2, e7, h⟩ := bind_some h
        refine j_pure (pj_call (hasL_nil) (by kernel_rfl) (c_rolodexlaw14_awake hg0 hg1 e7)) rfl rfl rfl ?_
        refine j_pure (pj_assign (has_tmp rfl)) rfl rfl rfl ?_
        refine j_end ?_
        obtain rfl := Option.some.inj h
        exact run_ret fun a w hst => q_ret1 hst rfl (.tmp rfl) () (fun _ _ h => h) (.nil)
      · replace h := bf e6 h
        refine run_skip ?_
        refine run_seq ?_
        obtain ⟨r3, e8, h⟩ := bind_some h
        obtain ⟨r4, e9, h⟩ := bind_some h
        obtain ⟨y3, e11, h⟩ := bind_some h
        obtain ⟨y4, e15, h⟩ := bind_some h
        obtain ⟨y5, e19, h⟩ := bind_some h
        refine (run_drawJ (n := 36) (Γ' := [(59, bl.slot y5)]) (H' := []) ?_ fun J => ?_)
        · clear e11 e15 e19
          refine j_pure (pj_assign (has_tmp rfl)) rfl rfl rfl ?_
          refine j_end ?_
          obtain rfl := Option.some.inj h
          exact run_ret fun a w hst => q_ret1 hst rfl (.tmp rfl) () (fun _ _ h => h) (.nil)
        · rcases bool_tf (decide (r3 = r4)) with e10 | e10
          · replace e11 := bt e10 e11
            obtain ⟨r5, e12, e11⟩ := bind_some e11
            obtain ⟨r6, e13, e11⟩ := bind_some e11
            rcases bool_tf (y3) with e14 | e14
            · replace e15 := bt e14 e15
              obtain ⟨r7, e16, e15⟩ := bind_some e15
              obtain ⟨r8, e17, e15⟩ := bind_some e15
              rcases bool_tf (y4) with e18 | e18
              · replace e19 := bt e18 e19
                obtain ⟨r9, e20, e19⟩ := bind_some e19
                obtain ⟨r10, e21, e19⟩ := bind_some e19
                obtain ⟨r11, e22, e19⟩ := bind_some e19
                exact run_draw (n := 36) (by kernel_rfl) (by kernel_rfl) (by kernel_rfl) (by kernel_rfl) (.read (.plain rfl (pj_move (has_tmp rfl))) <| .read (.plain rfl (pj_call (hasL_cons (has_tmp rfl) <| hasL_nil) (by kernel_rfl) (c_chain_Key hg0 hg1 e8))) <| .read (.plain rfl (pj_move (has_tmp rfl))) <| .read (.plain rfl (pj_call (hasL_cons (has_tmp rfl) <| hasL_nil) (by kernel_rfl) (c_rolodexref14_Key e9))) <| .read (.plain rfl (pj_eql (n := 2) (eq_vec (e := 5) (by kernel_rfl) (by kernel_rfl) (eq_un (by kernel_rfl))) (by decide) rfl (by kernel_rfl) (has_tmp rfl) (has_tmp rfl))) <| .read (.plain rfl (pj_move (has_tmp rfl))) <| .read (.yes ⟨5, true, _, 29, _, rfl, rfl, rfl, fun _ _ => bl_p.1, gd_yes e10⟩ (pj_load_to (has_tmp rfl) (by kernel_rfl))) <| .read (.yes ⟨5, true, _, 29, _, rfl, rfl, rfl, fun _ _ => bl_p.1, gd_yes e10⟩ (pj_move (has_tmp rfl))) <| .read (.yes ⟨5, true, _, 29, _, rfl, rfl, rfl, fun _ _ => bl_p.1, gd_yes e10⟩ (pj_field_to (has_tmp rfl) (Path.fst i64 (prod i64 (prod R_api_Hash (prod R_api_Hash (sl u8))))) (by kernel_rfl))) <| .read (.yes ⟨5, true, _, 29, _, rfl, rfl, rfl, fun _ _ => bl_p.1, gd_yes e10⟩ (pj_load_to (has_tmp rfl) (by kernel_rfl))) <| .read (.yes ⟨5, true, _, 29, _, rfl, rfl, rfl, fun _ _ => bl_p.1, gd_yes e10⟩ (pj_call (hasL_cons (has_tmp rfl) <| hasL_cons (has_tmp rfl) <| hasL_cons (has_tmp rfl) <| hasL_nil) (by kernel_rfl) (c_chain_Salt hg0 hg1 e12))) <| .read (.yes ⟨5, true, _, 29, _, rfl, rfl, rfl, fun _ _ => bl_p.1, gd_yes e10⟩ (pj_load_to (has_tmp rfl) (by kernel_rfl))) <| .read (.yes ⟨5, true, _, 29, _, rfl, rfl, rfl, fun _ _ => bl_p.1, gd_yes e10⟩ (pj_move (has_tmp rfl))) <| .read (.yes ⟨5, true, _, 29, _, rfl, rfl, rfl, fun _ _ => bl_p.1, gd_yes e10⟩ (pj_field_to (has_tmp rfl) (Path.fst i64 (prod i64 (prod R_api_Hash (prod R_api_Hash (sl u8))))) (by kernel_rfl))) <| .read (.yes ⟨5, true, _, 29, _, rfl, rfl, rfl, fun _ _ => bl_p.1, gd_yes e10⟩ (pj_load_to (has_tmp rfl) (by kernel_rfl))) <| .read (.yes ⟨5, true, _, 29, _, rfl, rfl, rfl, fun _ _ => bl_p.1, gd_yes e10⟩ (pj_call (hasL_cons (has_tmp rfl) <| hasL_cons (has_tmp rfl) <| hasL_cons (has_tmp rfl) <| hasL_nil) (by kernel_rfl) (c_rolodexref14_Salt e13))) <| .read (.yes ⟨5, true, _, 29, _, rfl, rfl, rfl, fun _ _ => bl_p.1, gd_yes e10⟩ (pj_eql (n := 2) (eq_vec (e := 5) (by kernel_rfl) (by kernel_rfl) (eq_un (by kernel_rfl))) (by decide) rfl (by kernel_rfl) (has_tmp rfl) (has_tmp rfl))) <| .read (.plain rfl (PJ.eqv (R := bl) (pj_pick (t := any) (has_tmp rfl) (fun _ => (has_tmp rfl)) (fun he => absurd (e10.symm.trans he) (by decide))) (Option.some.inj e11))) <| .read (.plain rfl (pj_move (has_tmp rfl))) <| .read (.yes ⟨18, true, _, 42, _, rfl, rfl, rfl, fun _ _ => bl_p.1, gd_yes e14⟩ (pj_move (has_tmp rfl))) <| .read (.yes ⟨18, true, _, 42, _, rfl, rfl, rfl, fun _ _ => bl_p.1, gd_yes e14⟩ (pj_load_to (has_tmp rfl) (by kernel_rfl))) <| .read (.yes ⟨18, true, _, 42, _, rfl, rfl, rfl, fun _ _ => bl_p.1, gd_yes e14⟩ (pj_call (hasL_cons (has_tmp rfl) <| hasL_cons (has_tmp rfl) <| hasL_nil) (by kernel_rfl) (c_chain_Commit hg0 hg1 e16))) <| .read (.yes ⟨18, true, _, 42, _, rfl, rfl, rfl, fun _ _ => bl_p.1, gd_yes e14⟩ (pj_move (has_tmp rfl))) <| .read (.yes ⟨18, true, _, 42, _, rfl, rfl, rfl, fun _ _ => bl_p.1, gd_yes e14⟩ (pj_load_to (has_tmp rfl) (by kernel_rfl))) <| .read (.yes ⟨18, true, _, 42, _, rfl, rfl, rfl, fun _ _ => bl_p.1, gd_yes e14⟩ (pj_call (hasL_cons (has_tmp rfl) <| hasL_cons (has_tmp rfl) <| hasL_nil) (by kernel_rfl) (c_rolodexref14_Commit e17))) <| .read (.yes ⟨18, true, _, 42, _, rfl, rfl, rfl, fun _ _ => bl_p.1, gd_yes e14⟩ (pj_eql (n := 2) (eq_vec (e := 5) (by kernel_rfl) (by kernel_rfl) (eq_un (by kernel_rfl))) (by decide) rfl (by kernel_rfl) (has_tmp rfl) (has_tmp rfl))) <| .read (.plain rfl (PJ.eqv (R := bl) (pj_pick (t := any) (has_tmp rfl) (fun _ => (has_tmp rfl)) (fun he => absurd (e14.symm.trans he) (by decide))) (Option.some.inj e15))) <| .read (.plain rfl (pj_move (has_tmp rfl))) <| .read (.yes ⟨27, true, _, 51, _, rfl, rfl, rfl, fun _ _ => bl_p.1, gd_yes e18⟩ (pj_move (has_tmp rfl))) <| .read (.yes ⟨27, true, _, 51, _, rfl, rfl, rfl, fun _ _ => bl_p.1, gd_yes e18⟩ (pj_load_to (has_tmp rfl) (by kernel_rfl))) <| .read (.yes ⟨27, true, _, 51, _, rfl, rfl, rfl, fun _ _ => bl_p.1, gd_yes e18⟩ (pj_call (hasL_cons (has_tmp rfl) <| hasL_cons (has_tmp rfl) <| hasL_nil) (by kernel_rfl) (Ctr.froze (c_chain_Text e20)))) <| .read (.yes ⟨27, true, _, 51, _, rfl, rfl, rfl, fun _ _ => bl_p.1, gd_yes e18⟩ (pj_move (has_tmp rfl))) <| .read (.yes ⟨27, true, _, 51, _, rfl, rfl, rfl, fun _ _ => bl_p.1, gd_yes e18⟩ (pj_load_to (has_tmp rfl) (by kernel_rfl))) <| .read (.yes ⟨27, true, _, 51, _, rfl, rfl, rfl, fun _ _ => bl_p.1, gd_yes e18⟩ (pj_call (hasL_cons (has_tmp rfl) <| hasL_cons (has_tmp rfl) <| hasL_nil) (by kernel_rfl) (Ctr.froze (c_rolodexref14_Text e21)))) <| .read (.yes ⟨27, true, _, 51, _, rfl, rfl, rfl, fun _ _ => bl_p.1, gd_yes e18⟩ (pj_call (hasL_cons (has_tmp rfl) <| hasL_cons (has_tmp rfl) <| hasL_nil) (by kernel_rfl) (c_rolodexref01_Same e22))) <| .read (.plain rfl (PJ.eqv (R := bl) (pj_pick (t := any) (has_tmp rfl) (fun _ => (has_tmp rfl)) (fun he => absurd (e18.symm.trans he) (by decide))) (Option.some.inj e19))) <| .nil) (j_to (Γ' := [(59, bl.slot y5)]) (H' := []) (.cons (.of_lk rfl) <| .nil) (.nil) J)
              · replace e19 := bf e18 e19
                exact run_draw (n := 36) (by kernel_rfl) (by kernel_rfl) (by kernel_rfl) (by kernel_rfl) (.read (.plain rfl (pj_move (has_tmp rfl))) <| .read (.plain rfl (pj_call (hasL_cons (has_tmp rfl) <| hasL_nil) (by kernel_rfl) (c_chain_Key hg0 hg1 e8))) <| .read (.plain rfl (pj_move (has_tmp rfl))) <| .read (.plain rfl (pj_call (hasL_cons (has_tmp rfl) <| hasL_nil) (by kernel_rfl) (c_rolodexref14_Key e9))) <| .read (.plain rfl (pj_eql (n := 2) (eq_vec (e := 5) (by kernel_rfl) (by kernel_rfl) (eq_un (by kernel_rfl))) (by decide) rfl (by kernel_rfl) (has_tmp rfl) (has_tmp rfl))) <| .read (.plain rfl (pj_move (has_tmp rfl))) <| .read (.yes ⟨5, true, _, 29, _, rfl, rfl, rfl, fun _ _ => bl_p.1, gd_yes e10⟩ (pj_load_to (has_tmp rfl) (by kernel_rfl))) <| .read (.yes ⟨5, true, _, 29, _, rfl, rfl, rfl, fun _ _ => bl_p.1, gd_yes e10⟩ (pj_move (has_tmp rfl))) <| .read (.yes ⟨5, true, _, 29, _, rfl, rfl, rfl, fun _ _ => bl_p.1, gd_yes e10⟩ (pj_field_to (has_tmp rfl) (Path.fst i64 (prod i64 (prod R_api_Hash (prod R_api_Hash (sl u8))))) (by kernel_rfl))) <| .read (.yes ⟨5, true, _, 29, _, rfl, rfl, rfl, fun _ _ => bl_p.1, gd_yes e10⟩ (pj_load_to (has_tmp rfl) (by kernel_rfl))) <| .read (.yes ⟨5, true, _, 29, _, rfl, rfl, rfl, fun _ _ => bl_p.1, gd_yes e10⟩ (pj_call (hasL_cons (has_tmp rfl) <| hasL_cons (has_tmp rfl) <| hasL_cons (has_tmp rfl) <| hasL_nil) (by kernel_rfl) (c_chain_Salt hg0 hg1 e12))) <| .read (.yes ⟨5, true, _, 29, _, rfl, rfl, rfl, fun _ _ => bl_p.1, gd_yes e10⟩ (pj_load_to (has_tmp rfl) (by kernel_rfl))) <| .read (.yes ⟨5, true, _, 29, _, rfl, rfl, rfl, fun _ _ => bl_p.1, gd_yes e10⟩ (pj_move (has_tmp rfl))) <| .read (.yes ⟨5, true, _, 29, _, rfl, rfl, rfl, fun _ _ => bl_p.1, gd_yes e10⟩ (pj_field_to (has_tmp rfl) (Path.fst i64 (prod i64 (prod R_api_Hash (prod R_api_Hash (sl u8))))) (by kernel_rfl))) <| .read (.yes ⟨5, true, _, 29, _, rfl, rfl, rfl, fun _ _ => bl_p.1, gd_yes e10⟩ (pj_load_to (has_tmp rfl) (by kernel_rfl))) <| .read (.yes ⟨5, true, _, 29, _, rfl, rfl, rfl, fun _ _ => bl_p.1, gd_yes e10⟩ (pj_call (hasL_cons (has_tmp rfl) <| hasL_cons (has_tmp rfl) <| hasL_cons (has_tmp rfl) <| hasL_nil) (by kernel_rfl) (c_rolodexref14_Salt e13))) <| .read (.yes ⟨5, true, _, 29, _, rfl, rfl, rfl, fun _ _ => bl_p.1, gd_yes e10⟩ (pj_eql (n := 2) (eq_vec (e := 5) (by kernel_rfl) (by kernel_rfl) (eq_un (by kernel_rfl))) (by decide) rfl (by kernel_rfl) (has_tmp rfl) (has_tmp rfl))) <| .read (.plain rfl (PJ.eqv (R := bl) (pj_pick (t := any) (has_tmp rfl) (fun _ => (has_tmp rfl)) (fun he => absurd (e10.symm.trans he) (by decide))) (Option.some.inj e11))) <| .read (.plain rfl (pj_move (has_tmp rfl))) <| .read (.yes ⟨18, true, _, 42, _, rfl, rfl, rfl, fun _ _ => bl_p.1, gd_yes e14⟩ (pj_move (has_tmp rfl))) <| .read (.yes ⟨18, true, _, 42, _, rfl, rfl, rfl, fun _ _ => bl_p.1, gd_yes e14⟩ (pj_load_to (has_tmp rfl) (by kernel_rfl))) <| .read (.yes ⟨18, true, _, 42, _, rfl, rfl, rfl, fun _ _ => bl_p.1, gd_yes e14⟩ (pj_call (hasL_cons (has_tmp rfl) <| hasL_cons (has_tmp rfl) <| hasL_nil) (by kernel_rfl) (c_chain_Commit hg0 hg1 e16))) <| .read (.yes ⟨18, true, _, 42, _, rfl, rfl, rfl, fun _ _ => bl_p.1, gd_yes e14⟩ (pj_move (has_tmp rfl))) <| .read (.yes ⟨18, true, _, 42, _, rfl, rfl, rfl, fun _ _ => bl_p.1, gd_yes e14⟩ (pj_load_to (has_tmp rfl) (by kernel_rfl))) <| .read (.yes ⟨18, true, _, 42, _, rfl, rfl, rfl, fun _ _ => bl_p.1, gd_yes e14⟩ (pj_call (hasL_cons (has_tmp rfl) <| hasL_cons (has_tmp rfl) <| hasL_nil) (by kernel_rfl) (c_rolodexref14_Commit e17))) <| .read (.yes ⟨18, true, _, 42, _, rfl, rfl, rfl, fun _ _ => bl_p.1, gd_yes e14⟩ (pj_eql (n := 2) (eq_vec (e := 5) (by kernel_rfl) (by kernel_rfl) (eq_un (by kernel_rfl))) (by decide) rfl (by kernel_rfl) (has_tmp rfl) (has_tmp rfl))) <| .read (.plain rfl (PJ.eqv (R := bl) (pj_pick (t := any) (has_tmp rfl) (fun _ => (has_tmp rfl)) (fun he => absurd (e14.symm.trans he) (by decide))) (Option.some.inj e15))) <| .read (.plain rfl (pj_move (has_tmp rfl))) <| .read (.no ⟨27, true, _, 51, _, rfl, rfl, rfl, fun _ _ => bl_p.1, gd_no e18⟩) <| .read (.no ⟨27, true, _, 51, _, rfl, rfl, rfl, fun _ _ => bl_p.1, gd_no e18⟩) <| .read (.no ⟨27, true, _, 51, _, rfl, rfl, rfl, fun _ _ => bl_p.1, gd_no e18⟩) <| .read (.no ⟨27, true, _, 51, _, rfl, rfl, rfl, fun _ _ => bl_p.1, gd_no e18⟩) <| .read (.no ⟨27, true, _, 51, _, rfl, rfl, rfl, fun _ _ => bl_p.1, gd_no e18⟩) <| .read (.no ⟨27, true, _, 51, _, rfl, rfl, rfl, fun _ _ => bl_p.1, gd_no e18⟩) <| .read (.no ⟨27, true, _, 51, _, rfl, rfl, rfl, fun _ _ => bl_p.1, gd_no e18⟩) <| .read (.plain rfl (PJ.eqv (R := bl) (pj_pick (t := any) (has_tmp rfl) (fun he => absurd (e18.symm.trans he) (by decide)) (fun _ => has_bl)) (Option.some.inj e19))) <| .nil) (j_to (Γ' := [(59, bl.slot y5)]) (H' := []) (.cons (.of_lk rfl) <| .nil) (.nil) J)
            · replace e15 := bf e14 e15
              rcases bool_tf (y4) with e18 | e18
              · replace e19 := bt e18 e19
                obtain ⟨r9, e20, e19⟩ := bind_some e19
                obtain ⟨r10, e21, e19⟩ := bind_some e19
                obtain ⟨r11, e22, e19⟩ := bind_some e19
                exact run_draw (n := 36) (by kernel_rfl) (by kernel_rfl) (by kernel_rfl) (by kernel_rfl) (.read (.plain rfl (pj_move (has_tmp rfl))) <| .read (.plain rfl (pj_call (hasL_cons (has_tmp rfl) <| hasL_nil) (by kernel_rfl) (c_chain_Key hg0 hg1 e8))) <| .read (.plain rfl (pj_move (has_tmp rfl))) <| .read (.plain rfl (pj_call (hasL_cons (has_tmp rfl) <| hasL_nil) (by kernel_rfl) (c_rolodexref14_Key e9))) <| .read (.plain rfl (pj_eql (n := 2) (eq_vec (e := 5) (by kernel_rfl) (by kernel_rfl) (eq_un (by kernel_rfl))) (by decide) rfl (by kernel_rfl) (has_tmp rfl) (has_tmp rfl))) <| .read (.plain rfl (pj_move (has_tmp rfl))) <| .read (.yes ⟨5, true, _, 29, _, rfl, rfl, rfl, fun _ _ => bl_p.1, gd_yes e10⟩ (pj_load_to (has_tmp rfl) (by kernel_rfl))) <| .read (.yes ⟨5, true, _, 29, _, rfl, rfl, rfl, fun _ _ => bl_p.1, gd_yes e10⟩ (pj_move (has_tmp rfl))) <| .read (.yes ⟨5, true, _, 29, _, rfl, rfl, rfl, fun _ _ => bl_p.1, gd_yes e10⟩ (pj_field_to (has_tmp rfl) (Path.fst i64 (prod i64 (prod R_api_Hash (prod R_api_Hash (sl u8))))) (by kernel_rfl))) <| .read (.yes ⟨5, true, _, 29, _, rfl, rfl, rfl, fun _ _ => bl_p.1, gd_yes e10⟩ (pj_load_to (has_tmp rfl) (by kernel_rfl))) <| .read (.yes ⟨5, true, _, 29, _, rfl, rfl, rfl, fun _ _ => bl_p.1, gd_yes e10⟩ (pj_call (hasL_cons (has_tmp rfl) <| hasL_cons (has_tmp rfl) <| hasL_cons (has_tmp rfl) <| hasL_nil) (by kernel_rfl) (c_chain_Salt hg0 hg1 e12))) <| .read (.yes ⟨5, true, _, 29, _, rfl, rfl, rfl, fun _ _ => bl_p.1, gd_yes e10⟩ (pj_load_to (has_tmp rfl) (by kernel_rfl))) <| .read (.yes ⟨5, true, _, 29, _, rfl, rfl, rfl, fun _ _ => bl_p.1, gd_yes e10⟩ (pj_move (has_tmp rfl))) <| .read (.yes ⟨5, true, _, 29, _, rfl, rfl, rfl, fun _ _ => bl_p.1, gd_yes e10⟩ (pj_field_to (has_tmp rfl) (Path.fst i64 (prod i64 (prod R_api_Hash (prod R_api_Hash (sl u8))))) (by kernel_rfl))) <| .read (.yes ⟨5, true, _, 29, _, rfl, rfl, rfl, fun _ _ => bl_p.1, gd_yes e10⟩ (pj_load_to (has_tmp rfl) (by kernel_rfl))) <| .read (.yes ⟨5, true, _, 29, _, rfl, rfl, rfl, fun _ _ => bl_p.1, gd_yes e10⟩ (pj_call (hasL_cons (has_tmp rfl) <| hasL_cons (has_tmp rfl) <| hasL_cons (has_tmp rfl) <| hasL_nil) (by kernel_rfl) (c_rolodexref14_Salt e13))) <| .read (.yes ⟨5, true, _, 29, _, rfl, rfl, rfl, fun _ _ => bl_p.1, gd_yes e10⟩ (pj_eql (n := 2) (eq_vec (e := 5) (by kernel_rfl) (by kernel_rfl) (eq_un (by kernel_rfl))) (by decide) rfl (by kernel_rfl) (has_tmp rfl) (has_tmp rfl))) <| .read (.plain rfl (PJ.eqv (R := bl) (pj_pick (t := any) (has_tmp rfl) (fun _ => (has_tmp rfl)) (fun he => absurd (e10.symm.trans he) (by decide))) (Option.some.inj e11))) <| .read (.plain rfl (pj_move (has_tmp rfl))) <| .read (.no ⟨18, true, _, 42, _, rfl, rfl, rfl, fun _ _ => bl_p.1, gd_no e14⟩) <| .read (.no ⟨18, true, _, 42, _, rfl, rfl, rfl, fun _ _ => bl_p.1, gd_no e14⟩) <| .read (.no ⟨18, true, _, 42, _, rfl, rfl, rfl, fun _ _ => bl_p.1, gd_no e14⟩) <| .read (.no ⟨18, true, _, 42, _, rfl, rfl, rfl, fun _ _ => bl_p.1, gd_no e14⟩) <| .read (.no ⟨18, true, _, 42, _, rfl, rfl, rfl, fun _ _ => bl_p.1, gd_no e14⟩) <| .read (.no ⟨18, true, _, 42, _, rfl, rfl, rfl, fun _ _ => bl_p.1, gd_no e14⟩) <| .read (.no ⟨18, true, _, 42, _, rfl, rfl, rfl, fun _ _ => bl_p.1, gd_no e14⟩) <| .read (.plain rfl (PJ.eqv (R := bl) (pj_pick (t := any) (has_tmp rfl) (fun he => absurd (e14.symm.trans he) (by decide)) (fun _ => has_bl)) (Option.some.inj e15))) <| .read (.plain rfl (pj_move (has_tmp rfl))) <| .read (.yes ⟨27, true, _, 51, _, rfl, rfl, rfl, fun _ _ => bl_p.1, gd_yes e18⟩ (pj_move (has_tmp rfl))) <| .read (.yes ⟨27, true, _, 51, _, rfl, rfl, rfl, fun _ _ => bl_p.1, gd_yes e18⟩ (pj_load_to (has_tmp rfl) (by kernel_rfl))) <| .read (.yes ⟨27, true, _, 51, _, rfl, rfl, rfl, fun _ _ => bl_p.1, gd_yes e18⟩ (pj_call (hasL_cons (has_tmp rfl) <| hasL_cons (has_tmp rfl) <| hasL_nil) (by kernel_rfl) (Ctr.froze (c_chain_Text e20)))) <| .read (.yes ⟨27, true, _, 51, _, rfl, rfl, rfl, fun _ _ => bl_p.1, gd_yes e18⟩ (pj_move (has_tmp rfl))) <| .read (.yes ⟨27, true, _, 51, _, rfl, rfl, rfl, fun _ _ => bl_p.1, gd_yes e18⟩ (pj_load_to (has_tmp rfl) (by kernel_rfl))) <| .read (.yes ⟨27, true, _, 51, _, rfl, rfl, rfl, fun _ _ => bl_p.1, gd_yes e18⟩ (pj_call (hasL_cons (has_tmp rfl) <| hasL_cons (has_tmp rfl) <| hasL_nil) (by kernel_rfl) (Ctr.froze (c_rolodexref14_Text e21)))) <| .read (.yes ⟨27, true, _, 51, _, rfl, rfl, rfl, fun _ _ => bl_p.1, gd_yes e18⟩ (pj_call (hasL_cons (has_tmp rfl) <| hasL_cons (has_tmp rfl) <| hasL_nil) (by kernel_rfl) (c_rolodexref01_Same e22))) <| .read (.plain rfl (PJ.eqv (R := bl) (pj_pick (t := any) (has_tmp rfl) (fun _ => (has_tmp rfl)) (fun he => absurd (e18.symm.trans he) (by decide))) (Option.some.inj e19))) <| .nil) (j_to (Γ' := [(59, bl.slot y5)]) (H' := []) (.cons (.of_lk rfl) <| .nil) (.nil) J)
              · replace e19 := bf e18 e19
                exact run_draw (n := 36) (by kernel_rfl) (by kernel_rfl) (by kernel_rfl) (by kernel_rfl) (.read (.plain rfl (pj_move (has_tmp rfl))) <| .read (.plain rfl (pj_call (hasL_cons (has_tmp rfl) <| hasL_nil) (by kernel_rfl) (c_chain_Key hg0 hg1 e8))) <| .read (.plain rfl (pj_move (has_tmp rfl))) <| .read (.plain rfl (pj_call (hasL_cons (has_tmp rfl) <| hasL_nil) (by kernel_rfl) (c_rolodexref14_Key e9))) <| .read (.plain rfl (pj_eql (n := 2) (eq_vec (e := 5) (by kernel_rfl) (by kernel_rfl) (eq_un (by kernel_rfl))) (by decide) rfl (by kernel_rfl) (has_tmp rfl) (has_tmp rfl))) <| .read (.plain rfl (pj_move (has_tmp rfl))) <| .read (.yes ⟨5, true, _, 29, _, rfl, rfl, rfl, fun _ _ => bl_p.1, gd_yes e10⟩ (pj_load_to (has_tmp rfl) (by kernel_rfl))) <| .read (.yes ⟨5, true, _, 29, _, rfl, rfl, rfl, fun _ _ => bl_p.1, gd_yes e10⟩ (pj_move (has_tmp rfl))) <| .read (.yes ⟨5, true, _, 29, _, rfl, rfl, rfl, fun _ _ => bl_p.1, gd_yes e10⟩ (pj_field_to (has_tmp rfl) (Path.fst i64 (prod i64 (prod R_api_Hash (prod R_api_Hash (sl u8))))) (by kernel_rfl))) <| .read (.yes ⟨5, true, _, 29, _, rfl, rfl, rfl, fun _ _ => bl_p.1, gd_yes e10⟩ (pj_load_to (has_tmp rfl) (by kernel_rfl))) <| .read (.yes ⟨5, true, _, 29, _, rfl, rfl, rfl, fun _ _ => bl_p.1, gd_yes e10⟩ (pj_call (hasL_cons (has_tmp rfl) <| hasL_cons (has_tmp rfl) <| hasL_cons (has_tmp rfl) <| hasL_nil) (by kernel_rfl) (c_chain_Salt hg0 hg1 e12))) <| .read (.yes ⟨5, true, _, 29, _, rfl, rfl, rfl, fun _ _ => bl_p.1, gd_yes e10⟩ (pj_load_to (has_tmp rfl) (by kernel_rfl))) <| .read (.yes ⟨5, true, _, 29, _, rfl, rfl, rfl, fun _ _ => bl_p.1, gd_yes e10⟩ (pj_move (has_tmp rfl))) <| .read (.yes ⟨5, true, _, 29, _, rfl, rfl, rfl, fun _ _ => bl_p.1, gd_yes e10⟩ (pj_field_to (has_tmp rfl) (Path.fst i64 (prod i64 (prod R_api_Hash (prod R_api_Hash (sl u8))))) (by kernel_rfl))) <| .read (.yes ⟨5, true, _, 29, _, rfl, rfl, rfl, fun _ _ => bl_p.1, gd_yes e10⟩ (pj_load_to (has_tmp rfl) (by kernel_rfl))) <| .read (.yes ⟨5, true, _, 29, _, rfl, rfl, rfl, fun _ _ => bl_p.1, gd_yes e10⟩ (pj_call (hasL_cons (has_tmp rfl) <| hasL_cons (has_tmp rfl) <| hasL_cons (has_tmp rfl) <| hasL_nil) (by kernel_rfl) (c_rolodexref14_Salt e13))) <| .read (.yes ⟨5, true, _, 29, _, rfl, rfl, rfl, fun _ _ => bl_p.1, gd_yes e10⟩ (pj_eql (n := 2) (eq_vec (e := 5) (by kernel_rfl) (by kernel_rfl) (eq_un (by kernel_rfl))) (by decide) rfl (by kernel_rfl) (has_tmp rfl) (has_tmp rfl))) <| .read (.plain rfl (PJ.eqv (R := bl) (pj_pick (t := any) (has_tmp rfl) (fun _ => (has_tmp rfl)) (fun he => absurd (e10.symm.trans he) (by decide))) (Option.some.inj e11))) <| .read (.plain rfl (pj_move (has_tmp rfl))) <| .read (.no ⟨18, true, _, 42, _, rfl, rfl, rfl, fun _ _ => bl_p.1, gd_no e14⟩) <| .read (.no ⟨18, true, _, 42, _, rfl, rfl, rfl, fun _ _ => bl_p.1, gd_no e14⟩) <| .read (.no ⟨18, true, _, 42, _, rfl, rfl, rfl, fun _ _ => bl_p.1, gd_no e14⟩) <| .read (.no ⟨18, true, _, 42, _, rfl, rfl, rfl, fun _ _ => bl_p.1, gd_no e14⟩) <| .read (.no ⟨18, true, _, 42, _, rfl, rfl, rfl, fun _ _ => bl_p.1, gd_no e14⟩) <| .read (.no ⟨18, true, _, 42, _, rfl, rfl, rfl, fun _ _ => bl_p.1, gd_no e14⟩) <| .read (.no ⟨18, true, _, 42, _, rfl, rfl, rfl, fun _ _ => bl_p.1, gd_no e14⟩) <| .read (.plain rfl (PJ.eqv (R := bl) (pj_pick (t := any) (has_tmp rfl) (fun he => absurd (e14.symm.trans he) (by decide)) (fun _ => has_bl)) (Option.some.inj e15))) <| .read (.plain rfl (pj_move (has_tmp rfl))) <| .read (.no ⟨27, true, _, 51, _, rfl, rfl, rfl, fun _ _ => bl_p.1, gd_no e18⟩) <| .read (.no ⟨27, true, _, 51, _, rfl, rfl, rfl, fun _ _ => bl_p.1, gd_no e18⟩) <| .read (.no ⟨27, true, _, 51, _, rfl, rfl, rfl, fun _ _ => bl_p.1, gd_no e18⟩) <| .read (.no ⟨27, true, _, 51, _, rfl, rfl, rfl, fun _ _ => bl_p.1, gd_no e18⟩) <| .read (.no ⟨27, true, _, 51, _, rfl, rfl, rfl, fun _ _ => bl_p.1, gd_no e18⟩) <| .read (.no ⟨27, true, _, 51, _, rfl, rfl, rfl, fun _ _ => bl_p.1, gd_no e18⟩) <| .read (.no ⟨27, true, _, 51, _, rfl, rfl, rfl, fun _ _ => bl_p.1, gd_no e18⟩) <| .read (.plain rfl (PJ.eqv (R := bl) (pj_pick (t := any) (has_tmp rfl) (fun he => absurd (e18.symm.trans he) (by decide)) (fun _ => has_bl)) (Option.some.inj e19))) <| .nil) (j_to (Γ' := [(59, bl.slot y5)]) (H' := []) (.cons (.of_lk rfl) <| .nil) (.nil) J)
          · replace e11 := bf e10 e11
            rcases bool_tf (y3) with e14 | e14
            · replace e15 := bt e14 e15
              obtain ⟨r7, e16, e15⟩ := bind_some e15
              obtain ⟨r8, e17, e15⟩ := bind_some e15
              rcases bool_tf (y4) with e18 | e18
              · replace e19 := bt e18 e19
                obtain ⟨r9, e20, e19⟩ := bind_some e19
                obtain ⟨r10, e21, e19⟩ := bind_some e19
                obtain ⟨r11, e22, e19⟩ := bind_some e19
                exact run_draw (n := 36) (by kernel_rfl) (by kernel_rfl) (by kernel_rfl) (by kernel_rfl) (.read (.plain rfl (pj_move (has_tmp rfl))) <| .read (.plain rfl (pj_call (hasL_cons (has_tmp rfl) <| hasL_nil) (by kernel_rfl) (c_chain_Key hg0 hg1 e8))) <| .read (.plain rfl (pj_move (has_tmp rfl))) <| .read (.plain rfl (pj_call (hasL_cons (has_tmp rfl) <| hasL_nil) (by kernel_rfl) (c_rolodexref14_Key e9))) <| .read (.plain rfl (pj_eql (n := 2) (eq_vec (e := 5) (by kernel_rfl) (by kernel_rfl) (eq_un (by kernel_rfl))) (by decide) rfl (by kernel_rfl) (has_tmp rfl) (has_tmp rfl))) <| .read (.plain rfl (pj_move (has_tmp rfl))) <| .read (.no ⟨5, true, _, 29, _, rfl, rfl, rfl, fun _ _ => bl_p.1, gd_no e10⟩) <| .read (.no ⟨5, true, _, 29, _, rfl, rfl, rfl, fun _ _ => bl_p.1, gd_no e10⟩) <| .read (.no ⟨5, true, _, 29, _, rfl, rfl, rfl, fun _ _ => bl_p.1, gd_no e10⟩) <| .read (.no ⟨5, true, _, 29, _, rfl, rfl, rfl, fun _ _ => bl_p.1, gd_no e10⟩) <| .read (.no ⟨5, true, _, 29, _, rfl, rfl, rfl, fun _ _ => bl_p.1, gd_no e10⟩) <| .read (.no ⟨5, true, _, 29, _, rfl, rfl, rfl, fun _ _ => bl_p.1, gd_no e10⟩) <| .read (.no ⟨5, true, _, 29, _, rfl, rfl, rfl, fun _ _ => bl_p.1, gd_no e10⟩) <| .read (.no ⟨5, true, _, 29, _, rfl, rfl, rfl, fun _ _ => bl_p.1, gd_no e10⟩) <| .read (.no ⟨5, true, _, 29, _, rfl, rfl, rfl, fun _ _ => bl_p.1, gd_no e10⟩) <| .read (.no ⟨5, true, _, 29, _, rfl, rfl, rfl, fun _ _ => bl_p.1, gd_no e10⟩) <| .read (.no ⟨5, true, _, 29, _, rfl, rfl, rfl, fun _ _ => bl_p.1, gd_no e10⟩) <| .read (.plain rfl (PJ.eqv (R := bl) (pj_pick (t := any) (has_tmp rfl) (fun he => absurd (e10.symm.trans he) (by decide)) (fun _ => has_bl)) (Option.some.inj e11))) <| .read (.plain rfl (pj_move (has_tmp rfl))) <| .read (.yes ⟨18, true, _, 42, _, rfl, rfl, rfl, fun _ _ => bl_p.1, gd_yes e14⟩ (pj_move (has_tmp rfl))) <| .read (.yes ⟨18, true, _, 42, _, rfl, rfl, rfl, fun _ _ => bl_p.1, gd_yes e14⟩ (pj_load_to (has_tmp rfl) (by kernel_rfl))) <| .read (.yes ⟨18, true, _, 42, _, rfl, rfl, rfl, fun _ _ => bl_p.1, gd_yes e14⟩ (pj_call (hasL_cons (has_tmp rfl) <| hasL_cons (has_tmp rfl) <| hasL_nil) (by kernel_rfl) (c_chain_Commit hg0 hg1 e16))) <| .read (.yes ⟨18, true, _, 42, _, rfl, rfl, rfl, fun _ _ => bl_p.1, gd_yes e14⟩ (pj_move (has_tmp rfl))) <| .read (.yes ⟨18, true, _, 42, _, rfl, rfl, rfl, fun _ _ => bl_p.1, gd_yes e14⟩ (pj_load_to (has_tmp rfl) (by kernel_rfl))) <| .read (.yes ⟨18, true, _, 42, _, rfl, rfl, rfl, fun _ _ => bl_p.1, gd_yes e14⟩ (pj_call (hasL_cons (has_tmp rfl) <| hasL_cons (has_tmp rfl) <| hasL_nil) (by kernel_rfl) (c_rolodexref14_Commit e17))) <| .read (.yes ⟨18, true, _, 42, _, rfl, rfl, rfl, fun _ _ => bl_p.1, gd_yes e14⟩ (pj_eql (n := 2) (eq_vec (e := 5) (by kernel_rfl) (by kernel_rfl) (eq_un (by kernel_rfl))) (by decide) rfl (by kernel_rfl) (has_tmp rfl) (has_tmp rfl))) <| .read (.plain rfl (PJ.eqv (R := bl) (pj_pick (t := any) (has_tmp rfl) (fun _ => (has_tmp rfl)) (fun he => absurd (e14.symm.trans he) (by decide))) (Option.some.inj e15))) <| .read (.plain rfl (pj_move (has_tmp rfl))) <| .read (.yes ⟨27, true, _, 51, _, rfl, rfl, rfl, fun _ _ => bl_p.1, gd_yes e18⟩ (pj_move (has_tmp rfl))) <| .read (.yes ⟨27, true, _, 51, _, rfl, rfl, rfl, fun _ _ => bl_p.1, gd_yes e18⟩ (pj_load_to (has_tmp rfl) (by kernel_rfl))) <| .read (.yes ⟨27, true, _, 51, _, rfl, rfl, rfl, fun _ _ => bl_p.1, gd_yes e18⟩ (pj_call (hasL_cons (has_tmp rfl) <| hasL_cons (has_tmp rfl) <| hasL_nil) (by kernel_rfl) (Ctr.froze (c_chain_Text e20)))) <| .read (.yes ⟨27, true, _, 51, _, rfl, rfl, rfl, fun _ _ => bl_p.1, gd_yes e18⟩ (pj_move (has_tmp rfl))) <| .read (.yes ⟨27, true, _, 51, _, rfl, rfl, rfl, fun _ _ => bl_p.1, gd_yes e18⟩ (pj_load_to (has_tmp rfl) (by kernel_rfl))) <| .read (.yes ⟨27, true, _, 51, _, rfl, rfl, rfl, fun _ _ => bl_p.1, gd_yes e18⟩ (pj_call (hasL_cons (has_tmp rfl) <| hasL_cons (has_tmp rfl) <| hasL_nil) (by kernel_rfl) (Ctr.froze (c_rolodexref14_Text e21)))) <| .read (.yes ⟨27, true, _, 51, _, rfl, rfl, rfl, fun _ _ => bl_p.1, gd_yes e18⟩ (pj_call (hasL_cons (has_tmp rfl) <| hasL_cons (has_tmp rfl) <| hasL_nil) (by kernel_rfl) (c_rolodexref01_Same e22))) <| .read (.plain rfl (PJ.eqv (R := bl) (pj_pick (t := any) (has_tmp rfl) (fun _ => (has_tmp rfl)) (fun he => absurd (e18.symm.trans he) (by decide))) (Option.some.inj e19))) <| .nil) (j_to (Γ' := [(59, bl.slot y5)]) (H' := []) (.cons (.of_lk rfl) <| .nil) (.nil) J)
              · replace e19 := bf e18 e19
                exact run_draw (n := 36) (by kernel_rfl) (by kernel_rfl) (by kernel_rfl) (by kernel_rfl) (.read (.plain rfl (pj_move (has_tmp rfl))) <| .read (.plain rfl (pj_call (hasL_cons (has_tmp rfl) <| hasL_nil) (by kernel_rfl) (c_chain_Key hg0 hg1 e8))) <| .read (.plain rfl (pj_move (has_tmp rfl))) <| .read (.plain rfl (pj_call (hasL_cons (has_tmp rfl) <| hasL_nil) (by kernel_rfl) (c_rolodexref14_Key e9))) <| .read (.plain rfl (pj_eql (n := 2) (eq_vec (e := 5) (by kernel_rfl) (by kernel_rfl) (eq_un (by kernel_rfl))) (by decide) rfl (by kernel_rfl) (has_tmp rfl) (has_tmp rfl))) <| .read (.plain rfl (pj_move (has_tmp rfl))) <| .read (.no ⟨5, true, _, 29, _, rfl, rfl, rfl, fun _ _ => bl_p.1, gd_no e10⟩) <| .read (.no ⟨5, true, _, 29, _, rfl, rfl, rfl, fun _ _ => bl_p.1, gd_no e10⟩) <| .read (.no ⟨5, true, _, 29, _, rfl, rfl, rfl, fun _ _ => bl_p.1, gd_no e10⟩) <| .read (.no ⟨5, true, _, 29, _, rfl, rfl, rfl, fun _ _ => bl_p.1, gd_no e10⟩) <| .read (.no ⟨5, true, _, 29, _, rfl, rfl, rfl, fun _ _ => bl_p.1, gd_no e10⟩) <| .read (.no ⟨5, true, _, 29, _, rfl, rfl, rfl, fun _ _ => bl_p.1, gd_no e10⟩) <| .read (.no ⟨5, true, _, 29, _, rfl, rfl, rfl, fun _ _ => bl_p.1, gd_no e10⟩) <| .read (.no ⟨5, true, _, 29, _, rfl, rfl, rfl, fun _ _ => bl_p.1, gd_no e10⟩) <| .read (.no ⟨5, true, _, 29, _, rfl, rfl, rfl, fun _ _ => bl_p.1, gd_no e10⟩) <| .read (.no ⟨5, true, _, 29, _, rfl, rfl, rfl, fun _ _ => bl_p.1, gd_no e10⟩) <| .read (.no ⟨5, true, _, 29, _, rfl, rfl, rfl, fun _ _ => bl_p.1, gd_no e10⟩) <| .read (.plain rfl (PJ.eqv (R := bl) (pj_pick (t := any) (has_tmp rfl) (fun he => absurd (e10.symm.trans he) (by decide)) (fun _ => has_bl)) (Option.some.inj e11))) <| .read (.plain rfl (pj_move (has_tmp rfl))) <| .read (.yes ⟨18, true, _, 42, _, rfl, rfl, rfl, fun _ _ => bl_p.1, gd_yes e14⟩ (pj_move (has_tmp rfl))) <| .read (.yes ⟨18, true, _, 42, _, rfl, rfl, rfl, fun _ _ => bl_p.1, gd_yes e14⟩ (pj_load_to (has_tmp rfl) (by kernel_rfl))) <| .read (.yes ⟨18, true, _, 42, _, rfl, rfl, rfl, fun _ _ => bl_p.1, gd_yes e14⟩ (pj_call (hasL_cons (has_tmp rfl) <| hasL_cons (has_tmp rfl) <| hasL_nil) (by kernel_rfl) (c_chain_Commit hg0 hg1 e16))) <| .read (.yes ⟨18, true, _, 42, _, rfl, rfl, rfl, fun _ _ => bl_p.1, gd_yes e14⟩ (pj_move (has_tmp rfl))) <| .read (.yes ⟨18, true, _, 42, _, rfl, rfl, rfl, fun _ _ => bl_p.1, gd_yes e14⟩ (pj_load_to (has_tmp rfl) (by kernel_rfl))) <| .read (.yes ⟨18, true, _, 42, _, rfl, rfl, rfl, fun _ _ => bl_p.1, gd_yes e14⟩ (pj_call (hasL_cons (has_tmp rfl) <| hasL_cons (has_tmp rfl) <| hasL_nil) (by kernel_rfl) (c_rolodexref14_Commit e17))) <| .read (.yes ⟨18, true, _, 42, _, rfl, rfl, rfl, fun _ _ => bl_p.1, gd_yes e14⟩ (pj_eql (n := 2) (eq_vec (e := 5) (by kernel_rfl) (by kernel_rfl) (eq_un (by kernel_rfl))) (by decide) rfl (by kernel_rfl) (has_tmp rfl) (has_tmp rfl))) <| .read (.plain rfl (PJ.eqv (R := bl) (pj_pick (t := any) (has_tmp rfl) (fun _ => (has_tmp rfl)) (fun he => absurd (e14.symm.trans he) (by decide))) (Option.some.inj e15))) <| .read (.plain rfl (pj_move (has_tmp rfl))) <| .read (.no ⟨27, true, _, 51, _, rfl, rfl, rfl, fun _ _ => bl_p.1, gd_no e18⟩) <| .read (.no ⟨27, true, _, 51, _, rfl, rfl, rfl, fun _ _ => bl_p.1, gd_no e18⟩) <| .read (.no ⟨27, true, _, 51, _, rfl, rfl, rfl, fun _ _ => bl_p.1, gd_no e18⟩) <| .read (.no ⟨27, true, _, 51, _, rfl, rfl, rfl, fun _ _ => bl_p.1, gd_no e18⟩) <| .read (.no ⟨27, true, _, 51, _, rfl, rfl, rfl, fun _ _ => bl_p.1, gd_no e18⟩) <| .read (.no ⟨27, true, _, 51, _, rfl, rfl, rfl, fun _ _ => bl_p.1, gd_no e18⟩) <| .read (.no ⟨27, true, _, 51, _, rfl, rfl, rfl, fun _ _ => bl_p.1, gd_no e18⟩) <| .read (.plain rfl (PJ.eqv (R := bl) (pj_pick (t := any) (has_tmp rfl) (fun he => absurd (e18.symm.trans he) (by decide)) (fun _ => has_bl)) (Option.some.inj e19))) <| .nil) (j_to (Γ' := [(59, bl.slot y5)]) (H' := []) (.cons (.of_lk rfl) <| .nil) (.nil) J)
            · replace e15 := bf e14 e15
              rcases bool_tf (y4) with e18 | e18
              · replace e19 := bt e18 e19
                obtain ⟨r9, e20, e19⟩ := bind_some e19
                obtain ⟨r10, e21, e19⟩ := bind_some e19
                obtain ⟨r11, e22, e19⟩ := bind_some e19
                exact run_draw (n := 36) (by kernel_rfl) (by kernel_rfl) (by kernel_rfl) (by kernel_rfl) (.read (.plain rfl (pj_move (has_tmp rfl))) <| .read (.plain rfl (pj_call (hasL_cons (has_tmp rfl) <| hasL_nil) (by kernel_rfl) (c_chain_Key hg0 hg1 e8))) <| .read (.plain rfl (pj_move (has_tmp rfl))) <| .read (.plain rfl (pj_call (hasL_cons (has_tmp rfl) <| hasL_nil) (by kernel_rfl) (c_rolodexref14_Key e9))) <| .read (.plain rfl (pj_eql (n := 2) (eq_vec (e := 5) (by kernel_rfl) (by kernel_rfl) (eq_un (by kernel_rfl))) (by decide) rfl (by kernel_rfl) (has_tmp rfl) (has_tmp rfl))) <| .read (.plain rfl (pj_move (has_tmp rfl))) <| .read (.no ⟨5, true, _, 29, _, rfl, rfl, rfl, fun _ _ => bl_p.1, gd_no e10⟩) <| .read (.no ⟨5, true, _, 29, _, rfl, rfl, rfl, fun _ _ => bl_p.1, gd_no e10⟩) <| .read (.no ⟨5, true, _, 29, _, rfl, rfl, rfl, fun _ _ => bl_p.1, gd_no e10⟩) <| .read (.no ⟨5, true, _, 29, _, rfl, rfl, rfl, fun _ _ => bl_p.1, gd_no e10⟩) <| .read (.no ⟨5, true, _, 29, _, rfl, rfl, rfl, fun _ _ => bl_p.1, gd_no e10⟩) <| .read (.no ⟨5, true, _, 29, _, rfl, rfl, rfl, fun _ _ => bl_p.1, gd_no e10⟩) <| .read (.no ⟨5, true, _, 29, _, rfl, rfl, rfl, fun _ _ => bl_p.1, gd_no e10⟩) <| .read (.no ⟨5, true, _, 29, _, rfl, rfl, rfl, fun _ _ => bl_p.1, gd_no e10⟩) <| .read (.no ⟨5, true, _, 29, _, rfl, rfl, rfl, fun _ _ => bl_p.1, gd_no e10⟩) <| .read (.no ⟨5, true, _, 29, _, rfl, rfl, rfl, fun _ _ => bl_p.1, gd_no e10⟩) <| .read (.no ⟨5, true, _, 29, _, rfl, rfl, rfl, fun _ _ => bl_p.1, gd_no e10⟩) <| .read (.plain rfl (PJ.eqv (R := bl) (pj_pick (t := any) (has_tmp rfl) (fun he => absurd (e10.symm.trans he) (by decide)) (fun _ => has_bl)) (Option.some.inj e11))) <| .read (.plain rfl (pj_move (has_tmp rfl))) <| .read (.no ⟨18, true, _, 42, _, rfl, rfl, rfl, fun _ _ => bl_p.1, gd_no e14⟩) <| .read (.no ⟨18, true, _, 42, _, rfl, rfl, rfl, fun _ _ => bl_p.1, gd_no e14⟩) <| .read (.no ⟨18, true, _, 42, _, rfl, rfl, rfl, fun _ _ => bl_p.1, gd_no e14⟩) <| .read (.no ⟨18, true, _, 42, _, rfl, rfl, rfl, fun _ _ => bl_p.1, gd_no e14⟩) <| .read (.no ⟨18, true, _, 42, _, rfl, rfl, rfl, fun _ _ => bl_p.1, gd_no e14⟩) <| .read (.no ⟨18, true, _, 42, _, rfl, rfl, rfl, fun _ _ => bl_p.1, gd_no e14⟩) <| .read (.no ⟨18, true, _, 42, _, rfl, rfl, rfl, fun _ _ => bl_p.1, gd_no e14⟩) <| .read (.plain rfl (PJ.eqv (R := bl) (pj_pick (t := any) (has_tmp rfl) (fun he => absurd (e14.symm.trans he) (by decide)) (fun _ => has_bl)) (Option.some.inj e15))) <| .read (.plain rfl (pj_move (has_tmp rfl))) <| .read (.yes ⟨27, true, _, 51, _, rfl, rfl, rfl, fun _ _ => bl_p.1, gd_yes e18⟩ (pj_move (has_tmp rfl))) <| .read (.yes ⟨27, true, _, 51, _, rfl, rfl, rfl, fun _ _ => bl_p.1, gd_yes e18⟩ (pj_load_to (has_tmp rfl) (by kernel_rfl))) <| .read (.yes ⟨27, true, _, 51, _, rfl, rfl, rfl, fun _ _ => bl_p.1, gd_yes e18⟩ (pj_call (hasL_cons (has_tmp rfl) <| hasL_cons (has_tmp rfl) <| hasL_nil) (by kernel_rfl) (Ctr.froze (c_chain_Text e20)))) <| .read (.yes ⟨27, true, _, 51, _, rfl, rfl, rfl, fun _ _ => bl_p.1, gd_yes e18⟩ (pj_move (has_tmp rfl))) <| .read (.yes ⟨27, true, _, 51, _, rfl, rfl, rfl, fun _ _ => bl_p.1, gd_yes e18⟩ (pj_load_to (has_tmp rfl) (by kernel_rfl))) <| .read (.yes ⟨27, true, _, 51, _, rfl, rfl, rfl, fun _ _ => bl_p.1, gd_yes e18⟩ (pj_call (hasL_cons (has_tmp rfl) <| hasL_cons (has_tmp rfl) <| hasL_nil) (by kernel_rfl) (Ctr.froze (c_rolodexref14_Text e21)))) <| .read (.yes ⟨27, true, _, 51, _, rfl, rfl, rfl, fun _ _ => bl_p.1, gd_yes e18⟩ (pj_call (hasL_cons (has_tmp rfl) <| hasL_cons (has_tmp rfl) <| hasL_nil) (by kernel_rfl) (c_rolodexref01_Same e22))) <| .read (.plain rfl (PJ.eqv (R := bl) (pj_pick (t := any) (has_tmp rfl) (fun _ => (has_tmp rfl)) (fun he => absurd (e18.symm.trans he) (by decide))) (Option.some.inj e19))) <| .nil) (j_to (Γ' := [(59, bl.slot y5)]) (H' := []) (.cons (.of_lk rfl) <| .nil) (.nil) J)
              · replace e19 := bf e18 e19
                exact run_draw (n := 36) (by kernel_rfl) (by kernel_rfl) (by kernel_rfl) (by kernel_rfl) (.read (.plain rfl (pj_move (has_tmp rfl))) <| .read (.plain rfl (pj_call (hasL_cons (has_tmp rfl) <| hasL_nil) (by kernel_rfl) (c_chain_Key hg0 hg1 e8))) <| .read (.plain rfl (pj_move (has_tmp rfl))) <| .read (.plain rfl (pj_call (hasL_cons (has_tmp rfl) <| hasL_nil) (by kernel_rfl) (c_rolodexref14_Key e9))) <| .read (.plain rfl (pj_eql (n := 2) (eq_vec (e := 5) (by kernel_rfl) (by kernel_rfl) (eq_un (by kernel_rfl))) (by decide) rfl (by kernel_rfl) (has_tmp rfl) (has_tmp rfl))) <| .read (.plain rfl (pj_move (has_tmp rfl))) <| .read (.no ⟨5, true, _, 29, _, rfl, rfl, rfl, fun _ _ => bl_p.1, gd_no e10⟩) <| .read (.no ⟨5, true, _, 29, _, rfl, rfl, rfl, fun _ _ => bl_p.1, gd_no e10⟩) <| .read (.no ⟨5, true, _, 29, _, rfl, rfl, rfl, fun _ _ => bl_p.1, gd_no e10⟩) <| .read (.no ⟨5, true, _, 29, _, rfl, rfl, rfl, fun _ _ => bl_p.1, gd_no e10⟩) <| .read (.no ⟨5, true, _, 29, _, rfl, rfl, rfl, fun _ _ => bl_p.1, gd_no e10⟩) <| .read (.no ⟨5, true, _, 29, _, rfl, rfl, rfl, fun _ _ => bl_p.1, gd_no e10⟩) <| .read (.no ⟨5, true, _, 29, _, rfl, rfl, rfl, fun _ _ => bl_p.1, gd_no e10⟩) <| .read (.no ⟨5, true, _, 29, _, rfl, rfl, rfl, fun _ _ => bl_p.1, gd_no e10⟩) <| .read (.no ⟨5, true, _, 29, _, rfl, rfl, rfl, fun _ _ => bl_p.1, gd_no e10⟩) <| .read (.no ⟨5, true, _, 29, _, rfl, rfl, rfl, fun _ _ => bl_p.1, gd_no e10⟩) <| .read (.no ⟨5, true, _, 29, _, rfl, rfl, rfl, fun _ _ => bl_p.1, gd_no e10⟩) <| .read (.plain rfl (PJ.eqv (R := bl) (pj_pick (t := any) (has_tmp rfl) (fun he => absurd (e10.symm.trans he) (by decide)) (fun _ => has_bl)) (Option.some.inj e11))) <| .read (.plain rfl (pj_move (has_tmp rfl))) <| .read (.no ⟨18, true, _, 42, _, rfl, rfl, rfl, fun _ _ => bl_p.1, gd_no e14⟩) <| .read (.no ⟨18, true, _, 42, _, rfl, rfl, rfl, fun _ _ => bl_p.1, gd_no e14⟩) <| .read (.no ⟨18, true, _, 42, _, rfl, rfl, rfl, fun _ _ => bl_p.1, gd_no e14⟩) <| .read (.no ⟨18, true, _, 42, _, rfl, rfl, rfl, fun _ _ => bl_p.1, gd_no e14⟩) <| .read (.no ⟨18, true, _, 42, _, rfl, rfl, rfl, fun _ _ => bl_p.1, gd_no e14⟩) <| .read (.no ⟨18, true, _, 42, _, rfl, rfl, rfl, fun _ _ => bl_p.1, gd_no e14⟩) <| .read (.no ⟨18, true, _, 42, _, rfl, rfl, rfl, fun _ _ => bl_p.1, gd_no e14⟩) <| .read (.plain rfl (PJ.eqv (R := bl) (pj_pick (t := any) (has_tmp rfl) (fun he => absurd (e14.symm.trans he) (by decide)) (fun _ => has_bl)) (Option.some.inj e15))) <| .read (.plain rfl (pj_move (has_tmp rfl))) <| .read (.no ⟨27, true, _, 51, _, rfl, rfl, rfl, fun _ _ => bl_p.1, gd_no e18⟩) <| .read (.no ⟨27, true, _, 51, _, rfl, rfl, rfl, fun _ _ => bl_p.1, gd_no e18⟩) <| .read (.no ⟨27, true, _, 51, _, rfl, rfl, rfl, fun _ _ => bl_p.1, gd_no e18⟩) <| .read (.no ⟨27, true, _, 51, _, rfl, rfl, rfl, fun _ _ => bl_p.1, gd_no e18⟩) <| .read (.no ⟨27, true, _, 51, _, rfl, rfl, rfl, fun _ _ => bl_p.1, gd_no e18⟩) <| .read (.no ⟨27, true, _, 51, _, rfl, rfl, rfl, fun _ _ => bl_p.1, gd_no e18⟩) <| .read (.no ⟨27, true, _, 51, _, rfl, rfl, rfl, fun _ _ => bl_p.1, gd_no e18⟩) <| .read (.plain rfl (PJ.eqv (R := bl) (pj_pick (t := any) (has_tmp rfl) (fun he => absurd (e18.symm.trans he) (by decide)) (fun _ => has_bl)) (Option.some.inj e19))) <| .nil) (j_to (Γ' := [(59, bl.slot y5)]) (H' := []) (.cons (.of_lk rfl) <| .nil) (.nil) J)
    · rcases bool_tf (y1) with e4 | e4
      · replace e5 := bt e4 e5
        refine j_guard_no2 (j := 7) (want := false) rfl rfl rfl rfl (bl_isx e4) rfl rfl rfl ?_
        refine j_guard_no2 (j := 7) (want := false) rfl rfl rfl rfl (bl_isx e4) rfl rfl rfl ?_
        refine j_guard_no2 (j := 7) (want := false) rfl rfl rfl rfl (bl_isx e4) rfl rfl rfl ?_
        refine j_guard_no2 (j := 7) (want := false) rfl rfl rfl rfl (bl_isx e4) rfl rfl rfl ?_
        refine j_pure (PJ.eqv (R := bl) (pj_pick (t := any) (has_tmp rfl) (fun _ => has_bl) (fun he => absurd (e4.symm.trans he) (by decide))) (Option.some.inj e5)) rfl rfl rfl ?_
        exact j_to (.cons (.of_lk rfl) <| .cons (.of_lk rfl) <| .cons (.of_lk rfl) <| .cons (.of_lk rfl) <| .nil) (.nil) (J ())
      · replace e5 := bf e4 e5
        refine j_pure_y (pj_field_to (has_tmp rfl) (Path.then (Path.snd i64 (prod i64 (prod R_api_Hash (prod R_api_Hash (sl u8))))) (Path.then (Path.snd i64 (prod R_api_Hash (prod R_api_Hash (sl u8)))) (Path.then (Path.snd R_api_Hash (prod R_api_Hash (sl u8))) (Path.snd R_api_Hash (sl u8))))) (by kernel_rfl)) rfl rfl rfl rfl (bl_isx e4) rfl rfl ?_
        refine j_pure_y (pj_load_to (has_tmp rfl) (by kernel_rfl)) rfl rfl rfl rfl (bl_isx e4) rfl rfl ?_
        refine j_pure_y (pj_len_sl (sz := 1) (has_tmp rfl) (by kernel_rfl)) rfl rfl rfl rfl (bl_isx e4) rfl rfl ?_
        refine j_pure_y (pj_igtr (has_tmp rfl) has_i64) rfl rfl rfl rfl (bl_isx e4) rfl rfl ?_
        refine j_pure (PJ.eqv (R := bl) (pj_pick (t := any) (has_tmp rfl) (fun he => absurd (e4.symm.trans he) (by decide)) (fun _ => (has_tmp rfl))) (Option.some.inj e5)) rfl rfl rfl ?_
        exact j_to (.cons (.of_lk rfl) <| .cons (.of_lk rfl) <| .cons (.of_lk rfl) <| .cons (.of_lk rfl) <| .nil) (.nil) (J ())
  · rcases bool_tf (!r1) with e2 | e2
    · replace e3 := bt e2 e3
      refine j_guard_no2 (j := 2) (want := false) rfl rfl rfl rfl (bl_isx e2) rfl rfl rfl ?_
      refine j_guard_no2 (j := 2) (want := false) rfl rfl rfl rfl (bl_isx e2) rfl rfl rfl ?_
      refine j_guard_no2 (j := 2) (want := false) rfl rfl rfl rfl (bl_isx e2) rfl rfl rfl ?_
      refine j_pure (PJ.eqv (R := bl) (pj_pick (t := any) (has_tmp rfl) (fun _ => has_bl) (fun he => absurd (e2.symm.trans he) (by decide))) (Option.some.inj e3)) rfl rfl rfl ?_
      exact j_to (.cons (.of_lk rfl) <| .cons (.of_lk rfl) <| .cons (.of_lk rfl) <| .cons (.of_lk rfl) <| .nil) (.nil) (J ())
    · replace e3 := bf e2 e3
      refine j_pure_y (pj_move (has_tmp rfl)) rfl rfl rfl rfl (bl_isx e2) rfl rfl ?_
      refine j_pure_y (pj_len_sl (sz := 1) (has_tmp rfl) (by kernel_rfl)) rfl rfl rfl rfl (bl_isx e2) rfl rfl ?_
      refine j_pure_y (pj_igtr (has_tmp rfl) has_i64) rfl rfl rfl rfl (bl_isx e2) rfl rfl ?_
      refine j_pure (PJ.eqv (R := bl) (pj_pick (t := any) (has_tmp rfl) (fun he => absurd (e2.symm.trans he) (by decide)) (fun _ => (has_tmp rfl))) (Option.some.inj e3)) rfl rfl rfl ?_
      exact j_to (.cons (.of_lk rfl) <| .cons (.of_lk rfl) <| .cons (.of_lk rfl) <| .cons (.of_lk rfl) <| .nil) (.nil) (J ())
set_option maxRecDepth 100000 in
set_option maxHeartbeats 4000000 in
theorem c_chain_Check {G : GP} (hg0 : HG0 G) (hg1 : HG1 G) {p_label : List (BitVec 8)} {p_chain : List T_chain_Version} {p_commitment : T_api_Hash} {r : Bool} (h : chain_Check p_label p_chain p_commitment = some r) : Ctr Tryd.prog G 29 [(sl u8).slot p_label, (sl R_chain_Version).slot p_chain, R_api_Hash.slot p_commitment] [] (fun (_ : Unit) => bl.slot r) (fun (_ : Unit) => []) := by
  unfold chain_Check at h
  refine ctr_of_run Tryd.func29 rfl 22 rfl rfl fun m0 w0 b0 => ?_
  show Run _ _ _ [(0, (sl u8).slot p_label), (1, (sl R_chain_Version).slot p_chain), (2, R_api_Hash.slot p_commitment)] _
  refine run_seq ?_
  refine run_text ?_
  refine j_pure (pj_box_to (has_tmp rfl)) rfl rfl rfl ?_
  refine j_pure (pj_assign has_bl) rfl rfl rfl ?_
  refine j_end ?_
  refine run_seq ?_
  obtain ⟨r1, e1, h⟩ := bind_some h
  obtain ⟨y1, e3, h⟩ := bind_some h
  refine (run_drawJ (n := 15) (Γ' := [(21, bl.slot y1)]) (H' := []) ?_ fun J => ?_)
  · clear e3
    refine j_pure (pj_assign (has_tmp rfl)) rfl rfl rfl ?_
    refine j_end ?_
    obtain rfl := Option.some.inj h
    exact run_ret fun a w hst => q_ret1 hst rfl (.tmp rfl) () (fun _ _ h => h) (.nil)
  · rcases bool_tf (r1) with e2 | e2
    · replace e3 := bt e2 e3
      obtain ⟨x1, e4, e3⟩ := bind_some e3
      obtain ⟨r2, e5, e3⟩ := bind_some e3
      exact run_draw (n := 15) (by kernel_rfl) (by kernel_rfl) (by kernel_rfl) (by kernel_rfl) (.read (.plain rfl (pj_move (has_tmp rfl))) <| .read (.plain rfl (pj_move (has_tmp rfl))) <| .read (.plain rfl (pj_call (hasL_cons (has_tmp rfl) <| hasL_cons (has_tmp rfl) <| hasL_nil) (by kernel_rfl) (c_chain_Formed hg0 hg1 e1))) <| .read (.plain rfl (pj_move (has_tmp rfl))) <| .read (.yes ⟨3, true, _, 10, _, rfl, rfl, rfl, fun _ _ => bl_p.1, gd_yes e2⟩ (pj_move (has_tmp rfl))) <| .read (.yes ⟨3, true, _, 10, _, rfl, rfl, rfl, fun _ _ => bl_p.1, gd_yes e2⟩ (pj_move (has_tmp rfl))) <| .read (.yes ⟨3, true, _, 10, _, rfl, rfl, rfl, fun _ _ => bl_p.1, gd_yes e2⟩ (pj_move (has_tmp rfl))) <| .read (.yes ⟨3, true, _, 10, _, rfl, rfl, rfl, fun _ _ => bl_p.1, gd_yes e2⟩ (pj_len_sl (sz := 67) (has_tmp rfl) (by kernel_rfl))) <| .read (.yes ⟨3, true, _, 10, _, rfl, rfl, rfl, fun _ _ => bl_p.1, gd_yes e2⟩ (pj_isub (has_tmp rfl) has_i64)) <| .read (.yes ⟨3, true, _, 10, _, rfl, rfl, rfl, fun _ _ => bl_p.1, gd_yes e2⟩ (pj_index_slx (has_tmp rfl) (has_tmp rfl) isInt_i64 e4 (by kernel_rfl))) <| .read (.yes ⟨3, true, _, 10, _, rfl, rfl, rfl, fun _ _ => bl_p.1, gd_yes e2⟩ (pj_load_to (has_tmp rfl) (by kernel_rfl))) <| .read (.yes ⟨3, true, _, 10, _, rfl, rfl, rfl, fun _ _ => bl_p.1, gd_yes e2⟩ (pj_call (hasL_cons (has_tmp rfl) <| hasL_cons (has_tmp rfl) <| hasL_nil) (by kernel_rfl) (c_chain_Commit hg0 hg1 e5))) <| .read (.yes ⟨3, true, _, 10, _, rfl, rfl, rfl, fun _ _ => bl_p.1, gd_yes e2⟩ (pj_load_to (has_tmp rfl) (by kernel_rfl))) <| .read (.yes ⟨3, true, _, 10, _, rfl, rfl, rfl, fun _ _ => bl_p.1, gd_yes e2⟩ (pj_eql (n := 2) (eq_vec (e := 5) (by kernel_rfl) (by kernel_rfl) (eq_un (by kernel_rfl))) (by decide) rfl (by kernel_rfl) (has_tmp rfl) (has_tmp rfl))) <| .read (.plain rfl (PJ.eqv (R := bl) (pj_pick (t := any) (has_tmp rfl) (fun _ => (has_tmp rfl)) (fun he => absurd (e2.symm.trans he) (by decide))) (Option.some.inj e3))) <| .nil) (j_to (Γ' := [(21, bl.slot y1)]) (H' := []) (.cons (.of_lk rfl) <| .nil) (.nil) J)
    · replace e3 := bf e2 e3
      exact run_draw (n := 15) (by kernel_rfl) (by kernel_rfl) (by kernel_rfl) (by kernel_rfl) (.read (.plain rfl (pj_move (has_tmp rfl))) <| .read (.plain rfl (pj_move (has_tmp rfl))) <| .read (.plain rfl (pj_call (hasL_cons (has_tmp rfl) <| hasL_cons (has_tmp rfl) <| hasL_nil) (by kernel_rfl) (c_chain_Formed hg0 hg1 e1))) <| .read (.plain rfl (pj_move (has_tmp rfl))) <| .read (.no ⟨3, true, _, 10, _, rfl, rfl, rfl, fun _ _ => bl_p.1, gd_no e2⟩) <| .read (.no ⟨3, true, _, 10, _, rfl, rfl, rfl, fun _ _ => bl_p.1, gd_no e2⟩) <| .read (.no ⟨3, true, _, 10, _, rfl, rfl, rfl, fun _ _ => bl_p.1, gd_no e2⟩) <| .read (.no ⟨3, true, _, 10, _, rfl, rfl, rfl, fun _ _ => bl_p.1, gd_no e2⟩) <| .read (.no ⟨3, true, _, 10, _, rfl, rfl, rfl, fun _ _ => bl_p.1, gd_no e2⟩) <| .read (.no ⟨3, true, _, 10, _, rfl, rfl, rfl, fun _ _ => bl_p.1, gd_no e2⟩) <| .read (.no ⟨3, true, _, 10, _, rfl, rfl, rfl, fun _ _ => bl_p.1, gd_no e2⟩) <| .read (.no ⟨3, true, _, 10, _, rfl, rfl, rfl, fun _ _ => bl_p.1, gd_no e2⟩) <| .read (.no ⟨3, true, _, 10, _, rfl, rfl, rfl, fun _ _ => bl_p.1, gd_no e2⟩) <| .read (.no ⟨3, true, _, 10, _, rfl, rfl, rfl, fun _ _ => bl_p.1, gd_no e2⟩) <| .read (.plain rfl (PJ.eqv (R := bl) (pj_pick (t := any) (has_tmp rfl) (fun he => absurd (e2.symm.trans he) (by decide)) (fun _ => has_bl)) (Option.some.inj e3))) <| .nil) (j_to (Γ' := [(21, bl.slot y1)]) (H' := []) (.cons (.of_lk rfl) <| .nil) (.nil) J)
set_option maxRecDepth 100000 in
set_option maxHeartbeats 4000000 in
theorem c_rolodexref12_Clash {G : GP} {p_a : List (List (BitVec 8))} {p_b : List (List (BitVec 8))} {r : Bool} (h : rolodexref12_Clash p_a p_b = some r) : Ctr Tryd.prog G 30 [(sl (sl u8)).slot p_a, (sl (sl u8)).slot p_b] [] (fun (_ : Unit) => bl.slot r) (fun (_ : Unit) => []) := by
  unfold rolodexref12_Clash at h
  refine ctr_of_run Tryd.func30 rfl 42 rfl rfl fun m0 w0 b0 => ?_
  refine run_ret0 fun Qf hq1 hq2 => ?_
  show Run _ _ _ [(0, (sl (sl u8)).slot p_a), (1, (sl (sl u8)).slot p_b)] _
  refine run_seq ?_
  refine run_text ?_
  refine j_pure (pj_assign has_bl) rfl rfl rfl ?_
  refine j_end ?_
  refine run_seq ?_
  refine run_seq ?_
  refine run_text ?_
  refine j_pure (pj_assign has_i64) rfl rfl rfl ?_
  refine j_end ?_
  obtain ⟨o, e14, h⟩ := bind_some h
  refine run_loop (Γi := fun (i : Unit) (s : Int) => [(0, (sl (sl u8)).slot p_a), (1, (sl (sl u8)).slot p_b), (5, i64.slot s)]) (Hi := fun (i : Unit) (s : Int) => []) (R := fun x a w => x = r → Qf a w) e14 () (fun a w hst => (hst.sub (.cons (.of_lk rfl) <| .cons (.of_lk rfl) <| .cons (.of_lk rfl) <| .nil)).keep (.nil)) ?_ ?_ ?_
  · clear h e14
    rintro _ y1 lr h
    change rolodexref12_Clash_L1 p_a p_b y1 = some _ at h
    show Run _ _ _ [(0, (sl (sl u8)).slot p_a), (1, (sl (sl u8)).slot p_b), (5, i64.slot y1)] []
    unfold rolodexref12_Clash_L1 at h
    refine run_seq ?_
    refine run_seq ?_
    refine run_text ?_
    refine j_pure (pj_move (has_tmp rfl)) rfl rfl rfl ?_
    refine j_pure (pj_move (has_tmp rfl)) rfl rfl rfl ?_
    refine j_pure (pj_len_sl (sz := 1) (has_tmp rfl) (by kernel_rfl)) rfl rfl rfl ?_
    refine j_pure (pj_ilss (has_tmp rfl) (has_tmp rfl)) rfl rfl rfl ?_
    refine j_end ?_
    refine run_cond (has_tmp rfl) (fun e1 => ?_) (fun e1 => ?_)
    · replace h := bt e1 h
      refine run_skip ?_
      refine run_seq ?_
      refine run_block ?_
      refine run_seq ?_
      refine run_text ?_
      refine j_pure (pj_assign has_i64) rfl rfl rfl ?_
      refine j_end ?_
      obtain ⟨o, e13, h⟩ := bind_some h
      refine run_loop (Γi := fun (i : Unit) (s : Int) => [(0, (sl (sl u8)).slot p_a), (1, (sl (sl u8)).slot p_b), (5, i64.slot y1), (6, i64.slot s)]) (Hi := fun (i : Unit) (s : Int) => []) (R := fun x a w => x = r → Qf a w) e13 () (fun a w hst => (hst.sub (.cons (.of_lk rfl) <| .cons (.of_lk rfl) <| .cons (.of_lk rfl) <| .cons (.of_lk rfl) <| .nil)).keep (.nil)) ?_ ?_ ?_
      · clear h e13
        rintro _ y2 lr h
        change rolodexref12_Clash_L2 p_b p_a y1 y2 = some _ at h
        show Run _ _ _ [(0, (sl (sl u8)).slot p_a), (1, (sl (sl u8)).slot p_b), (5, i64.slot y1), (6, i64.slot y2)] []
        unfold rolodexref12_Clash_L2 at h
        refine run_seq ?_
        refine run_seq ?_
        refine run_text ?_
        refine j_pure (pj_move (has_tmp rfl)) rfl rfl rfl ?_
        refine j_pure (pj_move (has_tmp rfl)) rfl rfl rfl ?_
        refine j_pure (pj_len_sl (sz := 1) (has_tmp rfl) (by kernel_rfl)) rfl rfl rfl ?_
        refine j_pure (pj_ilss (has_tmp rfl) (has_tmp rfl)) rfl rfl rfl ?_
        refine j_end ?_
        refine run_cond (has_tmp rfl) (fun e2 => ?_) (fun e2 => ?_)
        · replace h := bt e2 h
          refine run_skip ?_
          refine run_seq ?_
          refine run_block ?_
          refine run_seq ?_
          obtain ⟨x1, e3, h⟩ := bind_some h
          obtain ⟨x2, e4, h⟩ := bind_some h
          obtain ⟨r1, e5, h⟩ := bind_some h
          obtain ⟨y3, e7, h⟩ := bind_some h
          refine (run_drawJ (n := 23) (Γ' := [(0, (sl (sl u8)).slot p_a), (1, (sl (sl u8)).slot p_b), (5, i64.slot y1), (6, i64.slot y2), (41, bl.slot y3)]) (H' := []) ?_ fun J => ?_)
          · clear e7
            refine j_end ?_
            refine run_cond (has_tmp rfl) (fun e12 => ?_) (fun e12 => ?_)
            · replace h := bt e12 h
              refine run_seq ?_
              refine run_text ?_
              refine j_pure (pj_assign has_bl) rfl rfl rfl ?_
              refine j_end ?_
              obtain rfl := Option.some.inj h
              refine run_ret fun a w hst => ⟨rfl, fun hr => ?_⟩
              subst hr
              exact hq2 a w (q_ret1 hst rfl (.tmp rfl) () (fun _ _ h => h) (.nil))
            · replace h := bf e12 h
              refine run_skip ?_
              refine run_endblock ?_
              refine run_text ?_
              refine j_pure (pj_move (has_tmp rfl)) rfl rfl rfl ?_
              refine j_pure (pj_iadd (has_tmp rfl) has_i64) rfl rfl rfl ?_
              refine j_pure (pj_assign (has_tmp rfl)) rfl rfl rfl ?_
              refine j_end ?_
              obtain rfl := Option.some.inj h
              exact run_next () (.cons (.of_lk rfl) <| .cons (.of_lk rfl) <| .cons (.of_lk rfl) <| .cons (.of_lk rfl) <| .nil) (.nil)
          · rcases bool_tf (!r1) with e6 | e6
            · replace e7 := bt e6 e7
              obtain ⟨x3, e8, e7⟩ := bind_some e7
              obtain ⟨r2, e9, e7⟩ := bind_some e7
              obtain ⟨x4, e10, e7⟩ := bind_some e7
              obtain ⟨r3, e11, e7⟩ := bind_some e7
              exact run_draw (n := 23) (by kernel_rfl) (by kernel_rfl) (by kernel_rfl) (by kernel_rfl) (.read (.plain rfl (pj_move (has_tmp rfl))) <| .read (.plain rfl (pj_move (has_tmp rfl))) <| .read (.plain rfl (pj_index_slx (has_tmp rfl) (has_tmp rfl) isInt_i64 e3 (by kernel_rfl))) <| .read (.plain rfl (pj_load_to (has_tmp rfl) (by kernel_rfl))) <| .read (.plain rfl (pj_move (has_tmp rfl))) <| .read (.plain rfl (pj_move (has_tmp rfl))) <| .read (.plain rfl (pj_index_slx (has_tmp rfl) (has_tmp rfl) isInt_i64 e4 (by kernel_rfl))) <| .read (.plain rfl (pj_load_to (has_tmp rfl) (by kernel_rfl))) <| .read (.plain rfl (pj_call (hasL_cons (has_tmp rfl) <| hasL_cons (has_tmp rfl) <| hasL_nil) (by kernel_rfl) (c_rolodexref01_Same e5))) <| .read (.plain rfl (pj_not (has_tmp rfl))) <| .read (.plain rfl (pj_move (has_tmp rfl))) <| .read (.yes ⟨10, true, _, 29, _, rfl, rfl, rfl, fun _ _ => bl_p.1, gd_yes e6⟩ (pj_move (has_tmp rfl))) <| .read (.yes ⟨10, true, _, 29, _, rfl, rfl, rfl, fun _ _ => bl_p.1, gd_yes e6⟩ (pj_move (has_tmp rfl))) <| .read (.yes ⟨10, true, _, 29, _, rfl, rfl, rfl, fun _ _ => bl_p.1, gd_yes e6⟩ (pj_index_slx (has_tmp rfl) (has_tmp rfl) isInt_i64 e8 (by kernel_rfl))) <| .read (.yes ⟨10, true, _, 29, _, rfl, rfl, rfl, fun _ _ => bl_p.1, gd_yes e6⟩ (pj_load_to (has_tmp rfl) (by kernel_rfl))) <| .read (.yes ⟨10, true, _, 29, _, rfl, rfl, rfl, fun _ _ => bl_p.1, gd_yes e6⟩ (pj_call (hasL_cons (has_tmp rfl) <| hasL_nil) (by kernel_rfl) (c_rolodexref02_Sum e9))) <| .read (.yes ⟨10, true, _, 29, _, rfl, rfl, rfl, fun _ _ => bl_p.1, gd_yes e6⟩ (pj_move (has_tmp rfl))) <| .read (.yes ⟨10, true, _, 29, _, rfl, rfl, rfl, fun _ _ => bl_p.1, gd_yes e6⟩ (pj_move (has_tmp rfl))) <| .read (.yes ⟨10, true, _, 29, _, rfl, rfl, rfl, fun _ _ => bl_p.1, gd_yes e6⟩ (pj_index_slx (has_tmp rfl) (has_tmp rfl) isInt_i64 e10 (by kernel_rfl))) <| .read (.yes ⟨10, true, _, 29, _, rfl, rfl, rfl, fun _ _ => bl_p.1, gd_yes e6⟩ (pj_load_to (has_tmp rfl) (by kernel_rfl))) <| .read (.yes ⟨10, true, _, 29, _, rfl, rfl, rfl, fun _ _ => bl_p.1, gd_yes e6⟩ (pj_call (hasL_cons (has_tmp rfl) <| hasL_nil) (by kernel_rfl) (c_rolodexref02_Sum e11))) <| .read (.yes ⟨10, true, _, 29, _, rfl, rfl, rfl, fun _ _ => bl_p.1, gd_yes e6⟩ (pj_eql (n := 2) (eq_vec (e := 5) (by kernel_rfl) (by kernel_rfl) (eq_un (by kernel_rfl))) (by decide) rfl (by kernel_rfl) (has_tmp rfl) (has_tmp rfl))) <| .read (.plain rfl (PJ.eqv (R := bl) (pj_pick (t := any) (has_tmp rfl) (fun _ => (has_tmp rfl)) (fun he => absurd (e6.symm.trans he) (by decide))) (Option.some.inj e7))) <| .nil) (j_to (Γ' := [(0, (sl (sl u8)).slot p_a), (1, (sl (sl u8)).slot p_b), (5, i64.slot y1), (6, i64.slot y2), (41, bl.slot y3)]) (H' := []) (.cons (.of_lk rfl) <| .cons (.of_lk rfl) <| .cons (.of_lk rfl) <| .cons (.of_lk rfl) <| .cons (.of_lk rfl) <| .nil) (.nil) J)
            · replace e7 := bf e6 e7
              exact run_draw (n := 23) (by kernel_rfl) (by kernel_rfl) (by kernel_rfl) (by kernel_rfl) (.read (.plain rfl (pj_move (has_tmp rfl))) <| .read (.plain rfl (pj_move (has_tmp rfl))) <| .read (.plain rfl (pj_index_slx (has_tmp rfl) (has_tmp rfl) isInt_i64 e3 (by kernel_rfl))) <| .read (.plain rfl (pj_load_to (has_tmp rfl) (by kernel_rfl))) <| .read (.plain rfl (pj_move (has_tmp rfl))) <| .read (.plain rfl (pj_move (has_tmp rfl))) <| .read (.plain rfl (pj_index_slx (has_tmp rfl) (has_tmp rfl) isInt_i64 e4 (by kernel_rfl))) <| .read (.plain rfl (pj_load_to (has_tmp rfl) (by kernel_rfl))) <| .read (.plain rfl (pj_call (hasL_cons (has_tmp rfl) <| hasL_cons (has_tmp rfl) <| hasL_nil) (by kernel_rfl) (c_rolodexref01_Same e5))) <| .read (.plain rfl (pj_not (has_tmp rfl))) <| .read (.plain rfl (pj_move (has_tmp rfl))) <| .read (.no ⟨10, true, _, 29, _, rfl, rfl, rfl, fun _ _ => bl_p.1, gd_no e6⟩) <| .read (.no ⟨10, true, _, 29, _, rfl, rfl, rfl, fun _ _ => bl_p.1, gd_no e6⟩) <| .read (.no ⟨10, true, _, 29, _, rfl, rfl, rfl, fun _ _ => bl_p.1, gd_no e6⟩) <| .read (.no ⟨10, true, _, 29, _, rfl, rfl, rfl, fun _ _ => bl_p.1, gd_no e6⟩) <| .read (.no ⟨10, true, _, 29, _, rfl, rfl, rfl, fun _ _ => bl_p.1, gd_no e6⟩) <| .read (.no ⟨10, true, _, 29, _, rfl, rfl, rfl, fun _ _ => bl_p.1, gd_no e6⟩) <| .read (.no ⟨10, true, _, 29, _, rfl, rfl, rfl, fun _ _ => bl_p.1, gd_no e6⟩) <| .read (.no ⟨10, true, _, 29, _, rfl, rfl, rfl, fun _ _ => bl_p.1, gd_no e6⟩) <| .read (.no ⟨10, true, _, 29, _, rfl, rfl, rfl, fun _ _ => bl_p.1, gd_no e6⟩) <| .read (.no ⟨10, true, _, 29, _, rfl, rfl, rfl, fun _ _ => bl_p.1, gd_no e6⟩) <| .read (.no ⟨10, true, _, 29, _, rfl, rfl, rfl, fun _ _ => bl_p.1, gd_no e6⟩) <| .read (.plain rfl (PJ.eqv (R := bl) (pj_pick (t := any) (has_tmp rfl) (fun he => absurd (e6.symm.trans he) (by decide)) (fun _ => has_bl)) (Option.some.inj e7))) <| .nil) (j_to (Γ' := [(0, (sl (sl u8)).slot p_a), (1, (sl (sl u8)).slot p_b), (5, i64.slot y1), (6, i64.slot y2), (41, bl.slot y3)]) (H' := []) (.cons (.of_lk rfl) <| .cons (.of_lk rfl) <| .cons (.of_lk rfl) <| .cons (.of_lk rfl) <| .cons (.of_lk rfl) <| .nil) (.nil) J)
        · replace h := bf e2 h
          obtain rfl := Option.some.inj h
          exact run_brk () (.cons (.of_lk rfl) <| .cons (.of_lk rfl) <| .cons (.of_lk rfl) <| .cons (.of_lk rfl) <| .nil) (.nil)
      · rintro _ y4 ho
        subst ho
        show Run _ _ _ [(0, (sl (sl u8)).slot p_a), (1, (sl (sl u8)).slot p_b), (5, i64.slot y1), (6, i64.slot y4)] []
        refine run_to (Γ' := [(0, (sl (sl u8)).slot p_a), (1, (sl (sl u8)).slot p_b), (5, i64.slot y1)]) (H' := []) (.cons (.of_lk rfl) <| .cons (.of_lk rfl) <| .cons (.of_lk rfl) <| .nil) (.nil) ?_
        refine run_endblock ?_
        refine run_text ?_
        refine j_pure (pj_move (has_tmp rfl)) rfl rfl rfl ?_
        refine j_pure (pj_iadd (has_tmp rfl) has_i64) rfl rfl rfl ?_
        refine j_pure (pj_assign (has_tmp rfl)) rfl rfl rfl ?_
        refine j_end ?_
        obtain rfl := Option.some.inj h
        exact run_next () (.cons (.of_lk rfl) <| .cons (.of_lk rfl) <| .cons (.of_lk rfl) <| .nil) (.nil)
      · intro x a w ho hR
        subst ho
        obtain rfl := Option.some.inj h
        exact ⟨rfl, hR⟩
    · replace h := bf e1 h
      obtain rfl := Option.some.inj h
      exact run_brk () (.cons (.of_lk rfl) <| .cons (.of_lk rfl) <| .cons (.of_lk rfl) <| .nil) (.nil)
  · rintro _ y5 ho
    subst ho
    show Run _ _ _ [(0, (sl (sl u8)).slot p_a), (1, (sl (sl u8)).slot p_b), (5, i64.slot y5)] []
    refine run_to (Γ' := []) (H' := []) (.nil) (.nil) ?_
    refine run_seq ?_
    refine run_text ?_
    refine j_pure (pj_assign has_bl) rfl rfl rfl ?_
    refine j_end ?_
    obtain rfl := Option.some.inj h
    exact run_ret fun a w hst => q_ret1 hst rfl (.tmp rfl) () (fun _ _ h => h) (.nil)
  · intro x a w ho hR
    subst ho
    exact hq1 a w (hR (Option.some.inj h))
set_option maxRecDepth 100000 in
set_option maxHeartbeats 4000000 in
theorem c_rolodexref14_Texts {G : GP} {p_label : List (BitVec 8)} {p_l : List T_rolodexref14_Version} {r : (List (List (BitVec 8)))} (h : rolodexref14_Texts p_label p_l = some r) : Ctr Tryd.prog G 31 [(sl u8).slot p_label, (sl R_rolodexref14_Version).slot p_l] [] (fun (u0 : Value) => ov u0) (fun (u0 : Value) => [own 22 (sl u8) u0 r]) := by
  unfold rolodexref14_Texts at h
  refine ctr_of_run Tryd.func31 rfl 23 rfl rfl fun m0 w0 b0 => ?_
  show Run _ _ _ [(0, (sl u8).slot p_label), (1, (sl R_rolodexref14_Version).slot p_l)] _
  refine run_seq ?_
  refine run_text ?_
  refine j_assign_nil (T := 22) (sl u8) rfl fun v1 => ?_
  refine j_end ?_
  refine run_seq ?_
  refine run_text ?_
  refine j_assign_nil (T := 22) (sl u8) rfl fun v2 => ?_
  refine j_end ?_
  refine run_seq ?_
  refine run_seq ?_
  refine run_text ?_
  refine j_pure (pj_assign has_i64) rfl rfl rfl ?_
  refine j_end ?_
  obtain ⟨⟨y3, y4⟩, e5, h⟩ := bind_some h
  refine run_loopS (Γi := fun (i : Value) (s : Int × (List (List (BitVec 8)))) => [(0, (sl u8).slot p_label), (1, (sl R_rolodexref14_Version).slot p_l), (5, ov i), (6, i64.slot s.1)]) (Hi := fun (i : Value) (s : Int × (List (List (BitVec 8)))) => [own 22 (sl u8) i s.2]) e5 v2 (fun a w hst => (hst.sub (.cons (.of_lk rfl) <| .cons (.of_lk rfl) <| .cons (.of_lk rfl) <| .cons (.of_lk rfl) <| .nil)).keep (.cons .here <| .nil)) ?_ ?_
  · clear h e5
    rintro v3 ⟨y1, y2⟩ lr h
    change rolodexref14_Texts_L1 p_l p_label y1 y2 = some _ at h
    show Run _ _ _ [(0, (sl u8).slot p_label), (1, (sl R_rolodexref14_Version).slot p_l), (5, ov v3), (6, i64.slot y1)] [own 22 (sl u8) v3 y2]
    unfold rolodexref14_Texts_L1 at h
    refine run_seq ?_
    refine run_seq ?_
    refine run_text ?_
    refine j_pure (pj_move (has_tmp rfl)) rfl rfl rfl ?_
    refine j_pure (pj_move (has_tmp rfl)) rfl rfl rfl ?_
    refine j_pure (pj_len_sl (sz := 67) (has_tmp rfl) (by kernel_rfl)) rfl rfl rfl ?_
    refine j_pure (pj_ilss (has_tmp rfl) (has_tmp rfl)) rfl rfl rfl ?_
    refine j_end ?_
    refine run_cond (has_tmp rfl) (fun e1 => ?_) (fun e1 => ?_)
    · replace h := bt e1 h
      refine run_skip ?_
      refine run_seq ?_
      refine run_block ?_
      refine run_text ?_
      refine j_pure (pj_move (has_tmp rfl)) rfl rfl rfl ?_
      refine j_pure (pj_move (has_tmp rfl)) rfl rfl rfl ?_
      refine j_pure (pj_move (has_tmp rfl)) rfl rfl rfl ?_
      refine j_pure (pj_move (has_tmp rfl)) rfl rfl rfl ?_
      obtain ⟨x1, e2, h⟩ := bind_some h
      refine j_pure (pj_index_slx (has_tmp rfl) (has_tmp rfl) isInt_i64 e2 (by kernel_rfl)) rfl rfl rfl ?_
      refine j_pure (pj_load_to (has_tmp rfl) (by kernel_rfl)) rfl rfl rfl ?_
      obtain ⟨r1, e3, h⟩ := bind_some h
      refine j_pure (pj_call (hasL_cons (has_tmp rfl) <| hasL_cons (has_tmp rfl) <| hasL_nil) (by kernel_rfl) (Ctr.froze (c_rolodexref14_Text e3))) rfl rfl rfl ?_
      refine j_pure (pj_buildSlice (T := 22) (R := (sl u8)) (.cons (has_tmp rfl) .nil) rfl (by kernel_rfl) (by kernel_rfl)) rfl rfl rfl ?_
      obtain ⟨e4, h⟩ := grd_some h
      refine j_append (T := 22) (E := 22) (has_tmp rfl) .here (src_data (has_tmp rfl)) (by kernel_rfl) (by kernel_rfl) e4 rfl fun v4 => ?_
      refine j_pure (pj_assign (has_tmp rfl)) rfl rfl rfl ?_
      refine j_end ?_
      refine run_endblock ?_
      refine run_text ?_
      refine j_pure (pj_move (has_tmp rfl)) rfl rfl rfl ?_
      refine j_pure (pj_iadd (has_tmp rfl) has_i64) rfl rfl rfl ?_
      refine j_pure (pj_assign (has_tmp rfl)) rfl rfl rfl ?_
      refine j_end ?_
      obtain rfl := Option.some.inj h
      exact run_next v4 (.cons (.of_lk rfl) <| .cons (.of_lk rfl) <| .cons (.of_lk rfl) <| .cons (.of_lk rfl) <| .nil) (.cons .here <| .nil)
    · replace h := bf e1 h
      obtain rfl := Option.some.inj h
      exact run_brk v3 (.cons (.of_lk rfl) <| .cons (.of_lk rfl) <| .cons (.of_lk rfl) <| .cons (.of_lk rfl) <| .nil) (.cons .here <| .nil)
  · rintro v5
    show Run _ _ _ [(0, (sl u8).slot p_label), (1, (sl R_rolodexref14_Version).slot p_l), (5, ov v5), (6, i64.slot y3)] [own 22 (sl u8) v5 y4]
    refine run_to (Γ' := [(5, ov v5)]) (H' := [own 22 (sl u8) v5 y4]) (.cons (.of_lk rfl) <| .nil) (.cons .here <| .nil) ?_
    refine run_seq ?_
    refine run_text ?_
    refine j_pure (pj_move (has_tmp rfl)) rfl rfl rfl ?_
    refine j_pure (pj_assign (has_tmp rfl)) rfl rfl rfl ?_
    refine j_end ?_
    obtain rfl := Option.some.inj h
    exact run_ret fun a w hst => q_ret1 hst rfl (.tmp rfl) v5 (fun _ _ h => h) (.cons .here <| .nil)
set_option maxRecDepth 100000 in
set_option maxHeartbeats 4000000 in
theorem c_rolodexlaw14_ChainSound {G : GP} (hg0 : HG0 G) (hg1 : HG1 G) {p_label : List (BitVec 8)} {p_a : List T_rolodexref14_Version} {p_b : List T_rolodexref14_Version} {r : Bool} (h : rolodexlaw14_ChainSound p_label p_a p_b = some r) : Ctr Tryd.prog G 5 [(sl u8).slot p_label, (sl R_rolodexref14_Version).slot p_a, (sl R_rolodexref14_Version).slot p_b] [] (fun (_ : Unit) => bl.slot r) (fun (_ : Unit) => []) := by
  unfold rolodexlaw14_ChainSound at h
  refine ctr_of_run Tryd.func5 rfl 65 rfl rfl fun m0 w0 b0 => ?_
  show Run _ _ _ [(0, (sl u8).slot p_label), (1, (sl R_rolodexref14_Version).slot p_a), (2, (sl R_rolodexref14_Version).slot p_b)] _
  refine run_seq ?_
  refine run_text ?_
  refine j_pure (pj_assign has_bl) rfl rfl rfl ?_
  refine j_end ?_
  refine run_seq ?_
  refine run_seq ?_
  refine run_text ?_
  obtain ⟨r1, e1, h⟩ := bind_some h
  refine j_pure (pj_call (hasL_nil) (by kernel_rfl) (c_rolodexlaw14_awake hg0 hg1 e1)) rfl rfl rfl ?_
  refine j_pure (pj_not (has_tmp rfl)) rfl rfl rfl ?_
  refine j_pure (pj_move (has_tmp rfl)) rfl rfl rfl ?_
  obtain ⟨y1, e3, h⟩ := bind_some h
  refine j_joinx (ι := Unit) (Γ' := fun _ => [(0, (sl u8).slot p_label), (1, (sl R_rolodexref14_Version).slot p_a), (2, (sl R_rolodexref14_Version).slot p_b), (14, bl.slot y1)]) (H' := fun _ => []) 4 ?_ fun J => ?_
  · intro _
    clear e3
    show OpsJ _ _ _ [(0, (sl u8).slot p_label), (1, (sl R_rolodexref14_Version).slot p_a), (2, (sl R_rolodexref14_Version).slot p_b), (14, bl.slot y1)] [] _
    refine j_pure (pj_move (has_tmp rfl)) rfl rfl rfl ?_
    obtain ⟨y2, e5, h⟩ := bind_some h
    refine j_joinx (ι := Unit) (Γ' := fun _ => [(0, (sl u8).slot p_label), (1, (sl R_rolodexref14_Version).slot p_a), (2, (sl R_rolodexref14_Version).slot p_b), (19, bl.slot y2)]) (H' := fun _ => []) 4 ?_ fun J => ?_
    · intro _
      clear e5
      show OpsJ _ _ _ [(0, (sl u8).slot p_label), (1, (sl R_rolodexref14_Version).slot p_a), (2, (sl R_rolodexref14_Version).slot p_b), (19, bl.slot y2)] [] _
      refine j_pure (pj_move (has_tmp rfl)) rfl rfl rfl ?_
      obtain ⟨y3, e8, h⟩ := bind_some h
      refine j_joinx (ι := Unit) (Γ' := fun _ => [(0, (sl u8).slot p_label), (1, (sl R_rolodexref14_Version).slot p_a), (2, (sl R_rolodexref14_Version).slot p_b), (24, bl.slot y3)]) (H' := fun _ => []) 4 ?_ fun J => ?_
      · intro _
        clear e8
        show OpsJ _ _ _ [(0, (sl u8).slot p_label), (1, (sl R_rolodexref14_Version).slot p_a), (2, (sl R_rolodexref14_Version).slot p_b), (24, bl.slot y3)] [] _
        refine j_pure (pj_move (has_tmp rfl)) rfl rfl rfl ?_
        obtain ⟨y4, e11, h⟩ := bind_some h
        refine j_joinx (ι := Unit) (Γ' := fun _ => [(0, (sl u8).slot p_label), (1, (sl R_rolodexref14_Version).slot p_a), (2, (sl R_rolodexref14_Version).slot p_b), (29, bl.slot y4)]) (H' := fun _ => []) 4 ?_ fun J => ?_
        · intro _
          clear e11
          show OpsJ _ _ _ [(0, (sl u8).slot p_label), (1, (sl R_rolodexref14_Version).slot p_a), (2, (sl R_rolodexref14_Version).slot p_b), (29, bl.slot y4)] [] _
          refine j_end ?_
          refine run_cond (has_tmp rfl) (fun e12 => ?_) (fun e12 => ?_)
          · replace h := bt e12 h
            refine run_seq ?_
            refine run_text ?_
            obtain ⟨r4, e13, h⟩ := bind_some h
            refine j_pure (pj_call (hasL_nil) (by kernel_rfl) (c_rolodexlaw14_awake hg0 hg1 e13)) rfl rfl rfl ?_
            refine j_pure (pj_assign (has_tmp rfl)) rfl rfl rfl ?_
            refine j_end ?_
            obtain rfl := Option.some.inj h
            exact run_ret fun a w hst => q_ret1 hst rfl (.tmp rfl) () (fun _ _ h => h) (.nil)
          · replace h := bf e12 h
            refine run_skip ?_
            refine run_seq ?_
            refine run_text ?_
            refine j_pure (pj_move (has_tmp rfl)) rfl rfl rfl ?_
            refine j_pure (pj_move (has_tmp rfl)) rfl rfl rfl ?_
            refine j_pure (pj_move (has_tmp rfl)) rfl rfl rfl ?_
            refine j_pure (pj_len_sl (sz := 67) (has_tmp rfl) (by kernel_rfl)) rfl rfl rfl ?_
            refine j_pure (pj_isub (has_tmp rfl) has_i64) rfl rfl rfl ?_
            obtain ⟨x1, e14, h⟩ := bind_some h
            refine j_pure (pj_index_slx (has_tmp rfl) (has_tmp rfl) isInt_i64 e14 (by kernel_rfl)) rfl rfl rfl ?_
            refine j_pure (pj_load_to (has_tmp rfl) (by kernel_rfl)) rfl rfl rfl ?_
            obtain ⟨r5, e15, h⟩ := bind_some h
            refine j_pure (pj_call (hasL_cons (has_tmp rfl) <| hasL_cons (has_tmp rfl) <| hasL_nil) (by kernel_rfl) (c_rolodexref14_Commit e15)) rfl rfl rfl ?_
            refine j_alloc (x := (Vector.replicate 32 (0#8))) (R := R_api_Hash) (zero_vec 32 zero_un) (by kernel_rfl) rfl fun b1 => ?_
            refine j_store_boxx (r' := r5) (has_tmp rfl) (has_tmp rfl) .here (Path.all R_api_Hash) (by kernel_rfl) rfl ?_
            refine j_freezeTo (t := 7) .here (.of_lk rfl) ?_
            refine j_end ?_
            refine run_seq ?_
            refine run_seq ?_
            obtain ⟨r6, e16, h⟩ := bind_some h
            obtain ⟨r7, e17, h⟩ := bind_some h
            obtain ⟨y5, e19, h⟩ := bind_some h
            obtain ⟨y6, e23, h⟩ := bind_some h
            refine (run_drawJ (n := 19) (Γ' := [(0, (sl u8).slot p_label), (1, (sl R_rolodexref14_Version).slot p_a), (2, (sl R_rolodexref14_Version).slot p_b), (57, bl.slot y6)]) (H' := []) ?_ fun J => ?_)
            · clear e19 e23
              refine j_end ?_
              refine run_cond (has_tmp rfl) (fun e25 => ?_) (fun e25 => ?_)
              · replace h := bt e25 h
                refine run_seq ?_
                refine run_text ?_
                refine j_pure (pj_assign has_bl) rfl rfl rfl ?_
                refine j_end ?_
                obtain rfl := Option.some.inj h
                exact run_ret fun a w hst => q_ret1 hst rfl (.tmp rfl) () (fun _ _ h => h) (.nil)
              · replace h := bf e25 h
                refine run_skip ?_
                refine run_seq ?_
                refine run_text ?_
                refine j_pure (pj_move (has_tmp rfl)) rfl rfl rfl ?_
                refine j_pure (pj_move (has_tmp rfl)) rfl rfl rfl ?_
                obtain ⟨r11, e26, h⟩ := bind_some h
                refine j_pure (pj_call (hasL_cons (has_tmp rfl) <| hasL_cons (has_tmp rfl) <| hasL_nil) (by kernel_rfl) (Ctr.froze (c_rolodexref14_Texts e26))) rfl rfl rfl ?_
                refine j_pure (pj_move (has_tmp rfl)) rfl rfl rfl ?_
                refine j_pure (pj_move (has_tmp rfl)) rfl rfl rfl ?_
                obtain ⟨r12, e27, h⟩ := bind_some h
                refine j_pure (pj_call (hasL_cons (has_tmp rfl) <| hasL_cons (has_tmp rfl) <| hasL_nil) (by kernel_rfl) (Ctr.froze (c_rolodexref14_Texts e27))) rfl rfl rfl ?_
                obtain ⟨r13, e28, h⟩ := bind_some h
                refine j_pure (pj_call (hasL_cons (has_tmp rfl) <| hasL_cons (has_tmp rfl) <| hasL_nil) (by kernel_rfl) (c_rolodexref12_Clash e28)) rfl rfl rfl ?_
                refine j_pure (pj_assign (has_tmp rfl)) rfl rfl rfl ?_
                refine j_end ?_
                obtain rfl := Option.some.inj h
                exact run_ret fun a w hst => q_ret1 hst rfl (.tmp rfl) () (fun _ _ h => h) (.nil)
            · rcases bool_tf (!r7) with e18 | e18
              · replace e19 := bt e18 e19
                rcases bool_tf (y5) with e22 | e22
                · replace e23 := bt e22 e23
                  exact run_draw (n := 19) (by kernel_rfl) (by kernel_rfl) (by kernel_rfl) (by kernel_rfl) (.read (.plain rfl (pj_move (has_tmp rfl))) <| .read (.plain rfl (pj_move (has_tmp rfl))) <| .read (.plain rfl (pj_call (hasL_cons (has_tmp rfl) <| hasL_nil) (by kernel_rfl) (Ctr.froze (c_rolodexlaw14_From e16)))) <| .read (.plain rfl (pj_load_to (has_tmp rfl) (by kernel_rfl))) <| .read (.plain rfl (pj_call (hasL_cons (has_tmp rfl) <| hasL_cons (has_tmp rfl) <| hasL_cons (has_tmp rfl) <| hasL_nil) (by kernel_rfl) (c_chain_Check hg0 hg1 e17))) <| .read (.plain rfl (pj_not (has_tmp rfl))) <| .read (.plain rfl (pj_move (has_tmp rfl))) <| .read (.no ⟨6, false, _, 45, _, rfl, rfl, rfl, fun _ _ => bl_p.1, gd_no e18⟩) <| .read (.no ⟨6, false, _, 45, _, rfl, rfl, rfl, fun _ _ => bl_p.1, gd_no e18⟩) <| .read (.no ⟨6, false, _, 45, _, rfl, rfl, rfl, fun _ _ => bl_p.1, gd_no e18⟩) <| .read (.no ⟨6, false, _, 45, _, rfl, rfl, rfl, fun _ _ => bl_p.1, gd_no e18⟩) <| .read (.no ⟨6, false, _, 45, _, rfl, rfl, rfl, fun _ _ => bl_p.1, gd_no e18⟩) <| .read (.no ⟨6, false, _, 45, _, rfl, rfl, rfl, fun _ _ => bl_p.1, gd_no e18⟩) <| .read (.plain rfl (PJ.eqv (R := bl) (pj_pick (t := any) (has_tmp rfl) (fun _ => has_bl) (fun he => absurd (e18.symm.trans he) (by decide))) (Option.some.inj e19))) <| .read (.plain rfl (pj_move (has_tmp rfl))) <| .read (.no ⟨14, false, _, 53, _, rfl, rfl, rfl, fun _ _ => bl_p.1, gd_no e22⟩) <| .read (.no ⟨14, false, _, 53, _, rfl, rfl, rfl, fun _ _ => bl_p.1, gd_no e22⟩) <| .read (.no ⟨14, false, _, 53, _, rfl, rfl, rfl, fun _ _ => bl_p.1, gd_no e22⟩) <| .read (.plain rfl (PJ.eqv (R := bl) (pj_pick (t := any) (has_tmp rfl) (fun _ => has_bl) (fun he => absurd (e22.symm.trans he) (by decide))) (Option.some.inj e23))) <| .nil) (j_to (Γ' := [(0, (sl u8).slot p_label), (1, (sl R_rolodexref14_Version).slot p_a), (2, (sl R_rolodexref14_Version).slot p_b), (57, bl.slot y6)]) (H' := []) (.cons (.of_lk rfl) <| .cons (.of_lk rfl) <| .cons (.of_lk rfl) <| .cons (.of_lk rfl) <| .nil) (.nil) J)
                · replace e23 := bf e22 e23
                  obtain ⟨r10, e24, e23⟩ := bind_some e23
                  exact run_draw (n := 19) (by kernel_rfl) (by kernel_rfl) (by kernel_rfl) (by kernel_rfl) (.read (.plain rfl (pj_move (has_tmp rfl))) <| .read (.plain rfl (pj_move (has_tmp rfl))) <| .read (.plain rfl (pj_call (hasL_cons (has_tmp rfl) <| hasL_nil) (by kernel_rfl) (Ctr.froze (c_rolodexlaw14_From e16)))) <| .read (.plain rfl (pj_load_to (has_tmp rfl) (by kernel_rfl))) <| .read (.plain rfl (pj_call (hasL_cons (has_tmp rfl) <| hasL_cons (has_tmp rfl) <| hasL_cons (has_tmp rfl) <| hasL_nil) (by kernel_rfl) (c_chain_Check hg0 hg1 e17))) <| .read (.plain rfl (pj_not (has_tmp rfl))) <| .read (.plain rfl (pj_move (has_tmp rfl))) <| .read (.no ⟨6, false, _, 45, _, rfl, rfl, rfl, fun _ _ => bl_p.1, gd_no e18⟩) <| .read (.no ⟨6, false, _, 45, _, rfl, rfl, rfl, fun _ _ => bl_p.1, gd_no e18⟩) <| .read (.no ⟨6, false, _, 45, _, rfl, rfl, rfl, fun _ _ => bl_p.1, gd_no e18⟩) <| .read (.no ⟨6, false, _, 45, _, rfl, rfl, rfl, fun _ _ => bl_p.1, gd_no e18⟩) <| .read (.no ⟨6, false, _, 45, _, rfl, rfl, rfl, fun _ _ => bl_p.1, gd_no e18⟩) <| .read (.no ⟨6, false, _, 45, _, rfl, rfl, rfl, fun _ _ => bl_p.1, gd_no e18⟩) <| .read (.plain rfl (PJ.eqv (R := bl) (pj_pick (t := any) (has_tmp rfl) (fun _ => has_bl) (fun he => absurd (e18.symm.trans he) (by decide))) (Option.some.inj e19))) <| .read (.plain rfl (pj_move (has_tmp rfl))) <| .read (.yes ⟨14, false, _, 53, _, rfl, rfl, rfl, fun _ _ => bl_p.1, gd_yes e22⟩ (pj_move (has_tmp rfl))) <| .read (.yes ⟨14, false, _, 53, _, rfl, rfl, rfl, fun _ _ => bl_p.1, gd_yes e22⟩ (pj_move (has_tmp rfl))) <| .read (.yes ⟨14, false, _, 53, _, rfl, rfl, rfl, fun _ _ => bl_p.1, gd_yes e22⟩ (pj_call (hasL_cons (has_tmp rfl) <| hasL_cons (has_tmp rfl) <| hasL_nil) (by kernel_rfl) (c_rolodexref14_Same e24))) <| .read (.plain rfl (PJ.eqv (R := bl) (pj_pick (t := any) (has_tmp rfl) (fun he => absurd (e22.symm.trans he) (by decide)) (fun _ => (has_tmp rfl))) (Option.some.inj e23))) <| .nil) (j_to (Γ' := [(0, (sl u8).slot p_label), (1, (sl R_rolodexref14_Version).slot p_a), (2, (sl R_rolodexref14_Version).slot p_b), (57, bl.slot y6)]) (H' := []) (.cons (.of_lk rfl) <| .cons (.of_lk rfl) <| .cons (.of_lk rfl) <| .cons (.of_lk rfl) <| .nil) (.nil) J)
              · replace e19 := bf e18 e19
                obtain ⟨r8, e20, e19⟩ := bind_some e19
                obtain ⟨r9, e21, e19⟩ := bind_some e19
                rcases bool_tf (y5) with e22 | e22
                · replace e23 := bt e22 e23
                  exact run_draw (n := 19) (by kernel_rfl) (by kernel_rfl) (by kernel_rfl) (by kernel_rfl) (.read (.plain rfl (pj_move (has_tmp rfl))) <| .read (.plain rfl (pj_move (has_tmp rfl))) <| .read (.plain rfl (pj_call (hasL_cons (has_tmp rfl) <| hasL_nil) (by kernel_rfl) (Ctr.froze (c_rolodexlaw14_From e16)))) <| .read (.plain rfl (pj_load_to (has_tmp rfl) (by kernel_rfl))) <| .read (.plain rfl (pj_call (hasL_cons (has_tmp rfl) <| hasL_cons (has_tmp rfl) <| hasL_cons (has_tmp rfl) <| hasL_nil) (by kernel_rfl) (c_chain_Check hg0 hg1 e17))) <| .read (.plain rfl (pj_not (has_tmp rfl))) <| .read (.plain rfl (pj_move (has_tmp rfl))) <| .read (.yes ⟨6, false, _, 45, _, rfl, rfl, rfl, fun _ _ => bl_p.1, gd_yes e18⟩ (pj_move (has_tmp rfl))) <| .read (.yes ⟨6, false, _, 45, _, rfl, rfl, rfl, fun _ _ => bl_p.1, gd_yes e18⟩ (pj_move (has_tmp rfl))) <| .read (.yes ⟨6, false, _, 45, _, rfl, rfl, rfl, fun _ _ => bl_p.1, gd_yes e18⟩ (pj_call (hasL_cons (has_tmp rfl) <| hasL_nil) (by kernel_rfl) (Ctr.froze (c_rolodexlaw14_From e20)))) <| .read (.yes ⟨6, false, _, 45, _, rfl, rfl, rfl, fun _ _ => bl_p.1, gd_yes e18⟩ (pj_load_to (has_tmp rfl) (by kernel_rfl))) <| .read (.yes ⟨6, false, _, 45, _, rfl, rfl, rfl, fun _ _ => bl_p.1, gd_yes e18⟩ (pj_call (hasL_cons (has_tmp rfl) <| hasL_cons (has_tmp rfl) <| hasL_cons (has_tmp rfl) <| hasL_nil) (by kernel_rfl) (c_chain_Check hg0 hg1 e21))) <| .read (.yes ⟨6, false, _, 45, _, rfl, rfl, rfl, fun _ _ => bl_p.1, gd_yes e18⟩ (pj_not (has_tmp rfl))) <| .read (.plain rfl (PJ.eqv (R := bl) (pj_pick (t := any) (has_tmp rfl) (fun he => absurd (e18.symm.trans he) (by decide)) (fun _ => (has_tmp rfl))) (Option.some.inj e19))) <| .read (.plain rfl (pj_move (has_tmp rfl))) <| .read (.no ⟨14, false, _, 53, _, rfl, rfl, rfl, fun _ _ => bl_p.1, gd_no e22⟩) <| .read (.no ⟨14, false, _, 53, _, rfl, rfl, rfl, fun _ _ => bl_p.1, gd_no e22⟩) <| .read (.no ⟨14, false, _, 53, _, rfl, rfl, rfl, fun _ _ => bl_p.1, gd_no e22⟩) <| .read (.plain rfl (PJ.eqv (R := bl) (pj_pick (t := any) (has_tmp rfl) (fun _ => has_bl) (fun he => absurd (e22.symm.trans he) (by decide))) (Option.some.inj e23))) <| .nil) (j_to (Γ' := [(0, (sl u8).slot p_label), (1, (sl R_rolodexref14_Version).slot p_a), (2, (sl R_rolodexref14_Version).slot p_b), (57, bl.slot y6)]) (H' := []) (.cons (.of_lk rfl) <| .cons (.of_lk rfl) <| .cons (.of_lk rfl) <| .cons (.of_lk rfl) <| .nil) (.nil) J)
                · replace e23 := bf e22 e23
                  obtain ⟨r10, e24, e23⟩ := bind_some e23
                  exact run_draw (n := 19) (by kernel_rfl) (by kernel_rfl) (by kernel_rfl) (by kernel_rfl) (.read (.plain rfl (pj_move (has_tmp rfl))) <| .read (.plain rfl (pj_move (has_tmp rfl))) <| .read (.plain rfl (pj_call (hasL_cons (has_tmp rfl) <| hasL_nil) (by kernel_rfl) (Ctr.froze (c_rolodexlaw14_From e16)))) <| .read (.plain rfl (pj_load_to (has_tmp rfl) (by kernel_rfl))) <| .read (.plain rfl (pj_call (hasL_cons (has_tmp rfl) <| hasL_cons (has_tmp rfl) <| hasL_cons (has_tmp rfl) <| hasL_nil) (by kernel_rfl) (c_chain_Check hg0 hg1 e17))) <| .read (.plain rfl (pj_not (has_tmp rfl))) <| .read (.plain rfl (pj_move (has_tmp rfl))) <| .read (.yes ⟨6, false, _, 45, _, rfl, rfl, rfl, fun _ _ => bl_p.1, gd_yes e18⟩ (pj_move (has_tmp rfl))) <| .read (.yes ⟨6, false, _, 45, _, rfl, rfl, rfl, fun _ _ => bl_p.1, gd_yes e18⟩ (pj_move (has_tmp rfl))) <| .read (.yes ⟨6, false, _, 45, _, rfl, rfl, rfl, fun _ _ => bl_p.1, gd_yes e18⟩ (pj_call (hasL_cons (has_tmp rfl) <| hasL_nil) (by kernel_rfl) (Ctr.froze (c_rolodexlaw14_From e20)))) <| .read (.yes ⟨6, false, _, 45, _, rfl, rfl, rfl, fun _ _ => bl_p.1, gd_yes e18⟩ (pj_load_to (has_tmp rfl) (by kernel_rfl))) <| .read (.yes ⟨6, false, _, 45, _, rfl, rfl, rfl, fun _ _ => bl_p.1, gd_yes e18⟩ (pj_call (hasL_cons (has_tmp rfl) <| hasL_cons (has_tmp rfl) <| hasL_cons (has_tmp rfl) <| hasL_nil) (by kernel_rfl) (c_chain_Check hg0 hg1 e21))) <| .read (.yes ⟨6, false, _, 45, _, rfl, rfl, rfl, fun _ _ => bl_p.1, gd_yes e18⟩ (pj_not (has_tmp rfl))) <| .read (.plain rfl (PJ.eqv (R := bl) (pj_pick (t := any) (has_tmp rfl) (fun he => absurd (e18.symm.trans he) (by decide)) (fun _ => (has_tmp rfl))) (Option.some.inj e19))) <| .read (.plain rfl (pj_move (has_tmp rfl))) <| .read (.yes ⟨14, false, _, 53, _, rfl, rfl, rfl, fun _ _ => bl_p.1, gd_yes e22⟩ (pj_move (has_tmp rfl))) <| .read (.yes ⟨14, false, _, 53, _, rfl, rfl, rfl, fun _ _ => bl_p.1, gd_yes e22⟩ (pj_move (has_tmp rfl))) <| .read (.yes ⟨14, false, _, 53, _, rfl, rfl, rfl, fun _ _ => bl_p.1, gd_yes e22⟩ (pj_call (hasL_cons (has_tmp rfl) <| hasL_cons (has_tmp rfl) <| hasL_nil) (by kernel_rfl) (c_rolodexref14_Same e24))) <| .read (.plain rfl (PJ.eqv (R := bl) (pj_pick (t := any) (has_tmp rfl) (fun he => absurd (e22.symm.trans he) (by decide)) (fun _ => (has_tmp rfl))) (Option.some.inj e23))) <| .nil) (j_to (Γ' := [(0, (sl u8).slot p_label), (1, (sl R_rolodexref14_Version).slot p_a), (2, (sl R_rolodexref14_Version).slot p_b), (57, bl.slot y6)]) (H' := []) (.cons (.of_lk rfl) <| .cons (.of_lk rfl) <| .cons (.of_lk rfl) <| .cons (.of_lk rfl) <| .nil) (.nil) J)
        · rcases bool_tf (y3) with e10 | e10
          · replace e11 := bt e10 e11
            refine j_guard_no2 (j := 17) (want := false) rfl rfl rfl rfl (bl_isx e10) rfl rfl rfl ?_
            refine j_guard_no2 (j := 17) (want := false) rfl rfl rfl rfl (bl_isx e10) rfl rfl rfl ?_
            refine j_guard_no2 (j := 17) (want := false) rfl rfl rfl rfl (bl_isx e10) rfl rfl rfl ?_
            refine j_pure (PJ.eqv (R := bl) (pj_pick (t := any) (has_tmp rfl) (fun _ => has_bl) (fun he => absurd (e10.symm.trans he) (by decide))) (Option.some.inj e11)) rfl rfl rfl ?_
            exact j_to (.cons (.of_lk rfl) <| .cons (.of_lk rfl) <| .cons (.of_lk rfl) <| .cons (.of_lk rfl) <| .nil) (.nil) (J ())
          · replace e11 := bf e10 e11
            refine j_pure_y (pj_move (has_tmp rfl)) rfl rfl rfl rfl (bl_isx e10) rfl rfl ?_
            refine j_pure_y (pj_len_sl (sz := 67) (has_tmp rfl) (by kernel_rfl)) rfl rfl rfl rfl (bl_isx e10) rfl rfl ?_
            refine j_pure_y (pj_ieql (has_tmp rfl) has_i64) rfl rfl rfl rfl (bl_isx e10) rfl rfl ?_
            refine j_pure (PJ.eqv (R := bl) (pj_pick (t := any) (has_tmp rfl) (fun he => absurd (e10.symm.trans he) (by decide)) (fun _ => (has_tmp rfl))) (Option.some.inj e11)) rfl rfl rfl ?_
            exact j_to (.cons (.of_lk rfl) <| .cons (.of_lk rfl) <| .cons (.of_lk rfl) <| .cons (.of_lk rfl) <| .nil) (.nil) (J ())
      · rcases bool_tf (y2) with e7 | e7
        · replace e8 := bt e7 e8
          refine j_guard_no2 (j := 12) (want := false) rfl rfl rfl rfl (bl_isx e7) rfl rfl rfl ?_
          refine j_guard_no2 (j := 12) (want := false) rfl rfl rfl rfl (bl_isx e7) rfl rfl rfl ?_
          refine j_guard_no2 (j := 12) (want := false) rfl rfl rfl rfl (bl_isx e7) rfl rfl rfl ?_
          refine j_pure (PJ.eqv (R := bl) (pj_pick (t := any) (has_tmp rfl) (fun _ => has_bl) (fun he => absurd (e7.symm.trans he) (by decide))) (Option.some.inj e8)) rfl rfl rfl ?_
          exact j_to (.cons (.of_lk rfl) <| .cons (.of_lk rfl) <| .cons (.of_lk rfl) <| .cons (.of_lk rfl) <| .nil) (.nil) (J ())
        · replace e8 := bf e7 e8
          refine j_pure_y (pj_move (has_tmp rfl)) rfl rfl rfl rfl (bl_isx e7) rfl rfl ?_
          obtain ⟨r3, e9, e8⟩ := bind_some e8
          refine j_pure_y (pj_call (hasL_cons (has_tmp rfl) <| hasL_cons has_i64 <| hasL_nil) (by kernel_rfl) (c_rolodexref14_Few e9)) rfl rfl rfl rfl (bl_isx e7) rfl rfl ?_
          refine j_pure_y (pj_not (has_tmp rfl)) rfl rfl rfl rfl (bl_isx e7) rfl rfl ?_
          refine j_pure (PJ.eqv (R := bl) (pj_pick (t := any) (has_tmp rfl) (fun he => absurd (e7.symm.trans he) (by decide)) (fun _ => (has_tmp rfl))) (Option.some.inj e8)) rfl rfl rfl ?_
          exact j_to (.cons (.of_lk rfl) <| .cons (.of_lk rfl) <| .cons (.of_lk rfl) <| .cons (.of_lk rfl) <| .nil) (.nil) (J ())
    · rcases bool_tf (y1) with e4 | e4
      · replace e5 := bt e4 e5
        refine j_guard_no2 (j := 7) (want := false) rfl rfl rfl rfl (bl_isx e4) rfl rfl rfl ?_
        refine j_guard_no2 (j := 7) (want := false) rfl rfl rfl rfl (bl_isx e4) rfl rfl rfl ?_
        refine j_guard_no2 (j := 7) (want := false) rfl rfl rfl rfl (bl_isx e4) rfl rfl rfl ?_
        refine j_pure (PJ.eqv (R := bl) (pj_pick (t := any) (has_tmp rfl) (fun _ => has_bl) (fun he => absurd (e4.symm.trans he) (by decide))) (Option.some.inj e5)) rfl rfl rfl ?_
        exact j_to (.cons (.of_lk rfl) <| .cons (.of_lk rfl) <| .cons (.of_lk rfl) <| .cons (.of_lk rfl) <| .nil) (.nil) (J ())
      · replace e5 := bf e4 e5
        refine j_pure_y (pj_move (has_tmp rfl)) rfl rfl rfl rfl (bl_isx e4) rfl rfl ?_
        obtain ⟨r2, e6, e5⟩ := bind_some e5
        refine j_pure_y (pj_call (hasL_cons (has_tmp rfl) <| hasL_cons has_i64 <| hasL_nil) (by kernel_rfl) (c_rolodexref14_Few e6)) rfl rfl rfl rfl (bl_isx e4) rfl rfl ?_
        refine j_pure_y (pj_not (has_tmp rfl)) rfl rfl rfl rfl (bl_isx e4) rfl rfl ?_
        refine j_pure (PJ.eqv (R := bl) (pj_pick (t := any) (has_tmp rfl) (fun he => absurd (e4.symm.trans he) (by decide)) (fun _ => (has_tmp rfl))) (Option.some.inj e5)) rfl rfl rfl ?_
        exact j_to (.cons (.of_lk rfl) <| .cons (.of_lk rfl) <| .cons (.of_lk rfl) <| .cons (.of_lk rfl) <| .nil) (.nil) (J ())
  · rcases bool_tf (!r1) with e2 | e2
    · replace e3 := bt e2 e3
      refine j_guard_no2 (j := 2) (want := false) rfl rfl rfl rfl (bl_isx e2) rfl rfl rfl ?_
      refine j_guard_no2 (j := 2) (want := false) rfl rfl rfl rfl (bl_isx e2) rfl rfl rfl ?_
      refine j_guard_no2 (j := 2) (want := false) rfl rfl rfl rfl (bl_isx e2) rfl rfl rfl ?_
      refine j_pure (PJ.eqv (R := bl) (pj_pick (t := any) (has_tmp rfl) (fun _ => has_bl) (fun he => absurd (e2.symm.trans he) (by decide))) (Option.some.inj e3)) rfl rfl rfl ?_
      exact j_to (.cons (.of_lk rfl) <| .cons (.of_lk rfl) <| .cons (.of_lk rfl) <| .cons (.of_lk rfl) <| .nil) (.nil) (J ())
    · replace e3 := bf e2 e3
      refine j_pure_y (pj_move (has_tmp rfl)) rfl rfl rfl rfl (bl_isx e2) rfl rfl ?_
      refine j_pure_y (pj_len_sl (sz := 1) (has_tmp rfl) (by kernel_rfl)) rfl rfl rfl rfl (bl_isx e2) rfl rfl ?_
      refine j_pure_y (pj_igtr (has_tmp rfl) has_i64) rfl rfl rfl rfl (bl_isx e2) rfl rfl ?_
      refine j_pure (PJ.eqv (R := bl) (pj_pick (t := any) (has_tmp rfl) (fun he => absurd (e2.symm.trans he) (by decide)) (fun _ => (has_tmp rfl))) (Option.some.inj e3)) rfl rfl rfl ?_
      exact j_to (.cons (.of_lk rfl) <| .cons (.of_lk rfl) <| .cons (.of_lk rfl) <| .cons (.of_lk rfl) <| .nil) (.nil) (J ())
set_option maxRecDepth 100000 in
set_option maxHeartbeats 4000000 in
theorem c_rolodexref14_Check {G : GP} {p_label : List (BitVec 8)} {p_l : List T_rolodexref14_Version} {p_commitment : T_api_Hash} {r : Bool} (h : rolodexref14_Check p_label p_l p_commitment = some r) : Ctr Tryd.prog G 34 [(sl u8).slot p_label, (sl R_rolodexref14_Version).slot p_l, R_api_Hash.slot p_commitment] [] (fun (_ : Unit) => bl.slot r) (fun (_ : Unit) => []) := by
  unfold rolodexref14_Check at h
  refine ctr_of_run Tryd.func34 rfl 22 rfl rfl fun m0 w0 b0 => ?_
  show Run _ _ _ [(0, (sl u8).slot p_label), (1, (sl R_rolodexref14_Version).slot p_l), (2, R_api_Hash.slot p_commitment)] _
  refine run_seq ?_
  refine run_text ?_
  refine j_pure (pj_box_to (has_tmp rfl)) rfl rfl rfl ?_
  refine j_pure (pj_assign has_bl) rfl rfl rfl ?_
  refine j_end ?_
  refine run_seq ?_
  obtain ⟨r1, e1, h⟩ := bind_some h
  obtain ⟨y1, e3, h⟩ := bind_some h
  refine (run_drawJ (n := 15) (Γ' := [(21, bl.slot y1)]) (H' := []) ?_ fun J => ?_)
  · clear e3
    refine j_pure (pj_assign (has_tmp rfl)) rfl rfl rfl ?_
    refine j_end ?_
    obtain rfl := Option.some.inj h
    exact run_ret fun a w hst => q_ret1 hst rfl (.tmp rfl) () (fun _ _ h => h) (.nil)
  · rcases bool_tf (r1) with e2 | e2
    · replace e3 := bt e2 e3
      obtain ⟨x1, e4, e3⟩ := bind_some e3
      obtain ⟨r2, e5, e3⟩ := bind_some e3
      exact run_draw (n := 15) (by kernel_rfl) (by kernel_rfl) (by kernel_rfl) (by kernel_rfl) (.read (.plain rfl (pj_move (has_tmp rfl))) <| .read (.plain rfl (pj_move (has_tmp rfl))) <| .read (.plain rfl (pj_call (hasL_cons (has_tmp rfl) <| hasL_cons (has_tmp rfl) <| hasL_nil) (by kernel_rfl) (c_rolodexref14_Formed e1))) <| .read (.plain rfl (pj_move (has_tmp rfl))) <| .read (.yes ⟨3, true, _, 10, _, rfl, rfl, rfl, fun _ _ => bl_p.1, gd_yes e2⟩ (pj_move (has_tmp rfl))) <| .read (.yes ⟨3, true, _, 10, _, rfl, rfl, rfl, fun _ _ => bl_p.1, gd_yes e2⟩ (pj_move (has_tmp rfl))) <| .read (.yes ⟨3, true, _, 10, _, rfl, rfl, rfl, fun _ _ => bl_p.1, gd_yes e2⟩ (pj_move (has_tmp rfl))) <| .read (.yes ⟨3, true, _, 10, _, rfl, rfl, rfl, fun _ _ => bl_p.1, gd_yes e2⟩ (pj_len_sl (sz := 67) (has_tmp rfl) (by kernel_rfl))) <| .read (.yes ⟨3, true, _, 10, _, rfl, rfl, rfl, fun _ _ => bl_p.1, gd_yes e2⟩ (pj_isub (has_tmp rfl) has_i64)) <| .read (.yes ⟨3, true, _, 10, _, rfl, rfl, rfl, fun _ _ => bl_p.1, gd_yes e2⟩ (pj_index_slx (has_tmp rfl) (has_tmp rfl) isInt_i64 e4 (by kernel_rfl))) <| .read (.yes ⟨3, true, _, 10, _, rfl, rfl, rfl, fun _ _ => bl_p.1, gd_yes e2⟩ (pj_load_to (has_tmp rfl) (by kernel_rfl))) <| .read (.yes ⟨3, true, _, 10, _, rfl, rfl, rfl, fun _ _ => bl_p.1, gd_yes e2⟩ (pj_call (hasL_cons (has_tmp rfl) <| hasL_cons (has_tmp rfl) <| hasL_nil) (by kernel_rfl) (c_rolodexref14_Commit e5))) <| .read (.yes ⟨3, true, _, 10, _, rfl, rfl, rfl, fun _ _ => bl_p.1, gd_yes e2⟩ (pj_load_to (has_tmp rfl) (by kernel_rfl))) <| .read (.yes ⟨3, true, _, 10, _, rfl, rfl, rfl, fun _ _ => bl_p.1, gd_yes e2⟩ (pj_eql (n := 2) (eq_vec (e := 5) (by kernel_rfl) (by kernel_rfl) (eq_un (by kernel_rfl))) (by decide) rfl (by kernel_rfl) (has_tmp rfl) (has_tmp rfl))) <| .read (.plain rfl (PJ.eqv (R := bl) (pj_pick (t := any) (has_tmp rfl) (fun _ => (has_tmp rfl)) (fun he => absurd (e2.symm.trans he) (by decide))) (Option.some.inj e3))) <| .nil) (j_to (Γ' := [(21, bl.slot y1)]) (H' := []) (.cons (.of_lk rfl) <| .nil) (.nil) J)
    · replace e3 := bf e2 e3
      exact run_draw (n := 15) (by kernel_rfl) (by kernel_rfl) (by kernel_rfl) (by kernel_rfl) (.read (.plain rfl (pj_move (has_tmp rfl))) <| .read (.plain rfl (pj_move (has_tmp rfl))) <| .read (.plain rfl (pj_call (hasL_cons (has_tmp rfl) <| hasL_cons (has_tmp rfl) <| hasL_nil) (by kernel_rfl) (c_rolodexref14_Formed e1))) <| .read (.plain rfl (pj_move (has_tmp rfl))) <| .read (.no ⟨3, true, _, 10, _, rfl, rfl, rfl, fun _ _ => bl_p.1, gd_no e2⟩) <| .read (.no ⟨3, true, _, 10, _, rfl, rfl, rfl, fun _ _ => bl_p.1, gd_no e2⟩) <| .read (.no ⟨3, true, _, 10, _, rfl, rfl, rfl, fun _ _ => bl_p.1, gd_no e2⟩) <| .read (.no ⟨3, true, _, 10, _, rfl, rfl, rfl, fun _ _ => bl_p.1, gd_no e2⟩) <| .read (.no ⟨3, true, _, 10, _, rfl, rfl, rfl, fun _ _ => bl_p.1, gd_no e2⟩) <| .read (.no ⟨3, true, _, 10, _, rfl, rfl, rfl, fun _ _ => bl_p.1, gd_no e2⟩) <| .read (.no ⟨3, true, _, 10, _, rfl, rfl, rfl, fun _ _ => bl_p.1, gd_no e2⟩) <| .read (.no ⟨3, true, _, 10, _, rfl, rfl, rfl, fun _ _ => bl_p.1, gd_no e2⟩) <| .read (.no ⟨3, true, _, 10, _, rfl, rfl, rfl, fun _ _ => bl_p.1, gd_no e2⟩) <| .read (.no ⟨3, true, _, 10, _, rfl, rfl, rfl, fun _ _ => bl_p.1, gd_no e2⟩) <| .read (.plain rfl (PJ.eqv (R := bl) (pj_pick (t := any) (has_tmp rfl) (fun he => absurd (e2.symm.trans he) (by decide)) (fun _ => has_bl)) (Option.some.inj e3))) <| .nil) (j_to (Γ' := [(21, bl.slot y1)]) (H' := []) (.cons (.of_lk rfl) <| .nil) (.nil) J)
set_option maxRecDepth 100000 in
set_option maxHeartbeats 4000000 in
theorem c_chain_Upto {G : GP} {p_chain : List T_chain_Version} {p_epoch : Int} {r : (List T_chain_Version)} (h : chain_Upto p_chain p_epoch = some r) : Ctr Tryd.prog G 35 [(sl R_chain_Version).slot p_chain, i64.slot p_epoch] [] (fun (u0 : Value) => ov u0) (fun (u0 : Value) => [own 45 R_chain_Version u0 r]) := by
  unfold chain_Upto at h
  refine ctr_of_run Tryd.func35 rfl 25 rfl rfl fun m0 w0 b0 => ?_
  show Run _ _ _ [(0, (sl R_chain_Version).slot p_chain), (1, i64.slot p_epoch)] _
  refine run_seq ?_
  refine run_text ?_
  refine j_assign_nil (T := 45) R_chain_Version rfl fun v1 => ?_
  refine j_end ?_
  refine run_seq ?_
  refine run_text ?_
  refine j_pure (pj_assign has_i64) rfl rfl rfl ?_
  refine j_end ?_
  refine run_seq ?_
  obtain ⟨y3, e5, h⟩ := bind_some h
  refine run_loopS (Γi := fun (i : Unit) (s : Int) => [(0, (sl R_chain_Version).slot p_chain), (1, i64.slot p_epoch), (5, i64.slot s)]) (Hi := fun (i : Unit) (s : Int) => []) e5 () (fun a w hst => (hst.sub (.cons (.of_lk rfl) <| .cons (.of_lk rfl) <| .cons (.of_lk rfl) <| .nil)).keep (.nil)) ?_ ?_
  · clear h e5
    rintro _ y1 lr h
    change chain_Upto_L1 p_chain p_epoch y1 = some _ at h
    show Run _ _ _ [(0, (sl R_chain_Version).slot p_chain), (1, i64.slot p_epoch), (5, i64.slot y1)] []
    unfold chain_Upto_L1 at h
    refine run_seq ?_
    refine run_seq ?_
    refine run_text ?_
    refine j_pure (pj_move (has_tmp rfl)) rfl rfl rfl ?_
    refine j_pure (pj_move (has_tmp rfl)) rfl rfl rfl ?_
    refine j_pure (pj_len_sl (sz := 67) (has_tmp rfl) (by kernel_rfl)) rfl rfl rfl ?_
    refine j_pure (pj_ilss (has_tmp rfl) (has_tmp rfl)) rfl rfl rfl ?_
    refine j_pure (pj_move (has_tmp rfl)) rfl rfl rfl ?_
    obtain ⟨y2, e2, h⟩ := bind_some h
    refine j_joinx (ι := Unit) (Γ' := fun _ => [(0, (sl R_chain_Version).slot p_chain), (1, i64.slot p_epoch), (5, i64.slot y1), (18, bl.slot y2)]) (H' := fun _ => []) 8 ?_ fun J => ?_
    · intro _
      clear e2
      show OpsJ _ _ _ [(0, (sl R_chain_Version).slot p_chain), (1, i64.slot p_epoch), (5, i64.slot y1), (18, bl.slot y2)] [] _
      refine j_end ?_
      refine run_cond (has_tmp rfl) (fun e4 => ?_) (fun e4 => ?_)
      · replace h := bt e4 h
        refine run_skip ?_
        refine run_block ?_
        refine run_text ?_
        refine j_pure (pj_move (has_tmp rfl)) rfl rfl rfl ?_
        refine j_pure (pj_iadd (has_tmp rfl) has_i64) rfl rfl rfl ?_
        refine j_pure (pj_assign (has_tmp rfl)) rfl rfl rfl ?_
        refine j_end ?_
        refine run_endblock ?_
        obtain rfl := Option.some.inj h
        exact run_next () (.cons (.of_lk rfl) <| .cons (.of_lk rfl) <| .cons (.of_lk rfl) <| .nil) (.nil)
      · replace h := bf e4 h
        obtain rfl := Option.some.inj h
        exact run_brk () (.cons (.of_lk rfl) <| .cons (.of_lk rfl) <| .cons (.of_lk rfl) <| .nil) (.nil)
    · rcases bool_tf (decide (y1 < (p_chain.length : Int))) with e1 | e1
      · replace e2 := bt e1 e2
        refine j_pure_y (pj_move (has_tmp rfl)) rfl rfl rfl rfl (bl_isx e1) rfl rfl ?_
        refine j_pure_y (pj_move (has_tmp rfl)) rfl rfl rfl rfl (bl_isx e1) rfl rfl ?_
        obtain ⟨x1, e3, e2⟩ := bind_some e2
        refine j_pure_y (pj_index_slx (has_tmp rfl) (has_tmp rfl) isInt_i64 e3 (by kernel_rfl)) rfl rfl rfl rfl (bl_isx e1) rfl rfl ?_
        refine j_pure_y (pj_field_to (has_tmp rfl) (Path.then (Path.snd i64 (prod i64 (prod R_api_Hash (prod R_api_Hash (sl u8))))) (Path.fst i64 (prod R_api_Hash (prod R_api_Hash (sl u8))))) (by kernel_rfl)) rfl rfl rfl rfl (bl_isx e1) rfl rfl ?_
        refine j_pure_y (pj_load_to (has_tmp rfl) (by kernel_rfl)) rfl rfl rfl rfl (bl_isx e1) rfl rfl ?_
        refine j_pure_y (pj_move (has_tmp rfl)) rfl rfl rfl rfl (bl_isx e1) rfl rfl ?_
        refine j_pure_y (pj_ileq (has_tmp rfl) (has_tmp rfl)) rfl rfl rfl rfl (bl_isx e1) rfl rfl ?_
        refine j_pure (PJ.eqv (R := bl) (pj_pick (t := any) (has_tmp rfl) (fun _ => (has_tmp rfl)) (fun he => absurd (e1.symm.trans he) (by decide))) (Option.some.inj e2)) rfl rfl rfl ?_
        exact j_to (.cons (.of_lk rfl) <| .cons (.of_lk rfl) <| .cons (.of_lk rfl) <| .cons (.of_lk rfl) <| .nil) (.nil) (J ())
      · replace e2 := bf e1 e2
        refine j_guard_no2 (j := 4) (want := true) rfl rfl rfl rfl (bl_isx e1) rfl rfl rfl ?_
        refine j_guard_no2 (j := 4) (want := true) rfl rfl rfl rfl (bl_isx e1) rfl rfl rfl ?_
        refine j_guard_no2 (j := 4) (want := true) rfl rfl rfl rfl (bl_isx e1) rfl rfl rfl ?_
        refine j_guard_no2 (j := 4) (want := true) rfl rfl rfl rfl (bl_isx e1) rfl rfl rfl ?_
        refine j_guard_no2 (j := 4) (want := true) rfl rfl rfl rfl (bl_isx e1) rfl rfl rfl ?_
        refine j_guard_no2 (j := 4) (want := true) rfl rfl rfl rfl (bl_isx e1) rfl rfl rfl ?_
        refine j_guard_no2 (j := 4) (want := true) rfl rfl rfl rfl (bl_isx e1) rfl rfl rfl ?_
        refine j_pure (PJ.eqv (R := bl) (pj_pick (t := any) (has_tmp rfl) (fun he => absurd (e1.symm.trans he) (by decide)) (fun _ => has_bl)) (Option.some.inj e2)) rfl rfl rfl ?_
        exact j_to (.cons (.of_lk rfl) <| .cons (.of_lk rfl) <| .cons (.of_lk rfl) <| .cons (.of_lk rfl) <| .nil) (.nil) (J ())
  · rintro _
    show Run _ _ _ [(0, (sl R_chain_Version).slot p_chain), (1, i64.slot p_epoch), (5, i64.slot y3)] []
    refine run_to (Γ' := [(0, (sl R_chain_Version).slot p_chain), (5, i64.slot y3)]) (H' := []) (.cons (.of_lk rfl) <| .cons (.of_lk rfl) <| .nil) (.nil) ?_
    refine run_seq ?_
    refine run_text ?_
    refine j_pure (pj_move (has_tmp rfl)) rfl rfl rfl ?_
    refine j_pure (pj_move (has_tmp rfl)) rfl rfl rfl ?_
    obtain ⟨x2, e6, h⟩ := bind_some h
    refine j_pure (pj_slice_slx (has_tmp rfl) .no (.yes (has_tmp rfl) isInt_i64) e6 (by kernel_rfl)) rfl rfl rfl ?_
    obtain ⟨r1, e7, h⟩ := bind_some h
    refine j_call (hasL_cons (has_tmp rfl) <| hasL_nil) (by kernel_rfl) (c_slices_Clone_chain_Version_chain_Version e7) .nil rfl fun v2 => ?_
    refine j_pure (pj_assign (has_tmp rfl)) rfl rfl rfl ?_
    refine j_end ?_
    obtain rfl := Option.some.inj h
    exact run_ret fun a w hst => q_ret1 hst rfl (.tmp rfl) v2 (fun _ _ h => h) (.cons .here <| .nil)
set_option maxRecDepth 100000 in
set_option maxHeartbeats 4000000 in
theorem c_rolodexref14_Upto {G : GP} {p_l : List T_rolodexref14_Version} {p_epoch : Int} {r : (List T_rolodexref14_Version)} (h : rolodexref14_Upto p_l p_epoch = some r) : Ctr Tryd.prog G 36 [(sl R_rolodexref14_Version).slot p_l, i64.slot p_epoch] [] (fun (u0 : Value) => ov u0) (fun (u0 : Value) => [own 41 R_rolodexref14_Version u0 r]) := by
  unfold rolodexref14_Upto at h
  refine ctr_of_run Tryd.func36 rfl 30 rfl rfl fun m0 w0 b0 => ?_
  show Run _ _ _ [(0, (sl R_rolodexref14_Version).slot p_l), (1, i64.slot p_epoch)] _
  refine run_seq ?_
  refine run_text ?_
  refine j_assign_nil (T := 41) R_rolodexref14_Version rfl fun v1 => ?_
  refine j_end ?_
  refine run_seq ?_
  refine run_text ?_
  refine j_assign_nil (T := 41) R_rolodexref14_Version rfl fun v2 => ?_
  refine j_end ?_
  refine run_seq ?_
  refine run_seq ?_
  refine run_text ?_
  refine j_pure (pj_assign has_i64) rfl rfl rfl ?_
  refine j_end ?_
  obtain ⟨⟨y4, y5⟩, e7, h⟩ := bind_some h
  refine run_loopS (Γi := fun (i : Value) (s : Int × (List T_rolodexref14_Version)) => [(0, (sl R_rolodexref14_Version).slot p_l), (1, i64.slot p_epoch), (5, ov i), (6, i64.slot s.1)]) (Hi := fun (i : Value) (s : Int × (List T_rolodexref14_Version)) => [own 41 R_rolodexref14_Version i s.2]) e7 v2 (fun a w hst => (hst.sub (.cons (.of_lk rfl) <| .cons (.of_lk rfl) <| .cons (.of_lk rfl) <| .cons (.of_lk rfl) <| .nil)).keep (.cons .here <| .nil)) ?_ ?_
  · clear h e7
    rintro v3 ⟨y1, y2⟩ lr h
    change rolodexref14_Upto_L1 p_l p_epoch y1 y2 = some _ at h
    show Run _ _ _ [(0, (sl R_rolodexref14_Version).slot p_l), (1, i64.slot p_epoch), (5, ov v3), (6, i64.slot y1)] [own 41 R_rolodexref14_Version v3 y2]
    unfold rolodexref14_Upto_L1 at h
    refine run_seq ?_
    refine run_seq ?_
    refine run_text ?_
    refine j_pure (pj_move (has_tmp rfl)) rfl rfl rfl ?_
    refine j_pure (pj_move (has_tmp rfl)) rfl rfl rfl ?_
    refine j_pure (pj_len_sl (sz := 67) (has_tmp rfl) (by kernel_rfl)) rfl rfl rfl ?_
    refine j_pure (pj_ilss (has_tmp rfl) (has_tmp rfl)) rfl rfl rfl ?_
    refine j_pure (pj_move (has_tmp rfl)) rfl rfl rfl ?_
    obtain ⟨y3, e2, h⟩ := bind_some h
    refine j_joinx (ι := Unit) (Γ' := fun _ => [(0, (sl R_rolodexref14_Version).slot p_l), (1, i64.slot p_epoch), (5, ov v3), (6, i64.slot y1), (19, bl.slot y3)]) (H' := fun _ => [own 41 R_rolodexref14_Version v3 y2]) 8 ?_ fun J => ?_
    · intro _
      clear e2
      show OpsJ _ _ _ [(0, (sl R_rolodexref14_Version).slot p_l), (1, i64.slot p_epoch), (5, ov v3), (6, i64.slot y1), (19, bl.slot y3)] [own 41 R_rolodexref14_Version v3 y2] _
      refine j_end ?_
      refine run_cond (has_tmp rfl) (fun e4 => ?_) (fun e4 => ?_)
      · replace h := bt e4 h
        refine run_skip ?_
        refine run_seq ?_
        refine run_block ?_
        refine run_text ?_
        refine j_pure (pj_move (has_tmp rfl)) rfl rfl rfl ?_
        refine j_pure (pj_move (has_tmp rfl)) rfl rfl rfl ?_
        refine j_pure (pj_move (has_tmp rfl)) rfl rfl rfl ?_
        obtain ⟨x2, e5, h⟩ := bind_some h
        refine j_pure (pj_index_slx (has_tmp rfl) (has_tmp rfl) isInt_i64 e5 (by kernel_rfl)) rfl rfl rfl ?_
        refine j_pure (pj_load_to (has_tmp rfl) (by kernel_rfl)) rfl rfl rfl ?_
        refine j_pure (pj_buildSlice (T := 41) (R := R_rolodexref14_Version) (.cons (has_tmp rfl) .nil) rfl (by kernel_rfl) (by kernel_rfl)) rfl rfl rfl ?_
        obtain ⟨e6, h⟩ := grd_some h
        refine j_append (T := 41) (E := 41) (has_tmp rfl) .here (src_data (has_tmp rfl)) (by kernel_rfl) (by kernel_rfl) e6 rfl fun v4 => ?_
        refine j_pure (pj_assign (has_tmp rfl)) rfl rfl rfl ?_
        refine j_end ?_
        refine run_endblock ?_
        refine run_text ?_
        refine j_pure (pj_move (has_tmp rfl)) rfl rfl rfl ?_
        refine j_pure (pj_iadd (has_tmp rfl) has_i64) rfl rfl rfl ?_
        refine j_pure (pj_assign (has_tmp rfl)) rfl rfl rfl ?_
        refine j_end ?_
        obtain rfl := Option.some.inj h
        exact run_next v4 (.cons (.of_lk rfl) <| .cons (.of_lk rfl) <| .cons (.of_lk rfl) <| .cons (.of_lk rfl) <| .nil) (.cons .here <| .nil)
      · replace h := bf e4 h
        obtain rfl := Option.some.inj h
        exact run_brk v3 (.cons (.of_lk rfl) <| .cons (.of_lk rfl) <| .cons (.of_lk rfl) <| .cons (.of_lk rfl) <| .nil) (.cons .here <| .nil)
    · rcases bool_tf (decide (y1 < (p_l.length : Int))) with e1 | e1
      · replace e2 := bt e1 e2
        refine j_pure_y (pj_move (has_tmp rfl)) rfl rfl rfl rfl (bl_isx e1) rfl rfl ?_
        refine j_pure_y (pj_move (has_tmp rfl)) rfl rfl rfl rfl (bl_isx e1) rfl rfl ?_
        obtain ⟨x1, e3, e2⟩ := bind_some e2
        refine j_pure_y (pj_index_slx (has_tmp rfl) (has_tmp rfl) isInt_i64 e3 (by kernel_rfl)) rfl rfl rfl rfl (bl_isx e1) rfl rfl ?_
        refine j_pure_y (pj_field_to (has_tmp rfl) (Path.then (Path.snd i64 (prod i64 (prod R_api_Hash (prod R_api_Hash (sl u8))))) (Path.fst i64 (prod R_api_Hash (prod R_api_Hash (sl u8))))) (by kernel_rfl)) rfl rfl rfl rfl (bl_isx e1) rfl rfl ?_
        refine j_pure_y (pj_load_to (has_tmp rfl) (by kernel_rfl)) rfl rfl rfl rfl (bl_isx e1) rfl rfl ?_
        refine j_pure_y (pj_move (has_tmp rfl)) rfl rfl rfl rfl (bl_isx e1) rfl rfl ?_
        refine j_pure_y (pj_ileq (has_tmp rfl) (has_tmp rfl)) rfl rfl rfl rfl (bl_isx e1) rfl rfl ?_
        refine j_pure (PJ.eqv (R := bl) (pj_pick (t := any) (has_tmp rfl) (fun _ => (has_tmp rfl)) (fun he => absurd (e1.symm.trans he) (by decide))) (Option.some.inj e2)) rfl rfl rfl ?_
        exact j_to (.cons (.of_lk rfl) <| .cons (.of_lk rfl) <| .cons (.of_lk rfl) <| .cons (.of_lk rfl) <| .cons (.of_lk rfl) <| .nil) (.cons .here <| .nil) (J ())
      · replace e2 := bf e1 e2
        refine j_guard_no2 (j := 4) (want := true) rfl rfl rfl rfl (bl_isx e1) rfl rfl rfl ?_
        refine j_guard_no2 (j := 4) (want := true) rfl rfl rfl rfl (bl_isx e1) rfl rfl rfl ?_
        refine j_guard_no2 (j := 4) (want := true) rfl rfl rfl rfl (bl_isx e1) rfl rfl rfl ?_
        refine j_guard_no2 (j := 4) (want := true) rfl rfl rfl rfl (bl_isx e1) rfl rfl rfl ?_
        refine j_guard_no2 (j := 4) (want := true) rfl rfl rfl rfl (bl_isx e1) rfl rfl rfl ?_
        refine j_guard_no2 (j := 4) (want := true) rfl rfl rfl rfl (bl_isx e1) rfl rfl rfl ?_
        refine j_guard_no2 (j := 4) (want := true) rfl rfl rfl rfl (bl_isx e1) rfl rfl rfl ?_
        refine j_pure (PJ.eqv (R := bl) (pj_pick (t := any) (has_tmp rfl) (fun he => absurd (e1.symm.trans he) (by decide)) (fun _ => has_bl)) (Option.some.inj e2)) rfl rfl rfl ?_
        exact j_to (.cons (.of_lk rfl) <| .cons (.of_lk rfl) <| .cons (.of_lk rfl) <| .cons (.of_lk rfl) <| .cons (.of_lk rfl) <| .nil) (.cons .here <| .nil) (J ())
  · rintro v5
    show Run _ _ _ [(0, (sl R_rolodexref14_Version).slot p_l), (1, i64.slot p_epoch), (5, ov v5), (6, i64.slot y4)] [own 41 R_rolodexref14_Version v5 y5]
    refine run_to (Γ' := [(5, ov v5)]) (H' := [own 41 R_rolodexref14_Version v5 y5]) (.cons (.of_lk rfl) <| .nil) (.cons .here <| .nil) ?_
    refine run_seq ?_
    refine run_text ?_
    refine j_pure (pj_move (has_tmp rfl)) rfl rfl rfl ?_
    refine j_pure (pj_assign (has_tmp rfl)) rfl rfl rfl ?_
    refine j_end ?_
    obtain rfl := Option.some.inj h
    exact run_ret fun a w hst => q_ret1 hst rfl (.tmp rfl) v5 (fun _ _ h => h) (.cons .here <| .nil)
set_option maxRecDepth 100000 in
set_option maxHeartbeats 4000000 in
theorem c_rolodexlaw14_ChainForms {G : GP} (hg0 : HG0 G) (hg1 : HG1 G) {p_label : List (BitVec 8)} {p_l : List T_rolodexref14_Version} {p_epoch : Int} {r : Bool} (h : rolodexlaw14_ChainForms p_label p_l p_epoch = some r) : Ctr Tryd.prog G 6 [(sl u8).slot p_label, (sl R_rolodexref14_Version).slot p_l, i64.slot p_epoch] [] (fun (_ : Unit) => bl.slot r) (fun (_ : Unit) => []) := by
  unfold rolodexlaw14_ChainForms at h
  refine ctr_of_run Tryd.func6 rfl 69 rfl rfl fun m0 w0 b0 => ?_
  show Run _ _ _ [(0, (sl u8).slot p_label), (1, (sl R_rolodexref14_Version).slot p_l), (2, i64.slot p_epoch)] _
  refine run_seq ?_
  refine run_text ?_
  refine j_pure (pj_assign has_bl) rfl rfl rfl ?_
  refine j_end ?_
  refine run_seq ?_
  refine run_seq ?_
  refine run_text ?_
  obtain ⟨r1, e1, h⟩ := bind_some h
  refine j_pure (pj_call (hasL_nil) (by kernel_rfl) (c_rolodexlaw14_awake hg0 hg1 e1)) rfl rfl rfl ?_
  refine j_pure (pj_not (has_tmp rfl)) rfl rfl rfl ?_
  refine j_pure (pj_move (has_tmp rfl)) rfl rfl rfl ?_
  obtain ⟨y1, e3, h⟩ := bind_some h
  refine j_joinx (ι := Unit) (Γ' := fun _ => [(0, (sl u8).slot p_label), (1, (sl R_rolodexref14_Version).slot p_l), (2, i64.slot p_epoch), (15, bl.slot y1)]) (H' := fun _ => []) 4 ?_ fun J => ?_
  · intro _
    clear e3
    show OpsJ _ _ _ [(0, (sl u8).slot p_label), (1, (sl R_rolodexref14_Version).slot p_l), (2, i64.slot p_epoch), (15, bl.slot y1)] [] _
    refine j_pure (pj_move (has_tmp rfl)) rfl rfl rfl ?_
    obtain ⟨y2, e5, h⟩ := bind_some h
    refine j_joinx (ι := Unit) (Γ' := fun _ => [(0, (sl u8).slot p_label), (1, (sl R_rolodexref14_Version).slot p_l), (2, i64.slot p_epoch), (20, bl.slot y2)]) (H' := fun _ => []) 4 ?_ fun J => ?_
    · intro _
      clear e5
      show OpsJ _ _ _ [(0, (sl u8).slot p_label), (1, (sl R_rolodexref14_Version).slot p_l), (2, i64.slot p_epoch), (20, bl.slot y2)] [] _
      refine j_end ?_
      refine run_cond (has_tmp rfl) (fun e7 => ?_) (fun e7 => ?_)
      · replace h := bt e7 h
        refine run_seq ?_
        refine run_text ?_
        obtain ⟨r3, e8, h⟩ := bind_some h
        refine j_pure (pj_call (hasL_nil) (by kernel_rfl) (c_rolodexlaw14_awake hg0 hg1 e8)) rfl rfl rfl ?_
        refine j_pure (pj_assign (has_tmp rfl)) rfl rfl rfl ?_
        refine j_end ?_
        obtain rfl := Option.some.inj h
        exact run_ret fun a w hst => q_ret1 hst rfl (.tmp rfl) () (fun _ _ h => h) (.nil)
      · replace h := bf e7 h
        refine run_skip ?_
        refine run_seq ?_
        refine run_text ?_
        refine j_alloc (x := (Vector.replicate 32 (0#8))) (R := R_api_Hash) (zero_vec 32 zero_un) (by kernel_rfl) rfl fun b1 => ?_
        refine j_end ?_
        refine run_seq ?_
        refine run_seq ?_
        refine run_text ?_
        refine j_pure (pj_move (has_tmp rfl)) rfl rfl rfl ?_
        refine j_pure (pj_len_sl (sz := 67) (has_tmp rfl) (by kernel_rfl)) rfl rfl rfl ?_
        refine j_pure (pj_igtr (has_tmp rfl) has_i64) rfl rfl rfl ?_
        refine j_end ?_
        obtain ⟨y3, e12, h⟩ := bind_some h
        refine run_joinx (ι := Unit) (Γ' := fun (_ : Unit) => [(0, (sl u8).slot p_label), (1, (sl R_rolodexref14_Version).slot p_l), (2, i64.slot p_epoch), (7, val (.pointer (some ⟨b1, 0, none⟩)))]) (H' := fun (_ : Unit) => [box b1 25 R_api_Hash y3]) ?_ fun J => ?_
        · intro _
          clear e12
          show Run _ _ _ [(0, (sl u8).slot p_label), (1, (sl R_rolodexref14_Version).slot p_l), (2, i64.slot p_epoch), (7, val (.pointer (some ⟨b1, 0, none⟩)))] [box b1 25 R_api_Hash y3]
          refine run_seq ?_
          refine run_text ?_
          refine j_pure (pj_move (has_tmp rfl)) rfl rfl rfl ?_
          obtain ⟨r5, e13, h⟩ := bind_some h
          refine j_pure (pj_call (hasL_cons (has_tmp rfl) <| hasL_nil) (by kernel_rfl) (Ctr.froze (c_rolodexlaw14_From e13))) rfl rfl rfl ?_
          refine j_pure (pj_assign (has_tmp rfl)) rfl rfl rfl ?_
          refine j_end ?_
          refine run_seq ?_
          obtain ⟨r6, e14, h⟩ := bind_some h
          obtain ⟨r7, e15, h⟩ := bind_some h
          obtain ⟨y4, e17, h⟩ := bind_some h
          obtain ⟨y5, e21, h⟩ := bind_some h
          obtain ⟨y6, e24, h⟩ := bind_some h
          refine (run_drawJ (n := 34) (Γ' := [(68, bl.slot y6)]) (H' := []) ?_ fun J => ?_)
          · clear e17 e21 e24
            refine j_pure (pj_assign (has_tmp rfl)) rfl rfl rfl ?_
            refine j_end ?_
            obtain rfl := Option.some.inj h
            exact run_ret fun a w hst => q_ret1 hst rfl (.tmp rfl) () (fun _ _ h => h) (.nil)
          · rcases bool_tf (r6 == r7) with e16 | e16
            · replace e17 := bt e16 e17
              obtain ⟨r8, e18, e17⟩ := bind_some e17
              obtain ⟨r9, e19, e17⟩ := bind_some e17
              rcases bool_tf (y4) with e20 | e20
              · replace e21 := bt e20 e21
                obtain ⟨r10, e22, e21⟩ := bind_some e21
                rcases bool_tf (y5) with e23 | e23
                · replace e24 := bt e23 e24
                  obtain ⟨r11, e25, e24⟩ := bind_some e24
                  obtain ⟨r12, e26, e24⟩ := bind_some e24
                  obtain ⟨r13, e27, e24⟩ := bind_some e24
                  obtain ⟨r14, e28, e24⟩ := bind_some e24
                  exact run_draw (n := 34) (by kernel_rfl) (by kernel_rfl) (by kernel_rfl) (by kernel_rfl) (.read (.plain rfl (pj_move (has_tmp rfl))) <| .read (.plain rfl (pj_move (has_tmp rfl))) <| .read (.plain rfl (pj_call (hasL_cons (has_tmp rfl) <| hasL_cons (has_tmp rfl) <| hasL_nil) (by kernel_rfl) (c_chain_Formed hg0 hg1 e14))) <| .read (.plain rfl (pj_move (has_tmp rfl))) <| .read (.plain rfl (pj_move (has_tmp rfl))) <| .read (.plain rfl (pj_call (hasL_cons (has_tmp rfl) <| hasL_cons (has_tmp rfl) <| hasL_nil) (by kernel_rfl) (c_rolodexref14_Formed e15))) <| .read (.plain rfl (pj_beql (by kernel_rfl) (has_tmp rfl) (has_tmp rfl))) <| .read (.plain rfl (pj_move (has_tmp rfl))) <| .read (.yes ⟨7, true, _, 42, _, rfl, rfl, rfl, fun _ _ => bl_p.1, gd_yes e16⟩ (pj_move (has_tmp rfl))) <| .read (.yes ⟨7, true, _, 42, _, rfl, rfl, rfl, fun _ _ => bl_p.1, gd_yes e16⟩ (pj_move (has_tmp rfl))) <| .read (.yes ⟨7, true, _, 42, _, rfl, rfl, rfl, fun _ _ => bl_p.1, gd_yes e16⟩ (pj_load_box (has_tmp rfl) .here (Path.all R_api_Hash) (by kernel_rfl))) <| .read (.yes ⟨7, true, _, 42, _, rfl, rfl, rfl, fun _ _ => bl_p.1, gd_yes e16⟩ (pj_call (hasL_cons (has_tmp rfl) <| hasL_cons (has_tmp rfl) <| hasL_cons (has_tmp rfl) <| hasL_nil) (by kernel_rfl) (c_chain_Check hg0 hg1 e18))) <| .read (.yes ⟨7, true, _, 42, _, rfl, rfl, rfl, fun _ _ => bl_p.1, gd_yes e16⟩ (pj_move (has_tmp rfl))) <| .read (.yes ⟨7, true, _, 42, _, rfl, rfl, rfl, fun _ _ => bl_p.1, gd_yes e16⟩ (pj_move (has_tmp rfl))) <| .read (.yes ⟨7, true, _, 42, _, rfl, rfl, rfl, fun _ _ => bl_p.1, gd_yes e16⟩ (pj_load_box (has_tmp rfl) .here (Path.all R_api_Hash) (by kernel_rfl))) <| .read (.yes ⟨7, true, _, 42, _, rfl, rfl, rfl, fun _ _ => bl_p.1, gd_yes e16⟩ (pj_call (hasL_cons (has_tmp rfl) <| hasL_cons (has_tmp rfl) <| hasL_cons (has_tmp rfl) <| hasL_nil) (by kernel_rfl) (c_rolodexref14_Check e19))) <| .read (.yes ⟨7, true, _, 42, _, rfl, rfl, rfl, fun _ _ => bl_p.1, gd_yes e16⟩ (pj_beql (by kernel_rfl) (has_tmp rfl) (has_tmp rfl))) <| .read (.plain rfl (PJ.eqv (R := bl) (pj_pick (t := any) (has_tmp rfl) (fun _ => (has_tmp rfl)) (fun he => absurd (e16.symm.trans he) (by decide))) (Option.some.inj e17))) <| .read (.plain rfl (pj_move (has_tmp rfl))) <| .read (.yes ⟨18, true, _, 53, _, rfl, rfl, rfl, fun _ _ => bl_p.1, gd_yes e20⟩ (pj_move (has_tmp rfl))) <| .read (.yes ⟨18, true, _, 53, _, rfl, rfl, rfl, fun _ _ => bl_p.1, gd_yes e20⟩ (pj_load_box (has_tmp rfl) .here (Path.all R_api_Hash) (by kernel_rfl))) <| .read (.yes ⟨18, true, _, 53, _, rfl, rfl, rfl, fun _ _ => bl_p.1, gd_yes e20⟩ (pj_call (hasL_cons (has_tmp rfl) <| hasL_cons (has_nil (R := R_chain_Version)) <| hasL_cons (has_tmp rfl) <| hasL_nil) (by kernel_rfl) (c_chain_Check hg0 hg1 e22))) <| .read (.yes ⟨18, true, _, 53, _, rfl, rfl, rfl, fun _ _ => bl_p.1, gd_yes e20⟩ (pj_not (has_tmp rfl))) <| .read (.plain rfl (PJ.eqv (R := bl) (pj_pick (t := any) (has_tmp rfl) (fun _ => (has_tmp rfl)) (fun he => absurd (e20.symm.trans he) (by decide))) (Option.some.inj e21))) <| .read (.plain rfl (pj_move (has_tmp rfl))) <| .read (.yes ⟨24, true, _, 59, _, rfl, rfl, rfl, fun _ _ => bl_p.1, gd_yes e23⟩ (pj_move (has_tmp rfl))) <| .read (.yes ⟨24, true, _, 59, _, rfl, rfl, rfl, fun _ _ => bl_p.1, gd_yes e23⟩ (pj_move (has_tmp rfl))) <| .read (.yes ⟨24, true, _, 59, _, rfl, rfl, rfl, fun _ _ => bl_p.1, gd_yes e23⟩ (pj_call (hasL_cons (has_tmp rfl) <| hasL_cons (has_tmp rfl) <| hasL_nil) (by kernel_rfl) (Ctr.froze (c_chain_Upto e25)))) <| .read (.yes ⟨24, true, _, 59, _, rfl, rfl, rfl, fun _ _ => bl_p.1, gd_yes e23⟩ (pj_call (hasL_cons (has_tmp rfl) <| hasL_nil) (by kernel_rfl) (Ctr.froze (c_rolodexlaw14_To e26)))) <| .read (.yes ⟨24, true, _, 59, _, rfl, rfl, rfl, fun _ _ => bl_p.1, gd_yes e23⟩ (pj_move (has_tmp rfl))) <| .read (.yes ⟨24, true, _, 59, _, rfl, rfl, rfl, fun _ _ => bl_p.1, gd_yes e23⟩ (pj_move (has_tmp rfl))) <| .read (.yes ⟨24, true, _, 59, _, rfl, rfl, rfl, fun _ _ => bl_p.1, gd_yes e23⟩ (pj_call (hasL_cons (has_tmp rfl) <| hasL_cons (has_tmp rfl) <| hasL_nil) (by kernel_rfl) (Ctr.froze (c_rolodexref14_Upto e27)))) <| .read (.yes ⟨24, true, _, 59, _, rfl, rfl, rfl, fun _ _ => bl_p.1, gd_yes e23⟩ (pj_call (hasL_cons (has_tmp rfl) <| hasL_cons (has_tmp rfl) <| hasL_nil) (by kernel_rfl) (c_rolodexref14_Same e28))) <| .read (.plain rfl (PJ.eqv (R := bl) (pj_pick (t := any) (has_tmp rfl) (fun _ => (has_tmp rfl)) (fun he => absurd (e23.symm.trans he) (by decide))) (Option.some.inj e24))) <| .nil) (j_to (Γ' := [(68, bl.slot y6)]) (H' := []) (.cons (.of_lk rfl) <| .nil) (.nil) J)
                · replace e24 := bf e23 e24
                  exact run_draw (n := 34) (by kernel_rfl) (by kernel_rfl) (by kernel_rfl) (by kernel_rfl) (.read (.plain rfl (pj_move (has_tmp rfl))) <| .read (.plain rfl (pj_move (has_tmp rfl))) <| .read (.plain rfl (pj_call (hasL_cons (has_tmp rfl) <| hasL_cons (has_tmp rfl) <| hasL_nil) (by kernel_rfl) (c_chain_Formed hg0 hg1 e14))) <| .read (.plain rfl (pj_move (has_tmp rfl))) <| .read (.plain rfl (pj_move (has_tmp rfl))) <| .read (.plain rfl (pj_call (hasL_cons (has_tmp rfl) <| hasL_cons (has_tmp rfl) <| hasL_nil) (by kernel_rfl) (c_rolodexref14_Formed e15))) <| .read (.plain rfl (pj_beql (by kernel_rfl) (has_tmp rfl) (has_tmp rfl))) <| .read (.plain rfl (pj_move (has_tmp rfl))) <| .read (.yes ⟨7, true, _, 42, _, rfl, rfl, rfl, fun _ _ => bl_p.1, gd_yes e16⟩ (pj_move (has_tmp rfl))) <| .read (.yes ⟨7, true, _, 42, _, rfl, rfl, rfl, fun _ _ => bl_p.1, gd_yes e16⟩ (pj_move (has_tmp rfl))) <| .read (.yes ⟨7, true, _, 42, _, rfl, rfl, rfl, fun _ _ => bl_p.1, gd_yes e16⟩ (pj_load_box (has_tmp rfl) .here (Path.all R_api_Hash) (by kernel_rfl))) <| .read (.yes ⟨7, true, _, 42, _, rfl, rfl, rfl, fun _ _ => bl_p.1, gd_yes e16⟩ (pj_call (hasL_cons (has_tmp rfl) <| hasL_cons (has_tmp rfl) <| hasL_cons (has_tmp rfl) <| hasL_nil) (by kernel_rfl) (c_chain_Check hg0 hg1 e18))) <| .read (.yes ⟨7, true, _, 42, _, rfl, rfl, rfl, fun _ _ => bl_p.1, gd_yes e16⟩ (pj_move (has_tmp rfl))) <| .read (.yes ⟨7, true, _, 42, _, rfl, rfl, rfl, fun _ _ => bl_p.1, gd_yes e16⟩ (pj_move (has_tmp rfl))) <| .read (.yes ⟨7, true, _, 42, _, rfl, rfl, rfl, fun _ _ => bl_p.1, gd_yes e16⟩ (pj_load_box (has_tmp rfl) .here (Path.all R_api_Hash) (by kernel_rfl))) <| .read (.yes ⟨7, true, _, 42, _, rfl, rfl, rfl, fun _ _ => bl_p.1, gd_yes e16⟩ (pj_call (hasL_cons (has_tmp rfl) <| hasL_cons (has_tmp rfl) <| hasL_cons (has_tmp rfl) <| hasL_nil) (by kernel_rfl) (c_rolodexref14_Check e19))) <| .read (.yes ⟨7, true, _, 42, _, rfl, rfl, rfl, fun _ _ => bl_p.1, gd_yes e16⟩ (pj_beql (by kernel_rfl) (has_tmp rfl) (has_tmp rfl))) <| .read (.plain rfl (PJ.eqv (R := bl) (pj_pick (t := any) (has_tmp rfl) (fun _ => (has_tmp rfl)) (fun he => absurd (e16.symm.trans he) (by decide))) (Option.some.inj e17))) <| .read (.plain rfl (pj_move (has_tmp rfl))) <| .read (.yes ⟨18, true, _, 53, _, rfl, rfl, rfl, fun _ _ => bl_p.1, gd_yes e20⟩ (pj_move (has_tmp rfl))) <| .read (.yes ⟨18, true, _, 53, _, rfl, rfl, rfl, fun _ _ => bl_p.1, gd_yes e20⟩ (pj_load_box (has_tmp rfl) .here (Path.all R_api_Hash) (by kernel_rfl))) <| .read (.yes ⟨18, true, _, 53, _, rfl, rfl, rfl, fun _ _ => bl_p.1, gd_yes e20⟩ (pj_call (hasL_cons (has_tmp rfl) <| hasL_cons (has_nil (R := R_chain_Version)) <| hasL_cons (has_tmp rfl) <| hasL_nil) (by kernel_rfl) (c_chain_Check hg0 hg1 e22))) <| .read (.yes ⟨18, true, _, 53, _, rfl, rfl, rfl, fun _ _ => bl_p.1, gd_yes e20⟩ (pj_not (has_tmp rfl))) <| .read (.plain rfl (PJ.eqv (R := bl) (pj_pick (t := any) (has_tmp rfl) (fun _ => (has_tmp rfl)) (fun he => absurd (e20.symm.trans he) (by decide))) (Option.some.inj e21))) <| .read (.plain rfl (pj_move (has_tmp rfl))) <| .read (.no ⟨24, true, _, 59, _, rfl, rfl, rfl, fun _ _ => bl_p.1, gd_no e23⟩) <| .read (.no ⟨24, true, _, 59, _, rfl, rfl, rfl, fun _ _ => bl_p.1, gd_no e23⟩) <| .read (.no ⟨24, true, _, 59, _, rfl, rfl, rfl, fun _ _ => bl_p.1, gd_no e23⟩) <| .read (.no ⟨24, true, _, 59, _, rfl, rfl, rfl, fun _ _ => bl_p.1, gd_no e23⟩) <| .read (.no ⟨24, true, _, 59, _, rfl, rfl, rfl, fun _ _ => bl_p.1, gd_no e23⟩) <| .read (.no ⟨24, true, _, 59, _, rfl, rfl, rfl, fun _ _ => bl_p.1, gd_no e23⟩) <| .read (.no ⟨24, true, _, 59, _, rfl, rfl, rfl, fun _ _ => bl_p.1, gd_no e23⟩) <| .read (.no ⟨24, true, _, 59, _, rfl, rfl, rfl, fun _ _ => bl_p.1, gd_no e23⟩) <| .read (.plain rfl (PJ.eqv (R := bl) (pj_pick (t := any) (has_tmp rfl) (fun he => absurd (e23.symm.trans he) (by decide)) (fun _ => has_bl)) (Option.some.inj e24))) <| .nil) (j_to (Γ' := [(68, bl.slot y6)]) (H' := []) (.cons (.of_lk rfl) <| .nil) (.nil) J)
              · replace e21 := bf e20 e21
                rcases bool_tf (y5) with e23 | e23
                · replace e24 := bt e23 e24
                  obtain ⟨r11, e25, e24⟩ := bind_some e24
                  obtain ⟨r12, e26, e24⟩ := bind_some e24
                  obtain ⟨r13, e27, e24⟩ := bind_some e24
                  obtain ⟨r14, e28, e24⟩ := bind_some e24
                  exact run_draw (n := 34) (by kernel_rfl) (by kernel_rfl) (by kernel_rfl) (by kernel_rfl) (.read (.plain rfl (pj_move (has_tmp rfl))) <| .read (.plain rfl (pj_move (has_tmp rfl))) <| .read (.plain rfl (pj_call (hasL_cons (has_tmp rfl) <| hasL_cons (has_tmp rfl) <| hasL_nil) (by kernel_rfl) (c_chain_Formed hg0 hg1 e14))) <| .read (.plain rfl (pj_move (has_tmp rfl))) <| .read (.plain rfl (pj_move (has_tmp rfl))) <| .read (.plain rfl (pj_call (hasL_cons (has_tmp rfl) <| hasL_cons (has_tmp rfl) <| hasL_nil) (by kernel_rfl) (c_rolodexref14_Formed e15))) <| .read (.plain rfl (pj_beql (by kernel_rfl) (has_tmp rfl) (has_tmp rfl))) <| .read (.plain rfl (pj_move (has_tmp rfl))) <| .read (.yes ⟨7, true, _, 42, _, rfl, rfl, rfl, fun _ _ => bl_p.1, gd_yes e16⟩ (pj_move (has_tmp rfl))) <| .read (.yes ⟨7, true, _, 42, _, rfl, rfl, rfl, fun _ _ => bl_p.1, gd_yes e16⟩ (pj_move (has_tmp rfl))) <| .read (.yes ⟨7, true, _, 42, _, rfl, rfl, rfl, fun _ _ => bl_p.1, gd_yes e16⟩ (pj_load_box (has_tmp rfl) .here (Path.all R_api_Hash) (by kernel_rfl))) <| .read (.yes ⟨7, true, _, 42, _, rfl, rfl, rfl, fun _ _ => bl_p.1, gd_yes e16⟩ (pj_call (hasL_cons (has_tmp rfl) <| hasL_cons (has_tmp rfl) <| hasL_cons (has_tmp rfl) <| hasL_nil) (by kernel_rfl) (c_chain_Check hg0 hg1 e18))) <| .read (.yes ⟨7, true, _, 42, _, rfl, rfl, rfl, fun _ _ => bl_p.1, gd_yes e16⟩ (pj_move (has_tmp rfl))) <| .read (.yes ⟨7, true, _, 42, _, rfl, rfl, rfl, fun _ _ => bl_p.1, gd_yes e16⟩ (pj_move (has_tmp rfl))) <| .read (.yes ⟨7, true, _, 42, _, rfl, rfl, rfl, fun _ _ => bl_p.1, gd_yes e16⟩ (pj_load_box (has_tmp rfl) .here (Path.all R_api_Hash) (by kernel_rfl))) <| .read (.yes ⟨7, true, _, 42, _, rfl, rfl, rfl, fun _ _ => bl_p.1, gd_yes e16⟩ (pj_call (hasL_cons (has_tmp rfl) <| hasL_cons (has_tmp rfl) <| hasL_cons (has_tmp rfl) <| hasL_nil) (by kernel_rfl) (c_rolodexref14_Check e19))) <| .read (.yes ⟨7, true, _, 42, _, rfl, rfl, rfl, fun _ _ => bl_p.1, gd_yes e16⟩ (pj_beql (by kernel_rfl) (has_tmp rfl) (has_tmp rfl))) <| .read (.plain rfl (PJ.eqv (R := bl) (pj_pick (t := any) (has_tmp rfl) (fun _ => (has_tmp rfl)) (fun he => absurd (e16.symm.trans he) (by decide))) (Option.some.inj e17))) <| .read (.plain rfl (pj_move (has_tmp rfl))) <| .read (.no ⟨18, true, _, 53, _, rfl, rfl, rfl, fun _ _ => bl_p.1, gd_no e20⟩) <| .read (.no ⟨18, true, _, 53, _, rfl, rfl, rfl, fun _ _ => bl_p.1, gd_no e20⟩) <| .read (.no ⟨18, true, _, 53, _, rfl, rfl, rfl, fun _ _ => bl_p.1, gd_no e20⟩) <| .read (.no ⟨18, true, _, 53, _, rfl, rfl, rfl, fun _ _ => bl_p.1, gd_no e20⟩) <| .read (.plain rfl (PJ.eqv (R := bl) (pj_pick (t := any) (has_tmp rfl) (fun he => absurd (e20.symm.trans he) (by decide)) (fun _ => has_bl)) (Option.some.inj e21))) <| .read (.plain rfl (pj_move (has_tmp rfl))) <| .read (.yes ⟨24, true, _, 59, _, rfl, rfl, rfl, fun _ _ => bl_p.1, gd_yes e23⟩ (pj_move (has_tmp rfl))) <| .read (.yes ⟨24, true, _, 59, _, rfl, rfl, rfl, fun _ _ => bl_p.1, gd_yes e23⟩ (pj_move (has_tmp rfl))) <| .read (.yes ⟨24, true, _, 59, _, rfl, rfl, rfl, fun _ _ => bl_p.1, gd_yes e23⟩ (pj_call (hasL_cons (has_tmp rfl) <| hasL_cons (has_tmp rfl) <| hasL_nil) (by kernel_rfl) (Ctr.froze (c_chain_Upto e25)))) <| .read (.yes ⟨24, true, _, 59, _, rfl, rfl, rfl, fun _ _ => bl_p.1, gd_yes e23⟩ (pj_call (hasL_cons (has_tmp rfl) <| hasL_nil) (by kernel_rfl) (Ctr.froze (c_rolodexlaw14_To e26)))) <| .read (.yes ⟨24, true, _, 59, _, rfl, rfl, rfl, fun _ _ => bl_p.1, gd_yes e23⟩ (pj_move (has_tmp rfl))) <| .read (.yes ⟨24, true, _, 59, _, rfl, rfl, rfl, fun _ _ => bl_p.1, gd_yes e23⟩ (pj_move (has_tmp rfl))) <| .read (.yes ⟨24, true, _, 59, _, rfl, rfl, rfl, fun _ _ => bl_p.1, gd_yes e23⟩ (pj_call (hasL_cons (has_tmp rfl) <| hasL_cons (has_tmp rfl) <| hasL_nil) (by kernel_rfl) (Ctr.froze (c_rolodexref14_Upto e27)))) <| .read (.yes ⟨24, true, _, 59, _, rfl, rfl, rfl, fun _ _ => bl_p.1, gd_yes e23⟩ (pj_call (hasL_cons (has_tmp rfl) <| hasL_cons (has_tmp rfl) <| hasL_nil) (by kernel_rfl) (c_rolodexref14_Same e28))) <| .read (.plain rfl (PJ.eqv (R := bl) (pj_pick (t := any) (has_tmp rfl) (fun _ => (has_tmp rfl)) (fun he => absurd (e23.symm.trans he) (by decide))) (Option.some.inj e24))) <| .nil) (j_to (Γ' := [(68, bl.slot y6)]) (H' := []) (.cons (.of_lk rfl) <| .nil) (.nil) J)
                · replace e24 := bf e23 e24
                  exact run_draw (n := 34) (by kernel_rfl) (by kernel_rfl) (by kernel_rfl) (by kernel_rfl) (.read (.plain rfl (pj_move (has_tmp rfl))) <| .read (.plain rfl (pj_move (has_tmp rfl))) <| .read (.plain rfl (pj_call (hasL_cons (has_tmp rfl) <| hasL_cons (has_tmp rfl) <| hasL_nil) (by kernel_rfl) (c_chain_Formed hg0 hg1 e14))) <| .read (.plain rfl (pj_move (has_tmp rfl))) <| .read (.plain rfl (pj_move (has_tmp rfl))) <| .read (.plain rfl (pj_call (hasL_cons (has_tmp rfl) <| hasL_cons (has_tmp rfl) <| hasL_nil) (by kernel_rfl) (c_rolodexref14_Formed e15))) <| .read (.plain rfl (pj_beql (by kernel_rfl) (has_tmp rfl) (has_tmp rfl))) <| .read (.plain rfl (pj_move (has_tmp rfl))) <| .read (.yes ⟨7, true, _, 42, _, rfl, rfl, rfl, fun _ _ => bl_p.1, gd_yes e16⟩ (pj_move (has_tmp rfl))) <| .read (.yes ⟨7, true, _, 42, _, rfl, rfl, rfl, fun _ _ => bl_p.1, gd_yes e16⟩ (pj_move (has_tmp rfl))) <| .read (.yes ⟨7, true, _, 42, _, rfl, rfl, rfl, fun _ _ => bl_p.1, gd_yes e16⟩ (pj_load_box (has_tmp rfl) .here (Path.all R_api_Hash) (by kernel_rfl))) <| .read (.yes ⟨7, true, _, 42, _, rfl, rfl, rfl, fun _ _ => bl_p.1, gd_yes e16⟩ (pj_call (hasL_cons (has_tmp rfl) <| hasL_cons (has_tmp rfl) <| hasL_cons (has_tmp rfl) <| hasL_nil) (by kernel_rfl) (c_chain_Check hg0 hg1 e18))) <| .read (.yes ⟨7, true, _, 42, _, rfl, rfl, rfl, fun _ _ => bl_p.1, gd_yes e16⟩ (pj_move (has_tmp rfl))) <| .read (.yes ⟨7, true, _, 42, _, rfl, rfl, rfl, fun _ _ => bl_p.1, gd_yes e16⟩ (pj_move (has_tmp rfl))) <| .read (.yes ⟨7, true, _, 42, _, rfl, rfl, rfl, fun _ _ => bl_p.1, gd_yes e16⟩ (pj_load_box (has_tmp rfl) .here (Path.all R_api_Hash) (by kernel_rfl))) <| .read (.yes ⟨7, true, _, 42, _, rfl, rfl, rfl, fun _ _ => bl_p.1, gd_yes e16⟩ (pj_call (hasL_cons (has_tmp rfl) <| hasL_cons (has_tmp rfl) <| hasL_cons (has_tmp rfl) <| hasL_nil) (by kernel_rfl) (c_rolodexref14_Check e19))) <| .read (.yes ⟨7, true, _, 42, _, rfl, rfl, rfl, fun _ _ => bl_p.1, gd_yes e16⟩ (pj_beql (by kernel_rfl) (has_tmp rfl) (has_tmp rfl))) <| .read (.plain rfl (PJ.eqv (R := bl) (pj_pick (t := any) (has_tmp rfl) (fun _ => (has_tmp rfl)) (fun he => absurd (e16.symm.trans he) (by decide))) (Option.some.inj e17))) <| .read (.plain rfl (pj_move (has_tmp rfl))) <| .read (.no ⟨18, true, _, 53, _, rfl, rfl, rfl, fun _ _ => bl_p.1, gd_no e20⟩) <| .read (.no ⟨18, true, _, 53, _, rfl, rfl, rfl, fun _ _ => bl_p.1, gd_no e20⟩) <| .read (.no ⟨18, true, _, 53, _, rfl, rfl, rfl, fun _ _ => bl_p.1, gd_no e20⟩) <| .read (.no ⟨18, true, _, 53, _, rfl, rfl, rfl, fun _ _ => bl_p.1, gd_no e20⟩) <| .read (.plain rfl (PJ.eqv (R := bl) (pj_pick (t := any) (has_tmp rfl) (fun he => absurd (e20.symm.trans he) (by decide)) (fun _ => has_bl)) (Option.some.inj e21))) <| .read (.plain rfl (pj_move (has_tmp rfl))) <| .read (.no ⟨24, true, _, 59, _, rfl, rfl, rfl, fun _ _ => bl_p.1, gd_no e23⟩) <| .read (.no ⟨24, true, _, 59, _, rfl, rfl, rfl, fun _ _ => bl_p.1, gd_no e23⟩) <| .read (.no ⟨24, true, _, 59, _, rfl, rfl, rfl, fun _ _ => bl_p.1, gd_no e23⟩) <| .read (.no ⟨24, true, _, 59, _, rfl, rfl, rfl, fun _ _ => bl_p.1, gd_no e23⟩) <| .read (.no ⟨24, true, _, 59, _, rfl, rfl, rfl, fun _ _ => bl_p.1, gd_no e23⟩) <| .read (.no ⟨24, true, _, 59, _, rfl, rfl, rfl, fun _ _ => bl_p.1, gd_no e23⟩) <| .read (.no ⟨24, true, _, 59, _, rfl, rfl, rfl, fun _ _ => bl_p.1, gd_no e23⟩) <| .read (.no ⟨24, true, _, 59, _, rfl, rfl, rfl, fun _ _ => bl_p.1, gd_no e23⟩) <| .read (.plain rfl (PJ.eqv (R := bl) (pj_pick (t := any) (has_tmp rfl) (fun he => absurd (e23.symm.trans he) (by decide)) (fun _ => has_bl)) (Option.some.inj e24))) <| .nil) (j_to (Γ' := [(68, bl.slot y6)]) (H' := []) (.cons (.of_lk rfl) <| .nil) (.nil) J)
            · replace e17 := bf e16 e17
              rcases bool_tf (y4) with e20 | e20
              · replace e21 := bt e20 e21
                obtain ⟨r10, e22, e21⟩ := bind_some e21
                rcases bool_tf (y5) with e23 | e23
                · replace e24 := bt e23 e24
                  obtain ⟨r11, e25, e24⟩ := bind_some e24
                  obtain ⟨r12, e26, e24⟩ := bind_some e24
                  obtain ⟨r13, e27, e24⟩ := bind_some e24
                  obtain ⟨r14, e28, e24⟩ := bind_some e24
                  exact run_draw (n := 34) (by kernel_rfl) (by kernel_rfl) (by kernel_rfl) (by kernel_rfl) (.read (.plain rfl (pj_move (has_tmp rfl))) <| .read (.plain rfl (pj_move (has_tmp rfl))) <| .read (.plain rfl (pj_call (hasL_cons (has_tmp rfl) <| hasL_cons (has_tmp rfl) <| hasL_nil) (by kernel_rfl) (c_chain_Formed hg0 hg1 e14))) <| .read (.plain rfl (pj_move (has_tmp rfl))) <| .read (.plain rfl (pj_move (has_tmp rfl))) <| .read (.plain rfl (pj_call (hasL_cons (has_tmp rfl) <| hasL_cons (has_tmp rfl) <| hasL_nil) (by kernel_rfl) (c_rolodexref14_Formed e15))) <| .read (.plain rfl (pj_beql (by kernel_rfl) (has_tmp rfl) (has_tmp rfl))) <| .read (.plain rfl (pj_move (has_tmp rfl))) <| .read (.no ⟨7, true, _, 42, _, rfl, rfl, rfl, fun _ _ => bl_p.1, gd_no e16⟩) <| .read (.no ⟨7, true, _, 42, _, rfl, rfl, rfl, fun _ _ => bl_p.1, gd_no e16⟩) <| .read (.no ⟨7, true, _, 42, _, rfl, rfl, rfl, fun _ _ => bl_p.1, gd_no e16⟩) <| .read (.no ⟨7, true, _, 42, _, rfl, rfl, rfl, fun _ _ => bl_p.1, gd_no e16⟩) <| .read (.no ⟨7, true, _, 42, _, rfl, rfl, rfl, fun _ _ => bl_p.1, gd_no e16⟩) <| .read (.no ⟨7, true, _, 42, _, rfl, rfl, rfl, fun _ _ => bl_p.1, gd_no e16⟩) <| .read (.no ⟨7, true, _, 42, _, rfl, rfl, rfl, fun _ _ => bl_p.1, gd_no e16⟩) <| .read (.no ⟨7, true, _, 42, _, rfl, rfl, rfl, fun _ _ => bl_p.1, gd_no e16⟩) <| .read (.no ⟨7, true, _, 42, _, rfl, rfl, rfl, fun _ _ => bl_p.1, gd_no e16⟩) <| .read (.plain rfl (PJ.eqv (R := bl) (pj_pick (t := any) (has_tmp rfl) (fun he => absurd (e16.symm.trans he) (by decide)) (fun _ => has_bl)) (Option.some.inj e17))) <| .read (.plain rfl (pj_move (has_tmp rfl))) <| .read (.yes ⟨18, true, _, 53, _, rfl, rfl, rfl, fun _ _ => bl_p.1, gd_yes e20⟩ (pj_move (has_tmp rfl))) <| .read (.yes ⟨18, true, _, 53, _, rfl, rfl, rfl, fun _ _ => bl_p.1, gd_yes e20⟩ (pj_load_box (has_tmp rfl) .here (Path.all R_api_Hash) (by kernel_rfl))) <| .read (.yes ⟨18, true, _, 53, _, rfl, rfl, rfl, fun _ _ => bl_p.1, gd_yes e20⟩ (pj_call (hasL_cons (has_tmp rfl) <| hasL_cons (has_nil (R := R_chain_Version)) <| hasL_cons (has_tmp rfl) <| hasL_nil) (by kernel_rfl) (c_chain_Check hg0 hg1 e22))) <| .read (.yes ⟨18, true, _, 53, _, rfl, rfl, rfl, fun _ _ => bl_p.1, gd_yes e20⟩ (pj_not (has_tmp rfl))) <| .read (.plain rfl (PJ.eqv (R := bl) (pj_pick (t := any) (has_tmp rfl) (fun _ => (has_tmp rfl)) (fun he => absurd (e20.symm.trans he) (by decide))) (Option.some.inj e21))) <| .read (.plain rfl (pj_move (has_tmp rfl))) <| .read (.yes ⟨24, true, _, 59, _, rfl, rfl, rfl, fun _ _ => bl_p.1, gd_yes e23⟩ (pj_move (has_tmp rfl))) <| .read (.yes ⟨24, true, _, 59, _, rfl, rfl, rfl, fun _ _ => bl_p.1, gd_yes e23⟩ (pj_move (has_tmp rfl))) <| .read (.yes ⟨24, true, _, 59, _, rfl, rfl, rfl, fun _ _ => bl_p.1, gd_yes e23⟩ (pj_call (hasL_cons (has_tmp rfl) <| hasL_cons (has_tmp rfl) <| hasL_nil) (by kernel_rfl) (Ctr.froze (c_chain_Upto e25)))) <| .read (.yes ⟨24, true, _, 59, _, rfl, rfl, rfl, fun _ _ => bl_p.1, gd_yes e23⟩ (pj_call (hasL_cons (has_tmp rfl) <| hasL_nil) (by kernel_rfl) (Ctr.froze (c_rolodexlaw14_To e26)))) <| .read (.yes ⟨24, true, _, 59, _, rfl, rfl, rfl, fun _ _ => bl_p.1, gd_yes e23⟩ (pj_move (has_tmp rfl))) <| .read (.yes ⟨24, true, _, 59, _, rfl, rfl, rfl, fun _ _ => bl_p.1, gd_yes e23⟩ (pj_move (has_tmp rfl))) <| .read (.yes ⟨24, true, _, 59, _, rfl, rfl, rfl, fun _ _ => bl_p.1, gd_yes e23⟩ (pj_call (hasL_cons (has_tmp rfl) <| hasL_cons (has_tmp rfl) <| hasL_nil) (by kernel_rfl) (Ctr.froze (c_rolodexref14_Upto e27)))) <| .read (.yes ⟨24, true, _, 59, _, rfl, rfl, rfl, fun _ _ => bl_p.1, gd_yes e23⟩ (pj_call (hasL_cons (has_tmp rfl) <| hasL_cons (has_tmp rfl) <| hasL_nil) (by kernel_rfl) (c_rolodexref14_Same e28))) <| .read (.plain rfl (PJ.eqv (R := bl) (pj_pick (t := any) (has_tmp rfl) (fun _ => (has_tmp rfl)) (fun he => absurd (e23.symm.trans he) (by decide))) (Option.some.inj e24))) <| .nil) (j_to (Γ' := [(68, bl.slot y6)]) (H' := []) (.cons (.of_lk rfl) <| .nil) (.nil) J)
                · replace e24 := bf e23 e24
                  exact run_draw (n := 34) (by kernel_rfl) (by kernel_rfl) (by kernel_rfl) (by kernel_rfl) (.read (.plain rfl (pj_move (has_tmp rfl))) <| .read (.plain rfl (pj_move (has_tmp rfl))) <| .read (.plain rfl (pj_call (hasL_cons (has_tmp rfl) <| hasL_cons (has_tmp rfl) <| hasL_nil) (by kernel_rfl) (c_chain_Formed hg0 hg1 e14))) <| .read (.plain rfl (pj_move (has_tmp rfl))) <| .read (.plain rfl (pj_move (has_tmp rfl))) <| .read (.plain rfl (pj_call (hasL_cons (has_tmp rfl) <| hasL_cons (has_tmp rfl) <| hasL_nil) (by kernel_rfl) (c_rolodexref14_Formed e15))) <| .read (.plain rfl (pj_beql (by kernel_rfl) (has_tmp rfl) (has_tmp rfl))) <| .read (.plain rfl (pj_move (has_tmp rfl))) <| .read (.no ⟨7, true, _, 42, _, rfl, rfl, rfl, fun _ _ => bl_p.1, gd_no e16⟩) <| .read (.no ⟨7, true, _, 42, _, rfl, rfl, rfl, fun _ _ => bl_p.1, gd_no e16⟩) <| .read (.no ⟨7, true, _, 42, _, rfl, rfl, rfl, fun _ _ => bl_p.1, gd_no e16⟩) <| .read (.no ⟨7, true, _, 42, _, rfl, rfl, rfl, fun _ _ => bl_p.1, gd_no e16⟩) <| .read (.no ⟨7, true, _, 42, _, rfl, rfl, rfl, fun _ _ => bl_p.1, gd_no e16⟩) <| .read (.no ⟨7, true, _, 42, _, rfl, rfl, rfl, fun _ _ => bl_p.1, gd_no e16⟩) <| .read (.no ⟨7, true, _, 42, _, rfl, rfl, rfl, fun _ _ => bl_p.1, gd_no e16⟩) <| .read (.no ⟨7, true, _, 42, _, rfl, rfl, rfl, fun _ _ => bl_p.1, gd_no e16⟩) <| .read (.no ⟨7, true, _, 42, _, rfl, rfl, rfl, fun _ _ => bl_p.1, gd_no e16⟩) <| .read (.plain rfl (PJ.eqv (R := bl) (pj_pick (t := any) (has_tmp rfl) (fun he => absurd (e16.symm.trans he) (by decide)) (fun _ => has_bl)) (Option.some.inj e17))) <| .read (.plain rfl (pj_move (has_tmp rfl))) <| .read (.yes ⟨18, true, _, 53, _, rfl, rfl, rfl, fun _ _ => bl_p.1, gd_yes e20⟩ (pj_move (has_tmp rfl))) <| .read (.yes ⟨18, true, _, 53, _, rfl, rfl, rfl, fun _ _ => bl_p.1, gd_yes e20⟩ (pj_load_box (has_tmp rfl) .here (Path.all R_api_Hash) (by kernel_rfl))) <| .read (.yes ⟨18, true, _, 53, _, rfl, rfl, rfl, fun _ _ => bl_p.1, gd_yes e20⟩ (pj_call (hasL_cons (has_tmp rfl) <| hasL_cons (has_nil (R := R_chain_Version)) <| hasL_cons (has_tmp rfl) <| hasL_nil) (by kernel_rfl) (c_chain_Check hg0 hg1 e22))) <| .read (.yes ⟨18, true, _, 53, _, rfl, rfl, rfl, fun _ _ => bl_p.1, gd_yes e20⟩ (pj_not (has_tmp rfl))) <| .read (.plain rfl (PJ.eqv (R := bl) (pj_pick (t := any) (has_tmp rfl) (fun _ => (has_tmp rfl)) (fun he => absurd (e20.symm.trans he) (by decide))) (Option.some.inj e21))) <| .read (.plain rfl (pj_move (has_tmp rfl))) <| .read (.no ⟨24, true, _, 59, _, rfl, rfl, rfl, fun _ _ => bl_p.1, gd_no e23⟩) <| .read (.no ⟨24, true, _, 59, _, rfl, rfl, rfl, fun _ _ => bl_p.1, gd_no e23⟩) <| .read (.no ⟨24, true, _, 59, _, rfl, rfl, rfl, fun _ _ => bl_p.1, gd_no e23⟩) <| .read (.no ⟨24, true, _, 59, _, rfl, rfl, rfl, fun _ _ => bl_p.1, gd_no e23⟩) <| .read (.no ⟨24, true, _, 59, _, rfl, rfl, rfl, fun _ _ => bl_p.1, gd_no e23⟩) <| .read (.no ⟨24, true, _, 59, _, rfl, rfl, rfl, fun _ _ => bl_p.1, gd_no e23⟩) <| .read (.no ⟨24, true, _, 59, _, rfl, rfl, rfl, fun _ _ => bl_p.1, gd_no e23⟩) <| .read (.no ⟨24, true, _, 59, _, rfl, rfl, rfl, fun _ _ => bl_p.1, gd_no e23⟩) <| .read (.plain rfl (PJ.eqv (R := bl) (pj_pick (t := any) (has_tmp rfl) (fun he => absurd (e23.symm.trans he) (by decide)) (fun _ => has_bl)) (Option.some.inj e24))) <| .nil) (j_to (Γ' := [(68, bl.slot y6)]) (H' := []) (.cons (.of_lk rfl) <| .nil) (.nil) J)
              · replace e21 := bf e20 e21
                rcases bool_tf (y5) with e23 | e23
                · replace e24 := bt e23 e24
                  obtain ⟨r11, e25, e24⟩ := bind_some e24
                  obtain ⟨r12, e26, e24⟩ := bind_some e24
                  obtain ⟨r13, e27, e24⟩ := bind_some e24
                  obtain ⟨r14, e28, e24⟩ := bind_some e24
                  exact run_draw (n := 34) (by kernel_rfl) (by kernel_rfl) (by kernel_rfl) (by kernel_rfl) (.read (.plain rfl (pj_move (has_tmp rfl))) <| .read (.plain rfl (pj_move (has_tmp rfl))) <| .read (.plain rfl (pj_call (hasL_cons (has_tmp rfl) <| hasL_cons (has_tmp rfl) <| hasL_nil) (by kernel_rfl) (c_chain_Formed hg0 hg1 e14))) <| .read (.plain rfl (pj_move (has_tmp rfl))) <| .read (.plain rfl (pj_move (has_tmp rfl))) <| .read (.plain rfl (pj_call (hasL_cons (has_tmp rfl) <| hasL_cons (has_tmp rfl) <| hasL_nil) (by kernel_rfl) (c_rolodexref14_Formed e15))) <| .read (.plain rfl (pj_beql (by kernel_rfl) (has_tmp rfl) (has_tmp rfl))) <| .read (.plain rfl (pj_move (has_tmp rfl))) <| .read (.no ⟨7, true, _, 42, _, rfl, rfl, rfl, fun _ _ => bl_p.1, gd_no e16⟩) <| .read (.no ⟨7, true, _, 42, _, rfl, rfl, rfl, fun _ _ => bl_p.1, gd_no e16⟩) <| .read (.no ⟨7, true, _, 42, _, rfl, rfl, rfl, fun _ _ => bl_p.1, gd_no e16⟩) <| .read (.no ⟨7, true, _, 42, _, rfl, rfl, rfl, fun _ _ => bl_p.1, gd_no e16⟩) <| .read (.no ⟨7, true, _, 42, _, rfl, rfl, rfl, fun _ _ => bl_p.1, gd_no e16⟩) <| .read (.no ⟨7, true, _, 42, _, rfl, rfl, rfl, fun _ _ => bl_p.1, gd_no e16⟩) <| .read (.no ⟨7, true, _, 42, _, rfl, rfl, rfl, fun _ _ => bl_p.1, gd_no e16⟩) <| .read (.no ⟨7, true, _, 42, _, rfl, rfl, rfl, fun _ _ => bl_p.1, gd_no e16⟩) <| .read (.no ⟨7, true, _, 42, _, rfl, rfl, rfl, fun _ _ => bl_p.1, gd_no e16⟩) <| .read (.plain rfl (PJ.eqv (R := bl) (pj_pick (t := any) (has_tmp rfl) (fun he => absurd (e16.symm.trans he) (by decide)) (fun _ => has_bl)) (Option.some.inj e17))) <| .read (.plain rfl (pj_move (has_tmp rfl))) <| .read (.no ⟨18, true, _, 53, _, rfl, rfl, rfl, fun _ _ => bl_p.1, gd_no e20⟩) <| .read (.no ⟨18, true, _, 53, _, rfl, rfl, rfl, fun _ _ => bl_p.1, gd_no e20⟩) <| .read (.no ⟨18, true, _, 53, _, rfl, rfl, rfl, fun _ _ => bl_p.1, gd_no e20⟩) <| .read (.no ⟨18, true, _, 53, _, rfl, rfl, rfl, fun _ _ => bl_p.1, gd_no e20⟩) <| .read (.plain rfl (PJ.eqv (R := bl) (pj_pick (t := any) (has_tmp rfl) (fun he => absurd (e20.symm.trans he) (by decide)) (fun _ => has_bl)) (Option.some.inj e21))) <| .read (.plain rfl (pj_move (has_tmp rfl))) <| .read (.yes ⟨24, true, _, 59, _, rfl, rfl, rfl, fun _ _ => bl_p.1, gd_yes e23⟩ (pj_move (has_tmp rfl))) <| .read (.yes ⟨24, true, _, 59, _, rfl, rfl, rfl, fun _ _ => bl_p.1, gd_yes e23⟩ (pj_move (has_tmp rfl))) <| .read (.yes ⟨24, true, _, 59, _, rfl, rfl, rfl, fun _ _ => bl_p.1, gd_yes e23⟩ (pj_call (hasL_cons (has_tmp rfl) <| hasL_cons (has_tmp rfl) <| hasL_nil) (by kernel_rfl) (Ctr.froze (c_chain_Upto e25)))) <| .read (.yes ⟨24, true, _, 59, _, rfl, rfl, rfl, fun _ _ => bl_p.1, gd_yes e23⟩ (pj_call (hasL_cons (has_tmp rfl) <| hasL_nil) (by kernel_rfl) (Ctr.froze (c_rolodexlaw14_To e26)))) <| .read (.yes ⟨24, true, _, 59, _, rfl, rfl, rfl, fun _ _ => bl_p.1, gd_yes e23⟩ (pj_move (has_tmp rfl))) <| .read (.yes ⟨24, true, _, 59, _, rfl, rfl, rfl, fun _ _ => bl_p.1, gd_yes e23⟩ (pj_move (has_tmp rfl))) <| .read (.yes ⟨24, true, _, 59, _, rfl, rfl, rfl, fun _ _ => bl_p.1, gd_yes e23⟩ (pj_call (hasL_cons (has_tmp rfl) <| hasL_cons (has_tmp rfl) <| hasL_nil) (by kernel_rfl) (Ctr.froze (c_rolodexref14_Upto e27)))) <| .read (.yes ⟨24, true, _, 59, _, rfl, rfl, rfl, fun _ _ => bl_p.1, gd_yes e23⟩ (pj_call (hasL_cons (has_tmp rfl) <| hasL_cons (has_tmp rfl) <| hasL_nil) (by kernel_rfl) (c_rolodexref14_Same e28))) <| .read (.plain rfl (PJ.eqv (R := bl) (pj_pick (t := any) (has_tmp rfl) (fun _ => (has_tmp rfl)) (fun he => absurd (e23.symm.trans he) (by decide))) (Option.some.inj e24))) <| .nil) (j_to (Γ' := [(68, bl.slot y6)]) (H' := []) (.cons (.of_lk rfl) <| .nil) (.nil) J)
                · replace e24 := bf e23 e24
                  exact run_draw (n := 34) (by kernel_rfl) (by kernel_rfl) (by kernel_rfl) (by kernel_rfl) (.read (.plain rfl (pj_move (has_tmp rfl))) <| .read (.plain rfl (pj_move (has_tmp rfl))) <| .read (.plain rfl (pj_call (hasL_cons (has_tmp rfl) <| hasL_cons (has_tmp rfl) <| hasL_nil) (by kernel_rfl) (c_chain_Formed hg0 hg1 e14))) <| .read (.plain rfl (pj_move (has_tmp rfl))) <| .read (.plain rfl (pj_move (has_tmp rfl))) <| .read (.plain rfl (pj_call (hasL_cons (has_tmp rfl) <| hasL_cons (has_tmp rfl) <| hasL_nil) (by kernel_rfl) (c_rolodexref14_Formed e15))) <| .read (.plain rfl (pj_beql (by kernel_rfl) (has_tmp rfl) (has_tmp rfl))) <| .read (.plain rfl (pj_move (has_tmp rfl))) <| .read (.no ⟨7, true, _, 42, _, rfl, rfl, rfl, fun _ _ => bl_p.1, gd_no e16⟩) <| .read (.no ⟨7, true, _, 42, _, rfl, rfl, rfl, fun _ _ => bl_p.1, gd_no e16⟩) <| .read (.no ⟨7, true, _, 42, _, rfl, rfl, rfl, fun _ _ => bl_p.1, gd_no e16⟩) <| .read (.no ⟨7, true, _, 42, _, rfl, rfl, rfl, fun _ _ => bl_p.1, gd_no e16⟩) <| .read (.no ⟨7, true, _, 42, _, rfl, rfl, rfl, fun _ _ => bl_p.1, gd_no e16⟩) <| .read (.no ⟨7, true, _, 42, _, rfl, rfl, rfl, fun _ _ => bl_p.1, gd_no e16⟩) <| .read (.no ⟨7, true, _, 42, _, rfl, rfl, rfl, fun _ _ => bl_p.1, gd_no e16⟩) <| .read (.no ⟨7, true, _, 42, _, rfl, rfl, rfl, fun _ _ => bl_p.1, gd_no e16⟩) <| .read (.no ⟨7, true, _, 42, _, rfl, rfl, rfl, fun _ _ => bl_p.1, gd_no e16⟩) <| .read (.plain rfl (PJ.eqv (R := bl) (pj_pick (t := any) (has_tmp rfl) (fun he => absurd (e16.symm.trans he) (by decide)) (fun _ => has_bl)) (Option.some.inj e17))) <| .read (.plain rfl (pj_move (has_tmp rfl))) <| .read (.no ⟨18, true, _, 53, _, rfl, rfl, rfl, fun _ _ => bl_p.1, gd_no e20⟩) <| .read (.no ⟨18, true, _, 53, _, rfl, rfl, rfl, fun _ _ => bl_p.1, gd_no e20⟩) <| .read (.no ⟨18, true, _, 53, _, rfl, rfl, rfl, fun _ _ => bl_p.1, gd_no e20⟩) <| .read (.no ⟨18, true, _, 53, _, rfl, rfl, rfl, fun _ _ => bl_p.1, gd_no e20⟩) <| .read (.plain rfl (PJ.eqv (R := bl) (pj_pick (t := any) (has_tmp rfl) (fun he => absurd (e20.symm.trans he) (by decide)) (fun _ => has_bl)) (Option.some.inj e21))) <| .read (.plain rfl (pj_move (has_tmp rfl))) <| .read (.no ⟨24, true, _, 59, _, rfl, rfl, rfl, fun _ _ => bl_p.1, gd_no e23⟩) <| .read (.no ⟨24, true, _, 59, _, rfl, rfl, rfl, fun _ _ => bl_p.1, gd_no e23⟩) <| .read (.no ⟨24, true, _, 59, _, rfl, rfl, rfl, fun _ _ => bl_p.1, gd_no e23⟩) <| .read (.no ⟨24, true, _, 59, _, rfl, rfl, rfl, fun _ _ => bl_p.1, gd_no e23⟩) <| .read (.no ⟨24, true, _, 59, _, rfl, rfl, rfl, fun _ _ => bl_p.1, gd_no e23⟩) <| .read (.no ⟨24, true, _, 59, _, rfl, rfl, rfl, fun _ _ => bl_p.1, gd_no e23⟩) <| .read (.no ⟨24, true, _, 59, _, rfl, rfl, rfl, fun _ _ => bl_p.1, gd_no e23⟩) <| .read (.no ⟨24, true, _, 59, _, rfl, rfl, rfl, fun _ _ => bl_p.1, gd_no e23⟩) <| .read (.plain rfl (PJ.eqv (R := bl) (pj_pick (t := any) (has_tmp rfl) (fun he => absurd (e23.symm.trans he) (by decide)) (fun _ => has_bl)) (Option.some.inj e24))) <| .nil) (j_to (Γ' := [(68, bl.slot y6)]) (H' := []) (.cons (.of_lk rfl) <| .nil) (.nil) J)
        · refine run_cond (has_tmp rfl) (fun e9 => ?_) (fun e9 => ?_)
          · replace h := bt e9 e12
            refine run_text ?_
            refine j_pure (pj_move (has_tmp rfl)) rfl rfl rfl ?_
            refine j_pure (pj_move (has_tmp rfl)) rfl rfl rfl ?_
            refine j_pure (pj_move (has_tmp rfl)) rfl rfl rfl ?_
            refine j_pure (pj_len_sl (sz := 67) (has_tmp rfl) (by kernel_rfl)) rfl rfl rfl ?_
            refine j_pure (pj_isub (has_tmp rfl) has_i64) rfl rfl rfl ?_
            obtain ⟨x1, e10, h⟩ := bind_some h
            refine j_pure (pj_index_slx (has_tmp rfl) (has_tmp rfl) isInt_i64 e10 (by kernel_rfl)) rfl rfl rfl ?_
            refine j_pure (pj_load_to (has_tmp rfl) (by kernel_rfl)) rfl rfl rfl ?_
            obtain ⟨r4, e11, h⟩ := bind_some h
            refine j_pure (pj_call (hasL_cons (has_tmp rfl) <| hasL_cons (has_tmp rfl) <| hasL_nil) (by kernel_rfl) (c_rolodexref14_Commit e11)) rfl rfl rfl ?_
            refine j_store_boxx (r' := r4) (has_tmp rfl) (has_tmp rfl) .here (Path.all R_api_Hash) (by kernel_rfl) rfl ?_
            refine j_end ?_
            obtain rfl := Option.some.inj h
            exact run_to (.cons (.of_lk rfl) <| .cons (.of_lk rfl) <| .cons (.of_lk rfl) <| .cons (.of_lk rfl) <| .nil) (.cons .here <| .nil) (J ())
          · replace h := bf e9 e12
            refine run_skip ?_
            obtain rfl := Option.some.inj h
            exact run_to (.cons (.of_lk rfl) <| .cons (.of_lk rfl) <| .cons (.of_lk rfl) <| .cons (.of_lk rfl) <| .nil) (.cons .here <| .nil) (J ())
    · rcases bool_tf (y1) with e4 | e4
      · replace e5 := bt e4 e5
        refine j_guard_no2 (j := 7) (want := false) rfl rfl rfl rfl (bl_isx e4) rfl rfl rfl ?_
        refine j_guard_no2 (j := 7) (want := false) rfl rfl rfl rfl (bl_isx e4) rfl rfl rfl ?_
        refine j_guard_no2 (j := 7) (want := false) rfl rfl rfl rfl (bl_isx e4) rfl rfl rfl ?_
        refine j_pure (PJ.eqv (R := bl) (pj_pick (t := any) (has_tmp rfl) (fun _ => has_bl) (fun he => absurd (e4.symm.trans he) (by decide))) (Option.some.inj e5)) rfl rfl rfl ?_
        exact j_to (.cons (.of_lk rfl) <| .cons (.of_lk rfl) <| .cons (.of_lk rfl) <| .cons (.of_lk rfl) <| .nil) (.nil) (J ())
      · replace e5 := bf e4 e5
        refine j_pure_y (pj_move (has_tmp rfl)) rfl rfl rfl rfl (bl_isx e4) rfl rfl ?_
        obtain ⟨r2, e6, e5⟩ := bind_some e5
        refine j_pure_y (pj_call (hasL_cons (has_tmp rfl) <| hasL_cons has_i64 <| hasL_nil) (by kernel_rfl) (c_rolodexref14_Few e6)) rfl rfl rfl rfl (bl_isx e4) rfl rfl ?_
        refine j_pure_y (pj_not (has_tmp rfl)) rfl rfl rfl rfl (bl_isx e4) rfl rfl ?_
        refine j_pure (PJ.eqv (R := bl) (pj_pick (t := any) (has_tmp rfl) (fun he => absurd (e4.symm.trans he) (by decide)) (fun _ => (has_tmp rfl))) (Option.some.inj e5)) rfl rfl rfl ?_
        exact j_to (.cons (.of_lk rfl) <| .cons (.of_lk rfl) <| .cons (.of_lk rfl) <| .cons (.of_lk rfl) <| .nil) (.nil) (J ())
  · rcases bool_tf (!r1) with e2 | e2
    · replace e3 := bt e2 e3
      refine j_guard_no2 (j := 2) (want := false) rfl rfl rfl rfl (bl_isx e2) rfl rfl rfl ?_
      refine j_guard_no2 (j := 2) (want := false) rfl rfl rfl rfl (bl_isx e2) rfl rfl rfl ?_
      refine j_guard_no2 (j := 2) (want := false) rfl rfl rfl rfl (bl_isx e2) rfl rfl rfl ?_
      refine j_pure (PJ.eqv (R := bl) (pj_pick (t := any) (has_tmp rfl) (fun _ => has_bl) (fun he => absurd (e2.symm.trans he) (by decide))) (Option.some.inj e3)) rfl rfl rfl ?_
      exact j_to (.cons (.of_lk rfl) <| .cons (.of_lk rfl) <| .cons (.of_lk rfl) <| .cons (.of_lk rfl) <| .nil) (.nil) (J ())
    · replace e3 := bf e2 e3
      refine j_pure_y (pj_move (has_tmp rfl)) rfl rfl rfl rfl (bl_isx e2) rfl rfl ?_
      refine j_pure_y (pj_len_sl (sz := 1) (has_tmp rfl) (by kernel_rfl)) rfl rfl rfl rfl (bl_isx e2) rfl rfl ?_
      refine j_pure_y (pj_igtr (has_tmp rfl) has_i64) rfl rfl rfl rfl (bl_isx e2) rfl rfl ?_
      refine j_pure (PJ.eqv (R := bl) (pj_pick (t := any) (has_tmp rfl) (fun he => absurd (e2.symm.trans he) (by decide)) (fun _ => (has_tmp rfl))) (Option.some.inj e3)) rfl rfl rfl ?_
      exact j_to (.cons (.of_lk rfl) <| .cons (.of_lk rfl) <| .cons (.of_lk rfl) <| .cons (.of_lk rfl) <| .nil) (.nil) (J ())
end Go.Sl.W
