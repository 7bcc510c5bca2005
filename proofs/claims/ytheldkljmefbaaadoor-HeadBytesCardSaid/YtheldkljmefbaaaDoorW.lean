import Derived.Test.YtheldkljmefbaaaDoorWA
import Derived.Test.YtheldkljmefbaaaDoorOp14
import Derived.Test.YtheldkljmefbaaaDoorProg
set_option linter.unusedSimpArgs false
set_option linter.unusedVariables false
set_option linter.unusedSectionVars false
namespace Go.Sl.W
open Go.Proofs Go.Sl Go.Sl.M
set_option maxRecDepth 100000 in
set_option maxHeartbeats 4000000 in
theorem c_rolodexlaw17_HeadBytes {G : GP} (hg0 : HG0 G) (hg1 : HG1 G) {p_h : T_rolodexref17_Head} {p_b : List (BitVec 8)} {r : Bool} (h : rolodexlaw17_HeadBytes p_h p_b = some r) : Ctr Tryd.prog G 3 [R_rolodexref17_Head.slot p_h, (sl u8).slot p_b] [] (fun (_ : Unit) => bl.slot r) (fun (_ : Unit) => []) := by
  unfold rolodexlaw17_HeadBytes at h
  refine ctr_of_run Tryd.func3 rfl 72 rfl rfl fun m0 w0 b0 => ?_
  show Run _ _ _ [(0, R_rolodexref17_Head.slot p_h), (1, (sl u8).slot p_b)] _
  refine run_seq ?_
  refine run_text ?_
  refine j_pure (pj_box_to (has_tmp rfl)) rfl rfl rfl ?_
  refine j_pure (pj_assign has_bl) rfl rfl rfl ?_
  refine j_end ?_
  refine run_seq ?_
  refine run_seq ?_
  refine run_text ?_
  obtain ⟨r1, e1, h⟩ := bind_some h
  refine j_pure (pj_call (hasL_nil) (by kernel_rfl) (c_rolodexlaw17_awake e1)) rfl rfl rfl ?_
  refine j_pure (pj_not (has_tmp rfl)) rfl rfl rfl ?_
  refine j_pure (pj_move (has_tmp rfl)) rfl rfl rfl ?_
  obtain ⟨y1, e3, h⟩ := bind_some h
  refine j_joinx (ι := Unit) (Γ' := fun _ => [(1, (sl u8).slot p_b), (2, ptrTo R_rolodexref17_Head p_h), (19, bl.slot y1)]) (H' := fun _ => []) 4 ?_ fun J => ?_
  · intro _
    clear e3
    show OpsJ _ _ _ [(1, (sl u8).slot p_b), (2, ptrTo R_rolodexref17_Head p_h), (19, bl.slot y1)] [] _
    refine j_end ?_
    refine run_cond (has_tmp rfl) (fun e4 => ?_) (fun e4 => ?_)
    · replace h := bt e4 h
      refine run_seq ?_
      refine run_text ?_
      obtain ⟨r2, e5, h⟩ := bind_some h
      refine j_pure (pj_call (hasL_nil) (by kernel_rfl) (c_rolodexlaw17_awake e5)) rfl rfl rfl ?_
      refine j_pure (pj_assign (has_tmp rfl)) rfl rfl rfl ?_
      refine j_end ?_
      obtain rfl := Option.some.inj h
      exact run_ret fun a w hst => q_ret1 hst rfl (.tmp rfl) () (fun _ _ h => h) (.nil)
    · replace h := bf e4 h
      refine run_skip ?_
      refine run_seq ?_
      refine run_text ?_
      refine j_pure (pj_load_to (has_tmp rfl) (by kernel_rfl)) rfl rfl rfl ?_
      obtain ⟨r3, e6, h⟩ := bind_some h
      refine j_pure (pj_call (hasL_cons (has_tmp rfl) <| hasL_nil) (by kernel_rfl) (Ctr.froze2 (c_head_Encode e6))) rfl rfl rfl ?_
      refine j_pure (pj_move (has_tmp rfl)) rfl rfl rfl ?_
      refine j_pure (pj_extract (has_tmp rfl) rfl) rfl rfl rfl ?_
      refine j_pure (pj_extract (has_tmp rfl) rfl) rfl rfl rfl ?_
      refine j_pure (pj_assign (has_tmp rfl)) rfl rfl rfl ?_
      refine j_pure (pj_assign (has_tmp rfl)) rfl rfl rfl ?_
      refine j_end ?_
      refine run_seq ?_
      refine run_text ?_
      refine j_pure (pj_load_to (has_tmp rfl) (by kernel_rfl)) rfl rfl rfl ?_
      obtain ⟨r4, e7, h⟩ := bind_some h
      refine j_pure (pj_call (hasL_cons (has_tmp rfl) <| hasL_nil) (by kernel_rfl) (Ctr.froze2 (c_rolodexref17_Encode e7))) rfl rfl rfl ?_
      refine j_pure (pj_move (has_tmp rfl)) rfl rfl rfl ?_
      refine j_pure (pj_extract (has_tmp rfl) rfl) rfl rfl rfl ?_
      refine j_pure (pj_extract (has_tmp rfl) rfl) rfl rfl rfl ?_
      refine j_pure (pj_assign (has_tmp rfl)) rfl rfl rfl ?_
      refine j_pure (pj_assign (has_tmp rfl)) rfl rfl rfl ?_
      refine j_end ?_
      refine run_seq ?_
      refine run_text ?_
      refine j_pure (pj_move (has_tmp rfl)) rfl rfl rfl ?_
      obtain ⟨r5, e8, h⟩ := bind_some h
      refine j_pure (pj_call (hasL_cons (has_tmp rfl) <| hasL_nil) (by kernel_rfl) (c_head_Decode e8)) rfl rfl rfl ?_
      refine j_pure (pj_move (has_tmp rfl)) rfl rfl rfl ?_
      refine j_pure (pj_extract (has_tmp rfl) rfl) rfl rfl rfl ?_
      refine j_pure (pj_extract (has_tmp rfl) rfl) rfl rfl rfl ?_
      refine j_alloc (x := (0, 0, (Vector.replicate 32 (0#8)), (Vector.replicate 32 (0#8)))) (R := R_head_Head) (zero_prod zero_i64 (zero_prod zero_i64 (zero_prod (zero_vec 32 zero_un) (zero_vec 32 zero_un)))) (by kernel_rfl) rfl fun b1 => ?_
      refine j_store_boxx (r' := r5.1) (has_tmp rfl) (has_tmp rfl) .here (Path.all R_head_Head) (by kernel_rfl) rfl ?_
      refine j_freezeTo (t := 9) .here (.of_lk rfl) ?_
      refine j_pure (pj_assign (has_tmp rfl)) rfl rfl rfl ?_
      refine j_end ?_
      refine run_seq ?_
      refine run_text ?_
      refine j_pure (pj_move (has_tmp rfl)) rfl rfl rfl ?_
      obtain ⟨r6, e9, h⟩ := bind_some h
      refine j_pure (pj_call (hasL_cons (has_tmp rfl) <| hasL_nil) (by kernel_rfl) (c_rolodexref17_Decode e9)) rfl rfl rfl ?_
      refine j_pure (pj_move (has_tmp rfl)) rfl rfl rfl ?_
      refine j_pure (pj_extract (has_tmp rfl) rfl) rfl rfl rfl ?_
      refine j_pure (pj_extract (has_tmp rfl) rfl) rfl rfl rfl ?_
      refine j_alloc (x := (0, 0, (Vector.replicate 32 (0#8)), (Vector.replicate 32 (0#8)))) (R := R_rolodexref17_Head) (zero_prod zero_i64 (zero_prod zero_i64 (zero_prod (zero_vec 32 zero_un) (zero_vec 32 zero_un)))) (by kernel_rfl) rfl fun b2 => ?_
      refine j_store_boxx (r' := r6.1) (has_tmp rfl) (has_tmp rfl) .here (Path.all R_rolodexref17_Head) (by kernel_rfl) rfl ?_
      refine j_freezeTo (t := 11) .here (.of_lk rfl) ?_
      refine j_pure (pj_assign (has_tmp rfl)) rfl rfl rfl ?_
      refine j_end ?_
      refine run_seq ?_
      obtain ⟨y2, e11, h⟩ := bind_some h
      obtain ⟨y3, e14, h⟩ := bind_some h
      obtain ⟨y4, e16, h⟩ := bind_some h
      obtain ⟨y5, e18, h⟩ := bind_some h
      refine (run_drawJ (n := 31) (Γ' := [(71, bl.slot y5)]) (H' := []) ?_ fun J => ?_)
      · clear e11 e14 e16 e18
        refine j_pure (pj_assign (has_tmp rfl)) rfl rfl rfl ?_
        refine j_end ?_
        obtain rfl := Option.some.inj h
        exact run_ret fun a w hst => q_ret1 hst rfl (.tmp rfl) () (fun _ _ h => h) (.nil)
      · rcases bool_tf (decide (r3.2 = r4.2)) with e10 | e10
        · replace e11 := bt e10 e11
          obtain ⟨r7, e12, e11⟩ := bind_some e11
          rcases bool_tf (y2) with e13 | e13
          · replace e14 := bt e13 e14
            rcases bool_tf (y3) with e15 | e15
            · replace e16 := bt e15 e16
              rcases bool_tf (y4) with e17 | e17
              · replace e18 := bt e17 e18
                obtain ⟨r8, e19, e18⟩ := bind_some e18
                obtain ⟨r9, e20, e18⟩ := bind_some e18
                exact run_draw (n := 31) (by kernel_rfl) (by kernel_rfl) (by kernel_rfl) (by kernel_rfl) (.read (.plain rfl (pj_move (has_tmp rfl))) <| .read (.plain rfl (pj_move (has_tmp rfl))) <| .read (.plain rfl (pj_ieql (has_tmp rfl) (has_tmp rfl))) <| .read (.plain rfl (pj_move (has_tmp rfl))) <| .read (.yes ⟨3, true, _, 44, _, rfl, rfl, rfl, fun _ _ => bl_p.1, gd_yes e10⟩ (pj_move (has_tmp rfl))) <| .read (.yes ⟨3, true, _, 44, _, rfl, rfl, rfl, fun _ _ => bl_p.1, gd_yes e10⟩ (pj_move (has_tmp rfl))) <| .read (.yes ⟨3, true, _, 44, _, rfl, rfl, rfl, fun _ _ => bl_p.1, gd_yes e10⟩ (pj_call (hasL_cons (has_tmp rfl) <| hasL_cons (has_tmp rfl) <| hasL_nil) (by kernel_rfl) (c_rolodexref01_Same e12))) <| .read (.plain rfl (PJ.eqv (R := bl) (pj_pick (t := any) (has_tmp rfl) (fun _ => (has_tmp rfl)) (fun he => absurd (e10.symm.trans he) (by decide))) (Option.some.inj e11))) <| .read (.plain rfl (pj_move (has_tmp rfl))) <| .read (.yes ⟨8, true, _, 49, _, rfl, rfl, rfl, fun _ _ => bl_p.1, gd_yes e13⟩ (pj_move (has_tmp rfl))) <| .read (.yes ⟨8, true, _, 49, _, rfl, rfl, rfl, fun _ _ => bl_p.1, gd_yes e13⟩ (pj_move (has_tmp rfl))) <| .read (.yes ⟨8, true, _, 49, _, rfl, rfl, rfl, fun _ _ => bl_p.1, gd_yes e13⟩ (pj_ieql (has_tmp rfl) (has_tmp rfl))) <| .read (.plain rfl (PJ.eqv (R := bl) (pj_pick (t := any) (has_tmp rfl) (fun _ => (has_tmp rfl)) (fun he => absurd (e13.symm.trans he) (by decide))) (Option.some.inj e14))) <| .read (.plain rfl (pj_move (has_tmp rfl))) <| .read (.yes ⟨13, true, _, 54, _, rfl, rfl, rfl, fun _ _ => bl_p.1, gd_yes e15⟩ (pj_load_to (has_tmp rfl) (by kernel_rfl))) <| .read (.yes ⟨13, true, _, 54, _, rfl, rfl, rfl, fun _ _ => bl_p.1, gd_yes e15⟩ (pj_load_to (has_tmp rfl) (by kernel_rfl))) <| .read (.yes ⟨13, true, _, 54, _, rfl, rfl, rfl, fun _ _ => bl_p.1, gd_yes e15⟩ (pj_eql (n := 3) (eq_struct (fs := #[Field.mk "Epoch" 3 0 false "" "" 0, Field.mk "Tick" 3 1 false "" "" 8, Field.mk "Tree" 23 2 false "" "" 16, Field.mk "Log" 23 34 false "" "" 48]) (by kernel_rfl) (by kernel_rfl) rfl (.cons rfl (by kernel_rfl) (by kernel_rfl) (EqOK.mono (by omega) (eq_i64 (by kernel_rfl))) (.cons rfl (by kernel_rfl) (by kernel_rfl) (EqOK.mono (by omega) (eq_i64 (by kernel_rfl))) (.cons rfl (by kernel_rfl) (by kernel_rfl) (eq_vec (e := 5) (by kernel_rfl) (by kernel_rfl) (eq_un (by kernel_rfl))) (.one rfl (by kernel_rfl) (by kernel_rfl) (eq_vec (e := 5) (by kernel_rfl) (by kernel_rfl) (eq_un (by kernel_rfl)))))))) (by decide) rfl (by kernel_rfl) (has_tmp rfl) (has_tmp rfl))) <| .read (.plain rfl (PJ.eqv (R := bl) (pj_pick (t := any) (has_tmp rfl) (fun _ => (has_tmp rfl)) (fun he => absurd (e15.symm.trans he) (by decide))) (Option.some.inj e16))) <| .read (.plain rfl (pj_move (has_tmp rfl))) <| .read (.yes ⟨18, true, _, 59, _, rfl, rfl, rfl, fun _ _ => bl_p.1, gd_yes e17⟩ (pj_field_to (has_tmp rfl) (Path.fst i64 (prod i64 (prod R_api_Hash R_api_Hash))) (by kernel_rfl))) <| .read (.yes ⟨18, true, _, 59, _, rfl, rfl, rfl, fun _ _ => bl_p.1, gd_yes e17⟩ (pj_load_to (has_tmp rfl) (by kernel_rfl))) <| .read (.yes ⟨18, true, _, 59, _, rfl, rfl, rfl, fun _ _ => bl_p.1, gd_yes e17⟩ (pj_field_to (has_tmp rfl) (Path.then (Path.snd i64 (prod i64 (prod R_api_Hash R_api_Hash))) (Path.then (Path.snd i64 (prod R_api_Hash R_api_Hash)) (Path.fst R_api_Hash R_api_Hash))) (by kernel_rfl))) <| .read (.yes ⟨18, true, _, 59, _, rfl, rfl, rfl, fun _ _ => bl_p.1, gd_yes e17⟩ (pj_load_to (has_tmp rfl) (by kernel_rfl))) <| .read (.yes ⟨18, true, _, 59, _, rfl, rfl, rfl, fun _ _ => bl_p.1, gd_yes e17⟩ (pj_call (hasL_cons (has_tmp rfl) <| hasL_cons (has_tmp rfl) <| hasL_nil) (by kernel_rfl) (c_head_Entry hg0 hg1 e19))) <| .read (.yes ⟨18, true, _, 59, _, rfl, rfl, rfl, fun _ _ => bl_p.1, gd_yes e17⟩ (pj_field_to (has_tmp rfl) (Path.fst i64 (prod i64 (prod R_api_Hash R_api_Hash))) (by kernel_rfl))) <| .read (.yes ⟨18, true, _, 59, _, rfl, rfl, rfl, fun _ _ => bl_p.1, gd_yes e17⟩ (pj_load_to (has_tmp rfl) (by kernel_rfl))) <| .read (.yes ⟨18, true, _, 59, _, rfl, rfl, rfl, fun _ _ => bl_p.1, gd_yes e17⟩ (pj_field_to (has_tmp rfl) (Path.then (Path.snd i64 (prod i64 (prod R_api_Hash R_api_Hash))) (Path.then (Path.snd i64 (prod R_api_Hash R_api_Hash)) (Path.fst R_api_Hash R_api_Hash))) (by kernel_rfl))) <| .read (.yes ⟨18, true, _, 59, _, rfl, rfl, rfl, fun _ _ => bl_p.1, gd_yes e17⟩ (pj_load_to (has_tmp rfl) (by kernel_rfl))) <| .read (.yes ⟨18, true, _, 59, _, rfl, rfl, rfl, fun _ _ => bl_p.1, gd_yes e17⟩ (pj_call (hasL_cons (has_tmp rfl) <| hasL_cons (has_tmp rfl) <| hasL_nil) (by kernel_rfl) (c_rolodexref17_Entry e20))) <| .read (.yes ⟨18, true, _, 59, _, rfl, rfl, rfl, fun _ _ => bl_p.1, gd_yes e17⟩ (pj_eql (n := 2) (eq_vec (e := 5) (by kernel_rfl) (by kernel_rfl) (eq_un (by kernel_rfl))) (by decide) rfl (by kernel_rfl) (has_tmp rfl) (has_tmp rfl))) <| .read (.plain rfl (PJ.eqv (R := bl) (pj_pick (t := any) (has_tmp rfl) (fun _ => (has_tmp rfl)) (fun he => absurd (e17.symm.trans he) (by decide))) (Option.some.inj e18))) <| .nil) (j_to (Γ' := [(71, bl.slot y5)]) (H' := []) (.cons (.of_lk rfl) <| .nil) (.nil) J)
              · replace e18 := bf e17 e18
                exact run_draw (n := 31) (by kernel_rfl) (by kernel_rfl) (by kernel_rfl) (by kernel_rfl) (.read (.plain rfl (pj_move (has_tmp rfl))) <| .read (.plain rfl (pj_move (has_tmp rfl))) <| .read (.plain rfl (pj_ieql (has_tmp rfl) (has_tmp rfl))) <| .read (.plain rfl (pj_move (has_tmp rfl))) <| .read (.yes ⟨3, true, _, 44, _, rfl, rfl, rfl, fun _ _ => bl_p.1, gd_yes e10⟩ (pj_move (has_tmp rfl))) <| .read (.yes ⟨3, true, _, 44, _, rfl, rfl, rfl, fun _ _ => bl_p.1, gd_yes e10⟩ (pj_move (has_tmp rfl))) <| .read (.yes ⟨3, true, _, 44, _, rfl, rfl, rfl, fun _ _ => bl_p.1, gd_yes e10⟩ (pj_call (hasL_cons (has_tmp rfl) <| hasL_cons (has_tmp rfl) <| hasL_nil) (by kernel_rfl) (c_rolodexref01_Same e12))) <| .read (.plain rfl (PJ.eqv (R := bl) (pj_pick (t := any) (has_tmp rfl) (fun _ => (has_tmp rfl)) (fun he => absurd (e10.symm.trans he) (by decide))) (Option.some.inj e11))) <| .read (.plain rfl (pj_move (has_tmp rfl))) <| .read (.yes ⟨8, true, _, 49, _, rfl, rfl, rfl, fun _ _ => bl_p.1, gd_yes e13⟩ (pj_move (has_tmp rfl))) <| .read (.yes ⟨8, true, _, 49, _, rfl, rfl, rfl, fun _ _ => bl_p.1, gd_yes e13⟩ (pj_move (has_tmp rfl))) <| .read (.yes ⟨8, true, _, 49, _, rfl, rfl, rfl, fun _ _ => bl_p.1, gd_yes e13⟩ (pj_ieql (has_tmp rfl) (has_tmp rfl))) <| .read (.plain rfl (PJ.eqv (R := bl) (pj_pick (t := any) (has_tmp rfl) (fun _ => (has_tmp rfl)) (fun he => absurd (e13.symm.trans he) (by decide))) (Option.some.inj e14))) <| .read (.plain rfl (pj_move (has_tmp rfl))) <| .read (.yes ⟨13, true, _, 54, _, rfl, rfl, rfl, fun _ _ => bl_p.1, gd_yes e15⟩ (pj_load_to (has_tmp rfl) (by kernel_rfl))) <| .read (.yes ⟨13, true, _, 54, _, rfl, rfl, rfl, fun _ _ => bl_p.1, gd_yes e15⟩ (pj_load_to (has_tmp rfl) (by kernel_rfl))) <| .read (.yes ⟨13, true, _, 54, _, rfl, rfl, rfl, fun _ _ => bl_p.1, gd_yes e15⟩ (pj_eql (n := 3) (eq_struct (fs := #[Field.mk "Epoch" 3 0 false "" "" 0, Field.mk "Tick" 3 1 false "" "" 8, Field.mk "Tree" 23 2 false "" "" 16, Field.mk "Log" 23 34 false "" "" 48]) (by kernel_rfl) (by kernel_rfl) rfl (.cons rfl (by kernel_rfl) (by kernel_rfl) (EqOK.mono (by omega) (eq_i64 (by kernel_rfl))) (.cons rfl (by kernel_rfl) (by kernel_rfl) (EqOK.mono (by omega) (eq_i64 (by kernel_rfl))) (.cons rfl (by kernel_rfl) (by kernel_rfl) (eq_vec (e := 5) (by kernel_rfl) (by kernel_rfl) (eq_un (by kernel_rfl))) (.one rfl (by kernel_rfl) (by kernel_rfl) (eq_vec (e := 5) (by kernel_rfl) (by kernel_rfl) (eq_un (by kernel_rfl)))))))) (by decide) rfl (by kernel_rfl) (has_tmp rfl) (has_tmp rfl))) <| .read (.plain rfl (PJ.eqv (R := bl) (pj_pick (t := any) (has_tmp rfl) (fun _ => (has_tmp rfl)) (fun he => absurd (e15.symm.trans he) (by decide))) (Option.some.inj e16))) <| .read (.plain rfl (pj_move (has_tmp rfl))) <| .read (.no ⟨18, true, _, 59, _, rfl, rfl, rfl, fun _ _ => bl_p.1, gd_no e17⟩) <| .read (.no ⟨18, true, _, 59, _, rfl, rfl, rfl, fun _ _ => bl_p.1, gd_no e17⟩) <| .read (.no ⟨18, true, _, 59, _, rfl, rfl, rfl, fun _ _ => bl_p.1, gd_no e17⟩) <| .read (.no ⟨18, true, _, 59, _, rfl, rfl, rfl, fun _ _ => bl_p.1, gd_no e17⟩) <| .read (.no ⟨18, true, _, 59, _, rfl, rfl, rfl, fun _ _ => bl_p.1, gd_no e17⟩) <| .read (.no ⟨18, true, _, 59, _, rfl, rfl, rfl, fun _ _ => bl_p.1, gd_no e17⟩) <| .read (.no ⟨18, true, _, 59, _, rfl, rfl, rfl, fun _ _ => bl_p.1, gd_no e17⟩) <| .read (.no ⟨18, true, _, 59, _, rfl, rfl, rfl, fun _ _ => bl_p.1, gd_no e17⟩) <| .read (.no ⟨18, true, _, 59, _, rfl, rfl, rfl, fun _ _ => bl_p.1, gd_no e17⟩) <| .read (.no ⟨18, true, _, 59, _, rfl, rfl, rfl, fun _ _ => bl_p.1, gd_no e17⟩) <| .read (.no ⟨18, true, _, 59, _, rfl, rfl, rfl, fun _ _ => bl_p.1, gd_no e17⟩) <| .read (.plain rfl (PJ.eqv (R := bl) (pj_pick (t := any) (has_tmp rfl) (fun he => absurd (e17.symm.trans he) (by decide)) (fun _ => has_bl)) (Option.some.inj e18))) <| .nil) (j_to (Γ' := [(71, bl.slot y5)]) (H' := []) (.cons (.of_lk rfl) <| .nil) (.nil) J)
            · replace e16 := bf e15 e16
              rcases bool_tf (y4) with e17 | e17
              · exact absurd ((Option.some.inj e16).trans e17) (by decide)
              · replace e18 := bf e17 e18
                exact run_draw (n := 31) (by kernel_rfl) (by kernel_rfl) (by kernel_rfl) (by kernel_rfl) (.read (.plain rfl (pj_move (has_tmp rfl))) <| .read (.plain rfl (pj_move (has_tmp rfl))) <| .read (.plain rfl (pj_ieql (has_tmp rfl) (has_tmp rfl))) <| .read (.plain rfl (pj_move (has_tmp rfl))) <| .read (.yes ⟨3, true, _, 44, _, rfl, rfl, rfl, fun _ _ => bl_p.1, gd_yes e10⟩ (pj_move (has_tmp rfl))) <| .read (.yes ⟨3, true, _, 44, _, rfl, rfl, rfl, fun _ _ => bl_p.1, gd_yes e10⟩ (pj_move (has_tmp rfl))) <| .read (.yes ⟨3, true, _, 44, _, rfl, rfl, rfl, fun _ _ => bl_p.1, gd_yes e10⟩ (pj_call (hasL_cons (has_tmp rfl) <| hasL_cons (has_tmp rfl) <| hasL_nil) (by kernel_rfl) (c_rolodexref01_Same e12))) <| .read (.plain rfl (PJ.eqv (R := bl) (pj_pick (t := any) (has_tmp rfl) (fun _ => (has_tmp rfl)) (fun he => absurd (e10.symm.trans he) (by decide))) (Option.some.inj e11))) <| .read (.plain rfl (pj_move (has_tmp rfl))) <| .read (.yes ⟨8, true, _, 49, _, rfl, rfl, rfl, fun _ _ => bl_p.1, gd_yes e13⟩ (pj_move (has_tmp rfl))) <| .read (.yes ⟨8, true, _, 49, _, rfl, rfl, rfl, fun _ _ => bl_p.1, gd_yes e13⟩ (pj_move (has_tmp rfl))) <| .read (.yes ⟨8, true, _, 49, _, rfl, rfl, rfl, fun _ _ => bl_p.1, gd_yes e13⟩ (pj_ieql (has_tmp rfl) (has_tmp rfl))) <| .read (.plain rfl (PJ.eqv (R := bl) (pj_pick (t := any) (has_tmp rfl) (fun _ => (has_tmp rfl)) (fun he => absurd (e13.symm.trans he) (by decide))) (Option.some.inj e14))) <| .read (.plain rfl (pj_move (has_tmp rfl))) <| .read (.no ⟨13, true, _, 54, _, rfl, rfl, rfl, fun _ _ => bl_p.1, gd_no e15⟩) <| .read (.no ⟨13, true, _, 54, _, rfl, rfl, rfl, fun _ _ => bl_p.1, gd_no e15⟩) <| .read (.no ⟨13, true, _, 54, _, rfl, rfl, rfl, fun _ _ => bl_p.1, gd_no e15⟩) <| .read (.plain rfl (PJ.eqv (R := bl) (pj_pick (t := any) (has_tmp rfl) (fun he => absurd (e15.symm.trans he) (by decide)) (fun _ => has_bl)) (Option.some.inj e16))) <| .read (.plain rfl (pj_move (has_tmp rfl))) <| .read (.no ⟨18, true, _, 59, _, rfl, rfl, rfl, fun _ _ => bl_p.1, gd_no e17⟩) <| .read (.no ⟨18, true, _, 59, _, rfl, rfl, rfl, fun _ _ => bl_p.1, gd_no e17⟩) <| .read (.no ⟨18, true, _, 59, _, rfl, rfl, rfl, fun _ _ => bl_p.1, gd_no e17⟩) <| .read (.no ⟨18, true, _, 59, _, rfl, rfl, rfl, fun _ _ => bl_p.1, gd_no e17⟩) <| .read (.no ⟨18, true, _, 59, _, rfl, rfl, rfl, fun _ _ => bl_p.1, gd_no e17⟩) <| .read (.no ⟨18, true, _, 59, _, rfl, rfl, rfl, fun _ _ => bl_p.1, gd_no e17⟩) <| .read (.no ⟨18, true, _, 59, _, rfl, rfl, rfl, fun _ _ => bl_p.1, gd_no e17⟩) <| .read (.no ⟨18, true, _, 59, _, rfl, rfl, rfl, fun _ _ => bl_p.1, gd_no e17⟩) <| .read (.no ⟨18, true, _, 59, _, rfl, rfl, rfl, fun _ _ => bl_p.1, gd_no e17⟩) <| .read (.no ⟨18, true, _, 59, _, rfl, rfl, rfl, fun _ _ => bl_p.1, gd_no e17⟩) <| .read (.no ⟨18, true, _, 59, _, rfl, rfl, rfl, fun _ _ => bl_p.1, gd_no e17⟩) <| .read (.plain rfl (PJ.eqv (R := bl) (pj_pick (t := any) (has_tmp rfl) (fun he => absurd (e17.symm.trans he) (by decide)) (fun _ => has_bl)) (Option.some.inj e18))) <| .nil) (j_to (Γ' := [(71, bl.slot y5)]) (H' := []) (.cons (.of_lk rfl) <| .nil) (.nil) J)
          · replace e14 := bf e13 e14
            rcases bool_tf (y3) with e15 | e15
            · exact absurd ((Option.some.inj e14).trans e15) (by decide)
            · replace e16 := bf e15 e16
              rcases bool_tf (y4) with e17 | e17
              · exact absurd ((Option.some.inj e16).trans e17) (by decide)
              · replace e18 := bf e17 e18
                exact run_draw (n := 31) (by kernel_rfl) (by kernel_rfl) (by kernel_rfl) (by kernel_rfl) (.read (.plain rfl (pj_move (has_tmp rfl))) <| .read (.plain rfl (pj_move (has_tmp rfl))) <| .read (.plain rfl (pj_ieql (has_tmp rfl) (has_tmp rfl))) <| .read (.plain rfl (pj_move (has_tmp rfl))) <| .read (.yes ⟨3, true, _, 44, _, rfl, rfl, rfl, fun _ _ => bl_p.1, gd_yes e10⟩ (pj_move (has_tmp rfl))) <| .read (.yes ⟨3, true, _, 44, _, rfl, rfl, rfl, fun _ _ => bl_p.1, gd_yes e10⟩ (pj_move (has_tmp rfl))) <| .read (.yes ⟨3, true, _, 44, _, rfl, rfl, rfl, fun _ _ => bl_p.1, gd_yes e10⟩ (pj_call (hasL_cons (has_tmp rfl) <| hasL_cons (has_tmp rfl) <| hasL_nil) (by kernel_rfl) (c_rolodexref01_Same e12))) <| .read (.plain rfl (PJ.eqv (R := bl) (pj_pick (t := any) (has_tmp rfl) (fun _ => (has_tmp rfl)) (fun he => absurd (e10.symm.trans he) (by decide))) (Option.some.inj e11))) <| .read (.plain rfl (pj_move (has_tmp rfl))) <| .read (.no ⟨8, true, _, 49, _, rfl, rfl, rfl, fun _ _ => bl_p.1, gd_no e13⟩) <| .read (.no ⟨8, true, _, 49, _, rfl, rfl, rfl, fun _ _ => bl_p.1, gd_no e13⟩) <| .read (.no ⟨8, true, _, 49, _, rfl, rfl, rfl, fun _ _ => bl_p.1, gd_no e13⟩) <| .read (.plain rfl (PJ.eqv (R := bl) (pj_pick (t := any) (has_tmp rfl) (fun he => absurd (e13.symm.trans he) (by decide)) (fun _ => has_bl)) (Option.some.inj e14))) <| .read (.plain rfl (pj_move (has_tmp rfl))) <| .read (.no ⟨13, true, _, 54, _, rfl, rfl, rfl, fun _ _ => bl_p.1, gd_no e15⟩) <| .read (.no ⟨13, true, _, 54, _, rfl, rfl, rfl, fun _ _ => bl_p.1, gd_no e15⟩) <| .read (.no ⟨13, true, _, 54, _, rfl, rfl, rfl, fun _ _ => bl_p.1, gd_no e15⟩) <| .read (.plain rfl (PJ.eqv (R := bl) (pj_pick (t := any) (has_tmp rfl) (fun he => absurd (e15.symm.trans he) (by decide)) (fun _ => has_bl)) (Option.some.inj e16))) <| .read (.plain rfl (pj_move (has_tmp rfl))) <| .read (.no ⟨18, true, _, 59, _, rfl, rfl, rfl, fun _ _ => bl_p.1, gd_no e17⟩) <| .read (.no ⟨18, true, _, 59, _, rfl, rfl, rfl, fun _ _ => bl_p.1, gd_no e17⟩) <| .read (.no ⟨18, true, _, 59, _, rfl, rfl, rfl, fun _ _ => bl_p.1, gd_no e17⟩) <| .read (.no ⟨18, true, _, 59, _, rfl, rfl, rfl, fun _ _ => bl_p.1, gd_no e17⟩) <| .read (.no ⟨18, true, _, 59, _, rfl, rfl, rfl, fun _ _ => bl_p.1, gd_no e17⟩) <| .read (.no ⟨18, true, _, 59, _, rfl, rfl, rfl, fun _ _ => bl_p.1, gd_no e17⟩) <| .read (.no ⟨18, true, _, 59, _, rfl, rfl, rfl, fun _ _ => bl_p.1, gd_no e17⟩) <| .read (.no ⟨18, true, _, 59, _, rfl, rfl, rfl, fun _ _ => bl_p.1, gd_no e17⟩) <| .read (.no ⟨18, true, _, 59, _, rfl, rfl, rfl, fun _ _ => bl_p.1, gd_no e17⟩) <| .read (.no ⟨18, true, _, 59, _, rfl, rfl, rfl, fun _ _ => bl_p.1, gd_no e17⟩) <| .read (.no ⟨18, true, _, 59, _, rfl, rfl, rfl, fun _ _ => bl_p.1, gd_no e17⟩) <| .read (.plain rfl (PJ.eqv (R := bl) (pj_pick (t := any) (has_tmp rfl) (fun he => absurd (e17.symm.trans he) (by decide)) (fun _ => has_bl)) (Option.some.inj e18))) <| .nil) (j_to (Γ' := [(71, bl.slot y5)]) (H' := []) (.cons (.of_lk rfl) <| .nil) (.nil) J)
        · replace e11 := bf e10 e11
          rcases bool_tf (y2) with e13 | e13
          · exact absurd ((Option.some.inj e11).trans e13) (by decide)
          · replace e14 := bf e13 e14
            rcases bool_tf (y3) with e15 | e15
            · exact absurd ((Option.some.inj e14).trans e15) (by decide)
            · replace e16 := bf e15 e16
              rcases bool_tf (y4) with e17 | e17
              · exact absurd ((Option.some.inj e16).trans e17) (by decide)
              · replace e18 := bf e17 e18
                exact run_draw (n := 31) (by kernel_rfl) (by kernel_rfl) (by kernel_rfl) (by kernel_rfl) (.read (.plain rfl (pj_move (has_tmp rfl))) <| .read (.plain rfl (pj_move (has_tmp rfl))) <| .read (.plain rfl (pj_ieql (has_tmp rfl) (has_tmp rfl))) <| .read (.plain rfl (pj_move (has_tmp rfl))) <| .read (.no ⟨3, true, _, 44, _, rfl, rfl, rfl, fun _ _ => bl_p.1, gd_no e10⟩) <| .read (.no ⟨3, true, _, 44, _, rfl, rfl, rfl, fun _ _ => bl_p.1, gd_no e10⟩) <| .read (.no ⟨3, true, _, 44, _, rfl, rfl, rfl, fun _ _ => bl_p.1, gd_no e10⟩) <| .read (.plain rfl (PJ.eqv (R := bl) (pj_pick (t := any) (has_tmp rfl) (fun he => absurd (e10.symm.trans he) (by decide)) (fun _ => has_bl)) (Option.some.inj e11))) <| .read (.plain rfl (pj_move (has_tmp rfl))) <| .read (.no ⟨8, true, _, 49, _, rfl, rfl, rfl, fun _ _ => bl_p.1, gd_no e13⟩) <| .read (.no ⟨8, true, _, 49, _, rfl, rfl, rfl, fun _ _ => bl_p.1, gd_no e13⟩) <| .read (.no ⟨8, true, _, 49, _, rfl, rfl, rfl, fun _ _ => bl_p.1, gd_no e13⟩) <| .read (.plain rfl (PJ.eqv (R := bl) (pj_pick (t := any) (has_tmp rfl) (fun he => absurd (e13.symm.trans he) (by decide)) (fun _ => has_bl)) (Option.some.inj e14))) <| .read (.plain rfl (pj_move (has_tmp rfl))) <| .read (.no ⟨13, true, _, 54, _, rfl, rfl, rfl, fun _ _ => bl_p.1, gd_no e15⟩) <| .read (.no ⟨13, true, _, 54, _, rfl, rfl, rfl, fun _ _ => bl_p.1, gd_no e15⟩) <| .read (.no ⟨13, true, _, 54, _, rfl, rfl, rfl, fun _ _ => bl_p.1, gd_no e15⟩) <| .read (.plain rfl (PJ.eqv (R := bl) (pj_pick (t := any) (has_tmp rfl) (fun he => absurd (e15.symm.trans he) (by decide)) (fun _ => has_bl)) (Option.some.inj e16))) <| .read (.plain rfl (pj_move (has_tmp rfl))) <| .read (.no ⟨18, true, _, 59, _, rfl, rfl, rfl, fun _ _ => bl_p.1, gd_no e17⟩) <| .read (.no ⟨18, true, _, 59, _, rfl, rfl, rfl, fun _ _ => bl_p.1, gd_no e17⟩) <| .read (.no ⟨18, true, _, 59, _, rfl, rfl, rfl, fun _ _ => bl_p.1, gd_no e17⟩) <| .read (.no ⟨18, true, _, 59, _, rfl, rfl, rfl, fun _ _ => bl_p.1, gd_no e17⟩) <| .read (.no ⟨18, true, _, 59, _, rfl, rfl, rfl, fun _ _ => bl_p.1, gd_no e17⟩) <| .read (.no ⟨18, true, _, 59, _, rfl, rfl, rfl, fun _ _ => bl_p.1, gd_no e17⟩) <| .read (.no ⟨18, true, _, 59, _, rfl, rfl, rfl, fun _ _ => bl_p.1, gd_no e17⟩) <| .read (.no ⟨18, true, _, 59, _, rfl, rfl, rfl, fun _ _ => bl_p.1, gd_no e17⟩) <| .read (.no ⟨18, true, _, 59, _, rfl, rfl, rfl, fun _ _ => bl_p.1, gd_no e17⟩) <| .read (.no ⟨18, true, _, 59, _, rfl, rfl, rfl, fun _ _ => bl_p.1, gd_no e17⟩) <| .read (.no ⟨18, true, _, 59, _, rfl, rfl, rfl, fun _ _ => bl_p.1, gd_no e17⟩) <| .read (.plain rfl (PJ.eqv (R := bl) (pj_pick (t := any) (has_tmp rfl) (fun he => absurd (e17.symm.trans he) (by decide)) (fun _ => has_bl)) (Option.some.inj e18))) <| .nil) (j_to (Γ' := [(71, bl.slot y5)]) (H' := []) (.cons (.of_lk rfl) <| .nil) (.nil) J)
  · rcases bool_tf (!r1) with e2 | e2
    · replace e3 := bt e2 e3
      refine j_guard_no2 (j := 2) (want := false) rfl rfl rfl rfl (bl_isx e2) rfl rfl rfl ?_
      refine j_guard_no2 (j := 2) (want := false) rfl rfl rfl rfl (bl_isx e2) rfl rfl rfl ?_
      refine j_guard_no2 (j := 2) (want := false) rfl rfl rfl rfl (bl_isx e2) rfl rfl rfl ?_
      refine j_pure (PJ.eqv (R := bl) (pj_pick (t := any) (has_tmp rfl) (fun _ => has_bl) (fun he => absurd (e2.symm.trans he) (by decide))) (Option.some.inj e3)) rfl rfl rfl ?_
      exact j_to (.cons (.of_lk rfl) <| .cons (.of_lk rfl) <| .cons (.of_lk rfl) <| .nil) (.nil) (J ())
    · replace e3 := bf e2 e3
      refine j_pure_y (pj_move (has_tmp rfl)) rfl rfl rfl rfl (bl_isx e2) rfl rfl ?_
      refine j_pure_y (pj_len_sl (sz := 1) (has_tmp rfl) (by kernel_rfl)) rfl rfl rfl rfl (bl_isx e2) rfl rfl ?_
      refine j_pure_y (pj_igtr (has_tmp rfl) has_i64) rfl rfl rfl rfl (bl_isx e2) rfl rfl ?_
      refine j_pure (PJ.eqv (R := bl) (pj_pick (t := any) (has_tmp rfl) (fun he => absurd (e2.symm.trans he) (by decide)) (fun _ => (has_tmp rfl))) (Option.some.inj e3)) rfl rfl rfl ?_
      exact j_to (.cons (.of_lk rfl) <| .cons (.of_lk rfl) <| .cons (.of_lk rfl) <| .nil) (.nil) (J ())
end Go.Sl.W
