import Derived.Test.YtodeiommhponnaaDoorWA
import Derived.Test.YtodeiommhponnaaDoorOp11
import Derived.Test.YtodeiommhponnaaDoorProg
set_option linter.unusedSimpArgs false
set_option linter.unusedVariables false
set_option linter.unusedSectionVars false
namespace Go.Sl.W
open Go.Proofs Go.Sl Go.Sl.M
set_option maxRecDepth 100000 in
set_option maxHeartbeats 4000000 in
theorem c_chain_Formed {G : GP} (hg0 : HG0 G) (hg1 : HG1 G) {p_label : List (BitVec 8)} {p_chain : List T_chain_Version} {r : Bool} (h : chain_Formed p_label p_chain = some r) : Ctr Tryd.prog G 32 [(sl u8).slot p_label, (sl R_chain_Version).slot p_chain] [] (fun (_ : Unit) => bl.slot r) (fun (_ : Unit) => []) := by
  unfold chain_Formed at h
  refine ctr_of_run Tryd.func32 rfl 58 rfl rfl fun m0 w0 b0 => ?_
  refine run_ret0 fun Qf hq1 hq2 => ?_
  show Run _ _ _ [(0, (sl u8).slot p_label), (1, (sl R_chain_Version).slot p_chain)] _
  refine run_seq ?_
  refine run_text ?_
  refine j_pure (pj_assign has_bl) rfl rfl rfl ?_
  refine j_end ?_
  refine run_seq ?_
  refine run_seq ?_
  refine run_text ?_
  refine j_pure (pj_move (has_tmp rfl)) rfl rfl rfl ?_
  obtain ⟨r1, e1, h⟩ := bind_some h
  refine j_pure (pj_call (hasL_cons (has_tmp rfl) <| hasL_nil) (by kernel_rfl) (c_chain_is e1)) rfl rfl rfl ?_
  refine j_pure (pj_not (has_tmp rfl)) rfl rfl rfl ?_
  refine j_pure (pj_move (has_tmp rfl)) rfl rfl rfl ?_
  obtain ⟨y1, e3, h⟩ := bind_some h
  refine j_joinx (ι := Unit) (Γ' := fun _ => [(0, (sl u8).slot p_label), (1, (sl R_chain_Version).slot p_chain), (16, bl.slot y1)]) (H' := fun _ => []) 4 ?_ fun J => ?_
  · intro _
    clear e3
    show OpsJ _ _ _ [(0, (sl u8).slot p_label), (1, (sl R_chain_Version).slot p_chain), (16, bl.slot y1)] [] _
    refine j_end ?_
    refine run_cond (has_tmp rfl) (fun e4 => ?_) (fun e4 => ?_)
    · replace h := bt e4 h
      refine run_seq ?_
      refine run_text ?_
      refine j_pure (pj_assign has_bl) rfl rfl rfl ?_
      refine j_end ?_
      obtain rfl := Option.some.inj h
      exact run_ret fun a w hst => q_ret1 hst rfl (.tmp rfl) () (fun _ _ h => h) (.nil)
    · replace h := bf e4 h
      refine run_skip ?_
      refine run_seq ?_
      refine run_text ?_
      refine j_alloc (x := (Vector.replicate 32 (0#8))) (R := R_api_Hash) (zero_vec 32 zero_un) (by kernel_rfl) rfl fun b1 => ?_
      refine j_end ?_
      refine run_seq ?_
      refine run_text ?_
      refine j_pure (pj_assign has_i64) rfl rfl rfl ?_
      refine j_end ?_
      refine run_seq ?_
      refine run_seq ?_
      refine run_text ?_
      refine j_pure (pj_move (has_tmp rfl)) rfl rfl rfl ?_
      refine j_pure (pj_len_sl (sz := 67) (has_tmp rfl) (by kernel_rfl)) rfl rfl rfl ?_
      refine j_pure (pj_move has_i64) rfl rfl rfl ?_
      refine j_end ?_
      obtain ⟨o, e17, h⟩ := bind_some h
      refine run_loop (Γi := fun (i : Unit) (s : Int × Int × T_api_Hash) => [(0, (sl u8).slot p_label), (5, val (.pointer (some ⟨b1, 0, none⟩))), (6, i64.slot s.1), (17, (sl R_chain_Version).slot p_chain), (18, i64.slot (p_chain.length : Int)), (19, i64.slot s.2.1)]) (Hi := fun (i : Unit) (s : Int × Int × T_api_Hash) => [box b1 25 R_api_Hash s.2.2]) (R := fun x a w => x = r → Qf a w) e17 () (fun a w hst => (hst.sub (.cons (.of_lk rfl) <| .cons (.of_lk rfl) <| .cons (.of_lk rfl) <| .cons (.of_lk rfl) <| .cons (.of_lk rfl) <| .cons (.of_lk rfl) <| .nil)).keep (.cons .here <| .nil)) ?_ ?_ ?_
      · clear h e17
        rintro _ ⟨y2, y3, y4⟩ lr h
        change chain_Formed_L1 p_chain p_label y2 y3 y4 = some _ at h
        show Run _ _ _ [(0, (sl u8).slot p_label), (5, val (.pointer (some ⟨b1, 0, none⟩))), (6, i64.slot y2), (17, (sl R_chain_Version).slot p_chain), (18, i64.slot (p_chain.length : Int)), (19, i64.slot y3)] [box b1 25 R_api_Hash y4]
        unfold chain_Formed_L1 at h
        refine run_seq ?_
        refine run_text ?_
        refine j_pure (pj_ilss (has_tmp rfl) (has_tmp rfl)) rfl rfl rfl ?_
        refine j_end ?_
        refine run_seq ?_
        refine run_cond (has_tmp rfl) (fun e5 => ?_) (fun e5 => ?_)
        · replace h := bt e5 h
          refine run_skip ?_
          refine run_seq ?_
          refine run_block ?_
          refine run_seq ?_
          refine run_text ?_
          refine j_pure (pj_move (has_tmp rfl)) rfl rfl rfl ?_
          obtain ⟨x1, e6, h⟩ := bind_some h
          refine j_pure (pj_index_slx (has_tmp rfl) (has_tmp rfl) isInt_i64 e6 (by kernel_rfl)) rfl rfl rfl ?_
          refine j_pure (pj_load_to (has_tmp rfl) (by kernel_rfl)) rfl rfl rfl ?_
          refine j_alloc (x := (0, 0, (Vector.replicate 32 (0#8)), (Vector.replicate 32 (0#8)), ([] : List (BitVec 8)))) (R := R_chain_Version) (zero_prod zero_i64 (zero_prod zero_i64 (zero_prod (zero_vec 32 zero_un) (zero_prod (zero_vec 32 zero_un) zero_sl)))) (by kernel_rfl) rfl fun b2 => ?_
          refine j_pure (pj_assign (has_tmp rfl)) rfl rfl rfl ?_
          refine j_store_boxx (r' := x1) (has_tmp rfl) (has_tmp rfl) .here (Path.all R_chain_Version) (by kernel_rfl) rfl ?_
          refine j_freezeTo (t := 8) .here (.of_lk rfl) ?_
          refine j_end ?_
          refine run_seq ?_
          refine run_seq ?_
          refine run_text ?_
          refine j_pure (pj_field_to (has_tmp rfl) (Path.fst i64 (prod i64 (prod R_api_Hash (prod R_api_Hash (sl u8))))) (by kernel_rfl)) rfl rfl rfl ?_
          refine j_pure (pj_load_to (has_tmp rfl) (by kernel_rfl)) rfl rfl rfl ?_
          refine j_pure (pj_move (has_tmp rfl)) rfl rfl rfl ?_
          refine j_pure (pj_iadd (has_tmp rfl) has_i64) rfl rfl rfl ?_
          refine j_pure (pj_ineq (has_tmp rfl) (has_tmp rfl)) rfl rfl rfl ?_
          refine j_pure (pj_move (has_tmp rfl)) rfl rfl rfl ?_
          obtain ⟨y5, e8, h⟩ := bind_some h
          refine j_joinx (ι := Unit) (Γ' := fun _ => [(0, (sl u8).slot p_label), (5, val (.pointer (some ⟨b1, 0, none⟩))), (8, ptrTo R_chain_Version x1), (17, (sl R_chain_Version).slot p_chain), (18, i64.slot (p_chain.length : Int)), (19, i64.slot y3), (34, bl.slot y5)]) (H' := fun _ => [box b1 25 R_api_Hash y4]) 5 ?_ fun J => ?_
          · intro _
            clear e8
            show OpsJ _ _ _ [(0, (sl u8).slot p_label), (5, val (.pointer (some ⟨b1, 0, none⟩))), (8, ptrTo R_chain_Version x1), (17, (sl R_chain_Version).slot p_chain), (18, i64.slot (p_chain.length : Int)), (19, i64.slot y3), (34, bl.slot y5)] [box b1 25 R_api_Hash y4] _
            refine j_pure (pj_move (has_tmp rfl)) rfl rfl rfl ?_
            obtain ⟨y6, e10, h⟩ := bind_some h
            refine j_joinx (ι := Unit) (Γ' := fun _ => [(0, (sl u8).slot p_label), (5, val (.pointer (some ⟨b1, 0, none⟩))), (8, ptrTo R_chain_Version x1), (17, (sl R_chain_Version).slot p_chain), (18, i64.slot (p_chain.length : Int)), (19, i64.slot y3), (39, bl.slot y6)]) (H' := fun _ => [box b1 25 R_api_Hash y4]) 4 ?_ fun J => ?_
            · intro _
              clear e10
              show OpsJ _ _ _ [(0, (sl u8).slot p_label), (5, val (.pointer (some ⟨b1, 0, none⟩))), (8, ptrTo R_chain_Version x1), (17, (sl R_chain_Version).slot p_chain), (18, i64.slot (p_chain.length : Int)), (19, i64.slot y3), (39, bl.slot y6)] [box b1 25 R_api_Hash y4] _
              refine j_pure (pj_move (has_tmp rfl)) rfl rfl rfl ?_
              obtain ⟨y7, e12, h⟩ := bind_some h
              refine j_joinx (ι := Unit) (Γ' := fun _ => [(0, (sl u8).slot p_label), (5, val (.pointer (some ⟨b1, 0, none⟩))), (8, ptrTo R_chain_Version x1), (17, (sl R_chain_Version).slot p_chain), (18, i64.slot (p_chain.length : Int)), (19, i64.slot y3), (45, bl.slot y7)]) (H' := fun _ => [box b1 25 R_api_Hash y4]) 5 ?_ fun J => ?_
              · intro _
                clear e12
                show OpsJ _ _ _ [(0, (sl u8).slot p_label), (5, val (.pointer (some ⟨b1, 0, none⟩))), (8, ptrTo R_chain_Version x1), (17, (sl R_chain_Version).slot p_chain), (18, i64.slot (p_chain.length : Int)), (19, i64.slot y3), (45, bl.slot y7)] [box b1 25 R_api_Hash y4] _
                refine j_pure (pj_move (has_tmp rfl)) rfl rfl rfl ?_
                obtain ⟨y8, e14, h⟩ := bind_some h
                refine j_joinx (ι := Unit) (Γ' := fun _ => [(0, (sl u8).slot p_label), (5, val (.pointer (some ⟨b1, 0, none⟩))), (8, ptrTo R_chain_Version x1), (17, (sl R_chain_Version).slot p_chain), (18, i64.slot (p_chain.length : Int)), (19, i64.slot y3), (51, bl.slot y8)]) (H' := fun _ => [box b1 25 R_api_Hash y4]) 5 ?_ fun J => ?_
                · intro _
                  clear e14
                  show OpsJ _ _ _ [(0, (sl u8).slot p_label), (5, val (.pointer (some ⟨b1, 0, none⟩))), (8, ptrTo R_chain_Version x1), (17, (sl R_chain_Version).slot p_chain), (18, i64.slot (p_chain.length : Int)), (19, i64.slot y3), (51, bl.slot y8)] [box b1 25 R_api_Hash y4] _
                  refine j_end ?_
                  refine run_cond (has_tmp rfl) (fun e15 => ?_) (fun e15 => ?_)
                  · replace h := bt e15 h
                    refine run_seq ?_
                    refine run_text ?_
                    refine j_pure (pj_assign has_bl) rfl rfl rfl ?_
                    refine j_end ?_
                    obtain rfl := Option.some.inj h
                    refine run_ret fun a w hst => ⟨rfl, fun hr => ?_⟩
                    subst hr
                    exact hq2 a w (q_ret1 hst rfl (.tmp rfl) () (fun _ _ h => h) (.nil))
                  · replace h := bf e15 h
                    refine run_skip ?_
                    obtain ⟨r2, e16, h⟩ := bind_some h
                    refine run_keep (H' := [box b1 25 R_api_Hash y4]) (.cons .here <| .nil) ?_
                    refine run_drawL (n := 6) (H := []) (Ls := [⟨[box b1 25 R_api_Hash y4], [(5, ⟨Unit, fun (_ : Unit) => [box b1 25 R_api_Hash r2], fun (_ : Unit) => []⟩)]⟩]) (by kernel_rfl) (by kernel_rfl) (by kernel_rfl) (by kernel_rfl) (by kernel_rfl) rfl (.read rfl (.plain rfl (pj_move (has_tmp rfl))) <| .read rfl (.plain rfl (pj_load_to (has_tmp rfl) (by kernel_rfl))) <| .read rfl (.plain rfl (pj_call (hasL_cons (has_tmp rfl) <| hasL_cons (has_tmp rfl) <| hasL_nil) (by kernel_rfl) (c_chain_Commit hg0 hg1 e16))) <| .read rfl (.plain rfl (pj_field_to (has_tmp rfl) (Path.then (Path.snd i64 (prod i64 (prod R_api_Hash (prod R_api_Hash (sl u8))))) (Path.fst i64 (prod R_api_Hash (prod R_api_Hash (sl u8))))) (by kernel_rfl))) <| .read rfl (.plain rfl (pj_load_to (has_tmp rfl) (by kernel_rfl))) <| .step 0 rfl .here rfl (fun i => ⟨_, _, fun _ => (), (w_store (r' := r2) (has_tmp rfl) (has_tmp rfl) .here (Path.all R_api_Hash) (by kernel_rfl) rfl), fun _ => rfl, (slotNo (s := any)), dst0⟩) <| .nil) ?_
                    rintro _
                    refine j_to (Γ' := [(0, (sl u8).slot p_label), (5, val (.pointer (some ⟨b1, 0, none⟩))), (17, (sl R_chain_Version).slot p_chain), (18, i64.slot (p_chain.length : Int)), (19, i64.slot y3), (56, i64.slot x1.2.1)]) (H' := [box b1 25 R_api_Hash r2]) (.cons (.of_lk rfl) <| .cons (.of_lk rfl) <| .cons (.of_lk rfl) <| .cons (.of_lk rfl) <| .cons (.of_lk rfl) <| .cons (.of_lk rfl) <| .nil) (.cons .here <| .nil) ?_
                    refine j_pure (pj_assign (has_tmp rfl)) rfl rfl rfl ?_
                    refine j_end ?_
                    refine run_endblock ?_
                    refine run_text ?_
                    refine j_pure (pj_iadd (has_tmp rfl) has_i64) rfl rfl rfl ?_
                    refine j_pure (pj_move (has_tmp rfl)) rfl rfl rfl ?_
                    refine j_end ?_
                    obtain rfl := Option.some.inj h
                    exact run_next () (.cons (.of_lk rfl) <| .cons (.of_lk rfl) <| .cons (.of_lk rfl) <| .cons (.of_lk rfl) <| .cons (.of_lk rfl) <| .cons (.of_lk rfl) <| .nil) (.cons .here <| .nil)
                · rcases bool_tf (y7) with e13 | e13
                  · replace e14 := bt e13 e14
                    refine j_guard_no2 (j := 22) (want := false) rfl rfl rfl rfl (bl_isx e13) rfl rfl rfl ?_
                    refine j_guard_no2 (j := 22) (want := false) rfl rfl rfl rfl (bl_isx e13) rfl rfl rfl ?_
                    refine j_guard_no2 (j := 22) (want := false) rfl rfl rfl rfl (bl_isx e13) rfl rfl rfl ?_
                    refine j_guard_no2 (j := 22) (want := false) rfl rfl rfl rfl (bl_isx e13) rfl rfl rfl ?_
                    refine j_pure (PJ.eqv (R := bl) (pj_pick (t := any) (has_tmp rfl) (fun _ => has_bl) (fun he => absurd (e13.symm.trans he) (by decide))) (Option.some.inj e14)) rfl rfl rfl ?_
                    exact j_to (.cons (.of_lk rfl) <| .cons (.of_lk rfl) <| .cons (.of_lk rfl) <| .cons (.of_lk rfl) <| .cons (.of_lk rfl) <| .cons (.of_lk rfl) <| .cons (.of_lk rfl) <| .nil) (.cons .here <| .nil) (J ())
                  · replace e14 := bf e13 e14
                    refine j_pure_y (pj_field_to (has_tmp rfl) (Path.then (Path.snd i64 (prod i64 (prod R_api_Hash (prod R_api_Hash (sl u8))))) (Path.then (Path.snd i64 (prod R_api_Hash (prod R_api_Hash (sl u8)))) (Path.then (Path.snd R_api_Hash (prod R_api_Hash (sl u8))) (Path.snd R_api_Hash (sl u8))))) (by kernel_rfl)) rfl rfl rfl rfl (bl_isx e13) rfl rfl ?_
                    refine j_pure_y (pj_load_to (has_tmp rfl) (by kernel_rfl)) rfl rfl rfl rfl (bl_isx e13) rfl rfl ?_
                    refine j_pure_y (pj_len_sl (sz := 1) (has_tmp rfl) (by kernel_rfl)) rfl rfl rfl rfl (bl_isx e13) rfl rfl ?_
                    refine j_pure_y (pj_igtr (has_tmp rfl) has_i64) rfl rfl rfl rfl (bl_isx e13) rfl rfl ?_
                    refine j_pure (PJ.eqv (R := bl) (pj_pick (t := any) (has_tmp rfl) (fun he => absurd (e13.symm.trans he) (by decide)) (fun _ => (has_tmp rfl))) (Option.some.inj e14)) rfl rfl rfl ?_
                    exact j_to (.cons (.of_lk rfl) <| .cons (.of_lk rfl) <| .cons (.of_lk rfl) <| .cons (.of_lk rfl) <| .cons (.of_lk rfl) <| .cons (.of_lk rfl) <| .cons (.of_lk rfl) <| .nil) (.cons .here <| .nil) (J ())
              · rcases bool_tf (y6) with e11 | e11
                · replace e12 := bt e11 e12
                  refine j_guard_no2 (j := 16) (want := false) rfl rfl rfl rfl (bl_isx e11) rfl rfl rfl ?_
                  refine j_guard_no2 (j := 16) (want := false) rfl rfl rfl rfl (bl_isx e11) rfl rfl rfl ?_
                  refine j_guard_no2 (j := 16) (want := false) rfl rfl rfl rfl (bl_isx e11) rfl rfl rfl ?_
                  refine j_guard_no2 (j := 16) (want := false) rfl rfl rfl rfl (bl_isx e11) rfl rfl rfl ?_
                  refine j_pure (PJ.eqv (R := bl) (pj_pick (t := any) (has_tmp rfl) (fun _ => has_bl) (fun he => absurd (e11.symm.trans he) (by decide))) (Option.some.inj e12)) rfl rfl rfl ?_
                  exact j_to (.cons (.of_lk rfl) <| .cons (.of_lk rfl) <| .cons (.of_lk rfl) <| .cons (.of_lk rfl) <| .cons (.of_lk rfl) <| .cons (.of_lk rfl) <| .cons (.of_lk rfl) <| .nil) (.cons .here <| .nil) (J ())
                · replace e12 := bf e11 e12
                  refine j_pure_y (pj_field_to (has_tmp rfl) (Path.then (Path.snd i64 (prod i64 (prod R_api_Hash (prod R_api_Hash (sl u8))))) (Path.then (Path.snd i64 (prod R_api_Hash (prod R_api_Hash (sl u8)))) (Path.then (Path.snd R_api_Hash (prod R_api_Hash (sl u8))) (Path.fst R_api_Hash (sl u8))))) (by kernel_rfl)) rfl rfl rfl rfl (bl_isx e11) rfl rfl ?_
                  refine j_pure_y (pj_load_to (has_tmp rfl) (by kernel_rfl)) rfl rfl rfl rfl (bl_isx e11) rfl rfl ?_
                  refine j_pure_y (pj_load_box (has_tmp rfl) .here (Path.all R_api_Hash) (by kernel_rfl)) rfl rfl rfl rfl (bl_isx e11) rfl rfl ?_
                  refine j_pure_y (pj_neq (n := 2) (eq_vec (e := 5) (by kernel_rfl) (by kernel_rfl) (eq_un (by kernel_rfl))) (by decide) rfl (by kernel_rfl) (has_tmp rfl) (has_tmp rfl)) rfl rfl rfl rfl (bl_isx e11) rfl rfl ?_
                  refine j_pure (PJ.eqv (R := bl) (pj_pick (t := any) (has_tmp rfl) (fun he => absurd (e11.symm.trans he) (by decide)) (fun _ => (has_tmp rfl))) (Option.some.inj e12)) rfl rfl rfl ?_
                  exact j_to (.cons (.of_lk rfl) <| .cons (.of_lk rfl) <| .cons (.of_lk rfl) <| .cons (.of_lk rfl) <| .cons (.of_lk rfl) <| .cons (.of_lk rfl) <| .cons (.of_lk rfl) <| .nil) (.cons .here <| .nil) (J ())
            · rcases bool_tf (y5) with e9 | e9
              · replace e10 := bt e9 e10
                refine j_guard_no2 (j := 11) (want := false) rfl rfl rfl rfl (bl_isx e9) rfl rfl rfl ?_
                refine j_guard_no2 (j := 11) (want := false) rfl rfl rfl rfl (bl_isx e9) rfl rfl rfl ?_
                refine j_guard_no2 (j := 11) (want := false) rfl rfl rfl rfl (bl_isx e9) rfl rfl rfl ?_
                refine j_pure (PJ.eqv (R := bl) (pj_pick (t := any) (has_tmp rfl) (fun _ => has_bl) (fun he => absurd (e9.symm.trans he) (by decide))) (Option.some.inj e10)) rfl rfl rfl ?_
                exact j_to (.cons (.of_lk rfl) <| .cons (.of_lk rfl) <| .cons (.of_lk rfl) <| .cons (.of_lk rfl) <| .cons (.of_lk rfl) <| .cons (.of_lk rfl) <| .cons (.of_lk rfl) <| .nil) (.cons .here <| .nil) (J ())
              · replace e10 := bf e9 e10
                refine j_pure_y (pj_field_to (has_tmp rfl) (Path.then (Path.snd i64 (prod i64 (prod R_api_Hash (prod R_api_Hash (sl u8))))) (Path.fst i64 (prod R_api_Hash (prod R_api_Hash (sl u8))))) (by kernel_rfl)) rfl rfl rfl rfl (bl_isx e9) rfl rfl ?_
                refine j_pure_y (pj_load_to (has_tmp rfl) (by kernel_rfl)) rfl rfl rfl rfl (bl_isx e9) rfl rfl ?_
                refine j_pure_y (pj_igeq (has_tmp rfl) has_i64) rfl rfl rfl rfl (bl_isx e9) rfl rfl ?_
                refine j_pure (PJ.eqv (R := bl) (pj_pick (t := any) (has_tmp rfl) (fun he => absurd (e9.symm.trans he) (by decide)) (fun _ => (has_tmp rfl))) (Option.some.inj e10)) rfl rfl rfl ?_
                exact j_to (.cons (.of_lk rfl) <| .cons (.of_lk rfl) <| .cons (.of_lk rfl) <| .cons (.of_lk rfl) <| .cons (.of_lk rfl) <| .cons (.of_lk rfl) <| .cons (.of_lk rfl) <| .nil) (.cons .here <| .nil) (J ())
          · rcases bool_tf (!decide (x1.1 = (w64 (y3 + (1 : Int))))) with e7 | e7
            · replace e8 := bt e7 e8
              refine j_guard_no2 (j := 5) (want := false) rfl rfl rfl rfl (bl_isx e7) rfl rfl rfl ?_
              refine j_guard_no2 (j := 5) (want := false) rfl rfl rfl rfl (bl_isx e7) rfl rfl rfl ?_
              refine j_guard_no2 (j := 5) (want := false) rfl rfl rfl rfl (bl_isx e7) rfl rfl rfl ?_
              refine j_guard_no2 (j := 5) (want := false) rfl rfl rfl rfl (bl_isx e7) rfl rfl rfl ?_
              refine j_pure (PJ.eqv (R := bl) (pj_pick (t := any) (has_tmp rfl) (fun _ => has_bl) (fun he => absurd (e7.symm.trans he) (by decide))) (Option.some.inj e8)) rfl rfl rfl ?_
              exact j_to (.cons (.of_lk rfl) <| .cons (.of_lk rfl) <| .cons (.of_lk rfl) <| .cons (.of_lk rfl) <| .cons (.of_lk rfl) <| .cons (.of_lk rfl) <| .cons (.of_lk rfl) <| .nil) (.cons .here <| .nil) (J ())
            · replace e8 := bf e7 e8
              refine j_pure_y (pj_field_to (has_tmp rfl) (Path.then (Path.snd i64 (prod i64 (prod R_api_Hash (prod R_api_Hash (sl u8))))) (Path.fst i64 (prod R_api_Hash (prod R_api_Hash (sl u8))))) (by kernel_rfl)) rfl rfl rfl rfl (bl_isx e7) rfl rfl ?_
              refine j_pure_y (pj_load_to (has_tmp rfl) (by kernel_rfl)) rfl rfl rfl rfl (bl_isx e7) rfl rfl ?_
              refine j_pure_y (pj_move (has_tmp rfl)) rfl rfl rfl rfl (bl_isx e7) rfl rfl ?_
              refine j_pure_y (pj_ileq (has_tmp rfl) (has_tmp rfl)) rfl rfl rfl rfl (bl_isx e7) rfl rfl ?_
              refine j_pure (PJ.eqv (R := bl) (pj_pick (t := any) (has_tmp rfl) (fun he => absurd (e7.symm.trans he) (by decide)) (fun _ => (has_tmp rfl))) (Option.some.inj e8)) rfl rfl rfl ?_
              exact j_to (.cons (.of_lk rfl) <| .cons (.of_lk rfl) <| .cons (.of_lk rfl) <| .cons (.of_lk rfl) <| .cons (.of_lk rfl) <| .cons (.of_lk rfl) <| .cons (.of_lk rfl) <| .nil) (.cons .here <| .nil) (J ())
        · replace h := bf e5 h
          obtain rfl := Option.some.inj h
          exact run_brk () (.cons (.of_lk rfl) <| .cons (.of_lk rfl) <| .cons (.of_lk rfl) <| .cons (.of_lk rfl) <| .cons (.of_lk rfl) <| .cons (.of_lk rfl) <| .nil) (.cons .here <| .nil)
      · rintro _ ⟨y9, y10, y11⟩ ho
        subst ho
        show Run _ _ _ [(0, (sl u8).slot p_label), (5, val (.pointer (some ⟨b1, 0, none⟩))), (6, i64.slot y9), (17, (sl R_chain_Version).slot p_chain), (18, i64.slot (p_chain.length : Int)), (19, i64.slot y10)] [box b1 25 R_api_Hash y11]
        refine run_to (Γ' := []) (H' := []) (.nil) (.nil) ?_
        refine run_seq ?_
        refine run_text ?_
        refine j_pure (pj_assign has_bl) rfl rfl rfl ?_
        refine j_end ?_
        obtain rfl := Option.some.inj h
        exact run_ret fun a w hst => q_ret1 hst rfl (.tmp rfl) () (fun _ _ h => h) (.nil)
      · intro x a w ho hR
        subst ho
        exact hq1 a w (hR (Option.some.inj h))
  · rcases bool_tf (!r1) with e2 | e2
    · replace e3 := bt e2 e3
      refine j_guard_no2 (j := 3) (want := false) rfl rfl rfl rfl (bl_isx e2) rfl rfl rfl ?_
      refine j_guard_no2 (j := 3) (want := false) rfl rfl rfl rfl (bl_isx e2) rfl rfl rfl ?_
      refine j_guard_no2 (j := 3) (want := false) rfl rfl rfl rfl (bl_isx e2) rfl rfl rfl ?_
      refine j_pure (PJ.eqv (R := bl) (pj_pick (t := any) (has_tmp rfl) (fun _ => has_bl) (fun he => absurd (e2.symm.trans he) (by decide))) (Option.some.inj e3)) rfl rfl rfl ?_
      exact j_to (.cons (.of_lk rfl) <| .cons (.of_lk rfl) <| .cons (.of_lk rfl) <| .nil) (.nil) (J ())
    · replace e3 := bf e2 e3
      refine j_pure_y (pj_move (has_tmp rfl)) rfl rfl rfl rfl (bl_isx e2) rfl rfl ?_
      refine j_pure_y (pj_len_sl (sz := 67) (has_tmp rfl) (by kernel_rfl)) rfl rfl rfl rfl (bl_isx e2) rfl rfl ?_
      refine j_pure_y (pj_ieql (has_tmp rfl) has_i64) rfl rfl rfl rfl (bl_isx e2) rfl rfl ?_
      refine j_pure (PJ.eqv (R := bl) (pj_pick (t := any) (has_tmp rfl) (fun he => absurd (e2.symm.trans he) (by decide)) (fun _ => (has_tmp rfl))) (Option.some.inj e3)) rfl rfl rfl ?_
      exact j_to (.cons (.of_lk rfl) <| .cons (.of_lk rfl) <| .cons (.of_lk rfl) <| .nil) (.nil) (J ())
set_option maxRecDepth 100000 in
set_option maxHeartbeats 4000000 in
theorem c_monitor_Monitor_formed {G : GP} (hg0 : HG0 G) (hg1 : HG1 G) {p_w : (List (BitVec 8)) × Int × (List T_chain_Version)} {p_f : T_session_Found} {b_w : Nat} {c_w : List Value} {r : Bool} (h : monitor_Monitor_formed p_w p_f = some r) : Ctr Tryd.prog G 60 [val (.pointer (some ⟨b_w, 0, none⟩)), R_session_Found.slot p_f] [box b_w 97 (exr (prod (sl u8) (prod i64 (sl R_chain_Version))) c_w) (p_w.1, p_w.2.1, p_w.2.2)] (fun (_ : Unit) => bl.slot r) (fun (_ : Unit) => [box b_w 97 (exr (prod (sl u8) (prod i64 (sl R_chain_Version))) c_w) (p_w.1, p_w.2.1, p_w.2.2)]) := by
  unfold monitor_Monitor_formed at h
  refine ctr_of_run Tryd.func60 rfl 32 rfl rfl fun m0 w0 b0 => ?_
  show Run _ _ _ [(0, val (.pointer (some ⟨b_w, 0, none⟩))), (1, R_session_Found.slot p_f)] _
  refine run_seq ?_
  refine run_text ?_
  refine j_pure (PJ.xw (.ex .refl) (pj_box_to (has_tmp rfl))) rfl rfl rfl ?_
  refine j_pure (PJ.xw (.ex .refl) (pj_assign has_bl)) rfl rfl rfl ?_
  refine j_end ?_
  refine run_seq ?_
  refine run_text ?_
  refine j_pure (PJ.xw (.ex .refl) (pj_field_to (has_tmp rfl) (Path.then (Path.snd (sl u8) (prod i64 (prod R_head_Head (sl R_chain_Version)))) (Path.then (Path.snd i64 (prod R_head_Head (sl R_chain_Version))) (Path.snd R_head_Head (sl R_chain_Version)))) (by kernel_rfl))) rfl rfl rfl ?_
  refine j_pure (PJ.xw (.ex .refl) (pj_load_to (has_tmp rfl) (by kernel_rfl))) rfl rfl rfl ?_
  refine j_pure (PJ.xw (.ex .refl) (pj_len_sl (sz := 67) (has_tmp rfl) (by kernel_rfl))) rfl rfl rfl ?_
  refine j_pure (PJ.xw (.ex .refl) (pj_assign (has_tmp rfl))) rfl rfl rfl ?_
  refine j_end ?_
  refine run_seq ?_
  obtain ⟨y1, e2, h⟩ := bind_some h
  refine (run_drawJ (n := 23) (Γ' := [(31, bl.slot y1)]) (H' := [box b_w 97 (exr (prod (sl u8) (prod i64 (sl R_chain_Version))) c_w) (p_w.1, p_w.2.1, p_w.2.2)]) ?_ fun J => ?_)
  · clear e2
    refine j_pure (PJ.xw (.ex .refl) (pj_assign (has_tmp rfl))) rfl rfl rfl ?_
    refine j_end ?_
    obtain rfl := Option.some.inj h
    exact run_ret fun a w hst => q_ret1 hst rfl (.tmp rfl) () (fun _ _ h => h) (.cons .here <| .nil)
  · rcases bool_tf (decide ((p_f.2.2.2.length : Int) = (0 : Int))) with e1 | e1
    · replace e2 := bt e1 e2
      exact run_draw (n := 23) (by kernel_rfl) (by kernel_rfl) (by kernel_rfl) (by kernel_rfl) (.read (.plain rfl (PJ.xw (.ex .refl) (pj_move (has_tmp rfl)))) <| .read (.plain rfl (PJ.xw (.ex .refl) (pj_ieql (has_tmp rfl) has_i64))) <| .read (.plain rfl (PJ.xw (.ex .refl) (pj_move (has_tmp rfl)))) <| .read (.no ⟨2, false, _, 11, _, rfl, rfl, rfl, fun _ _ => bl_p.1, gd_no e1⟩) <| .read (.no ⟨2, false, _, 11, _, rfl, rfl, rfl, fun _ _ => bl_p.1, gd_no e1⟩) <| .read (.no ⟨2, false, _, 11, _, rfl, rfl, rfl, fun _ _ => bl_p.1, gd_no e1⟩) <| .read (.no ⟨2, false, _, 11, _, rfl, rfl, rfl, fun _ _ => bl_p.1, gd_no e1⟩) <| .read (.no ⟨2, false, _, 11, _, rfl, rfl, rfl, fun _ _ => bl_p.1, gd_no e1⟩) <| .read (.no ⟨2, false, _, 11, _, rfl, rfl, rfl, fun _ _ => bl_p.1, gd_no e1⟩) <| .read (.no ⟨2, false, _, 11, _, rfl, rfl, rfl, fun _ _ => bl_p.1, gd_no e1⟩) <| .read (.no ⟨2, false, _, 11, _, rfl, rfl, rfl, fun _ _ => bl_p.1, gd_no e1⟩) <| .read (.undef ⟨10, true, 19, rfl, rfl, rfl⟩) <| .read (.undef ⟨10, true, 19, rfl, rfl, rfl⟩) <| .read (.undef ⟨10, true, 19, rfl, rfl, rfl⟩) <| .read (.undef ⟨10, true, 19, rfl, rfl, rfl⟩) <| .read (.undef ⟨10, true, 19, rfl, rfl, rfl⟩) <| .read (.undef ⟨10, true, 19, rfl, rfl, rfl⟩) <| .read (.undef ⟨10, true, 19, rfl, rfl, rfl⟩) <| .read (.undef ⟨10, true, 19, rfl, rfl, rfl⟩) <| .read (.undef ⟨10, true, 19, rfl, rfl, rfl⟩) <| .read (.undef ⟨10, true, 19, rfl, rfl, rfl⟩) <| .read (.no ⟨2, false, _, 11, _, rfl, rfl, rfl, fun _ _ => bl_p.1, gd_no e1⟩) <| .read (.plain rfl (PJ.eqv (R := bl) (pj_pick (t := any) (has_tmp rfl) (fun _ => has_bl) (fun he => absurd (e1.symm.trans he) (by decide))) (Option.some.inj e2))) <| .nil) (j_to (Γ' := [(31, bl.slot y1)]) (H' := [box b_w 97 (exr (prod (sl u8) (prod i64 (sl R_chain_Version))) c_w) (p_w.1, p_w.2.1, p_w.2.2)]) (.cons (.of_lk rfl) <| .nil) (.cons .here <| .nil) J)
    · replace e2 := bf e1 e2
      obtain ⟨r1, e3, e2⟩ := bind_some e2
      obtain ⟨y2, e5, e2⟩ := bind_some e2
      rcases bool_tf (r1) with e4 | e4
      · replace e5 := bt e4 e5
        obtain ⟨x1, e6, e5⟩ := bind_some e5
        exact run_draw (n := 23) (by kernel_rfl) (by kernel_rfl) (by kernel_rfl) (by kernel_rfl) (.read (.plain rfl (PJ.xw (.ex .refl) (pj_move (has_tmp rfl)))) <| .read (.plain rfl (PJ.xw (.ex .refl) (pj_ieql (has_tmp rfl) has_i64))) <| .read (.plain rfl (PJ.xw (.ex .refl) (pj_move (has_tmp rfl)))) <| .read (.yes ⟨2, false, _, 11, _, rfl, rfl, rfl, fun _ _ => bl_p.1, gd_yes e1⟩ (PJ.xw (.ex .refl) (pj_move (has_tmp rfl)))) <| .read (.yes ⟨2, false, _, 11, _, rfl, rfl, rfl, fun _ _ => bl_p.1, gd_yes e1⟩ (PJ.xw (.ex .refl) (pj_nilCheck_ptr (has_tmp rfl)))) <| .read (.yes ⟨2, false, _, 11, _, rfl, rfl, rfl, fun _ _ => bl_p.1, gd_yes e1⟩ (PJ.xw (.ex .refl) (pj_field_ptr (off := 0) (has_tmp rfl) (by kernel_rfl)))) <| .read (.yes ⟨2, false, _, 11, _, rfl, rfl, rfl, fun _ _ => bl_p.1, gd_yes e1⟩ (PJ.xw (.ex .refl) (pj_load_box (has_tmp rfl) .here (Path.then (Path.all (prod (sl u8) (prod i64 (sl R_chain_Version)))) (Path.fst (sl u8) (prod i64 (sl R_chain_Version)))) (by kernel_rfl)))) <| .read (.yes ⟨2, false, _, 11, _, rfl, rfl, rfl, fun _ _ => bl_p.1, gd_yes e1⟩ (PJ.xw (.ex .refl) (pj_field_to (has_tmp rfl) (Path.then (Path.snd (sl u8) (prod i64 (prod R_head_Head (sl R_chain_Version)))) (Path.then (Path.snd i64 (prod R_head_Head (sl R_chain_Version))) (Path.snd R_head_Head (sl R_chain_Version)))) (by kernel_rfl)))) <| .read (.yes ⟨2, false, _, 11, _, rfl, rfl, rfl, fun _ _ => bl_p.1, gd_yes e1⟩ (PJ.xw (.ex .refl) (pj_load_to (has_tmp rfl) (by kernel_rfl)))) <| .read (.yes ⟨2, false, _, 11, _, rfl, rfl, rfl, fun _ _ => bl_p.1, gd_yes e1⟩ (PJ.xw (.ex .refl) (pj_call (hasL_cons (has_tmp rfl) <| hasL_cons (has_tmp rfl) <| hasL_nil) (by kernel_rfl) (c_chain_Formed hg0 hg1 e3)))) <| .read (.yes ⟨2, false, _, 11, _, rfl, rfl, rfl, fun _ _ => bl_p.1, gd_yes e1⟩ (PJ.xw (.ex .refl) (pj_move (has_tmp rfl)))) <| .read (.yes ⟨10, true, _, 19, _, rfl, rfl, rfl, fun _ _ => bl_p.1, gd_yes e4⟩ (PJ.xw (.ex .refl) (pj_field_to (has_tmp rfl) (Path.then (Path.snd (sl u8) (prod i64 (prod R_head_Head (sl R_chain_Version)))) (Path.then (Path.snd i64 (prod R_head_Head (sl R_chain_Version))) (Path.snd R_head_Head (sl R_chain_Version)))) (by kernel_rfl)))) <| .read (.yes ⟨10, true, _, 19, _, rfl, rfl, rfl, fun _ _ => bl_p.1, gd_yes e4⟩ (PJ.xw (.ex .refl) (pj_load_to (has_tmp rfl) (by kernel_rfl)))) <| .read (.yes ⟨10, true, _, 19, _, rfl, rfl, rfl, fun _ _ => bl_p.1, gd_yes e4⟩ (PJ.xw (.ex .refl) (pj_move (has_tmp rfl)))) <| .read (.yes ⟨10, true, _, 19, _, rfl, rfl, rfl, fun _ _ => bl_p.1, gd_yes e4⟩ (PJ.xw (.ex .refl) (pj_isub (has_tmp rfl) has_i64))) <| .read (.yes ⟨10, true, _, 19, _, rfl, rfl, rfl, fun _ _ => bl_p.1, gd_yes e4⟩ (PJ.xw (.ex .refl) (pj_index_slx (has_tmp rfl) (has_tmp rfl) isInt_i64 e6 (by kernel_rfl)))) <| .read (.yes ⟨10, true, _, 19, _, rfl, rfl, rfl, fun _ _ => bl_p.1, gd_yes e4⟩ (PJ.xw (.ex .refl) (pj_field_to (has_tmp rfl) (Path.then (Path.snd i64 (prod i64 (prod R_api_Hash (prod R_api_Hash (sl u8))))) (Path.fst i64 (prod R_api_Hash (prod R_api_Hash (sl u8))))) (by kernel_rfl)))) <| .read (.yes ⟨10, true, _, 19, _, rfl, rfl, rfl, fun _ _ => bl_p.1, gd_yes e4⟩ (PJ.xw (.ex .refl) (pj_load_to (has_tmp rfl) (by kernel_rfl)))) <| .read (.yes ⟨10, true, _, 19, _, rfl, rfl, rfl, fun _ _ => bl_p.1, gd_yes e4⟩ (PJ.xw (.ex .refl) (pj_field_to (has_tmp rfl) (Path.then (Path.snd (sl u8) (prod i64 (prod R_head_Head (sl R_chain_Version)))) (Path.fst i64 (prod R_head_Head (sl R_chain_Version)))) (by kernel_rfl)))) <| .read (.yes ⟨10, true, _, 19, _, rfl, rfl, rfl, fun _ _ => bl_p.1, gd_yes e4⟩ (PJ.xw (.ex .refl) (pj_load_to (has_tmp rfl) (by kernel_rfl)))) <| .read (.yes ⟨10, true, _, 19, _, rfl, rfl, rfl, fun _ _ => bl_p.1, gd_yes e4⟩ (PJ.xw (.ex .refl) (pj_ileq (has_tmp rfl) (has_tmp rfl)))) <| .read (.yes ⟨2, false, _, 11, _, rfl, rfl, rfl, fun _ _ => bl_p.1, gd_yes e1⟩ (PJ.eqv (R := bl) (pj_pick (t := any) (has_tmp rfl) (fun _ => (has_tmp rfl)) (fun he => absurd (e4.symm.trans he) (by decide))) (Option.some.inj e5))) <| .read (.plain rfl (PJ.eqv (R := bl) (pj_pick (t := any) (has_tmp rfl) (fun he => absurd (e1.symm.trans he) (by decide)) (fun _ => (has_tmp rfl))) (Option.some.inj e2))) <| .nil) (j_to (Γ' := [(31, bl.slot y1)]) (H' := [box b_w 97 (exr (prod (sl u8) (prod i64 (sl R_chain_Version))) c_w) (p_w.1, p_w.2.1, p_w.2.2)]) (.cons (.of_lk rfl) <| .nil) (.cons .here <| .nil) J)
      · replace e5 := bf e4 e5
        exact run_draw (n := 23) (by kernel_rfl) (by kernel_rfl) (by kernel_rfl) (by kernel_rfl) (.read (.plain rfl (PJ.xw (.ex .refl) (pj_move (has_tmp rfl)))) <| .read (.plain rfl (PJ.xw (.ex .refl) (pj_ieql (has_tmp rfl) has_i64))) <| .read (.plain rfl (PJ.xw (.ex .refl) (pj_move (has_tmp rfl)))) <| .read (.yes ⟨2, false, _, 11, _, rfl, rfl, rfl, fun _ _ => bl_p.1, gd_yes e1⟩ (PJ.xw (.ex .refl) (pj_move (has_tmp rfl)))) <| .read (.yes ⟨2, false, _, 11, _, rfl, rfl, rfl, fun _ _ => bl_p.1, gd_yes e1⟩ (PJ.xw (.ex .refl) (pj_nilCheck_ptr (has_tmp rfl)))) <| .read (.yes ⟨2, false, _, 11, _, rfl, rfl, rfl, fun _ _ => bl_p.1, gd_yes e1⟩ (PJ.xw (.ex .refl) (pj_field_ptr (off := 0) (has_tmp rfl) (by kernel_rfl)))) <| .read (.yes ⟨2, false, _, 11, _, rfl, rfl, rfl, fun _ _ => bl_p.1, gd_yes e1⟩ (PJ.xw (.ex .refl) (pj_load_box (has_tmp rfl) .here (Path.then (Path.all (prod (sl u8) (prod i64 (sl R_chain_Version)))) (Path.fst (sl u8) (prod i64 (sl R_chain_Version)))) (by kernel_rfl)))) <| .read (.yes ⟨2, false, _, 11, _, rfl, rfl, rfl, fun _ _ => bl_p.1, gd_yes e1⟩ (PJ.xw (.ex .refl) (pj_field_to (has_tmp rfl) (Path.then (Path.snd (sl u8) (prod i64 (prod R_head_Head (sl R_chain_Version)))) (Path.then (Path.snd i64 (prod R_head_Head (sl R_chain_Version))) (Path.snd R_head_Head (sl R_chain_Version)))) (by kernel_rfl)))) <| .read (.yes ⟨2, false, _, 11, _, rfl, rfl, rfl, fun _ _ => bl_p.1, gd_yes e1⟩ (PJ.xw (.ex .refl) (pj_load_to (has_tmp rfl) (by kernel_rfl)))) <| .read (.yes ⟨2, false, _, 11, _, rfl, rfl, rfl, fun _ _ => bl_p.1, gd_yes e1⟩ (PJ.xw (.ex .refl) (pj_call (hasL_cons (has_tmp rfl) <| hasL_cons (has_tmp rfl) <| hasL_nil) (by kernel_rfl) (c_chain_Formed hg0 hg1 e3)))) <| .read (.yes ⟨2, false, _, 11, _, rfl, rfl, rfl, fun _ _ => bl_p.1, gd_yes e1⟩ (PJ.xw (.ex .refl) (pj_move (has_tmp rfl)))) <| .read (.no ⟨10, true, _, 19, _, rfl, rfl, rfl, fun _ _ => bl_p.1, gd_no e4⟩) <| .read (.no ⟨10, true, _, 19, _, rfl, rfl, rfl, fun _ _ => bl_p.1, gd_no e4⟩) <| .read (.no ⟨10, true, _, 19, _, rfl, rfl, rfl, fun _ _ => bl_p.1, gd_no e4⟩) <| .read (.no ⟨10, true, _, 19, _, rfl, rfl, rfl, fun _ _ => bl_p.1, gd_no e4⟩) <| .read (.no ⟨10, true, _, 19, _, rfl, rfl, rfl, fun _ _ => bl_p.1, gd_no e4⟩) <| .read (.no ⟨10, true, _, 19, _, rfl, rfl, rfl, fun _ _ => bl_p.1, gd_no e4⟩) <| .read (.no ⟨10, true, _, 19, _, rfl, rfl, rfl, fun _ _ => bl_p.1, gd_no e4⟩) <| .read (.no ⟨10, true, _, 19, _, rfl, rfl, rfl, fun _ _ => bl_p.1, gd_no e4⟩) <| .read (.no ⟨10, true, _, 19, _, rfl, rfl, rfl, fun _ _ => bl_p.1, gd_no e4⟩) <| .read (.no ⟨10, true, _, 19, _, rfl, rfl, rfl, fun _ _ => bl_p.1, gd_no e4⟩) <| .read (.yes ⟨2, false, _, 11, _, rfl, rfl, rfl, fun _ _ => bl_p.1, gd_yes e1⟩ (PJ.eqv (R := bl) (pj_pick (t := any) (has_tmp rfl) (fun he => absurd (e4.symm.trans he) (by decide)) (fun _ => has_bl)) (Option.some.inj e5))) <| .read (.plain rfl (PJ.eqv (R := bl) (pj_pick (t := any) (has_tmp rfl) (fun he => absurd (e1.symm.trans he) (by decide)) (fun _ => (has_tmp rfl))) (Option.some.inj e2))) <| .nil) (j_to (Γ' := [(31, bl.slot y1)]) (H' := [box b_w 97 (exr (prod (sl u8) (prod i64 (sl R_chain_Version))) c_w) (p_w.1, p_w.2.1, p_w.2.2)]) (.cons (.of_lk rfl) <| .nil) (.cons .here <| .nil) J)
set_option maxRecDepth 100000 in
set_option maxHeartbeats 4000000 in
theorem c_monitor_same {G : GP} {p_a : T_chain_Version} {p_b : T_chain_Version} {r : Bool} (h : monitor_same p_a p_b = some r) : Ctr Tryd.prog G 62 [R_chain_Version.slot p_a, R_chain_Version.slot p_b] [] (fun (_ : Unit) => bl.slot r) (fun (_ : Unit) => []) := by
  unfold monitor_same at h
  refine ctr_of_run Tryd.func62 rfl 38 rfl rfl fun m0 w0 b0 => ?_
  show Run _ _ _ [(0, R_chain_Version.slot p_a), (1, R_chain_Version.slot p_b)] _
  refine run_seq ?_
  refine run_text ?_
  refine j_pure (pj_box_to (has_tmp rfl)) rfl rfl rfl ?_
  refine j_pure (pj_box_to (has_tmp rfl)) rfl rfl rfl ?_
  refine j_pure (pj_assign has_bl) rfl rfl rfl ?_
  refine j_end ?_
  refine run_seq ?_
  refine run_text ?_
  refine j_pure (pj_field_to (has_tmp rfl) (Path.fst i64 (prod i64 (prod R_api_Hash (prod R_api_Hash (sl u8))))) (by kernel_rfl)) rfl rfl rfl ?_
  refine j_pure (pj_load_to (has_tmp rfl) (by kernel_rfl)) rfl rfl rfl ?_
  refine j_pure (pj_field_to (has_tmp rfl) (Path.fst i64 (prod i64 (prod R_api_Hash (prod R_api_Hash (sl u8))))) (by kernel_rfl)) rfl rfl rfl ?_
  refine j_pure (pj_load_to (has_tmp rfl) (by kernel_rfl)) rfl rfl rfl ?_
  refine j_pure (pj_ieql (has_tmp rfl) (has_tmp rfl)) rfl rfl rfl ?_
  refine j_pure (pj_move (has_tmp rfl)) rfl rfl rfl ?_
  obtain ⟨y1, e2, h⟩ := bind_some h
  refine j_joinx (ι := Unit) (Γ' := fun _ => [(2, ptrTo R_chain_Version p_a), (3, ptrTo R_chain_Version p_b), (16, bl.slot y1)]) (H' := fun _ => []) 6 ?_ fun J => ?_
  · intro _
    clear e2
    show OpsJ _ _ _ [(2, ptrTo R_chain_Version p_a), (3, ptrTo R_chain_Version p_b), (16, bl.slot y1)] [] _
    refine j_pure (pj_move (has_tmp rfl)) rfl rfl rfl ?_
    obtain ⟨y2, e4, h⟩ := bind_some h
    refine j_joinx (ι := Unit) (Γ' := fun _ => [(2, ptrTo R_chain_Version p_a), (3, ptrTo R_chain_Version p_b), (23, bl.slot y2)]) (H' := fun _ => []) 6 ?_ fun J => ?_
    · intro _
      clear e4
      show OpsJ _ _ _ [(2, ptrTo R_chain_Version p_a), (3, ptrTo R_chain_Version p_b), (23, bl.slot y2)] [] _
      refine j_pure (pj_move (has_tmp rfl)) rfl rfl rfl ?_
      obtain ⟨y3, e6, h⟩ := bind_some h
      refine j_joinx (ι := Unit) (Γ' := fun _ => [(2, ptrTo R_chain_Version p_a), (3, ptrTo R_chain_Version p_b), (30, bl.slot y3)]) (H' := fun _ => []) 6 ?_ fun J => ?_
      · intro _
        clear e6
        show OpsJ _ _ _ [(2, ptrTo R_chain_Version p_a), (3, ptrTo R_chain_Version p_b), (30, bl.slot y3)] [] _
        refine j_pure (pj_move (has_tmp rfl)) rfl rfl rfl ?_
        obtain ⟨y4, e8, h⟩ := bind_some h
        refine j_joinx (ι := Unit) (Γ' := fun _ => [(37, bl.slot y4)]) (H' := fun _ => []) 6 ?_ fun J => ?_
        · intro _
          clear e8
          show OpsJ _ _ _ [(37, bl.slot y4)] [] _
          refine j_pure (pj_assign (has_tmp rfl)) rfl rfl rfl ?_
          refine j_end ?_
          obtain rfl := Option.some.inj h
          exact run_ret fun a w hst => q_ret1 hst rfl (.tmp rfl) () (fun _ _ h => h) (.nil)
        · rcases bool_tf (y3) with e7 | e7
          · replace e8 := bt e7 e8
            refine j_pure_y (pj_field_to (has_tmp rfl) (Path.then (Path.snd i64 (prod i64 (prod R_api_Hash (prod R_api_Hash (sl u8))))) (Path.then (Path.snd i64 (prod R_api_Hash (prod R_api_Hash (sl u8)))) (Path.then (Path.snd R_api_Hash (prod R_api_Hash (sl u8))) (Path.snd R_api_Hash (sl u8))))) (by kernel_rfl)) rfl rfl rfl rfl (bl_isx e7) rfl rfl ?_
            refine j_pure_y (pj_load_to (has_tmp rfl) (by kernel_rfl)) rfl rfl rfl rfl (bl_isx e7) rfl rfl ?_
            refine j_pure_y (pj_field_to (has_tmp rfl) (Path.then (Path.snd i64 (prod i64 (prod R_api_Hash (prod R_api_Hash (sl u8))))) (Path.then (Path.snd i64 (prod R_api_Hash (prod R_api_Hash (sl u8)))) (Path.then (Path.snd R_api_Hash (prod R_api_Hash (sl u8))) (Path.snd R_api_Hash (sl u8))))) (by kernel_rfl)) rfl rfl rfl rfl (bl_isx e7) rfl rfl ?_
            refine j_pure_y (pj_load_to (has_tmp rfl) (by kernel_rfl)) rfl rfl rfl rfl (bl_isx e7) rfl rfl ?_
            obtain ⟨r1, e9, e8⟩ := bind_some e8
            refine j_pure_y (pj_call (hasL_cons (has_tmp rfl) <| hasL_cons (has_tmp rfl) <| hasL_nil) (by kernel_rfl) (c_bytes_Equal e9)) rfl rfl rfl rfl (bl_isx e7) rfl rfl ?_
            refine j_pure (PJ.eqv (R := bl) (pj_pick (t := any) (has_tmp rfl) (fun _ => (has_tmp rfl)) (fun he => absurd (e7.symm.trans he) (by decide))) (Option.some.inj e8)) rfl rfl rfl ?_
            exact j_to (.cons (.of_lk rfl) <| .nil) (.nil) (J ())
          · replace e8 := bf e7 e8
            refine j_guard_no2 (j := 26) (want := true) rfl rfl rfl rfl (bl_isx e7) rfl rfl rfl ?_
            refine j_guard_no2 (j := 26) (want := true) rfl rfl rfl rfl (bl_isx e7) rfl rfl rfl ?_
            refine j_guard_no2 (j := 26) (want := true) rfl rfl rfl rfl (bl_isx e7) rfl rfl rfl ?_
            refine j_guard_no2 (j := 26) (want := true) rfl rfl rfl rfl (bl_isx e7) rfl rfl rfl ?_
            refine j_guard_no2 (j := 26) (want := true) rfl rfl rfl rfl (bl_isx e7) rfl rfl rfl ?_
            refine j_pure (PJ.eqv (R := bl) (pj_pick (t := any) (has_tmp rfl) (fun he => absurd (e7.symm.trans he) (by decide)) (fun _ => has_bl)) (Option.some.inj e8)) rfl rfl rfl ?_
            exact j_to (.cons (.of_lk rfl) <| .nil) (.nil) (J ())
      · rcases bool_tf (y2) with e5 | e5
        · replace e6 := bt e5 e6
          refine j_pure_y (pj_field_to (has_tmp rfl) (Path.then (Path.snd i64 (prod i64 (prod R_api_Hash (prod R_api_Hash (sl u8))))) (Path.then (Path.snd i64 (prod R_api_Hash (prod R_api_Hash (sl u8)))) (Path.then (Path.snd R_api_Hash (prod R_api_Hash (sl u8))) (Path.fst R_api_Hash (sl u8))))) (by kernel_rfl)) rfl rfl rfl rfl (bl_isx e5) rfl rfl ?_
          refine j_pure_y (pj_load_to (has_tmp rfl) (by kernel_rfl)) rfl rfl rfl rfl (bl_isx e5) rfl rfl ?_
          refine j_pure_y (pj_field_to (has_tmp rfl) (Path.then (Path.snd i64 (prod i64 (prod R_api_Hash (prod R_api_Hash (sl u8))))) (Path.then (Path.snd i64 (prod R_api_Hash (prod R_api_Hash (sl u8)))) (Path.then (Path.snd R_api_Hash (prod R_api_Hash (sl u8))) (Path.fst R_api_Hash (sl u8))))) (by kernel_rfl)) rfl rfl rfl rfl (bl_isx e5) rfl rfl ?_
          refine j_pure_y (pj_load_to (has_tmp rfl) (by kernel_rfl)) rfl rfl rfl rfl (bl_isx e5) rfl rfl ?_
          refine j_pure_y (pj_eql (n := 2) (eq_vec (e := 5) (by kernel_rfl) (by kernel_rfl) (eq_un (by kernel_rfl))) (by decide) rfl (by kernel_rfl) (has_tmp rfl) (has_tmp rfl)) rfl rfl rfl rfl (bl_isx e5) rfl rfl ?_
          refine j_pure (PJ.eqv (R := bl) (pj_pick (t := any) (has_tmp rfl) (fun _ => (has_tmp rfl)) (fun he => absurd (e5.symm.trans he) (by decide))) (Option.some.inj e6)) rfl rfl rfl ?_
          exact j_to (.cons (.of_lk rfl) <| .cons (.of_lk rfl) <| .cons (.of_lk rfl) <| .nil) (.nil) (J ())
        · replace e6 := bf e5 e6
          refine j_guard_no2 (j := 19) (want := true) rfl rfl rfl rfl (bl_isx e5) rfl rfl rfl ?_
          refine j_guard_no2 (j := 19) (want := true) rfl rfl rfl rfl (bl_isx e5) rfl rfl rfl ?_
          refine j_guard_no2 (j := 19) (want := true) rfl rfl rfl rfl (bl_isx e5) rfl rfl rfl ?_
          refine j_guard_no2 (j := 19) (want := true) rfl rfl rfl rfl (bl_isx e5) rfl rfl rfl ?_
          refine j_guard_no2 (j := 19) (want := true) rfl rfl rfl rfl (bl_isx e5) rfl rfl rfl ?_
          refine j_pure (PJ.eqv (R := bl) (pj_pick (t := any) (has_tmp rfl) (fun he => absurd (e5.symm.trans he) (by decide)) (fun _ => has_bl)) (Option.some.inj e6)) rfl rfl rfl ?_
          exact j_to (.cons (.of_lk rfl) <| .cons (.of_lk rfl) <| .cons (.of_lk rfl) <| .nil) (.nil) (J ())
    · rcases bool_tf (y1) with e3 | e3
      · replace e4 := bt e3 e4
        refine j_pure_y (pj_field_to (has_tmp rfl) (Path.then (Path.snd i64 (prod i64 (prod R_api_Hash (prod R_api_Hash (sl u8))))) (Path.then (Path.snd i64 (prod R_api_Hash (prod R_api_Hash (sl u8)))) (Path.fst R_api_Hash (prod R_api_Hash (sl u8))))) (by kernel_rfl)) rfl rfl rfl rfl (bl_isx e3) rfl rfl ?_
        refine j_pure_y (pj_load_to (has_tmp rfl) (by kernel_rfl)) rfl rfl rfl rfl (bl_isx e3) rfl rfl ?_
        refine j_pure_y (pj_field_to (has_tmp rfl) (Path.then (Path.snd i64 (prod i64 (prod R_api_Hash (prod R_api_Hash (sl u8))))) (Path.then (Path.snd i64 (prod R_api_Hash (prod R_api_Hash (sl u8)))) (Path.fst R_api_Hash (prod R_api_Hash (sl u8))))) (by kernel_rfl)) rfl rfl rfl rfl (bl_isx e3) rfl rfl ?_
        refine j_pure_y (pj_load_to (has_tmp rfl) (by kernel_rfl)) rfl rfl rfl rfl (bl_isx e3) rfl rfl ?_
        refine j_pure_y (pj_eql (n := 2) (eq_vec (e := 5) (by kernel_rfl) (by kernel_rfl) (eq_un (by kernel_rfl))) (by decide) rfl (by kernel_rfl) (has_tmp rfl) (has_tmp rfl)) rfl rfl rfl rfl (bl_isx e3) rfl rfl ?_
        refine j_pure (PJ.eqv (R := bl) (pj_pick (t := any) (has_tmp rfl) (fun _ => (has_tmp rfl)) (fun he => absurd (e3.symm.trans he) (by decide))) (Option.some.inj e4)) rfl rfl rfl ?_
        exact j_to (.cons (.of_lk rfl) <| .cons (.of_lk rfl) <| .cons (.of_lk rfl) <| .nil) (.nil) (J ())
      · replace e4 := bf e3 e4
        refine j_guard_no2 (j := 12) (want := true) rfl rfl rfl rfl (bl_isx e3) rfl rfl rfl ?_
        refine j_guard_no2 (j := 12) (want := true) rfl rfl rfl rfl (bl_isx e3) rfl rfl rfl ?_
        refine j_guard_no2 (j := 12) (want := true) rfl rfl rfl rfl (bl_isx e3) rfl rfl rfl ?_
        refine j_guard_no2 (j := 12) (want := true) rfl rfl rfl rfl (bl_isx e3) rfl rfl rfl ?_
        refine j_guard_no2 (j := 12) (want := true) rfl rfl rfl rfl (bl_isx e3) rfl rfl rfl ?_
        refine j_pure (PJ.eqv (R := bl) (pj_pick (t := any) (has_tmp rfl) (fun he => absurd (e3.symm.trans he) (by decide)) (fun _ => has_bl)) (Option.some.inj e4)) rfl rfl rfl ?_
        exact j_to (.cons (.of_lk rfl) <| .cons (.of_lk rfl) <| .cons (.of_lk rfl) <| .nil) (.nil) (J ())
  · rcases bool_tf (decide (p_a.1 = p_b.1)) with e1 | e1
    · replace e2 := bt e1 e2
      refine j_pure_y (pj_field_to (has_tmp rfl) (Path.then (Path.snd i64 (prod i64 (prod R_api_Hash (prod R_api_Hash (sl u8))))) (Path.fst i64 (prod R_api_Hash (prod R_api_Hash (sl u8))))) (by kernel_rfl)) rfl rfl rfl rfl (bl_isx e1) rfl rfl ?_
      refine j_pure_y (pj_load_to (has_tmp rfl) (by kernel_rfl)) rfl rfl rfl rfl (bl_isx e1) rfl rfl ?_
      refine j_pure_y (pj_field_to (has_tmp rfl) (Path.then (Path.snd i64 (prod i64 (prod R_api_Hash (prod R_api_Hash (sl u8))))) (Path.fst i64 (prod R_api_Hash (prod R_api_Hash (sl u8))))) (by kernel_rfl)) rfl rfl rfl rfl (bl_isx e1) rfl rfl ?_
      refine j_pure_y (pj_load_to (has_tmp rfl) (by kernel_rfl)) rfl rfl rfl rfl (bl_isx e1) rfl rfl ?_
      refine j_pure_y (pj_ieql (has_tmp rfl) (has_tmp rfl)) rfl rfl rfl rfl (bl_isx e1) rfl rfl ?_
      refine j_pure (PJ.eqv (R := bl) (pj_pick (t := any) (has_tmp rfl) (fun _ => (has_tmp rfl)) (fun he => absurd (e1.symm.trans he) (by decide))) (Option.some.inj e2)) rfl rfl rfl ?_
      exact j_to (.cons (.of_lk rfl) <| .cons (.of_lk rfl) <| .cons (.of_lk rfl) <| .nil) (.nil) (J ())
    · replace e2 := bf e1 e2
      refine j_guard_no2 (j := 5) (want := true) rfl rfl rfl rfl (bl_isx e1) rfl rfl rfl ?_
      refine j_guard_no2 (j := 5) (want := true) rfl rfl rfl rfl (bl_isx e1) rfl rfl rfl ?_
      refine j_guard_no2 (j := 5) (want := true) rfl rfl rfl rfl (bl_isx e1) rfl rfl rfl ?_
      refine j_guard_no2 (j := 5) (want := true) rfl rfl rfl rfl (bl_isx e1) rfl rfl rfl ?_
      refine j_guard_no2 (j := 5) (want := true) rfl rfl rfl rfl (bl_isx e1) rfl rfl rfl ?_
      refine j_pure (PJ.eqv (R := bl) (pj_pick (t := any) (has_tmp rfl) (fun he => absurd (e1.symm.trans he) (by decide)) (fun _ => has_bl)) (Option.some.inj e2)) rfl rfl rfl ?_
      exact j_to (.cons (.of_lk rfl) <| .cons (.of_lk rfl) <| .cons (.of_lk rfl) <| .nil) (.nil) (J ())
set_option maxRecDepth 100000 in
set_option maxHeartbeats 4000000 in
theorem c_monitor_copied {G : GP} {p_l : List T_chain_Version} {r : (List T_chain_Version)} (h : monitor_copied p_l = some r) : Ctr Tryd.prog G 63 [(sl R_chain_Version).slot p_l] [] (fun (u0 : Value) => ov u0) (fun (u0 : Value) => [own 45 R_chain_Version u0 r]) := by
  unfold monitor_copied at h
  refine ctr_of_run Tryd.func63 rfl 22 rfl rfl fun m0 w0 b0 => ?_
  show Run _ _ _ [(0, (sl R_chain_Version).slot p_l)] _
  refine run_seq ?_
  refine run_text ?_
  refine j_assign_nil (T := 45) R_chain_Version rfl fun v1 => ?_
  refine j_end ?_
  refine run_seq ?_
  refine run_text ?_
  refine j_assign_nil (T := 45) R_chain_Version rfl fun v2 => ?_
  refine j_end ?_
  refine run_seq ?_
  refine run_seq ?_
  refine run_text ?_
  refine j_pure (pj_move (has_tmp rfl)) rfl rfl rfl ?_
  refine j_pure (pj_len_sl (sz := 67) (has_tmp rfl) (by kernel_rfl)) rfl rfl rfl ?_
  refine j_pure (pj_move has_i64) rfl rfl rfl ?_
  refine j_end ?_
  obtain ⟨⟨y3, y4⟩, e5, h⟩ := bind_some h
  refine run_loopS (Γi := fun (i : Value) (s : Int × (List T_chain_Version)) => [(3, ov i), (6, (sl R_chain_Version).slot p_l), (7, i64.slot (p_l.length : Int)), (8, i64.slot s.1)]) (Hi := fun (i : Value) (s : Int × (List T_chain_Version)) => [own 45 R_chain_Version i s.2]) e5 v2 (fun a w hst => (hst.sub (.cons (.of_lk rfl) <| .cons (.of_lk rfl) <| .cons (.of_lk rfl) <| .cons (.of_lk rfl) <| .nil)).keep (.cons .here <| .nil)) ?_ ?_
  · clear h e5
    rintro v3 ⟨y1, y2⟩ lr h
    change monitor_copied_L1 p_l y1 y2 = some _ at h
    show Run _ _ _ [(3, ov v3), (6, (sl R_chain_Version).slot p_l), (7, i64.slot (p_l.length : Int)), (8, i64.slot y1)] [own 45 R_chain_Version v3 y2]
    unfold monitor_copied_L1 at h
    refine run_seq ?_
    refine run_text ?_
    refine j_pure (pj_ilss (has_tmp rfl) (has_tmp rfl)) rfl rfl rfl ?_
    refine j_end ?_
    refine run_seq ?_
    refine run_cond (has_tmp rfl) (fun e1 => ?_) (fun e1 => ?_)
    · replace h := bt e1 h
      refine run_skip ?_
      refine run_seq ?_
      refine run_block ?_
      refine run_seq ?_
      refine run_text ?_
      obtain ⟨x1, e2, h⟩ := bind_some h
      refine j_pure (pj_index_slx (has_tmp rfl) (has_tmp rfl) isInt_i64 e2 (by kernel_rfl)) rfl rfl rfl ?_
      refine j_pure (pj_load_to (has_tmp rfl) (by kernel_rfl)) rfl rfl rfl ?_
      refine j_alloc (x := (0, 0, (Vector.replicate 32 (0#8)), (Vector.replicate 32 (0#8)), ([] : List (BitVec 8)))) (R := R_chain_Version) (zero_prod zero_i64 (zero_prod zero_i64 (zero_prod (zero_vec 32 zero_un) (zero_prod (zero_vec 32 zero_un) zero_sl)))) (by kernel_rfl) rfl fun b1 => ?_
      refine j_store_boxx (r' := x1) (has_tmp rfl) (has_tmp rfl) .here (Path.all R_chain_Version) (by kernel_rfl) rfl ?_
      refine j_end ?_
      refine run_seq ?_
      refine run_text ?_
      refine j_pure (pj_field_ptr (off := 66) (has_tmp rfl) (by kernel_rfl)) rfl rfl rfl ?_
      refine j_pure (pj_load_box (has_tmp rfl) .here (Path.then (Path.all R_chain_Version) (Path.then (Path.snd i64 (prod i64 (prod R_api_Hash (prod R_api_Hash (sl u8))))) (Path.then (Path.snd i64 (prod R_api_Hash (prod R_api_Hash (sl u8)))) (Path.then (Path.snd R_api_Hash (prod R_api_Hash (sl u8))) (Path.snd R_api_Hash (sl u8)))))) (by kernel_rfl)) rfl rfl rfl ?_
      obtain ⟨r1, e3, h⟩ := bind_some h
      refine j_pure (pj_call (hasL_cons (has_tmp rfl) <| hasL_nil) (by kernel_rfl) (Ctr.froze (c_slices_Clone_byte_byte e3))) rfl rfl rfl ?_
      refine j_pure (pj_field_ptr (off := 66) (has_tmp rfl) (by kernel_rfl)) rfl rfl rfl ?_
      refine j_store_boxx (r' := (x1.1, x1.2.1, x1.2.2.1, x1.2.2.2.1, r1)) (has_tmp rfl) (has_tmp rfl) .here (Path.then (Path.all R_chain_Version) (Path.then (Path.snd i64 (prod i64 (prod R_api_Hash (prod R_api_Hash (sl u8))))) (Path.then (Path.snd i64 (prod R_api_Hash (prod R_api_Hash (sl u8)))) (Path.then (Path.snd R_api_Hash (prod R_api_Hash (sl u8))) (Path.snd R_api_Hash (sl u8)))))) (by kernel_rfl) rfl ?_
      refine j_end ?_
      refine run_text ?_
      refine j_pure (pj_move (has_tmp rfl)) rfl rfl rfl ?_
      refine j_pure (pj_load_box (has_tmp rfl) .here (Path.all R_chain_Version) (by kernel_rfl)) rfl rfl rfl ?_
      refine j_pure (pj_buildSlice (T := 45) (R := R_chain_Version) (.cons (has_tmp rfl) .nil) rfl (by kernel_rfl) (by kernel_rfl)) rfl rfl rfl ?_
      obtain ⟨e4, h⟩ := grd_some h
      refine j_append (T := 45) (E := 45) (has_tmp rfl) (.next .here) (src_data (has_tmp rfl)) (by kernel_rfl) (by kernel_rfl) e4 rfl fun v4 => ?_
      refine j_pure (pj_assign (has_tmp rfl)) rfl rfl rfl ?_
      refine j_end ?_
      refine run_endblock ?_
      refine run_text ?_
      refine j_pure (pj_iadd (has_tmp rfl) has_i64) rfl rfl rfl ?_
      refine j_pure (pj_move (has_tmp rfl)) rfl rfl rfl ?_
      refine j_end ?_
      obtain rfl := Option.some.inj h
      exact run_next v4 (.cons (.of_lk rfl) <| .cons (.of_lk rfl) <| .cons (.of_lk rfl) <| .cons (.of_lk rfl) <| .nil) (.cons .here <| .nil)
    · replace h := bf e1 h
      obtain rfl := Option.some.inj h
      exact run_brk v3 (.cons (.of_lk rfl) <| .cons (.of_lk rfl) <| .cons (.of_lk rfl) <| .cons (.of_lk rfl) <| .nil) (.cons .here <| .nil)
  · rintro v5
    show Run _ _ _ [(3, ov v5), (6, (sl R_chain_Version).slot p_l), (7, i64.slot (p_l.length : Int)), (8, i64.slot y3)] [own 45 R_chain_Version v5 y4]
    refine run_to (Γ' := [(3, ov v5)]) (H' := [own 45 R_chain_Version v5 y4]) (.cons (.of_lk rfl) <| .nil) (.cons .here <| .nil) ?_
    refine run_seq ?_
    refine run_text ?_
    refine j_pure (pj_move (has_tmp rfl)) rfl rfl rfl ?_
    refine j_pure (pj_assign (has_tmp rfl)) rfl rfl rfl ?_
    refine j_end ?_
    obtain rfl := Option.some.inj h
    exact run_ret fun a w hst => q_ret1 hst rfl (.tmp rfl) v5 (fun _ _ h => h) (.cons .here <| .nil)
set_option maxRecDepth 100000 in
set_option maxHeartbeats 4000000 in
theorem c_slices_EqualFunc_chain_Version_chain_Version_chain_Version_chain_Version_monitor_same {G : GP} {p_s1 : List T_chain_Version} {p_s2 : List T_chain_Version} {r : Bool} (h : slices_EqualFunc_chain_Version_chain_Version_chain_Version_chain_Version_monitor_same p_s1 p_s2 = some r) : Ctr Tryd.prog G 61 [(sl R_chain_Version).slot p_s1, (sl R_chain_Version).slot p_s2, fnS 62 []] [] (fun (_ : Unit) => bl.slot r) (fun (_ : Unit) => []) := by
  unfold slices_EqualFunc_chain_Version_chain_Version_chain_Version_chain_Version_monitor_same at h
  refine ctr_of_run Tryd.func61 rfl 32 rfl rfl fun m0 w0 b0 => ?_
  refine run_ret0 fun Qf hq1 hq2 => ?_
  show Run _ _ _ [(0, (sl R_chain_Version).slot p_s1), (1, (sl R_chain_Version).slot p_s2), (2, fnS 62 [])] _
  refine run_seq ?_
  refine run_text ?_
  refine j_pure (pj_assign has_bl) rfl rfl rfl ?_
  refine j_end ?_
  refine run_seq ?_
  refine run_seq ?_
  refine run_text ?_
  refine j_pure (pj_move (has_tmp rfl)) rfl rfl rfl ?_
  refine j_pure (pj_len_sl (sz := 67) (has_tmp rfl) (by kernel_rfl)) rfl rfl rfl ?_
  refine j_pure (pj_move (has_tmp rfl)) rfl rfl rfl ?_
  refine j_pure (pj_len_sl (sz := 67) (has_tmp rfl) (by kernel_rfl)) rfl rfl rfl ?_
  refine j_pure (pj_ineq (has_tmp rfl) (has_tmp rfl)) rfl rfl rfl ?_
  refine j_end ?_
  refine run_cond (has_tmp rfl) (fun e1 => ?_) (fun e1 => ?_)
  · replace h := bt e1 h
    refine run_seq ?_
    refine run_text ?_
    refine j_pure (pj_assign has_bl) rfl rfl rfl ?_
    refine j_end ?_
    obtain rfl := Option.some.inj h
    exact run_ret fun a w hst => q_ret1 hst rfl (.tmp rfl) () (fun _ _ h => h) (.nil)
  · replace h := bf e1 h
    refine run_skip ?_
    refine run_seq ?_
    refine run_seq ?_
    refine run_text ?_
    refine j_pure (pj_move (has_tmp rfl)) rfl rfl rfl ?_
    refine j_pure (pj_len_sl (sz := 67) (has_tmp rfl) (by kernel_rfl)) rfl rfl rfl ?_
    refine j_pure (pj_move has_i64) rfl rfl rfl ?_
    refine j_end ?_
    obtain ⟨o, e7, h⟩ := bind_some h
    refine run_loop (Γi := fun (i : Unit) (s : Int) => [(1, (sl R_chain_Version).slot p_s2), (2, fnS 62 []), (15, (sl R_chain_Version).slot p_s1), (16, i64.slot (p_s1.length : Int)), (17, i64.slot s)]) (Hi := fun (i : Unit) (s : Int) => []) (R := fun x a w => x = r → Qf a w) e7 () (fun a w hst => (hst.sub (.cons (.of_lk rfl) <| .cons (.of_lk rfl) <| .cons (.of_lk rfl) <| .cons (.of_lk rfl) <| .cons (.of_lk rfl) <| .nil)).keep (.nil)) ?_ ?_ ?_
    · clear h e7
      rintro _ y1 lr h
      change slices_EqualFunc_chain_Version_chain_Version_chain_Version_chain_Version_monitor_same_L1 p_s1 p_s2 y1 = some _ at h
      show Run _ _ _ [(1, (sl R_chain_Version).slot p_s2), (2, fnS 62 []), (15, (sl R_chain_Version).slot p_s1), (16, i64.slot (p_s1.length : Int)), (17, i64.slot y1)] []
      unfold slices_EqualFunc_chain_Version_chain_Version_chain_Version_chain_Version_monitor_same_L1 at h
      refine run_seq ?_
      refine run_text ?_
      refine j_pure (pj_ilss (has_tmp rfl) (has_tmp rfl)) rfl rfl rfl ?_
      refine j_end ?_
      refine run_seq ?_
      refine run_cond (has_tmp rfl) (fun e2 => ?_) (fun e2 => ?_)
      · replace h := bt e2 h
        refine run_skip ?_
        refine run_seq ?_
        refine run_block ?_
        refine run_seq ?_
        refine run_text ?_
        refine j_pure (pj_move (has_tmp rfl)) rfl rfl rfl ?_
        obtain ⟨x1, e3, h⟩ := bind_some h
        refine j_pure (pj_index_slx (has_tmp rfl) (has_tmp rfl) isInt_i64 e3 (by kernel_rfl)) rfl rfl rfl ?_
        refine j_pure (pj_load_to (has_tmp rfl) (by kernel_rfl)) rfl rfl rfl ?_
        refine j_alloc (x := (0, 0, (Vector.replicate 32 (0#8)), (Vector.replicate 32 (0#8)), ([] : List (BitVec 8)))) (R := R_chain_Version) (zero_prod zero_i64 (zero_prod zero_i64 (zero_prod (zero_vec 32 zero_un) (zero_prod (zero_vec 32 zero_un) zero_sl)))) (by kernel_rfl) rfl fun b1 => ?_
        refine j_pure (pj_assign (has_tmp rfl)) rfl rfl rfl ?_
        refine j_store_boxx (r' := x1) (has_tmp rfl) (has_tmp rfl) .here (Path.all R_chain_Version) (by kernel_rfl) rfl ?_
        refine j_freezeTo (t := 8) .here (.of_lk rfl) ?_
        refine j_end ?_
        refine run_seq ?_
        refine run_text ?_
        refine j_pure (pj_move (has_tmp rfl)) rfl rfl rfl ?_
        refine j_pure (pj_move (has_tmp rfl)) rfl rfl rfl ?_
        obtain ⟨x2, e4, h⟩ := bind_some h
        refine j_pure (pj_index_slx (has_tmp rfl) (has_tmp rfl) isInt_i64 e4 (by kernel_rfl)) rfl rfl rfl ?_
        refine j_pure (pj_load_to (has_tmp rfl) (by kernel_rfl)) rfl rfl rfl ?_
        refine j_alloc (x := (0, 0, (Vector.replicate 32 (0#8)), (Vector.replicate 32 (0#8)), ([] : List (BitVec 8)))) (R := R_chain_Version) (zero_prod zero_i64 (zero_prod zero_i64 (zero_prod (zero_vec 32 zero_un) (zero_prod (zero_vec 32 zero_un) zero_sl)))) (by kernel_rfl) rfl fun b2 => ?_
        refine j_store_boxx (r' := x2) (has_tmp rfl) (has_tmp rfl) .here (Path.all R_chain_Version) (by kernel_rfl) rfl ?_
        refine j_freezeTo (t := 9) .here (.of_lk rfl) ?_
        refine j_end ?_
        refine run_seq ?_
        refine run_text ?_
        refine j_pure (pj_move (has_tmp rfl)) rfl rfl rfl ?_
        refine j_pure (pj_load_to (has_tmp rfl) (by kernel_rfl)) rfl rfl rfl ?_
        refine j_pure (pj_load_to (has_tmp rfl) (by kernel_rfl)) rfl rfl rfl ?_
        obtain ⟨r1, e5, h⟩ := bind_some h
        refine j_pure (pj_callV (has_tmp rfl) (hasL_cons (has_tmp rfl) <| hasL_cons (has_tmp rfl) <| hasL_nil) (by kernel_rfl) (c_monitor_same e5)) rfl rfl rfl ?_
        refine j_pure (pj_not (has_tmp rfl)) rfl rfl rfl ?_
        refine j_end ?_
        refine run_cond (has_tmp rfl) (fun e6 => ?_) (fun e6 => ?_)
        · replace h := bt e6 h
          refine run_seq ?_
          refine run_text ?_
          refine j_pure (pj_assign has_bl) rfl rfl rfl ?_
          refine j_end ?_
          obtain rfl := Option.some.inj h
          refine run_ret fun a w hst => ⟨rfl, fun hr => ?_⟩
          subst hr
          exact hq2 a w (q_ret1 hst rfl (.tmp rfl) () (fun _ _ h => h) (.nil))
        · replace h := bf e6 h
          refine run_skip ?_
          refine run_endblock ?_
          refine run_text ?_
          refine j_pure (pj_iadd (has_tmp rfl) has_i64) rfl rfl rfl ?_
          refine j_pure (pj_move (has_tmp rfl)) rfl rfl rfl ?_
          refine j_end ?_
          obtain rfl := Option.some.inj h
          exact run_next () (.cons (.of_lk rfl) <| .cons (.of_lk rfl) <| .cons (.of_lk rfl) <| .cons (.of_lk rfl) <| .cons (.of_lk rfl) <| .nil) (.nil)
      · replace h := bf e2 h
        obtain rfl := Option.some.inj h
        exact run_brk () (.cons (.of_lk rfl) <| .cons (.of_lk rfl) <| .cons (.of_lk rfl) <| .cons (.of_lk rfl) <| .cons (.of_lk rfl) <| .nil) (.nil)
    · rintro _ y2 ho
      subst ho
      show Run _ _ _ [(1, (sl R_chain_Version).slot p_s2), (2, fnS 62 []), (15, (sl R_chain_Version).slot p_s1), (16, i64.slot (p_s1.length : Int)), (17, i64.slot y2)] []
      refine run_to (Γ' := []) (H' := []) (.nil) (.nil) ?_
      refine run_seq ?_
      refine run_text ?_
      refine j_pure (pj_assign has_bl) rfl rfl rfl ?_
      refine j_end ?_
      obtain rfl := Option.some.inj h
      exact run_ret fun a w hst => q_ret1 hst rfl (.tmp rfl) () (fun _ _ h => h) (.nil)
    · intro x a w ho hR
      subst ho
      exact hq1 a w (hR (Option.some.inj h))
set_option maxRecDepth 100000 in
set_option maxHeartbeats 4000000 in
theorem c_monitor_Monitor_Look {G : GP} (hg0 : HG0 G) (hg1 : HG1 G) {p_w : (List (BitVec 8)) × Int × (List T_chain_Version)} {p_f : T_session_Found} {b_w : Nat} {r : ((List (BitVec 8)) × Int × (List T_chain_Version)) × (List T_chain_Version) × Int} (h : monitor_Monitor_Look p_w p_f = some r) : Ctr Tryd.prog G 39 [val (.pointer (some ⟨b_w, 0, none⟩)), R_session_Found.slot p_f] [box b_w 97 (prod (sl u8) (prod i64 (sl R_chain_Version))) (p_w.1, p_w.2.1, p_w.2.2)] (fun (u0 : Value) => tup [ov u0, i64.slot r.2.2]) (fun (u0 : Value) => [box b_w 97 (prod (sl u8) (prod i64 (sl R_chain_Version))) (r.1.1, r.1.2.1, r.1.2.2), own 45 R_chain_Version u0 r.2.1]) := by
  unfold monitor_Monitor_Look at h
  refine ctr_of_run Tryd.func39 rfl 65 rfl rfl fun m0 w0 b0 => ?_
  show Run _ _ _ [(0, val (.pointer (some ⟨b_w, 0, none⟩))), (1, R_session_Found.slot p_f)] _
  refine run_seq ?_
  refine run_text ?_
  refine j_pure (pj_box_to (has_tmp rfl)) rfl rfl rfl ?_
  refine j_assign_nil (T := 45) R_chain_Version rfl fun v1 => ?_
  refine j_pure (pj_assign has_i64) rfl rfl rfl ?_
  refine j_end ?_
  refine run_seq ?_
  refine run_block ?_
  refine run_seq ?_
  refine run_seq ?_
  refine run_text ?_
  refine j_pure (pj_move (has_tmp rfl)) rfl rfl rfl ?_
  refine j_pure (pj_eq_nil_val (E := 97) (by kernel_rfl) (has_tmp rfl)) rfl rfl rfl ?_
  refine j_pure (pj_assign (has_tmp rfl)) rfl rfl rfl ?_
  refine j_end ?_
  refine run_cond_f (has_tmp rfl) rfl ?_
  refine run_seq ?_
  obtain ⟨r1, e2, h⟩ := bind_some h
  refine run_draw (n := 9) (by kernel_rfl) (by kernel_rfl) (by kernel_rfl) (by kernel_rfl) (.read (.plain rfl (pj_field_to (has_tmp rfl) (Path.fst (sl u8) (prod i64 (prod R_head_Head (sl R_chain_Version)))) (by kernel_rfl))) <| .read (.plain rfl (pj_load_to (has_tmp rfl) (by kernel_rfl))) <| .read (.plain rfl (pj_move (has_tmp rfl))) <| .read (.plain rfl (pj_nilCheck_ptr (has_tmp rfl))) <| .read (.plain rfl (pj_field_ptr (off := 0) (has_tmp rfl) (by kernel_rfl))) <| .read (.plain rfl (pj_load_box (has_tmp rfl) (.next .here) (Path.then (Path.all (prod (sl u8) (prod i64 (sl R_chain_Version)))) (Path.fst (sl u8) (prod i64 (sl R_chain_Version)))) (by kernel_rfl))) <| .read (.plain rfl (pj_call (hasL_cons (has_tmp rfl) <| hasL_cons (has_tmp rfl) <| hasL_nil) (by kernel_rfl) (c_bytes_Equal e2))) <| .read (.plain rfl (pj_not (has_tmp rfl))) <| .read (.plain rfl (pj_assign (has_tmp rfl))) <| .nil) (j_to (Γ' := [(0, val (.pointer (some ⟨b_w, 0, none⟩))), (3, ptrTo R_session_Found p_f), (7, bl.slot (!r1))]) (H' := [box b_w 97 (prod (sl u8) (prod i64 (sl R_chain_Version))) (p_w.1, p_w.2.1, p_w.2.2)]) (.cons (.of_lk rfl) <| .cons (.of_lk rfl) <| .cons (.of_lk rfl) <| .nil) (.cons (.next .here) <| .nil) ?_)
  refine j_end ?_
  obtain ⟨y1, e4, h⟩ := bind_some h
  refine run_joinx (ι := Unit) (Γ' := fun (_ : Unit) => [(0, val (.pointer (some ⟨b_w, 0, none⟩))), (3, ptrTo R_session_Found p_f), (7, bl.slot y1)]) (H' := fun (_ : Unit) => [box b_w 97 (prod (sl u8) (prod i64 (sl R_chain_Version))) (p_w.1, p_w.2.1, p_w.2.2)]) ?_ fun J => ?_
  · intro _
    clear e4
    show Run _ _ _ [(0, val (.pointer (some ⟨b_w, 0, none⟩))), (3, ptrTo R_session_Found p_f), (7, bl.slot y1)] [box b_w 97 (prod (sl u8) (prod i64 (sl R_chain_Version))) (p_w.1, p_w.2.1, p_w.2.2)]
    refine run_cond (has_tmp rfl) (fun e5 => ?_) (fun e5 => ?_)
    · replace h := bt e5 h
      refine run_seq ?_
      refine run_text ?_
      refine j_assign_nil (T := 45) R_chain_Version rfl fun v2 => ?_
      refine j_pure (pj_assign has_i64) rfl rfl rfl ?_
      refine j_end ?_
      obtain rfl := Option.some.inj h
      exact run_ret fun a w hst => q_retN hst rfl (.cons (.tmp rfl) <| .cons (.tmp rfl) <| .nil) rfl v2 (fun _ _ h => h) (.cons (.next .here) <| .cons .here <| .nil)
    · replace h := bf e5 h
      refine run_seq ?_
      refine run_text ?_
      refine j_pure (pj_move (has_tmp rfl)) rfl rfl rfl ?_
      refine j_pure (pj_load_to (has_tmp rfl) (by kernel_rfl)) rfl rfl rfl ?_
      obtain ⟨r2, e6, h⟩ := bind_some h
      refine j_pure (pj_callR (hasL_cons (has_tmp rfl) <| hasL_cons (has_tmp rfl) <| hasL_nil) .here (by kernel_rfl) (fun _ => (c_monitor_Monitor_formed hg0 hg1 e6))) rfl rfl rfl ?_
      refine j_pure (pj_not (has_tmp rfl)) rfl rfl rfl ?_
      refine j_pure (pj_assign (has_tmp rfl)) rfl rfl rfl ?_
      refine j_end ?_
      refine run_cond (has_tmp rfl) (fun e7 => ?_) (fun e7 => ?_)
      · replace h := bt e7 h
        refine run_seq ?_
        refine run_text ?_
        refine j_assign_nil (T := 45) R_chain_Version rfl fun v3 => ?_
        refine j_pure (pj_assign has_i64) rfl rfl rfl ?_
        refine j_end ?_
        obtain rfl := Option.some.inj h
        exact run_ret fun a w hst => q_retN hst rfl (.cons (.tmp rfl) <| .cons (.tmp rfl) <| .nil) rfl v3 (fun _ _ h => h) (.cons (.next .here) <| .cons .here <| .nil)
      · replace h := bf e7 h
        refine run_seq ?_
        refine run_draw (n := 8) (by kernel_rfl) (by kernel_rfl) (by kernel_rfl) (by kernel_rfl) (.read (.plain rfl (pj_field_to (has_tmp rfl) (Path.then (Path.snd (sl u8) (prod i64 (prod R_head_Head (sl R_chain_Version)))) (Path.fst i64 (prod R_head_Head (sl R_chain_Version)))) (by kernel_rfl))) <| .read (.plain rfl (pj_load_to (has_tmp rfl) (by kernel_rfl))) <| .read (.plain rfl (pj_move (has_tmp rfl))) <| .read (.plain rfl (pj_nilCheck_ptr (has_tmp rfl))) <| .read (.plain rfl (pj_field_ptr (off := 1) (has_tmp rfl) (by kernel_rfl))) <| .read (.plain rfl (pj_load_box (has_tmp rfl) .here (Path.then (Path.all (prod (sl u8) (prod i64 (sl R_chain_Version)))) (Path.then (Path.snd (sl u8) (prod i64 (sl R_chain_Version))) (Path.fst i64 (sl R_chain_Version)))) (by kernel_rfl))) <| .read (.plain rfl (pj_ilss (has_tmp rfl) (has_tmp rfl))) <| .read (.plain rfl (pj_assign (has_tmp rfl))) <| .nil) (j_to (Γ' := [(0, val (.pointer (some ⟨b_w, 0, none⟩))), (3, ptrTo R_session_Found p_f), (26, bl.slot (decide (p_f.2.1 < p_w.2.1)))]) (H' := [box b_w 97 (prod (sl u8) (prod i64 (sl R_chain_Version))) (p_w.1, p_w.2.1, p_w.2.2)]) (.cons (.of_lk rfl) <| .cons (.of_lk rfl) <| .cons (.of_lk rfl) <| .nil) (.cons .here <| .nil) ?_)
        refine j_end ?_
        refine run_cond (has_tmp rfl) (fun e8 => ?_) (fun e8 => ?_)
        · replace h := bt e8 h
          refine run_seq ?_
          refine run_text ?_
          refine j_assign_nil (T := 45) R_chain_Version rfl fun v4 => ?_
          refine j_pure (pj_assign has_i64) rfl rfl rfl ?_
          refine j_end ?_
          obtain rfl := Option.some.inj h
          exact run_ret fun a w hst => q_retN hst rfl (.cons (.tmp rfl) <| .cons (.tmp rfl) <| .nil) rfl v4 (fun _ _ h => h) (.cons (.next .here) <| .cons .here <| .nil)
        · replace h := bf e8 h
          refine run_skip ?_
          refine run_endblock ?_
          refine run_seq ?_
          obtain ⟨r3, e9, h⟩ := bind_some h
          refine run_draw (n := 7) (by kernel_rfl) (by kernel_rfl) (by kernel_rfl) (by kernel_rfl) (.read (.plain rfl (pj_field_to (has_tmp rfl) (Path.then (Path.snd (sl u8) (prod i64 (prod R_head_Head (sl R_chain_Version)))) (Path.then (Path.snd i64 (prod R_head_Head (sl R_chain_Version))) (Path.snd R_head_Head (sl R_chain_Version)))) (by kernel_rfl))) <| .read (.plain rfl (pj_load_to (has_tmp rfl) (by kernel_rfl))) <| .read (.plain rfl (pj_move (has_tmp rfl))) <| .read (.plain rfl (pj_nilCheck_ptr (has_tmp rfl))) <| .read (.plain rfl (pj_field_ptr (off := 1) (has_tmp rfl) (by kernel_rfl))) <| .read (.plain rfl (pj_load_box (has_tmp rfl) .here (Path.then (Path.all (prod (sl u8) (prod i64 (sl R_chain_Version)))) (Path.then (Path.snd (sl u8) (prod i64 (sl R_chain_Version))) (Path.fst i64 (sl R_chain_Version)))) (by kernel_rfl))) <| .read (.plain rfl (pj_call (hasL_cons (has_tmp rfl) <| hasL_cons (has_tmp rfl) <| hasL_nil) (by kernel_rfl) (Ctr.froze (c_chain_Upto e9)))) <| .nil) (j_to (Γ' := [(0, val (.pointer (some ⟨b_w, 0, none⟩))), (3, ptrTo R_session_Found p_f), (40, (sl R_chain_Version).slot r3)]) (H' := [box b_w 97 (prod (sl u8) (prod i64 (sl R_chain_Version))) (p_w.1, p_w.2.1, p_w.2.2)]) (.cons (.of_lk rfl) <| .cons (.of_lk rfl) <| .cons (.of_lk rfl) <| .nil) (.cons .here <| .nil) ?_)
          refine j_pure (pj_assign (has_tmp rfl)) rfl rfl rfl ?_
          refine j_end ?_
          refine run_seq ?_
          refine run_seq ?_
          refine run_text ?_
          refine j_pure (pj_move (has_tmp rfl)) rfl rfl rfl ?_
          refine j_pure (pj_move (has_tmp rfl)) rfl rfl rfl ?_
          refine j_pure (pj_nilCheck_ptr (has_tmp rfl)) rfl rfl rfl ?_
          refine j_pure (pj_field_ptr (off := 2) (has_tmp rfl) (by kernel_rfl)) rfl rfl rfl ?_
          refine j_pure (pj_load_box (has_tmp rfl) .here (Path.then (Path.all (prod (sl u8) (prod i64 (sl R_chain_Version)))) (Path.then (Path.snd (sl u8) (prod i64 (sl R_chain_Version))) (Path.snd i64 (sl R_chain_Version)))) (by kernel_rfl)) rfl rfl rfl ?_
          obtain ⟨r4, e10, h⟩ := bind_some h
          refine j_pure (pj_call (hasL_cons (has_tmp rfl) <| hasL_cons (has_tmp rfl) <| hasL_cons has_fn0 <| hasL_nil) (by kernel_rfl) (c_slices_EqualFunc_chain_Version_chain_Version_chain_Version_chain_Version_monitor_same e10)) rfl rfl rfl ?_
          refine j_pure (pj_not (has_tmp rfl)) rfl rfl rfl ?_
          refine j_end ?_
          refine run_cond (has_tmp rfl) (fun e11 => ?_) (fun e11 => ?_)
          · replace h := bt e11 h
            refine run_seq ?_
            refine run_text ?_
            refine j_assign_nil (T := 45) R_chain_Version rfl fun v5 => ?_
            refine j_pure (pj_assign has_i64) rfl rfl rfl ?_
            refine j_end ?_
            obtain rfl := Option.some.inj h
            exact run_ret fun a w hst => q_retN hst rfl (.cons (.tmp rfl) <| .cons (.tmp rfl) <| .nil) rfl v5 (fun _ _ h => h) (.cons (.next .here) <| .cons .here <| .nil)
          · replace h := bf e11 h
            refine run_skip ?_
            refine run_seq ?_
            obtain ⟨r5, e12, h⟩ := bind_some h
            refine run_keep (H' := [box b_w 97 (prod (sl u8) (prod i64 (sl R_chain_Version))) (p_w.1, p_w.2.1, p_w.2.2)]) (.cons .here <| .nil) ?_
            refine run_drawL (n := 13) (H := []) (Ls := [⟨[box b_w 97 (prod (sl u8) (prod i64 (sl R_chain_Version))) (p_w.1, p_w.2.1, p_w.2.2)], [(9, ⟨Unit, fun (_ : Unit) => [box b_w 97 (prod (sl u8) (prod i64 (sl R_chain_Version))) (p_w.1, p_f.2.1, p_w.2.2)], fun (_ : Unit) => []⟩), (12, ⟨Unit, fun (_ : Unit) => [box b_w 97 (prod (sl u8) (prod i64 (sl R_chain_Version))) (p_w.1, p_f.2.1, r5)], fun (_ : Unit) => []⟩)]⟩]) (by kernel_rfl) (by kernel_rfl) (by kernel_rfl) (by kernel_rfl) (by kernel_rfl) rfl (.read rfl (.plain rfl (pj_move (has_tmp rfl))) <| .read rfl (.plain rfl (pj_move (has_tmp rfl))) <| .read rfl (.plain rfl (pj_field_to (has_tmp rfl) (Path.then (Path.snd (sl u8) (prod i64 (prod R_head_Head (sl R_chain_Version)))) (Path.fst i64 (prod R_head_Head (sl R_chain_Version)))) (by kernel_rfl))) <| .read rfl (.plain rfl (pj_load_to (has_tmp rfl) (by kernel_rfl))) <| .read rfl (.plain rfl (pj_field_to (has_tmp rfl) (Path.then (Path.snd (sl u8) (prod i64 (prod R_head_Head (sl R_chain_Version)))) (Path.then (Path.snd i64 (prod R_head_Head (sl R_chain_Version))) (Path.snd R_head_Head (sl R_chain_Version)))) (by kernel_rfl))) <| .read rfl (.plain rfl (pj_load_to (has_tmp rfl) (by kernel_rfl))) <| .read rfl (.plain rfl (pj_call (hasL_cons (has_tmp rfl) <| hasL_nil) (by kernel_rfl) (Ctr.froze (c_monitor_copied e12)))) <| .read rfl (.plain rfl (pj_nilCheck_ptr (has_tmp rfl))) <| .read rfl (.plain rfl (pj_field_ptr (off := 1) (has_tmp rfl) (by kernel_rfl))) <| .step 0 rfl .here rfl (fun i => ⟨_, _, fun _ => (), (w_store (r' := (p_w.1, p_f.2.1, p_w.2.2)) (has_tmp rfl) (has_tmp rfl) .here (Path.then (Path.all (prod (sl u8) (prod i64 (sl R_chain_Version)))) (Path.then (Path.snd (sl u8) (prod i64 (sl R_chain_Version))) (Path.fst i64 (sl R_chain_Version)))) (by kernel_rfl) rfl), fun _ => rfl, (slotNo (s := any)), dst0⟩) <| .read rfl (.plain rfl (pj_nilCheck_ptr (has_tmp rfl))) <| .read rfl (.plain rfl (pj_field_ptr (off := 2) (has_tmp rfl) (by kernel_rfl))) <| .step 0 rfl (.next .here) rfl (fun i => ⟨_, _, fun _ => (), (w_store (r' := (p_w.1, p_f.2.1, r5)) (has_tmp rfl) (has_tmp rfl) .here (Path.then (Path.all (prod (sl u8) (prod i64 (sl R_chain_Version)))) (Path.then (Path.snd (sl u8) (prod i64 (sl R_chain_Version))) (Path.snd i64 (sl R_chain_Version)))) (by kernel_rfl) rfl), fun _ => rfl, (slotNo (s := any)), dst0⟩) <| .nil) ?_
            rintro _
            refine j_to (Γ' := [(3, ptrTo R_session_Found p_f), (6, (sl R_chain_Version).slot r3)]) (H' := [box b_w 97 (prod (sl u8) (prod i64 (sl R_chain_Version))) (p_w.1, p_f.2.1, r5)]) (.cons (.of_lk rfl) <| .cons (.of_lk rfl) <| .nil) (.cons .here <| .nil) ?_
            refine j_end ?_
            refine run_seq ?_
            refine run_text ?_
            refine j_pure (pj_field_to (has_tmp rfl) (Path.then (Path.snd (sl u8) (prod i64 (prod R_head_Head (sl R_chain_Version)))) (Path.then (Path.snd i64 (prod R_head_Head (sl R_chain_Version))) (Path.snd R_head_Head (sl R_chain_Version)))) (by kernel_rfl)) rfl rfl rfl ?_
            refine j_pure (pj_load_to (has_tmp rfl) (by kernel_rfl)) rfl rfl rfl ?_
            refine j_pure (pj_move (has_tmp rfl)) rfl rfl rfl ?_
            refine j_pure (pj_len_sl (sz := 67) (has_tmp rfl) (by kernel_rfl)) rfl rfl rfl ?_
            obtain ⟨x1, e13, h⟩ := bind_some h
            refine j_pure (pj_slice_slx (has_tmp rfl) (.yes (has_tmp rfl) isInt_i64) .no e13 (by kernel_rfl)) rfl rfl rfl ?_
            obtain ⟨r6, e14, h⟩ := bind_some h
            refine j_call (hasL_cons (has_tmp rfl) <| hasL_nil) (by kernel_rfl) (c_monitor_copied e14) .nil rfl fun v6 => ?_
            refine j_pure (pj_assign (has_tmp rfl)) rfl rfl rfl ?_
            refine j_pure (pj_assign has_i64) rfl rfl rfl ?_
            refine j_end ?_
            obtain rfl := Option.some.inj h
            exact run_ret fun a w hst => q_retN hst rfl (.cons (.tmp rfl) <| .cons (.tmp rfl) <| .nil) rfl v6 (fun _ _ h => h) (.cons (.next .here) <| .cons .here <| .nil)
  · refine run_cond (has_tmp rfl) (fun e3 => ?_) (fun e3 => ?_)
    · replace h := bt e3 e4
      refine run_skip ?_
      obtain rfl := Option.some.inj h
      exact run_to (.cons (.of_lk rfl) <| .cons (.of_lk rfl) <| .cons (.of_lk rfl) <| .nil) (.cons .here <| .nil) (J ())
    · replace h := bf e3 e4
      refine run_text ?_
      refine j_pure (pj_field_to (has_tmp rfl) (Path.then (Path.snd (sl u8) (prod i64 (prod R_head_Head (sl R_chain_Version)))) (Path.fst i64 (prod R_head_Head (sl R_chain_Version)))) (by kernel_rfl)) rfl rfl rfl ?_
      refine j_pure (pj_load_to (has_tmp rfl) (by kernel_rfl)) rfl rfl rfl ?_
      refine j_pure (pj_ilss (has_tmp rfl) has_i64) rfl rfl rfl ?_
      refine j_pure (pj_assign (has_tmp rfl)) rfl rfl rfl ?_
      refine j_end ?_
      obtain rfl := Option.some.inj h
      exact run_to (.cons (.of_lk rfl) <| .cons (.of_lk rfl) <| .cons (.of_lk rfl) <| .nil) (.cons .here <| .nil) (J ())
set_option maxRecDepth 100000 in
set_option maxHeartbeats 4000000 in
theorem c_monitor_Monitor_Epoch {G : GP} {p_w : (List (BitVec 8)) × Int × (List T_chain_Version)} {b_w : Nat} {c_w : List Value} {r : Int} (h : monitor_Monitor_Epoch p_w = some r) : Ctr Tryd.prog G 40 [val (.pointer (some ⟨b_w, 0, none⟩))] [box b_w 97 (exr (prod (sl u8) (prod i64 (sl R_chain_Version))) c_w) (p_w.1, p_w.2.1, p_w.2.2)] (fun (_ : Unit) => i64.slot r) (fun (_ : Unit) => [box b_w 97 (exr (prod (sl u8) (prod i64 (sl R_chain_Version))) c_w) (p_w.1, p_w.2.1, p_w.2.2)]) := by
  unfold monitor_Monitor_Epoch at h
  refine ctr_of_run Tryd.func40 rfl 9 rfl rfl fun m0 w0 b0 => ?_
  show Run _ _ _ [(0, val (.pointer (some ⟨b_w, 0, none⟩)))] _
  refine run_seq ?_
  refine run_text ?_
  refine j_pure (PJ.xw (.ex .refl) (pj_assign has_i64)) rfl rfl rfl ?_
  refine j_end ?_
  refine run_seq ?_
  refine run_seq ?_
  refine run_text ?_
  refine j_pure (PJ.xw (.ex .refl) (pj_move (has_tmp rfl))) rfl rfl rfl ?_
  refine j_pure (PJ.xw (.ex .refl) (pj_eq_nil_val (E := 97) (by kernel_rfl) (has_tmp rfl))) rfl rfl rfl ?_
  refine j_end ?_
  refine run_cond_f (has_tmp rfl) rfl ?_
  refine run_skip ?_
  refine run_seq ?_
  refine run_text ?_
  refine j_pure (PJ.xw (.ex .refl) (pj_move (has_tmp rfl))) rfl rfl rfl ?_
  refine j_pure (PJ.xw (.ex .refl) (pj_nilCheck_ptr (has_tmp rfl))) rfl rfl rfl ?_
  refine j_pure (PJ.xw (.ex .refl) (pj_field_ptr (off := 1) (has_tmp rfl) (by kernel_rfl))) rfl rfl rfl ?_
  refine j_pure (PJ.xw (.ex .refl) (pj_load_box (has_tmp rfl) .here (Path.then (Path.all (prod (sl u8) (prod i64 (sl R_chain_Version)))) (Path.then (Path.snd (sl u8) (prod i64 (sl R_chain_Version))) (Path.fst i64 (sl R_chain_Version)))) (by kernel_rfl))) rfl rfl rfl ?_
  refine j_pure (PJ.xw (.ex .refl) (pj_assign (has_tmp rfl))) rfl rfl rfl ?_
  refine j_end ?_
  obtain rfl := Option.some.inj h
  exact run_ret fun a w hst => q_ret1 hst rfl (.tmp rfl) () (fun _ _ h => h) (.cons .here <| .nil)
set_option maxRecDepth 100000 in
set_option maxHeartbeats 4000000 in
theorem c_rolodexlaw23_awake {G : GP} (hg0 : HG0 G) (hg1 : HG1 G) {r : Bool} (h : rolodexlaw23_awake = some r) : Ctr Tryd.prog G 37 [] [] (fun (_ : Unit) => bl.slot r) (fun (_ : Unit) => []) := by
  unfold rolodexlaw23_awake at h
  refine ctr_of_run Tryd.func37 rfl 22 rfl rfl fun m0 w0 b0 => ?_
  show Run _ _ _ [] _
  refine run_seq ?_
  refine run_text ?_
  refine j_pure (pj_assign has_bl) rfl rfl rfl ?_
  refine j_end ?_
  refine run_seq ?_
  refine run_text ?_
  refine j_buildSlice (T := 5) (R := u8) (.cons (has_un (x := 97#8) rfl) .nil) rfl (by kernel_rfl) (by kernel_rfl) rfl fun v1 => ?_
  refine j_w (w_conv_lit (e := 5) (has_tmp rfl) .here (by kernel_rfl) (by kernel_rfl) rfl (by simp) rfl) rfl (fun _ _ e => by cases e; rfl) fun _ => ?_
  obtain ⟨r1, e2, h⟩ := bind_some h
  refine j_call (hasL_cons (has_tmp rfl) <| hasL_nil) (by kernel_rfl) (c_monitor_New e2) .nil rfl fun b1 => ?_
  refine j_pure (pj_assign (has_tmp rfl)) rfl rfl rfl ?_
  refine j_end ?_
  refine run_seq ?_
  refine run_text ?_
  refine j_pure (pj_move (has_tmp rfl)) rfl rfl rfl ?_
  refine j_buildSlice (T := 5) (R := u8) (.cons (has_un (x := 97#8) rfl) .nil) rfl (by kernel_rfl) (by kernel_rfl) rfl fun v2 => ?_
  refine j_w (w_conv_lit (e := 5) (has_tmp rfl) .here (by kernel_rfl) (by kernel_rfl) rfl (by simp) rfl) rfl (fun _ _ e => by cases e; rfl) fun _ => ?_
  obtain ⟨x1, e4, h⟩ := bind_some h
  refine j_pure (PJ.eqv (pj_build (R := R_session_Found) (zero_prod zero_sl (zero_prod zero_i64 (zero_prod (zero_prod zero_i64 (zero_prod zero_i64 (zero_prod (zero_vec 32 zero_un) (zero_vec 32 zero_un)))) zero_sl))) (by kernel_rfl) (by kernel_rfl) rfl (.cons (has_tmp rfl) (Path.fst (sl u8) (prod i64 (prod R_head_Head (sl R_chain_Version)))) (by kernel_rfl) (.cons has_i64 (Path.then (Path.snd (sl u8) (prod i64 (prod R_head_Head (sl R_chain_Version)))) (Path.fst i64 (prod R_head_Head (sl R_chain_Version)))) (by kernel_rfl) .nil))) (Option.some.inj e4)) rfl rfl rfl ?_
  obtain ⟨r2, e5, h⟩ := bind_some h
  refine j_call (hasL_cons (has_tmp rfl) <| hasL_cons (has_tmp rfl) <| hasL_nil) (by kernel_rfl) (c_monitor_Monitor_Look hg0 hg1 e5) (.cons .here <| .nil) rfl fun v3 => ?_
  refine j_pure (pj_move (has_tmp rfl)) rfl rfl rfl ?_
  refine j_pure (pj_extract (has_tmp rfl) rfl) rfl rfl rfl ?_
  refine j_pure (pj_extract (has_tmp rfl) rfl) rfl rfl rfl ?_
  refine j_pure (pj_assign (has_tmp rfl)) rfl rfl rfl ?_
  refine j_pure (pj_assign (has_tmp rfl)) rfl rfl rfl ?_
  refine j_end ?_
  refine run_seq ?_
  refine run_text ?_
  refine j_pure (pj_move (has_tmp rfl)) rfl rfl rfl ?_
  refine j_pure (pj_ieql (has_tmp rfl) has_i64) rfl rfl rfl ?_
  refine j_pure (pj_move (has_tmp rfl)) rfl rfl rfl ?_
  obtain ⟨y1, e7, h⟩ := bind_some h
  refine j_joinx (ι := Unit) (Γ' := fun _ => [(21, bl.slot y1)]) (H' := fun _ => []) 4 ?_ fun J => ?_
  · intro _
    clear e7
    show OpsJ _ _ _ [(21, bl.slot y1)] [] _
    refine j_pure (pj_assign (has_tmp rfl)) rfl rfl rfl ?_
    refine j_end ?_
    obtain rfl := Option.some.inj h
    exact run_ret fun a w hst => q_ret1 hst rfl (.tmp rfl) () (fun _ _ h => h) (.nil)
  · rcases bool_tf (decide (r2.2.2 = (0 : Int))) with e6 | e6
    · replace e7 := bt e6 e7
      refine j_pure_y (pj_move (has_tmp rfl)) rfl rfl rfl rfl (bl_isx e6) rfl rfl ?_
      obtain ⟨r3, e8, e7⟩ := bind_some e7
      refine j_pure_y (pj_callR (hasL_cons (has_tmp rfl) <| hasL_nil) .here (by kernel_rfl) (fun _ => (c_monitor_Monitor_Epoch e8))) rfl rfl rfl rfl (bl_isx e6) rfl rfl ?_
      refine j_pure_y (pj_ieql (has_tmp rfl) has_i64) rfl rfl rfl rfl (bl_isx e6) rfl rfl ?_
      refine j_pure (PJ.eqv (R := bl) (pj_pick (t := any) (has_tmp rfl) (fun _ => (has_tmp rfl)) (fun he => absurd (e6.symm.trans he) (by decide))) (Option.some.inj e7)) rfl rfl rfl ?_
      exact j_to (.cons (.of_lk rfl) <| .nil) (.nil) (J ())
    · replace e7 := bf e6 e7
      refine j_guard_no2 (j := 2) (want := true) rfl rfl rfl rfl (bl_isx e6) rfl rfl rfl ?_
      refine j_guard_no2 (j := 2) (want := true) rfl rfl rfl rfl (bl_isx e6) rfl rfl rfl ?_
      refine j_guard_no2 (j := 2) (want := true) rfl rfl rfl rfl (bl_isx e6) rfl rfl rfl ?_
      refine j_pure (PJ.eqv (R := bl) (pj_pick (t := any) (has_tmp rfl) (fun he => absurd (e6.symm.trans he) (by decide)) (fun _ => has_bl)) (Option.some.inj e7)) rfl rfl rfl ?_
      exact j_to (.cons (.of_lk rfl) <| .nil) (.nil) (J ())
set_option maxRecDepth 100000 in
set_option maxHeartbeats 4000000 in
theorem c_rolodexlaw23_MonitorCut {G : GP} (hg0 : HG0 G) (hg1 : HG1 G) {p_label : List (BitVec 8)} {p_c : List T_rolodexref14_Version} {p_at : List (BitVec 8)} {r : Bool} (h : rolodexlaw23_MonitorCut p_label p_c p_at = some r) : Ctr Tryd.prog G 8 [(sl u8).slot p_label, (sl R_rolodexref14_Version).slot p_c, (sl u8).slot p_at] [] (fun (_ : Unit) => bl.slot r) (fun (_ : Unit) => []) := by
  unfold rolodexlaw23_MonitorCut at h
  refine ctr_of_run Tryd.func8 rfl 87 rfl rfl fun m0 w0 b0 => ?_
  refine run_ret0 fun Qf hq1 hq2 => ?_
  show Run _ _ _ [(0, (sl u8).slot p_label), (1, (sl R_rolodexref14_Version).slot p_c), (2, (sl u8).slot p_at)] _
  refine run_seq ?_
  refine run_text ?_
  refine j_pure (pj_assign has_bl) rfl rfl rfl ?_
  refine j_end ?_
  refine run_seq ?_
  refine run_seq ?_
  refine run_text ?_
  obtain ⟨r1, e1, h⟩ := bind_some h
  refine j_pure (pj_call (hasL_nil) (by kernel_rfl) (c_rolodexlaw23_awake hg0 hg1 e1)) rfl rfl rfl ?_
  refine j_pure (pj_not (has_tmp rfl)) rfl rfl rfl ?_
  refine j_pure (pj_move (has_tmp rfl)) rfl rfl rfl ?_
  obtain ⟨y1, e3, h⟩ := bind_some h
  refine j_joinx (ι := Unit) (Γ' := fun _ => [(0, (sl u8).slot p_label), (1, (sl R_rolodexref14_Version).slot p_c), (2, (sl u8).slot p_at), (20, bl.slot y1)]) (H' := fun _ => []) 4 ?_ fun J => ?_
  · intro _
    clear e3
    show OpsJ _ _ _ [(0, (sl u8).slot p_label), (1, (sl R_rolodexref14_Version).slot p_c), (2, (sl u8).slot p_at), (20, bl.slot y1)] [] _
    refine j_pure (pj_move (has_tmp rfl)) rfl rfl rfl ?_
    obtain ⟨y2, e5, h⟩ := bind_some h
    refine j_joinx (ι := Unit) (Γ' := fun _ => [(0, (sl u8).slot p_label), (1, (sl R_rolodexref14_Version).slot p_c), (2, (sl u8).slot p_at), (25, bl.slot y2)]) (H' := fun _ => []) 4 ?_ fun J => ?_
    · intro _
      clear e5
      show OpsJ _ _ _ [(0, (sl u8).slot p_label), (1, (sl R_rolodexref14_Version).slot p_c), (2, (sl u8).slot p_at), (25, bl.slot y2)] [] _
      refine j_pure (pj_move (has_tmp rfl)) rfl rfl rfl ?_
      obtain ⟨y3, e8, h⟩ := bind_some h
      refine j_joinx (ι := Unit) (Γ' := fun _ => [(0, (sl u8).slot p_label), (1, (sl R_rolodexref14_Version).slot p_c), (2, (sl u8).slot p_at), (30, bl.slot y3)]) (H' := fun _ => []) 4 ?_ fun J => ?_
      · intro _
        clear e8
        show OpsJ _ _ _ [(0, (sl u8).slot p_label), (1, (sl R_rolodexref14_Version).slot p_c), (2, (sl u8).slot p_at), (30, bl.slot y3)] [] _
        refine j_pure (pj_move (has_tmp rfl)) rfl rfl rfl ?_
        obtain ⟨y4, e10, h⟩ := bind_some h
        refine j_joinx (ι := Unit) (Γ' := fun _ => [(0, (sl u8).slot p_label), (1, (sl R_rolodexref14_Version).slot p_c), (2, (sl u8).slot p_at), (36, bl.slot y4)]) (H' := fun _ => []) 5 ?_ fun J => ?_
        · intro _
          clear e10
          show OpsJ _ _ _ [(0, (sl u8).slot p_label), (1, (sl R_rolodexref14_Version).slot p_c), (2, (sl u8).slot p_at), (36, bl.slot y4)] [] _
          refine j_end ?_
          refine run_cond (has_tmp rfl) (fun e12 => ?_) (fun e12 => ?_)
          · replace h := bt e12 h
            refine run_seq ?_
            refine run_text ?_
            obtain ⟨r4, e13, h⟩ := bind_some h
            refine j_pure (pj_call (hasL_nil) (by kernel_rfl) (c_rolodexlaw23_awake hg0 hg1 e13)) rfl rfl rfl ?_
            refine j_pure (pj_assign (has_tmp rfl)) rfl rfl rfl ?_
            refine j_end ?_
            obtain rfl := Option.some.inj h
            exact run_ret fun a w hst => q_ret1 hst rfl (.tmp rfl) () (fun _ _ h => h) (.nil)
          · replace h := bf e12 h
            refine run_skip ?_
            refine run_seq ?_
            refine run_text ?_
            refine j_pure (pj_move (has_tmp rfl)) rfl rfl rfl ?_
            obtain ⟨r5, e14, h⟩ := bind_some h
            refine j_call (hasL_cons (has_tmp rfl) <| hasL_nil) (by kernel_rfl) (c_monitor_New e14) .nil rfl fun b1 => ?_
            refine j_pure (pj_assign (has_tmp rfl)) rfl rfl rfl ?_
            refine j_end ?_
            refine run_seq ?_
            refine run_text ?_
            refine j_pure (pj_assign has_i64) rfl rfl rfl ?_
            refine j_end ?_
            refine run_seq ?_
            refine run_seq ?_
            refine run_text ?_
            refine j_pure (pj_assign has_i64) rfl rfl rfl ?_
            refine j_end ?_
            obtain ⟨o, e29, h⟩ := bind_some h
            refine run_loop (Γi := fun (i : Unit) (s : Int × Int × (List (BitVec 8)) × Int × (List T_chain_Version)) => [(0, (sl u8).slot p_label), (1, (sl R_rolodexref14_Version).slot p_c), (2, (sl u8).slot p_at), (7, val (.pointer (some ⟨b1, 0, none⟩))), (8, i64.slot s.1), (9, i64.slot s.2.1)]) (Hi := fun (i : Unit) (s : Int × Int × (List (BitVec 8)) × Int × (List T_chain_Version)) => [box b1 97 (prod (sl u8) (prod i64 (sl R_chain_Version))) (s.2.2.1, s.2.2.2.1, s.2.2.2.2)]) (R := fun x a w => x = r → Qf a w) e29 () (fun a w hst => (hst.sub (.cons (.of_lk rfl) <| .cons (.of_lk rfl) <| .cons (.of_lk rfl) <| .cons (.of_lk rfl) <| .cons (.of_lk rfl) <| .cons (.of_lk rfl) <| .nil)).keep (.cons .here <| .nil)) ?_ ?_ ?_
            · clear h e29
              rintro _ ⟨y5, y6, y7, y8, y9⟩ lr h
              change rolodexlaw23_MonitorCut_L1 p_at p_c p_label y5 y6 y7 y8 y9 = some _ at h
              show Run _ _ _ [(0, (sl u8).slot p_label), (1, (sl R_rolodexref14_Version).slot p_c), (2, (sl u8).slot p_at), (7, val (.pointer (some ⟨b1, 0, none⟩))), (8, i64.slot y5), (9, i64.slot y6)] [box b1 97 (prod (sl u8) (prod i64 (sl R_chain_Version))) (y7, y8, y9)]
              unfold rolodexlaw23_MonitorCut_L1 at h
              refine run_seq ?_
              refine run_seq ?_
              refine run_text ?_
              refine j_pure (pj_move (has_tmp rfl)) rfl rfl rfl ?_
              refine j_pure (pj_move (has_tmp rfl)) rfl rfl rfl ?_
              refine j_pure (pj_len_sl (sz := 1) (has_tmp rfl) (by kernel_rfl)) rfl rfl rfl ?_
              refine j_pure (pj_ilss (has_tmp rfl) (has_tmp rfl)) rfl rfl rfl ?_
              refine j_end ?_
              refine run_cond (has_tmp rfl) (fun e15 => ?_) (fun e15 => ?_)
              · replace h := bt e15 h
                refine run_skip ?_
                refine run_seq ?_
                refine run_block ?_
                refine run_seq ?_
                refine run_text ?_
                refine j_pure (pj_move (has_tmp rfl)) rfl rfl rfl ?_
                refine j_pure (pj_assign (has_tmp rfl)) rfl rfl rfl ?_
                refine j_end ?_
                refine run_seq ?_
                refine run_text ?_
                refine j_pure (pj_move (has_tmp rfl)) rfl rfl rfl ?_
                refine j_pure (pj_move (has_tmp rfl)) rfl rfl rfl ?_
                refine j_pure (pj_move (has_tmp rfl)) rfl rfl rfl ?_
                obtain ⟨x1, e16, h⟩ := bind_some h
                refine j_pure (pj_index_slx (has_tmp rfl) (has_tmp rfl) isInt_i64 e16 (by kernel_rfl)) rfl rfl rfl ?_
                refine j_pure (pj_load_to (has_tmp rfl) (by kernel_rfl)) rfl rfl rfl ?_
                refine j_pure (pj_urem (k := .u8) (b := 8) (has_tmp rfl) (has_un (x := 4#8) rfl) (by decide)) rfl rfl rfl ?_
                refine j_pure (pj_conv_ui (by decide) (by kernel_rfl) (has_tmp rfl)) rfl rfl rfl ?_
                refine j_pure (pj_iadd has_i64 (has_tmp rfl)) rfl rfl rfl ?_
                refine j_pure (pj_iadd (has_tmp rfl) (has_tmp rfl)) rfl rfl rfl ?_
                obtain ⟨x2, e17, h⟩ := bind_some h
                refine j_pure (PJ.eqv (pj_assign (has_tmp rfl)) (Option.some.inj e17)) rfl rfl rfl ?_
                refine j_end ?_
                refine run_seq ?_
                refine run_text ?_
                refine j_pure (pj_move (has_tmp rfl)) rfl rfl rfl ?_
                refine j_pure (pj_move (has_tmp rfl)) rfl rfl rfl ?_
                obtain ⟨r6, e18, h⟩ := bind_some h
                refine j_pure (pj_call (hasL_cons (has_tmp rfl) <| hasL_cons (has_tmp rfl) <| hasL_nil) (by kernel_rfl) (Ctr.froze (c_rolodexref14_Upto e18))) rfl rfl rfl ?_
                refine j_pure (pj_assign (has_tmp rfl)) rfl rfl rfl ?_
                refine j_end ?_
                refine run_seq ?_
                refine run_text ?_
                refine j_pure (pj_move (has_tmp rfl)) rfl rfl rfl ?_
                refine j_pure (pj_move (has_tmp rfl)) rfl rfl rfl ?_
                refine j_pure (pj_move (has_tmp rfl)) rfl rfl rfl ?_
                refine j_pure (pj_move (has_tmp rfl)) rfl rfl rfl ?_
                obtain ⟨r7, e19, h⟩ := bind_some h
                refine j_pure (pj_call (hasL_cons (has_tmp rfl) <| hasL_nil) (by kernel_rfl) (Ctr.froze (c_rolodexlaw14_From e19))) rfl rfl rfl ?_
                obtain ⟨x3, e20, h⟩ := bind_some h
                refine j_pure (PJ.eqv (pj_build (R := R_session_Found) (zero_prod zero_sl (zero_prod zero_i64 (zero_prod (zero_prod zero_i64 (zero_prod zero_i64 (zero_prod (zero_vec 32 zero_un) (zero_vec 32 zero_un)))) zero_sl))) (by kernel_rfl) (by kernel_rfl) rfl (.cons (has_tmp rfl) (Path.fst (sl u8) (prod i64 (prod R_head_Head (sl R_chain_Version)))) (by kernel_rfl) (.cons (has_tmp rfl) (Path.then (Path.snd (sl u8) (prod i64 (prod R_head_Head (sl R_chain_Version)))) (Path.fst i64 (prod R_head_Head (sl R_chain_Version)))) (by kernel_rfl) (.cons (has_tmp rfl) (Path.then (Path.snd (sl u8) (prod i64 (prod R_head_Head (sl R_chain_Version)))) (Path.then (Path.snd i64 (prod R_head_Head (sl R_chain_Version))) (Path.snd R_head_Head (sl R_chain_Version)))) (by kernel_rfl) .nil)))) (Option.some.inj e20)) rfl rfl rfl ?_
                obtain ⟨r8, e21, h⟩ := bind_some h
                refine j_call (hasL_cons (has_tmp rfl) <| hasL_cons (has_tmp rfl) <| hasL_nil) (by kernel_rfl) (c_monitor_Monitor_Look hg0 hg1 e21) (.cons .here <| .nil) rfl fun v1 => ?_
                refine j_pure (pj_move (has_tmp rfl)) rfl rfl rfl ?_
                refine j_pure (pj_extract (has_tmp rfl) rfl) rfl rfl rfl ?_
                refine j_pure (pj_extract (has_tmp rfl) rfl) rfl rfl rfl ?_
                refine j_pure (pj_assign (has_tmp rfl)) rfl rfl rfl ?_
                refine j_pure (pj_assign (has_tmp rfl)) rfl rfl rfl ?_
                refine j_end ?_
                refine run_seq ?_
                refine run_text ?_
                refine j_pure (pj_move (has_tmp rfl)) rfl rfl rfl ?_
                refine j_pure (pj_ineq (has_tmp rfl) has_i64) rfl rfl rfl ?_
                refine j_pure (pj_move (has_tmp rfl)) rfl rfl rfl ?_
                refine j_freeze [12, 67] (.next .here) (frz_cons (.of_lk rfl) <| frz_cons (.of_lk rfl) <| frz_nil) ?_
                obtain ⟨y10, e23, h⟩ := bind_some h
                refine j_joinx (ι := Unit) (Γ' := fun _ => [(0, (sl u8).slot p_label), (1, (sl R_rolodexref14_Version).slot p_c), (2, (sl u8).slot p_at), (7, val (.pointer (some ⟨b1, 0, none⟩))), (8, i64.slot x2), (9, i64.slot y6), (82, bl.slot y10)]) (H' := fun _ => [box b1 97 (prod (sl u8) (prod i64 (sl R_chain_Version))) (r8.1.1, r8.1.2.1, r8.1.2.2)]) 11 ?_ fun J => ?_
                · intro _
                  clear e23
                  show OpsJ _ _ _ [(0, (sl u8).slot p_label), (1, (sl R_rolodexref14_Version).slot p_c), (2, (sl u8).slot p_at), (7, val (.pointer (some ⟨b1, 0, none⟩))), (8, i64.slot x2), (9, i64.slot y6), (82, bl.slot y10)] [box b1 97 (prod (sl u8) (prod i64 (sl R_chain_Version))) (r8.1.1, r8.1.2.1, r8.1.2.2)] _
                  refine j_end ?_
                  refine run_cond (has_tmp rfl) (fun e28 => ?_) (fun e28 => ?_)
                  · replace h := bt e28 h
                    refine run_seq ?_
                    refine run_text ?_
                    refine j_pure (pj_assign has_bl) rfl rfl rfl ?_
                    refine j_end ?_
                    obtain rfl := Option.some.inj h
                    refine run_ret fun a w hst => ⟨rfl, fun hr => ?_⟩
                    subst hr
                    exact hq2 a w (q_ret1 hst rfl (.tmp rfl) () (fun _ _ h => h) (.nil))
                  · replace h := bf e28 h
                    refine run_skip ?_
                    refine run_endblock ?_
                    refine run_text ?_
                    refine j_pure (pj_move (has_tmp rfl)) rfl rfl rfl ?_
                    refine j_pure (pj_iadd (has_tmp rfl) has_i64) rfl rfl rfl ?_
                    refine j_pure (pj_assign (has_tmp rfl)) rfl rfl rfl ?_
                    refine j_end ?_
                    obtain rfl := Option.some.inj h
                    exact run_next () (.cons (.of_lk rfl) <| .cons (.of_lk rfl) <| .cons (.of_lk rfl) <| .cons (.of_lk rfl) <| .cons (.of_lk rfl) <| .cons (.of_lk rfl) <| .nil) (.cons .here <| .nil)
                · rcases bool_tf (!decide (r8.2.2 = (0 : Int))) with e22 | e22
                  · replace e23 := bt e22 e23
                    refine j_guard_no2 (j := 2) (want := false) rfl rfl rfl rfl (bl_isx e22) rfl rfl rfl ?_
                    refine j_guard_no2 (j := 2) (want := false) rfl rfl rfl rfl (bl_isx e22) rfl rfl rfl ?_
                    refine j_guard_no2 (j := 2) (want := false) rfl rfl rfl rfl (bl_isx e22) rfl rfl rfl ?_
                    refine j_guard_no2 (j := 2) (want := false) rfl rfl rfl rfl (bl_isx e22) rfl rfl rfl ?_
                    refine j_guard_no2 (j := 2) (want := false) rfl rfl rfl rfl (bl_isx e22) rfl rfl rfl ?_
                    refine j_guard_no2 (j := 2) (want := false) rfl rfl rfl rfl (bl_isx e22) rfl rfl rfl ?_
                    refine j_guard_no2 (j := 2) (want := false) rfl rfl rfl rfl (bl_isx e22) rfl rfl rfl ?_
                    refine j_guard_no2 (j := 2) (want := false) rfl rfl rfl rfl (bl_isx e22) rfl rfl rfl ?_
                    refine j_guard_no2 (j := 2) (want := false) rfl rfl rfl rfl (bl_isx e22) rfl rfl rfl ?_
                    refine j_guard_no2 (j := 2) (want := false) rfl rfl rfl rfl (bl_isx e22) rfl rfl rfl ?_
                    refine j_pure (PJ.eqv (R := bl) (pj_pick (t := any) (has_tmp rfl) (fun _ => has_bl) (fun he => absurd (e22.symm.trans he) (by decide))) (Option.some.inj e23)) rfl rfl rfl ?_
                    exact j_to (.cons (.of_lk rfl) <| .cons (.of_lk rfl) <| .cons (.of_lk rfl) <| .cons (.of_lk rfl) <| .cons (.of_lk rfl) <| .cons (.of_lk rfl) <| .cons (.of_lk rfl) <| .nil) (.cons .here <| .nil) (J ())
                  · replace e23 := bf e22 e23
                    refine j_pure_y (pj_move (has_tmp rfl)) rfl rfl rfl rfl (bl_isx e22) rfl rfl ?_
                    obtain ⟨r9, e24, e23⟩ := bind_some e23
                    refine j_pure_y (pj_call (hasL_cons (has_tmp rfl) <| hasL_nil) (by kernel_rfl) (Ctr.froze (c_rolodexlaw14_To e24))) rfl rfl rfl rfl (bl_isx e22) rfl rfl ?_
                    refine j_pure_y (pj_move (has_tmp rfl)) rfl rfl rfl rfl (bl_isx e22) rfl rfl ?_
                    refine j_pure_y (pj_move (has_tmp rfl)) rfl rfl rfl rfl (bl_isx e22) rfl rfl ?_
                    refine j_pure_y (pj_move (has_tmp rfl)) rfl rfl rfl rfl (bl_isx e22) rfl rfl ?_
                    obtain ⟨r10, e25, e23⟩ := bind_some e23
                    refine j_pure_y (pj_call (hasL_cons (has_tmp rfl) <| hasL_cons (has_tmp rfl) <| hasL_nil) (by kernel_rfl) (Ctr.froze (c_rolodexref14_Upto e25))) rfl rfl rfl rfl (bl_isx e22) rfl rfl ?_
                    refine j_pure_y (pj_len_sl (sz := 67) (has_tmp rfl) (by kernel_rfl)) rfl rfl rfl rfl (bl_isx e22) rfl rfl ?_
                    obtain ⟨x4, e26, e23⟩ := bind_some e23
                    refine j_pure_y (pj_slice_slx (has_tmp rfl) (.yes (has_tmp rfl) isInt_i64) .no e26 (by kernel_rfl)) rfl rfl rfl rfl (bl_isx e22) rfl rfl ?_
                    obtain ⟨r11, e27, e23⟩ := bind_some e23
                    refine j_pure_y (pj_call (hasL_cons (has_tmp rfl) <| hasL_cons (has_tmp rfl) <| hasL_nil) (by kernel_rfl) (c_rolodexref14_Same e27)) rfl rfl rfl rfl (bl_isx e22) rfl rfl ?_
                    refine j_pure_y (pj_not (has_tmp rfl)) rfl rfl rfl rfl (bl_isx e22) rfl rfl ?_
                    refine j_pure (PJ.eqv (R := bl) (pj_pick (t := any) (has_tmp rfl) (fun he => absurd (e22.symm.trans he) (by decide)) (fun _ => (has_tmp rfl))) (Option.some.inj e23)) rfl rfl rfl ?_
                    exact j_to (.cons (.of_lk rfl) <| .cons (.of_lk rfl) <| .cons (.of_lk rfl) <| .cons (.of_lk rfl) <| .cons (.of_lk rfl) <| .cons (.of_lk rfl) <| .cons (.of_lk rfl) <| .nil) (.cons .here <| .nil) (J ())
              · replace h := bf e15 h
                obtain rfl := Option.some.inj h
                exact run_brk () (.cons (.of_lk rfl) <| .cons (.of_lk rfl) <| .cons (.of_lk rfl) <| .cons (.of_lk rfl) <| .cons (.of_lk rfl) <| .cons (.of_lk rfl) <| .nil) (.cons .here <| .nil)
            · rintro _ ⟨y11, y12, y13, y14, y15⟩ ho
              subst ho
              show Run _ _ _ [(0, (sl u8).slot p_label), (1, (sl R_rolodexref14_Version).slot p_c), (2, (sl u8).slot p_at), (7, val (.pointer (some ⟨b1, 0, none⟩))), (8, i64.slot y11), (9, i64.slot y12)] [box b1 97 (prod (sl u8) (prod i64 (sl R_chain_Version))) (y13, y14, y15)]
              refine run_to (Γ' := [(7, val (.pointer (some ⟨b1, 0, none⟩))), (8, i64.slot y11)]) (H' := [box b1 97 (prod (sl u8) (prod i64 (sl R_chain_Version))) (y13, y14, y15)]) (.cons (.of_lk rfl) <| .cons (.of_lk rfl) <| .nil) (.cons .here <| .nil) ?_
              refine run_seq ?_
              refine run_text ?_
              refine j_pure (pj_move (has_tmp rfl)) rfl rfl rfl ?_
              obtain ⟨r12, e30, h⟩ := bind_some h
              refine j_pure (pj_callR (hasL_cons (has_tmp rfl) <| hasL_nil) .here (by kernel_rfl) (fun _ => (c_monitor_Monitor_Epoch e30))) rfl rfl rfl ?_
              refine j_pure (pj_move (has_tmp rfl)) rfl rfl rfl ?_
              refine j_pure (pj_ieql (has_tmp rfl) (has_tmp rfl)) rfl rfl rfl ?_
              refine j_pure (pj_assign (has_tmp rfl)) rfl rfl rfl ?_
              refine j_end ?_
              obtain rfl := Option.some.inj h
              exact run_ret fun a w hst => q_ret1 hst rfl (.tmp rfl) () (fun _ _ h => h) (.nil)
            · intro x a w ho hR
              subst ho
              exact hq1 a w (hR (Option.some.inj h))
        · rcases bool_tf (y3) with e9 | e9
          · replace e10 := bt e9 e10
            refine j_guard_no2 (j := 17) (want := false) rfl rfl rfl rfl (bl_isx e9) rfl rfl rfl ?_
            refine j_guard_no2 (j := 17) (want := false) rfl rfl rfl rfl (bl_isx e9) rfl rfl rfl ?_
            refine j_guard_no2 (j := 17) (want := false) rfl rfl rfl rfl (bl_isx e9) rfl rfl rfl ?_
            refine j_guard_no2 (j := 17) (want := false) rfl rfl rfl rfl (bl_isx e9) rfl rfl rfl ?_
            refine j_pure (PJ.eqv (R := bl) (pj_pick (t := any) (has_tmp rfl) (fun _ => has_bl) (fun he => absurd (e9.symm.trans he) (by decide))) (Option.some.inj e10)) rfl rfl rfl ?_
            exact j_to (.cons (.of_lk rfl) <| .cons (.of_lk rfl) <| .cons (.of_lk rfl) <| .cons (.of_lk rfl) <| .nil) (.nil) (J ())
          · replace e10 := bf e9 e10
            refine j_pure_y (pj_move (has_tmp rfl)) rfl rfl rfl rfl (bl_isx e9) rfl rfl ?_
            refine j_pure_y (pj_move (has_tmp rfl)) rfl rfl rfl rfl (bl_isx e9) rfl rfl ?_
            obtain ⟨r3, e11, e10⟩ := bind_some e10
            refine j_pure_y (pj_call (hasL_cons (has_tmp rfl) <| hasL_cons (has_tmp rfl) <| hasL_nil) (by kernel_rfl) (c_rolodexref14_Formed e11)) rfl rfl rfl rfl (bl_isx e9) rfl rfl ?_
            refine j_pure_y (pj_not (has_tmp rfl)) rfl rfl rfl rfl (bl_isx e9) rfl rfl ?_
            refine j_pure (PJ.eqv (R := bl) (pj_pick (t := any) (has_tmp rfl) (fun he => absurd (e9.symm.trans he) (by decide)) (fun _ => (has_tmp rfl))) (Option.some.inj e10)) rfl rfl rfl ?_
            exact j_to (.cons (.of_lk rfl) <| .cons (.of_lk rfl) <| .cons (.of_lk rfl) <| .cons (.of_lk rfl) <| .nil) (.nil) (J ())
      · rcases bool_tf (y2) with e7 | e7
        · replace e8 := bt e7 e8
          refine j_guard_no2 (j := 12) (want := false) rfl rfl rfl rfl (bl_isx e7) rfl rfl rfl ?_
          refine j_guard_no2 (j := 12) (want := false) rfl rfl rfl rfl (bl_isx e7) rfl rfl rfl ?_
          refine j_guard_no2 (j := 12) (want := false) rfl rfl rfl rfl (bl_isx e7) rfl rfl rfl ?_
          refine j_pure (PJ.eqv (R := bl) (pj_pick (t := any) (has_tmp rfl) (fun _ => has_bl) (fun he => absurd (e7.symm.trans he) (by decide))) (Option.some.inj e8)) rfl rfl rfl ?_
          exact j_to (.cons (.of_lk rfl) <| .cons (.of_lk rfl) <| .cons (.of_lk rfl) <| .cons (.of_lk rfl) <| .nil) (.nil) (J ())
        · replace e8 := bf e7 e8
          refine j_pure_y (pj_move (has_tmp rfl)) rfl rfl rfl rfl (bl_isx e7) rfl rfl ?_
          refine j_pure_y (pj_len_sl (sz := 1) (has_tmp rfl) (by kernel_rfl)) rfl rfl rfl rfl (bl_isx e7) rfl rfl ?_
          refine j_pure_y (pj_igtr (has_tmp rfl) has_i64) rfl rfl rfl rfl (bl_isx e7) rfl rfl ?_
          refine j_pure (PJ.eqv (R := bl) (pj_pick (t := any) (has_tmp rfl) (fun he => absurd (e7.symm.trans he) (by decide)) (fun _ => (has_tmp rfl))) (Option.some.inj e8)) rfl rfl rfl ?_
          exact j_to (.cons (.of_lk rfl) <| .cons (.of_lk rfl) <| .cons (.of_lk rfl) <| .cons (.of_lk rfl) <| .nil) (.nil) (J ())
    · rcases bool_tf (y1) with e4 | e4
      · replace e5 := bt e4 e5
        refine j_guard_no2 (j := 7) (want := false) rfl rfl rfl rfl (bl_isx e4) rfl rfl rfl ?_
        refine j_guard_no2 (j := 7) (want := false) rfl rfl rfl rfl (bl_isx e4) rfl rfl rfl ?_
        refine j_guard_no2 (j := 7) (want := false) rfl rfl rfl rfl (bl_isx e4) rfl rfl rfl ?_
        refine j_pure (PJ.eqv (R := bl) (pj_pick (t := any) (has_tmp rfl) (fun _ => has_bl) (fun he => absurd (e4.symm.trans he) (by decide))) (Option.some.inj e5)) rfl rfl rfl ?_
        exact j_to (.cons (.of_lk rfl) <| .cons (.of_lk rfl) <| .cons (.of_lk rfl) <| .cons (.of_lk rfl) <| .nil) (.nil) (J ())
      · replace e5 := bf e4 e5
        refine j_pure_y (pj_move (has_tmp rfl)) rfl rfl rfl rfl (bl_isx e4) rfl rfl ?_
        obtain ⟨r2, e6, e5⟩ := bind_some e5
        refine j_pure_y (pj_call (hasL_cons (has_tmp rfl) <| hasL_cons has_i64 <| hasL_nil) (by kernel_rfl) (c_rolodexref14_Few e6)) rfl rfl rfl rfl (bl_isx e4) rfl rfl ?_
        refine j_pure_y (pj_not (has_tmp rfl)) rfl rfl rfl rfl (bl_isx e4) rfl rfl ?_
        refine j_pure (PJ.eqv (R := bl) (pj_pick (t := any) (has_tmp rfl) (fun he => absurd (e4.symm.trans he) (by decide)) (fun _ => (has_tmp rfl))) (Option.some.inj e5)) rfl rfl rfl ?_
        exact j_to (.cons (.of_lk rfl) <| .cons (.of_lk rfl) <| .cons (.of_lk rfl) <| .cons (.of_lk rfl) <| .nil) (.nil) (J ())
  · rcases bool_tf (!r1) with e2 | e2
    · replace e3 := bt e2 e3
      refine j_guard_no2 (j := 2) (want := false) rfl rfl rfl rfl (bl_isx e2) rfl rfl rfl ?_
      refine j_guard_no2 (j := 2) (want := false) rfl rfl rfl rfl (bl_isx e2) rfl rfl rfl ?_
      refine j_guard_no2 (j := 2) (want := false) rfl rfl rfl rfl (bl_isx e2) rfl rfl rfl ?_
      refine j_pure (PJ.eqv (R := bl) (pj_pick (t := any) (has_tmp rfl) (fun _ => has_bl) (fun he => absurd (e2.symm.trans he) (by decide))) (Option.some.inj e3)) rfl rfl rfl ?_
      exact j_to (.cons (.of_lk rfl) <| .cons (.of_lk rfl) <| .cons (.of_lk rfl) <| .cons (.of_lk rfl) <| .nil) (.nil) (J ())
    · replace e3 := bf e2 e3
      refine j_pure_y (pj_move (has_tmp rfl)) rfl rfl rfl rfl (bl_isx e2) rfl rfl ?_
      refine j_pure_y (pj_len_sl (sz := 1) (has_tmp rfl) (by kernel_rfl)) rfl rfl rfl rfl (bl_isx e2) rfl rfl ?_
      refine j_pure_y (pj_igtr (has_tmp rfl) has_i64) rfl rfl rfl rfl (bl_isx e2) rfl rfl ?_
      refine j_pure (PJ.eqv (R := bl) (pj_pick (t := any) (has_tmp rfl) (fun he => absurd (e2.symm.trans he) (by decide)) (fun _ => (has_tmp rfl))) (Option.some.inj e3)) rfl rfl rfl ?_
      exact j_to (.cons (.of_lk rfl) <| .cons (.of_lk rfl) <| .cons (.of_lk rfl) <| .cons (.of_lk rfl) <| .nil) (.nil) (J ())
end Go.Sl.W
