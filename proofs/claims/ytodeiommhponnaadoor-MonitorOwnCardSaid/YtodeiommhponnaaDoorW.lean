import Derived.Test.YtodeiommhponnaaDoorWA
import Derived.Test.YtodeiommhponnaaDoorOp16
import Derived.Test.YtodeiommhponnaaDoorProg
set_option linter.unusedSimpArgs false
set_option linter.unusedVariables false
set_option linter.unusedSectionVars false
namespace Go.Sl.W
open Go.Proofs Go.Sl Go.Sl.M
set_option maxRecDepth 100000 in
set_option maxHeartbeats 4000000 in
theorem c_chain_Formed {G : GP} (hg0 : HG0 G) (hg1 : HG1 G) {p_label : List (BitVec 8)} {p_chain : List T_chain_Version} {r : Bool} (h : chain_Formed p_label p_chain = some r) : Ctr Tryd.prog G 32 [(sl u8).slot p_label, (sl R_chain_Version).slot p_chain] [] (fun (_ : Unit) => bl.slot r) (fun (_ : Unit) => []) := by
  unfold chain_Formed at h
  refine ctr_of_run Tryd.func32 rfl 58 rfl rfl fun m0 w0 b0 => ?_
  refine run_ret0 fun Qf hq1 hq2 => ?_
  show Run _ _ _ [(0, (sl u8).slot p_label), (1, (sl R_chain_Version).slot p_chain)] _
  refine rs ?_
  refine rt ?_
  refine jp (pa has_bl) rfl rfl rfl ?_
  refine j_end ?_
  refine rs ?_
  refine rs ?_
  refine rt ?_
  refine jp (pm (ht rfl)) rfl rfl rfl ?_
  obtain ⟨r1, e1, h⟩ := bind_some h
  refine jp (pj_call (hc (ht rfl) <| hasL_nil) (by kernel_rfl) (c_chain_is e1)) rfl rfl rfl ?_
  refine jp (pj_not (ht rfl)) rfl rfl rfl ?_
  refine jp (pm (ht rfl)) rfl rfl rfl ?_
  obtain ⟨y1, e3, h⟩ := bind_some h
  refine j_joinx (ι := Unit) (Γ' := fun _ => [(0, (sl u8).slot p_label), (1, (sl R_chain_Version).slot p_chain), (16, bl.slot y1)]) (H' := fun _ => []) 4 ?_ fun J => ?_
  · intro _
    clear e3
    show OpsJ _ _ _ [(0, (sl u8).slot p_label), (1, (sl R_chain_Version).slot p_chain), (16, bl.slot y1)] [] _
    refine j_end ?_
    refine run_cond (ht rfl) (fun e4 => ?_) (fun e4 => ?_)
    · replace h := bt e4 h
      refine rs ?_
      refine rt ?_
      refine jp (pa has_bl) rfl rfl rfl ?_
      refine j_end ?_
      obtain rfl := oi h
      exact run_ret fun a w hst => q_ret1 hst rfl (.tmp rfl) () (fun _ _ h => h) (.nil)
    · replace h := bf e4 h
      refine run_skip ?_
      refine rs ?_
      refine rt ?_
      refine j_alloc (x := (Vector.replicate 32 (0#8))) (R := R_api_Hash) (zero_vec 32 zero_un) (by kernel_rfl) rfl fun b1 => ?_
      refine j_end ?_
      refine rs ?_
      refine rt ?_
      refine jp (pa has_i64) rfl rfl rfl ?_
      refine j_end ?_
      refine rs ?_
      refine rs ?_
      refine rt ?_
      refine jp (pm (ht rfl)) rfl rfl rfl ?_
      refine jp (pj_len_sl (sz := 67) (ht rfl) (by kernel_rfl)) rfl rfl rfl ?_
      refine jp (pm has_i64) rfl rfl rfl ?_
      refine j_end ?_
      obtain ⟨o, e17, h⟩ := bind_some h
      refine run_loop (Γi := fun (i : Unit) (s : Int × Int × T_api_Hash) => [(0, (sl u8).slot p_label), (5, val (.pointer (some ⟨b1, 0, none⟩))), (6, i64.slot s.1), (17, (sl R_chain_Version).slot p_chain), (18, i64.slot (p_chain.length : Int)), (19, i64.slot s.2.1)]) (Hi := fun (i : Unit) (s : Int × Int × T_api_Hash) => [box b1 25 R_api_Hash s.2.2]) (R := fun x a w => x = r → Qf a w) e17 () (fun a w hst => (hst.sub (.cons (.of_lk rfl) <| .cons (.of_lk rfl) <| .cons (.of_lk rfl) <| .cons (.of_lk rfl) <| .cons (.of_lk rfl) <| .cons (.of_lk rfl) <| .nil)).keep (.cons .here <| .nil)) ?_ ?_ ?_
      · clear h e17
        rintro _ ⟨y2, y3, y4⟩ lr h
        change chain_Formed_L1 p_chain p_label y2 y3 y4 = some _ at h
        show Run _ _ _ [(0, (sl u8).slot p_label), (5, val (.pointer (some ⟨b1, 0, none⟩))), (6, i64.slot y2), (17, (sl R_chain_Version).slot p_chain), (18, i64.slot (p_chain.length : Int)), (19, i64.slot y3)] [box b1 25 R_api_Hash y4]
        unfold chain_Formed_L1 at h
        refine rs ?_
        refine rt ?_
        refine jp (pj_ilss (ht rfl) (ht rfl)) rfl rfl rfl ?_
        refine j_end ?_
        refine rs ?_
        refine run_cond (ht rfl) (fun e5 => ?_) (fun e5 => ?_)
        · replace h := bt e5 h
          refine run_skip ?_
          refine rs ?_
          refine run_block ?_
          refine rs ?_
          refine rt ?_
          refine jp (pm (ht rfl)) rfl rfl rfl ?_
          obtain ⟨x1, e6, h⟩ := bind_some h
          refine jp (pj_index_slx (ht rfl) (ht rfl) isInt_i64 e6 (by kernel_rfl)) rfl rfl rfl ?_
          refine jp (pl (ht rfl) (by kernel_rfl)) rfl rfl rfl ?_
          refine j_alloc (x := (0, 0, (Vector.replicate 32 (0#8)), (Vector.replicate 32 (0#8)), ([] : List (BitVec 8)))) (R := R_chain_Version) (zero_prod zero_i64 (zero_prod zero_i64 (zero_prod (zero_vec 32 zero_un) (zero_prod (zero_vec 32 zero_un) zero_sl)))) (by kernel_rfl) rfl fun b2 => ?_
          refine jp (pa (ht rfl)) rfl rfl rfl ?_
          refine j_store_boxx (r' := x1) (ht rfl) (ht rfl) .here (Path.all R_chain_Version) (by kernel_rfl) rfl ?_
          refine j_freezeTo (t := 8) .here (.of_lk rfl) ?_
          refine j_end ?_
          refine rs ?_
          refine rs ?_
          refine rt ?_
          refine jp (pj_field_to (ht rfl) (Path.fst i64 (prod i64 (prod R_api_Hash (prod R_api_Hash (sl u8))))) (by kernel_rfl)) rfl rfl rfl ?_
          refine jp (pl (ht rfl) (by kernel_rfl)) rfl rfl rfl ?_
          refine jp (pm (ht rfl)) rfl rfl rfl ?_
          refine jp (pj_iadd (ht rfl) has_i64) rfl rfl rfl ?_
          refine jp (pj_ineq (ht rfl) (ht rfl)) rfl rfl rfl ?_
          refine jp (pm (ht rfl)) rfl rfl rfl ?_
          obtain ⟨y5, e8, h⟩ := bind_some h
          refine j_joinx (ι := Unit) (Γ' := fun _ => [(0, (sl u8).slot p_label), (5, val (.pointer (some ⟨b1, 0, none⟩))), (8, ptrTo R_chain_Version x1), (17, (sl R_chain_Version).slot p_chain), (18, i64.slot (p_chain.length : Int)), (19, i64.slot y3), (34, bl.slot y5)]) (H' := fun _ => [box b1 25 R_api_Hash y4]) 5 ?_ fun J => ?_
          · intro _
            clear e8
            show OpsJ _ _ _ [(0, (sl u8).slot p_label), (5, val (.pointer (some ⟨b1, 0, none⟩))), (8, ptrTo R_chain_Version x1), (17, (sl R_chain_Version).slot p_chain), (18, i64.slot (p_chain.length : Int)), (19, i64.slot y3), (34, bl.slot y5)] [box b1 25 R_api_Hash y4] _
            refine jp (pm (ht rfl)) rfl rfl rfl ?_
            obtain ⟨y6, e10, h⟩ := bind_some h
            refine j_joinx (ι := Unit) (Γ' := fun _ => [(0, (sl u8).slot p_label), (5, val (.pointer (some ⟨b1, 0, none⟩))), (8, ptrTo R_chain_Version x1), (17, (sl R_chain_Version).slot p_chain), (18, i64.slot (p_chain.length : Int)), (19, i64.slot y3), (39, bl.slot y6)]) (H' := fun _ => [box b1 25 R_api_Hash y4]) 4 ?_ fun J => ?_
            · intro _
              clear e10
              show OpsJ _ _ _ [(0, (sl u8).slot p_label), (5, val (.pointer (some ⟨b1, 0, none⟩))), (8, ptrTo R_chain_Version x1), (17, (sl R_chain_Version).slot p_chain), (18, i64.slot (p_chain.length : Int)), (19, i64.slot y3), (39, bl.slot y6)] [box b1 25 R_api_Hash y4] _
              refine jp (pm (ht rfl)) rfl rfl rfl ?_
              obtain ⟨y7, e12, h⟩ := bind_some h
              refine j_joinx (ι := Unit) (Γ' := fun _ => [(0, (sl u8).slot p_label), (5, val (.pointer (some ⟨b1, 0, none⟩))), (8, ptrTo R_chain_Version x1), (17, (sl R_chain_Version).slot p_chain), (18, i64.slot (p_chain.length : Int)), (19, i64.slot y3), (45, bl.slot y7)]) (H' := fun _ => [box b1 25 R_api_Hash y4]) 5 ?_ fun J => ?_
              · intro _
                clear e12
                show OpsJ _ _ _ [(0, (sl u8).slot p_label), (5, val (.pointer (some ⟨b1, 0, none⟩))), (8, ptrTo R_chain_Version x1), (17, (sl R_chain_Version).slot p_chain), (18, i64.slot (p_chain.length : Int)), (19, i64.slot y3), (45, bl.slot y7)] [box b1 25 R_api_Hash y4] _
                refine jp (pm (ht rfl)) rfl rfl rfl ?_
                obtain ⟨y8, e14, h⟩ := bind_some h
                refine j_joinx (ι := Unit) (Γ' := fun _ => [(0, (sl u8).slot p_label), (5, val (.pointer (some ⟨b1, 0, none⟩))), (8, ptrTo R_chain_Version x1), (17, (sl R_chain_Version).slot p_chain), (18, i64.slot (p_chain.length : Int)), (19, i64.slot y3), (51, bl.slot y8)]) (H' := fun _ => [box b1 25 R_api_Hash y4]) 5 ?_ fun J => ?_
                · intro _
                  clear e14
                  show OpsJ _ _ _ [(0, (sl u8).slot p_label), (5, val (.pointer (some ⟨b1, 0, none⟩))), (8, ptrTo R_chain_Version x1), (17, (sl R_chain_Version).slot p_chain), (18, i64.slot (p_chain.length : Int)), (19, i64.slot y3), (51, bl.slot y8)] [box b1 25 R_api_Hash y4] _
                  refine j_end ?_
                  refine run_cond (ht rfl) (fun e15 => ?_) (fun e15 => ?_)
                  · replace h := bt e15 h
                    refine rs ?_
                    refine rt ?_
                    refine jp (pa has_bl) rfl rfl rfl ?_
                    refine j_end ?_
                    obtain rfl := oi h
                    refine run_ret fun a w hst => ⟨rfl, fun hr => ?_⟩
                    subst hr
                    exact hq2 a w (q_ret1 hst rfl (.tmp rfl) () (fun _ _ h => h) (.nil))
                  · replace h := bf e15 h
                    refine run_skip ?_
                    obtain ⟨r2, e16, h⟩ := bind_some h
                    refine run_keep (H' := [box b1 25 R_api_Hash y4]) (.cons .here <| .nil) ?_
                    refine run_drawL (n := 6) (H := []) (Ls := [⟨[box b1 25 R_api_Hash y4], [(5, ⟨Unit, fun (_ : Unit) => [box b1 25 R_api_Hash r2], fun (_ : Unit) => []⟩)]⟩]) (by kernel_rfl) (by kernel_rfl) (by kernel_rfl) (by kernel_rfl) (by kernel_rfl) rfl (.read rfl (.plain rfl (pm (ht rfl))) <| .read rfl (.plain rfl (pl (ht rfl) (by kernel_rfl))) <| .read rfl (.plain rfl (pj_call (hc (ht rfl) <| hc (ht rfl) <| hasL_nil) (by kernel_rfl) (c_chain_Commit hg0 hg1 e16))) <| .read rfl (.plain rfl (pj_field_to (ht rfl) (Path.then (Path.snd i64 (prod i64 (prod R_api_Hash (prod R_api_Hash (sl u8))))) (Path.fst i64 (prod R_api_Hash (prod R_api_Hash (sl u8))))) (by kernel_rfl))) <| .read rfl (.plain rfl (pl (ht rfl) (by kernel_rfl))) <| .step 0 rfl .here (.inl rfl) (fun i => ⟨_, _, fun _ => (), (w_store (r' := r2) (ht rfl) (ht rfl) .here (Path.all R_api_Hash) (by kernel_rfl) rfl), fun _ => rfl, (slotNo (s := any)), dst0⟩) <| .nil) ?_
                    rintro _
                    refine j_to (Γ' := [(0, (sl u8).slot p_label), (5, val (.pointer (some ⟨b1, 0, none⟩))), (17, (sl R_chain_Version).slot p_chain), (18, i64.slot (p_chain.length : Int)), (19, i64.slot y3), (56, i64.slot x1.2.1)]) (H' := [box b1 25 R_api_Hash r2]) (.cons (.of_lk rfl) <| .cons (.of_lk rfl) <| .cons (.of_lk rfl) <| .cons (.of_lk rfl) <| .cons (.of_lk rfl) <| .cons (.of_lk rfl) <| .nil) (.cons .here <| .nil) ?_
                    refine jp (pa (ht rfl)) rfl rfl rfl ?_
                    refine j_end ?_
                    refine run_endblock ?_
                    refine rt ?_
                    refine jp (pj_iadd (ht rfl) has_i64) rfl rfl rfl ?_
                    refine jp (pm (ht rfl)) rfl rfl rfl ?_
                    refine j_end ?_
                    obtain rfl := oi h
                    exact run_next () (.cons (.of_lk rfl) <| .cons (.of_lk rfl) <| .cons (.of_lk rfl) <| .cons (.of_lk rfl) <| .cons (.of_lk rfl) <| .cons (.of_lk rfl) <| .nil) (.cons .here <| .nil)
                · rcases bool_tf (y7) with e13 | e13
                  · replace e14 := bt e13 e14
                    refine j_guard_no2 (j := 22) (want := false) rfl rfl rfl rfl (bl_isx e13) rfl rfl rfl ?_
                    refine j_guard_no2 (j := 22) (want := false) rfl rfl rfl rfl (bl_isx e13) rfl rfl rfl ?_
                    refine j_guard_no2 (j := 22) (want := false) rfl rfl rfl rfl (bl_isx e13) rfl rfl rfl ?_
                    refine j_guard_no2 (j := 22) (want := false) rfl rfl rfl rfl (bl_isx e13) rfl rfl rfl ?_
                    refine jp (PJ.eqv (R := bl) (pj_pick (t := any) (ht rfl) (fun _ => has_bl) (fun he => absurd (e13.symm.trans he) (by decide))) (oi e14)) rfl rfl rfl ?_
                    exact j_to (.cons (.of_lk rfl) <| .cons (.of_lk rfl) <| .cons (.of_lk rfl) <| .cons (.of_lk rfl) <| .cons (.of_lk rfl) <| .cons (.of_lk rfl) <| .cons (.of_lk rfl) <| .nil) (.cons .here <| .nil) (J ())
                  · replace e14 := bf e13 e14
                    refine jy (pj_field_to (ht rfl) (Path.then (Path.snd i64 (prod i64 (prod R_api_Hash (prod R_api_Hash (sl u8))))) (Path.then (Path.snd i64 (prod R_api_Hash (prod R_api_Hash (sl u8)))) (Path.then (Path.snd R_api_Hash (prod R_api_Hash (sl u8))) (Path.snd R_api_Hash (sl u8))))) (by kernel_rfl)) rfl rfl rfl rfl (bl_isx e13) rfl rfl ?_
                    refine jy (pl (ht rfl) (by kernel_rfl)) rfl rfl rfl rfl (bl_isx e13) rfl rfl ?_
                    refine jy (pj_len_sl (sz := 1) (ht rfl) (by kernel_rfl)) rfl rfl rfl rfl (bl_isx e13) rfl rfl ?_
                    refine jy (pj_igtr (ht rfl) has_i64) rfl rfl rfl rfl (bl_isx e13) rfl rfl ?_
                    refine jp (PJ.eqv (R := bl) (pj_pick (t := any) (ht rfl) (fun he => absurd (e13.symm.trans he) (by decide)) (fun _ => (ht rfl))) (oi e14)) rfl rfl rfl ?_
                    exact j_to (.cons (.of_lk rfl) <| .cons (.of_lk rfl) <| .cons (.of_lk rfl) <| .cons (.of_lk rfl) <| .cons (.of_lk rfl) <| .cons (.of_lk rfl) <| .cons (.of_lk rfl) <| .nil) (.cons .here <| .nil) (J ())
              · rcases bool_tf (y6) with e11 | e11
                · replace e12 := bt e11 e12
                  refine j_guard_no2 (j := 16) (want := false) rfl rfl rfl rfl (bl_isx e11) rfl rfl rfl ?_
                  refine j_guard_no2 (j := 16) (want := false) rfl rfl rfl rfl (bl_isx e11) rfl rfl rfl ?_
                  refine j_guard_no2 (j := 16) (want := false) rfl rfl rfl rfl (bl_isx e11) rfl rfl rfl ?_
                  refine j_guard_no2 (j := 16) (want := false) rfl rfl rfl rfl (bl_isx e11) rfl rfl rfl ?_
                  refine jp (PJ.eqv (R := bl) (pj_pick (t := any) (ht rfl) (fun _ => has_bl) (fun he => absurd (e11.symm.trans he) (by decide))) (oi e12)) rfl rfl rfl ?_
                  exact j_to (.cons (.of_lk rfl) <| .cons (.of_lk rfl) <| .cons (.of_lk rfl) <| .cons (.of_lk rfl) <| .cons (.of_lk rfl) <| .cons (.of_lk rfl) <| .cons (.of_lk rfl) <| .nil) (.cons .here <| .nil) (J ())
                · replace e12 := bf e11 e12
                  refine jy (pj_field_to (ht rfl) (Path.then (Path.snd i64 (prod i64 (prod R_api_Hash (prod R_api_Hash (sl u8))))) (Path.then (Path.snd i64 (prod R_api_Hash (prod R_api_Hash (sl u8)))) (Path.then (Path.snd R_api_Hash (prod R_api_Hash (sl u8))) (Path.fst R_api_Hash (sl u8))))) (by kernel_rfl)) rfl rfl rfl rfl (bl_isx e11) rfl rfl ?_
                  refine jy (pl (ht rfl) (by kernel_rfl)) rfl rfl rfl rfl (bl_isx e11) rfl rfl ?_
                  refine jy (pj_load_box (ht rfl) .here (Path.all R_api_Hash) (by kernel_rfl)) rfl rfl rfl rfl (bl_isx e11) rfl rfl ?_
                  refine jy (pj_neq (n := 2) (eq_vec (e := 5) (by kernel_rfl) (by kernel_rfl) (eq_un (by kernel_rfl))) (by decide) rfl (by kernel_rfl) (ht rfl) (ht rfl)) rfl rfl rfl rfl (bl_isx e11) rfl rfl ?_
                  refine jp (PJ.eqv (R := bl) (pj_pick (t := any) (ht rfl) (fun he => absurd (e11.symm.trans he) (by decide)) (fun _ => (ht rfl))) (oi e12)) rfl rfl rfl ?_
                  exact j_to (.cons (.of_lk rfl) <| .cons (.of_lk rfl) <| .cons (.of_lk rfl) <| .cons (.of_lk rfl) <| .cons (.of_lk rfl) <| .cons (.of_lk rfl) <| .cons (.of_lk rfl) <| .nil) (.cons .here <| .nil) (J ())
            · rcases bool_tf (y5) with e9 | e9
              · replace e10 := bt e9 e10
                refine j_guard_no2 (j := 11) (want := false) rfl rfl rfl rfl (bl_isx e9) rfl rfl rfl ?_
                refine j_guard_no2 (j := 11) (want := false) rfl rfl rfl rfl (bl_isx e9) rfl rfl rfl ?_
                refine j_guard_no2 (j := 11) (want := false) rfl rfl rfl rfl (bl_isx e9) rfl rfl rfl ?_
                refine jp (PJ.eqv (R := bl) (pj_pick (t := any) (ht rfl) (fun _ => has_bl) (fun he => absurd (e9.symm.trans he) (by decide))) (oi e10)) rfl rfl rfl ?_
                exact j_to (.cons (.of_lk rfl) <| .cons (.of_lk rfl) <| .cons (.of_lk rfl) <| .cons (.of_lk rfl) <| .cons (.of_lk rfl) <| .cons (.of_lk rfl) <| .cons (.of_lk rfl) <| .nil) (.cons .here <| .nil) (J ())
              · replace e10 := bf e9 e10
                refine jy (pj_field_to (ht rfl) (Path.then (Path.snd i64 (prod i64 (prod R_api_Hash (prod R_api_Hash (sl u8))))) (Path.fst i64 (prod R_api_Hash (prod R_api_Hash (sl u8))))) (by kernel_rfl)) rfl rfl rfl rfl (bl_isx e9) rfl rfl ?_
                refine jy (pl (ht rfl) (by kernel_rfl)) rfl rfl rfl rfl (bl_isx e9) rfl rfl ?_
                refine jy (pj_igeq (ht rfl) has_i64) rfl rfl rfl rfl (bl_isx e9) rfl rfl ?_
                refine jp (PJ.eqv (R := bl) (pj_pick (t := any) (ht rfl) (fun he => absurd (e9.symm.trans he) (by decide)) (fun _ => (ht rfl))) (oi e10)) rfl rfl rfl ?_
                exact j_to (.cons (.of_lk rfl) <| .cons (.of_lk rfl) <| .cons (.of_lk rfl) <| .cons (.of_lk rfl) <| .cons (.of_lk rfl) <| .cons (.of_lk rfl) <| .cons (.of_lk rfl) <| .nil) (.cons .here <| .nil) (J ())
          · rcases bool_tf (!decide (x1.1 = (w64 (y3 + (1 : Int))))) with e7 | e7
            · replace e8 := bt e7 e8
              refine j_guard_no2 (j := 5) (want := false) rfl rfl rfl rfl (bl_isx e7) rfl rfl rfl ?_
              refine j_guard_no2 (j := 5) (want := false) rfl rfl rfl rfl (bl_isx e7) rfl rfl rfl ?_
              refine j_guard_no2 (j := 5) (want := false) rfl rfl rfl rfl (bl_isx e7) rfl rfl rfl ?_
              refine j_guard_no2 (j := 5) (want := false) rfl rfl rfl rfl (bl_isx e7) rfl rfl rfl ?_
              refine jp (PJ.eqv (R := bl) (pj_pick (t := any) (ht rfl) (fun _ => has_bl) (fun he => absurd (e7.symm.trans he) (by decide))) (oi e8)) rfl rfl rfl ?_
              exact j_to (.cons (.of_lk rfl) <| .cons (.of_lk rfl) <| .cons (.of_lk rfl) <| .cons (.of_lk rfl) <| .cons (.of_lk rfl) <| .cons (.of_lk rfl) <| .cons (.of_lk rfl) <| .nil) (.cons .here <| .nil) (J ())
            · replace e8 := bf e7 e8
              refine jy (pj_field_to (ht rfl) (Path.then (Path.snd i64 (prod i64 (prod R_api_Hash (prod R_api_Hash (sl u8))))) (Path.fst i64 (prod R_api_Hash (prod R_api_Hash (sl u8))))) (by kernel_rfl)) rfl rfl rfl rfl (bl_isx e7) rfl rfl ?_
              refine jy (pl (ht rfl) (by kernel_rfl)) rfl rfl rfl rfl (bl_isx e7) rfl rfl ?_
              refine jy (pm (ht rfl)) rfl rfl rfl rfl (bl_isx e7) rfl rfl ?_
              refine jy (pj_ileq (ht rfl) (ht rfl)) rfl rfl rfl rfl (bl_isx e7) rfl rfl ?_
              refine jp (PJ.eqv (R := bl) (pj_pick (t := any) (ht rfl) (fun he => absurd (e7.symm.trans he) (by decide)) (fun _ => (ht rfl))) (oi e8)) rfl rfl rfl ?_
              exact j_to (.cons (.of_lk rfl) <| .cons (.of_lk rfl) <| .cons (.of_lk rfl) <| .cons (.of_lk rfl) <| .cons (.of_lk rfl) <| .cons (.of_lk rfl) <| .cons (.of_lk rfl) <| .nil) (.cons .here <| .nil) (J ())
        · replace h := bf e5 h
          obtain rfl := oi h
          exact run_brk () (.cons (.of_lk rfl) <| .cons (.of_lk rfl) <| .cons (.of_lk rfl) <| .cons (.of_lk rfl) <| .cons (.of_lk rfl) <| .cons (.of_lk rfl) <| .nil) (.cons .here <| .nil)
      · rintro _ ⟨y9, y10, y11⟩ ho
        subst ho
        show Run _ _ _ [(0, (sl u8).slot p_label), (5, val (.pointer (some ⟨b1, 0, none⟩))), (6, i64.slot y9), (17, (sl R_chain_Version).slot p_chain), (18, i64.slot (p_chain.length : Int)), (19, i64.slot y10)] [box b1 25 R_api_Hash y11]
        refine run_to (Γ' := []) (H' := []) (.nil) (.nil) ?_
        refine rs ?_
        refine rt ?_
        refine jp (pa has_bl) rfl rfl rfl ?_
        refine j_end ?_
        obtain rfl := oi h
        exact run_ret fun a w hst => q_ret1 hst rfl (.tmp rfl) () (fun _ _ h => h) (.nil)
      · intro x a w ho hR
        subst ho
        exact hq1 a w (hR (oi h))
  · rcases bool_tf (!r1) with e2 | e2
    · replace e3 := bt e2 e3
      refine j_guard_no2 (j := 3) (want := false) rfl rfl rfl rfl (bl_isx e2) rfl rfl rfl ?_
      refine j_guard_no2 (j := 3) (want := false) rfl rfl rfl rfl (bl_isx e2) rfl rfl rfl ?_
      refine j_guard_no2 (j := 3) (want := false) rfl rfl rfl rfl (bl_isx e2) rfl rfl rfl ?_
      refine jp (PJ.eqv (R := bl) (pj_pick (t := any) (ht rfl) (fun _ => has_bl) (fun he => absurd (e2.symm.trans he) (by decide))) (oi e3)) rfl rfl rfl ?_
      exact j_to (.cons (.of_lk rfl) <| .cons (.of_lk rfl) <| .cons (.of_lk rfl) <| .nil) (.nil) (J ())
    · replace e3 := bf e2 e3
      refine jy (pm (ht rfl)) rfl rfl rfl rfl (bl_isx e2) rfl rfl ?_
      refine jy (pj_len_sl (sz := 67) (ht rfl) (by kernel_rfl)) rfl rfl rfl rfl (bl_isx e2) rfl rfl ?_
      refine jy (pj_ieql (ht rfl) has_i64) rfl rfl rfl rfl (bl_isx e2) rfl rfl ?_
      refine jp (PJ.eqv (R := bl) (pj_pick (t := any) (ht rfl) (fun he => absurd (e2.symm.trans he) (by decide)) (fun _ => (ht rfl))) (oi e3)) rfl rfl rfl ?_
      exact j_to (.cons (.of_lk rfl) <| .cons (.of_lk rfl) <| .cons (.of_lk rfl) <| .nil) (.nil) (J ())
set_option maxRecDepth 100000 in
set_option maxHeartbeats 4000000 in
theorem c_monitor_Monitor_formed {G : GP} (hg0 : HG0 G) (hg1 : HG1 G) {p_w : (List (BitVec 8)) × Int × (List T_chain_Version)} {p_f : T_session_Found} {b_w : Nat} {c_w : List Value} {r : Bool} (h : monitor_Monitor_formed p_w p_f = some r) : Ctr Tryd.prog G 60 [val (.pointer (some ⟨b_w, 0, none⟩)), R_session_Found.slot p_f] [box b_w 97 (exr (prod (sl u8) (prod i64 (sl R_chain_Version))) c_w) (p_w.1, p_w.2.1, p_w.2.2)] (fun (_ : Unit) => bl.slot r) (fun (_ : Unit) => [box b_w 97 (exr (prod (sl u8) (prod i64 (sl R_chain_Version))) c_w) (p_w.1, p_w.2.1, p_w.2.2)]) := by
  unfold monitor_Monitor_formed at h
  refine ctr_of_run Tryd.func60 rfl 32 rfl rfl fun m0 w0 b0 => ?_
  show Run _ _ _ [(0, val (.pointer (some ⟨b_w, 0, none⟩))), (1, R_session_Found.slot p_f)] _
  refine rs ?_
  refine rt ?_
  refine jp (PJ.xw (.ex .refl) (pj_box_to (ht rfl))) rfl rfl rfl ?_
  refine jp (PJ.xw (.ex .refl) (pa has_bl)) rfl rfl rfl ?_
  refine j_end ?_
  refine rs ?_
  refine rt ?_
  refine jp (PJ.xw (.ex .refl) (pj_field_to (ht rfl) (Path.then (Path.snd (sl u8) (prod i64 (prod R_head_Head (sl R_chain_Version)))) (Path.then (Path.snd i64 (prod R_head_Head (sl R_chain_Version))) (Path.snd R_head_Head (sl R_chain_Version)))) (by kernel_rfl))) rfl rfl rfl ?_
  refine jp (PJ.xw (.ex .refl) (pl (ht rfl) (by kernel_rfl))) rfl rfl rfl ?_
  refine jp (PJ.xw (.ex .refl) (pj_len_sl (sz := 67) (ht rfl) (by kernel_rfl))) rfl rfl rfl ?_
  refine jp (PJ.xw (.ex .refl) (pa (ht rfl))) rfl rfl rfl ?_
  refine j_end ?_
  refine rs ?_
  obtain ⟨y1, e2, h⟩ := bind_some h
  refine (run_drawJ (n := 23) (Γ' := [(31, bl.slot y1)]) (H' := [box b_w 97 (exr (prod (sl u8) (prod i64 (sl R_chain_Version))) c_w) (p_w.1, p_w.2.1, p_w.2.2)]) ?_ fun J => ?_)
  · clear e2
    refine jp (PJ.xw (.ex .refl) (pa (ht rfl))) rfl rfl rfl ?_
    refine j_end ?_
    obtain rfl := oi h
    exact run_ret fun a w hst => q_ret1 hst rfl (.tmp rfl) () (fun _ _ h => h) (.cons .here <| .nil)
  · rcases bool_tf (decide ((p_f.2.2.2.length : Int) = (0 : Int))) with e1 | e1
    · replace e2 := bt e1 e2
      exact run_draw (n := 23) (by kernel_rfl) (by kernel_rfl) (by kernel_rfl) (by kernel_rfl) (.read (.plain rfl (PJ.xw (.ex .refl) (pm (ht rfl)))) <| .read (.plain rfl (PJ.xw (.ex .refl) (pj_ieql (ht rfl) has_i64))) <| .read (.plain rfl (PJ.xw (.ex .refl) (pm (ht rfl)))) <| .read (.no ⟨2, false, _, 11, _, rfl, rfl, rfl, fun _ _ => bl_p.1, gd_no e1⟩) <| .read (.no ⟨2, false, _, 11, _, rfl, rfl, rfl, fun _ _ => bl_p.1, gd_no e1⟩) <| .read (.no ⟨2, false, _, 11, _, rfl, rfl, rfl, fun _ _ => bl_p.1, gd_no e1⟩) <| .read (.no ⟨2, false, _, 11, _, rfl, rfl, rfl, fun _ _ => bl_p.1, gd_no e1⟩) <| .read (.no ⟨2, false, _, 11, _, rfl, rfl, rfl, fun _ _ => bl_p.1, gd_no e1⟩) <| .read (.no ⟨2, false, _, 11, _, rfl, rfl, rfl, fun _ _ => bl_p.1, gd_no e1⟩) <| .read (.no ⟨2, false, _, 11, _, rfl, rfl, rfl, fun _ _ => bl_p.1, gd_no e1⟩) <| .read (.no ⟨2, false, _, 11, _, rfl, rfl, rfl, fun _ _ => bl_p.1, gd_no e1⟩) <| .read (.undef ⟨10, true, 19, rfl, rfl, rfl⟩) <| .read (.undef ⟨10, true, 19, rfl, rfl, rfl⟩) <| .read (.undef ⟨10, true, 19, rfl, rfl, rfl⟩) <| .read (.undef ⟨10, true, 19, rfl, rfl, rfl⟩) <| .read (.undef ⟨10, true, 19, rfl, rfl, rfl⟩) <| .read (.undef ⟨10, true, 19, rfl, rfl, rfl⟩) <| .read (.undef ⟨10, true, 19, rfl, rfl, rfl⟩) <| .read (.undef ⟨10, true, 19, rfl, rfl, rfl⟩) <| .read (.undef ⟨10, true, 19, rfl, rfl, rfl⟩) <| .read (.undef ⟨10, true, 19, rfl, rfl, rfl⟩) <| .read (.no ⟨2, false, _, 11, _, rfl, rfl, rfl, fun _ _ => bl_p.1, gd_no e1⟩) <| .read (.plain rfl (PJ.eqv (R := bl) (pj_pick (t := any) (ht rfl) (fun _ => has_bl) (fun he => absurd (e1.symm.trans he) (by decide))) (oi e2))) <| .nil) (j_to (Γ' := [(31, bl.slot y1)]) (H' := [box b_w 97 (exr (prod (sl u8) (prod i64 (sl R_chain_Version))) c_w) (p_w.1, p_w.2.1, p_w.2.2)]) (.cons (.of_lk rfl) <| .nil) (.cons .here <| .nil) J)
    · replace e2 := bf e1 e2
      obtain ⟨r1, e3, e2⟩ := bind_some e2
      obtain ⟨y2, e5, e2⟩ := bind_some e2
      rcases bool_tf (r1) with e4 | e4
      · replace e5 := bt e4 e5
        obtain ⟨x1, e6, e5⟩ := bind_some e5
        exact run_draw (n := 23) (by kernel_rfl) (by kernel_rfl) (by kernel_rfl) (by kernel_rfl) (.read (.plain rfl (PJ.xw (.ex .refl) (pm (ht rfl)))) <| .read (.plain rfl (PJ.xw (.ex .refl) (pj_ieql (ht rfl) has_i64))) <| .read (.plain rfl (PJ.xw (.ex .refl) (pm (ht rfl)))) <| .read (.yes ⟨2, false, _, 11, _, rfl, rfl, rfl, fun _ _ => bl_p.1, gd_yes e1⟩ (PJ.xw (.ex .refl) (pm (ht rfl)))) <| .read (.yes ⟨2, false, _, 11, _, rfl, rfl, rfl, fun _ _ => bl_p.1, gd_yes e1⟩ (PJ.xw (.ex .refl) (pj_nilCheck_ptr (ht rfl)))) <| .read (.yes ⟨2, false, _, 11, _, rfl, rfl, rfl, fun _ _ => bl_p.1, gd_yes e1⟩ (PJ.xw (.ex .refl) (pj_field_ptr (off := 0) (ht rfl) (by kernel_rfl)))) <| .read (.yes ⟨2, false, _, 11, _, rfl, rfl, rfl, fun _ _ => bl_p.1, gd_yes e1⟩ (PJ.xw (.ex .refl) (pj_load_box (ht rfl) .here (Path.then (Path.all (prod (sl u8) (prod i64 (sl R_chain_Version)))) (Path.fst (sl u8) (prod i64 (sl R_chain_Version)))) (by kernel_rfl)))) <| .read (.yes ⟨2, false, _, 11, _, rfl, rfl, rfl, fun _ _ => bl_p.1, gd_yes e1⟩ (PJ.xw (.ex .refl) (pj_field_to (ht rfl) (Path.then (Path.snd (sl u8) (prod i64 (prod R_head_Head (sl R_chain_Version)))) (Path.then (Path.snd i64 (prod R_head_Head (sl R_chain_Version))) (Path.snd R_head_Head (sl R_chain_Version)))) (by kernel_rfl)))) <| .read (.yes ⟨2, false, _, 11, _, rfl, rfl, rfl, fun _ _ => bl_p.1, gd_yes e1⟩ (PJ.xw (.ex .refl) (pl (ht rfl) (by kernel_rfl)))) <| .read (.yes ⟨2, false, _, 11, _, rfl, rfl, rfl, fun _ _ => bl_p.1, gd_yes e1⟩ (PJ.xw (.ex .refl) (pj_call (hc (ht rfl) <| hc (ht rfl) <| hasL_nil) (by kernel_rfl) (c_chain_Formed hg0 hg1 e3)))) <| .read (.yes ⟨2, false, _, 11, _, rfl, rfl, rfl, fun _ _ => bl_p.1, gd_yes e1⟩ (PJ.xw (.ex .refl) (pm (ht rfl)))) <| .read (.yes ⟨10, true, _, 19, _, rfl, rfl, rfl, fun _ _ => bl_p.1, gd_yes e4⟩ (PJ.xw (.ex .refl) (pj_field_to (ht rfl) (Path.then (Path.snd (sl u8) (prod i64 (prod R_head_Head (sl R_chain_Version)))) (Path.then (Path.snd i64 (prod R_head_Head (sl R_chain_Version))) (Path.snd R_head_Head (sl R_chain_Version)))) (by kernel_rfl)))) <| .read (.yes ⟨10, true, _, 19, _, rfl, rfl, rfl, fun _ _ => bl_p.1, gd_yes e4⟩ (PJ.xw (.ex .refl) (pl (ht rfl) (by kernel_rfl)))) <| .read (.yes ⟨10, true, _, 19, _, rfl, rfl, rfl, fun _ _ => bl_p.1, gd_yes e4⟩ (PJ.xw (.ex .refl) (pm (ht rfl)))) <| .read (.yes ⟨10, true, _, 19, _, rfl, rfl, rfl, fun _ _ => bl_p.1, gd_yes e4⟩ (PJ.xw (.ex .refl) (pj_isub (ht rfl) has_i64))) <| .read (.yes ⟨10, true, _, 19, _, rfl, rfl, rfl, fun _ _ => bl_p.1, gd_yes e4⟩ (PJ.xw (.ex .refl) (pj_index_slx (ht rfl) (ht rfl) isInt_i64 e6 (by kernel_rfl)))) <| .read (.yes ⟨10, true, _, 19, _, rfl, rfl, rfl, fun _ _ => bl_p.1, gd_yes e4⟩ (PJ.xw (.ex .refl) (pj_field_to (ht rfl) (Path.then (Path.snd i64 (prod i64 (prod R_api_Hash (prod R_api_Hash (sl u8))))) (Path.fst i64 (prod R_api_Hash (prod R_api_Hash (sl u8))))) (by kernel_rfl)))) <| .read (.yes ⟨10, true, _, 19, _, rfl, rfl, rfl, fun _ _ => bl_p.1, gd_yes e4⟩ (PJ.xw (.ex .refl) (pl (ht rfl) (by kernel_rfl)))) <| .read (.yes ⟨10, true, _, 19, _, rfl, rfl, rfl, fun _ _ => bl_p.1, gd_yes e4⟩ (PJ.xw (.ex .refl) (pj_field_to (ht rfl) (Path.then (Path.snd (sl u8) (prod i64 (prod R_head_Head (sl R_chain_Version)))) (Path.fst i64 (prod R_head_Head (sl R_chain_Version)))) (by kernel_rfl)))) <| .read (.yes ⟨10, true, _, 19, _, rfl, rfl, rfl, fun _ _ => bl_p.1, gd_yes e4⟩ (PJ.xw (.ex .refl) (pl (ht rfl) (by kernel_rfl)))) <| .read (.yes ⟨10, true, _, 19, _, rfl, rfl, rfl, fun _ _ => bl_p.1, gd_yes e4⟩ (PJ.xw (.ex .refl) (pj_ileq (ht rfl) (ht rfl)))) <| .read (.yes ⟨2, false, _, 11, _, rfl, rfl, rfl, fun _ _ => bl_p.1, gd_yes e1⟩ (PJ.eqv (R := bl) (pj_pick (t := any) (ht rfl) (fun _ => (ht rfl)) (fun he => absurd (e4.symm.trans he) (by decide))) (oi e5))) <| .read (.plain rfl (PJ.eqv (R := bl) (pj_pick (t := any) (ht rfl) (fun he => absurd (e1.symm.trans he) (by decide)) (fun _ => (ht rfl))) (oi e2))) <| .nil) (j_to (Γ' := [(31, bl.slot y1)]) (H' := [box b_w 97 (exr (prod (sl u8) (prod i64 (sl R_chain_Version))) c_w) (p_w.1, p_w.2.1, p_w.2.2)]) (.cons (.of_lk rfl) <| .nil) (.cons .here <| .nil) J)
      · replace e5 := bf e4 e5
        exact run_draw (n := 23) (by kernel_rfl) (by kernel_rfl) (by kernel_rfl) (by kernel_rfl) (.read (.plain rfl (PJ.xw (.ex .refl) (pm (ht rfl)))) <| .read (.plain rfl (PJ.xw (.ex .refl) (pj_ieql (ht rfl) has_i64))) <| .read (.plain rfl (PJ.xw (.ex .refl) (pm (ht rfl)))) <| .read (.yes ⟨2, false, _, 11, _, rfl, rfl, rfl, fun _ _ => bl_p.1, gd_yes e1⟩ (PJ.xw (.ex .refl) (pm (ht rfl)))) <| .read (.yes ⟨2, false, _, 11, _, rfl, rfl, rfl, fun _ _ => bl_p.1, gd_yes e1⟩ (PJ.xw (.ex .refl) (pj_nilCheck_ptr (ht rfl)))) <| .read (.yes ⟨2, false, _, 11, _, rfl, rfl, rfl, fun _ _ => bl_p.1, gd_yes e1⟩ (PJ.xw (.ex .refl) (pj_field_ptr (off := 0) (ht rfl) (by kernel_rfl)))) <| .read (.yes ⟨2, false, _, 11, _, rfl, rfl, rfl, fun _ _ => bl_p.1, gd_yes e1⟩ (PJ.xw (.ex .refl) (pj_load_box (ht rfl) .here (Path.then (Path.all (prod (sl u8) (prod i64 (sl R_chain_Version)))) (Path.fst (sl u8) (prod i64 (sl R_chain_Version)))) (by kernel_rfl)))) <| .read (.yes ⟨2, false, _, 11, _, rfl, rfl, rfl, fun _ _ => bl_p.1, gd_yes e1⟩ (PJ.xw (.ex .refl) (pj_field_to (ht rfl) (Path.then (Path.snd (sl u8) (prod i64 (prod R_head_Head (sl R_chain_Version)))) (Path.then (Path.snd i64 (prod R_head_Head (sl R_chain_Version))) (Path.snd R_head_Head (sl R_chain_Version)))) (by kernel_rfl)))) <| .read (.yes ⟨2, false, _, 11, _, rfl, rfl, rfl, fun _ _ => bl_p.1, gd_yes e1⟩ (PJ.xw (.ex .refl) (pl (ht rfl) (by kernel_rfl)))) <| .read (.yes ⟨2, false, _, 11, _, rfl, rfl, rfl, fun _ _ => bl_p.1, gd_yes e1⟩ (PJ.xw (.ex .refl) (pj_call (hc (ht rfl) <| hc (ht rfl) <| hasL_nil) (by kernel_rfl) (c_chain_Formed hg0 hg1 e3)))) <| .read (.yes ⟨2, false, _, 11, _, rfl, rfl, rfl, fun _ _ => bl_p.1, gd_yes e1⟩ (PJ.xw (.ex .refl) (pm (ht rfl)))) <| .read (.no ⟨10, true, _, 19, _, rfl, rfl, rfl, fun _ _ => bl_p.1, gd_no e4⟩) <| .read (.no ⟨10, true, _, 19, _, rfl, rfl, rfl, fun _ _ => bl_p.1, gd_no e4⟩) <| .read (.no ⟨10, true, _, 19, _, rfl, rfl, rfl, fun _ _ => bl_p.1, gd_no e4⟩) <| .read (.no ⟨10, true, _, 19, _, rfl, rfl, rfl, fun _ _ => bl_p.1, gd_no e4⟩) <| .read (.no ⟨10, true, _, 19, _, rfl, rfl, rfl, fun _ _ => bl_p.1, gd_no e4⟩) <| .read (.no ⟨10, true, _, 19, _, rfl, rfl, rfl, fun _ _ => bl_p.1, gd_no e4⟩) <| .read (.no ⟨10, true, _, 19, _, rfl, rfl, rfl, fun _ _ => bl_p.1, gd_no e4⟩) <| .read (.no ⟨10, true, _, 19, _, rfl, rfl, rfl, fun _ _ => bl_p.1, gd_no e4⟩) <| .read (.no ⟨10, true, _, 19, _, rfl, rfl, rfl, fun _ _ => bl_p.1, gd_no e4⟩) <| .read (.no ⟨10, true, _, 19, _, rfl, rfl, rfl, fun _ _ => bl_p.1, gd_no e4⟩) <| .read (.yes ⟨2, false, _, 11, _, rfl, rfl, rfl, fun _ _ => bl_p.1, gd_yes e1⟩ (PJ.eqv (R := bl) (pj_pick (t := any) (ht rfl) (fun he => absurd (e4.symm.trans he) (by decide)) (fun _ => has_bl)) (oi e5))) <| .read (.plain rfl (PJ.eqv (R := bl) (pj_pick (t := any) (ht rfl) (fun he => absurd (e1.symm.trans he) (by decide)) (fun _ => (ht rfl))) (oi e2))) <| .nil) (j_to (Γ' := [(31, bl.slot y1)]) (H' := [box b_w 97 (exr (prod (sl u8) (prod i64 (sl R_chain_Version))) c_w) (p_w.1, p_w.2.1, p_w.2.2)]) (.cons (.of_lk rfl) <| .nil) (.cons .here <| .nil) J)
set_option maxRecDepth 100000 in
set_option maxHeartbeats 4000000 in
theorem c_monitor_same {G : GP} {p_a : T_chain_Version} {p_b : T_chain_Version} {r : Bool} (h : monitor_same p_a p_b = some r) : Ctr Tryd.prog G 62 [R_chain_Version.slot p_a, R_chain_Version.slot p_b] [] (fun (_ : Unit) => bl.slot r) (fun (_ : Unit) => []) := by
  unfold monitor_same at h
  refine ctr_of_run Tryd.func62 rfl 38 rfl rfl fun m0 w0 b0 => ?_
  show Run _ _ _ [(0, R_chain_Version.slot p_a), (1, R_chain_Version.slot p_b)] _
  refine rs ?_
  refine rt ?_
  refine jp (pj_box_to (ht rfl)) rfl rfl rfl ?_
  refine jp (pj_box_to (ht rfl)) rfl rfl rfl ?_
  refine jp (pa has_bl) rfl rfl rfl ?_
  refine j_end ?_
  refine rs ?_
  refine rt ?_
  refine jp (pj_field_to (ht rfl) (Path.fst i64 (prod i64 (prod R_api_Hash (prod R_api_Hash (sl u8))))) (by kernel_rfl)) rfl rfl rfl ?_
  refine jp (pl (ht rfl) (by kernel_rfl)) rfl rfl rfl ?_
  refine jp (pj_field_to (ht rfl) (Path.fst i64 (prod i64 (prod R_api_Hash (prod R_api_Hash (sl u8))))) (by kernel_rfl)) rfl rfl rfl ?_
  refine jp (pl (ht rfl) (by kernel_rfl)) rfl rfl rfl ?_
  refine jp (pj_ieql (ht rfl) (ht rfl)) rfl rfl rfl ?_
  refine jp (pm (ht rfl)) rfl rfl rfl ?_
  obtain ⟨y1, e2, h⟩ := bind_some h
  refine j_joinx (ι := Unit) (Γ' := fun _ => [(2, ptrTo R_chain_Version p_a), (3, ptrTo R_chain_Version p_b), (16, bl.slot y1)]) (H' := fun _ => []) 6 ?_ fun J => ?_
  · intro _
    clear e2
    show OpsJ _ _ _ [(2, ptrTo R_chain_Version p_a), (3, ptrTo R_chain_Version p_b), (16, bl.slot y1)] [] _
    refine jp (pm (ht rfl)) rfl rfl rfl ?_
    obtain ⟨y2, e4, h⟩ := bind_some h
    refine j_joinx (ι := Unit) (Γ' := fun _ => [(2, ptrTo R_chain_Version p_a), (3, ptrTo R_chain_Version p_b), (23, bl.slot y2)]) (H' := fun _ => []) 6 ?_ fun J => ?_
    · intro _
      clear e4
      show OpsJ _ _ _ [(2, ptrTo R_chain_Version p_a), (3, ptrTo R_chain_Version p_b), (23, bl.slot y2)] [] _
      refine jp (pm (ht rfl)) rfl rfl rfl ?_
      obtain ⟨y3, e6, h⟩ := bind_some h
      refine j_joinx (ι := Unit) (Γ' := fun _ => [(2, ptrTo R_chain_Version p_a), (3, ptrTo R_chain_Version p_b), (30, bl.slot y3)]) (H' := fun _ => []) 6 ?_ fun J => ?_
      · intro _
        clear e6
        show OpsJ _ _ _ [(2, ptrTo R_chain_Version p_a), (3, ptrTo R_chain_Version p_b), (30, bl.slot y3)] [] _
        refine jp (pm (ht rfl)) rfl rfl rfl ?_
        obtain ⟨y4, e8, h⟩ := bind_some h
        refine j_joinx (ι := Unit) (Γ' := fun _ => [(37, bl.slot y4)]) (H' := fun _ => []) 6 ?_ fun J => ?_
        · intro _
          clear e8
          show OpsJ _ _ _ [(37, bl.slot y4)] [] _
          refine jp (pa (ht rfl)) rfl rfl rfl ?_
          refine j_end ?_
          obtain rfl := oi h
          exact run_ret fun a w hst => q_ret1 hst rfl (.tmp rfl) () (fun _ _ h => h) (.nil)
        · rcases bool_tf (y3) with e7 | e7
          · replace e8 := bt e7 e8
            refine jy (pj_field_to (ht rfl) (Path.then (Path.snd i64 (prod i64 (prod R_api_Hash (prod R_api_Hash (sl u8))))) (Path.then (Path.snd i64 (prod R_api_Hash (prod R_api_Hash (sl u8)))) (Path.then (Path.snd R_api_Hash (prod R_api_Hash (sl u8))) (Path.snd R_api_Hash (sl u8))))) (by kernel_rfl)) rfl rfl rfl rfl (bl_isx e7) rfl rfl ?_
            refine jy (pl (ht rfl) (by kernel_rfl)) rfl rfl rfl rfl (bl_isx e7) rfl rfl ?_
            refine jy (pj_field_to (ht rfl) (Path.then (Path.snd i64 (prod i64 (prod R_api_Hash (prod R_api_Hash (sl u8))))) (Path.then (Path.snd i64 (prod R_api_Hash (prod R_api_Hash (sl u8)))) (Path.then (Path.snd R_api_Hash (prod R_api_Hash (sl u8))) (Path.snd R_api_Hash (sl u8))))) (by kernel_rfl)) rfl rfl rfl rfl (bl_isx e7) rfl rfl ?_
            refine jy (pl (ht rfl) (by kernel_rfl)) rfl rfl rfl rfl (bl_isx e7) rfl rfl ?_
            obtain ⟨r1, e9, e8⟩ := bind_some e8
            refine jy (pj_call (hc (ht rfl) <| hc (ht rfl) <| hasL_nil) (by kernel_rfl) (c_bytes_Equal e9)) rfl rfl rfl rfl (bl_isx e7) rfl rfl ?_
            refine jp (PJ.eqv (R := bl) (pj_pick (t := any) (ht rfl) (fun _ => (ht rfl)) (fun he => absurd (e7.symm.trans he) (by decide))) (oi e8)) rfl rfl rfl ?_
            exact j_to (.cons (.of_lk rfl) <| .nil) (.nil) (J ())
          · replace e8 := bf e7 e8
            refine j_guard_no2 (j := 26) (want := true) rfl rfl rfl rfl (bl_isx e7) rfl rfl rfl ?_
            refine j_guard_no2 (j := 26) (want := true) rfl rfl rfl rfl (bl_isx e7) rfl rfl rfl ?_
            refine j_guard_no2 (j := 26) (want := true) rfl rfl rfl rfl (bl_isx e7) rfl rfl rfl ?_
            refine j_guard_no2 (j := 26) (want := true) rfl rfl rfl rfl (bl_isx e7) rfl rfl rfl ?_
            refine j_guard_no2 (j := 26) (want := true) rfl rfl rfl rfl (bl_isx e7) rfl rfl rfl ?_
            refine jp (PJ.eqv (R := bl) (pj_pick (t := any) (ht rfl) (fun he => absurd (e7.symm.trans he) (by decide)) (fun _ => has_bl)) (oi e8)) rfl rfl rfl ?_
            exact j_to (.cons (.of_lk rfl) <| .nil) (.nil) (J ())
      · rcases bool_tf (y2) with e5 | e5
        · replace e6 := bt e5 e6
          refine jy (pj_field_to (ht rfl) (Path.then (Path.snd i64 (prod i64 (prod R_api_Hash (prod R_api_Hash (sl u8))))) (Path.then (Path.snd i64 (prod R_api_Hash (prod R_api_Hash (sl u8)))) (Path.then (Path.snd R_api_Hash (prod R_api_Hash (sl u8))) (Path.fst R_api_Hash (sl u8))))) (by kernel_rfl)) rfl rfl rfl rfl (bl_isx e5) rfl rfl ?_
          refine jy (pl (ht rfl) (by kernel_rfl)) rfl rfl rfl rfl (bl_isx e5) rfl rfl ?_
          refine jy (pj_field_to (ht rfl) (Path.then (Path.snd i64 (prod i64 (prod R_api_Hash (prod R_api_Hash (sl u8))))) (Path.then (Path.snd i64 (prod R_api_Hash (prod R_api_Hash (sl u8)))) (Path.then (Path.snd R_api_Hash (prod R_api_Hash (sl u8))) (Path.fst R_api_Hash (sl u8))))) (by kernel_rfl)) rfl rfl rfl rfl (bl_isx e5) rfl rfl ?_
          refine jy (pl (ht rfl) (by kernel_rfl)) rfl rfl rfl rfl (bl_isx e5) rfl rfl ?_
          refine jy (pj_eql (n := 2) (eq_vec (e := 5) (by kernel_rfl) (by kernel_rfl) (eq_un (by kernel_rfl))) (by decide) rfl (by kernel_rfl) (ht rfl) (ht rfl)) rfl rfl rfl rfl (bl_isx e5) rfl rfl ?_
          refine jp (PJ.eqv (R := bl) (pj_pick (t := any) (ht rfl) (fun _ => (ht rfl)) (fun he => absurd (e5.symm.trans he) (by decide))) (oi e6)) rfl rfl rfl ?_
          exact j_to (.cons (.of_lk rfl) <| .cons (.of_lk rfl) <| .cons (.of_lk rfl) <| .nil) (.nil) (J ())
        · replace e6 := bf e5 e6
          refine j_guard_no2 (j := 19) (want := true) rfl rfl rfl rfl (bl_isx e5) rfl rfl rfl ?_
          refine j_guard_no2 (j := 19) (want := true) rfl rfl rfl rfl (bl_isx e5) rfl rfl rfl ?_
          refine j_guard_no2 (j := 19) (want := true) rfl rfl rfl rfl (bl_isx e5) rfl rfl rfl ?_
          refine j_guard_no2 (j := 19) (want := true) rfl rfl rfl rfl (bl_isx e5) rfl rfl rfl ?_
          refine j_guard_no2 (j := 19) (want := true) rfl rfl rfl rfl (bl_isx e5) rfl rfl rfl ?_
          refine jp (PJ.eqv (R := bl) (pj_pick (t := any) (ht rfl) (fun he => absurd (e5.symm.trans he) (by decide)) (fun _ => has_bl)) (oi e6)) rfl rfl rfl ?_
          exact j_to (.cons (.of_lk rfl) <| .cons (.of_lk rfl) <| .cons (.of_lk rfl) <| .nil) (.nil) (J ())
    · rcases bool_tf (y1) with e3 | e3
      · replace e4 := bt e3 e4
        refine jy (pj_field_to (ht rfl) (Path.then (Path.snd i64 (prod i64 (prod R_api_Hash (prod R_api_Hash (sl u8))))) (Path.then (Path.snd i64 (prod R_api_Hash (prod R_api_Hash (sl u8)))) (Path.fst R_api_Hash (prod R_api_Hash (sl u8))))) (by kernel_rfl)) rfl rfl rfl rfl (bl_isx e3) rfl rfl ?_
        refine jy (pl (ht rfl) (by kernel_rfl)) rfl rfl rfl rfl (bl_isx e3) rfl rfl ?_
        refine jy (pj_field_to (ht rfl) (Path.then (Path.snd i64 (prod i64 (prod R_api_Hash (prod R_api_Hash (sl u8))))) (Path.then (Path.snd i64 (prod R_api_Hash (prod R_api_Hash (sl u8)))) (Path.fst R_api_Hash (prod R_api_Hash (sl u8))))) (by kernel_rfl)) rfl rfl rfl rfl (bl_isx e3) rfl rfl ?_
        refine jy (pl (ht rfl) (by kernel_rfl)) rfl rfl rfl rfl (bl_isx e3) rfl rfl ?_
        refine jy (pj_eql (n := 2) (eq_vec (e := 5) (by kernel_rfl) (by kernel_rfl) (eq_un (by kernel_rfl))) (by decide) rfl (by kernel_rfl) (ht rfl) (ht rfl)) rfl rfl rfl rfl (bl_isx e3) rfl rfl ?_
        refine jp (PJ.eqv (R := bl) (pj_pick (t := any) (ht rfl) (fun _ => (ht rfl)) (fun he => absurd (e3.symm.trans he) (by decide))) (oi e4)) rfl rfl rfl ?_
        exact j_to (.cons (.of_lk rfl) <| .cons (.of_lk rfl) <| .cons (.of_lk rfl) <| .nil) (.nil) (J ())
      · replace e4 := bf e3 e4
        refine j_guard_no2 (j := 12) (want := true) rfl rfl rfl rfl (bl_isx e3) rfl rfl rfl ?_
        refine j_guard_no2 (j := 12) (want := true) rfl rfl rfl rfl (bl_isx e3) rfl rfl rfl ?_
        refine j_guard_no2 (j := 12) (want := true) rfl rfl rfl rfl (bl_isx e3) rfl rfl rfl ?_
        refine j_guard_no2 (j := 12) (want := true) rfl rfl rfl rfl (bl_isx e3) rfl rfl rfl ?_
        refine j_guard_no2 (j := 12) (want := true) rfl rfl rfl rfl (bl_isx e3) rfl rfl rfl ?_
        refine jp (PJ.eqv (R := bl) (pj_pick (t := any) (ht rfl) (fun he => absurd (e3.symm.trans he) (by decide)) (fun _ => has_bl)) (oi e4)) rfl rfl rfl ?_
        exact j_to (.cons (.of_lk rfl) <| .cons (.of_lk rfl) <| .cons (.of_lk rfl) <| .nil) (.nil) (J ())
  · rcases bool_tf (decide (p_a.1 = p_b.1)) with e1 | e1
    · replace e2 := bt e1 e2
      refine jy (pj_field_to (ht rfl) (Path.then (Path.snd i64 (prod i64 (prod R_api_Hash (prod R_api_Hash (sl u8))))) (Path.fst i64 (prod R_api_Hash (prod R_api_Hash (sl u8))))) (by kernel_rfl)) rfl rfl rfl rfl (bl_isx e1) rfl rfl ?_
      refine jy (pl (ht rfl) (by kernel_rfl)) rfl rfl rfl rfl (bl_isx e1) rfl rfl ?_
      refine jy (pj_field_to (ht rfl) (Path.then (Path.snd i64 (prod i64 (prod R_api_Hash (prod R_api_Hash (sl u8))))) (Path.fst i64 (prod R_api_Hash (prod R_api_Hash (sl u8))))) (by kernel_rfl)) rfl rfl rfl rfl (bl_isx e1) rfl rfl ?_
      refine jy (pl (ht rfl) (by kernel_rfl)) rfl rfl rfl rfl (bl_isx e1) rfl rfl ?_
      refine jy (pj_ieql (ht rfl) (ht rfl)) rfl rfl rfl rfl (bl_isx e1) rfl rfl ?_
      refine jp (PJ.eqv (R := bl) (pj_pick (t := any) (ht rfl) (fun _ => (ht rfl)) (fun he => absurd (e1.symm.trans he) (by decide))) (oi e2)) rfl rfl rfl ?_
      exact j_to (.cons (.of_lk rfl) <| .cons (.of_lk rfl) <| .cons (.of_lk rfl) <| .nil) (.nil) (J ())
    · replace e2 := bf e1 e2
      refine j_guard_no2 (j := 5) (want := true) rfl rfl rfl rfl (bl_isx e1) rfl rfl rfl ?_
      refine j_guard_no2 (j := 5) (want := true) rfl rfl rfl rfl (bl_isx e1) rfl rfl rfl ?_
      refine j_guard_no2 (j := 5) (want := true) rfl rfl rfl rfl (bl_isx e1) rfl rfl rfl ?_
      refine j_guard_no2 (j := 5) (want := true) rfl rfl rfl rfl (bl_isx e1) rfl rfl rfl ?_
      refine j_guard_no2 (j := 5) (want := true) rfl rfl rfl rfl (bl_isx e1) rfl rfl rfl ?_
      refine jp (PJ.eqv (R := bl) (pj_pick (t := any) (ht rfl) (fun he => absurd (e1.symm.trans he) (by decide)) (fun _ => has_bl)) (oi e2)) rfl rfl rfl ?_
      exact j_to (.cons (.of_lk rfl) <| .cons (.of_lk rfl) <| .cons (.of_lk rfl) <| .nil) (.nil) (J ())
set_option maxRecDepth 100000 in
set_option maxHeartbeats 4000000 in
theorem c_monitor_copied {G : GP} {p_l : List T_chain_Version} {r : (List T_chain_Version)} (h : monitor_copied p_l = some r) : Ctr Tryd.prog G 63 [(sl R_chain_Version).slot p_l] [] (fun (u0 : Value) => ov u0) (fun (u0 : Value) => [own 45 R_chain_Version u0 r]) := by
  unfold monitor_copied at h
  refine ctr_of_run Tryd.func63 rfl 22 rfl rfl fun m0 w0 b0 => ?_
  show Run _ _ _ [(0, (sl R_chain_Version).slot p_l)] _
  refine rs ?_
  refine rt ?_
  refine j_assign_nil (T := 45) R_chain_Version rfl fun v1 => ?_
  refine j_end ?_
  refine rs ?_
  refine rt ?_
  refine j_assign_nil (T := 45) R_chain_Version rfl fun v2 => ?_
  refine j_end ?_
  refine rs ?_
  refine rs ?_
  refine rt ?_
  refine jp (pm (ht rfl)) rfl rfl rfl ?_
  refine jp (pj_len_sl (sz := 67) (ht rfl) (by kernel_rfl)) rfl rfl rfl ?_
  refine jp (pm has_i64) rfl rfl rfl ?_
  refine j_end ?_
  obtain ⟨⟨y3, y4⟩, e5, h⟩ := bind_some h
  refine run_loopS (Γi := fun (i : Value) (s : Int × (List T_chain_Version)) => [(3, ov i), (6, (sl R_chain_Version).slot p_l), (7, i64.slot (p_l.length : Int)), (8, i64.slot s.1)]) (Hi := fun (i : Value) (s : Int × (List T_chain_Version)) => [own 45 R_chain_Version i s.2]) e5 v2 (fun a w hst => (hst.sub (.cons (.of_lk rfl) <| .cons (.of_lk rfl) <| .cons (.of_lk rfl) <| .cons (.of_lk rfl) <| .nil)).keep (.cons .here <| .nil)) ?_ ?_
  · clear h e5
    rintro v3 ⟨y1, y2⟩ lr h
    change monitor_copied_L1 p_l y1 y2 = some _ at h
    show Run _ _ _ [(3, ov v3), (6, (sl R_chain_Version).slot p_l), (7, i64.slot (p_l.length : Int)), (8, i64.slot y1)] [own 45 R_chain_Version v3 y2]
    unfold monitor_copied_L1 at h
    refine rs ?_
    refine rt ?_
    refine jp (pj_ilss (ht rfl) (ht rfl)) rfl rfl rfl ?_
    refine j_end ?_
    refine rs ?_
    refine run_cond (ht rfl) (fun e1 => ?_) (fun e1 => ?_)
    · replace h := bt e1 h
      refine run_skip ?_
      refine rs ?_
      refine run_block ?_
      refine rs ?_
      refine rt ?_
      obtain ⟨x1, e2, h⟩ := bind_some h
      refine jp (pj_index_slx (ht rfl) (ht rfl) isInt_i64 e2 (by kernel_rfl)) rfl rfl rfl ?_
      refine jp (pl (ht rfl) (by kernel_rfl)) rfl rfl rfl ?_
      refine j_alloc (x := (0, 0, (Vector.replicate 32 (0#8)), (Vector.replicate 32 (0#8)), ([] : List (BitVec 8)))) (R := R_chain_Version) (zero_prod zero_i64 (zero_prod zero_i64 (zero_prod (zero_vec 32 zero_un) (zero_prod (zero_vec 32 zero_un) zero_sl)))) (by kernel_rfl) rfl fun b1 => ?_
      refine j_store_boxx (r' := x1) (ht rfl) (ht rfl) .here (Path.all R_chain_Version) (by kernel_rfl) rfl ?_
      refine j_end ?_
      refine rs ?_
      refine rt ?_
      refine jp (pj_field_ptr (off := 66) (ht rfl) (by kernel_rfl)) rfl rfl rfl ?_
      refine jp (pj_load_box (ht rfl) .here (Path.then (Path.all R_chain_Version) (Path.then (Path.snd i64 (prod i64 (prod R_api_Hash (prod R_api_Hash (sl u8))))) (Path.then (Path.snd i64 (prod R_api_Hash (prod R_api_Hash (sl u8)))) (Path.then (Path.snd R_api_Hash (prod R_api_Hash (sl u8))) (Path.snd R_api_Hash (sl u8)))))) (by kernel_rfl)) rfl rfl rfl ?_
      obtain ⟨r1, e3, h⟩ := bind_some h
      refine jp (pj_call (hc (ht rfl) <| hasL_nil) (by kernel_rfl) (Ctr.froze (c_slices_Clone_byte_byte e3))) rfl rfl rfl ?_
      refine jp (pj_field_ptr (off := 66) (ht rfl) (by kernel_rfl)) rfl rfl rfl ?_
      refine j_store_boxx (r' := (x1.1, x1.2.1, x1.2.2.1, x1.2.2.2.1, r1)) (ht rfl) (ht rfl) .here (Path.then (Path.all R_chain_Version) (Path.then (Path.snd i64 (prod i64 (prod R_api_Hash (prod R_api_Hash (sl u8))))) (Path.then (Path.snd i64 (prod R_api_Hash (prod R_api_Hash (sl u8)))) (Path.then (Path.snd R_api_Hash (prod R_api_Hash (sl u8))) (Path.snd R_api_Hash (sl u8)))))) (by kernel_rfl) rfl ?_
      refine j_end ?_
      refine rt ?_
      refine jp (pm (ht rfl)) rfl rfl rfl ?_
      refine jp (pj_load_box (ht rfl) .here (Path.all R_chain_Version) (by kernel_rfl)) rfl rfl rfl ?_
      refine jp (pj_buildSlice (T := 45) (R := R_chain_Version) (.cons (ht rfl) .nil) rfl (by kernel_rfl) (by kernel_rfl)) rfl rfl rfl ?_
      obtain ⟨e4, h⟩ := grd_some h
      refine j_append (T := 45) (E := 45) (ht rfl) (.next .here) (src_data (ht rfl)) (by kernel_rfl) (by kernel_rfl) e4 rfl fun v4 => ?_
      refine jp (pa (ht rfl)) rfl rfl rfl ?_
      refine j_end ?_
      refine run_endblock ?_
      refine rt ?_
      refine jp (pj_iadd (ht rfl) has_i64) rfl rfl rfl ?_
      refine jp (pm (ht rfl)) rfl rfl rfl ?_
      refine j_end ?_
      obtain rfl := oi h
      exact run_next v4 (.cons (.of_lk rfl) <| .cons (.of_lk rfl) <| .cons (.of_lk rfl) <| .cons (.of_lk rfl) <| .nil) (.cons .here <| .nil)
    · replace h := bf e1 h
      obtain rfl := oi h
      exact run_brk v3 (.cons (.of_lk rfl) <| .cons (.of_lk rfl) <| .cons (.of_lk rfl) <| .cons (.of_lk rfl) <| .nil) (.cons .here <| .nil)
  · rintro v5
    show Run _ _ _ [(3, ov v5), (6, (sl R_chain_Version).slot p_l), (7, i64.slot (p_l.length : Int)), (8, i64.slot y3)] [own 45 R_chain_Version v5 y4]
    refine run_to (Γ' := [(3, ov v5)]) (H' := [own 45 R_chain_Version v5 y4]) (.cons (.of_lk rfl) <| .nil) (.cons .here <| .nil) ?_
    refine rs ?_
    refine rt ?_
    refine jp (pm (ht rfl)) rfl rfl rfl ?_
    refine jp (pa (ht rfl)) rfl rfl rfl ?_
    refine j_end ?_
    obtain rfl := oi h
    exact run_ret fun a w hst => q_ret1 hst rfl (.tmp rfl) v5 (fun _ _ h => h) (.cons .here <| .nil)
set_option maxRecDepth 100000 in
set_option maxHeartbeats 4000000 in
theorem c_slices_EqualFunc_chain_Version_chain_Version_chain_Version_chain_Version_monitor_same {G : GP} {p_s1 : List T_chain_Version} {p_s2 : List T_chain_Version} {r : Bool} (h : slices_EqualFunc_chain_Version_chain_Version_chain_Version_chain_Version_monitor_same p_s1 p_s2 = some r) : Ctr Tryd.prog G 61 [(sl R_chain_Version).slot p_s1, (sl R_chain_Version).slot p_s2, fnS 62 []] [] (fun (_ : Unit) => bl.slot r) (fun (_ : Unit) => []) := by
  unfold slices_EqualFunc_chain_Version_chain_Version_chain_Version_chain_Version_monitor_same at h
  refine ctr_of_run Tryd.func61 rfl 32 rfl rfl fun m0 w0 b0 => ?_
  refine run_ret0 fun Qf hq1 hq2 => ?_
  show Run _ _ _ [(0, (sl R_chain_Version).slot p_s1), (1, (sl R_chain_Version).slot p_s2), (2, fnS 62 [])] _
  refine rs ?_
  refine rt ?_
  refine jp (pa has_bl) rfl rfl rfl ?_
  refine j_end ?_
  refine rs ?_
  refine rs ?_
  refine rt ?_
  refine jp (pm (ht rfl)) rfl rfl rfl ?_
  refine jp (pj_len_sl (sz := 67) (ht rfl) (by kernel_rfl)) rfl rfl rfl ?_
  refine jp (pm (ht rfl)) rfl rfl rfl ?_
  refine jp (pj_len_sl (sz := 67) (ht rfl) (by kernel_rfl)) rfl rfl rfl ?_
  refine jp (pj_ineq (ht rfl) (ht rfl)) rfl rfl rfl ?_
  refine j_end ?_
  refine run_cond (ht rfl) (fun e1 => ?_) (fun e1 => ?_)
  · replace h := bt e1 h
    refine rs ?_
    refine rt ?_
    refine jp (pa has_bl) rfl rfl rfl ?_
    refine j_end ?_
    obtain rfl := oi h
    exact run_ret fun a w hst => q_ret1 hst rfl (.tmp rfl) () (fun _ _ h => h) (.nil)
  · replace h := bf e1 h
    refine run_skip ?_
    refine rs ?_
    refine rs ?_
    refine rt ?_
    refine jp (pm (ht rfl)) rfl rfl rfl ?_
    refine jp (pj_len_sl (sz := 67) (ht rfl) (by kernel_rfl)) rfl rfl rfl ?_
    refine jp (pm has_i64) rfl rfl rfl ?_
    refine j_end ?_
    obtain ⟨o, e7, h⟩ := bind_some h
    refine run_loop (Γi := fun (i : Unit) (s : Int) => [(1, (sl R_chain_Version).slot p_s2), (2, fnS 62 []), (15, (sl R_chain_Version).slot p_s1), (16, i64.slot (p_s1.length : Int)), (17, i64.slot s)]) (Hi := fun (i : Unit) (s : Int) => []) (R := fun x a w => x = r → Qf a w) e7 () (fun a w hst => (hst.sub (.cons (.of_lk rfl) <| .cons (.of_lk rfl) <| .cons (.of_lk rfl) <| .cons (.of_lk rfl) <| .cons (.of_lk rfl) <| .nil)).keep (.nil)) ?_ ?_ ?_
    · clear h e7
      rintro _ y1 lr h
      change slices_EqualFunc_chain_Version_chain_Version_chain_Version_chain_Version_monitor_same_L1 p_s1 p_s2 y1 = some _ at h
      show Run _ _ _ [(1, (sl R_chain_Version).slot p_s2), (2, fnS 62 []), (15, (sl R_chain_Version).slot p_s1), (16, i64.slot (p_s1.length : Int)), (17, i64.slot y1)] []
      unfold slices_EqualFunc_chain_Version_chain_Version_chain_Version_chain_Version_monitor_same_L1 at h
      refine rs ?_
      refine rt ?_
      refine jp (pj_ilss (ht rfl) (ht rfl)) rfl rfl rfl ?_
      refine j_end ?_
      refine rs ?_
      refine run_cond (ht rfl) (fun e2 => ?_) (fun e2 => ?_)
      · replace h := bt e2 h
        refine run_skip ?_
        refine rs ?_
        refine run_block ?_
        refine rs ?_
        refine rt ?_
        refine jp (pm (ht rfl)) rfl rfl rfl ?_
        obtain ⟨x1, e3, h⟩ := bind_some h
        refine jp (pj_index_slx (ht rfl) (ht rfl) isInt_i64 e3 (by kernel_rfl)) rfl rfl rfl ?_
        refine jp (pl (ht rfl) (by kernel_rfl)) rfl rfl rfl ?_
        refine j_alloc (x := (0, 0, (Vector.replicate 32 (0#8)), (Vector.replicate 32 (0#8)), ([] : List (BitVec 8)))) (R := R_chain_Version) (zero_prod zero_i64 (zero_prod zero_i64 (zero_prod (zero_vec 32 zero_un) (zero_prod (zero_vec 32 zero_un) zero_sl)))) (by kernel_rfl) rfl fun b1 => ?_
        refine jp (pa (ht rfl)) rfl rfl rfl ?_
        refine j_store_boxx (r' := x1) (ht rfl) (ht rfl) .here (Path.all R_chain_Version) (by kernel_rfl) rfl ?_
        refine j_freezeTo (t := 8) .here (.of_lk rfl) ?_
        refine j_end ?_
        refine rs ?_
        refine rt ?_
        refine jp (pm (ht rfl)) rfl rfl rfl ?_
        refine jp (pm (ht rfl)) rfl rfl rfl ?_
        obtain ⟨x2, e4, h⟩ := bind_some h
        refine jp (pj_index_slx (ht rfl) (ht rfl) isInt_i64 e4 (by kernel_rfl)) rfl rfl rfl ?_
        refine jp (pl (ht rfl) (by kernel_rfl)) rfl rfl rfl ?_
        refine j_alloc (x := (0, 0, (Vector.replicate 32 (0#8)), (Vector.replicate 32 (0#8)), ([] : List (BitVec 8)))) (R := R_chain_Version) (zero_prod zero_i64 (zero_prod zero_i64 (zero_prod (zero_vec 32 zero_un) (zero_prod (zero_vec 32 zero_un) zero_sl)))) (by kernel_rfl) rfl fun b2 => ?_
        refine j_store_boxx (r' := x2) (ht rfl) (ht rfl) .here (Path.all R_chain_Version) (by kernel_rfl) rfl ?_
        refine j_freezeTo (t := 9) .here (.of_lk rfl) ?_
        refine j_end ?_
        refine rs ?_
        refine rt ?_
        refine jp (pm (ht rfl)) rfl rfl rfl ?_
        refine jp (pl (ht rfl) (by kernel_rfl)) rfl rfl rfl ?_
        refine jp (pl (ht rfl) (by kernel_rfl)) rfl rfl rfl ?_
        obtain ⟨r1, e5, h⟩ := bind_some h
        refine jp (pj_callV (ht rfl) (hc (ht rfl) <| hc (ht rfl) <| hasL_nil) (by kernel_rfl) (c_monitor_same e5)) rfl rfl rfl ?_
        refine jp (pj_not (ht rfl)) rfl rfl rfl ?_
        refine j_end ?_
        refine run_cond (ht rfl) (fun e6 => ?_) (fun e6 => ?_)
        · replace h := bt e6 h
          refine rs ?_
          refine rt ?_
          refine jp (pa has_bl) rfl rfl rfl ?_
          refine j_end ?_
          obtain rfl := oi h
          refine run_ret fun a w hst => ⟨rfl, fun hr => ?_⟩
          subst hr
          exact hq2 a w (q_ret1 hst rfl (.tmp rfl) () (fun _ _ h => h) (.nil))
        · replace h := bf e6 h
          refine run_skip ?_
          refine run_endblock ?_
          refine rt ?_
          refine jp (pj_iadd (ht rfl) has_i64) rfl rfl rfl ?_
          refine jp (pm (ht rfl)) rfl rfl rfl ?_
          refine j_end ?_
          obtain rfl := oi h
          exact run_next () (.cons (.of_lk rfl) <| .cons (.of_lk rfl) <| .cons (.of_lk rfl) <| .cons (.of_lk rfl) <| .cons (.of_lk rfl) <| .nil) (.nil)
      · replace h := bf e2 h
        obtain rfl := oi h
        exact run_brk () (.cons (.of_lk rfl) <| .cons (.of_lk rfl) <| .cons (.of_lk rfl) <| .cons (.of_lk rfl) <| .cons (.of_lk rfl) <| .nil) (.nil)
    · rintro _ y2 ho
      subst ho
      show Run _ _ _ [(1, (sl R_chain_Version).slot p_s2), (2, fnS 62 []), (15, (sl R_chain_Version).slot p_s1), (16, i64.slot (p_s1.length : Int)), (17, i64.slot y2)] []
      refine run_to (Γ' := []) (H' := []) (.nil) (.nil) ?_
      refine rs ?_
      refine rt ?_
      refine jp (pa has_bl) rfl rfl rfl ?_
      refine j_end ?_
      obtain rfl := oi h
      exact run_ret fun a w hst => q_ret1 hst rfl (.tmp rfl) () (fun _ _ h => h) (.nil)
    · intro x a w ho hR
      subst ho
      exact hq1 a w (hR (oi h))
set_option maxRecDepth 100000 in
set_option maxHeartbeats 4000000 in
theorem c_monitor_Monitor_Look {G : GP} (hg0 : HG0 G) (hg1 : HG1 G) {p_w : (List (BitVec 8)) × Int × (List T_chain_Version)} {p_f : T_session_Found} {b_w : Nat} {r : ((List (BitVec 8)) × Int × (List T_chain_Version)) × (List T_chain_Version) × Int} (h : monitor_Monitor_Look p_w p_f = some r) : Ctr Tryd.prog G 39 [val (.pointer (some ⟨b_w, 0, none⟩)), R_session_Found.slot p_f] [box b_w 97 (prod (sl u8) (prod i64 (sl R_chain_Version))) (p_w.1, p_w.2.1, p_w.2.2)] (fun (u0 : Value) => tup [ov u0, i64.slot r.2.2]) (fun (u0 : Value) => [box b_w 97 (prod (sl u8) (prod i64 (sl R_chain_Version))) (r.1.1, r.1.2.1, r.1.2.2), own 45 R_chain_Version u0 r.2.1]) := by
  unfold monitor_Monitor_Look at h
  refine ctr_of_run Tryd.func39 rfl 65 rfl rfl fun m0 w0 b0 => ?_
  show Run _ _ _ [(0, val (.pointer (some ⟨b_w, 0, none⟩))), (1, R_session_Found.slot p_f)] _
  refine rs ?_
  refine rt ?_
  refine jp (pj_box_to (ht rfl)) rfl rfl rfl ?_
  refine j_assign_nil (T := 45) R_chain_Version rfl fun v1 => ?_
  refine jp (pa has_i64) rfl rfl rfl ?_
  refine j_end ?_
  refine rs ?_
  refine run_block ?_
  refine rs ?_
  refine rs ?_
  refine rt ?_
  refine jp (pm (ht rfl)) rfl rfl rfl ?_
  refine jp (pj_eq_nil_val (E := 97) (by kernel_rfl) (ht rfl)) rfl rfl rfl ?_
  refine jp (pa (ht rfl)) rfl rfl rfl ?_
  refine j_end ?_
  refine run_cond_f (ht rfl) rfl ?_
  refine rs ?_
  refine run_draw (n := 6) (by kernel_rfl) (by kernel_rfl) (by kernel_rfl) (by kernel_rfl) (.read (.plain rfl (pj_field_to (ht rfl) (Path.fst (sl u8) (prod i64 (prod R_head_Head (sl R_chain_Version)))) (by kernel_rfl))) <| .read (.plain rfl (pl (ht rfl) (by kernel_rfl))) <| .read (.plain rfl (pm (ht rfl))) <| .read (.plain rfl (pj_nilCheck_ptr (ht rfl))) <| .read (.plain rfl (pj_field_ptr (off := 0) (ht rfl) (by kernel_rfl))) <| .read (.plain rfl (pj_load_box (ht rfl) (.next .here) (Path.then (Path.all (prod (sl u8) (prod i64 (sl R_chain_Version)))) (Path.fst (sl u8) (prod i64 (sl R_chain_Version)))) (by kernel_rfl))) <| .nil) (j_to (Γ' := [(0, val (.pointer (some ⟨b_w, 0, none⟩))), (3, ptrTo R_session_Found p_f), (11, (sl u8).slot p_f.1), (15, (sl u8).slot p_w.1)]) (H' := [box b_w 97 (prod (sl u8) (prod i64 (sl R_chain_Version))) (p_w.1, p_w.2.1, p_w.2.2)]) (.cons (.of_lk rfl) <| .cons (.of_lk rfl) <| .cons (.of_lk rfl) <| .cons (.of_lk rfl) <| .nil) (.cons (.next .here) <| .nil) ?_)
  obtain ⟨r1, e2, h⟩ := bind_some h
  refine jp (pj_call (hc (ht rfl) <| hc (ht rfl) <| hasL_nil) (by kernel_rfl) (c_bytes_Equal e2)) rfl rfl rfl ?_
  refine jp (pj_not (ht rfl)) rfl rfl rfl ?_
  refine jp (pa (ht rfl)) rfl rfl rfl ?_
  refine j_end ?_
  obtain ⟨y1, e4, h⟩ := bind_some h
  refine run_joinx (ι := Unit) (Γ' := fun (_ : Unit) => [(0, val (.pointer (some ⟨b_w, 0, none⟩))), (3, ptrTo R_session_Found p_f), (7, bl.slot y1)]) (H' := fun (_ : Unit) => [box b_w 97 (prod (sl u8) (prod i64 (sl R_chain_Version))) (p_w.1, p_w.2.1, p_w.2.2)]) ?_ fun J => ?_
  · intro _
    clear e4
    show Run _ _ _ [(0, val (.pointer (some ⟨b_w, 0, none⟩))), (3, ptrTo R_session_Found p_f), (7, bl.slot y1)] [box b_w 97 (prod (sl u8) (prod i64 (sl R_chain_Version))) (p_w.1, p_w.2.1, p_w.2.2)]
    refine run_cond (ht rfl) (fun e5 => ?_) (fun e5 => ?_)
    · replace h := bt e5 h
      refine rs ?_
      refine rt ?_
      refine j_assign_nil (T := 45) R_chain_Version rfl fun v2 => ?_
      refine jp (pa has_i64) rfl rfl rfl ?_
      refine j_end ?_
      obtain rfl := oi h
      exact run_ret fun a w hst => q_retN hst rfl (.cons (.tmp rfl) <| .cons (.tmp rfl) <| .nil) rfl v2 (fun _ _ h => h) (.cons (.next .here) <| .cons .here <| .nil)
    · replace h := bf e5 h
      refine rs ?_
      refine rt ?_
      refine jp (pm (ht rfl)) rfl rfl rfl ?_
      refine jp (pl (ht rfl) (by kernel_rfl)) rfl rfl rfl ?_
      obtain ⟨r2, e6, h⟩ := bind_some h
      refine jp (pj_callR (hc (ht rfl) <| hc (ht rfl) <| hasL_nil) .here (by kernel_rfl) (fun _ => (c_monitor_Monitor_formed hg0 hg1 e6))) rfl rfl rfl ?_
      refine jp (pj_not (ht rfl)) rfl rfl rfl ?_
      refine jp (pa (ht rfl)) rfl rfl rfl ?_
      refine j_end ?_
      refine run_cond (ht rfl) (fun e7 => ?_) (fun e7 => ?_)
      · replace h := bt e7 h
        refine rs ?_
        refine rt ?_
        refine j_assign_nil (T := 45) R_chain_Version rfl fun v3 => ?_
        refine jp (pa has_i64) rfl rfl rfl ?_
        refine j_end ?_
        obtain rfl := oi h
        exact run_ret fun a w hst => q_retN hst rfl (.cons (.tmp rfl) <| .cons (.tmp rfl) <| .nil) rfl v3 (fun _ _ h => h) (.cons (.next .here) <| .cons .here <| .nil)
      · replace h := bf e7 h
        refine rs ?_
        refine run_draw (n := 6) (by kernel_rfl) (by kernel_rfl) (by kernel_rfl) (by kernel_rfl) (.read (.plain rfl (pj_field_to (ht rfl) (Path.then (Path.snd (sl u8) (prod i64 (prod R_head_Head (sl R_chain_Version)))) (Path.fst i64 (prod R_head_Head (sl R_chain_Version)))) (by kernel_rfl))) <| .read (.plain rfl (pl (ht rfl) (by kernel_rfl))) <| .read (.plain rfl (pm (ht rfl))) <| .read (.plain rfl (pj_nilCheck_ptr (ht rfl))) <| .read (.plain rfl (pj_field_ptr (off := 1) (ht rfl) (by kernel_rfl))) <| .read (.plain rfl (pj_load_box (ht rfl) .here (Path.then (Path.all (prod (sl u8) (prod i64 (sl R_chain_Version)))) (Path.then (Path.snd (sl u8) (prod i64 (sl R_chain_Version))) (Path.fst i64 (sl R_chain_Version)))) (by kernel_rfl))) <| .nil) (j_to (Γ' := [(0, val (.pointer (some ⟨b_w, 0, none⟩))), (3, ptrTo R_session_Found p_f), (28, i64.slot p_f.2.1), (32, i64.slot p_w.2.1)]) (H' := [box b_w 97 (prod (sl u8) (prod i64 (sl R_chain_Version))) (p_w.1, p_w.2.1, p_w.2.2)]) (.cons (.of_lk rfl) <| .cons (.of_lk rfl) <| .cons (.of_lk rfl) <| .cons (.of_lk rfl) <| .nil) (.cons .here <| .nil) ?_)
        refine jp (pj_ilss (ht rfl) (ht rfl)) rfl rfl rfl ?_
        refine jp (pa (ht rfl)) rfl rfl rfl ?_
        refine j_end ?_
        refine run_cond (ht rfl) (fun e8 => ?_) (fun e8 => ?_)
        · replace h := bt e8 h
          refine rs ?_
          refine rt ?_
          refine j_assign_nil (T := 45) R_chain_Version rfl fun v4 => ?_
          refine jp (pa has_i64) rfl rfl rfl ?_
          refine j_end ?_
          obtain rfl := oi h
          exact run_ret fun a w hst => q_retN hst rfl (.cons (.tmp rfl) <| .cons (.tmp rfl) <| .nil) rfl v4 (fun _ _ h => h) (.cons (.next .here) <| .cons .here <| .nil)
        · replace h := bf e8 h
          refine run_skip ?_
          refine run_endblock ?_
          refine rs ?_
          refine run_draw (n := 6) (by kernel_rfl) (by kernel_rfl) (by kernel_rfl) (by kernel_rfl) (.read (.plain rfl (pj_field_to (ht rfl) (Path.then (Path.snd (sl u8) (prod i64 (prod R_head_Head (sl R_chain_Version)))) (Path.then (Path.snd i64 (prod R_head_Head (sl R_chain_Version))) (Path.snd R_head_Head (sl R_chain_Version)))) (by kernel_rfl))) <| .read (.plain rfl (pl (ht rfl) (by kernel_rfl))) <| .read (.plain rfl (pm (ht rfl))) <| .read (.plain rfl (pj_nilCheck_ptr (ht rfl))) <| .read (.plain rfl (pj_field_ptr (off := 1) (ht rfl) (by kernel_rfl))) <| .read (.plain rfl (pj_load_box (ht rfl) .here (Path.then (Path.all (prod (sl u8) (prod i64 (sl R_chain_Version)))) (Path.then (Path.snd (sl u8) (prod i64 (sl R_chain_Version))) (Path.fst i64 (sl R_chain_Version)))) (by kernel_rfl))) <| .nil) (j_to (Γ' := [(0, val (.pointer (some ⟨b_w, 0, none⟩))), (3, ptrTo R_session_Found p_f), (35, (sl R_chain_Version).slot p_f.2.2.2), (39, i64.slot p_w.2.1)]) (H' := [box b_w 97 (prod (sl u8) (prod i64 (sl R_chain_Version))) (p_w.1, p_w.2.1, p_w.2.2)]) (.cons (.of_lk rfl) <| .cons (.of_lk rfl) <| .cons (.of_lk rfl) <| .cons (.of_lk rfl) <| .nil) (.cons .here <| .nil) ?_)
          obtain ⟨r3, e9, h⟩ := bind_some h
          refine jp (pj_call (hc (ht rfl) <| hc (ht rfl) <| hasL_nil) (by kernel_rfl) (Ctr.froze (c_chain_Upto e9))) rfl rfl rfl ?_
          refine jp (pa (ht rfl)) rfl rfl rfl ?_
          refine j_end ?_
          refine rs ?_
          refine rs ?_
          refine rt ?_
          refine jp (pm (ht rfl)) rfl rfl rfl ?_
          refine jp (pm (ht rfl)) rfl rfl rfl ?_
          refine jp (pj_nilCheck_ptr (ht rfl)) rfl rfl rfl ?_
          refine jp (pj_field_ptr (off := 2) (ht rfl) (by kernel_rfl)) rfl rfl rfl ?_
          refine jp (pj_load_box (ht rfl) .here (Path.then (Path.all (prod (sl u8) (prod i64 (sl R_chain_Version)))) (Path.then (Path.snd (sl u8) (prod i64 (sl R_chain_Version))) (Path.snd i64 (sl R_chain_Version)))) (by kernel_rfl)) rfl rfl rfl ?_
          obtain ⟨r4, e10, h⟩ := bind_some h
          refine jp (pj_call (hc (ht rfl) <| hc (ht rfl) <| hc has_fn0 <| hasL_nil) (by kernel_rfl) (c_slices_EqualFunc_chain_Version_chain_Version_chain_Version_chain_Version_monitor_same e10)) rfl rfl rfl ?_
          refine jp (pj_not (ht rfl)) rfl rfl rfl ?_
          refine j_end ?_
          refine run_cond (ht rfl) (fun e11 => ?_) (fun e11 => ?_)
          · replace h := bt e11 h
            refine rs ?_
            refine rt ?_
            refine j_assign_nil (T := 45) R_chain_Version rfl fun v5 => ?_
            refine jp (pa has_i64) rfl rfl rfl ?_
            refine j_end ?_
            obtain rfl := oi h
            exact run_ret fun a w hst => q_retN hst rfl (.cons (.tmp rfl) <| .cons (.tmp rfl) <| .nil) rfl v5 (fun _ _ h => h) (.cons (.next .here) <| .cons .here <| .nil)
          · replace h := bf e11 h
            refine run_skip ?_
            refine rs ?_
            obtain ⟨r5, e12, h⟩ := bind_some h
            refine run_keep (H' := [box b_w 97 (prod (sl u8) (prod i64 (sl R_chain_Version))) (p_w.1, p_w.2.1, p_w.2.2)]) (.cons .here <| .nil) ?_
            refine run_drawL (n := 10) (H := []) (Ls := [⟨[box b_w 97 (prod (sl u8) (prod i64 (sl R_chain_Version))) (p_w.1, p_w.2.1, p_w.2.2)], [(9, ⟨Unit, fun (_ : Unit) => [box b_w 97 (prod (sl u8) (prod i64 (sl R_chain_Version))) (p_w.1, p_f.2.1, p_w.2.2)], fun (_ : Unit) => []⟩)]⟩]) (by kernel_rfl) (by kernel_rfl) (by kernel_rfl) (by kernel_rfl) (by kernel_rfl) rfl (.read rfl (.plain rfl (pm (ht rfl))) <| .read rfl (.plain rfl (pm (ht rfl))) <| .read rfl (.plain rfl (pj_field_to (ht rfl) (Path.then (Path.snd (sl u8) (prod i64 (prod R_head_Head (sl R_chain_Version)))) (Path.fst i64 (prod R_head_Head (sl R_chain_Version)))) (by kernel_rfl))) <| .read rfl (.plain rfl (pl (ht rfl) (by kernel_rfl))) <| .read rfl (.plain rfl (pj_field_to (ht rfl) (Path.then (Path.snd (sl u8) (prod i64 (prod R_head_Head (sl R_chain_Version)))) (Path.then (Path.snd i64 (prod R_head_Head (sl R_chain_Version))) (Path.snd R_head_Head (sl R_chain_Version)))) (by kernel_rfl))) <| .read rfl (.plain rfl (pl (ht rfl) (by kernel_rfl))) <| .read rfl (.plain rfl (pj_call (hc (ht rfl) <| hasL_nil) (by kernel_rfl) (Ctr.froze (c_monitor_copied e12)))) <| .read rfl (.plain rfl (pj_nilCheck_ptr (ht rfl))) <| .read rfl (.plain rfl (pj_field_ptr (off := 1) (ht rfl) (by kernel_rfl))) <| .step 0 rfl .here (.inl rfl) (fun i => ⟨_, _, fun _ => (), (w_store (r' := (p_w.1, p_f.2.1, p_w.2.2)) (ht rfl) (ht rfl) .here (Path.then (Path.all (prod (sl u8) (prod i64 (sl R_chain_Version)))) (Path.then (Path.snd (sl u8) (prod i64 (sl R_chain_Version))) (Path.fst i64 (sl R_chain_Version)))) (by kernel_rfl) rfl), fun _ => rfl, (slotNo (s := any)), dst0⟩) <| .nil) ?_
            rintro _
            refine j_to (Γ' := [(3, ptrTo R_session_Found p_f), (6, (sl R_chain_Version).slot r3), (49, val (.pointer (some ⟨b_w, 0, none⟩))), (54, (sl R_chain_Version).slot r5)]) (H' := [box b_w 97 (prod (sl u8) (prod i64 (sl R_chain_Version))) (p_w.1, p_f.2.1, p_w.2.2)]) (.cons (.of_lk rfl) <| .cons (.of_lk rfl) <| .cons (.of_lk rfl) <| .cons (.of_lk rfl) <| .nil) (.cons .here <| .nil) ?_
            refine jp (pj_nilCheck_ptr (ht rfl)) rfl rfl rfl ?_
            refine jp (pj_field_ptr (off := 2) (ht rfl) (by kernel_rfl)) rfl rfl rfl ?_
            refine j_store_boxx (r' := (p_w.1, p_f.2.1, r5)) (ht rfl) (ht rfl) .here (Path.then (Path.all (prod (sl u8) (prod i64 (sl R_chain_Version)))) (Path.then (Path.snd (sl u8) (prod i64 (sl R_chain_Version))) (Path.snd i64 (sl R_chain_Version)))) (by kernel_rfl) rfl ?_
            refine j_end ?_
            refine rs ?_
            refine rt ?_
            refine jp (pj_field_to (ht rfl) (Path.then (Path.snd (sl u8) (prod i64 (prod R_head_Head (sl R_chain_Version)))) (Path.then (Path.snd i64 (prod R_head_Head (sl R_chain_Version))) (Path.snd R_head_Head (sl R_chain_Version)))) (by kernel_rfl)) rfl rfl rfl ?_
            refine jp (pl (ht rfl) (by kernel_rfl)) rfl rfl rfl ?_
            refine jp (pm (ht rfl)) rfl rfl rfl ?_
            refine jp (pj_len_sl (sz := 67) (ht rfl) (by kernel_rfl)) rfl rfl rfl ?_
            obtain ⟨x1, e13, h⟩ := bind_some h
            refine jp (pj_slice_slx (ht rfl) (.yes (ht rfl) isInt_i64) .no e13 (by kernel_rfl)) rfl rfl rfl ?_
            obtain ⟨r6, e14, h⟩ := bind_some h
            refine j_call (hc (ht rfl) <| hasL_nil) (by kernel_rfl) (c_monitor_copied e14) .nil rfl fun v6 => ?_
            refine jp (pa (ht rfl)) rfl rfl rfl ?_
            refine jp (pa has_i64) rfl rfl rfl ?_
            refine j_end ?_
            obtain rfl := oi h
            exact run_ret fun a w hst => q_retN hst rfl (.cons (.tmp rfl) <| .cons (.tmp rfl) <| .nil) rfl v6 (fun _ _ h => h) (.cons (.next .here) <| .cons .here <| .nil)
  · refine run_cond (ht rfl) (fun e3 => ?_) (fun e3 => ?_)
    · replace h := bt e3 e4
      refine run_skip ?_
      obtain rfl := oi h
      exact run_to (.cons (.of_lk rfl) <| .cons (.of_lk rfl) <| .cons (.of_lk rfl) <| .nil) (.cons .here <| .nil) (J ())
    · replace h := bf e3 e4
      refine rt ?_
      refine jp (pj_field_to (ht rfl) (Path.then (Path.snd (sl u8) (prod i64 (prod R_head_Head (sl R_chain_Version)))) (Path.fst i64 (prod R_head_Head (sl R_chain_Version)))) (by kernel_rfl)) rfl rfl rfl ?_
      refine jp (pl (ht rfl) (by kernel_rfl)) rfl rfl rfl ?_
      refine jp (pj_ilss (ht rfl) has_i64) rfl rfl rfl ?_
      refine jp (pa (ht rfl)) rfl rfl rfl ?_
      refine j_end ?_
      obtain rfl := oi h
      exact run_to (.cons (.of_lk rfl) <| .cons (.of_lk rfl) <| .cons (.of_lk rfl) <| .nil) (.cons .here <| .nil) (J ())
set_option maxRecDepth 100000 in
set_option maxHeartbeats 4000000 in
theorem c_monitor_Monitor_Epoch {G : GP} {p_w : (List (BitVec 8)) × Int × (List T_chain_Version)} {b_w : Nat} {c_w : List Value} {r : Int} (h : monitor_Monitor_Epoch p_w = some r) : Ctr Tryd.prog G 40 [val (.pointer (some ⟨b_w, 0, none⟩))] [box b_w 97 (exr (prod (sl u8) (prod i64 (sl R_chain_Version))) c_w) (p_w.1, p_w.2.1, p_w.2.2)] (fun (_ : Unit) => i64.slot r) (fun (_ : Unit) => [box b_w 97 (exr (prod (sl u8) (prod i64 (sl R_chain_Version))) c_w) (p_w.1, p_w.2.1, p_w.2.2)]) := by
  unfold monitor_Monitor_Epoch at h
  refine ctr_of_run Tryd.func40 rfl 9 rfl rfl fun m0 w0 b0 => ?_
  show Run _ _ _ [(0, val (.pointer (some ⟨b_w, 0, none⟩)))] _
  refine rs ?_
  refine rt ?_
  refine jp (PJ.xw (.ex .refl) (pa has_i64)) rfl rfl rfl ?_
  refine j_end ?_
  refine rs ?_
  refine rs ?_
  refine rt ?_
  refine jp (PJ.xw (.ex .refl) (pm (ht rfl))) rfl rfl rfl ?_
  refine jp (PJ.xw (.ex .refl) (pj_eq_nil_val (E := 97) (by kernel_rfl) (ht rfl))) rfl rfl rfl ?_
  refine j_end ?_
  refine run_cond_f (ht rfl) rfl ?_
  refine run_skip ?_
  refine rs ?_
  refine rt ?_
  refine jp (PJ.xw (.ex .refl) (pm (ht rfl))) rfl rfl rfl ?_
  refine jp (PJ.xw (.ex .refl) (pj_nilCheck_ptr (ht rfl))) rfl rfl rfl ?_
  refine jp (PJ.xw (.ex .refl) (pj_field_ptr (off := 1) (ht rfl) (by kernel_rfl))) rfl rfl rfl ?_
  refine jp (PJ.xw (.ex .refl) (pj_load_box (ht rfl) .here (Path.then (Path.all (prod (sl u8) (prod i64 (sl R_chain_Version)))) (Path.then (Path.snd (sl u8) (prod i64 (sl R_chain_Version))) (Path.fst i64 (sl R_chain_Version)))) (by kernel_rfl))) rfl rfl rfl ?_
  refine jp (PJ.xw (.ex .refl) (pa (ht rfl))) rfl rfl rfl ?_
  refine j_end ?_
  obtain rfl := oi h
  exact run_ret fun a w hst => q_ret1 hst rfl (.tmp rfl) () (fun _ _ h => h) (.cons .here <| .nil)
set_option maxRecDepth 100000 in
set_option maxHeartbeats 4000000 in
theorem c_rolodexlaw23_awake {G : GP} (hg0 : HG0 G) (hg1 : HG1 G) {r : Bool} (h : rolodexlaw23_awake = some r) : Ctr Tryd.prog G 37 [] [] (fun (_ : Unit) => bl.slot r) (fun (_ : Unit) => []) := by
  unfold rolodexlaw23_awake at h
  refine ctr_of_run Tryd.func37 rfl 22 rfl rfl fun m0 w0 b0 => ?_
  show Run _ _ _ [] _
  refine rs ?_
  refine rt ?_
  refine jp (pa has_bl) rfl rfl rfl ?_
  refine j_end ?_
  refine rs ?_
  refine rt ?_
  refine j_buildSlice (T := 5) (R := u8) (.cons (has_un (x := 97#8) rfl) .nil) rfl (by kernel_rfl) (by kernel_rfl) rfl fun v1 => ?_
  refine j_w (w_conv_lit (e := 5) (ht rfl) .here (by kernel_rfl) (by kernel_rfl) rfl (by simp) rfl) rfl (fun _ _ e => by cases e; rfl) fun _ => ?_
  obtain ⟨r1, e2, h⟩ := bind_some h
  refine j_call (hc (ht rfl) <| hasL_nil) (by kernel_rfl) (c_monitor_New e2) .nil rfl fun b1 => ?_
  refine jp (pa (ht rfl)) rfl rfl rfl ?_
  refine j_end ?_
  refine rs ?_
  refine rt ?_
  refine jp (pm (ht rfl)) rfl rfl rfl ?_
  refine j_buildSlice (T := 5) (R := u8) (.cons (has_un (x := 97#8) rfl) .nil) rfl (by kernel_rfl) (by kernel_rfl) rfl fun v2 => ?_
  refine j_w (w_conv_lit (e := 5) (ht rfl) .here (by kernel_rfl) (by kernel_rfl) rfl (by simp) rfl) rfl (fun _ _ e => by cases e; rfl) fun _ => ?_
  obtain ⟨x1, e4, h⟩ := bind_some h
  refine jp (PJ.eqv (pj_build (R := R_session_Found) (zero_prod zero_sl (zero_prod zero_i64 (zero_prod (zero_prod zero_i64 (zero_prod zero_i64 (zero_prod (zero_vec 32 zero_un) (zero_vec 32 zero_un)))) zero_sl))) (by kernel_rfl) (by kernel_rfl) rfl (.cons (ht rfl) (Path.fst (sl u8) (prod i64 (prod R_head_Head (sl R_chain_Version)))) (by kernel_rfl) (.cons has_i64 (Path.then (Path.snd (sl u8) (prod i64 (prod R_head_Head (sl R_chain_Version)))) (Path.fst i64 (prod R_head_Head (sl R_chain_Version)))) (by kernel_rfl) .nil))) (oi e4)) rfl rfl rfl ?_
  obtain ⟨r2, e5, h⟩ := bind_some h
  refine j_call (hc (ht rfl) <| hc (ht rfl) <| hasL_nil) (by kernel_rfl) (c_monitor_Monitor_Look hg0 hg1 e5) (.cons .here <| .nil) rfl fun v3 => ?_
  refine jp (pm (ht rfl)) rfl rfl rfl ?_
  refine jp (pj_extract (ht rfl) rfl) rfl rfl rfl ?_
  refine jp (pj_extract (ht rfl) rfl) rfl rfl rfl ?_
  refine jp (pa (ht rfl)) rfl rfl rfl ?_
  refine jp (pa (ht rfl)) rfl rfl rfl ?_
  refine j_end ?_
  refine rs ?_
  refine rt ?_
  refine jp (pm (ht rfl)) rfl rfl rfl ?_
  refine jp (pj_ieql (ht rfl) has_i64) rfl rfl rfl ?_
  refine jp (pm (ht rfl)) rfl rfl rfl ?_
  obtain ⟨y1, e7, h⟩ := bind_some h
  refine j_joinx (ι := Unit) (Γ' := fun _ => [(21, bl.slot y1)]) (H' := fun _ => []) 4 ?_ fun J => ?_
  · intro _
    clear e7
    show OpsJ _ _ _ [(21, bl.slot y1)] [] _
    refine jp (pa (ht rfl)) rfl rfl rfl ?_
    refine j_end ?_
    obtain rfl := oi h
    exact run_ret fun a w hst => q_ret1 hst rfl (.tmp rfl) () (fun _ _ h => h) (.nil)
  · rcases bool_tf (decide (r2.2.2 = (0 : Int))) with e6 | e6
    · replace e7 := bt e6 e7
      refine jy (pm (ht rfl)) rfl rfl rfl rfl (bl_isx e6) rfl rfl ?_
      obtain ⟨r3, e8, e7⟩ := bind_some e7
      refine jy (pj_callR (hc (ht rfl) <| hasL_nil) .here (by kernel_rfl) (fun _ => (c_monitor_Monitor_Epoch e8))) rfl rfl rfl rfl (bl_isx e6) rfl rfl ?_
      refine jy (pj_ieql (ht rfl) has_i64) rfl rfl rfl rfl (bl_isx e6) rfl rfl ?_
      refine jp (PJ.eqv (R := bl) (pj_pick (t := any) (ht rfl) (fun _ => (ht rfl)) (fun he => absurd (e6.symm.trans he) (by decide))) (oi e7)) rfl rfl rfl ?_
      exact j_to (.cons (.of_lk rfl) <| .nil) (.nil) (J ())
    · replace e7 := bf e6 e7
      refine j_guard_no2 (j := 2) (want := true) rfl rfl rfl rfl (bl_isx e6) rfl rfl rfl ?_
      refine j_guard_no2 (j := 2) (want := true) rfl rfl rfl rfl (bl_isx e6) rfl rfl rfl ?_
      refine j_guard_no2 (j := 2) (want := true) rfl rfl rfl rfl (bl_isx e6) rfl rfl rfl ?_
      refine jp (PJ.eqv (R := bl) (pj_pick (t := any) (ht rfl) (fun he => absurd (e6.symm.trans he) (by decide)) (fun _ => has_bl)) (oi e7)) rfl rfl rfl ?_
      exact j_to (.cons (.of_lk rfl) <| .nil) (.nil) (J ())
set_option maxRecDepth 100000 in
set_option maxHeartbeats 4000000 in
theorem c_monitor_Monitor_Seen {G : GP} {p_w : (List (BitVec 8)) × Int × (List T_chain_Version)} {b_w : Nat} {c_w : List Value} {r : (List T_chain_Version)} (h : monitor_Monitor_Seen p_w = some r) : Ctr Tryd.prog G 44 [val (.pointer (some ⟨b_w, 0, none⟩))] [box b_w 97 (exr (prod (sl u8) (prod i64 (sl R_chain_Version))) c_w) (p_w.1, p_w.2.1, p_w.2.2)] (fun (u0 : Value) => ov u0) (fun (u0 : Value) => [box b_w 97 (exr (prod (sl u8) (prod i64 (sl R_chain_Version))) c_w) (p_w.1, p_w.2.1, p_w.2.2), own 45 R_chain_Version u0 r]) := by
  unfold monitor_Monitor_Seen at h
  refine ctr_of_run Tryd.func44 rfl 10 rfl rfl fun m0 w0 b0 => ?_
  show Run _ _ _ [(0, val (.pointer (some ⟨b_w, 0, none⟩)))] _
  refine rs ?_
  refine rt ?_
  refine j_assign_nil (T := 45) R_chain_Version rfl fun v1 => ?_
  refine j_end ?_
  refine rs ?_
  refine rs ?_
  refine rt ?_
  refine jp (PJ.xw (.keep (.ex .refl)) (pm (ht rfl))) rfl rfl rfl ?_
  refine jp (PJ.xw (.keep (.ex .refl)) (pj_eq_nil_val (E := 97) (by kernel_rfl) (ht rfl))) rfl rfl rfl ?_
  refine j_end ?_
  refine run_cond_f (ht rfl) rfl ?_
  refine run_skip ?_
  refine rs ?_
  refine rt ?_
  refine jp (PJ.xw (.keep (.ex .refl)) (pm (ht rfl))) rfl rfl rfl ?_
  refine jp (PJ.xw (.keep (.ex .refl)) (pj_nilCheck_ptr (ht rfl))) rfl rfl rfl ?_
  refine jp (PJ.xw (.keep (.ex .refl)) (pj_field_ptr (off := 2) (ht rfl) (by kernel_rfl))) rfl rfl rfl ?_
  refine jp (PJ.xw (.keep (.ex .refl)) (pj_load_box (ht rfl) (.next .here) (Path.then (Path.all (prod (sl u8) (prod i64 (sl R_chain_Version)))) (Path.then (Path.snd (sl u8) (prod i64 (sl R_chain_Version))) (Path.snd i64 (sl R_chain_Version)))) (by kernel_rfl))) rfl rfl rfl ?_
  obtain ⟨r1, e2, h⟩ := bind_some h
  refine j_call (hc (ht rfl) <| hasL_nil) (by kernel_rfl) (c_monitor_copied e2) .nil rfl fun v2 => ?_
  refine jp (PJ.xw (.keep (.keep (.ex .refl))) (pa (ht rfl))) rfl rfl rfl ?_
  refine j_end ?_
  obtain rfl := oi h
  exact run_ret fun a w hst => q_ret1 hst rfl (.tmp rfl) v2 (fun _ _ h => h) (.cons (.next (.next .here)) <| .cons .here <| .nil)
set_option maxRecDepth 100000 in
set_option maxHeartbeats 4000000 in
theorem c_monitor_Monitor_Look_nil {G : GP} (hg0 : HG0 G) (hg1 : HG1 G) {p_f : T_session_Found} {r : (List T_chain_Version) × Int} (h : monitor_Monitor_Look_nil p_f = some r) : Ctr Tryd.prog G 39 [(ptr R_monitor_Monitor).slot (none : Option T_monitor_Monitor), R_session_Found.slot p_f] [] (fun (u0 : Value) => tup [ov u0, i64.slot r.2]) (fun (u0 : Value) => [own 45 R_chain_Version u0 r.1]) := by
  unfold monitor_Monitor_Look_nil at h
  refine ctr_of_run Tryd.func39 rfl 65 rfl rfl fun m0 w0 b0 => ?_
  show Run _ _ _ [(0, (ptr R_monitor_Monitor).slot (none : Option T_monitor_Monitor)), (1, R_session_Found.slot p_f)] _
  refine rs ?_
  refine rt ?_
  refine jp (pj_box_to (ht rfl)) rfl rfl rfl ?_
  refine j_assign_nil (T := 45) R_chain_Version rfl fun v1 => ?_
  refine jp (pa has_i64) rfl rfl rfl ?_
  refine j_end ?_
  refine rs ?_
  refine run_block ?_
  refine rs ?_
  refine rs ?_
  refine rt ?_
  refine jp (pm (ht rfl)) rfl rfl rfl ?_
  refine jp (pj_eq_nil (E := 97) (by kernel_rfl) (ht rfl)) rfl rfl rfl ?_
  refine jp (pa (ht rfl)) rfl rfl rfl ?_
  refine j_end ?_
  refine run_cond_t (ht rfl) rfl ?_
  refine run_skip ?_
  refine run_cond_t (ht rfl) rfl ?_
  refine rs ?_
  refine rt ?_
  refine j_assign_nil (T := 45) R_chain_Version rfl fun v2 => ?_
  refine jp (pa has_i64) rfl rfl rfl ?_
  refine j_end ?_
  obtain rfl := oi h
  exact run_ret fun a w hst => q_retN hst rfl (.cons (.tmp rfl) <| .cons (.tmp rfl) <| .nil) rfl v2 (fun _ _ h => h) (.cons .here <| .nil)
set_option maxRecDepth 100000 in
set_option maxHeartbeats 4000000 in
theorem c_monitor_Monitor_Epoch_nil {G : GP} {r : Int} (h : monitor_Monitor_Epoch_nil = some r) : Ctr Tryd.prog G 40 [(ptr R_monitor_Monitor).slot (none : Option T_monitor_Monitor)] [] (fun (_ : Unit) => i64.slot r) (fun (_ : Unit) => []) := by
  unfold monitor_Monitor_Epoch_nil at h
  refine ctr_of_run Tryd.func40 rfl 9 rfl rfl fun m0 w0 b0 => ?_
  show Run _ _ _ [(0, (ptr R_monitor_Monitor).slot (none : Option T_monitor_Monitor))] _
  refine rs ?_
  refine rt ?_
  refine jp (pa has_i64) rfl rfl rfl ?_
  refine j_end ?_
  refine rs ?_
  refine rs ?_
  refine rt ?_
  refine jp (pm (ht rfl)) rfl rfl rfl ?_
  refine jp (pj_eq_nil (E := 97) (by kernel_rfl) (ht rfl)) rfl rfl rfl ?_
  refine j_end ?_
  refine run_cond_t (ht rfl) rfl ?_
  refine rs ?_
  refine rt ?_
  refine jp (pa has_i64) rfl rfl rfl ?_
  refine j_end ?_
  obtain rfl := oi h
  exact run_ret fun a w hst => q_ret1 hst rfl (.tmp rfl) () (fun _ _ h => h) (.nil)
set_option maxRecDepth 100000 in
set_option maxHeartbeats 4000000 in
theorem c_monitor_Monitor_Seen_nil {G : GP} {r : (List T_chain_Version)} (h : monitor_Monitor_Seen_nil = some r) : Ctr Tryd.prog G 44 [(ptr R_monitor_Monitor).slot (none : Option T_monitor_Monitor)] [] (fun (u0 : Value) => ov u0) (fun (u0 : Value) => [own 45 R_chain_Version u0 r]) := by
  unfold monitor_Monitor_Seen_nil at h
  refine ctr_of_run Tryd.func44 rfl 10 rfl rfl fun m0 w0 b0 => ?_
  show Run _ _ _ [(0, (ptr R_monitor_Monitor).slot (none : Option T_monitor_Monitor))] _
  refine rs ?_
  refine rt ?_
  refine j_assign_nil (T := 45) R_chain_Version rfl fun v1 => ?_
  refine j_end ?_
  refine rs ?_
  refine rs ?_
  refine rt ?_
  refine jp (pm (ht rfl)) rfl rfl rfl ?_
  refine jp (pj_eq_nil (E := 97) (by kernel_rfl) (ht rfl)) rfl rfl rfl ?_
  refine j_end ?_
  refine run_cond_t (ht rfl) rfl ?_
  refine rs ?_
  refine rt ?_
  refine j_assign_nil (T := 45) R_chain_Version rfl fun v2 => ?_
  refine j_end ?_
  obtain rfl := oi h
  exact run_ret fun a w hst => q_ret1 hst rfl (.tmp rfl) v2 (fun _ _ h => h) (.cons .here <| .nil)
set_option maxRecDepth 100000 in
set_option maxHeartbeats 4000000 in
theorem c_slices_Clone_chain_Version_chain_Version_E {G : GP} {p_s : List T_chain_Version} {e0 : Ent} {r : (List T_chain_Version)} (hE : ExactE e0) (h : slices_Clone_chain_Version_chain_Version p_s = some r) : Ctr Tryd.prog G 49 [(slH e0 R_chain_Version).slot p_s] [e0] (fun (u0 : Value) => ov u0) (fun (u0 : Value) => [e0, own 45 R_chain_Version u0 r]) := by
  unfold slices_Clone_chain_Version_chain_Version at h
  refine ctr_of_run Tryd.func49 rfl 8 rfl rfl fun m0 w0 b0 => ?_
  show Run _ _ _ [(0, (slH e0 R_chain_Version).slot p_s)] _
  refine rs ?_
  refine rt ?_
  refine j_assign_nil (T := 45) R_chain_Version rfl fun v1 => ?_
  refine j_end ?_
  refine rs ?_
  refine rs ?_
  refine rt ?_
  refine jp (pm (ht rfl)) rfl rfl rfl ?_
  refine jp (pj_isnil_E (E := 45) (by kernel_rfl) (ht rfl)) rfl rfl rfl ?_
  refine j_end ?_
  refine run_cond_nil (ht rfl) (fun e0 => ?_) ?_
  · subst e0
    obtain ⟨e1, h⟩ := grd_some h
    obtain rfl := oi h
    refine rs ?_
    refine rt ?_
    refine j_assign_nil (T := 45) R_chain_Version rfl fun v2 => ?_
    refine j_end ?_
    exact run_ret fun a w hst => q_ret1 hst rfl (.tmp rfl) v2 (fun _ _ h => h) (.cons (.next (.next .here)) <| .cons .here <| .nil)
  refine run_skip ?_
  refine rs ?_
  refine rt ?_
  refine j_buildSlice (T := 45) (R := R_chain_Version) .nil rfl (by kernel_rfl) (by kernel_rfl) rfl fun v2 => ?_
  refine jp (pm (ht rfl)) rfl rfl rfl ?_
  obtain ⟨e1, h⟩ := grd_some h
  refine j_append (T := 45) (E := 45) (ht rfl) .here (src_E (ht rfl) (.next (.next .here))) (by kernel_rfl) (by kernel_rfl) e1 rfl fun v3 => ?_
  refine jp (pa (ht rfl)) rfl rfl rfl ?_
  refine j_end ?_
  obtain rfl := oi h
  exact run_ret fun a w hst => q_ret1 hst rfl (.tmp rfl) v3 (fun _ _ h => h) (.cons (.next (.next .here)) <| .cons .here <| .nil)
set_option maxRecDepth 100000 in
set_option maxHeartbeats 4000000 in
theorem c_chain_Upto_E {G : GP} {p_chain : List T_chain_Version} {p_epoch : Int} {e0 : Ent} {r : (List T_chain_Version)} (hE : ExactE e0) (h : chain_Upto p_chain p_epoch = some r) : Ctr Tryd.prog G 35 [(slH e0 R_chain_Version).slot p_chain, i64.slot p_epoch] [e0] (fun (u0 : Value) => ov u0) (fun (u0 : Value) => [e0, own 45 R_chain_Version u0 r]) := by
  unfold chain_Upto at h
  refine ctr_of_run Tryd.func35 rfl 25 rfl rfl fun m0 w0 b0 => ?_
  show Run _ _ _ [(0, (slH e0 R_chain_Version).slot p_chain), (1, i64.slot p_epoch)] _
  refine rs ?_
  refine rt ?_
  refine j_assign_nil (T := 45) R_chain_Version rfl fun v1 => ?_
  refine j_end ?_
  refine rs ?_
  refine rt ?_
  refine jp (pa has_i64) rfl rfl rfl ?_
  refine j_end ?_
  refine rs ?_
  obtain ⟨y3, e5, h⟩ := bind_some h
  refine run_loopS (Γi := fun (i : Unit) (s : Int) => [(0, (slH e0 R_chain_Version).slot p_chain), (1, i64.slot p_epoch), (5, i64.slot s)]) (Hi := fun (i : Unit) (s : Int) => [e0]) e5 () (fun a w hst => (hst.sub (.cons (.of_lk rfl) <| .cons (.of_lk rfl) <| .cons (.of_lk rfl) <| .nil)).keep (.cons (.next .here) <| .nil)) ?_ ?_
  · clear h e5
    rintro _ y1 lr h
    change chain_Upto_L1 p_chain p_epoch y1 = some _ at h
    show Run _ _ _ [(0, (slH e0 R_chain_Version).slot p_chain), (1, i64.slot p_epoch), (5, i64.slot y1)] [e0]
    unfold chain_Upto_L1 at h
    refine rs ?_
    refine rs ?_
    refine rt ?_
    refine jp (pm (ht rfl)) rfl rfl rfl ?_
    refine jp (pm (ht rfl)) rfl rfl rfl ?_
    refine jp (pj_len_slE (sz := 67) (ht rfl) (by kernel_rfl)) rfl rfl rfl ?_
    refine jp (pj_ilss (ht rfl) (ht rfl)) rfl rfl rfl ?_
    refine jp (pm (ht rfl)) rfl rfl rfl ?_
    obtain ⟨y2, e2, h⟩ := bind_some h
    refine j_joinx (ι := Unit) (Γ' := fun _ => [(0, (slH e0 R_chain_Version).slot p_chain), (1, i64.slot p_epoch), (5, i64.slot y1), (18, bl.slot y2)]) (H' := fun _ => [e0]) 8 ?_ fun J => ?_
    · intro _
      clear e2
      show OpsJ _ _ _ [(0, (slH e0 R_chain_Version).slot p_chain), (1, i64.slot p_epoch), (5, i64.slot y1), (18, bl.slot y2)] [e0] _
      refine j_end ?_
      refine run_cond (ht rfl) (fun e4 => ?_) (fun e4 => ?_)
      · replace h := bt e4 h
        refine run_skip ?_
        refine run_block ?_
        refine rt ?_
        refine jp (pm (ht rfl)) rfl rfl rfl ?_
        refine jp (pj_iadd (ht rfl) has_i64) rfl rfl rfl ?_
        refine jp (pa (ht rfl)) rfl rfl rfl ?_
        refine j_end ?_
        refine run_endblock ?_
        obtain rfl := oi h
        exact run_next () (.cons (.of_lk rfl) <| .cons (.of_lk rfl) <| .cons (.of_lk rfl) <| .nil) (.cons .here <| .nil)
      · replace h := bf e4 h
        obtain rfl := oi h
        exact run_brk () (.cons (.of_lk rfl) <| .cons (.of_lk rfl) <| .cons (.of_lk rfl) <| .nil) (.cons .here <| .nil)
    · rcases bool_tf (decide (y1 < (p_chain.length : Int))) with e1 | e1
      · replace e2 := bt e1 e2
        refine jy (pm (ht rfl)) rfl rfl rfl rfl (bl_isx e1) rfl rfl ?_
        refine jy (pm (ht rfl)) rfl rfl rfl rfl (bl_isx e1) rfl rfl ?_
        obtain ⟨x1, e3, e2⟩ := bind_some e2
        refine jy (pj_index_slE (ht rfl) (ht rfl) isInt_i64 e3 (by kernel_rfl)) rfl rfl rfl rfl (bl_isx e1) rfl rfl ?_
        refine jy (pj_field_E (ht rfl) (Path.then (Path.snd i64 (prod i64 (prod R_api_Hash (prod R_api_Hash (sl u8))))) (Path.fst i64 (prod R_api_Hash (prod R_api_Hash (sl u8))))) (by kernel_rfl)) rfl rfl rfl rfl (bl_isx e1) rfl rfl ?_
        refine jy (pj_load_E (ht rfl) .here (by kernel_rfl)) rfl rfl rfl rfl (bl_isx e1) rfl rfl ?_
        refine jy (pm (ht rfl)) rfl rfl rfl rfl (bl_isx e1) rfl rfl ?_
        refine jy (pj_ileq (ht rfl) (ht rfl)) rfl rfl rfl rfl (bl_isx e1) rfl rfl ?_
        refine jp (PJ.eqv (R := bl) (pj_pick (t := any) (ht rfl) (fun _ => (ht rfl)) (fun he => absurd (e1.symm.trans he) (by decide))) (oi e2)) rfl rfl rfl ?_
        exact j_to (.cons (.of_lk rfl) <| .cons (.of_lk rfl) <| .cons (.of_lk rfl) <| .cons (.of_lk rfl) <| .nil) (.cons .here <| .nil) (J ())
      · replace e2 := bf e1 e2
        refine j_guard_no2 (j := 4) (want := true) rfl rfl rfl rfl (bl_isx e1) rfl rfl rfl ?_
        refine j_guard_no2 (j := 4) (want := true) rfl rfl rfl rfl (bl_isx e1) rfl rfl rfl ?_
        refine j_guard_no2 (j := 4) (want := true) rfl rfl rfl rfl (bl_isx e1) rfl rfl rfl ?_
        refine j_guard_no2 (j := 4) (want := true) rfl rfl rfl rfl (bl_isx e1) rfl rfl rfl ?_
        refine j_guard_no2 (j := 4) (want := true) rfl rfl rfl rfl (bl_isx e1) rfl rfl rfl ?_
        refine j_guard_no2 (j := 4) (want := true) rfl rfl rfl rfl (bl_isx e1) rfl rfl rfl ?_
        refine j_guard_no2 (j := 4) (want := true) rfl rfl rfl rfl (bl_isx e1) rfl rfl rfl ?_
        refine jp (PJ.eqv (R := bl) (pj_pick (t := any) (ht rfl) (fun he => absurd (e1.symm.trans he) (by decide)) (fun _ => has_bl)) (oi e2)) rfl rfl rfl ?_
        exact j_to (.cons (.of_lk rfl) <| .cons (.of_lk rfl) <| .cons (.of_lk rfl) <| .cons (.of_lk rfl) <| .nil) (.cons .here <| .nil) (J ())
  · rintro _
    show Run _ _ _ [(0, (slH e0 R_chain_Version).slot p_chain), (1, i64.slot p_epoch), (5, i64.slot y3)] [e0]
    refine run_to (Γ' := [(0, (slH e0 R_chain_Version).slot p_chain), (5, i64.slot y3)]) (H' := [e0]) (.cons (.of_lk rfl) <| .cons (.of_lk rfl) <| .nil) (.cons .here <| .nil) ?_
    refine rs ?_
    refine rt ?_
    refine jp (pm (ht rfl)) rfl rfl rfl ?_
    refine jp (pm (ht rfl)) rfl rfl rfl ?_
    obtain ⟨x2, e6, h⟩ := bind_some h
    refine jp (pj_slice_slE (ht rfl) .no (.yes (ht rfl) isInt_i64) e6 (by kernel_rfl)) rfl rfl rfl ?_
    obtain ⟨r1, e7, h⟩ := bind_some h
    refine j_call (hc (ht rfl) <| hasL_nil) (by kernel_rfl) (c_slices_Clone_chain_Version_chain_Version_E hE e7) (.cons .here <| .nil) rfl fun v2 => ?_
    refine jp (pa (ht rfl)) rfl rfl rfl ?_
    refine j_end ?_
    obtain rfl := oi h
    exact run_ret fun a w hst => q_ret1 hst rfl (.tmp rfl) v2 (fun _ _ h => h) (.cons .here <| .cons .here <| .nil)
set_option maxRecDepth 100000 in
set_option maxHeartbeats 4000000 in
theorem c_monitor_copied_E {G : GP} {p_l : List T_chain_Version} {e0 : Ent} {r : (List T_chain_Version)} (hE : ExactE e0) (h : monitor_copied p_l = some r) : Ctr Tryd.prog G 63 [(slH e0 R_chain_Version).slot p_l] [e0] (fun (u0 : Value) => ov u0) (fun (u0 : Value) => [e0, own 45 R_chain_Version u0 r]) := by
  unfold monitor_copied at h
  refine ctr_of_run Tryd.func63 rfl 22 rfl rfl fun m0 w0 b0 => ?_
  show Run _ _ _ [(0, (slH e0 R_chain_Version).slot p_l)] _
  refine rs ?_
  refine rt ?_
  refine j_assign_nil (T := 45) R_chain_Version rfl fun v1 => ?_
  refine j_end ?_
  refine rs ?_
  refine rt ?_
  refine j_assign_nil (T := 45) R_chain_Version rfl fun v2 => ?_
  refine j_end ?_
  refine rs ?_
  refine rs ?_
  refine rt ?_
  refine jp (pm (ht rfl)) rfl rfl rfl ?_
  refine jp (pj_len_slE (sz := 67) (ht rfl) (by kernel_rfl)) rfl rfl rfl ?_
  refine jp (pm has_i64) rfl rfl rfl ?_
  refine j_end ?_
  obtain ⟨⟨y3, y4⟩, e5, h⟩ := bind_some h
  refine run_loopS (Γi := fun (i : Value) (s : Int × (List T_chain_Version)) => [(3, ov i), (6, (slH e0 R_chain_Version).slot p_l), (7, i64.slot (p_l.length : Int)), (8, i64.slot s.1)]) (Hi := fun (i : Value) (s : Int × (List T_chain_Version)) => [own 45 R_chain_Version i s.2, e0]) e5 v2 (fun a w hst => (hst.sub (.cons (.of_lk rfl) <| .cons (.of_lk rfl) <| .cons (.of_lk rfl) <| .cons (.of_lk rfl) <| .nil)).keep (.cons .here <| .cons (.next .here) <| .nil)) ?_ ?_
  · clear h e5
    rintro v3 ⟨y1, y2⟩ lr h
    change monitor_copied_L1 p_l y1 y2 = some _ at h
    show Run _ _ _ [(3, ov v3), (6, (slH e0 R_chain_Version).slot p_l), (7, i64.slot (p_l.length : Int)), (8, i64.slot y1)] [own 45 R_chain_Version v3 y2, e0]
    unfold monitor_copied_L1 at h
    refine rs ?_
    refine rt ?_
    refine jp (pj_ilss (ht rfl) (ht rfl)) rfl rfl rfl ?_
    refine j_end ?_
    refine rs ?_
    refine run_cond (ht rfl) (fun e1 => ?_) (fun e1 => ?_)
    · replace h := bt e1 h
      refine run_skip ?_
      refine rs ?_
      refine run_block ?_
      refine rs ?_
      refine rt ?_
      obtain ⟨x1, e2, h⟩ := bind_some h
      refine jp (pj_index_slE (ht rfl) (ht rfl) isInt_i64 e2 (by kernel_rfl)) rfl rfl rfl ?_
      refine jp (pj_load_E (ht rfl) (.next .here) (by kernel_rfl)) rfl rfl rfl ?_
      refine j_alloc (x := (0, 0, (Vector.replicate 32 (0#8)), (Vector.replicate 32 (0#8)), ([] : List (BitVec 8)))) (R := R_chain_Version) (zero_prod zero_i64 (zero_prod zero_i64 (zero_prod (zero_vec 32 zero_un) (zero_prod (zero_vec 32 zero_un) zero_sl)))) (by kernel_rfl) rfl fun b1 => ?_
      refine j_store_boxx (r' := x1) (ht rfl) (ht rfl) .here (Path.all R_chain_Version) (by kernel_rfl) rfl ?_
      refine j_end ?_
      refine rs ?_
      refine rt ?_
      refine jp (pj_field_ptr (off := 66) (ht rfl) (by kernel_rfl)) rfl rfl rfl ?_
      refine jp (pj_load_box (ht rfl) .here (Path.then (Path.all R_chain_Version) (Path.then (Path.snd i64 (prod i64 (prod R_api_Hash (prod R_api_Hash (sl u8))))) (Path.then (Path.snd i64 (prod R_api_Hash (prod R_api_Hash (sl u8)))) (Path.then (Path.snd R_api_Hash (prod R_api_Hash (sl u8))) (Path.snd R_api_Hash (sl u8)))))) (by kernel_rfl)) rfl rfl rfl ?_
      obtain ⟨r1, e3, h⟩ := bind_some h
      refine jp (pj_call (hc (ht rfl) <| hasL_nil) (by kernel_rfl) (Ctr.froze (c_slices_Clone_byte_byte e3))) rfl rfl rfl ?_
      refine jp (pj_field_ptr (off := 66) (ht rfl) (by kernel_rfl)) rfl rfl rfl ?_
      refine j_store_boxx (r' := (x1.1, x1.2.1, x1.2.2.1, x1.2.2.2.1, r1)) (ht rfl) (ht rfl) .here (Path.then (Path.all R_chain_Version) (Path.then (Path.snd i64 (prod i64 (prod R_api_Hash (prod R_api_Hash (sl u8))))) (Path.then (Path.snd i64 (prod R_api_Hash (prod R_api_Hash (sl u8)))) (Path.then (Path.snd R_api_Hash (prod R_api_Hash (sl u8))) (Path.snd R_api_Hash (sl u8)))))) (by kernel_rfl) rfl ?_
      refine j_end ?_
      refine rt ?_
      refine jp (pm (ht rfl)) rfl rfl rfl ?_
      refine jp (pj_load_box (ht rfl) .here (Path.all R_chain_Version) (by kernel_rfl)) rfl rfl rfl ?_
      refine jp (pj_buildSlice (T := 45) (R := R_chain_Version) (.cons (ht rfl) .nil) rfl (by kernel_rfl) (by kernel_rfl)) rfl rfl rfl ?_
      obtain ⟨e4, h⟩ := grd_some h
      refine j_append (T := 45) (E := 45) (ht rfl) (.next .here) (src_data (ht rfl)) (by kernel_rfl) (by kernel_rfl) e4 rfl fun v4 => ?_
      refine jp (pa (ht rfl)) rfl rfl rfl ?_
      refine j_end ?_
      refine run_endblock ?_
      refine rt ?_
      refine jp (pj_iadd (ht rfl) has_i64) rfl rfl rfl ?_
      refine jp (pm (ht rfl)) rfl rfl rfl ?_
      refine j_end ?_
      obtain rfl := oi h
      exact run_next v4 (.cons (.of_lk rfl) <| .cons (.of_lk rfl) <| .cons (.of_lk rfl) <| .cons (.of_lk rfl) <| .nil) (.cons .here <| .cons (.next .here) <| .nil)
    · replace h := bf e1 h
      obtain rfl := oi h
      exact run_brk v3 (.cons (.of_lk rfl) <| .cons (.of_lk rfl) <| .cons (.of_lk rfl) <| .cons (.of_lk rfl) <| .nil) (.cons .here <| .cons .here <| .nil)
  · rintro v5
    show Run _ _ _ [(3, ov v5), (6, (slH e0 R_chain_Version).slot p_l), (7, i64.slot (p_l.length : Int)), (8, i64.slot y3)] [own 45 R_chain_Version v5 y4, e0]
    refine run_to (Γ' := [(3, ov v5)]) (H' := [own 45 R_chain_Version v5 y4, e0]) (.cons (.of_lk rfl) <| .nil) (.cons .here <| .cons .here <| .nil) ?_
    refine rs ?_
    refine rt ?_
    refine jp (pm (ht rfl)) rfl rfl rfl ?_
    refine jp (pa (ht rfl)) rfl rfl rfl ?_
    refine j_end ?_
    obtain rfl := oi h
    exact run_ret fun a w hst => q_ret1 hst rfl (.tmp rfl) v5 (fun _ _ h => h) (.cons (.next .here) <| .cons .here <| .nil)
set_option maxRecDepth 100000 in
set_option maxHeartbeats 4000000 in
theorem c_monitor_Monitor_Look_E {G : GP} (hg0 : HG0 G) (hg1 : HG1 G) {p_w : (List (BitVec 8)) × Int × (List T_chain_Version)} {p_f : T_session_Found} {b_w : Nat} {e0 : Ent} {r : ((List (BitVec 8)) × Int × (List T_chain_Version)) × (List T_chain_Version) × Int} (hE : ExactE e0) (h : monitor_Monitor_Look p_w p_f = some r) : Ctr Tryd.prog G 39 [val (.pointer (some ⟨b_w, 0, none⟩)), (prod (sl u8) (prod i64 (prod R_head_Head (slH e0 R_chain_Version)))).slot p_f] [box b_w 97 (prod (sl u8) (prod i64 (sl R_chain_Version))) (p_w.1, p_w.2.1, p_w.2.2), e0] (fun (u0 : Value) => tup [ov u0, i64.slot r.2.2]) (fun (u0 : Value) => [e0, box b_w 97 (prod (sl u8) (prod i64 (sl R_chain_Version))) (r.1.1, r.1.2.1, r.1.2.2), own 45 R_chain_Version u0 r.2.1]) := by
  unfold monitor_Monitor_Look at h
  refine ctr_of_run Tryd.func39 rfl 65 rfl rfl fun m0 w0 b0 => ?_
  show Run _ _ _ [(0, val (.pointer (some ⟨b_w, 0, none⟩))), (1, (prod (sl u8) (prod i64 (prod R_head_Head (slH e0 R_chain_Version)))).slot p_f)] _
  refine rs ?_
  refine rt ?_
  refine jp (pj_box_to (ht rfl)) rfl rfl rfl ?_
  refine j_assign_nil (T := 45) R_chain_Version rfl fun v1 => ?_
  refine jp (pa has_i64) rfl rfl rfl ?_
  refine j_end ?_
  refine rs ?_
  refine run_block ?_
  refine rs ?_
  refine rs ?_
  refine rt ?_
  refine jp (pm (ht rfl)) rfl rfl rfl ?_
  refine jp (pj_eq_nil_val (E := 97) (by kernel_rfl) (ht rfl)) rfl rfl rfl ?_
  refine jp (pa (ht rfl)) rfl rfl rfl ?_
  refine j_end ?_
  refine run_cond_f (ht rfl) rfl ?_
  refine rs ?_
  refine run_draw (n := 6) (by kernel_rfl) (by kernel_rfl) (by kernel_rfl) (by kernel_rfl) (.read (.plain rfl (pj_field_to (ht rfl) (Path.fst (sl u8) (prod i64 (prod R_head_Head (slH e0 R_chain_Version)))) (by kernel_rfl))) <| .read (.plain rfl (pl (ht rfl) (by kernel_rfl))) <| .read (.plain rfl (pm (ht rfl))) <| .read (.plain rfl (pj_nilCheck_ptr (ht rfl))) <| .read (.plain rfl (pj_field_ptr (off := 0) (ht rfl) (by kernel_rfl))) <| .read (.plain rfl (pj_load_box (ht rfl) (.next .here) (Path.then (Path.all (prod (sl u8) (prod i64 (sl R_chain_Version)))) (Path.fst (sl u8) (prod i64 (sl R_chain_Version)))) (by kernel_rfl))) <| .nil) (j_to (Γ' := [(0, val (.pointer (some ⟨b_w, 0, none⟩))), (3, ptrTo (prod (sl u8) (prod i64 (prod R_head_Head (slH e0 R_chain_Version)))) p_f), (11, (sl u8).slot p_f.1), (15, (sl u8).slot p_w.1)]) (H' := [box b_w 97 (prod (sl u8) (prod i64 (sl R_chain_Version))) (p_w.1, p_w.2.1, p_w.2.2), e0]) (.cons (.of_lk rfl) <| .cons (.of_lk rfl) <| .cons (.of_lk rfl) <| .cons (.of_lk rfl) <| .nil) (.cons (.next .here) <| .cons (.next .here) <| .nil) ?_)
  obtain ⟨r1, e2, h⟩ := bind_some h
  refine jp (pj_call (hc (ht rfl) <| hc (ht rfl) <| hasL_nil) (by kernel_rfl) (c_bytes_Equal e2)) rfl rfl rfl ?_
  refine jp (pj_not (ht rfl)) rfl rfl rfl ?_
  refine jp (pa (ht rfl)) rfl rfl rfl ?_
  refine j_end ?_
  obtain ⟨y1, e4, h⟩ := bind_some h
  refine run_joinx (ι := Unit) (Γ' := fun (_ : Unit) => [(0, val (.pointer (some ⟨b_w, 0, none⟩))), (3, ptrTo (prod (sl u8) (prod i64 (prod R_head_Head (slH e0 R_chain_Version)))) p_f), (7, bl.slot y1)]) (H' := fun (_ : Unit) => [box b_w 97 (prod (sl u8) (prod i64 (sl R_chain_Version))) (p_w.1, p_w.2.1, p_w.2.2), e0]) ?_ fun J => ?_
  · intro _
    clear e4
    show Run _ _ _ [(0, val (.pointer (some ⟨b_w, 0, none⟩))), (3, ptrTo (prod (sl u8) (prod i64 (prod R_head_Head (slH e0 R_chain_Version)))) p_f), (7, bl.slot y1)] [box b_w 97 (prod (sl u8) (prod i64 (sl R_chain_Version))) (p_w.1, p_w.2.1, p_w.2.2), e0]
    refine run_cond (ht rfl) (fun e5 => ?_) (fun e5 => ?_)
    · replace h := bt e5 h
      refine rs ?_
      refine rt ?_
      refine j_assign_nil (T := 45) R_chain_Version rfl fun v2 => ?_
      refine jp (pa has_i64) rfl rfl rfl ?_
      refine j_end ?_
      obtain rfl := oi h
      exact run_ret fun a w hst => q_retN hst rfl (.cons (.tmp rfl) <| .cons (.tmp rfl) <| .nil) rfl v2 (fun _ _ h => h) (.cons (.next (.next .here)) <| .cons (.next .here) <| .cons .here <| .nil)
    · replace h := bf e5 h
      refine rs ?_
      refine rt ?_
      refine jp (pm (ht rfl)) rfl rfl rfl ?_
      refine jp (pl (ht rfl) (by kernel_rfl)) rfl rfl rfl ?_
      obtain ⟨r2, e6, h⟩ := bind_some h
      refine jp (PJ.liftF (U := [(23, R_session_Found.slot p_f)]) (.next .here) (.cons rfl (fun _ _ h => ((LE.prod (LE.refl (sl u8)) (LE.prod (LE.refl i64) (LE.prod (LE.refl R_head_Head) (LE.sl R_chain_Version))))).lnt h) <| .nil) (Rep.flat_slot flat_bl _) (pj_callR (hc (ht rfl) <| hc (ht rfl) <| hasL_nil) .here (by kernel_rfl) (fun _ => (c_monitor_Monitor_formed hg0 hg1 e6)))) rfl rfl rfl ?_
      refine jp (pj_not (ht rfl)) rfl rfl rfl ?_
      refine jp (pa (ht rfl)) rfl rfl rfl ?_
      refine j_end ?_
      refine run_cond (ht rfl) (fun e7 => ?_) (fun e7 => ?_)
      · replace h := bt e7 h
        refine rs ?_
        refine rt ?_
        refine j_assign_nil (T := 45) R_chain_Version rfl fun v3 => ?_
        refine jp (pa has_i64) rfl rfl rfl ?_
        refine j_end ?_
        obtain rfl := oi h
        exact run_ret fun a w hst => q_retN hst rfl (.cons (.tmp rfl) <| .cons (.tmp rfl) <| .nil) rfl v3 (fun _ _ h => h) (.cons (.next (.next .here)) <| .cons (.next .here) <| .cons .here <| .nil)
      · replace h := bf e7 h
        refine rs ?_
        refine run_draw (n := 6) (by kernel_rfl) (by kernel_rfl) (by kernel_rfl) (by kernel_rfl) (.read (.plain rfl (pj_field_to (ht rfl) (Path.then (Path.snd (sl u8) (prod i64 (prod R_head_Head (slH e0 R_chain_Version)))) (Path.fst i64 (prod R_head_Head (slH e0 R_chain_Version)))) (by kernel_rfl))) <| .read (.plain rfl (pl (ht rfl) (by kernel_rfl))) <| .read (.plain rfl (pm (ht rfl))) <| .read (.plain rfl (pj_nilCheck_ptr (ht rfl))) <| .read (.plain rfl (pj_field_ptr (off := 1) (ht rfl) (by kernel_rfl))) <| .read (.plain rfl (pj_load_box (ht rfl) .here (Path.then (Path.all (prod (sl u8) (prod i64 (sl R_chain_Version)))) (Path.then (Path.snd (sl u8) (prod i64 (sl R_chain_Version))) (Path.fst i64 (sl R_chain_Version)))) (by kernel_rfl))) <| .nil) (j_to (Γ' := [(0, val (.pointer (some ⟨b_w, 0, none⟩))), (3, ptrTo (prod (sl u8) (prod i64 (prod R_head_Head (slH e0 R_chain_Version)))) p_f), (28, i64.slot p_f.2.1), (32, i64.slot p_w.2.1)]) (H' := [box b_w 97 (prod (sl u8) (prod i64 (sl R_chain_Version))) (p_w.1, p_w.2.1, p_w.2.2), e0]) (.cons (.of_lk rfl) <| .cons (.of_lk rfl) <| .cons (.of_lk rfl) <| .cons (.of_lk rfl) <| .nil) (.cons .here <| .cons .here <| .nil) ?_)
        refine jp (pj_ilss (ht rfl) (ht rfl)) rfl rfl rfl ?_
        refine jp (pa (ht rfl)) rfl rfl rfl ?_
        refine j_end ?_
        refine run_cond (ht rfl) (fun e8 => ?_) (fun e8 => ?_)
        · replace h := bt e8 h
          refine rs ?_
          refine rt ?_
          refine j_assign_nil (T := 45) R_chain_Version rfl fun v4 => ?_
          refine jp (pa has_i64) rfl rfl rfl ?_
          refine j_end ?_
          obtain rfl := oi h
          exact run_ret fun a w hst => q_retN hst rfl (.cons (.tmp rfl) <| .cons (.tmp rfl) <| .nil) rfl v4 (fun _ _ h => h) (.cons (.next (.next .here)) <| .cons (.next .here) <| .cons .here <| .nil)
        · replace h := bf e8 h
          refine run_skip ?_
          refine run_endblock ?_
          refine rs ?_
          refine run_draw (n := 6) (by kernel_rfl) (by kernel_rfl) (by kernel_rfl) (by kernel_rfl) (.read (.plain rfl (pj_field_to (ht rfl) (Path.then (Path.snd (sl u8) (prod i64 (prod R_head_Head (slH e0 R_chain_Version)))) (Path.then (Path.snd i64 (prod R_head_Head (slH e0 R_chain_Version))) (Path.snd R_head_Head (slH e0 R_chain_Version)))) (by kernel_rfl))) <| .read (.plain rfl (pl (ht rfl) (by kernel_rfl))) <| .read (.plain rfl (pm (ht rfl))) <| .read (.plain rfl (pj_nilCheck_ptr (ht rfl))) <| .read (.plain rfl (pj_field_ptr (off := 1) (ht rfl) (by kernel_rfl))) <| .read (.plain rfl (pj_load_box (ht rfl) .here (Path.then (Path.all (prod (sl u8) (prod i64 (sl R_chain_Version)))) (Path.then (Path.snd (sl u8) (prod i64 (sl R_chain_Version))) (Path.fst i64 (sl R_chain_Version)))) (by kernel_rfl))) <| .nil) (j_to (Γ' := [(0, val (.pointer (some ⟨b_w, 0, none⟩))), (3, ptrTo (prod (sl u8) (prod i64 (prod R_head_Head (slH e0 R_chain_Version)))) p_f), (35, (slH e0 R_chain_Version).slot p_f.2.2.2), (39, i64.slot p_w.2.1)]) (H' := [box b_w 97 (prod (sl u8) (prod i64 (sl R_chain_Version))) (p_w.1, p_w.2.1, p_w.2.2), e0]) (.cons (.of_lk rfl) <| .cons (.of_lk rfl) <| .cons (.of_lk rfl) <| .cons (.of_lk rfl) <| .nil) (.cons .here <| .cons .here <| .nil) ?_)
          obtain ⟨r3, e9, h⟩ := bind_some h
          refine jp (pj_callX (hc (ht rfl) <| hc (ht rfl) <| hasL_nil) (.next .here) hE (by kernel_rfl) (Ctr.frozeE (c_chain_Upto_E hE e9))) rfl rfl rfl ?_
          refine jp (pa (ht rfl)) rfl rfl rfl ?_
          refine j_end ?_
          refine rs ?_
          refine rs ?_
          refine rt ?_
          refine jp (pm (ht rfl)) rfl rfl rfl ?_
          refine jp (pm (ht rfl)) rfl rfl rfl ?_
          refine jp (pj_nilCheck_ptr (ht rfl)) rfl rfl rfl ?_
          refine jp (pj_field_ptr (off := 2) (ht rfl) (by kernel_rfl)) rfl rfl rfl ?_
          refine jp (pj_load_box (ht rfl) .here (Path.then (Path.all (prod (sl u8) (prod i64 (sl R_chain_Version)))) (Path.then (Path.snd (sl u8) (prod i64 (sl R_chain_Version))) (Path.snd i64 (sl R_chain_Version)))) (by kernel_rfl)) rfl rfl rfl ?_
          obtain ⟨r4, e10, h⟩ := bind_some h
          refine jp (pj_call (hc (ht rfl) <| hc (ht rfl) <| hc has_fn0 <| hasL_nil) (by kernel_rfl) (c_slices_EqualFunc_chain_Version_chain_Version_chain_Version_chain_Version_monitor_same e10)) rfl rfl rfl ?_
          refine jp (pj_not (ht rfl)) rfl rfl rfl ?_
          refine j_end ?_
          refine run_cond (ht rfl) (fun e11 => ?_) (fun e11 => ?_)
          · replace h := bt e11 h
            refine rs ?_
            refine rt ?_
            refine j_assign_nil (T := 45) R_chain_Version rfl fun v5 => ?_
            refine jp (pa has_i64) rfl rfl rfl ?_
            refine j_end ?_
            obtain rfl := oi h
            exact run_ret fun a w hst => q_retN hst rfl (.cons (.tmp rfl) <| .cons (.tmp rfl) <| .nil) rfl v5 (fun _ _ h => h) (.cons (.next (.next .here)) <| .cons (.next .here) <| .cons .here <| .nil)
          · replace h := bf e11 h
            refine run_skip ?_
            refine rs ?_
            obtain ⟨r5, e12, h⟩ := bind_some h
            refine run_keep (H' := [box b_w 97 (prod (sl u8) (prod i64 (sl R_chain_Version))) (p_w.1, p_w.2.1, p_w.2.2), e0]) (.cons .here <| .cons .here <| .nil) ?_
            refine run_drawL (n := 10) (H := [e0]) (Ls := [⟨[box b_w 97 (prod (sl u8) (prod i64 (sl R_chain_Version))) (p_w.1, p_w.2.1, p_w.2.2)], [(9, ⟨Unit, fun (_ : Unit) => [box b_w 97 (prod (sl u8) (prod i64 (sl R_chain_Version))) (p_w.1, p_f.2.1, p_w.2.2)], fun (_ : Unit) => []⟩)]⟩]) (by kernel_rfl) (by kernel_rfl) (by kernel_rfl) (by kernel_rfl) (by kernel_rfl) rfl (.read rfl (.plain rfl (pm (ht rfl))) <| .read rfl (.plain rfl (pm (ht rfl))) <| .read rfl (.plain rfl (pj_field_to (ht rfl) (Path.then (Path.snd (sl u8) (prod i64 (prod R_head_Head (slH e0 R_chain_Version)))) (Path.fst i64 (prod R_head_Head (slH e0 R_chain_Version)))) (by kernel_rfl))) <| .read rfl (.plain rfl (pl (ht rfl) (by kernel_rfl))) <| .read rfl (.plain rfl (pj_field_to (ht rfl) (Path.then (Path.snd (sl u8) (prod i64 (prod R_head_Head (slH e0 R_chain_Version)))) (Path.then (Path.snd i64 (prod R_head_Head (slH e0 R_chain_Version))) (Path.snd R_head_Head (slH e0 R_chain_Version)))) (by kernel_rfl))) <| .read rfl (.plain rfl (pl (ht rfl) (by kernel_rfl))) <| .read rfl (.plain rfl (pj_callX (hc (ht rfl) <| hasL_nil) .here hE (by kernel_rfl) (Ctr.frozeE (c_monitor_copied_E hE e12)))) <| .read rfl (.plain rfl (pj_nilCheck_ptr (ht rfl))) <| .read rfl (.plain rfl (pj_field_ptr (off := 1) (ht rfl) (by kernel_rfl))) <| .step 0 rfl .here (.inl rfl) (fun i => ⟨_, _, fun _ => (), (w_store (r' := (p_w.1, p_f.2.1, p_w.2.2)) (ht rfl) (ht rfl) .here (Path.then (Path.all (prod (sl u8) (prod i64 (sl R_chain_Version)))) (Path.then (Path.snd (sl u8) (prod i64 (sl R_chain_Version))) (Path.fst i64 (sl R_chain_Version)))) (by kernel_rfl) rfl), fun _ => rfl, (slotNo (s := any)), dst0⟩) <| .nil) ?_
            rintro _
            refine j_to (Γ' := [(3, ptrTo (prod (sl u8) (prod i64 (prod R_head_Head (slH e0 R_chain_Version)))) p_f), (6, (sl R_chain_Version).slot r3), (49, val (.pointer (some ⟨b_w, 0, none⟩))), (54, (sl R_chain_Version).slot r5)]) (H' := [box b_w 97 (prod (sl u8) (prod i64 (sl R_chain_Version))) (p_w.1, p_f.2.1, p_w.2.2), e0]) (.cons (.of_lk rfl) <| .cons (.of_lk rfl) <| .cons (.of_lk rfl) <| .cons (.of_lk rfl) <| .nil) (.cons .here <| .cons .here <| .nil) ?_
            refine jp (pj_nilCheck_ptr (ht rfl)) rfl rfl rfl ?_
            refine jp (pj_field_ptr (off := 2) (ht rfl) (by kernel_rfl)) rfl rfl rfl ?_
            refine j_store_boxx (r' := (p_w.1, p_f.2.1, r5)) (ht rfl) (ht rfl) .here (Path.then (Path.all (prod (sl u8) (prod i64 (sl R_chain_Version)))) (Path.then (Path.snd (sl u8) (prod i64 (sl R_chain_Version))) (Path.snd i64 (sl R_chain_Version)))) (by kernel_rfl) rfl ?_
            refine j_end ?_
            refine rs ?_
            refine rt ?_
            refine jp (pj_field_to (ht rfl) (Path.then (Path.snd (sl u8) (prod i64 (prod R_head_Head (slH e0 R_chain_Version)))) (Path.then (Path.snd i64 (prod R_head_Head (slH e0 R_chain_Version))) (Path.snd R_head_Head (slH e0 R_chain_Version)))) (by kernel_rfl)) rfl rfl rfl ?_
            refine jp (pl (ht rfl) (by kernel_rfl)) rfl rfl rfl ?_
            refine jp (pm (ht rfl)) rfl rfl rfl ?_
            refine jp (pj_len_sl (sz := 67) (ht rfl) (by kernel_rfl)) rfl rfl rfl ?_
            obtain ⟨x1, e13, h⟩ := bind_some h
            refine jp (pj_slice_slE (ht rfl) (.yes (ht rfl) isInt_i64) .no e13 (by kernel_rfl)) rfl rfl rfl ?_
            obtain ⟨r6, e14, h⟩ := bind_some h
            refine j_call (hc (ht rfl) <| hasL_nil) (by kernel_rfl) (c_monitor_copied_E hE e14) (.cons (.next .here) <| .nil) rfl fun v6 => ?_
            refine jp (pa (ht rfl)) rfl rfl rfl ?_
            refine jp (pa has_i64) rfl rfl rfl ?_
            refine j_end ?_
            obtain rfl := oi h
            exact run_ret fun a w hst => q_retN hst rfl (.cons (.tmp rfl) <| .cons (.tmp rfl) <| .nil) rfl v6 (fun _ _ h => h) (.cons .here <| .cons (.next .here) <| .cons .here <| .nil)
  · refine run_cond (ht rfl) (fun e3 => ?_) (fun e3 => ?_)
    · replace h := bt e3 e4
      refine run_skip ?_
      obtain rfl := oi h
      exact run_to (.cons (.of_lk rfl) <| .cons (.of_lk rfl) <| .cons (.of_lk rfl) <| .nil) (.cons .here <| .cons .here <| .nil) (J ())
    · replace h := bf e3 e4
      refine rt ?_
      refine jp (pj_field_to (ht rfl) (Path.then (Path.snd (sl u8) (prod i64 (prod R_head_Head (slH e0 R_chain_Version)))) (Path.fst i64 (prod R_head_Head (slH e0 R_chain_Version)))) (by kernel_rfl)) rfl rfl rfl ?_
      refine jp (pl (ht rfl) (by kernel_rfl)) rfl rfl rfl ?_
      refine jp (pj_ilss (ht rfl) has_i64) rfl rfl rfl ?_
      refine jp (pa (ht rfl)) rfl rfl rfl ?_
      refine j_end ?_
      obtain rfl := oi h
      exact run_to (.cons (.of_lk rfl) <| .cons (.of_lk rfl) <| .cons (.of_lk rfl) <| .nil) (.cons .here <| .cons .here <| .nil) (J ())
set_option maxRecDepth 100000 in
set_option maxHeartbeats 4000000 in
theorem c_rolodexlaw23_MonitorOwn {G : GP} (hg0 : HG0 G) (hg1 : HG1 G) {p_label : List (BitVec 8)} {p_c : List T_rolodexref14_Version} {r : Bool} (h : rolodexlaw23_MonitorOwn p_label p_c = some r) : Ctr Tryd.prog G 11 [(sl u8).slot p_label, (sl R_rolodexref14_Version).slot p_c] [] (fun (_ : Unit) => bl.slot r) (fun (_ : Unit) => []) := by
  unfold rolodexlaw23_MonitorOwn at h
  refine ctr_of_run Tryd.func11 rfl 116 rfl rfl fun m0 w0 b0 => ?_
  show Run _ _ _ [(0, (sl u8).slot p_label), (1, (sl R_rolodexref14_Version).slot p_c)] _
  refine rs ?_
  refine rt ?_
  refine jp (pa has_bl) rfl rfl rfl ?_
  refine j_end ?_
  refine rs ?_
  refine rt ?_
  refine jp (pa (has_nilp (R := R_monitor_Monitor))) rfl rfl rfl ?_
  refine j_end ?_
  refine rs ?_
  refine rt ?_
  refine jp (pm (ht rfl)) rfl rfl rfl ?_
  refine jp (pm (ht rfl)) rfl rfl rfl ?_
  obtain ⟨x1, e1, h⟩ := bind_some h
  refine jp (PJ.eqv (pj_build (R := R_session_Found) (zero_prod zero_sl (zero_prod zero_i64 (zero_prod (zero_prod zero_i64 (zero_prod zero_i64 (zero_prod (zero_vec 32 zero_un) (zero_vec 32 zero_un)))) zero_sl))) (by kernel_rfl) (by kernel_rfl) rfl (.cons (ht rfl) (Path.fst (sl u8) (prod i64 (prod R_head_Head (sl R_chain_Version)))) (by kernel_rfl) (.cons has_i64 (Path.then (Path.snd (sl u8) (prod i64 (prod R_head_Head (sl R_chain_Version)))) (Path.fst i64 (prod R_head_Head (sl R_chain_Version)))) (by kernel_rfl) .nil))) (oi e1)) rfl rfl rfl ?_
  obtain ⟨r1, e2, h⟩ := bind_some h
  refine jp (pj_call (hc (ht rfl) <| hc (ht rfl) <| hasL_nil) (by kernel_rfl) (Ctr.froze2 (c_monitor_Monitor_Look_nil hg0 hg1 e2))) rfl rfl rfl ?_
  refine jp (pm (ht rfl)) rfl rfl rfl ?_
  refine jp (pj_extract (ht rfl) rfl) rfl rfl rfl ?_
  refine jp (pj_extract (ht rfl) rfl) rfl rfl rfl ?_
  refine jp (pa (ht rfl)) rfl rfl rfl ?_
  refine jp (pa (ht rfl)) rfl rfl rfl ?_
  refine j_end ?_
  refine rs ?_
  refine rs ?_
  refine rt ?_
  obtain ⟨r2, e3, h⟩ := bind_some h
  refine jp (pj_call (hasL_nil) (by kernel_rfl) (c_rolodexlaw23_awake hg0 hg1 e3)) rfl rfl rfl ?_
  refine jp (pj_not (ht rfl)) rfl rfl rfl ?_
  refine jp (pm (ht rfl)) rfl rfl rfl ?_
  obtain ⟨y1, e5, h⟩ := bind_some h
  refine j_joinx (ι := Unit) (Γ' := fun _ => [(0, (sl u8).slot p_label), (1, (sl R_rolodexref14_Version).slot p_c), (5, (ptr R_monitor_Monitor).slot (none : Option T_monitor_Monitor)), (7, i64.slot r1.2), (28, bl.slot y1)]) (H' := fun _ => []) 4 ?_ fun J => ?_
  · intro _
    clear e5
    show OpsJ _ _ _ [(0, (sl u8).slot p_label), (1, (sl R_rolodexref14_Version).slot p_c), (5, (ptr R_monitor_Monitor).slot (none : Option T_monitor_Monitor)), (7, i64.slot r1.2), (28, bl.slot y1)] [] _
    refine jp (pm (ht rfl)) rfl rfl rfl ?_
    obtain ⟨y2, e7, h⟩ := bind_some h
    refine j_joinx (ι := Unit) (Γ' := fun _ => [(0, (sl u8).slot p_label), (1, (sl R_rolodexref14_Version).slot p_c), (5, (ptr R_monitor_Monitor).slot (none : Option T_monitor_Monitor)), (7, i64.slot r1.2), (33, bl.slot y2)]) (H' := fun _ => []) 4 ?_ fun J => ?_
    · intro _
      clear e7
      show OpsJ _ _ _ [(0, (sl u8).slot p_label), (1, (sl R_rolodexref14_Version).slot p_c), (5, (ptr R_monitor_Monitor).slot (none : Option T_monitor_Monitor)), (7, i64.slot r1.2), (33, bl.slot y2)] [] _
      refine jp (pm (ht rfl)) rfl rfl rfl ?_
      obtain ⟨y3, e10, h⟩ := bind_some h
      refine j_joinx (ι := Unit) (Γ' := fun _ => [(0, (sl u8).slot p_label), (1, (sl R_rolodexref14_Version).slot p_c), (5, (ptr R_monitor_Monitor).slot (none : Option T_monitor_Monitor)), (7, i64.slot r1.2), (39, bl.slot y3)]) (H' := fun _ => []) 5 ?_ fun J => ?_
      · intro _
        clear e10
        show OpsJ _ _ _ [(0, (sl u8).slot p_label), (1, (sl R_rolodexref14_Version).slot p_c), (5, (ptr R_monitor_Monitor).slot (none : Option T_monitor_Monitor)), (7, i64.slot r1.2), (39, bl.slot y3)] [] _
        refine j_end ?_
        refine run_cond (ht rfl) (fun e12 => ?_) (fun e12 => ?_)
        · replace h := bt e12 h
          refine rs ?_
          refine rt ?_
          obtain ⟨r5, e13, h⟩ := bind_some h
          refine jp (pj_call (hasL_nil) (by kernel_rfl) (c_rolodexlaw23_awake hg0 hg1 e13)) rfl rfl rfl ?_
          refine jp (pm (ht rfl)) rfl rfl rfl ?_
          obtain ⟨y4, e15, h⟩ := bind_some h
          refine j_joinx (ι := Unit) (Γ' := fun _ => [(5, (ptr R_monitor_Monitor).slot (none : Option T_monitor_Monitor)), (44, bl.slot y4)]) (H' := fun _ => []) 3 ?_ fun J => ?_
          · intro _
            clear e15
            show OpsJ _ _ _ [(5, (ptr R_monitor_Monitor).slot (none : Option T_monitor_Monitor)), (44, bl.slot y4)] [] _
            refine jp (pm (ht rfl)) rfl rfl rfl ?_
            obtain ⟨y5, e17, h⟩ := bind_some h
            refine j_joinx (ι := Unit) (Γ' := fun _ => [(5, (ptr R_monitor_Monitor).slot (none : Option T_monitor_Monitor)), (49, bl.slot y5)]) (H' := fun _ => []) 4 ?_ fun J => ?_
            · intro _
              clear e17
              show OpsJ _ _ _ [(5, (ptr R_monitor_Monitor).slot (none : Option T_monitor_Monitor)), (49, bl.slot y5)] [] _
              refine jp (pm (ht rfl)) rfl rfl rfl ?_
              obtain ⟨y6, e20, h⟩ := bind_some h
              refine j_joinx (ι := Unit) (Γ' := fun _ => [(55, bl.slot y6)]) (H' := fun _ => []) 5 ?_ fun J => ?_
              · intro _
                clear e20
                show OpsJ _ _ _ [(55, bl.slot y6)] [] _
                refine jp (pa (ht rfl)) rfl rfl rfl ?_
                refine j_end ?_
                obtain rfl := oi h
                exact run_ret fun a w hst => q_ret1 hst rfl (.tmp rfl) () (fun _ _ h => h) (.nil)
              · rcases bool_tf (y5) with e19 | e19
                · replace e20 := bt e19 e20
                  refine jy (pm (ht rfl)) rfl rfl rfl rfl (bl_isx e19) rfl rfl ?_
                  obtain ⟨r7, e21, e20⟩ := bind_some e20
                  refine jy (pj_call (hc (ht rfl) <| hasL_nil) (by kernel_rfl) (Ctr.froze (c_monitor_Monitor_Seen_nil e21))) rfl rfl rfl rfl (bl_isx e19) rfl rfl ?_
                  refine jy (pj_len_sl (sz := 67) (ht rfl) (by kernel_rfl)) rfl rfl rfl rfl (bl_isx e19) rfl rfl ?_
                  refine jy (pj_ieql (ht rfl) has_i64) rfl rfl rfl rfl (bl_isx e19) rfl rfl ?_
                  refine jp (PJ.eqv (R := bl) (pj_pick (t := any) (ht rfl) (fun _ => (ht rfl)) (fun he => absurd (e19.symm.trans he) (by decide))) (oi e20)) rfl rfl rfl ?_
                  exact j_to (.cons (.of_lk rfl) <| .nil) (.nil) (J ())
                · replace e20 := bf e19 e20
                  refine j_guard_no2 (j := 10) (want := true) rfl rfl rfl rfl (bl_isx e19) rfl rfl rfl ?_
                  refine j_guard_no2 (j := 10) (want := true) rfl rfl rfl rfl (bl_isx e19) rfl rfl rfl ?_
                  refine j_guard_no2 (j := 10) (want := true) rfl rfl rfl rfl (bl_isx e19) rfl rfl rfl ?_
                  refine j_guard_no2 (j := 10) (want := true) rfl rfl rfl rfl (bl_isx e19) rfl rfl rfl ?_
                  refine jp (PJ.eqv (R := bl) (pj_pick (t := any) (ht rfl) (fun he => absurd (e19.symm.trans he) (by decide)) (fun _ => has_bl)) (oi e20)) rfl rfl rfl ?_
                  exact j_to (.cons (.of_lk rfl) <| .nil) (.nil) (J ())
            · rcases bool_tf (y4) with e16 | e16
              · replace e17 := bt e16 e17
                refine jy (pm (ht rfl)) rfl rfl rfl rfl (bl_isx e16) rfl rfl ?_
                obtain ⟨r6, e18, e17⟩ := bind_some e17
                refine jy (pj_call (hc (ht rfl) <| hasL_nil) (by kernel_rfl) (c_monitor_Monitor_Epoch_nil e18)) rfl rfl rfl rfl (bl_isx e16) rfl rfl ?_
                refine jy (pj_ieql (ht rfl) has_i64) rfl rfl rfl rfl (bl_isx e16) rfl rfl ?_
                refine jp (PJ.eqv (R := bl) (pj_pick (t := any) (ht rfl) (fun _ => (ht rfl)) (fun he => absurd (e16.symm.trans he) (by decide))) (oi e17)) rfl rfl rfl ?_
                exact j_to (.cons (.of_lk rfl) <| .cons (.of_lk rfl) <| .nil) (.nil) (J ())
              · replace e17 := bf e16 e17
                refine j_guard_no2 (j := 5) (want := true) rfl rfl rfl rfl (bl_isx e16) rfl rfl rfl ?_
                refine j_guard_no2 (j := 5) (want := true) rfl rfl rfl rfl (bl_isx e16) rfl rfl rfl ?_
                refine j_guard_no2 (j := 5) (want := true) rfl rfl rfl rfl (bl_isx e16) rfl rfl rfl ?_
                refine jp (PJ.eqv (R := bl) (pj_pick (t := any) (ht rfl) (fun he => absurd (e16.symm.trans he) (by decide)) (fun _ => has_bl)) (oi e17)) rfl rfl rfl ?_
                exact j_to (.cons (.of_lk rfl) <| .cons (.of_lk rfl) <| .nil) (.nil) (J ())
          · rcases bool_tf (r5) with e14 | e14
            · replace e15 := bt e14 e15
              refine jy (pm (ht rfl)) rfl rfl rfl rfl (bl_isx e14) rfl rfl ?_
              refine jy (pj_ieql (ht rfl) has_i64) rfl rfl rfl rfl (bl_isx e14) rfl rfl ?_
              refine jp (PJ.eqv (R := bl) (pj_pick (t := any) (ht rfl) (fun _ => (ht rfl)) (fun he => absurd (e14.symm.trans he) (by decide))) (oi e15)) rfl rfl rfl ?_
              exact j_to (.cons (.of_lk rfl) <| .cons (.of_lk rfl) <| .nil) (.nil) (J ())
            · replace e15 := bf e14 e15
              refine j_guard_no2 (j := 1) (want := true) rfl rfl rfl rfl (bl_isx e14) rfl rfl rfl ?_
              refine j_guard_no2 (j := 1) (want := true) rfl rfl rfl rfl (bl_isx e14) rfl rfl rfl ?_
              refine jp (PJ.eqv (R := bl) (pj_pick (t := any) (ht rfl) (fun he => absurd (e14.symm.trans he) (by decide)) (fun _ => has_bl)) (oi e15)) rfl rfl rfl ?_
              exact j_to (.cons (.of_lk rfl) <| .cons (.of_lk rfl) <| .nil) (.nil) (J ())
        · replace h := bf e12 h
          refine run_skip ?_
          refine rs ?_
          refine rt ?_
          refine jp (pm (ht rfl)) rfl rfl rfl ?_
          obtain ⟨r8, e22, h⟩ := bind_some h
          refine j_call (hc (ht rfl) <| hasL_nil) (by kernel_rfl) (c_monitor_New e22) .nil rfl fun b1 => ?_
          refine jp (pa (ht rfl)) rfl rfl rfl ?_
          refine j_end ?_
          refine rs ?_
          refine rt ?_
          refine jp (pm (ht rfl)) rfl rfl rfl ?_
          obtain ⟨r9, e23, h⟩ := bind_some h
          refine j_call (hc (ht rfl) <| hasL_nil) (by kernel_rfl) (c_rolodexlaw14_From e23) .nil rfl fun v1 => ?_
          refine jp (pa (ht rfl)) rfl rfl rfl ?_
          refine j_end ?_
          refine rs ?_
          refine rt ?_
          refine jp (pm (ht rfl)) rfl rfl rfl ?_
          refine jp (pm (ht rfl)) rfl rfl rfl ?_
          refine jp (pm (ht rfl)) rfl rfl rfl ?_
          refine j_lendE (t := 63) .here rfl fun h1 => ?_
          obtain ⟨x2, e24, h⟩ := bind_some h
          refine jp (PJ.eqv (pj_build (R := (prod (sl u8) (prod i64 (prod R_head_Head (slH (exE (own 45 R_chain_Version v1 r9) h1) R_chain_Version))))) (zero_prod zero_sl (zero_prod zero_i64 (zero_prod (zero_prod zero_i64 (zero_prod zero_i64 (zero_prod (zero_vec 32 zero_un) (zero_vec 32 zero_un)))) zero_slH))) (by kernel_rfl) (by kernel_rfl) rfl (.cons (ht rfl) (Path.fst (sl u8) (prod i64 (prod R_head_Head (slH (exE (own 45 R_chain_Version v1 r9) h1) R_chain_Version)))) (by kernel_rfl) (.cons has_i64 (Path.then (Path.snd (sl u8) (prod i64 (prod R_head_Head (slH (exE (own 45 R_chain_Version v1 r9) h1) R_chain_Version)))) (Path.fst i64 (prod R_head_Head (slH (exE (own 45 R_chain_Version v1 r9) h1) R_chain_Version)))) (by kernel_rfl) (.cons (ht rfl) (Path.then (Path.snd (sl u8) (prod i64 (prod R_head_Head (slH (exE (own 45 R_chain_Version v1 r9) h1) R_chain_Version)))) (Path.then (Path.snd i64 (prod R_head_Head (slH (exE (own 45 R_chain_Version v1 r9) h1) R_chain_Version))) (Path.snd R_head_Head (slH (exE (own 45 R_chain_Version v1 r9) h1) R_chain_Version)))) (by kernel_rfl) .nil)))) (oi e24)) rfl rfl rfl ?_
          obtain ⟨r10, e25, h⟩ := bind_some h
          refine j_call (hc (ht rfl) <| hc (ht rfl) <| hasL_nil) (by kernel_rfl) (c_monitor_Monitor_Look_E hg0 hg1 exE_exact e25) (.cons (.next .here) <| .cons .here <| .nil) rfl fun v2 => j_unlend .here ?_
          refine jp (pm (ht rfl)) rfl rfl rfl ?_
          refine jp (pj_extract (ht rfl) rfl) rfl rfl rfl ?_
          refine jp (pj_extract (ht rfl) rfl) rfl rfl rfl ?_
          refine jp (pa (ht rfl)) rfl rfl rfl ?_
          refine jp (pa (ht rfl)) rfl rfl rfl ?_
          refine j_end ?_
          refine rs ?_
          refine rs ?_
          refine rt ?_
          refine jp (pa has_i64) rfl rfl rfl ?_
          refine j_end ?_
          obtain ⟨⟨y10, y11, y12⟩, e32, h⟩ := bind_some h
          refine run_loopS (Γi := fun (i : Unit) (s : Int × (List T_chain_Version) × (List T_chain_Version)) => [(1, (sl R_rolodexref14_Version).slot p_c), (8, val (.pointer (some ⟨b1, 0, none⟩))), (9, ov v1), (10, ov v2), (11, i64.slot r10.2.2), (12, i64.slot s.1)]) (Hi := fun (i : Unit) (s : Int × (List T_chain_Version) × (List T_chain_Version)) => [own 45 R_chain_Version v1 s.2.1, box b1 97 (prod (sl u8) (prod i64 (sl R_chain_Version))) (r10.1.1, r10.1.2.1, r10.1.2.2), own 45 R_chain_Version v2 s.2.2]) e32 () (fun a w hst => (hst.sub (.cons (.of_lk rfl) <| .cons (.of_lk rfl) <| .cons (.of_lk rfl) <| .cons (.of_lk rfl) <| .cons (.of_lk rfl) <| .cons (.of_lk rfl) <| .nil)).keep (.cons .here <| .cons .here <| .cons .here <| .nil)) ?_ ?_
          · clear h e32
            rintro _ ⟨y7, y8, y9⟩ lr h
            change rolodexlaw23_MonitorOwn_L1 y7 y8 y9 = some _ at h
            show Run _ _ _ [(1, (sl R_rolodexref14_Version).slot p_c), (8, val (.pointer (some ⟨b1, 0, none⟩))), (9, ov v1), (10, ov v2), (11, i64.slot r10.2.2), (12, i64.slot y7)] [own 45 R_chain_Version v1 y8, box b1 97 (prod (sl u8) (prod i64 (sl R_chain_Version))) (r10.1.1, r10.1.2.1, r10.1.2.2), own 45 R_chain_Version v2 y9]
            unfold rolodexlaw23_MonitorOwn_L1 at h
            refine rs ?_
            refine rs ?_
            refine rt ?_
            refine jp (pm (ht rfl)) rfl rfl rfl ?_
            refine jp (pm (ht rfl)) rfl rfl rfl ?_
            refine jp (pj_len_own (sz := 67) (ht rfl) (.next (.next .here)) (by kernel_rfl)) rfl rfl rfl ?_
            refine jp (pj_ilss (ht rfl) (ht rfl)) rfl rfl rfl ?_
            refine j_end ?_
            refine run_cond (ht rfl) (fun e26 => ?_) (fun e26 => ?_)
            · replace h := bt e26 h
              refine run_skip ?_
              refine rs ?_
              refine run_block ?_
              refine rs ?_
              refine rt ?_
              refine jp (pm (ht rfl)) rfl rfl rfl ?_
              refine jp (pm (ht rfl)) rfl rfl rfl ?_
              obtain ⟨x3, e27, h⟩ := bind_some h
              refine jp (pj_index_own (ht rfl) (.next (.next .here)) (ht rfl) isInt_i64 (lget_some e27).1 (lget_some e27).2.1 (by kernel_rfl)) rfl rfl rfl ?_
              refine jp (pj_field_own0 (off := 1) (ht rfl) (by kernel_rfl)) rfl rfl rfl ?_
              obtain ⟨x4, e28, h⟩ := bind_some h
              refine j_store_own1 (r := x4) R_chain_Version y7 (ht rfl) has_i64 (.next (.next .here)) e27 (Path.then (Path.all R_chain_Version) (Path.then (Path.snd i64 (prod i64 (prod R_api_Hash (prod R_api_Hash (sl u8))))) (Path.fst i64 (prod R_api_Hash (prod R_api_Hash (sl u8)))))) (by kernel_rfl) (oi e28) ?_
              refine j_end ?_
              obtain ⟨x5, e29, h⟩ := bind_some h
              obtain ⟨x6, e30, h⟩ := bind_some h
              refine run_draw (n := 9) (by kernel_rfl) (by kernel_rfl) (by kernel_rfl) (by kernel_rfl) (.read (.plain rfl (pm (ht rfl))) <| .read (.plain rfl (pm (ht rfl))) <| .read (.plain rfl (pj_index_own (ht rfl) (.next .here) (ht rfl) isInt_i64 (lget_some e29).1 (lget_some e29).2.1 (by kernel_rfl))) <| .read (.plain rfl (pj_field_own0 (off := 2) (ht rfl) (by kernel_rfl))) <| .read (.plain rfl (pj_index_own2 (N := 32) (sz := 1) (o1 := 0 + 2) (ht rfl) has_i64 isInt_i64 (by decide) (by decide) (by kernel_rfl))) <| .read (.plain rfl (pj_load_own1 R_chain_Version y7 (ht rfl) (.next .here) e29 (Path.then (Path.then (Path.all R_chain_Version) (Path.then (Path.snd i64 (prod i64 (prod R_api_Hash (prod R_api_Hash (sl u8))))) (Path.then (Path.snd i64 (prod R_api_Hash (prod R_api_Hash (sl u8)))) (Path.fst R_api_Hash (prod R_api_Hash (sl u8)))))) (Path.at 32 u8 _ (by decide))) (by kernel_rfl) rfl)) <| .read (.plain rfl (pj_uadd (k := .u8) (b := 8) rfl rfl (ht rfl) (has_un (x := 1#8) rfl))) <| .read (.plain rfl (pj_index_own (ht rfl) (.next .here) (ht rfl) isInt_i64 (lget_some e30).1 (lget_some e30).2.1 (by kernel_rfl))) <| .read (.plain rfl (pj_field_own0 (off := 2) (ht rfl) (by kernel_rfl))) <| .nil) (j_to (Γ' := [(1, (sl R_rolodexref14_Version).slot p_c), (8, val (.pointer (some ⟨b1, 0, none⟩))), (9, ov v1), (10, ov v2), (11, i64.slot r10.2.2), (12, i64.slot y7), (84, u8.slot ((x5.2.2.1[0]) + (1#8))), (86, ownAt v1 (y7.toNat * 67 + (0 + 2)))]) (H' := [own 45 R_chain_Version v2 (y9.set y7.toNat x4), own 45 R_chain_Version v1 y8, box b1 97 (prod (sl u8) (prod i64 (sl R_chain_Version))) (r10.1.1, r10.1.2.1, r10.1.2.2)]) (.cons (.of_lk rfl) <| .cons (.of_lk rfl) <| .cons (.of_lk rfl) <| .cons (.of_lk rfl) <| .cons (.of_lk rfl) <| .cons (.of_lk rfl) <| .cons (.of_lk rfl) <| .cons (.of_lk rfl) <| .nil) (.cons .here <| .cons .here <| .cons .here <| .nil) ?_)
              refine jp (pj_index_own2 (N := 32) (sz := 1) (o1 := 0 + 2) (ht rfl) has_i64 isInt_i64 (by decide) (by decide) (by kernel_rfl)) rfl rfl rfl ?_
              obtain ⟨x7, e31, h⟩ := bind_some h
              refine j_store_own1 (r := x7) R_chain_Version y7 (ht rfl) (ht rfl) (.next .here) e30 (Path.then (Path.then (Path.all R_chain_Version) (Path.then (Path.snd i64 (prod i64 (prod R_api_Hash (prod R_api_Hash (sl u8))))) (Path.then (Path.snd i64 (prod R_api_Hash (prod R_api_Hash (sl u8)))) (Path.fst R_api_Hash (prod R_api_Hash (sl u8)))))) (Path.at 32 u8 _ (by decide))) (by kernel_rfl) (oi e31) ?_
              refine j_end ?_
              refine run_endblock ?_
              refine rt ?_
              refine jp (pm (ht rfl)) rfl rfl rfl ?_
              refine jp (pj_iadd (ht rfl) has_i64) rfl rfl rfl ?_
              refine jp (pa (ht rfl)) rfl rfl rfl ?_
              refine j_end ?_
              obtain rfl := oi h
              exact run_next () (.cons (.of_lk rfl) <| .cons (.of_lk rfl) <| .cons (.of_lk rfl) <| .cons (.of_lk rfl) <| .cons (.of_lk rfl) <| .cons (.of_lk rfl) <| .nil) (.cons .here <| .cons (.next .here) <| .cons .here <| .nil)
            · replace h := bf e26 h
              obtain rfl := oi h
              exact run_brk () (.cons (.of_lk rfl) <| .cons (.of_lk rfl) <| .cons (.of_lk rfl) <| .cons (.of_lk rfl) <| .cons (.of_lk rfl) <| .cons (.of_lk rfl) <| .nil) (.cons .here <| .cons .here <| .cons .here <| .nil)
          · rintro _
            show Run _ _ _ [(1, (sl R_rolodexref14_Version).slot p_c), (8, val (.pointer (some ⟨b1, 0, none⟩))), (9, ov v1), (10, ov v2), (11, i64.slot r10.2.2), (12, i64.slot y10)] [own 45 R_chain_Version v1 y11, box b1 97 (prod (sl u8) (prod i64 (sl R_chain_Version))) (r10.1.1, r10.1.2.1, r10.1.2.2), own 45 R_chain_Version v2 y12]
            refine run_to (Γ' := [(1, (sl R_rolodexref14_Version).slot p_c), (8, val (.pointer (some ⟨b1, 0, none⟩))), (10, ov v2), (11, i64.slot r10.2.2)]) (H' := [box b1 97 (prod (sl u8) (prod i64 (sl R_chain_Version))) (r10.1.1, r10.1.2.1, r10.1.2.2), own 45 R_chain_Version v2 y12]) (.cons (.of_lk rfl) <| .cons (.of_lk rfl) <| .cons (.of_lk rfl) <| .cons (.of_lk rfl) <| .nil) (.cons (.next .here) <| .cons (.next .here) <| .nil) ?_
            refine rs ?_
            refine rt ?_
            refine jp (pm (ht rfl)) rfl rfl rfl ?_
            obtain ⟨r11, e33, h⟩ := bind_some h
            refine j_callRo (hc (ht rfl) <| hasL_nil) .here (by kernel_rfl) (fun _ => (c_monitor_Monitor_Seen e33)) rfl fun v3 => ?_
            refine jp (pa (ht rfl)) rfl rfl rfl ?_
            refine j_end ?_
            refine rs ?_
            refine rs ?_
            refine rt ?_
            refine jp (pa has_i64) rfl rfl rfl ?_
            refine j_end ?_
            obtain ⟨⟨y15, y16⟩, e37, h⟩ := bind_some h
            refine run_loopS (Γi := fun (i : Unit) (s : Int × (List T_chain_Version)) => [(1, (sl R_rolodexref14_Version).slot p_c), (8, val (.pointer (some ⟨b1, 0, none⟩))), (10, ov v2), (11, i64.slot r10.2.2), (13, ov v3), (14, i64.slot s.1)]) (Hi := fun (i : Unit) (s : Int × (List T_chain_Version)) => [box b1 97 (prod (sl u8) (prod i64 (sl R_chain_Version))) (r10.1.1, r10.1.2.1, r10.1.2.2), own 45 R_chain_Version v3 s.2, own 45 R_chain_Version v2 y12]) e37 () (fun a w hst => (hst.sub (.cons (.of_lk rfl) <| .cons (.of_lk rfl) <| .cons (.of_lk rfl) <| .cons (.of_lk rfl) <| .cons (.of_lk rfl) <| .cons (.of_lk rfl) <| .nil)).keep (.cons .here <| .cons .here <| .cons .here <| .nil)) ?_ ?_
            · clear h e37
              rintro _ ⟨y13, y14⟩ lr h
              change rolodexlaw23_MonitorOwn_L2 y13 y14 = some _ at h
              show Run _ _ _ [(1, (sl R_rolodexref14_Version).slot p_c), (8, val (.pointer (some ⟨b1, 0, none⟩))), (10, ov v2), (11, i64.slot r10.2.2), (13, ov v3), (14, i64.slot y13)] [box b1 97 (prod (sl u8) (prod i64 (sl R_chain_Version))) (r10.1.1, r10.1.2.1, r10.1.2.2), own 45 R_chain_Version v3 y14, own 45 R_chain_Version v2 y12]
              unfold rolodexlaw23_MonitorOwn_L2 at h
              refine rs ?_
              refine rs ?_
              refine rt ?_
              refine jp (pm (ht rfl)) rfl rfl rfl ?_
              refine jp (pm (ht rfl)) rfl rfl rfl ?_
              refine jp (pj_len_own (sz := 67) (ht rfl) (.next .here) (by kernel_rfl)) rfl rfl rfl ?_
              refine jp (pj_ilss (ht rfl) (ht rfl)) rfl rfl rfl ?_
              refine j_end ?_
              refine run_cond (ht rfl) (fun e34 => ?_) (fun e34 => ?_)
              · replace h := bt e34 h
                refine run_skip ?_
                refine rs ?_
                refine run_block ?_
                refine rt ?_
                refine jp (pm (ht rfl)) rfl rfl rfl ?_
                refine jp (pm (ht rfl)) rfl rfl rfl ?_
                obtain ⟨x8, e35, h⟩ := bind_some h
                refine jp (pj_index_own (ht rfl) (.next .here) (ht rfl) isInt_i64 (lget_some e35).1 (lget_some e35).2.1 (by kernel_rfl)) rfl rfl rfl ?_
                refine jp (pj_field_own0 (off := 0) (ht rfl) (by kernel_rfl)) rfl rfl rfl ?_
                obtain ⟨x9, e36, h⟩ := bind_some h
                refine j_store_own1 (r := x9) R_chain_Version y13 (ht rfl) has_i64 (.next .here) e35 (Path.then (Path.all R_chain_Version) (Path.fst i64 (prod i64 (prod R_api_Hash (prod R_api_Hash (sl u8)))))) (by kernel_rfl) (oi e36) ?_
                refine j_end ?_
                refine run_endblock ?_
                refine rt ?_
                refine jp (pm (ht rfl)) rfl rfl rfl ?_
                refine jp (pj_iadd (ht rfl) has_i64) rfl rfl rfl ?_
                refine jp (pa (ht rfl)) rfl rfl rfl ?_
                refine j_end ?_
                obtain rfl := oi h
                exact run_next () (.cons (.of_lk rfl) <| .cons (.of_lk rfl) <| .cons (.of_lk rfl) <| .cons (.of_lk rfl) <| .cons (.of_lk rfl) <| .cons (.of_lk rfl) <| .nil) (.cons (.next .here) <| .cons .here <| .cons .here <| .nil)
              · replace h := bf e34 h
                obtain rfl := oi h
                exact run_brk () (.cons (.of_lk rfl) <| .cons (.of_lk rfl) <| .cons (.of_lk rfl) <| .cons (.of_lk rfl) <| .cons (.of_lk rfl) <| .cons (.of_lk rfl) <| .nil) (.cons .here <| .cons .here <| .cons .here <| .nil)
            · rintro _
              show Run _ _ _ [(1, (sl R_rolodexref14_Version).slot p_c), (8, val (.pointer (some ⟨b1, 0, none⟩))), (10, ov v2), (11, i64.slot r10.2.2), (13, ov v3), (14, i64.slot y15)] [box b1 97 (prod (sl u8) (prod i64 (sl R_chain_Version))) (r10.1.1, r10.1.2.1, r10.1.2.2), own 45 R_chain_Version v3 y16, own 45 R_chain_Version v2 y12]
              refine run_to (Γ' := [(1, (sl R_rolodexref14_Version).slot p_c), (8, val (.pointer (some ⟨b1, 0, none⟩))), (10, ov v2), (11, i64.slot r10.2.2)]) (H' := [box b1 97 (prod (sl u8) (prod i64 (sl R_chain_Version))) (r10.1.1, r10.1.2.1, r10.1.2.2), own 45 R_chain_Version v2 y12]) (.cons (.of_lk rfl) <| .cons (.of_lk rfl) <| .cons (.of_lk rfl) <| .cons (.of_lk rfl) <| .nil) (.cons .here <| .cons (.next .here) <| .nil) ?_
              refine rs ?_
              refine rt ?_
              refine jp (pm (ht rfl)) rfl rfl rfl ?_
              refine jp (pj_ieql (ht rfl) has_i64) rfl rfl rfl ?_
              refine jp (pm (ht rfl)) rfl rfl rfl ?_
              obtain ⟨y17, e39, h⟩ := bind_some h
              refine j_joinx (ι := Unit) (Γ' := fun _ => [(1, (sl R_rolodexref14_Version).slot p_c), (8, val (.pointer (some ⟨b1, 0, none⟩))), (108, bl.slot y17)]) (H' := fun _ => [box b1 97 (prod (sl u8) (prod i64 (sl R_chain_Version))) (r10.1.1, r10.1.2.1, r10.1.2.2)]) 6 ?_ fun J => ?_
              · intro _
                clear e39
                show OpsJ _ _ _ [(1, (sl R_rolodexref14_Version).slot p_c), (8, val (.pointer (some ⟨b1, 0, none⟩))), (108, bl.slot y17)] [box b1 97 (prod (sl u8) (prod i64 (sl R_chain_Version))) (r10.1.1, r10.1.2.1, r10.1.2.2)] _
                refine jp (pm (ht rfl)) rfl rfl rfl ?_
                obtain ⟨y18, e41, h⟩ := bind_some h
                refine j_joinx (ι := Unit) (Γ' := fun _ => [(115, bl.slot y18)]) (H' := fun _ => []) 6 ?_ fun J => ?_
                · intro _
                  clear e41
                  show OpsJ _ _ _ [(115, bl.slot y18)] [] _
                  refine jp (pa (ht rfl)) rfl rfl rfl ?_
                  refine j_end ?_
                  obtain rfl := oi h
                  exact run_ret fun a w hst => q_ret1 hst rfl (.tmp rfl) () (fun _ _ h => h) (.nil)
                · rcases bool_tf (y17) with e40 | e40
                  · replace e41 := bt e40 e41
                    refine jy (pm (ht rfl)) rfl rfl rfl rfl (bl_isx e40) rfl rfl ?_
                    obtain ⟨r12, e42, e41⟩ := bind_some e41
                    refine jy (pj_callR (hc (ht rfl) <| hasL_nil) .here (by kernel_rfl) (Ctr.frozeR (fun _ => (c_monitor_Monitor_Seen e42)))) rfl rfl rfl rfl (bl_isx e40) rfl rfl ?_
                    obtain ⟨r13, e43, e41⟩ := bind_some e41
                    refine jy (pj_call (hc (ht rfl) <| hasL_nil) (by kernel_rfl) (Ctr.froze (c_rolodexlaw14_To e43))) rfl rfl rfl rfl (bl_isx e40) rfl rfl ?_
                    refine jy (pm (ht rfl)) rfl rfl rfl rfl (bl_isx e40) rfl rfl ?_
                    obtain ⟨r14, e44, e41⟩ := bind_some e41
                    refine jy (pj_call (hc (ht rfl) <| hc (ht rfl) <| hasL_nil) (by kernel_rfl) (c_rolodexref14_Same e44)) rfl rfl rfl rfl (bl_isx e40) rfl rfl ?_
                    refine jp (PJ.eqv (R := bl) (pj_pick (t := any) (ht rfl) (fun _ => (ht rfl)) (fun he => absurd (e40.symm.trans he) (by decide))) (oi e41)) rfl rfl rfl ?_
                    exact j_to (.cons (.of_lk rfl) <| .nil) (.nil) (J ())
                  · replace e41 := bf e40 e41
                    refine j_guard_no2 (j := 9) (want := true) rfl rfl rfl rfl (bl_isx e40) rfl rfl rfl ?_
                    refine j_guard_no2 (j := 9) (want := true) rfl rfl rfl rfl (bl_isx e40) rfl rfl rfl ?_
                    refine j_guard_no2 (j := 9) (want := true) rfl rfl rfl rfl (bl_isx e40) rfl rfl rfl ?_
                    refine j_guard_no2 (j := 9) (want := true) rfl rfl rfl rfl (bl_isx e40) rfl rfl rfl ?_
                    refine j_guard_no2 (j := 9) (want := true) rfl rfl rfl rfl (bl_isx e40) rfl rfl rfl ?_
                    refine jp (PJ.eqv (R := bl) (pj_pick (t := any) (ht rfl) (fun he => absurd (e40.symm.trans he) (by decide)) (fun _ => has_bl)) (oi e41)) rfl rfl rfl ?_
                    exact j_to (.cons (.of_lk rfl) <| .nil) (.nil) (J ())
              · rcases bool_tf (decide (r10.2.2 = (0 : Int))) with e38 | e38
                · replace e39 := bt e38 e39
                  refine jy (pm (ht rfl)) rfl rfl rfl rfl (bl_isx e38) rfl rfl ?_
                  refine jy (pj_len_own (sz := 67) (ht rfl) (.next .here) (by kernel_rfl)) rfl rfl rfl rfl (bl_isx e38) rfl rfl ?_
                  refine jy (pm (ht rfl)) rfl rfl rfl rfl (bl_isx e38) rfl rfl ?_
                  refine jy (pj_len_sl (sz := 67) (ht rfl) (by kernel_rfl)) rfl rfl rfl rfl (bl_isx e38) rfl rfl ?_
                  refine jy (pj_ieql (ht rfl) (ht rfl)) rfl rfl rfl rfl (bl_isx e38) rfl rfl ?_
                  refine jp (PJ.eqv (R := bl) (pj_pick (t := any) (ht rfl) (fun _ => (ht rfl)) (fun he => absurd (e38.symm.trans he) (by decide))) (oi e39)) rfl rfl rfl ?_
                  exact j_to (.cons (.of_lk rfl) <| .cons (.of_lk rfl) <| .cons (.of_lk rfl) <| .nil) (.cons .here <| .nil) (J ())
                · replace e39 := bf e38 e39
                  refine j_guard_no2 (j := 2) (want := true) rfl rfl rfl rfl (bl_isx e38) rfl rfl rfl ?_
                  refine j_guard_no2 (j := 2) (want := true) rfl rfl rfl rfl (bl_isx e38) rfl rfl rfl ?_
                  refine j_guard_no2 (j := 2) (want := true) rfl rfl rfl rfl (bl_isx e38) rfl rfl rfl ?_
                  refine j_guard_no2 (j := 2) (want := true) rfl rfl rfl rfl (bl_isx e38) rfl rfl rfl ?_
                  refine j_guard_no2 (j := 2) (want := true) rfl rfl rfl rfl (bl_isx e38) rfl rfl rfl ?_
                  refine jp (PJ.eqv (R := bl) (pj_pick (t := any) (ht rfl) (fun he => absurd (e38.symm.trans he) (by decide)) (fun _ => has_bl)) (oi e39)) rfl rfl rfl ?_
                  exact j_to (.cons (.of_lk rfl) <| .cons (.of_lk rfl) <| .cons (.of_lk rfl) <| .nil) (.cons .here <| .nil) (J ())
      · rcases bool_tf (y2) with e9 | e9
        · replace e10 := bt e9 e10
          refine j_guard_no2 (j := 12) (want := false) rfl rfl rfl rfl (bl_isx e9) rfl rfl rfl ?_
          refine j_guard_no2 (j := 12) (want := false) rfl rfl rfl rfl (bl_isx e9) rfl rfl rfl ?_
          refine j_guard_no2 (j := 12) (want := false) rfl rfl rfl rfl (bl_isx e9) rfl rfl rfl ?_
          refine j_guard_no2 (j := 12) (want := false) rfl rfl rfl rfl (bl_isx e9) rfl rfl rfl ?_
          refine jp (PJ.eqv (R := bl) (pj_pick (t := any) (ht rfl) (fun _ => has_bl) (fun he => absurd (e9.symm.trans he) (by decide))) (oi e10)) rfl rfl rfl ?_
          exact j_to (.cons (.of_lk rfl) <| .cons (.of_lk rfl) <| .cons (.of_lk rfl) <| .cons (.of_lk rfl) <| .cons (.of_lk rfl) <| .nil) (.nil) (J ())
        · replace e10 := bf e9 e10
          refine jy (pm (ht rfl)) rfl rfl rfl rfl (bl_isx e9) rfl rfl ?_
          refine jy (pm (ht rfl)) rfl rfl rfl rfl (bl_isx e9) rfl rfl ?_
          obtain ⟨r4, e11, e10⟩ := bind_some e10
          refine jy (pj_call (hc (ht rfl) <| hc (ht rfl) <| hasL_nil) (by kernel_rfl) (c_rolodexref14_Formed e11)) rfl rfl rfl rfl (bl_isx e9) rfl rfl ?_
          refine jy (pj_not (ht rfl)) rfl rfl rfl rfl (bl_isx e9) rfl rfl ?_
          refine jp (PJ.eqv (R := bl) (pj_pick (t := any) (ht rfl) (fun he => absurd (e9.symm.trans he) (by decide)) (fun _ => (ht rfl))) (oi e10)) rfl rfl rfl ?_
          exact j_to (.cons (.of_lk rfl) <| .cons (.of_lk rfl) <| .cons (.of_lk rfl) <| .cons (.of_lk rfl) <| .cons (.of_lk rfl) <| .nil) (.nil) (J ())
    · rcases bool_tf (y1) with e6 | e6
      · replace e7 := bt e6 e7
        refine j_guard_no2 (j := 7) (want := false) rfl rfl rfl rfl (bl_isx e6) rfl rfl rfl ?_
        refine j_guard_no2 (j := 7) (want := false) rfl rfl rfl rfl (bl_isx e6) rfl rfl rfl ?_
        refine j_guard_no2 (j := 7) (want := false) rfl rfl rfl rfl (bl_isx e6) rfl rfl rfl ?_
        refine jp (PJ.eqv (R := bl) (pj_pick (t := any) (ht rfl) (fun _ => has_bl) (fun he => absurd (e6.symm.trans he) (by decide))) (oi e7)) rfl rfl rfl ?_
        exact j_to (.cons (.of_lk rfl) <| .cons (.of_lk rfl) <| .cons (.of_lk rfl) <| .cons (.of_lk rfl) <| .cons (.of_lk rfl) <| .nil) (.nil) (J ())
      · replace e7 := bf e6 e7
        refine jy (pm (ht rfl)) rfl rfl rfl rfl (bl_isx e6) rfl rfl ?_
        obtain ⟨r3, e8, e7⟩ := bind_some e7
        refine jy (pj_call (hc (ht rfl) <| hc has_i64 <| hasL_nil) (by kernel_rfl) (c_rolodexref14_Few e8)) rfl rfl rfl rfl (bl_isx e6) rfl rfl ?_
        refine jy (pj_not (ht rfl)) rfl rfl rfl rfl (bl_isx e6) rfl rfl ?_
        refine jp (PJ.eqv (R := bl) (pj_pick (t := any) (ht rfl) (fun he => absurd (e6.symm.trans he) (by decide)) (fun _ => (ht rfl))) (oi e7)) rfl rfl rfl ?_
        exact j_to (.cons (.of_lk rfl) <| .cons (.of_lk rfl) <| .cons (.of_lk rfl) <| .cons (.of_lk rfl) <| .cons (.of_lk rfl) <| .nil) (.nil) (J ())
  · rcases bool_tf (!r2) with e4 | e4
    · replace e5 := bt e4 e5
      refine j_guard_no2 (j := 2) (want := false) rfl rfl rfl rfl (bl_isx e4) rfl rfl rfl ?_
      refine j_guard_no2 (j := 2) (want := false) rfl rfl rfl rfl (bl_isx e4) rfl rfl rfl ?_
      refine j_guard_no2 (j := 2) (want := false) rfl rfl rfl rfl (bl_isx e4) rfl rfl rfl ?_
      refine jp (PJ.eqv (R := bl) (pj_pick (t := any) (ht rfl) (fun _ => has_bl) (fun he => absurd (e4.symm.trans he) (by decide))) (oi e5)) rfl rfl rfl ?_
      exact j_to (.cons (.of_lk rfl) <| .cons (.of_lk rfl) <| .cons (.of_lk rfl) <| .cons (.of_lk rfl) <| .cons (.of_lk rfl) <| .nil) (.nil) (J ())
    · replace e5 := bf e4 e5
      refine jy (pm (ht rfl)) rfl rfl rfl rfl (bl_isx e4) rfl rfl ?_
      refine jy (pj_len_sl (sz := 1) (ht rfl) (by kernel_rfl)) rfl rfl rfl rfl (bl_isx e4) rfl rfl ?_
      refine jy (pj_igtr (ht rfl) has_i64) rfl rfl rfl rfl (bl_isx e4) rfl rfl ?_
      refine jp (PJ.eqv (R := bl) (pj_pick (t := any) (ht rfl) (fun he => absurd (e4.symm.trans he) (by decide)) (fun _ => (ht rfl))) (oi e5)) rfl rfl rfl ?_
      exact j_to (.cons (.of_lk rfl) <| .cons (.of_lk rfl) <| .cons (.of_lk rfl) <| .cons (.of_lk rfl) <| .cons (.of_lk rfl) <| .nil) (.nil) (J ())
end Go.Sl.W
