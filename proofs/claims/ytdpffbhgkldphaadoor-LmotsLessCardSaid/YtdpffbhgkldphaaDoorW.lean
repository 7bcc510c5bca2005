import Derived.Test.YtdpffbhgkldphaaDoorM
import Derived.Test.YtdpffbhgkldphaaDoorOp13
import Derived.Test.YtdpffbhgkldphaaDoorProg
set_option linter.unusedSimpArgs false
set_option linter.unusedVariables false
set_option linter.unusedSectionVars false
namespace Go.Sl.W
open Go.Proofs Go.Sl Go.Sl.M
abbrev R_hash_state : Rep T_hash_state := vec 8 u32
abbrev R_lmots_form : Rep T_lmots_form := (prod i64 (prod i64 i64))
abbrev R_api_Hash : Rep T_api_Hash := vec 32 u8
abbrev HG0 (G : GP) : Prop := ∀ m, G.p m → GAt 0 R_hash_state G_hash_begin m
abbrev HG1 (G : GP) : Prop := ∀ m, G.p m → GAt 1 (vec 5 R_lmots_form) G_lmots_forms m
abbrev HG2 (G : GP) : Prop := ∀ m, G.p m → GAt 2 (vec 64 u32) G_hash_rounds m
set_option maxRecDepth 100000 in
set_option maxHeartbeats 4000000 in
theorem c_lmots_of {G : GP} (hg1 : HG1 G) {p_kind : Int} {r : T_lmots_form × Bool} (h : lmots_of p_kind = some r) : Ctr Tryd.prog G 41 [i64.slot p_kind] [] (fun (_ : Unit) => tup [R_lmots_form.slot r.1, bl.slot r.2]) (fun (_ : Unit) => []) := by
  unfold lmots_of at h
  refine ctr_of_run Tryd.func41 rfl 14 rfl rfl fun m0 w0 b0 => ?_
  show Run _ _ _ [(0, i64.slot p_kind)] _
  refine run_seq ?_
  refine run_text ?_
  refine j_alloc (x := (0, 0, 0)) (R := R_lmots_form) (zero_prod zero_i64 (zero_prod zero_i64 zero_i64)) (by kernel_rfl) rfl fun b1 => ?_
  refine j_pure (pj_assign has_bl) rfl rfl rfl ?_
  refine j_end ?_
  refine run_seq ?_
  refine run_seq ?_
  refine run_text ?_
  refine j_pure (pj_move (has_tmp rfl)) rfl rfl rfl ?_
  refine j_pure (pj_ilss (has_tmp rfl) has_i64) rfl rfl rfl ?_
  refine j_pure (pj_move (has_tmp rfl)) rfl rfl rfl ?_
  obtain ⟨y1, e2, h⟩ := bind_some h
  refine j_joinx (ι := Unit) (Γ' := fun _ => [(0, i64.slot p_kind), (2, val (.pointer (some ⟨b1, 0, none⟩))), (9, bl.slot y1)]) (H' := fun _ => [box b1 62 R_lmots_form (0, 0, 0)]) 3 ?_ fun J => ?_
  · intro _
    clear e2
    show OpsJ _ _ _ [(0, i64.slot p_kind), (2, val (.pointer (some ⟨b1, 0, none⟩))), (9, bl.slot y1)] [box b1 62 R_lmots_form (0, 0, 0)] _
    refine j_end ?_
    refine run_cond (has_tmp rfl) (fun e3 => ?_) (fun e3 => ?_)
    · replace h := bt e3 h
      refine run_seq ?_
      refine run_text ?_
      refine j_pure (pj_build (R := R_lmots_form) (zero_prod zero_i64 (zero_prod zero_i64 zero_i64)) (by kernel_rfl) (by kernel_rfl) rfl .nil) rfl rfl rfl ?_
      refine j_store_boxx (r' := (0, 0, 0)) (has_tmp rfl) (has_tmp rfl) .here (Path.all R_lmots_form) (by kernel_rfl) rfl ?_
      refine j_pure (pj_assign has_bl) rfl rfl rfl ?_
      refine j_end ?_
      obtain rfl := Option.some.inj h
      exact run_ret fun a w hst => q_retN hst rfl (.cons (.cell rfl .here (by kernel_rfl)) <| .cons (.tmp rfl) <| .nil) rfl () (fun _ _ h => h) (.nil)
    · replace h := bf e3 h
      refine run_skip ?_
      refine run_seq ?_
      refine run_text ?_
      refine j_pure (pj_move (has_tmp rfl)) rfl rfl rfl ?_
      obtain ⟨x1, e4, h⟩ := bind_some h
      refine j_pure (pj_index_gx (v := G_lmots_forms) hg1 (has_tmp rfl) isInt_i64 e4 (by kernel_rfl)) rfl rfl rfl ?_
      refine j_pure (pj_load_to (has_tmp rfl) (by kernel_rfl)) rfl rfl rfl ?_
      refine j_store_boxx (r' := x1) (has_tmp rfl) (has_tmp rfl) .here (Path.all R_lmots_form) (by kernel_rfl) rfl ?_
      refine j_pure (pj_assign has_bl) rfl rfl rfl ?_
      refine j_end ?_
      obtain rfl := Option.some.inj h
      exact run_ret fun a w hst => q_retN hst rfl (.cons (.cell rfl .here (by kernel_rfl)) <| .cons (.tmp rfl) <| .nil) rfl () (fun _ _ h => h) (.nil)
  · rcases bool_tf (decide (p_kind < (1 : Int))) with e1 | e1
    · replace e2 := bt e1 e2
      refine j_guard_no2 (j := 2) (want := false) rfl rfl rfl rfl (bl_isx e1) rfl rfl rfl ?_
      refine j_guard_no2 (j := 2) (want := false) rfl rfl rfl rfl (bl_isx e1) rfl rfl rfl ?_
      refine j_pure (PJ.eqv (R := bl) (pj_pick (t := any) (has_tmp rfl) (fun _ => has_bl) (fun he => absurd (e1.symm.trans he) (by decide))) (Option.some.inj e2)) rfl rfl rfl ?_
      exact j_to (.cons (.of_lk rfl) <| .cons (.of_lk rfl) <| .cons (.of_lk rfl) <| .nil) (.cons .here <| .nil) (J ())
    · replace e2 := bf e1 e2
      refine j_pure_y (pj_move (has_tmp rfl)) rfl rfl rfl rfl (bl_isx e1) rfl rfl ?_
      refine j_pure_y (pj_igtr (has_tmp rfl) has_i64) rfl rfl rfl rfl (bl_isx e1) rfl rfl ?_
      refine j_pure (PJ.eqv (R := bl) (pj_pick (t := any) (has_tmp rfl) (fun he => absurd (e1.symm.trans he) (by decide)) (fun _ => (has_tmp rfl))) (Option.some.inj e2)) rfl rfl rfl ?_
      exact j_to (.cons (.of_lk rfl) <| .cons (.of_lk rfl) <| .cons (.of_lk rfl) <| .nil) (.cons .here <| .nil) (J ())
set_option maxRecDepth 100000 in
set_option maxHeartbeats 4000000 in
theorem c_lmots_Chains {G : GP} (hg1 : HG1 G) {p_kind : Int} {r : Int} (h : lmots_Chains p_kind = some r) : Ctr Tryd.prog G 16 [i64.slot p_kind] [] (fun (_ : Unit) => i64.slot r) (fun (_ : Unit) => []) := by
  unfold lmots_Chains at h
  refine ctr_of_run Tryd.func16 rfl 12 rfl rfl fun m0 w0 b0 => ?_
  show Run _ _ _ [(0, i64.slot p_kind)] _
  refine run_seq ?_
  refine run_text ?_
  refine j_pure (pj_assign has_i64) rfl rfl rfl ?_
  refine j_end ?_
  refine run_seq ?_
  refine run_text ?_
  refine j_pure (pj_move (has_tmp rfl)) rfl rfl rfl ?_
  obtain ⟨r1, e1, h⟩ := bind_some h
  refine j_pure (pj_call (hasL_cons (has_tmp rfl) <| hasL_nil) (by kernel_rfl) (c_lmots_of hg1 e1)) rfl rfl rfl ?_
  refine j_pure (pj_move (has_tmp rfl)) rfl rfl rfl ?_
  refine j_pure (pj_extract (has_tmp rfl) rfl) rfl rfl rfl ?_
  refine j_pure (pj_extract (has_tmp rfl) rfl) rfl rfl rfl ?_
  refine j_alloc (x := (0, 0, 0)) (R := R_lmots_form) (zero_prod zero_i64 (zero_prod zero_i64 zero_i64)) (by kernel_rfl) rfl fun b1 => ?_
  refine j_store_boxx (r' := r1.1) (has_tmp rfl) (has_tmp rfl) .here (Path.all R_lmots_form) (by kernel_rfl) rfl ?_
  refine j_freezeTo (t := 3) .here (.of_lk rfl) ?_
  refine j_pure (pj_assign (has_tmp rfl)) rfl rfl rfl ?_
  refine j_end ?_
  refine run_seq ?_
  refine run_text ?_
  refine j_pure (pj_field_to (has_tmp rfl) (Path.then (Path.snd i64 (prod i64 i64)) (Path.fst i64 i64)) (by kernel_rfl)) rfl rfl rfl ?_
  refine j_pure (pj_load_to (has_tmp rfl) (by kernel_rfl)) rfl rfl rfl ?_
  refine j_pure (pj_assign (has_tmp rfl)) rfl rfl rfl ?_
  refine j_end ?_
  obtain rfl := Option.some.inj h
  exact run_ret fun a w hst => q_ret1 hst rfl (.tmp rfl) () (fun _ _ h => h) (.nil)
set_option maxRecDepth 100000 in
set_option maxHeartbeats 4000000 in
theorem c_lmots_Size {G : GP} (hg1 : HG1 G) {p_kind : Int} {r : Int} (h : lmots_Size p_kind = some r) : Ctr Tryd.prog G 18 [i64.slot p_kind] [] (fun (_ : Unit) => i64.slot r) (fun (_ : Unit) => []) := by
  unfold lmots_Size at h
  refine ctr_of_run Tryd.func18 rfl 17 rfl rfl fun m0 w0 b0 => ?_
  show Run _ _ _ [(0, i64.slot p_kind)] _
  refine run_seq ?_
  refine run_text ?_
  refine j_pure (pj_assign has_i64) rfl rfl rfl ?_
  refine j_end ?_
  refine run_seq ?_
  refine run_text ?_
  refine j_pure (pj_move (has_tmp rfl)) rfl rfl rfl ?_
  obtain ⟨r1, e1, h⟩ := bind_some h
  refine j_pure (pj_call (hasL_cons (has_tmp rfl) <| hasL_nil) (by kernel_rfl) (c_lmots_of hg1 e1)) rfl rfl rfl ?_
  refine j_pure (pj_move (has_tmp rfl)) rfl rfl rfl ?_
  refine j_pure (pj_extract (has_tmp rfl) rfl) rfl rfl rfl ?_
  refine j_pure (pj_extract (has_tmp rfl) rfl) rfl rfl rfl ?_
  refine j_alloc (x := (0, 0, 0)) (R := R_lmots_form) (zero_prod zero_i64 (zero_prod zero_i64 zero_i64)) (by kernel_rfl) rfl fun b1 => ?_
  refine j_store_boxx (r' := r1.1) (has_tmp rfl) (has_tmp rfl) .here (Path.all R_lmots_form) (by kernel_rfl) rfl ?_
  refine j_freezeTo (t := 3) .here (.of_lk rfl) ?_
  refine j_pure (pj_assign (has_tmp rfl)) rfl rfl rfl ?_
  refine j_end ?_
  refine run_seq ?_
  refine run_seq ?_
  refine run_text ?_
  refine j_pure (pj_move (has_tmp rfl)) rfl rfl rfl ?_
  refine j_pure (pj_not (has_tmp rfl)) rfl rfl rfl ?_
  refine j_end ?_
  refine run_cond (has_tmp rfl) (fun e2 => ?_) (fun e2 => ?_)
  · replace h := bt e2 h
    refine run_seq ?_
    refine run_text ?_
    refine j_pure (pj_assign has_i64) rfl rfl rfl ?_
    refine j_end ?_
    obtain rfl := Option.some.inj h
    exact run_ret fun a w hst => q_ret1 hst rfl (.tmp rfl) () (fun _ _ h => h) (.nil)
  · replace h := bf e2 h
    refine run_skip ?_
    refine run_seq ?_
    refine run_text ?_
    refine j_pure (pj_field_to (has_tmp rfl) (Path.then (Path.snd i64 (prod i64 i64)) (Path.fst i64 i64)) (by kernel_rfl)) rfl rfl rfl ?_
    refine j_pure (pj_load_to (has_tmp rfl) (by kernel_rfl)) rfl rfl rfl ?_
    refine j_pure (pj_iadd has_i64 (has_tmp rfl)) rfl rfl rfl ?_
    refine j_pure (pj_imul has_i64 (has_tmp rfl)) rfl rfl rfl ?_
    refine j_pure (pj_iadd has_i64 (has_tmp rfl)) rfl rfl rfl ?_
    obtain ⟨x1, e3, h⟩ := bind_some h
    refine j_pure (PJ.eqv (pj_assign (has_tmp rfl)) (Option.some.inj e3)) rfl rfl rfl ?_
    refine j_end ?_
    obtain rfl := Option.some.inj h
    exact run_ret fun a w hst => q_ret1 hst rfl (.tmp rfl) () (fun _ _ h => h) (.nil)
set_option maxRecDepth 100000 in
set_option maxHeartbeats 4000000 in
theorem c_lmots_form_most {G : GP} {p_f : T_lmots_form} {r : Int} (h : lmots_form_most p_f = some r) : Ctr Tryd.prog G 54 [R_lmots_form.slot p_f] [] (fun (_ : Unit) => i64.slot r) (fun (_ : Unit) => []) := by
  unfold lmots_form_most at h
  refine ctr_of_run Tryd.func54 rfl 7 rfl rfl fun m0 w0 b0 => ?_
  show Run _ _ _ [(0, R_lmots_form.slot p_f)] _
  refine run_seq ?_
  refine run_text ?_
  refine j_pure (pj_box_to (has_tmp rfl)) rfl rfl rfl ?_
  refine j_pure (pj_assign has_i64) rfl rfl rfl ?_
  refine j_end ?_
  refine run_seq ?_
  refine run_text ?_
  refine j_pure (pj_field_to (has_tmp rfl) (Path.fst i64 (prod i64 i64)) (by kernel_rfl)) rfl rfl rfl ?_
  refine j_pure (pj_load_to (has_tmp rfl) (by kernel_rfl)) rfl rfl rfl ?_
  obtain ⟨e1, h⟩ := grd_some h
  refine j_pure (pj_ishl has_i64 (has_tmp rfl) isInt_i64 e1) rfl rfl rfl ?_
  refine j_pure (pj_isub (has_tmp rfl) has_i64) rfl rfl rfl ?_
  refine j_pure (pj_assign (has_tmp rfl)) rfl rfl rfl ?_
  refine j_end ?_
  obtain rfl := Option.some.inj h
  exact run_ret fun a w hst => q_ret1 hst rfl (.tmp rfl) () (fun _ _ h => h) (.nil)
set_option maxRecDepth 100000 in
set_option maxHeartbeats 4000000 in
theorem c_lmots_form_cut {G : GP} {Sy : Type} {p_f : T_lmots_form} {p_b : List (BitVec 8)} {yl : Sy → Int → Option Sy} {s0 : Sy} {L : Nat} {rc : Loop} {E : Sy → Ent} {r : Sy} (hY : ∀ s d s', yl s d = some s' → YieldC Tryd.prog G L rc (i64.slot d) (E s) (E s')) (h : lmots_form_cut p_f p_b yl s0 = some r) : CtrY Tryd.prog G L rc 70 [R_lmots_form.slot p_f, (sl u8).slot p_b, val (yv L)] [E s0] (fun (_ : Unit) => tup []) (fun (_ : Unit) => [E r]) := by
  unfold lmots_form_cut at h
  refine ctrY_of_run Tryd.func70 rfl 35 rfl rfl fun m0 w0 b0 hl hb => ?_
  show Run _ _ _ [(0, R_lmots_form.slot p_f), (1, (sl u8).slot p_b), (2, val (yv L))] _
  refine run_seq ?_
  refine run_text ?_
  refine j_pure (pj_box_to (has_tmp rfl)) rfl rfl rfl ?_
  refine j_end ?_
  refine run_seq ?_
  refine run_text ?_
  refine j_pure (pj_move (has_tmp rfl)) rfl rfl rfl ?_
  refine j_pure (pj_len_sl (sz := 1) (has_tmp rfl) (by kernel_rfl)) rfl rfl rfl ?_
  refine j_pure (pj_move has_i64) rfl rfl rfl ?_
  refine j_end ?_
  obtain ⟨⟨y8, y9⟩, e9, h⟩ := bind_some h
  refine run_loopS (Γi := fun (i : Unit) (s : Int × Sy) => [(2, val (yv L)), (3, ptrTo R_lmots_form p_f), (9, (sl u8).slot p_b), (10, i64.slot (p_b.length : Int)), (11, i64.slot s.1)]) (Hi := fun (i : Unit) (s : Int × Sy) => [E s.2]) e9 () (fun a w hst => (hst.sub (.cons (.of_lk rfl) <| .cons (.of_lk rfl) <| .cons (.of_lk rfl) <| .cons (.of_lk rfl) <| .cons (.of_lk rfl) <| .nil)).keep (.cons .here <| .nil)) ?_ ?_
  · clear h e9
    rintro _ ⟨y1, y2⟩ lr h
    change lmots_form_cut_L1 p_b p_f yl y1 y2 = some _ at h
    show Run _ _ _ [(2, val (yv L)), (3, ptrTo R_lmots_form p_f), (9, (sl u8).slot p_b), (10, i64.slot (p_b.length : Int)), (11, i64.slot y1)] [E y2]
    unfold lmots_form_cut_L1 at h
    refine run_seq ?_
    refine run_text ?_
    refine j_pure (pj_ilss (has_tmp rfl) (has_tmp rfl)) rfl rfl rfl ?_
    refine j_end ?_
    refine run_seq ?_
    refine run_cond (has_tmp rfl) (fun e1 => ?_) (fun e1 => ?_)
    · replace h := bt e1 h
      refine run_skip ?_
      refine run_seq ?_
      refine run_block ?_
      refine run_seq ?_
      refine run_text ?_
      obtain ⟨x1, e2, h⟩ := bind_some h
      refine j_pure (pj_index_slx (has_tmp rfl) (has_tmp rfl) isInt_i64 e2 (by kernel_rfl)) rfl rfl rfl ?_
      refine j_pure (pj_load_to (has_tmp rfl) (by kernel_rfl)) rfl rfl rfl ?_
      refine j_pure (pj_assign (has_tmp rfl)) rfl rfl rfl ?_
      refine j_end ?_
      refine run_seq ?_
      refine run_text ?_
      refine j_pure (pj_field_to (has_tmp rfl) (Path.fst i64 (prod i64 i64)) (by kernel_rfl)) rfl rfl rfl ?_
      refine j_pure (pj_load_to (has_tmp rfl) (by kernel_rfl)) rfl rfl rfl ?_
      refine j_pure (pj_isub has_i64 (has_tmp rfl)) rfl rfl rfl ?_
      refine j_pure (pj_assign (has_tmp rfl)) rfl rfl rfl ?_
      refine j_end ?_
      obtain ⟨⟨y6, y7⟩, e8, h⟩ := bind_some h
      refine run_loopS (Γi := fun (i : Unit) (s : Int × Sy) => [(2, val (yv L)), (3, ptrTo R_lmots_form p_f), (7, u8.slot x1), (8, i64.slot s.1), (9, (sl u8).slot p_b), (10, i64.slot (p_b.length : Int)), (11, i64.slot y1)]) (Hi := fun (i : Unit) (s : Int × Sy) => [E s.2]) e8 () (fun a w hst => (hst.sub (.cons (.of_lk rfl) <| .cons (.of_lk rfl) <| .cons (.of_lk rfl) <| .cons (.of_lk rfl) <| .cons (.of_lk rfl) <| .cons (.of_lk rfl) <| .cons (.of_lk rfl) <| .nil)).keep (.cons .here <| .nil)) ?_ ?_
      · clear h e8
        rintro _ ⟨y3, y4⟩ lr h
        change lmots_form_cut_L2 p_f yl x1 y3 y4 = some _ at h
        show Run _ _ _ [(2, val (yv L)), (3, ptrTo R_lmots_form p_f), (7, u8.slot x1), (8, i64.slot y3), (9, (sl u8).slot p_b), (10, i64.slot (p_b.length : Int)), (11, i64.slot y1)] [E y4]
        unfold lmots_form_cut_L2 at h
        refine run_seq ?_
        refine run_seq ?_
        refine run_text ?_
        refine j_pure (pj_move (has_tmp rfl)) rfl rfl rfl ?_
        refine j_pure (pj_igeq (has_tmp rfl) has_i64) rfl rfl rfl ?_
        refine j_end ?_
        refine run_cond (has_tmp rfl) (fun e3 => ?_) (fun e3 => ?_)
        · replace h := bt e3 h
          refine run_skip ?_
          refine run_seq ?_
          refine run_block ?_
          refine run_seq ?_
          obtain ⟨e4, h⟩ := grd_some h
          obtain ⟨r1, e5, h⟩ := bind_some h
          refine run_draw (n := 8) (by kernel_rfl) (by kernel_rfl) (by kernel_rfl) (by kernel_rfl) (.read (.plain rfl (pj_move (has_tmp rfl))) <| .read (.plain rfl (pj_move (has_tmp rfl))) <| .read (.plain rfl (pj_conv_ui (by decide) (by kernel_rfl) (has_tmp rfl))) <| .read (.plain rfl (pj_move (has_tmp rfl))) <| .read (.plain rfl (pj_ishr (has_tmp rfl) (has_tmp rfl) isInt_i64 e4)) <| .read (.plain rfl (pj_load_to (has_tmp rfl) (by kernel_rfl))) <| .read (.plain rfl (pj_call (hasL_cons (has_tmp rfl) <| hasL_nil) (by kernel_rfl) (c_lmots_form_most e5))) <| .read (.plain rfl (pj_iand (has_tmp rfl) (has_tmp rfl))) <| .nil) (j_to (Γ' := [(2, val (yv L)), (3, ptrTo R_lmots_form p_f), (7, u8.slot x1), (8, i64.slot y3), (9, (sl u8).slot p_b), (10, i64.slot (p_b.length : Int)), (11, i64.slot y1), (24, val (yv L)), (31, i64.slot (iand (ishr (x1.toNat : Int) y3) r1))]) (H' := [E y4]) (.cons (.of_lk rfl) <| .cons (.of_lk rfl) <| .cons (.of_lk rfl) <| .cons (.of_lk rfl) <| .cons (.of_lk rfl) <| .cons (.of_lk rfl) <| .cons (.of_lk rfl) <| .cons (.of_lk rfl) <| .cons (.of_lk rfl) <| .nil) (.cons .here <| .nil) ?_)
          obtain ⟨y5, e6, h⟩ := bind_some h
          refine j_yield (has_tmp rfl) (has_tmp rfl) hl hb (hY _ _ _ e6) rfl ?_
          refine j_pure (pj_not (has_tmp rfl)) rfl rfl rfl ?_
          refine j_end ?_
          refine run_cond_f (has_tmp rfl) rfl ?_
          refine run_skip ?_
          refine run_endblock ?_
          refine run_text ?_
          refine j_pure (pj_move (has_tmp rfl)) rfl rfl rfl ?_
          refine j_pure (pj_field_to (has_tmp rfl) (Path.fst i64 (prod i64 i64)) (by kernel_rfl)) rfl rfl rfl ?_
          refine j_pure (pj_load_to (has_tmp rfl) (by kernel_rfl)) rfl rfl rfl ?_
          refine j_pure (pj_isub (has_tmp rfl) (has_tmp rfl)) rfl rfl rfl ?_
          refine j_pure (pj_assign (has_tmp rfl)) rfl rfl rfl ?_
          refine j_end ?_
          obtain rfl := Option.some.inj h
          exact run_next () (.cons (.of_lk rfl) <| .cons (.of_lk rfl) <| .cons (.of_lk rfl) <| .cons (.of_lk rfl) <| .cons (.of_lk rfl) <| .cons (.of_lk rfl) <| .cons (.of_lk rfl) <| .nil) (.cons .here <| .nil)
        · replace h := bf e3 h
          obtain rfl := Option.some.inj h
          exact run_brk () (.cons (.of_lk rfl) <| .cons (.of_lk rfl) <| .cons (.of_lk rfl) <| .cons (.of_lk rfl) <| .cons (.of_lk rfl) <| .cons (.of_lk rfl) <| .cons (.of_lk rfl) <| .nil) (.cons .here <| .nil)
      · rintro _
        show Run _ _ _ [(2, val (yv L)), (3, ptrTo R_lmots_form p_f), (7, u8.slot x1), (8, i64.slot y6), (9, (sl u8).slot p_b), (10, i64.slot (p_b.length : Int)), (11, i64.slot y1)] [E y7]
        refine run_to (Γ' := [(2, val (yv L)), (3, ptrTo R_lmots_form p_f), (9, (sl u8).slot p_b), (10, i64.slot (p_b.length : Int)), (11, i64.slot y1)]) (H' := [E y7]) (.cons (.of_lk rfl) <| .cons (.of_lk rfl) <| .cons (.of_lk rfl) <| .cons (.of_lk rfl) <| .cons (.of_lk rfl) <| .nil) (.cons .here <| .nil) ?_
        refine run_endblock ?_
        refine run_text ?_
        refine j_pure (pj_iadd (has_tmp rfl) has_i64) rfl rfl rfl ?_
        refine j_pure (pj_move (has_tmp rfl)) rfl rfl rfl ?_
        refine j_end ?_
        obtain rfl := Option.some.inj h
        exact run_next () (.cons (.of_lk rfl) <| .cons (.of_lk rfl) <| .cons (.of_lk rfl) <| .cons (.of_lk rfl) <| .cons (.of_lk rfl) <| .nil) (.cons .here <| .nil)
    · replace h := bf e1 h
      obtain rfl := Option.some.inj h
      exact run_brk () (.cons (.of_lk rfl) <| .cons (.of_lk rfl) <| .cons (.of_lk rfl) <| .cons (.of_lk rfl) <| .cons (.of_lk rfl) <| .nil) (.cons .here <| .nil)
  · rintro _
    show Run _ _ _ [(2, val (yv L)), (3, ptrTo R_lmots_form p_f), (9, (sl u8).slot p_b), (10, i64.slot (p_b.length : Int)), (11, i64.slot y8)] [E y9]
    refine run_to (Γ' := []) (H' := [E y9]) (.nil) (.cons .here <| .nil) ?_
    obtain rfl := Option.some.inj h
    exact run_nil fun a w hst => q_retN_n hst rfl (.nil) rfl () (fun _ _ h => h) (.cons .here <| .nil)
set_option maxRecDepth 100000 in
set_option maxHeartbeats 4000000 in
theorem c_lmots_form_sum_1 {G : GP} {Sy : Type} {yl : Sy → Int → Option Sy} {q_0 : T_lmots_form} {q_1 : T_api_Hash} {s0 : Sy} {L : Nat} {rc : Loop} {E : Sy → Ent} {r : Sy} (hY : ∀ s d s', yl s d = some s' → YieldC Tryd.prog G L rc (i64.slot d) (E s) (E s')) (h : lmots_form_sum_1 yl q_0 q_1 s0 = some r) : CtrY Tryd.prog G L rc 81 [val (yv L), ptrTo R_lmots_form q_0, ptrTo R_api_Hash q_1] [E s0] (fun (_ : Unit) => tup []) (fun (_ : Unit) => [E r]) := by
  unfold lmots_form_sum_1 at h
  refine ctrY_of_run Tryd.func81 rfl 8 rfl rfl fun m0 w0 b0 hl hb => ?_
  show Run _ _ _ [(0, val (yv L)), (1, ptrTo R_lmots_form q_0), (2, ptrTo R_api_Hash q_1)] _
  refine run_draw (n := 3) (by kernel_rfl) (by kernel_rfl) (by kernel_rfl) (by kernel_rfl) (.read (.plain rfl (pj_load_to (has_tmp rfl) (by kernel_rfl))) <| .read (.plain rfl (pj_slice_toF (has_tmp rfl) (by decide) (by kernel_rfl))) <| .read (.plain rfl (pj_move (has_tmp rfl))) <| .nil) (j_to (Γ' := [(4, R_lmots_form.slot q_0), (5, (sl u8).slot q_1.toList), (6, val (yv L))]) (H' := [E s0]) (.cons (.of_lk rfl) <| .cons (.of_lk rfl) <| .cons (.of_lk rfl) <| .nil) (.cons .here <| .nil) ?_)
  obtain ⟨y1, e2, h⟩ := bind_some h
  refine j_callY (hasL_cons (has_tmp rfl) <| hasL_cons (has_tmp rfl) <| hasL_cons (has_tmp rfl) <| hasL_nil) (by kernel_rfl) hl hb (c_lmots_form_cut hY e2) rfl ?_
  refine j_end ?_
  obtain rfl := Option.some.inj h
  exact run_nil fun a w hst => q_retN_n hst rfl (.nil) rfl () (fun _ _ h => h) (.cons .here <| .nil)
set_option maxRecDepth 100000 in
set_option maxHeartbeats 4000000 in
theorem c_lmots_form_sum {G : GP} {p_f : T_lmots_form} {p_h : T_api_Hash} {r : (List (BitVec 8))} (h : lmots_form_sum p_f p_h = some r) : Ctr Tryd.prog G 68 [R_lmots_form.slot p_f, R_api_Hash.slot p_h] [] (fun (u0 : Value) => ov u0) (fun (u0 : Value) => [own 5 u8 u0 r]) := by
  unfold lmots_form_sum at h
  refine ctr_of_runM Tryd.func68 rfl 25 rfl rfl fun m0 w0 b0 => ?_
  show Run _ _ _ [(0, R_lmots_form.slot p_f), (1, R_api_Hash.slot p_h)] _
  refine run_seq ?_
  refine run_text ?_
  refine j_pure (pj_box_to (has_tmp rfl)) rfl rfl rfl ?_
  refine j_pure (pj_box_to (has_tmp rfl)) rfl rfl rfl ?_
  refine j_assign_nil (T := 5) u8 rfl fun v1 => ?_
  refine j_end ?_
  refine run_seq ?_
  refine run_text ?_
  refine j_alloc (x := 0) (R := i64) zero_i64 (by kernel_rfl) rfl fun b1 => ?_
  refine j_store_boxx (r' := (0 : Int)) (has_tmp rfl) has_i64 .here (Path.all i64) (by kernel_rfl) rfl ?_
  refine j_end ?_
  refine run_seq ?_
  refine run_seq ?_
  refine run_text ?_
  refine j_pure (pj_makeFunc (hasL_cons (has_tmp rfl) <| hasL_cons (has_tmp rfl) <| hasL_nil)) rfl rfl rfl ?_
  refine j_end ?_
  refine run_block ?_
  refine run_to (Γ' := [(2, ptrTo R_lmots_form p_f), (5, val (.pointer (some ⟨b1, 0, none⟩))), (7, fnS 81 [ptrTo R_lmots_form p_f, ptrTo R_api_Hash p_h])]) (H' := [box b1 3 i64 (0 : Int)]) (.cons (.of_lk rfl) <| .cons (.of_lk rfl) <| .cons (.of_lk rfl) <| .nil) (.cons .here <| .nil) ?_
  obtain ⟨y2, e2, h⟩ := bind_some h
  refine run_rangeFunc (σ := Int) (α := Int) (κ := Unit) (Es := fun (i : Unit) (s : Int) => [box b1 3 i64 s]) (y := (fun (s : Int) (d : Int) => lmots_form_sum_L1 p_f s d)) (sd := fun d => i64.slot d) (Γ1 := fun d => [(2, ptrTo R_lmots_form p_f), (5, val (.pointer (some ⟨b1, 0, none⟩))), (6, i64.slot d)]) () (has_tmp rfl) (by kernel_rfl) rfl (.cons .here <| .nil) (fun l rc G' hG hY => (c_lmots_form_sum_1 (E := fun (s : Int) => packE fun (i : Unit) => [box b1 3 i64 s]) hY e2)) ?_ ?_ ?_
  · clear h e2
    rintro lz mz wz bz _ y1 d s2 h
    show Run _ _ _ ((8, i64.slot d) :: [(2, ptrTo R_lmots_form p_f), (5, val (.pointer (some ⟨b1, 0, none⟩))), (7, fnS 81 [ptrTo R_lmots_form p_f, ptrTo R_api_Hash p_h])]) [box b1 3 i64 y1]
    refine run_text ?_
    refine j_pure (pj_assign (has_tmp rfl)) rfl rfl rfl ?_
    refine j_end ?_
    exact run_nil fun a w hst => ⟨rfl, (hst.sub (.cons (.of_lk rfl) <| .cons (.of_lk rfl) <| .cons (.of_lk rfl) <| .nil)).keep (.cons .here <| .nil)⟩
  · clear h e2
    rintro lz mz wz bz _ y1 d s2 h
    change lmots_form_sum_L1 p_f y1 d = some _ at h
    show Run _ _ _ [(2, ptrTo R_lmots_form p_f), (5, val (.pointer (some ⟨b1, 0, none⟩))), (6, i64.slot d)] [box b1 3 i64 y1]
    unfold lmots_form_sum_L1 at h
    refine run_block ?_
    obtain ⟨r1, e1, h⟩ := bind_some h
    refine run_draw (n := 5) (by kernel_rfl) (by kernel_rfl) (by kernel_rfl) (by kernel_rfl) (.read (.plain rfl (pj_load_box (has_tmp rfl) .here (Path.all i64) (by kernel_rfl))) <| .read (.plain rfl (pj_load_to (has_tmp rfl) (by kernel_rfl))) <| .read (.plain rfl (pj_call (hasL_cons (has_tmp rfl) <| hasL_nil) (by kernel_rfl) (c_lmots_form_most e1))) <| .read (.plain rfl (pj_move (has_tmp rfl))) <| .read (.plain rfl (pj_isub (has_tmp rfl) (has_tmp rfl))) <| .nil) (j_to (Γ' := [(5, val (.pointer (some ⟨b1, 0, none⟩))), (9, i64.slot y1), (13, i64.slot (w64 (r1 - d)))]) (H' := [box b1 3 i64 y1]) (.cons (.of_lk rfl) <| .cons (.of_lk rfl) <| .cons (.of_lk rfl) <| .nil) (.cons .here <| .nil) ?_)
    refine j_pure (pj_iadd (has_tmp rfl) (has_tmp rfl)) rfl rfl rfl ?_
    refine j_store_boxx (r' := w64 (y1 + (w64 (r1 - d)))) (has_tmp rfl) (has_tmp rfl) .here (Path.all i64) (by kernel_rfl) rfl ?_
    refine j_end ?_
    refine run_endblock ?_
    obtain rfl := Option.some.inj h
    exact run_nil fun a w hst => ⟨rfl, (), (hst.sub .nil).keep (.cons .here <| .nil)⟩
  · rintro _
    show Run _ _ _ [(2, ptrTo R_lmots_form p_f), (5, val (.pointer (some ⟨b1, 0, none⟩))), (7, fnS 81 [ptrTo R_lmots_form p_f, ptrTo R_api_Hash p_h])] [box b1 3 i64 y2]
    refine run_to (Γ' := [(2, ptrTo R_lmots_form p_f), (5, val (.pointer (some ⟨b1, 0, none⟩)))]) (H' := [box b1 3 i64 y2]) (.cons (.of_lk rfl) <| .cons (.of_lk rfl) <| .nil) (.cons .here <| .nil) ?_
    refine run_endblock ?_
    refine run_seq ?_
    refine run_text ?_
    refine j_pure (pj_load_box (has_tmp rfl) .here (Path.all i64) (by kernel_rfl)) rfl rfl rfl ?_
    refine j_pure (pj_field_to (has_tmp rfl) (Path.then (Path.snd i64 (prod i64 i64)) (Path.snd i64 i64)) (by kernel_rfl)) rfl rfl rfl ?_
    refine j_pure (pj_load_to (has_tmp rfl) (by kernel_rfl)) rfl rfl rfl ?_
    obtain ⟨e3, h⟩ := grd_some h
    refine j_pure (pj_ishl (has_tmp rfl) (has_tmp rfl) isInt_i64 e3) rfl rfl rfl ?_
    refine j_store_boxx (r' := ishl y2 p_f.2.2) (has_tmp rfl) (has_tmp rfl) .here (Path.all i64) (by kernel_rfl) rfl ?_
    refine j_end ?_
    refine run_seq ?_
    refine run_text ?_
    refine j_pure (pj_load_box (has_tmp rfl) .here (Path.all i64) (by kernel_rfl)) rfl rfl rfl ?_
    refine j_pure (pj_ishr (has_tmp rfl) (has_un (x := 8#64) rfl) isInt_un (Int.natCast_nonneg _)) rfl rfl rfl ?_
    refine j_pure (pj_conv_un (k := .u8) (b := 8) rfl rfl (by kernel_rfl) (has_tmp rfl) isInt_i64) rfl rfl rfl ?_
    refine j_pure (pj_load_box (has_tmp rfl) .here (Path.all i64) (by kernel_rfl)) rfl rfl rfl ?_
    refine j_pure (pj_conv_un (k := .u8) (b := 8) rfl rfl (by kernel_rfl) (has_tmp rfl) isInt_i64) rfl rfl rfl ?_
    refine j_buildSlice (T := 5) (R := u8) (.cons (has_tmp rfl) (.cons (has_tmp rfl) .nil)) rfl (by kernel_rfl) (by kernel_rfl) rfl fun v2 => ?_
    refine j_pure (pj_assign (has_tmp rfl)) rfl rfl rfl ?_
    refine j_end ?_
    obtain rfl := Option.some.inj h
    exact run_ret fun a w hst => q_ret1M hst rfl (.tmp rfl) v2 (fun _ _ h => h) (.cons .here <| .nil)
set_option maxRecDepth 100000 in
set_option maxHeartbeats 4000000 in
theorem c_lmots_form_digits_1 {G : GP} {Sy : Type} {yl : Sy → Int → Option Sy} {q_0 : T_lmots_form} {q_1 : List (BitVec 8)} {s0 : Sy} {L : Nat} {rc : Loop} {E : Sy → Ent} {r : Sy} (hY : ∀ s d s', yl s d = some s' → YieldC Tryd.prog G L rc (i64.slot d) (E s) (E s')) (h : lmots_form_digits_1 yl q_0 q_1 s0 = some r) : CtrY Tryd.prog G L rc 69 [val (yv L), ptrTo R_lmots_form q_0, ptrTo (sl u8) q_1] [E s0] (fun (_ : Unit) => tup []) (fun (_ : Unit) => [E r]) := by
  unfold lmots_form_digits_1 at h
  refine ctrY_of_run Tryd.func69 rfl 8 rfl rfl fun m0 w0 b0 hl hb => ?_
  show Run _ _ _ [(0, val (yv L)), (1, ptrTo R_lmots_form q_0), (2, ptrTo (sl u8) q_1)] _
  refine run_text ?_
  refine j_pure (pj_load_to (has_tmp rfl) (by kernel_rfl)) rfl rfl rfl ?_
  refine j_pure (pj_load_to (has_tmp rfl) (by kernel_rfl)) rfl rfl rfl ?_
  refine j_pure (pj_move (has_tmp rfl)) rfl rfl rfl ?_
  obtain ⟨y1, e2, h⟩ := bind_some h
  refine j_callY (hasL_cons (has_tmp rfl) <| hasL_cons (has_tmp rfl) <| hasL_cons (has_tmp rfl) <| hasL_nil) (by kernel_rfl) hl hb (c_lmots_form_cut hY e2) rfl ?_
  refine j_end ?_
  obtain rfl := Option.some.inj h
  exact run_nil fun a w hst => q_retN_n hst rfl (.nil) rfl () (fun _ _ h => h) (.cons .here <| .nil)
set_option maxRecDepth 100000 in
set_option maxHeartbeats 4000000 in
theorem c_lmots_form_digits {G : GP} {p_f : T_lmots_form} {p_h : T_api_Hash} {r : (List Int)} (h : lmots_form_digits p_f p_h = some r) : Ctr Tryd.prog G 43 [R_lmots_form.slot p_f, R_api_Hash.slot p_h] [] (fun (u0 : Value) => ov u0) (fun (u0 : Value) => [own 3 i64 u0 r]) := by
  unfold lmots_form_digits at h
  refine ctr_of_runM Tryd.func43 rfl 28 rfl rfl fun m0 w0 b0 => ?_
  show Run _ _ _ [(0, R_lmots_form.slot p_f), (1, R_api_Hash.slot p_h)] _
  refine run_seq ?_
  refine run_text ?_
  refine j_pure (pj_box_to (has_tmp rfl)) rfl rfl rfl ?_
  refine j_box (has_tmp rfl) rfl fun b1 => ?_
  refine j_assign_nil (T := 3) i64 rfl fun v1 => ?_
  refine j_end ?_
  refine run_seq ?_
  refine run_text ?_
  refine j_pure (pj_field_to (has_tmp rfl) (Path.then (Path.snd i64 (prod i64 i64)) (Path.fst i64 i64)) (by kernel_rfl)) rfl rfl rfl ?_
  refine j_pure (pj_load_to (has_tmp rfl) (by kernel_rfl)) rfl rfl rfl ?_
  obtain ⟨e1, h⟩ := grd_some h
  refine j_makeSlice (T := 3) (R := i64) (z := 0) has_i64 (has_tmp rfl) (by decide) e1.1 e1.2 (by kernel_rfl) zero_i64 (by kernel_rfl) rfl fun v2 => ?_
  refine j_alloc (x := ([] : List Int)) (R := (sl i64)) zero_sl (by kernel_rfl) rfl fun b2 => ?_
  refine j_store_ow (has_tmp rfl) (has_tmp rfl) .here (by kernel_rfl) (by kernel_rfl) ?_
  refine j_end ?_
  refine run_seq ?_
  obtain ⟨r1, e2, h⟩ := bind_some h
  obtain ⟨e3, h⟩ := grd_some h
  refine run_keep (H' := [box b2 27 (exv v2) (), own 3 i64 v2 ([] : List Int), own 3 i64 v1 ([] : List Int), box b1 23 R_api_Hash p_h]) (.cons .here <| .cons .here <| .cons .here <| .cons .here <| .nil) ?_
  refine run_drawL (n := 6) (H := [box b2 27 (exv v2) (), own 3 i64 v2 ([] : List Int), own 3 i64 v1 ([] : List Int), box b1 23 R_api_Hash p_h]) (Ls := [⟨[], [(4, ⟨Value, fun (v3 : Value) => [own 5 u8 v3 (p_h.toList ++ r1)], fun (v3 : Value) => [(15, ov v3)]⟩)]⟩, ⟨[], [(5, ⟨Nat, fun (b3 : Nat) => [box b3 31 (sl u8) ([] : List (BitVec 8))], fun (b3 : Nat) => [(6, val (.pointer (some ⟨b3, 0, none⟩)))]⟩)]⟩]) (by kernel_rfl) (by kernel_rfl) (by kernel_rfl) (by kernel_rfl) (by kernel_rfl) rfl (.read rfl (.plain rfl (pj_slice_arrc (lo := 0) (sz := 1) (n := 32) (has_tmp rfl) .no .no 32 32 rfl (by kernel_rfl))) <| .read rfl (.plain rfl (pj_load_to (has_tmp rfl) (by kernel_rfl))) <| .read rfl (.plain rfl (pj_load_box (has_tmp rfl) (.next (.next (.next .here))) (Path.all R_api_Hash) (by kernel_rfl))) <| .read rfl (.plain rfl (pj_call (hasL_cons (has_tmp rfl) <| hasL_cons (has_tmp rfl) <| hasL_nil) (by kernel_rfl) (Ctr.froze (c_lmots_form_sum e2)))) <| .step 0 rfl .here (.inl rfl) (fun i => ⟨_, _, fun j => j, (w_appendF (T := 5) (E := 5) (has_tmp rfl) (src_arrF (has_tmp rfl) (.next (.next (.next .here)))) (src_data (has_tmp rfl)) (by kernel_rfl) (by kernel_rfl) e3 rfl), fun _ => rfl, slotAny, dst1⟩) <| .step 1 rfl .here (.inl rfl) (fun i => ⟨_, _, fun j => j, (w_alloc (x := ([] : List (BitVec 8))) (R := (sl u8)) zero_sl (by kernel_rfl) rfl), fun _ => rfl, slotAny, dst1⟩) <| .nil) ?_
  rintro v3 b3
  refine j_to (Γ' := [(2, ptrTo R_lmots_form p_f), (5, val (.pointer (some ⟨b2, 0, none⟩))), (6, val (.pointer (some ⟨b3, 0, none⟩))), (15, ov v3)]) (H' := [own 5 u8 v3 (p_h.toList ++ r1), box b3 31 (sl u8) ([] : List (BitVec 8)), box b2 27 (exv v2) (), own 3 i64 v2 ([] : List Int)]) (.cons (.of_lk rfl) <| .cons (.of_lk rfl) <| .cons (.of_lk rfl) <| .cons (.of_lk rfl) <| .nil) (.cons .here <| .cons .here <| .cons .here <| .cons .here <| .nil) ?_
  refine j_freeze [15] .here (frz_cons (.of_lk rfl) <| frz_nil) ?_
  refine j_store_boxx (r' := (p_h.toList ++ r1)) (has_tmp rfl) (has_tmp rfl) .here (Path.all (sl u8)) (by kernel_rfl) rfl ?_
  refine j_freezeTo (t := 6) .here (.of_lk rfl) ?_
  refine j_end ?_
  refine run_seq ?_
  refine run_seq ?_
  refine run_text ?_
  refine j_pure (pj_makeFunc (hasL_cons (has_tmp rfl) <| hasL_cons (has_tmp rfl) <| hasL_nil)) rfl rfl rfl ?_
  refine j_end ?_
  refine run_block ?_
  refine run_to (Γ' := [(2, ptrTo R_lmots_form p_f), (5, val (.pointer (some ⟨b2, 0, none⟩))), (16, fnS 69 [ptrTo R_lmots_form p_f, ptrTo (sl u8) (p_h.toList ++ r1)])]) (H' := [box b2 27 (exv v2) (), own 3 i64 v2 ([] : List Int)]) (.cons (.of_lk rfl) <| .cons (.of_lk rfl) <| .cons (.of_lk rfl) <| .nil) (.cons .here <| .cons .here <| .nil) ?_
  obtain ⟨y2, e6, h⟩ := bind_some h
  refine run_rangeFunc (σ := (List Int)) (α := Int) (κ := Value) (Es := fun (i : Value) (s : (List Int)) => [box b2 27 (exv i) (), own 3 i64 i s]) (y := (fun (s : (List Int)) (d : Int) => lmots_form_digits_L1 p_f s d)) (sd := fun d => i64.slot d) (Γ1 := fun d => [(2, ptrTo R_lmots_form p_f), (5, val (.pointer (some ⟨b2, 0, none⟩))), (7, i64.slot d)]) v2 (has_tmp rfl) (by kernel_rfl) rfl (.cons .here <| .cons .here <| .nil) (fun l rc G' hG hY => (c_lmots_form_digits_1 (E := fun (s : (List Int)) => packE fun (i : Value) => [box b2 27 (exv i) (), own 3 i64 i s]) hY e6)) ?_ ?_ ?_
  · clear h e6
    rintro lz mz wz bz v4 y1 d s2 h
    show Run _ _ _ ((17, i64.slot d) :: [(2, ptrTo R_lmots_form p_f), (5, val (.pointer (some ⟨b2, 0, none⟩))), (16, fnS 69 [ptrTo R_lmots_form p_f, ptrTo (sl u8) (p_h.toList ++ r1)])]) [box b2 27 (exv v4) (), own 3 i64 v4 y1]
    refine run_text ?_
    refine j_pure (pj_assign (has_tmp rfl)) rfl rfl rfl ?_
    refine j_end ?_
    exact run_nil fun a w hst => ⟨rfl, (hst.sub (.cons (.of_lk rfl) <| .cons (.of_lk rfl) <| .cons (.of_lk rfl) <| .nil)).keep (.cons .here <| .cons .here <| .nil)⟩
  · clear h e6
    rintro lz mz wz bz v4 y1 d s2 h
    change lmots_form_digits_L1 p_f y1 d = some _ at h
    show Run _ _ _ [(2, ptrTo R_lmots_form p_f), (5, val (.pointer (some ⟨b2, 0, none⟩))), (7, i64.slot d)] [box b2 27 (exv v4) (), own 3 i64 v4 y1]
    unfold lmots_form_digits_L1 at h
    refine run_block ?_
    refine run_seq ?_
    refine run_text ?_
    refine j_pure (pj_load_box (has_tmp rfl) .here (Path.all (exv v4)) (by kernel_rfl)) rfl rfl rfl ?_
    refine j_pure (pj_len_own (sz := 1) (has_tmp rfl) (.next .here) (by kernel_rfl)) rfl rfl rfl ?_
    refine j_pure (pj_field_to (has_tmp rfl) (Path.then (Path.snd i64 (prod i64 i64)) (Path.fst i64 i64)) (by kernel_rfl)) rfl rfl rfl ?_
    refine j_pure (pj_load_to (has_tmp rfl) (by kernel_rfl)) rfl rfl rfl ?_
    refine j_pure (pj_ilss (has_tmp rfl) (has_tmp rfl)) rfl rfl rfl ?_
    refine j_end ?_
    refine run_cond (has_tmp rfl) (fun e4 => ?_) (fun e4 => ?_)
    · replace h := bt e4 h
      refine run_text ?_
      refine j_pure (pj_load_box (has_tmp rfl) .here (Path.all (exv v4)) (by kernel_rfl)) rfl rfl rfl ?_
      refine j_pure (pj_move (has_tmp rfl)) rfl rfl rfl ?_
      refine j_pure (pj_buildSlice (T := 3) (R := i64) (.cons (has_tmp rfl) .nil) rfl (by kernel_rfl) (by kernel_rfl)) rfl rfl rfl ?_
      obtain ⟨e5, h⟩ := grd_some h
      refine j_append (T := 3) (E := 3) (has_tmp rfl) (.next .here) (src_data (has_tmp rfl)) (by kernel_rfl) (by kernel_rfl) e5 rfl fun v5 => ?_
      refine j_store_ow (has_tmp rfl) (has_tmp rfl) (.next .here) (by kernel_rfl) (by kernel_rfl) ?_
      refine j_end ?_
      refine run_endblock ?_
      obtain rfl := Option.some.inj h
      exact run_nil fun a w hst => ⟨rfl, v5, (hst.sub .nil).keep (.cons .here <| .cons .here <| .nil)⟩
    · replace h := bf e4 h
      refine run_skip ?_
      refine run_endblock ?_
      obtain rfl := Option.some.inj h
      exact run_nil fun a w hst => ⟨rfl, v4, (hst.sub .nil).keep (.cons .here <| .cons .here <| .nil)⟩
  · rintro v6
    show Run _ _ _ [(2, ptrTo R_lmots_form p_f), (5, val (.pointer (some ⟨b2, 0, none⟩))), (16, fnS 69 [ptrTo R_lmots_form p_f, ptrTo (sl u8) (p_h.toList ++ r1)])] [box b2 27 (exv v6) (), own 3 i64 v6 y2]
    refine run_to (Γ' := [(5, val (.pointer (some ⟨b2, 0, none⟩)))]) (H' := [box b2 27 (exv v6) (), own 3 i64 v6 y2]) (.cons (.of_lk rfl) <| .nil) (.cons .here <| .cons .here <| .nil) ?_
    refine run_endblock ?_
    refine run_seq ?_
    refine run_text ?_
    refine j_pure (pj_load_box (has_tmp rfl) .here (Path.all (exv v6)) (by kernel_rfl)) rfl rfl rfl ?_
    refine j_pure (pj_assign (has_tmp rfl)) rfl rfl rfl ?_
    refine j_end ?_
    obtain rfl := Option.some.inj h
    exact run_ret fun a w hst => q_ret1M hst rfl (.tmp rfl) v6 (fun _ _ h => h) (.cons (.next .here) <| .nil)
set_option maxRecDepth 100000 in
set_option maxHeartbeats 4000000 in
theorem c_lmots_Digits {G : GP} (hg1 : HG1 G) {p_kind : Int} {p_h : T_api_Hash} {r : (List Int)} (h : lmots_Digits p_kind p_h = some r) : Ctr Tryd.prog G 21 [i64.slot p_kind, R_api_Hash.slot p_h] [] (fun (u0 : Value) => ov u0) (fun (u0 : Value) => [own 3 i64 u0 r]) := by
  unfold lmots_Digits at h
  refine ctr_of_run Tryd.func21 rfl 17 rfl rfl fun m0 w0 b0 => ?_
  show Run _ _ _ [(0, i64.slot p_kind), (1, R_api_Hash.slot p_h)] _
  refine run_seq ?_
  refine run_text ?_
  refine j_pure (pj_box_to (has_tmp rfl)) rfl rfl rfl ?_
  refine j_assign_nil (T := 3) i64 rfl fun v1 => ?_
  refine j_end ?_
  refine run_seq ?_
  refine run_text ?_
  refine j_pure (pj_move (has_tmp rfl)) rfl rfl rfl ?_
  obtain ⟨r1, e1, h⟩ := bind_some h
  refine j_pure (pj_call (hasL_cons (has_tmp rfl) <| hasL_nil) (by kernel_rfl) (c_lmots_of hg1 e1)) rfl rfl rfl ?_
  refine j_pure (pj_move (has_tmp rfl)) rfl rfl rfl ?_
  refine j_pure (pj_extract (has_tmp rfl) rfl) rfl rfl rfl ?_
  refine j_pure (pj_extract (has_tmp rfl) rfl) rfl rfl rfl ?_
  refine j_alloc (x := (0, 0, 0)) (R := R_lmots_form) (zero_prod zero_i64 (zero_prod zero_i64 zero_i64)) (by kernel_rfl) rfl fun b1 => ?_
  refine j_store_boxx (r' := r1.1) (has_tmp rfl) (has_tmp rfl) .here (Path.all R_lmots_form) (by kernel_rfl) rfl ?_
  refine j_freezeTo (t := 5) .here (.of_lk rfl) ?_
  refine j_pure (pj_assign (has_tmp rfl)) rfl rfl rfl ?_
  refine j_end ?_
  refine run_seq ?_
  refine run_seq ?_
  refine run_text ?_
  refine j_pure (pj_move (has_tmp rfl)) rfl rfl rfl ?_
  refine j_pure (pj_not (has_tmp rfl)) rfl rfl rfl ?_
  refine j_end ?_
  refine run_cond (has_tmp rfl) (fun e2 => ?_) (fun e2 => ?_)
  · replace h := bt e2 h
    refine run_seq ?_
    refine run_text ?_
    refine j_assign_nil (T := 3) i64 rfl fun v2 => ?_
    refine j_end ?_
    obtain rfl := Option.some.inj h
    exact run_ret fun a w hst => q_ret1 hst rfl (.tmp rfl) v2 (fun _ _ h => h) (.cons .here <| .nil)
  · replace h := bf e2 h
    refine run_skip ?_
    refine run_seq ?_
    refine run_text ?_
    refine j_pure (pj_load_to (has_tmp rfl) (by kernel_rfl)) rfl rfl rfl ?_
    refine j_pure (pj_load_to (has_tmp rfl) (by kernel_rfl)) rfl rfl rfl ?_
    obtain ⟨r2, e3, h⟩ := bind_some h
    refine j_call (hasL_cons (has_tmp rfl) <| hasL_cons (has_tmp rfl) <| hasL_nil) (by kernel_rfl) (c_lmots_form_digits e3) .nil rfl fun v3 => ?_
    refine j_pure (pj_assign (has_tmp rfl)) rfl rfl rfl ?_
    refine j_end ?_
    obtain rfl := Option.some.inj h
    exact run_ret fun a w hst => q_ret1 hst rfl (.tmp rfl) v3 (fun _ _ h => h) (.cons .here <| .nil)
set_option maxRecDepth 100000 in
set_option maxHeartbeats 4000000 in
theorem c_rolodexlaw04_awake {G : GP} (hg1 : HG1 G) {r : Bool} (h : rolodexlaw04_awake = some r) : Ctr Tryd.prog G 15 [] [] (fun (_ : Unit) => bl.slot r) (fun (_ : Unit) => []) := by
  unfold rolodexlaw04_awake at h
  refine ctr_of_run Tryd.func15 rfl 13 rfl rfl fun m0 w0 b0 => ?_
  show Run _ _ _ [] _
  refine run_seq ?_
  refine run_text ?_
  refine j_pure (pj_assign has_bl) rfl rfl rfl ?_
  refine j_end ?_
  refine run_seq ?_
  refine run_text ?_
  obtain ⟨r1, e1, h⟩ := bind_some h
  refine j_pure (pj_call (hasL_cons has_i64 <| hasL_nil) (by kernel_rfl) (c_lmots_Chains hg1 e1)) rfl rfl rfl ?_
  refine j_pure (pj_ieql (has_tmp rfl) has_i64) rfl rfl rfl ?_
  refine j_pure (pj_move (has_tmp rfl)) rfl rfl rfl ?_
  obtain ⟨y1, e3, h⟩ := bind_some h
  refine j_joinx (ι := Unit) (Γ' := fun _ => [(6, bl.slot y1)]) (H' := fun _ => []) 3 ?_ fun J => ?_
  · intro _
    clear e3
    show OpsJ _ _ _ [(6, bl.slot y1)] [] _
    refine j_pure (pj_move (has_tmp rfl)) rfl rfl rfl ?_
    obtain ⟨y2, e6, h⟩ := bind_some h
    refine j_joinx (ι := Unit) (Γ' := fun _ => [(12, bl.slot y2)]) (H' := fun _ => []) 5 ?_ fun J => ?_
    · intro _
      clear e6
      show OpsJ _ _ _ [(12, bl.slot y2)] [] _
      refine j_pure (pj_assign (has_tmp rfl)) rfl rfl rfl ?_
      refine j_end ?_
      obtain rfl := Option.some.inj h
      exact run_ret fun a w hst => q_ret1 hst rfl (.tmp rfl) () (fun _ _ h => h) (.nil)
    · rcases bool_tf (y1) with e5 | e5
      · replace e6 := bt e5 e6
        refine j_pure_y (pj_build (R := R_api_Hash) (zero_vec 32 zero_un) (by kernel_rfl) (by kernel_rfl) rfl .nil) rfl rfl rfl rfl (bl_isx e5) rfl rfl ?_
        obtain ⟨r3, e7, e6⟩ := bind_some e6
        refine j_pure_y (pj_call (hasL_cons has_i64 <| hasL_cons (has_tmp rfl) <| hasL_nil) (by kernel_rfl) (Ctr.froze (c_lmots_Digits hg1 e7))) rfl rfl rfl rfl (bl_isx e5) rfl rfl ?_
        refine j_pure_y (pj_len_sl (sz := 1) (has_tmp rfl) (by kernel_rfl)) rfl rfl rfl rfl (bl_isx e5) rfl rfl ?_
        refine j_pure_y (pj_ieql (has_tmp rfl) has_i64) rfl rfl rfl rfl (bl_isx e5) rfl rfl ?_
        refine j_pure (PJ.eqv (R := bl) (pj_pick (t := any) (has_tmp rfl) (fun _ => (has_tmp rfl)) (fun he => absurd (e5.symm.trans he) (by decide))) (Option.some.inj e6)) rfl rfl rfl ?_
        exact j_to (.cons (.of_lk rfl) <| .nil) (.nil) (J ())
      · replace e6 := bf e5 e6
        refine j_guard_no2 (j := 6) (want := true) rfl rfl rfl rfl (bl_isx e5) rfl rfl rfl ?_
        refine j_guard_no2 (j := 6) (want := true) rfl rfl rfl rfl (bl_isx e5) rfl rfl rfl ?_
        refine j_guard_no2 (j := 6) (want := true) rfl rfl rfl rfl (bl_isx e5) rfl rfl rfl ?_
        refine j_guard_no2 (j := 6) (want := true) rfl rfl rfl rfl (bl_isx e5) rfl rfl rfl ?_
        refine j_pure (PJ.eqv (R := bl) (pj_pick (t := any) (has_tmp rfl) (fun he => absurd (e5.symm.trans he) (by decide)) (fun _ => has_bl)) (Option.some.inj e6)) rfl rfl rfl ?_
        exact j_to (.cons (.of_lk rfl) <| .nil) (.nil) (J ())
  · rcases bool_tf (decide (r1 = (67 : Int))) with e2 | e2
    · replace e3 := bt e2 e3
      obtain ⟨r2, e4, e3⟩ := bind_some e3
      refine j_pure_y (pj_call (hasL_cons has_i64 <| hasL_nil) (by kernel_rfl) (c_lmots_Size hg1 e4)) rfl rfl rfl rfl (bl_isx e2) rfl rfl ?_
      refine j_pure_y (pj_ieql (has_tmp rfl) has_i64) rfl rfl rfl rfl (bl_isx e2) rfl rfl ?_
      refine j_pure (PJ.eqv (R := bl) (pj_pick (t := any) (has_tmp rfl) (fun _ => (has_tmp rfl)) (fun he => absurd (e2.symm.trans he) (by decide))) (Option.some.inj e3)) rfl rfl rfl ?_
      exact j_to (.cons (.of_lk rfl) <| .nil) (.nil) (J ())
    · replace e3 := bf e2 e3
      refine j_guard_no2 (j := 2) (want := true) rfl rfl rfl rfl (bl_isx e2) rfl rfl rfl ?_
      refine j_guard_no2 (j := 2) (want := true) rfl rfl rfl rfl (bl_isx e2) rfl rfl rfl ?_
      refine j_pure (PJ.eqv (R := bl) (pj_pick (t := any) (has_tmp rfl) (fun he => absurd (e2.symm.trans he) (by decide)) (fun _ => has_bl)) (Option.some.inj e3)) rfl rfl rfl ?_
      exact j_to (.cons (.of_lk rfl) <| .nil) (.nil) (J ())
set_option maxRecDepth 100000 in
set_option maxHeartbeats 4000000 in
theorem c_rolodexlaw04_LmotsLess {G : GP} (hg1 : HG1 G) {p_kind : BitVec 8} {p_a : T_api_Hash} {p_b : T_api_Hash} {r : Bool} (h : rolodexlaw04_LmotsLess p_kind p_a p_b = some r) : Ctr Tryd.prog G 4 [u8.slot p_kind, R_api_Hash.slot p_a, R_api_Hash.slot p_b] [] (fun (_ : Unit) => bl.slot r) (fun (_ : Unit) => []) := by
  unfold rolodexlaw04_LmotsLess at h
  refine ctr_of_run Tryd.func4 rfl 81 rfl rfl fun m0 w0 b0 => ?_
  show Run _ _ _ [(0, u8.slot p_kind), (1, R_api_Hash.slot p_a), (2, R_api_Hash.slot p_b)] _
  refine run_seq ?_
  refine run_text ?_
  refine j_pure (pj_box_to (has_tmp rfl)) rfl rfl rfl ?_
  refine j_pure (pj_box_to (has_tmp rfl)) rfl rfl rfl ?_
  refine j_pure (pj_assign has_bl) rfl rfl rfl ?_
  refine j_end ?_
  refine run_seq ?_
  refine run_text ?_
  refine j_pure (pj_move (has_tmp rfl)) rfl rfl rfl ?_
  refine j_pure (pj_urem (k := .u8) (b := 8) (has_tmp rfl) (has_un (x := 4#8) rfl) (by decide)) rfl rfl rfl ?_
  refine j_pure (pj_conv_ui (by decide) (by kernel_rfl) (has_tmp rfl)) rfl rfl rfl ?_
  refine j_pure (pj_iadd has_i64 (has_tmp rfl)) rfl rfl rfl ?_
  obtain ⟨x1, e1, h⟩ := bind_some h
  refine j_pure (PJ.eqv (pj_assign (has_tmp rfl)) (Option.some.inj e1)) rfl rfl rfl ?_
  refine j_end ?_
  refine run_seq ?_
  obtain ⟨r1, e2, h⟩ := bind_some h
  refine run_draw (n := 5) (by kernel_rfl) (by kernel_rfl) (by kernel_rfl) (by kernel_rfl) (.read (.plain rfl (pj_move (has_tmp rfl))) <| .read (.plain rfl (pj_load_to (has_tmp rfl) (by kernel_rfl))) <| .read (.plain rfl (pj_call (hasL_cons (has_tmp rfl) <| hasL_cons (has_tmp rfl) <| hasL_nil) (by kernel_rfl) (Ctr.froze (c_lmots_Digits hg1 e2)))) <| .read (.plain rfl (pj_move (has_tmp rfl))) <| .read (.plain rfl (pj_load_to (has_tmp rfl) (by kernel_rfl))) <| .nil) (j_to (Γ' := [(4, ptrTo R_api_Hash p_a), (5, ptrTo R_api_Hash p_b), (19, (sl i64).slot r1), (20, i64.slot x1), (21, R_api_Hash.slot p_b)]) (H' := []) (.cons (.of_lk rfl) <| .cons (.of_lk rfl) <| .cons (.of_lk rfl) <| .cons (.of_lk rfl) <| .cons (.of_lk rfl) <| .nil) (.nil) ?_)
  obtain ⟨r2, e3, h⟩ := bind_some h
  refine j_pure (pj_call (hasL_cons (has_tmp rfl) <| hasL_cons (has_tmp rfl) <| hasL_nil) (by kernel_rfl) (Ctr.froze (c_lmots_Digits hg1 e3))) rfl rfl rfl ?_
  refine j_pure (pj_assign (has_tmp rfl)) rfl rfl rfl ?_
  refine j_pure (pj_assign (has_tmp rfl)) rfl rfl rfl ?_
  refine j_end ?_
  refine run_seq ?_
  refine run_text ?_
  refine j_pure (pj_assign has_bl) rfl rfl rfl ?_
  refine j_pure (pj_assign has_bl) rfl rfl rfl ?_
  refine j_end ?_
  refine run_seq ?_
  refine run_seq ?_
  refine run_text ?_
  refine j_pure (pj_assign has_i64) rfl rfl rfl ?_
  refine j_end ?_
  obtain ⟨⟨y7, y8, y9⟩, e15, h⟩ := bind_some h
  refine run_loopS (Γi := fun (i : Unit) (s : Bool × Bool × Int) => [(4, ptrTo R_api_Hash p_a), (5, ptrTo R_api_Hash p_b), (8, (sl i64).slot r1), (9, (sl i64).slot r2), (10, bl.slot s.1), (11, bl.slot s.2.1), (12, i64.slot s.2.2)]) (Hi := fun (i : Unit) (s : Bool × Bool × Int) => []) e15 () (fun a w hst => (hst.sub (.cons (.of_lk rfl) <| .cons (.of_lk rfl) <| .cons (.of_lk rfl) <| .cons (.of_lk rfl) <| .cons (.of_lk rfl) <| .cons (.of_lk rfl) <| .cons (.of_lk rfl) <| .nil)).keep (.nil)) ?_ ?_
  · clear h e15
    rintro _ ⟨y1, y2, y3⟩ lr h
    change rolodexlaw04_LmotsLess_L1 r1 r2 y1 y2 y3 = some _ at h
    show Run _ _ _ [(4, ptrTo R_api_Hash p_a), (5, ptrTo R_api_Hash p_b), (8, (sl i64).slot r1), (9, (sl i64).slot r2), (10, bl.slot y1), (11, bl.slot y2), (12, i64.slot y3)] []
    unfold rolodexlaw04_LmotsLess_L1 at h
    refine run_seq ?_
    refine run_seq ?_
    refine run_text ?_
    refine j_pure (pj_move (has_tmp rfl)) rfl rfl rfl ?_
    refine j_pure (pj_move (has_tmp rfl)) rfl rfl rfl ?_
    refine j_pure (pj_len_sl (sz := 1) (has_tmp rfl) (by kernel_rfl)) rfl rfl rfl ?_
    refine j_pure (pj_ilss (has_tmp rfl) (has_tmp rfl)) rfl rfl rfl ?_
    refine j_pure (pj_move (has_tmp rfl)) rfl rfl rfl ?_
    obtain ⟨y4, e5, h⟩ := bind_some h
    refine j_joinx (ι := Unit) (Γ' := fun _ => [(4, ptrTo R_api_Hash p_a), (5, ptrTo R_api_Hash p_b), (8, (sl i64).slot r1), (9, (sl i64).slot r2), (10, bl.slot y1), (11, bl.slot y2), (12, i64.slot y3), (32, bl.slot y4)]) (H' := fun _ => []) 5 ?_ fun J => ?_
    · intro _
      clear e5
      show OpsJ _ _ _ [(4, ptrTo R_api_Hash p_a), (5, ptrTo R_api_Hash p_b), (8, (sl i64).slot r1), (9, (sl i64).slot r2), (10, bl.slot y1), (11, bl.slot y2), (12, i64.slot y3), (32, bl.slot y4)] [] _
      refine j_end ?_
      refine run_cond (has_tmp rfl) (fun e6 => ?_) (fun e6 => ?_)
      · replace h := bt e6 h
        refine run_skip ?_
        refine run_seq ?_
        refine run_block ?_
        refine run_seq ?_
        obtain ⟨y5, e8, h⟩ := bind_some h
        refine (run_drawJ (n := 12) (Γ' := [(4, ptrTo R_api_Hash p_a), (5, ptrTo R_api_Hash p_b), (8, (sl i64).slot r1), (9, (sl i64).slot r2), (11, bl.slot y2), (12, i64.slot y3), (46, bl.slot y5)]) (H' := []) ?_ fun J => ?_)
        · clear e8
          refine j_pure (pj_assign (has_tmp rfl)) rfl rfl rfl ?_
          refine j_end ?_
          obtain ⟨y6, e12, h⟩ := bind_some h
          refine (run_drawJ (n := 12) (Γ' := [(4, ptrTo R_api_Hash p_a), (5, ptrTo R_api_Hash p_b), (8, (sl i64).slot r1), (9, (sl i64).slot r2), (10, bl.slot y5), (12, i64.slot y3), (58, bl.slot y6)]) (H' := []) ?_ fun J => ?_)
          · clear e12
            refine j_pure (pj_assign (has_tmp rfl)) rfl rfl rfl ?_
            refine j_end ?_
            refine run_endblock ?_
            refine run_text ?_
            refine j_pure (pj_move (has_tmp rfl)) rfl rfl rfl ?_
            refine j_pure (pj_iadd (has_tmp rfl) has_i64) rfl rfl rfl ?_
            refine j_pure (pj_assign (has_tmp rfl)) rfl rfl rfl ?_
            refine j_end ?_
            obtain rfl := Option.some.inj h
            exact run_next () (.cons (.of_lk rfl) <| .cons (.of_lk rfl) <| .cons (.of_lk rfl) <| .cons (.of_lk rfl) <| .cons (.of_lk rfl) <| .cons (.of_lk rfl) <| .cons (.of_lk rfl) <| .nil) (.nil)
          · rcases bool_tf (y2) with e11 | e11
            · replace e12 := bt e11 e12
              exact run_draw (n := 12) (by kernel_rfl) (by kernel_rfl) (by kernel_rfl) (by kernel_rfl) (.read (.plain rfl (pj_move (has_tmp rfl))) <| .read (.plain rfl (pj_move (has_tmp rfl))) <| .read (.no ⟨1, false, _, 48, _, rfl, rfl, rfl, fun _ _ => bl_p.1, gd_no e11⟩) <| .read (.no ⟨1, false, _, 48, _, rfl, rfl, rfl, fun _ _ => bl_p.1, gd_no e11⟩) <| .read (.no ⟨1, false, _, 48, _, rfl, rfl, rfl, fun _ _ => bl_p.1, gd_no e11⟩) <| .read (.no ⟨1, false, _, 48, _, rfl, rfl, rfl, fun _ _ => bl_p.1, gd_no e11⟩) <| .read (.no ⟨1, false, _, 48, _, rfl, rfl, rfl, fun _ _ => bl_p.1, gd_no e11⟩) <| .read (.no ⟨1, false, _, 48, _, rfl, rfl, rfl, fun _ _ => bl_p.1, gd_no e11⟩) <| .read (.no ⟨1, false, _, 48, _, rfl, rfl, rfl, fun _ _ => bl_p.1, gd_no e11⟩) <| .read (.no ⟨1, false, _, 48, _, rfl, rfl, rfl, fun _ _ => bl_p.1, gd_no e11⟩) <| .read (.no ⟨1, false, _, 48, _, rfl, rfl, rfl, fun _ _ => bl_p.1, gd_no e11⟩) <| .read (.plain rfl (PJ.eqv (R := bl) (pj_pick (t := any) (has_tmp rfl) (fun _ => has_bl) (fun he => absurd (e11.symm.trans he) (by decide))) (Option.some.inj e12))) <| .nil) (j_to (Γ' := [(4, ptrTo R_api_Hash p_a), (5, ptrTo R_api_Hash p_b), (8, (sl i64).slot r1), (9, (sl i64).slot r2), (10, bl.slot y5), (12, i64.slot y3), (58, bl.slot y6)]) (H' := []) (.cons (.of_lk rfl) <| .cons (.of_lk rfl) <| .cons (.of_lk rfl) <| .cons (.of_lk rfl) <| .cons (.of_lk rfl) <| .cons (.of_lk rfl) <| .cons (.of_lk rfl) <| .nil) (.nil) J)
            · replace e12 := bf e11 e12
              obtain ⟨x4, e13, e12⟩ := bind_some e12
              obtain ⟨x5, e14, e12⟩ := bind_some e12
              exact run_draw (n := 12) (by kernel_rfl) (by kernel_rfl) (by kernel_rfl) (by kernel_rfl) (.read (.plain rfl (pj_move (has_tmp rfl))) <| .read (.plain rfl (pj_move (has_tmp rfl))) <| .read (.yes ⟨1, false, _, 48, _, rfl, rfl, rfl, fun _ _ => bl_p.1, gd_yes e11⟩ (pj_move (has_tmp rfl))) <| .read (.yes ⟨1, false, _, 48, _, rfl, rfl, rfl, fun _ _ => bl_p.1, gd_yes e11⟩ (pj_move (has_tmp rfl))) <| .read (.yes ⟨1, false, _, 48, _, rfl, rfl, rfl, fun _ _ => bl_p.1, gd_yes e11⟩ (pj_index_slx (has_tmp rfl) (has_tmp rfl) isInt_i64 e13 (by kernel_rfl))) <| .read (.yes ⟨1, false, _, 48, _, rfl, rfl, rfl, fun _ _ => bl_p.1, gd_yes e11⟩ (pj_load_to (has_tmp rfl) (by kernel_rfl))) <| .read (.yes ⟨1, false, _, 48, _, rfl, rfl, rfl, fun _ _ => bl_p.1, gd_yes e11⟩ (pj_move (has_tmp rfl))) <| .read (.yes ⟨1, false, _, 48, _, rfl, rfl, rfl, fun _ _ => bl_p.1, gd_yes e11⟩ (pj_move (has_tmp rfl))) <| .read (.yes ⟨1, false, _, 48, _, rfl, rfl, rfl, fun _ _ => bl_p.1, gd_yes e11⟩ (pj_index_slx (has_tmp rfl) (has_tmp rfl) isInt_i64 e14 (by kernel_rfl))) <| .read (.yes ⟨1, false, _, 48, _, rfl, rfl, rfl, fun _ _ => bl_p.1, gd_yes e11⟩ (pj_load_to (has_tmp rfl) (by kernel_rfl))) <| .read (.yes ⟨1, false, _, 48, _, rfl, rfl, rfl, fun _ _ => bl_p.1, gd_yes e11⟩ (pj_igtr (has_tmp rfl) (has_tmp rfl))) <| .read (.plain rfl (PJ.eqv (R := bl) (pj_pick (t := any) (has_tmp rfl) (fun he => absurd (e11.symm.trans he) (by decide)) (fun _ => (has_tmp rfl))) (Option.some.inj e12))) <| .nil) (j_to (Γ' := [(4, ptrTo R_api_Hash p_a), (5, ptrTo R_api_Hash p_b), (8, (sl i64).slot r1), (9, (sl i64).slot r2), (10, bl.slot y5), (12, i64.slot y3), (58, bl.slot y6)]) (H' := []) (.cons (.of_lk rfl) <| .cons (.of_lk rfl) <| .cons (.of_lk rfl) <| .cons (.of_lk rfl) <| .cons (.of_lk rfl) <| .cons (.of_lk rfl) <| .cons (.of_lk rfl) <| .nil) (.nil) J)
        · rcases bool_tf (y1) with e7 | e7
          · replace e8 := bt e7 e8
            exact run_draw (n := 12) (by kernel_rfl) (by kernel_rfl) (by kernel_rfl) (by kernel_rfl) (.read (.plain rfl (pj_move (has_tmp rfl))) <| .read (.plain rfl (pj_move (has_tmp rfl))) <| .read (.no ⟨1, false, _, 36, _, rfl, rfl, rfl, fun _ _ => bl_p.1, gd_no e7⟩) <| .read (.no ⟨1, false, _, 36, _, rfl, rfl, rfl, fun _ _ => bl_p.1, gd_no e7⟩) <| .read (.no ⟨1, false, _, 36, _, rfl, rfl, rfl, fun _ _ => bl_p.1, gd_no e7⟩) <| .read (.no ⟨1, false, _, 36, _, rfl, rfl, rfl, fun _ _ => bl_p.1, gd_no e7⟩) <| .read (.no ⟨1, false, _, 36, _, rfl, rfl, rfl, fun _ _ => bl_p.1, gd_no e7⟩) <| .read (.no ⟨1, false, _, 36, _, rfl, rfl, rfl, fun _ _ => bl_p.1, gd_no e7⟩) <| .read (.no ⟨1, false, _, 36, _, rfl, rfl, rfl, fun _ _ => bl_p.1, gd_no e7⟩) <| .read (.no ⟨1, false, _, 36, _, rfl, rfl, rfl, fun _ _ => bl_p.1, gd_no e7⟩) <| .read (.no ⟨1, false, _, 36, _, rfl, rfl, rfl, fun _ _ => bl_p.1, gd_no e7⟩) <| .read (.plain rfl (PJ.eqv (R := bl) (pj_pick (t := any) (has_tmp rfl) (fun _ => has_bl) (fun he => absurd (e7.symm.trans he) (by decide))) (Option.some.inj e8))) <| .nil) (j_to (Γ' := [(4, ptrTo R_api_Hash p_a), (5, ptrTo R_api_Hash p_b), (8, (sl i64).slot r1), (9, (sl i64).slot r2), (11, bl.slot y2), (12, i64.slot y3), (46, bl.slot y5)]) (H' := []) (.cons (.of_lk rfl) <| .cons (.of_lk rfl) <| .cons (.of_lk rfl) <| .cons (.of_lk rfl) <| .cons (.of_lk rfl) <| .cons (.of_lk rfl) <| .cons (.of_lk rfl) <| .nil) (.nil) J)
          · replace e8 := bf e7 e8
            obtain ⟨x2, e9, e8⟩ := bind_some e8
            obtain ⟨x3, e10, e8⟩ := bind_some e8
            exact run_draw (n := 12) (by kernel_rfl) (by kernel_rfl) (by kernel_rfl) (by kernel_rfl) (.read (.plain rfl (pj_move (has_tmp rfl))) <| .read (.plain rfl (pj_move (has_tmp rfl))) <| .read (.yes ⟨1, false, _, 36, _, rfl, rfl, rfl, fun _ _ => bl_p.1, gd_yes e7⟩ (pj_move (has_tmp rfl))) <| .read (.yes ⟨1, false, _, 36, _, rfl, rfl, rfl, fun _ _ => bl_p.1, gd_yes e7⟩ (pj_move (has_tmp rfl))) <| .read (.yes ⟨1, false, _, 36, _, rfl, rfl, rfl, fun _ _ => bl_p.1, gd_yes e7⟩ (pj_index_slx (has_tmp rfl) (has_tmp rfl) isInt_i64 e9 (by kernel_rfl))) <| .read (.yes ⟨1, false, _, 36, _, rfl, rfl, rfl, fun _ _ => bl_p.1, gd_yes e7⟩ (pj_load_to (has_tmp rfl) (by kernel_rfl))) <| .read (.yes ⟨1, false, _, 36, _, rfl, rfl, rfl, fun _ _ => bl_p.1, gd_yes e7⟩ (pj_move (has_tmp rfl))) <| .read (.yes ⟨1, false, _, 36, _, rfl, rfl, rfl, fun _ _ => bl_p.1, gd_yes e7⟩ (pj_move (has_tmp rfl))) <| .read (.yes ⟨1, false, _, 36, _, rfl, rfl, rfl, fun _ _ => bl_p.1, gd_yes e7⟩ (pj_index_slx (has_tmp rfl) (has_tmp rfl) isInt_i64 e10 (by kernel_rfl))) <| .read (.yes ⟨1, false, _, 36, _, rfl, rfl, rfl, fun _ _ => bl_p.1, gd_yes e7⟩ (pj_load_to (has_tmp rfl) (by kernel_rfl))) <| .read (.yes ⟨1, false, _, 36, _, rfl, rfl, rfl, fun _ _ => bl_p.1, gd_yes e7⟩ (pj_ilss (has_tmp rfl) (has_tmp rfl))) <| .read (.plain rfl (PJ.eqv (R := bl) (pj_pick (t := any) (has_tmp rfl) (fun he => absurd (e7.symm.trans he) (by decide)) (fun _ => (has_tmp rfl))) (Option.some.inj e8))) <| .nil) (j_to (Γ' := [(4, ptrTo R_api_Hash p_a), (5, ptrTo R_api_Hash p_b), (8, (sl i64).slot r1), (9, (sl i64).slot r2), (11, bl.slot y2), (12, i64.slot y3), (46, bl.slot y5)]) (H' := []) (.cons (.of_lk rfl) <| .cons (.of_lk rfl) <| .cons (.of_lk rfl) <| .cons (.of_lk rfl) <| .cons (.of_lk rfl) <| .cons (.of_lk rfl) <| .cons (.of_lk rfl) <| .nil) (.nil) J)
      · replace h := bf e6 h
        obtain rfl := Option.some.inj h
        exact run_brk () (.cons (.of_lk rfl) <| .cons (.of_lk rfl) <| .cons (.of_lk rfl) <| .cons (.of_lk rfl) <| .cons (.of_lk rfl) <| .cons (.of_lk rfl) <| .cons (.of_lk rfl) <| .nil) (.nil)
    · rcases bool_tf (decide (y3 < (r1.length : Int))) with e4 | e4
      · replace e5 := bt e4 e5
        refine j_pure_y (pj_move (has_tmp rfl)) rfl rfl rfl rfl (bl_isx e4) rfl rfl ?_
        refine j_pure_y (pj_move (has_tmp rfl)) rfl rfl rfl rfl (bl_isx e4) rfl rfl ?_
        refine j_pure_y (pj_len_sl (sz := 1) (has_tmp rfl) (by kernel_rfl)) rfl rfl rfl rfl (bl_isx e4) rfl rfl ?_
        refine j_pure_y (pj_ilss (has_tmp rfl) (has_tmp rfl)) rfl rfl rfl rfl (bl_isx e4) rfl rfl ?_
        refine j_pure (PJ.eqv (R := bl) (pj_pick (t := any) (has_tmp rfl) (fun _ => (has_tmp rfl)) (fun he => absurd (e4.symm.trans he) (by decide))) (Option.some.inj e5)) rfl rfl rfl ?_
        exact j_to (.cons (.of_lk rfl) <| .cons (.of_lk rfl) <| .cons (.of_lk rfl) <| .cons (.of_lk rfl) <| .cons (.of_lk rfl) <| .cons (.of_lk rfl) <| .cons (.of_lk rfl) <| .cons (.of_lk rfl) <| .nil) (.nil) (J ())
      · replace e5 := bf e4 e5
        refine j_guard_no2 (j := 4) (want := true) rfl rfl rfl rfl (bl_isx e4) rfl rfl rfl ?_
        refine j_guard_no2 (j := 4) (want := true) rfl rfl rfl rfl (bl_isx e4) rfl rfl rfl ?_
        refine j_guard_no2 (j := 4) (want := true) rfl rfl rfl rfl (bl_isx e4) rfl rfl rfl ?_
        refine j_guard_no2 (j := 4) (want := true) rfl rfl rfl rfl (bl_isx e4) rfl rfl rfl ?_
        refine j_pure (PJ.eqv (R := bl) (pj_pick (t := any) (has_tmp rfl) (fun he => absurd (e4.symm.trans he) (by decide)) (fun _ => has_bl)) (Option.some.inj e5)) rfl rfl rfl ?_
        exact j_to (.cons (.of_lk rfl) <| .cons (.of_lk rfl) <| .cons (.of_lk rfl) <| .cons (.of_lk rfl) <| .cons (.of_lk rfl) <| .cons (.of_lk rfl) <| .cons (.of_lk rfl) <| .cons (.of_lk rfl) <| .nil) (.nil) (J ())
  · rintro _
    show Run _ _ _ [(4, ptrTo R_api_Hash p_a), (5, ptrTo R_api_Hash p_b), (8, (sl i64).slot r1), (9, (sl i64).slot r2), (10, bl.slot y7), (11, bl.slot y8), (12, i64.slot y9)] []
    refine run_to (Γ' := [(4, ptrTo R_api_Hash p_a), (5, ptrTo R_api_Hash p_b), (8, (sl i64).slot r1), (9, (sl i64).slot r2), (10, bl.slot y7), (11, bl.slot y8)]) (H' := []) (.cons (.of_lk rfl) <| .cons (.of_lk rfl) <| .cons (.of_lk rfl) <| .cons (.of_lk rfl) <| .cons (.of_lk rfl) <| .cons (.of_lk rfl) <| .nil) (.nil) ?_
    refine run_seq ?_
    refine run_text ?_
    obtain ⟨r3, e16, h⟩ := bind_some h
    refine j_pure (pj_call (hasL_nil) (by kernel_rfl) (c_rolodexlaw04_awake hg1 e16)) rfl rfl rfl ?_
    refine j_pure (pj_move (has_tmp rfl)) rfl rfl rfl ?_
    obtain ⟨y10, e18, h⟩ := bind_some h
    refine j_joinx (ι := Unit) (Γ' := fun _ => [(4, ptrTo R_api_Hash p_a), (5, ptrTo R_api_Hash p_b), (10, bl.slot y7), (11, bl.slot y8), (66, bl.slot y10)]) (H' := fun _ => []) 6 ?_ fun J => ?_
    · intro _
      clear e18
      show OpsJ _ _ _ [(4, ptrTo R_api_Hash p_a), (5, ptrTo R_api_Hash p_b), (10, bl.slot y7), (11, bl.slot y8), (66, bl.slot y10)] [] _
      refine j_pure (pj_move (has_tmp rfl)) rfl rfl rfl ?_
      obtain ⟨y11, e20, h⟩ := bind_some h
      refine j_joinx (ι := Unit) (Γ' := fun _ => [(4, ptrTo R_api_Hash p_a), (5, ptrTo R_api_Hash p_b), (11, bl.slot y8), (73, bl.slot y11)]) (H' := fun _ => []) 6 ?_ fun J => ?_
      · intro _
        clear e20
        show OpsJ _ _ _ [(4, ptrTo R_api_Hash p_a), (5, ptrTo R_api_Hash p_b), (11, bl.slot y8), (73, bl.slot y11)] [] _
        refine j_pure (pj_move (has_tmp rfl)) rfl rfl rfl ?_
        obtain ⟨y12, e22, h⟩ := bind_some h
        refine j_joinx (ι := Unit) (Γ' := fun _ => [(80, bl.slot y12)]) (H' := fun _ => []) 6 ?_ fun J => ?_
        · intro _
          clear e22
          show OpsJ _ _ _ [(80, bl.slot y12)] [] _
          refine j_pure (pj_assign (has_tmp rfl)) rfl rfl rfl ?_
          refine j_end ?_
          obtain rfl := Option.some.inj h
          exact run_ret fun a w hst => q_ret1 hst rfl (.tmp rfl) () (fun _ _ h => h) (.nil)
        · rcases bool_tf (y11) with e21 | e21
          · replace e22 := bt e21 e22
            refine j_pure_y (pj_move (has_tmp rfl)) rfl rfl rfl rfl (bl_isx e21) rfl rfl ?_
            refine j_pure_y (pj_load_to (has_tmp rfl) (by kernel_rfl)) rfl rfl rfl rfl (bl_isx e21) rfl rfl ?_
            refine j_pure_y (pj_load_to (has_tmp rfl) (by kernel_rfl)) rfl rfl rfl rfl (bl_isx e21) rfl rfl ?_
            refine j_pure_y (pj_neq (n := 2) (eq_vec (e := 5) (by kernel_rfl) (by kernel_rfl) (eq_un (by kernel_rfl))) (by decide) rfl (by kernel_rfl) (has_tmp rfl) (has_tmp rfl)) rfl rfl rfl rfl (bl_isx e21) rfl rfl ?_
            refine j_pure_y (pj_beql (by kernel_rfl) (has_tmp rfl) (has_tmp rfl)) rfl rfl rfl rfl (bl_isx e21) rfl rfl ?_
            refine j_pure (PJ.eqv (R := bl) (pj_pick (t := any) (has_tmp rfl) (fun _ => (has_tmp rfl)) (fun he => absurd (e21.symm.trans he) (by decide))) (Option.some.inj e22)) rfl rfl rfl ?_
            exact j_to (.cons (.of_lk rfl) <| .nil) (.nil) (J ())
          · replace e22 := bf e21 e22
            refine j_guard_no2 (j := 15) (want := true) rfl rfl rfl rfl (bl_isx e21) rfl rfl rfl ?_
            refine j_guard_no2 (j := 15) (want := true) rfl rfl rfl rfl (bl_isx e21) rfl rfl rfl ?_
            refine j_guard_no2 (j := 15) (want := true) rfl rfl rfl rfl (bl_isx e21) rfl rfl rfl ?_
            refine j_guard_no2 (j := 15) (want := true) rfl rfl rfl rfl (bl_isx e21) rfl rfl rfl ?_
            refine j_guard_no2 (j := 15) (want := true) rfl rfl rfl rfl (bl_isx e21) rfl rfl rfl ?_
            refine j_pure (PJ.eqv (R := bl) (pj_pick (t := any) (has_tmp rfl) (fun he => absurd (e21.symm.trans he) (by decide)) (fun _ => has_bl)) (Option.some.inj e22)) rfl rfl rfl ?_
            exact j_to (.cons (.of_lk rfl) <| .nil) (.nil) (J ())
      · rcases bool_tf (y10) with e19 | e19
        · replace e20 := bt e19 e20
          refine j_pure_y (pj_move (has_tmp rfl)) rfl rfl rfl rfl (bl_isx e19) rfl rfl ?_
          refine j_pure_y (pj_load_to (has_tmp rfl) (by kernel_rfl)) rfl rfl rfl rfl (bl_isx e19) rfl rfl ?_
          refine j_pure_y (pj_load_to (has_tmp rfl) (by kernel_rfl)) rfl rfl rfl rfl (bl_isx e19) rfl rfl ?_
          refine j_pure_y (pj_neq (n := 2) (eq_vec (e := 5) (by kernel_rfl) (by kernel_rfl) (eq_un (by kernel_rfl))) (by decide) rfl (by kernel_rfl) (has_tmp rfl) (has_tmp rfl)) rfl rfl rfl rfl (bl_isx e19) rfl rfl ?_
          refine j_pure_y (pj_beql (by kernel_rfl) (has_tmp rfl) (has_tmp rfl)) rfl rfl rfl rfl (bl_isx e19) rfl rfl ?_
          refine j_pure (PJ.eqv (R := bl) (pj_pick (t := any) (has_tmp rfl) (fun _ => (has_tmp rfl)) (fun he => absurd (e19.symm.trans he) (by decide))) (Option.some.inj e20)) rfl rfl rfl ?_
          exact j_to (.cons (.of_lk rfl) <| .cons (.of_lk rfl) <| .cons (.of_lk rfl) <| .cons (.of_lk rfl) <| .nil) (.nil) (J ())
        · replace e20 := bf e19 e20
          refine j_guard_no2 (j := 8) (want := true) rfl rfl rfl rfl (bl_isx e19) rfl rfl rfl ?_
          refine j_guard_no2 (j := 8) (want := true) rfl rfl rfl rfl (bl_isx e19) rfl rfl rfl ?_
          refine j_guard_no2 (j := 8) (want := true) rfl rfl rfl rfl (bl_isx e19) rfl rfl rfl ?_
          refine j_guard_no2 (j := 8) (want := true) rfl rfl rfl rfl (bl_isx e19) rfl rfl rfl ?_
          refine j_guard_no2 (j := 8) (want := true) rfl rfl rfl rfl (bl_isx e19) rfl rfl rfl ?_
          refine j_pure (PJ.eqv (R := bl) (pj_pick (t := any) (has_tmp rfl) (fun he => absurd (e19.symm.trans he) (by decide)) (fun _ => has_bl)) (Option.some.inj e20)) rfl rfl rfl ?_
          exact j_to (.cons (.of_lk rfl) <| .cons (.of_lk rfl) <| .cons (.of_lk rfl) <| .cons (.of_lk rfl) <| .nil) (.nil) (J ())
    · rcases bool_tf (r3) with e17 | e17
      · replace e18 := bt e17 e18
        refine j_pure_y (pj_move (has_tmp rfl)) rfl rfl rfl rfl (bl_isx e17) rfl rfl ?_
        refine j_pure_y (pj_len_sl (sz := 1) (has_tmp rfl) (by kernel_rfl)) rfl rfl rfl rfl (bl_isx e17) rfl rfl ?_
        refine j_pure_y (pj_move (has_tmp rfl)) rfl rfl rfl rfl (bl_isx e17) rfl rfl ?_
        refine j_pure_y (pj_len_sl (sz := 1) (has_tmp rfl) (by kernel_rfl)) rfl rfl rfl rfl (bl_isx e17) rfl rfl ?_
        refine j_pure_y (pj_ieql (has_tmp rfl) (has_tmp rfl)) rfl rfl rfl rfl (bl_isx e17) rfl rfl ?_
        refine j_pure (PJ.eqv (R := bl) (pj_pick (t := any) (has_tmp rfl) (fun _ => (has_tmp rfl)) (fun he => absurd (e17.symm.trans he) (by decide))) (Option.some.inj e18)) rfl rfl rfl ?_
        exact j_to (.cons (.of_lk rfl) <| .cons (.of_lk rfl) <| .cons (.of_lk rfl) <| .cons (.of_lk rfl) <| .cons (.of_lk rfl) <| .nil) (.nil) (J ())
      · replace e18 := bf e17 e18
        refine j_guard_no2 (j := 1) (want := true) rfl rfl rfl rfl (bl_isx e17) rfl rfl rfl ?_
        refine j_guard_no2 (j := 1) (want := true) rfl rfl rfl rfl (bl_isx e17) rfl rfl rfl ?_
        refine j_guard_no2 (j := 1) (want := true) rfl rfl rfl rfl (bl_isx e17) rfl rfl rfl ?_
        refine j_guard_no2 (j := 1) (want := true) rfl rfl rfl rfl (bl_isx e17) rfl rfl rfl ?_
        refine j_guard_no2 (j := 1) (want := true) rfl rfl rfl rfl (bl_isx e17) rfl rfl rfl ?_
        refine j_pure (PJ.eqv (R := bl) (pj_pick (t := any) (has_tmp rfl) (fun he => absurd (e17.symm.trans he) (by decide)) (fun _ => has_bl)) (Option.some.inj e18)) rfl rfl rfl ?_
        exact j_to (.cons (.of_lk rfl) <| .cons (.of_lk rfl) <| .cons (.of_lk rfl) <| .cons (.of_lk rfl) <| .cons (.of_lk rfl) <| .nil) (.nil) (J ())
end Go.Sl.W
