import Derived.Test.YtdpffbhgkldphaaDoorWA
import Derived.Test.YtdpffbhgkldphaaDoorOp14
import Derived.Test.YtdpffbhgkldphaaDoorProg
set_option linter.unusedSimpArgs false
set_option linter.unusedVariables false
set_option linter.unusedSectionVars false
namespace Go.Sl.W
open Go.Proofs Go.Sl Go.Sl.M
set_option maxRecDepth 100000 in
set_option maxHeartbeats 4000000 in
theorem c_rolodexref02_take {G : GP} {p_h : Vector (BitVec 32) 8} {p_block : List (BitVec 8)} {r : (Vector (BitVec 32) 8)} (h : rolodexref02_take p_h p_block = some r) : Ctr Tryd.prog G 50 [(vec 8 u32).slot p_h, (sl u8).slot p_block] [] (fun (_ : Unit) => (vec 8 u32).slot r) (fun (_ : Unit) => []) := by
  unfold rolodexref02_take at h
  refine ctr_of_run Tryd.func50 rfl 121 rfl rfl fun m0 w0 b0 => ?_
  show Run _ _ _ [(0, (vec 8 u32).slot p_h), (1, (sl u8).slot p_block)] _
  refine run_seq ?_
  refine run_text ?_
  refine j_box (has_tmp rfl) rfl fun b1 => ?_
  refine j_alloc (x := (Vector.replicate 8 (0#32))) (R := (vec 8 u32)) (zero_vec 8 zero_un) (by kernel_rfl) rfl fun b2 => ?_
  refine j_end ?_
  refine run_seq ?_
  refine run_text ?_
  refine j_pure (pj_move (has_tmp rfl)) rfl rfl rfl ?_
  obtain ⟨r1, e1, h⟩ := bind_some h
  refine j_pure (pj_call (hasL_cons (has_tmp rfl) <| hasL_nil) (by kernel_rfl) (c_rolodexref02_words e1)) rfl rfl rfl ?_
  refine j_alloc (x := (Vector.replicate 64 (0#32))) (R := (vec 64 u32)) (zero_vec 64 zero_un) (by kernel_rfl) rfl fun b3 => ?_
  refine j_store_boxx (r' := r1) (has_tmp rfl) (has_tmp rfl) .here (Path.all (vec 64 u32)) (by kernel_rfl) rfl ?_
  refine j_freezeTo (t := 5) .here (.of_lk rfl) ?_
  refine j_end ?_
  refine run_seq ?_
  refine run_text ?_
  obtain ⟨r2, e2, h⟩ := bind_some h
  refine j_pure (pj_call (hasL_nil) (by kernel_rfl) (c_rolodexref02_K e2)) rfl rfl rfl ?_
  refine j_alloc (x := (Vector.replicate 64 (0#32))) (R := (vec 64 u32)) (zero_vec 64 zero_un) (by kernel_rfl) rfl fun b4 => ?_
  refine j_store_boxx (r' := r2) (has_tmp rfl) (has_tmp rfl) .here (Path.all (vec 64 u32)) (by kernel_rfl) rfl ?_
  refine j_freezeTo (t := 6) .here (.of_lk rfl) ?_
  refine j_end ?_
  refine run_seq ?_
  refine run_text ?_
  refine j_pure (pj_load_box (has_tmp rfl) (.next .here) (Path.all (vec 8 u32)) (by kernel_rfl)) rfl rfl rfl ?_
  refine j_alloc (x := (Vector.replicate 8 (0#32))) (R := (vec 8 u32)) (zero_vec 8 zero_un) (by kernel_rfl) rfl fun b5 => ?_
  refine j_store_boxx (r' := p_h) (has_tmp rfl) (has_tmp rfl) .here (Path.all (vec 8 u32)) (by kernel_rfl) rfl ?_
  refine j_end ?_
  refine run_seq ?_
  refine run_seq ?_
  refine run_text ?_
  refine j_pure (pj_assign has_i64) rfl rfl rfl ?_
  refine j_end ?_
  obtain ⟨⟨y3, y4⟩, e16, h⟩ := bind_some h
  refine run_loopS (Γi := fun (i : Unit) (s : Int × (Vector (BitVec 32) 8)) => [(2, val (.pointer (some ⟨b1, 0, none⟩))), (4, val (.pointer (some ⟨b2, 0, none⟩))), (5, ptrTo (vec 64 u32) r1), (6, ptrTo (vec 64 u32) r2), (7, val (.pointer (some ⟨b5, 0, none⟩))), (8, i64.slot s.1)]) (Hi := fun (i : Unit) (s : Int × (Vector (BitVec 32) 8)) => [box b5 70 (vec 8 u32) s.2, box b2 70 (vec 8 u32) (Vector.replicate 8 (0#32)), box b1 70 (vec 8 u32) p_h]) e16 () (fun a w hst => (hst.sub (.cons (.of_lk rfl) <| .cons (.of_lk rfl) <| .cons (.of_lk rfl) <| .cons (.of_lk rfl) <| .cons (.of_lk rfl) <| .cons (.of_lk rfl) <| .nil)).keep (.cons .here <| .cons .here <| .cons .here <| .nil)) ?_ ?_
  · clear h e16
    rintro _ ⟨y1, y2⟩ lr h
    change rolodexref02_take_L1 r2 r1 y1 y2 = some _ at h
    show Run _ _ _ [(2, val (.pointer (some ⟨b1, 0, none⟩))), (4, val (.pointer (some ⟨b2, 0, none⟩))), (5, ptrTo (vec 64 u32) r1), (6, ptrTo (vec 64 u32) r2), (7, val (.pointer (some ⟨b5, 0, none⟩))), (8, i64.slot y1)] [box b5 70 (vec 8 u32) y2, box b2 70 (vec 8 u32) (Vector.replicate 8 (0#32)), box b1 70 (vec 8 u32) p_h]
    unfold rolodexref02_take_L1 at h
    refine run_seq ?_
    refine run_seq ?_
    refine run_text ?_
    refine j_pure (pj_move (has_tmp rfl)) rfl rfl rfl ?_
    refine j_pure (pj_ilss (has_tmp rfl) has_i64) rfl rfl rfl ?_
    refine j_end ?_
    refine run_cond (has_tmp rfl) (fun e3 => ?_) (fun e3 => ?_)
    · replace h := bt e3 h
      refine run_skip ?_
      refine run_seq ?_
      refine run_block ?_
      refine run_seq ?_
      refine run_text ?_
      refine j_pure (pj_index_arr (n := 8) (sz := 1) (has_tmp rfl) has_i64 isInt_i64 (by decide) (by decide) (by kernel_rfl)) rfl rfl rfl ?_
      refine j_pure (pj_load_box (has_tmp rfl) .here (Path.then (Path.all (vec 8 u32)) (Path.at 8 u32 4 (by decide))) (by kernel_rfl)) rfl rfl rfl ?_
      refine j_pure (pj_index_arr (n := 8) (sz := 1) (has_tmp rfl) has_i64 isInt_i64 (by decide) (by decide) (by kernel_rfl)) rfl rfl rfl ?_
      refine j_pure (pj_load_box (has_tmp rfl) .here (Path.then (Path.all (vec 8 u32)) (Path.at 8 u32 5 (by decide))) (by kernel_rfl)) rfl rfl rfl ?_
      refine j_pure (pj_uand (k := .u32) (b := 32) rfl rfl (has_tmp rfl) (has_tmp rfl)) rfl rfl rfl ?_
      refine j_pure (pj_index_arr (n := 8) (sz := 1) (has_tmp rfl) has_i64 isInt_i64 (by decide) (by decide) (by kernel_rfl)) rfl rfl rfl ?_
      refine j_pure (pj_load_box (has_tmp rfl) .here (Path.then (Path.all (vec 8 u32)) (Path.at 8 u32 4 (by decide))) (by kernel_rfl)) rfl rfl rfl ?_
      refine j_pure (pj_usub (k := .u32) (b := 32) rfl rfl (has_un (x := 4294967295#32) rfl) (has_tmp rfl)) rfl rfl rfl ?_
      refine j_pure (pj_index_arr (n := 8) (sz := 1) (has_tmp rfl) has_i64 isInt_i64 (by decide) (by decide) (by kernel_rfl)) rfl rfl rfl ?_
      refine j_pure (pj_load_box (has_tmp rfl) .here (Path.then (Path.all (vec 8 u32)) (Path.at 8 u32 6 (by decide))) (by kernel_rfl)) rfl rfl rfl ?_
      refine j_pure (pj_uand (k := .u32) (b := 32) rfl rfl (has_tmp rfl) (has_tmp rfl)) rfl rfl rfl ?_
      refine j_pure (pj_uor (k := .u32) (b := 32) rfl rfl (has_tmp rfl) (has_tmp rfl)) rfl rfl rfl ?_
      obtain ⟨x1, e4, h⟩ := bind_some h
      refine j_pure (PJ.eqv (pj_assign (has_tmp rfl)) (Option.some.inj e4)) rfl rfl rfl ?_
      refine j_end ?_
      refine run_seq ?_
      refine run_text ?_
      refine j_pure (pj_index_arr (n := 8) (sz := 1) (has_tmp rfl) has_i64 isInt_i64 (by decide) (by decide) (by kernel_rfl)) rfl rfl rfl ?_
      refine j_pure (pj_load_box (has_tmp rfl) .here (Path.then (Path.all (vec 8 u32)) (Path.at 8 u32 0 (by decide))) (by kernel_rfl)) rfl rfl rfl ?_
      refine j_pure (pj_index_arr (n := 8) (sz := 1) (has_tmp rfl) has_i64 isInt_i64 (by decide) (by decide) (by kernel_rfl)) rfl rfl rfl ?_
      refine j_pure (pj_load_box (has_tmp rfl) .here (Path.then (Path.all (vec 8 u32)) (Path.at 8 u32 1 (by decide))) (by kernel_rfl)) rfl rfl rfl ?_
      refine j_pure (pj_uand (k := .u32) (b := 32) rfl rfl (has_tmp rfl) (has_tmp rfl)) rfl rfl rfl ?_
      refine j_pure (pj_index_arr (n := 8) (sz := 1) (has_tmp rfl) has_i64 isInt_i64 (by decide) (by decide) (by kernel_rfl)) rfl rfl rfl ?_
      refine j_pure (pj_load_box (has_tmp rfl) .here (Path.then (Path.all (vec 8 u32)) (Path.at 8 u32 0 (by decide))) (by kernel_rfl)) rfl rfl rfl ?_
      refine j_pure (pj_index_arr (n := 8) (sz := 1) (has_tmp rfl) has_i64 isInt_i64 (by decide) (by decide) (by kernel_rfl)) rfl rfl rfl ?_
      refine j_pure (pj_load_box (has_tmp rfl) .here (Path.then (Path.all (vec 8 u32)) (Path.at 8 u32 2 (by decide))) (by kernel_rfl)) rfl rfl rfl ?_
      refine j_pure (pj_uand (k := .u32) (b := 32) rfl rfl (has_tmp rfl) (has_tmp rfl)) rfl rfl rfl ?_
      refine j_pure (pj_uor (k := .u32) (b := 32) rfl rfl (has_tmp rfl) (has_tmp rfl)) rfl rfl rfl ?_
      refine j_pure (pj_index_arr (n := 8) (sz := 1) (has_tmp rfl) has_i64 isInt_i64 (by decide) (by decide) (by kernel_rfl)) rfl rfl rfl ?_
      refine j_pure (pj_load_box (has_tmp rfl) .here (Path.then (Path.all (vec 8 u32)) (Path.at 8 u32 1 (by decide))) (by kernel_rfl)) rfl rfl rfl ?_
      refine j_pure (pj_index_arr (n := 8) (sz := 1) (has_tmp rfl) has_i64 isInt_i64 (by decide) (by decide) (by kernel_rfl)) rfl rfl rfl ?_
      refine j_pure (pj_load_box (has_tmp rfl) .here (Path.then (Path.all (vec 8 u32)) (Path.at 8 u32 2 (by decide))) (by kernel_rfl)) rfl rfl rfl ?_
      refine j_pure (pj_uand (k := .u32) (b := 32) rfl rfl (has_tmp rfl) (has_tmp rfl)) rfl rfl rfl ?_
      refine j_pure (pj_uor (k := .u32) (b := 32) rfl rfl (has_tmp rfl) (has_tmp rfl)) rfl rfl rfl ?_
      obtain ⟨x2, e5, h⟩ := bind_some h
      refine j_pure (PJ.eqv (pj_assign (has_tmp rfl)) (Option.some.inj e5)) rfl rfl rfl ?_
      refine j_end ?_
      refine run_seq ?_
      obtain ⟨r3, e6, h⟩ := bind_some h
      obtain ⟨r4, e7, h⟩ := bind_some h
      obtain ⟨r5, e8, h⟩ := bind_some h
      obtain ⟨x3, e9, h⟩ := bind_some h
      obtain ⟨x4, e10, h⟩ := bind_some h
      refine run_draw (n := 23) (by kernel_rfl) (by kernel_rfl) (by kernel_rfl) (by kernel_rfl) (.read (.plain rfl (pj_index_arr (n := 8) (sz := 1) (has_tmp rfl) has_i64 isInt_i64 (by decide) (by decide) (by kernel_rfl))) <| .read (.plain rfl (pj_load_box (has_tmp rfl) .here (Path.then (Path.all (vec 8 u32)) (Path.at 8 u32 7 (by decide))) (by kernel_rfl))) <| .read (.plain rfl (pj_index_arr (n := 8) (sz := 1) (has_tmp rfl) has_i64 isInt_i64 (by decide) (by decide) (by kernel_rfl))) <| .read (.plain rfl (pj_load_box (has_tmp rfl) .here (Path.then (Path.all (vec 8 u32)) (Path.at 8 u32 4 (by decide))) (by kernel_rfl))) <| .read (.plain rfl (pj_call (hasL_cons (has_tmp rfl) <| hasL_cons (has_un (x := 6#32) rfl) <| hasL_nil) (by kernel_rfl) (c_rolodexref02_turned e6))) <| .read (.plain rfl (pj_index_arr (n := 8) (sz := 1) (has_tmp rfl) has_i64 isInt_i64 (by decide) (by decide) (by kernel_rfl))) <| .read (.plain rfl (pj_load_box (has_tmp rfl) .here (Path.then (Path.all (vec 8 u32)) (Path.at 8 u32 4 (by decide))) (by kernel_rfl))) <| .read (.plain rfl (pj_call (hasL_cons (has_tmp rfl) <| hasL_cons (has_un (x := 11#32) rfl) <| hasL_nil) (by kernel_rfl) (c_rolodexref02_turned e7))) <| .read (.plain rfl (pj_uxor (k := .u32) (b := 32) rfl rfl (has_tmp rfl) (has_tmp rfl))) <| .read (.plain rfl (pj_index_arr (n := 8) (sz := 1) (has_tmp rfl) has_i64 isInt_i64 (by decide) (by decide) (by kernel_rfl))) <| .read (.plain rfl (pj_load_box (has_tmp rfl) .here (Path.then (Path.all (vec 8 u32)) (Path.at 8 u32 4 (by decide))) (by kernel_rfl))) <| .read (.plain rfl (pj_call (hasL_cons (has_tmp rfl) <| hasL_cons (has_un (x := 25#32) rfl) <| hasL_nil) (by kernel_rfl) (c_rolodexref02_turned e8))) <| .read (.plain rfl (pj_uxor (k := .u32) (b := 32) rfl rfl (has_tmp rfl) (has_tmp rfl))) <| .read (.plain rfl (pj_uadd (k := .u32) (b := 32) rfl rfl (has_tmp rfl) (has_tmp rfl))) <| .read (.plain rfl (pj_move (has_tmp rfl))) <| .read (.plain rfl (pj_uadd (k := .u32) (b := 32) rfl rfl (has_tmp rfl) (has_tmp rfl))) <| .read (.plain rfl (pj_move (has_tmp rfl))) <| .read (.plain rfl (pj_index_tox (has_tmp rfl) (has_tmp rfl) isInt_i64 e9 (by kernel_rfl))) <| .read (.plain rfl (pj_load_to (has_tmp rfl) (by kernel_rfl))) <| .read (.plain rfl (pj_uadd (k := .u32) (b := 32) rfl rfl (has_tmp rfl) (has_tmp rfl))) <| .read (.plain rfl (pj_move (has_tmp rfl))) <| .read (.plain rfl (pj_index_tox (has_tmp rfl) (has_tmp rfl) isInt_i64 e10 (by kernel_rfl))) <| .read (.plain rfl (pj_load_to (has_tmp rfl) (by kernel_rfl))) <| .nil) (j_to (Γ' := [(2, val (.pointer (some ⟨b1, 0, none⟩))), (4, val (.pointer (some ⟨b2, 0, none⟩))), (5, ptrTo (vec 64 u32) r1), (6, ptrTo (vec 64 u32) r2), (7, val (.pointer (some ⟨b5, 0, none⟩))), (8, i64.slot y1), (10, u32.slot x2), (70, u32.slot ((((y2[7]) + ((r3 ^^^ r4) ^^^ r5)) + x1) + x3)), (73, u32.slot x4)]) (H' := [box b5 70 (vec 8 u32) y2, box b2 70 (vec 8 u32) (Vector.replicate 8 (0#32)), box b1 70 (vec 8 u32) p_h]) (.cons (.of_lk rfl) <| .cons (.of_lk rfl) <| .cons (.of_lk rfl) <| .cons (.of_lk rfl) <| .cons (.of_lk rfl) <| .cons (.of_lk rfl) <| .cons (.of_lk rfl) <| .cons (.of_lk rfl) <| .cons (.of_lk rfl) <| .nil) (.cons .here <| .cons .here <| .cons .here <| .nil) ?_)
      refine j_pure (pj_uadd (k := .u32) (b := 32) rfl rfl (has_tmp rfl) (has_tmp rfl)) rfl rfl rfl ?_
      obtain ⟨x5, e11, h⟩ := bind_some h
      refine j_pure (PJ.eqv (pj_assign (has_tmp rfl)) (Option.some.inj e11)) rfl rfl rfl ?_
      refine j_end ?_
      refine run_seq ?_
      obtain ⟨r6, e12, h⟩ := bind_some h
      obtain ⟨r7, e13, h⟩ := bind_some h
      obtain ⟨r8, e14, h⟩ := bind_some h
      refine run_draw (n := 12) (by kernel_rfl) (by kernel_rfl) (by kernel_rfl) (by kernel_rfl) (.read (.plain rfl (pj_index_arr (n := 8) (sz := 1) (has_tmp rfl) has_i64 isInt_i64 (by decide) (by decide) (by kernel_rfl))) <| .read (.plain rfl (pj_load_box (has_tmp rfl) .here (Path.then (Path.all (vec 8 u32)) (Path.at 8 u32 0 (by decide))) (by kernel_rfl))) <| .read (.plain rfl (pj_call (hasL_cons (has_tmp rfl) <| hasL_cons (has_un (x := 2#32) rfl) <| hasL_nil) (by kernel_rfl) (c_rolodexref02_turned e12))) <| .read (.plain rfl (pj_index_arr (n := 8) (sz := 1) (has_tmp rfl) has_i64 isInt_i64 (by decide) (by decide) (by kernel_rfl))) <| .read (.plain rfl (pj_load_box (has_tmp rfl) .here (Path.then (Path.all (vec 8 u32)) (Path.at 8 u32 0 (by decide))) (by kernel_rfl))) <| .read (.plain rfl (pj_call (hasL_cons (has_tmp rfl) <| hasL_cons (has_un (x := 13#32) rfl) <| hasL_nil) (by kernel_rfl) (c_rolodexref02_turned e13))) <| .read (.plain rfl (pj_uxor (k := .u32) (b := 32) rfl rfl (has_tmp rfl) (has_tmp rfl))) <| .read (.plain rfl (pj_index_arr (n := 8) (sz := 1) (has_tmp rfl) has_i64 isInt_i64 (by decide) (by decide) (by kernel_rfl))) <| .read (.plain rfl (pj_load_box (has_tmp rfl) .here (Path.then (Path.all (vec 8 u32)) (Path.at 8 u32 0 (by decide))) (by kernel_rfl))) <| .read (.plain rfl (pj_call (hasL_cons (has_tmp rfl) <| hasL_cons (has_un (x := 22#32) rfl) <| hasL_nil) (by kernel_rfl) (c_rolodexref02_turned e14))) <| .read (.plain rfl (pj_uxor (k := .u32) (b := 32) rfl rfl (has_tmp rfl) (has_tmp rfl))) <| .read (.plain rfl (pj_move (has_tmp rfl))) <| .nil) (j_to (Γ' := [(2, val (.pointer (some ⟨b1, 0, none⟩))), (4, val (.pointer (some ⟨b2, 0, none⟩))), (5, ptrTo (vec 64 u32) r1), (6, ptrTo (vec 64 u32) r2), (7, val (.pointer (some ⟨b5, 0, none⟩))), (8, i64.slot y1), (11, u32.slot x5), (85, u32.slot ((r6 ^^^ r7) ^^^ r8)), (86, u32.slot x2)]) (H' := [box b5 70 (vec 8 u32) y2, box b2 70 (vec 8 u32) (Vector.replicate 8 (0#32)), box b1 70 (vec 8 u32) p_h]) (.cons (.of_lk rfl) <| .cons (.of_lk rfl) <| .cons (.of_lk rfl) <| .cons (.of_lk rfl) <| .cons (.of_lk rfl) <| .cons (.of_lk rfl) <| .cons (.of_lk rfl) <| .cons (.of_lk rfl) <| .cons (.of_lk rfl) <| .nil) (.cons .here <| .cons .here <| .cons .here <| .nil) ?_)
      refine j_pure (pj_uadd (k := .u32) (b := 32) rfl rfl (has_tmp rfl) (has_tmp rfl)) rfl rfl rfl ?_
      refine j_pure (pj_assign (has_tmp rfl)) rfl rfl rfl ?_
      refine j_end ?_
      refine run_text ?_
      refine j_pure (pj_move (has_tmp rfl)) rfl rfl rfl ?_
      refine j_pure (pj_move (has_tmp rfl)) rfl rfl rfl ?_
      refine j_pure (pj_uadd (k := .u32) (b := 32) rfl rfl (has_tmp rfl) (has_tmp rfl)) rfl rfl rfl ?_
      refine j_pure (pj_index_arr (n := 8) (sz := 1) (has_tmp rfl) has_i64 isInt_i64 (by decide) (by decide) (by kernel_rfl)) rfl rfl rfl ?_
      refine j_pure (pj_load_box (has_tmp rfl) .here (Path.then (Path.all (vec 8 u32)) (Path.at 8 u32 0 (by decide))) (by kernel_rfl)) rfl rfl rfl ?_
      refine j_pure (pj_index_arr (n := 8) (sz := 1) (has_tmp rfl) has_i64 isInt_i64 (by decide) (by decide) (by kernel_rfl)) rfl rfl rfl ?_
      refine j_pure (pj_load_box (has_tmp rfl) .here (Path.then (Path.all (vec 8 u32)) (Path.at 8 u32 1 (by decide))) (by kernel_rfl)) rfl rfl rfl ?_
      refine j_pure (pj_index_arr (n := 8) (sz := 1) (has_tmp rfl) has_i64 isInt_i64 (by decide) (by decide) (by kernel_rfl)) rfl rfl rfl ?_
      refine j_pure (pj_load_box (has_tmp rfl) .here (Path.then (Path.all (vec 8 u32)) (Path.at 8 u32 2 (by decide))) (by kernel_rfl)) rfl rfl rfl ?_
      refine j_pure (pj_index_arr (n := 8) (sz := 1) (has_tmp rfl) has_i64 isInt_i64 (by decide) (by decide) (by kernel_rfl)) rfl rfl rfl ?_
      refine j_pure (pj_load_box (has_tmp rfl) .here (Path.then (Path.all (vec 8 u32)) (Path.at 8 u32 3 (by decide))) (by kernel_rfl)) rfl rfl rfl ?_
      refine j_pure (pj_move (has_tmp rfl)) rfl rfl rfl ?_
      refine j_pure (pj_uadd (k := .u32) (b := 32) rfl rfl (has_tmp rfl) (has_tmp rfl)) rfl rfl rfl ?_
      refine j_pure (pj_index_arr (n := 8) (sz := 1) (has_tmp rfl) has_i64 isInt_i64 (by decide) (by decide) (by kernel_rfl)) rfl rfl rfl ?_
      refine j_pure (pj_load_box (has_tmp rfl) .here (Path.then (Path.all (vec 8 u32)) (Path.at 8 u32 4 (by decide))) (by kernel_rfl)) rfl rfl rfl ?_
      refine j_pure (pj_index_arr (n := 8) (sz := 1) (has_tmp rfl) has_i64 isInt_i64 (by decide) (by decide) (by kernel_rfl)) rfl rfl rfl ?_
      refine j_pure (pj_load_box (has_tmp rfl) .here (Path.then (Path.all (vec 8 u32)) (Path.at 8 u32 5 (by decide))) (by kernel_rfl)) rfl rfl rfl ?_
      refine j_pure (pj_index_arr (n := 8) (sz := 1) (has_tmp rfl) has_i64 isInt_i64 (by decide) (by decide) (by kernel_rfl)) rfl rfl rfl ?_
      refine j_pure (pj_load_box (has_tmp rfl) .here (Path.then (Path.all (vec 8 u32)) (Path.at 8 u32 6 (by decide))) (by kernel_rfl)) rfl rfl rfl ?_
      obtain ⟨x6, e15, h⟩ := bind_some h
      refine j_pure (PJ.eqv (pj_buildArr (z0 := 0#32) (zero_vec 8 zero_un) (by kernel_rfl) (.cons (has_tmp rfl) (.cons (has_tmp rfl) (.cons (has_tmp rfl) (.cons (has_tmp rfl) (.cons (has_tmp rfl) (.cons (has_tmp rfl) (.cons (has_tmp rfl) (.cons (has_tmp rfl) .nil)))))))) (by kernel_rfl) rfl) (Option.some.inj e15)) rfl rfl rfl ?_
      refine j_store_boxx (r' := x6) (has_tmp rfl) (has_tmp rfl) .here (Path.all (vec 8 u32)) (by kernel_rfl) rfl ?_
      refine j_end ?_
      refine run_endblock ?_
      refine run_text ?_
      refine j_pure (pj_move (has_tmp rfl)) rfl rfl rfl ?_
      refine j_pure (pj_iadd (has_tmp rfl) has_i64) rfl rfl rfl ?_
      refine j_pure (pj_assign (has_tmp rfl)) rfl rfl rfl ?_
      refine j_end ?_
      obtain rfl := Option.some.inj h
      exact run_next () (.cons (.of_lk rfl) <| .cons (.of_lk rfl) <| .cons (.of_lk rfl) <| .cons (.of_lk rfl) <| .cons (.of_lk rfl) <| .cons (.of_lk rfl) <| .nil) (.cons .here <| .cons .here <| .cons .here <| .nil)
    · replace h := bf e3 h
      obtain rfl := Option.some.inj h
      exact run_brk () (.cons (.of_lk rfl) <| .cons (.of_lk rfl) <| .cons (.of_lk rfl) <| .cons (.of_lk rfl) <| .cons (.of_lk rfl) <| .cons (.of_lk rfl) <| .nil) (.cons .here <| .cons .here <| .cons .here <| .nil)
  · rintro _
    show Run _ _ _ [(2, val (.pointer (some ⟨b1, 0, none⟩))), (4, val (.pointer (some ⟨b2, 0, none⟩))), (5, ptrTo (vec 64 u32) r1), (6, ptrTo (vec 64 u32) r2), (7, val (.pointer (some ⟨b5, 0, none⟩))), (8, i64.slot y3)] [box b5 70 (vec 8 u32) y4, box b2 70 (vec 8 u32) (Vector.replicate 8 (0#32)), box b1 70 (vec 8 u32) p_h]
    refine run_to (Γ' := [(2, val (.pointer (some ⟨b1, 0, none⟩))), (4, val (.pointer (some ⟨b2, 0, none⟩))), (7, val (.pointer (some ⟨b5, 0, none⟩)))]) (H' := [box b5 70 (vec 8 u32) y4, box b2 70 (vec 8 u32) (Vector.replicate 8 (0#32)), box b1 70 (vec 8 u32) p_h]) (.cons (.of_lk rfl) <| .cons (.of_lk rfl) <| .cons (.of_lk rfl) <| .nil) (.cons .here <| .cons .here <| .cons .here <| .nil) ?_
    refine run_seq ?_
    refine run_seq ?_
    refine run_text ?_
    refine j_pure (pj_assign has_i64) rfl rfl rfl ?_
    refine j_end ?_
    obtain ⟨⟨y7, y8⟩, e21, h⟩ := bind_some h
    refine run_loopS (Γi := fun (i : Unit) (s : Int × (Vector (BitVec 32) 8)) => [(2, val (.pointer (some ⟨b1, 0, none⟩))), (4, val (.pointer (some ⟨b2, 0, none⟩))), (7, val (.pointer (some ⟨b5, 0, none⟩))), (13, i64.slot s.1)]) (Hi := fun (i : Unit) (s : Int × (Vector (BitVec 32) 8)) => [box b5 70 (vec 8 u32) y4, box b2 70 (vec 8 u32) (Vector.replicate 8 (0#32)), box b1 70 (vec 8 u32) s.2]) e21 () (fun a w hst => (hst.sub (.cons (.of_lk rfl) <| .cons (.of_lk rfl) <| .cons (.of_lk rfl) <| .cons (.of_lk rfl) <| .nil)).keep (.cons .here <| .cons .here <| .cons .here <| .nil)) ?_ ?_
    · clear h e21
      rintro _ ⟨y5, y6⟩ lr h
      change rolodexref02_take_L2 y4 y5 y6 = some _ at h
      show Run _ _ _ [(2, val (.pointer (some ⟨b1, 0, none⟩))), (4, val (.pointer (some ⟨b2, 0, none⟩))), (7, val (.pointer (some ⟨b5, 0, none⟩))), (13, i64.slot y5)] [box b5 70 (vec 8 u32) y4, box b2 70 (vec 8 u32) (Vector.replicate 8 (0#32)), box b1 70 (vec 8 u32) y6]
      unfold rolodexref02_take_L2 at h
      refine run_seq ?_
      refine run_seq ?_
      refine run_text ?_
      refine j_pure (pj_move (has_tmp rfl)) rfl rfl rfl ?_
      refine j_pure (pj_ilss (has_tmp rfl) has_i64) rfl rfl rfl ?_
      refine j_end ?_
      refine run_cond (has_tmp rfl) (fun e17 => ?_) (fun e17 => ?_)
      · replace h := bt e17 h
        refine run_skip ?_
        refine run_seq ?_
        refine run_block ?_
        obtain ⟨x7, e18, h⟩ := bind_some h
        obtain ⟨x8, e19, h⟩ := bind_some h
        refine run_draw (n := 6) (by kernel_rfl) (by kernel_rfl) (by kernel_rfl) (by kernel_rfl) (.read (.plain rfl (pj_move (has_tmp rfl))) <| .read (.plain rfl (pj_index_arr (n := 8) (sz := 1) (has_tmp rfl) (has_tmp rfl) isInt_i64 (vget_some e18).1 (vget_lt e18) (by kernel_rfl))) <| .read (.plain rfl (PJ.eqv (pj_load_box (has_tmp rfl) (.next (.next .here)) (Path.then (Path.all (vec 8 u32)) (Path.atI 8 u32 y5.toNat (vget_some e18).2.1)) (by kernel_rfl)) (vget_eq e18 (vget_some e18).2.1))) <| .read (.plain rfl (pj_move (has_tmp rfl))) <| .read (.plain rfl (pj_index_arr (n := 8) (sz := 1) (has_tmp rfl) (has_tmp rfl) isInt_i64 (vget_some e19).1 (vget_lt e19) (by kernel_rfl))) <| .read (.plain rfl (PJ.eqv (pj_load_box (has_tmp rfl) .here (Path.then (Path.all (vec 8 u32)) (Path.atI 8 u32 y5.toNat (vget_some e19).2.1)) (by kernel_rfl)) (vget_eq e19 (vget_some e19).2.1))) <| .nil) (j_to (Γ' := [(2, val (.pointer (some ⟨b1, 0, none⟩))), (4, val (.pointer (some ⟨b2, 0, none⟩))), (7, val (.pointer (some ⟨b5, 0, none⟩))), (13, i64.slot y5), (112, i64.slot y5), (114, u32.slot x7), (117, u32.slot x8)]) (H' := [box b5 70 (vec 8 u32) y4, box b2 70 (vec 8 u32) (Vector.replicate 8 (0#32)), box b1 70 (vec 8 u32) y6]) (.cons (.of_lk rfl) <| .cons (.of_lk rfl) <| .cons (.of_lk rfl) <| .cons (.of_lk rfl) <| .cons (.of_lk rfl) <| .cons (.of_lk rfl) <| .cons (.of_lk rfl) <| .nil) (.cons .here <| .cons .here <| .cons .here <| .nil) ?_)
        refine j_pure (pj_uadd (k := .u32) (b := 32) rfl rfl (has_tmp rfl) (has_tmp rfl)) rfl rfl rfl ?_
        obtain ⟨e20, h⟩ := grd_some h
        refine j_pure (pj_index_arr (n := 8) (sz := 1) (has_tmp rfl) (has_tmp rfl) isInt_i64 e20.1 e20.2 (by kernel_rfl)) rfl rfl rfl ?_
        refine j_store_boxx (r' := (y6.setIfInBounds y5.toNat (x7 + x8))) (has_tmp rfl) (has_tmp rfl) (.next (.next .here)) (Path.then (Path.all (vec 8 u32)) (Path.atI 8 u32 y5.toNat (lt_nat e20))) (by kernel_rfl) rfl ?_
        refine j_end ?_
        refine run_endblock ?_
        refine run_text ?_
        refine j_pure (pj_move (has_tmp rfl)) rfl rfl rfl ?_
        refine j_pure (pj_iadd (has_tmp rfl) has_i64) rfl rfl rfl ?_
        refine j_pure (pj_assign (has_tmp rfl)) rfl rfl rfl ?_
        refine j_end ?_
        obtain rfl := Option.some.inj h
        exact run_next () (.cons (.of_lk rfl) <| .cons (.of_lk rfl) <| .cons (.of_lk rfl) <| .cons (.of_lk rfl) <| .nil) (.cons (.next .here) <| .cons (.next .here) <| .cons .here <| .nil)
      · replace h := bf e17 h
        obtain rfl := Option.some.inj h
        exact run_brk () (.cons (.of_lk rfl) <| .cons (.of_lk rfl) <| .cons (.of_lk rfl) <| .cons (.of_lk rfl) <| .nil) (.cons .here <| .cons .here <| .cons .here <| .nil)
    · rintro _
      show Run _ _ _ [(2, val (.pointer (some ⟨b1, 0, none⟩))), (4, val (.pointer (some ⟨b2, 0, none⟩))), (7, val (.pointer (some ⟨b5, 0, none⟩))), (13, i64.slot y7)] [box b5 70 (vec 8 u32) y4, box b2 70 (vec 8 u32) (Vector.replicate 8 (0#32)), box b1 70 (vec 8 u32) y8]
      refine run_to (Γ' := [(2, val (.pointer (some ⟨b1, 0, none⟩))), (4, val (.pointer (some ⟨b2, 0, none⟩)))]) (H' := [box b2 70 (vec 8 u32) (Vector.replicate 8 (0#32)), box b1 70 (vec 8 u32) y8]) (.cons (.of_lk rfl) <| .cons (.of_lk rfl) <| .nil) (.cons (.next .here) <| .cons (.next .here) <| .nil) ?_
      refine run_seq ?_
      refine run_text ?_
      refine j_pure (pj_load_box (has_tmp rfl) (.next .here) (Path.all (vec 8 u32)) (by kernel_rfl)) rfl rfl rfl ?_
      refine j_store_boxx (r' := y8) (has_tmp rfl) (has_tmp rfl) .here (Path.all (vec 8 u32)) (by kernel_rfl) rfl ?_
      refine j_end ?_
      obtain rfl := Option.some.inj h
      exact run_ret fun a w hst => q_ret1 hst rfl (.cell rfl .here (by kernel_rfl)) () (fun _ _ h => h) (.nil)
set_option maxRecDepth 100000 in
set_option maxHeartbeats 4000000 in
theorem c_rolodexref02_Sum {G : GP} {p_b : List (BitVec 8)} {r : T_api_Hash} (h : rolodexref02_Sum p_b = some r) : Ctr Tryd.prog G 25 [(sl u8).slot p_b] [] (fun (_ : Unit) => R_api_Hash.slot r) (fun (_ : Unit) => []) := by
  unfold rolodexref02_Sum at h
  refine ctr_of_run Tryd.func25 rfl 42 rfl rfl fun m0 w0 b0 => ?_
  show Run _ _ _ [(0, (sl u8).slot p_b)] _
  refine run_seq ?_
  refine run_text ?_
  refine j_alloc (x := (Vector.replicate 32 (0#8))) (R := R_api_Hash) (zero_vec 32 zero_un) (by kernel_rfl) rfl fun b1 => ?_
  refine j_end ?_
  refine run_seq ?_
  refine run_text ?_
  obtain ⟨r1, e1, h⟩ := bind_some h
  refine j_pure (pj_call (hasL_nil) (by kernel_rfl) (c_rolodexref02_Start e1)) rfl rfl rfl ?_
  refine j_alloc (x := (Vector.replicate 8 (0#32))) (R := (vec 8 u32)) (zero_vec 8 zero_un) (by kernel_rfl) rfl fun b2 => ?_
  refine j_store_boxx (r' := r1) (has_tmp rfl) (has_tmp rfl) .here (Path.all (vec 8 u32)) (by kernel_rfl) rfl ?_
  refine j_end ?_
  refine run_seq ?_
  refine run_text ?_
  refine j_pure (pj_move (has_tmp rfl)) rfl rfl rfl ?_
  obtain ⟨r2, e2, h⟩ := bind_some h
  refine j_pure (pj_call (hasL_cons (has_tmp rfl) <| hasL_nil) (by kernel_rfl) (Ctr.froze (c_rolodexref02_Padded e2))) rfl rfl rfl ?_
  refine j_pure (pj_assign (has_tmp rfl)) rfl rfl rfl ?_
  refine j_end ?_
  refine run_seq ?_
  refine run_seq ?_
  refine run_text ?_
  refine j_pure (pj_assign has_i64) rfl rfl rfl ?_
  refine j_end ?_
  obtain ⟨⟨y3, y4⟩, e6, h⟩ := bind_some h
  refine run_loopS (Γi := fun (i : Unit) (s : Int × (Vector (BitVec 32) 8)) => [(2, val (.pointer (some ⟨b1, 0, none⟩))), (3, val (.pointer (some ⟨b2, 0, none⟩))), (4, (sl u8).slot r2), (5, i64.slot s.1)]) (Hi := fun (i : Unit) (s : Int × (Vector (BitVec 32) 8)) => [box b2 70 (vec 8 u32) s.2, box b1 23 R_api_Hash (Vector.replicate 32 (0#8))]) e6 () (fun a w hst => (hst.sub (.cons (.of_lk rfl) <| .cons (.of_lk rfl) <| .cons (.of_lk rfl) <| .cons (.of_lk rfl) <| .nil)).keep (.cons .here <| .cons .here <| .nil)) ?_ ?_
  · clear h e6
    rintro _ ⟨y1, y2⟩ lr h
    change rolodexref02_Sum_L1 r2 y1 y2 = some _ at h
    show Run _ _ _ [(2, val (.pointer (some ⟨b1, 0, none⟩))), (3, val (.pointer (some ⟨b2, 0, none⟩))), (4, (sl u8).slot r2), (5, i64.slot y1)] [box b2 70 (vec 8 u32) y2, box b1 23 R_api_Hash (Vector.replicate 32 (0#8))]
    unfold rolodexref02_Sum_L1 at h
    refine run_seq ?_
    refine run_seq ?_
    refine run_text ?_
    refine j_pure (pj_move (has_tmp rfl)) rfl rfl rfl ?_
    refine j_pure (pj_move (has_tmp rfl)) rfl rfl rfl ?_
    refine j_pure (pj_len_sl (sz := 1) (has_tmp rfl) (by kernel_rfl)) rfl rfl rfl ?_
    refine j_pure (pj_ilss (has_tmp rfl) (has_tmp rfl)) rfl rfl rfl ?_
    refine j_end ?_
    refine run_cond (has_tmp rfl) (fun e3 => ?_) (fun e3 => ?_)
    · replace h := bt e3 h
      refine run_skip ?_
      refine run_seq ?_
      refine run_block ?_
      obtain ⟨x1, e4, h⟩ := bind_some h
      refine run_draw (n := 6) (by kernel_rfl) (by kernel_rfl) (by kernel_rfl) (by kernel_rfl) (.read (.plain rfl (pj_load_box (has_tmp rfl) .here (Path.all (vec 8 u32)) (by kernel_rfl))) <| .read (.plain rfl (pj_move (has_tmp rfl))) <| .read (.plain rfl (pj_move (has_tmp rfl))) <| .read (.plain rfl (pj_move (has_tmp rfl))) <| .read (.plain rfl (pj_iadd (has_tmp rfl) has_i64)) <| .read (.plain rfl (pj_slice_slx (has_tmp rfl) (.yes (has_tmp rfl) isInt_i64) (.yes (has_tmp rfl) isInt_i64) e4 (by kernel_rfl))) <| .nil) (j_to (Γ' := [(2, val (.pointer (some ⟨b1, 0, none⟩))), (3, val (.pointer (some ⟨b2, 0, none⟩))), (4, (sl u8).slot r2), (5, i64.slot y1), (17, (vec 8 u32).slot y2), (22, (sl u8).slot x1)]) (H' := [box b2 70 (vec 8 u32) y2, box b1 23 R_api_Hash (Vector.replicate 32 (0#8))]) (.cons (.of_lk rfl) <| .cons (.of_lk rfl) <| .cons (.of_lk rfl) <| .cons (.of_lk rfl) <| .cons (.of_lk rfl) <| .cons (.of_lk rfl) <| .nil) (.cons .here <| .cons .here <| .nil) ?_)
      obtain ⟨r3, e5, h⟩ := bind_some h
      refine j_pure (pj_call (hasL_cons (has_tmp rfl) <| hasL_cons (has_tmp rfl) <| hasL_nil) (by kernel_rfl) (c_rolodexref02_take e5)) rfl rfl rfl ?_
      refine j_store_boxx (r' := r3) (has_tmp rfl) (has_tmp rfl) .here (Path.all (vec 8 u32)) (by kernel_rfl) rfl ?_
      refine j_end ?_
      refine run_endblock ?_
      refine run_text ?_
      refine j_pure (pj_move (has_tmp rfl)) rfl rfl rfl ?_
      refine j_pure (pj_iadd (has_tmp rfl) has_i64) rfl rfl rfl ?_
      refine j_pure (pj_assign (has_tmp rfl)) rfl rfl rfl ?_
      refine j_end ?_
      obtain rfl := Option.some.inj h
      exact run_next () (.cons (.of_lk rfl) <| .cons (.of_lk rfl) <| .cons (.of_lk rfl) <| .cons (.of_lk rfl) <| .nil) (.cons .here <| .cons .here <| .nil)
    · replace h := bf e3 h
      obtain rfl := Option.some.inj h
      exact run_brk () (.cons (.of_lk rfl) <| .cons (.of_lk rfl) <| .cons (.of_lk rfl) <| .cons (.of_lk rfl) <| .nil) (.cons .here <| .cons .here <| .nil)
  · rintro _
    show Run _ _ _ [(2, val (.pointer (some ⟨b1, 0, none⟩))), (3, val (.pointer (some ⟨b2, 0, none⟩))), (4, (sl u8).slot r2), (5, i64.slot y3)] [box b2 70 (vec 8 u32) y4, box b1 23 R_api_Hash (Vector.replicate 32 (0#8))]
    refine run_to (Γ' := [(2, val (.pointer (some ⟨b1, 0, none⟩))), (3, val (.pointer (some ⟨b2, 0, none⟩)))]) (H' := [box b2 70 (vec 8 u32) y4, box b1 23 R_api_Hash (Vector.replicate 32 (0#8))]) (.cons (.of_lk rfl) <| .cons (.of_lk rfl) <| .nil) (.cons .here <| .cons .here <| .nil) ?_
    refine run_seq ?_
    refine run_text ?_
    refine j_alloc (x := (Vector.replicate 32 (0#8))) (R := R_api_Hash) (zero_vec 32 zero_un) (by kernel_rfl) rfl fun b3 => ?_
    refine j_end ?_
    refine run_seq ?_
    refine run_seq ?_
    refine run_text ?_
    refine j_pure (pj_assign has_i64) rfl rfl rfl ?_
    refine j_end ?_
    obtain ⟨⟨y7, y8⟩, e11, h⟩ := bind_some h
    refine run_loopS (Γi := fun (i : Unit) (s : Int × T_api_Hash) => [(2, val (.pointer (some ⟨b1, 0, none⟩))), (3, val (.pointer (some ⟨b2, 0, none⟩))), (6, val (.pointer (some ⟨b3, 0, none⟩))), (7, i64.slot s.1)]) (Hi := fun (i : Unit) (s : Int × T_api_Hash) => [box b3 23 R_api_Hash s.2, box b2 70 (vec 8 u32) y4, box b1 23 R_api_Hash (Vector.replicate 32 (0#8))]) e11 () (fun a w hst => (hst.sub (.cons (.of_lk rfl) <| .cons (.of_lk rfl) <| .cons (.of_lk rfl) <| .cons (.of_lk rfl) <| .nil)).keep (.cons .here <| .cons .here <| .cons .here <| .nil)) ?_ ?_
    · clear h e11
      rintro _ ⟨y5, y6⟩ lr h
      change rolodexref02_Sum_L2 y4 y5 y6 = some _ at h
      show Run _ _ _ [(2, val (.pointer (some ⟨b1, 0, none⟩))), (3, val (.pointer (some ⟨b2, 0, none⟩))), (6, val (.pointer (some ⟨b3, 0, none⟩))), (7, i64.slot y5)] [box b3 23 R_api_Hash y6, box b2 70 (vec 8 u32) y4, box b1 23 R_api_Hash (Vector.replicate 32 (0#8))]
      unfold rolodexref02_Sum_L2 at h
      refine run_seq ?_
      refine run_seq ?_
      refine run_text ?_
      refine j_pure (pj_move (has_tmp rfl)) rfl rfl rfl ?_
      refine j_pure (pj_ilss (has_tmp rfl) has_i64) rfl rfl rfl ?_
      refine j_end ?_
      refine run_cond (has_tmp rfl) (fun e7 => ?_) (fun e7 => ?_)
      · replace h := bt e7 h
        refine run_skip ?_
        refine run_seq ?_
        refine run_block ?_
        refine run_text ?_
        refine j_pure (pj_move (has_tmp rfl)) rfl rfl rfl ?_
        refine j_pure (pj_move (has_tmp rfl)) rfl rfl rfl ?_
        refine j_pure (pj_iquo (has_tmp rfl) has_i64 (by decide)) rfl rfl rfl ?_
        obtain ⟨x2, e8, h⟩ := bind_some h
        refine j_pure (pj_index_arr (n := 8) (sz := 1) (has_tmp rfl) (has_tmp rfl) isInt_i64 (vget_some e8).1 (vget_lt e8) (by kernel_rfl)) rfl rfl rfl ?_
        refine j_pure (PJ.eqv (pj_load_box (has_tmp rfl) (.next .here) (Path.then (Path.all (vec 8 u32)) (Path.atI 8 u32 ((w64 (Int.tdiv y5 (4 : Int))).toNat) (vget_some e8).2.1)) (by kernel_rfl)) (vget_eq e8 (vget_some e8).2.1)) rfl rfl rfl ?_
        refine j_pure (pj_move (has_tmp rfl)) rfl rfl rfl ?_
        refine j_pure (pj_irem (has_tmp rfl) has_i64 (by decide)) rfl rfl rfl ?_
        refine j_pure (pj_conv_un (k := .u32) (b := 32) rfl rfl (by kernel_rfl) (has_tmp rfl) isInt_i64) rfl rfl rfl ?_
        refine j_pure (pj_umul (k := .u32) (b := 32) rfl rfl (has_un (x := 8#32) rfl) (has_tmp rfl)) rfl rfl rfl ?_
        refine j_pure (pj_usub (k := .u32) (b := 32) rfl rfl (has_un (x := 24#32) rfl) (has_tmp rfl)) rfl rfl rfl ?_
        refine j_pure (pj_ushr (k := .u32) (b := 32) rfl (has_tmp rfl) (has_tmp rfl) isInt_un (Int.natCast_nonneg _)) rfl rfl rfl ?_
        refine j_pure (pj_conv_uu (k := .u8) (b := 8) rfl rfl (by kernel_rfl) (has_tmp rfl)) rfl rfl rfl ?_
        obtain ⟨e9, h⟩ := grd_some h
        refine j_pure (pj_index_arr (n := 32) (sz := 1) (has_tmp rfl) (has_tmp rfl) isInt_i64 e9.1 e9.2 (by kernel_rfl)) rfl rfl rfl ?_
        obtain ⟨x3, e10, h⟩ := bind_some h
        refine j_store_boxx (r' := x3) (has_tmp rfl) (has_tmp rfl) .here (Path.then (Path.all R_api_Hash) (Path.atI 32 u8 y5.toNat (lt_nat e9))) (by kernel_rfl) (Option.some.inj e10) ?_
        refine j_end ?_
        refine run_endblock ?_
        refine run_text ?_
        refine j_pure (pj_move (has_tmp rfl)) rfl rfl rfl ?_
        refine j_pure (pj_iadd (has_tmp rfl) has_i64) rfl rfl rfl ?_
        refine j_pure (pj_assign (has_tmp rfl)) rfl rfl rfl ?_
        refine j_end ?_
        obtain rfl := Option.some.inj h
        exact run_next () (.cons (.of_lk rfl) <| .cons (.of_lk rfl) <| .cons (.of_lk rfl) <| .cons (.of_lk rfl) <| .nil) (.cons .here <| .cons .here <| .cons .here <| .nil)
      · replace h := bf e7 h
        obtain rfl := Option.some.inj h
        exact run_brk () (.cons (.of_lk rfl) <| .cons (.of_lk rfl) <| .cons (.of_lk rfl) <| .cons (.of_lk rfl) <| .nil) (.cons .here <| .cons .here <| .cons .here <| .nil)
    · rintro _
      show Run _ _ _ [(2, val (.pointer (some ⟨b1, 0, none⟩))), (3, val (.pointer (some ⟨b2, 0, none⟩))), (6, val (.pointer (some ⟨b3, 0, none⟩))), (7, i64.slot y7)] [box b3 23 R_api_Hash y8, box b2 70 (vec 8 u32) y4, box b1 23 R_api_Hash (Vector.replicate 32 (0#8))]
      refine run_to (Γ' := [(2, val (.pointer (some ⟨b1, 0, none⟩))), (6, val (.pointer (some ⟨b3, 0, none⟩)))]) (H' := [box b3 23 R_api_Hash y8, box b1 23 R_api_Hash (Vector.replicate 32 (0#8))]) (.cons (.of_lk rfl) <| .cons (.of_lk rfl) <| .nil) (.cons .here <| .cons (.next .here) <| .nil) ?_
      refine run_seq ?_
      refine run_text ?_
      refine j_pure (pj_load_box (has_tmp rfl) .here (Path.all R_api_Hash) (by kernel_rfl)) rfl rfl rfl ?_
      refine j_store_boxx (r' := y8) (has_tmp rfl) (has_tmp rfl) (.next .here) (Path.all R_api_Hash) (by kernel_rfl) rfl ?_
      refine j_end ?_
      obtain rfl := Option.some.inj h
      exact run_ret fun a w hst => q_ret1 hst rfl (.cell rfl .here (by kernel_rfl)) () (fun _ _ h => h) (.nil)
set_option maxRecDepth 100000 in
set_option maxHeartbeats 4000000 in
theorem c_rolodexref04_Under {G : GP} {p_id : T_api_ID} {p_q : BitVec 32} {p_i : Int} {p_b : List (BitVec 8)} {r : T_api_Hash} (h : rolodexref04_Under p_id p_q p_i p_b = some r) : Ctr Tryd.prog G 58 [R_api_ID.slot p_id, u32.slot p_q, i64.slot p_i, (sl u8).slot p_b] [] (fun (_ : Unit) => R_api_Hash.slot r) (fun (_ : Unit) => []) := by
  unfold rolodexref04_Under at h
  refine ctr_of_run Tryd.func58 rfl 28 rfl rfl fun m0 w0 b0 => ?_
  show Run _ _ _ [(0, R_api_ID.slot p_id), (1, u32.slot p_q), (2, i64.slot p_i), (3, (sl u8).slot p_b)] _
  refine run_seq ?_
  refine run_text ?_
  refine j_pure (pj_box_to (has_tmp rfl)) rfl rfl rfl ?_
  refine j_alloc (x := (Vector.replicate 32 (0#8))) (R := R_api_Hash) (zero_vec 32 zero_un) (by kernel_rfl) rfl fun b1 => ?_
  refine j_end ?_
  refine run_seq ?_
  refine run_text ?_
  refine j_assign_nil (T := 5) u8 rfl fun v1 => ?_
  refine j_end ?_
  refine run_seq ?_
  refine run_text ?_
  refine j_pure (pj_move (has_tmp rfl)) rfl rfl rfl ?_
  refine j_pure (pj_slice_toF (has_tmp rfl) (by decide) (by kernel_rfl)) rfl rfl rfl ?_
  obtain ⟨e1, h⟩ := grd_some h
  refine j_append (T := 5) (E := 5) (has_tmp rfl) .here (src_data (has_tmp rfl)) (by kernel_rfl) (by kernel_rfl) e1 rfl fun v2 => ?_
  refine j_pure (pj_assign (has_tmp rfl)) rfl rfl rfl ?_
  refine j_end ?_
  refine run_seq ?_
  refine run_text ?_
  refine j_pure (pj_move (has_tmp rfl)) rfl rfl rfl ?_
  refine j_pure (pj_move (has_tmp rfl)) rfl rfl rfl ?_
  refine j_pure (pj_conv_uu (k := .u64) (b := 64) rfl rfl (by kernel_rfl) (has_tmp rfl)) rfl rfl rfl ?_
  obtain ⟨r1, e2, h⟩ := bind_some h
  refine j_pure (pj_call (hasL_cons (has_tmp rfl) <| hasL_cons has_i64 <| hasL_nil) (by kernel_rfl) (Ctr.froze (c_rolodexref01_Number e2))) rfl rfl rfl ?_
  obtain ⟨e3, h⟩ := grd_some h
  refine j_append (T := 5) (E := 5) (has_tmp rfl) .here (src_data (has_tmp rfl)) (by kernel_rfl) (by kernel_rfl) e3 rfl fun v3 => ?_
  refine j_pure (pj_assign (has_tmp rfl)) rfl rfl rfl ?_
  refine j_end ?_
  refine run_seq ?_
  refine run_text ?_
  refine j_pure (pj_move (has_tmp rfl)) rfl rfl rfl ?_
  refine j_pure (pj_move (has_tmp rfl)) rfl rfl rfl ?_
  refine j_pure (pj_conv_un (k := .u64) (b := 64) rfl rfl (by kernel_rfl) (has_tmp rfl) isInt_i64) rfl rfl rfl ?_
  obtain ⟨r2, e4, h⟩ := bind_some h
  refine j_pure (pj_call (hasL_cons (has_tmp rfl) <| hasL_cons has_i64 <| hasL_nil) (by kernel_rfl) (Ctr.froze (c_rolodexref01_Number e4))) rfl rfl rfl ?_
  obtain ⟨e5, h⟩ := grd_some h
  refine j_append (T := 5) (E := 5) (has_tmp rfl) .here (src_data (has_tmp rfl)) (by kernel_rfl) (by kernel_rfl) e5 rfl fun v4 => ?_
  refine j_pure (pj_assign (has_tmp rfl)) rfl rfl rfl ?_
  refine j_end ?_
  refine run_seq ?_
  refine run_text ?_
  refine j_pure (pj_move (has_tmp rfl)) rfl rfl rfl ?_
  refine j_pure (pj_move (has_tmp rfl)) rfl rfl rfl ?_
  obtain ⟨e6, h⟩ := grd_some h
  refine j_append (T := 5) (E := 5) (has_tmp rfl) .here (src_data (has_tmp rfl)) (by kernel_rfl) (by kernel_rfl) e6 rfl fun v5 => ?_
  refine j_pure (pj_assign (has_tmp rfl)) rfl rfl rfl ?_
  refine j_end ?_
  refine run_seq ?_
  refine run_text ?_
  refine j_pure (pj_move (has_tmp rfl)) rfl rfl rfl ?_
  obtain ⟨r3, e7, h⟩ := bind_some h
  refine j_pure (pj_callB (hasBL_cons (hasB_own (has_tmp rfl) .here) <| hasBL_nil) (by kernel_rfl) (c_rolodexref02_Sum e7) (Rep.flat_slot (flat_vec _ (flat_un _ _)) _)) rfl rfl rfl ?_
  refine j_store_boxx (r' := r3) (has_tmp rfl) (has_tmp rfl) (.next .here) (Path.all R_api_Hash) (by kernel_rfl) rfl ?_
  refine j_end ?_
  obtain rfl := Option.some.inj h
  exact run_ret fun a w hst => q_ret1 hst rfl (.cell rfl .here (by kernel_rfl)) () (fun _ _ h => h) (.nil)
set_option maxRecDepth 100000 in
set_option maxHeartbeats 4000000 in
theorem c_rolodexref04_with {G : GP} {p_c : BitVec 8} {p_b : List (BitVec 8)} {r : (List (BitVec 8))} (h : rolodexref04_with p_c p_b = some r) : Ctr Tryd.prog G 76 [u8.slot p_c, (sl u8).slot p_b] [] (fun (u0 : Value) => ov u0) (fun (u0 : Value) => [own 5 u8 u0 r]) := by
  unfold rolodexref04_with at h
  refine ctr_of_run Tryd.func76 rfl 11 rfl rfl fun m0 w0 b0 => ?_
  show Run _ _ _ [(0, u8.slot p_c), (1, (sl u8).slot p_b)] _
  refine run_seq ?_
  refine run_text ?_
  refine j_assign_nil (T := 5) u8 rfl fun v1 => ?_
  refine j_end ?_
  refine run_seq ?_
  refine run_text ?_
  refine j_pure (pj_move (has_tmp rfl)) rfl rfl rfl ?_
  refine j_buildSlice (T := 5) (R := u8) (.cons (has_tmp rfl) .nil) rfl (by kernel_rfl) (by kernel_rfl) rfl fun v2 => ?_
  refine j_pure (pj_assign (has_tmp rfl)) rfl rfl rfl ?_
  refine j_end ?_
  refine run_seq ?_
  refine run_text ?_
  refine j_pure (pj_move (has_tmp rfl)) rfl rfl rfl ?_
  refine j_pure (pj_move (has_tmp rfl)) rfl rfl rfl ?_
  obtain ⟨e1, h⟩ := grd_some h
  refine j_append (T := 5) (E := 5) (has_tmp rfl) .here (src_data (has_tmp rfl)) (by kernel_rfl) (by kernel_rfl) e1 rfl fun v3 => ?_
  refine j_pure (pj_assign (has_tmp rfl)) rfl rfl rfl ?_
  refine j_end ?_
  obtain rfl := Option.some.inj h
  exact run_ret fun a w hst => q_ret1 hst rfl (.tmp rfl) v3 (fun _ _ h => h) (.cons .here <| .nil)
set_option maxRecDepth 100000 in
set_option maxHeartbeats 4000000 in
theorem c_rolodexref04_Steps {G : GP} {p_id : T_api_ID} {p_q : BitVec 32} {p_i : Int} {p_h : T_api_Hash} {p_from : Int} {p_to : Int} {r : T_api_Hash} (h : rolodexref04_Steps p_id p_q p_i p_h p_from p_to = some r) : Ctr Tryd.prog G 56 [R_api_ID.slot p_id, u32.slot p_q, i64.slot p_i, R_api_Hash.slot p_h, i64.slot p_from, i64.slot p_to] [] (fun (_ : Unit) => R_api_Hash.slot r) (fun (_ : Unit) => []) := by
  unfold rolodexref04_Steps at h
  refine ctr_of_run Tryd.func56 rfl 29 rfl rfl fun m0 w0 b0 => ?_
  show Run _ _ _ [(0, R_api_ID.slot p_id), (1, u32.slot p_q), (2, i64.slot p_i), (3, R_api_Hash.slot p_h), (4, i64.slot p_from), (5, i64.slot p_to)] _
  refine run_seq ?_
  refine run_text ?_
  refine j_pure (pj_box_to (has_tmp rfl)) rfl rfl rfl ?_
  refine j_box (has_tmp rfl) rfl fun b1 => ?_
  refine j_alloc (x := (Vector.replicate 32 (0#8))) (R := R_api_Hash) (zero_vec 32 zero_un) (by kernel_rfl) rfl fun b2 => ?_
  refine j_end ?_
  refine run_seq ?_
  refine run_seq ?_
  refine run_text ?_
  refine j_pure (pj_move (has_tmp rfl)) rfl rfl rfl ?_
  refine j_pure (pj_assign (has_tmp rfl)) rfl rfl rfl ?_
  refine j_end ?_
  obtain ⟨⟨y3, y4⟩, e4, h⟩ := bind_some h
  refine run_loopS (Γi := fun (i : Unit) (s : Int × T_api_Hash) => [(1, u32.slot p_q), (2, i64.slot p_i), (5, i64.slot p_to), (6, ptrTo R_api_ID p_id), (9, val (.pointer (some ⟨b1, 0, none⟩))), (12, val (.pointer (some ⟨b2, 0, none⟩))), (13, i64.slot s.1)]) (Hi := fun (i : Unit) (s : Int × T_api_Hash) => [box b2 23 R_api_Hash (Vector.replicate 32 (0#8)), box b1 23 R_api_Hash s.2]) e4 () (fun a w hst => (hst.sub (.cons (.of_lk rfl) <| .cons (.of_lk rfl) <| .cons (.of_lk rfl) <| .cons (.of_lk rfl) <| .cons (.of_lk rfl) <| .cons (.of_lk rfl) <| .cons (.of_lk rfl) <| .nil)).keep (.cons .here <| .cons .here <| .nil)) ?_ ?_
  · clear h e4
    rintro _ ⟨y1, y2⟩ lr h
    change rolodexref04_Steps_L1 p_to p_id p_q p_i y1 y2 = some _ at h
    show Run _ _ _ [(1, u32.slot p_q), (2, i64.slot p_i), (5, i64.slot p_to), (6, ptrTo R_api_ID p_id), (9, val (.pointer (some ⟨b1, 0, none⟩))), (12, val (.pointer (some ⟨b2, 0, none⟩))), (13, i64.slot y1)] [box b2 23 R_api_Hash (Vector.replicate 32 (0#8)), box b1 23 R_api_Hash y2]
    unfold rolodexref04_Steps_L1 at h
    refine run_seq ?_
    refine run_seq ?_
    refine run_text ?_
    refine j_pure (pj_move (has_tmp rfl)) rfl rfl rfl ?_
    refine j_pure (pj_move (has_tmp rfl)) rfl rfl rfl ?_
    refine j_pure (pj_ilss (has_tmp rfl) (has_tmp rfl)) rfl rfl rfl ?_
    refine j_end ?_
    refine run_cond (has_tmp rfl) (fun e1 => ?_) (fun e1 => ?_)
    · replace h := bt e1 h
      refine run_skip ?_
      refine run_seq ?_
      refine run_block ?_
      obtain ⟨r1, e2, h⟩ := bind_some h
      refine run_draw (n := 7) (by kernel_rfl) (by kernel_rfl) (by kernel_rfl) (by kernel_rfl) (.read (.plain rfl (pj_load_to (has_tmp rfl) (by kernel_rfl))) <| .read (.plain rfl (pj_move (has_tmp rfl))) <| .read (.plain rfl (pj_move (has_tmp rfl))) <| .read (.plain rfl (pj_move (has_tmp rfl))) <| .read (.plain rfl (pj_conv_un (k := .u8) (b := 8) rfl rfl (by kernel_rfl) (has_tmp rfl) isInt_i64)) <| .read (.plain rfl (pj_slice_arrc (lo := 0) (sz := 1) (n := 32) (has_tmp rfl) .no .no 32 32 rfl (by kernel_rfl))) <| .read (.plain rfl (pj_callBF (hasBL_cons (hasB_of (has_tmp rfl)) <| hasBL_cons (hasB_arrF (has_tmp rfl) (.next .here) (by decide)) <| hasBL_nil) (by kernel_rfl) (c_rolodexref04_with e2) (flat_un _ _))) <| .nil) (j_to (Γ' := [(1, u32.slot p_q), (2, i64.slot p_i), (5, i64.slot p_to), (6, ptrTo R_api_ID p_id), (9, val (.pointer (some ⟨b1, 0, none⟩))), (12, val (.pointer (some ⟨b2, 0, none⟩))), (13, i64.slot y1), (20, R_api_ID.slot p_id), (21, u32.slot p_q), (22, i64.slot p_i), (26, (sl u8).slot r1)]) (H' := [box b2 23 R_api_Hash (Vector.replicate 32 (0#8)), box b1 23 R_api_Hash y2]) (.cons (.of_lk rfl) <| .cons (.of_lk rfl) <| .cons (.of_lk rfl) <| .cons (.of_lk rfl) <| .cons (.of_lk rfl) <| .cons (.of_lk rfl) <| .cons (.of_lk rfl) <| .cons (.of_lk rfl) <| .cons (.of_lk rfl) <| .cons (.of_lk rfl) <| .cons (.of_lk rfl) <| .nil) (.cons .here <| .cons .here <| .nil) ?_)
      obtain ⟨r2, e3, h⟩ := bind_some h
      refine j_pure (pj_call (hasL_cons (has_tmp rfl) <| hasL_cons (has_tmp rfl) <| hasL_cons (has_tmp rfl) <| hasL_cons (has_tmp rfl) <| hasL_nil) (by kernel_rfl) (c_rolodexref04_Under e3)) rfl rfl rfl ?_
      refine j_store_boxx (r' := r2) (has_tmp rfl) (has_tmp rfl) (.next .here) (Path.all R_api_Hash) (by kernel_rfl) rfl ?_
      refine j_end ?_
      refine run_endblock ?_
      refine run_text ?_
      refine j_pure (pj_move (has_tmp rfl)) rfl rfl rfl ?_
      refine j_pure (pj_iadd (has_tmp rfl) has_i64) rfl rfl rfl ?_
      refine j_pure (pj_assign (has_tmp rfl)) rfl rfl rfl ?_
      refine j_end ?_
      obtain rfl := Option.some.inj h
      exact run_next () (.cons (.of_lk rfl) <| .cons (.of_lk rfl) <| .cons (.of_lk rfl) <| .cons (.of_lk rfl) <| .cons (.of_lk rfl) <| .cons (.of_lk rfl) <| .cons (.of_lk rfl) <| .nil) (.cons (.next .here) <| .cons .here <| .nil)
    · replace h := bf e1 h
      obtain rfl := Option.some.inj h
      exact run_brk () (.cons (.of_lk rfl) <| .cons (.of_lk rfl) <| .cons (.of_lk rfl) <| .cons (.of_lk rfl) <| .cons (.of_lk rfl) <| .cons (.of_lk rfl) <| .cons (.of_lk rfl) <| .nil) (.cons .here <| .cons .here <| .nil)
  · rintro _
    show Run _ _ _ [(1, u32.slot p_q), (2, i64.slot p_i), (5, i64.slot p_to), (6, ptrTo R_api_ID p_id), (9, val (.pointer (some ⟨b1, 0, none⟩))), (12, val (.pointer (some ⟨b2, 0, none⟩))), (13, i64.slot y3)] [box b2 23 R_api_Hash (Vector.replicate 32 (0#8)), box b1 23 R_api_Hash y4]
    refine run_to (Γ' := [(9, val (.pointer (some ⟨b1, 0, none⟩))), (12, val (.pointer (some ⟨b2, 0, none⟩)))]) (H' := [box b2 23 R_api_Hash (Vector.replicate 32 (0#8)), box b1 23 R_api_Hash y4]) (.cons (.of_lk rfl) <| .cons (.of_lk rfl) <| .nil) (.cons .here <| .cons .here <| .nil) ?_
    refine run_seq ?_
    refine run_text ?_
    refine j_pure (pj_load_box (has_tmp rfl) (.next .here) (Path.all R_api_Hash) (by kernel_rfl)) rfl rfl rfl ?_
    refine j_store_boxx (r' := y4) (has_tmp rfl) (has_tmp rfl) .here (Path.all R_api_Hash) (by kernel_rfl) rfl ?_
    refine j_end ?_
    obtain rfl := Option.some.inj h
    exact run_ret fun a w hst => q_ret1 hst rfl (.cell rfl .here (by kernel_rfl)) () (fun _ _ h => h) (.nil)
set_option maxRecDepth 100000 in
set_option maxHeartbeats 4000000 in
theorem c_rolodexref04_Hashed {G : GP} {p_id : T_api_ID} {p_q : BitVec 32} {p_salt : List (BitVec 8)} {p_message : List (BitVec 8)} {r : T_api_Hash} (h : rolodexref04_Hashed p_id p_q p_salt p_message = some r) : Ctr Tryd.prog G 63 [R_api_ID.slot p_id, u32.slot p_q, (sl u8).slot p_salt, (sl u8).slot p_message] [] (fun (_ : Unit) => R_api_Hash.slot r) (fun (_ : Unit) => []) := by
  unfold rolodexref04_Hashed at h
  refine ctr_of_run Tryd.func63 rfl 20 rfl rfl fun m0 w0 b0 => ?_
  show Run _ _ _ [(0, R_api_ID.slot p_id), (1, u32.slot p_q), (2, (sl u8).slot p_salt), (3, (sl u8).slot p_message)] _
  refine run_seq ?_
  refine run_text ?_
  refine j_pure (pj_box_to (has_tmp rfl)) rfl rfl rfl ?_
  refine j_alloc (x := (Vector.replicate 32 (0#8))) (R := R_api_Hash) (zero_vec 32 zero_un) (by kernel_rfl) rfl fun b1 => ?_
  refine j_end ?_
  refine run_seq ?_
  refine run_text ?_
  refine j_assign_nil (T := 5) u8 rfl fun v1 => ?_
  refine j_end ?_
  refine run_seq ?_
  refine run_text ?_
  refine j_pure (pj_move (has_tmp rfl)) rfl rfl rfl ?_
  refine j_pure (pj_move (has_tmp rfl)) rfl rfl rfl ?_
  obtain ⟨e1, h⟩ := grd_some h
  refine j_append (T := 5) (E := 5) (has_tmp rfl) .here (src_data (has_tmp rfl)) (by kernel_rfl) (by kernel_rfl) e1 rfl fun v2 => ?_
  refine j_pure (pj_assign (has_tmp rfl)) rfl rfl rfl ?_
  refine j_end ?_
  refine run_seq ?_
  refine run_text ?_
  refine j_pure (pj_move (has_tmp rfl)) rfl rfl rfl ?_
  refine j_pure (pj_move (has_tmp rfl)) rfl rfl rfl ?_
  obtain ⟨e2, h⟩ := grd_some h
  refine j_append (T := 5) (E := 5) (has_tmp rfl) .here (src_data (has_tmp rfl)) (by kernel_rfl) (by kernel_rfl) e2 rfl fun v3 => ?_
  refine j_pure (pj_assign (has_tmp rfl)) rfl rfl rfl ?_
  refine j_end ?_
  refine run_seq ?_
  refine run_text ?_
  refine j_pure (pj_load_to (has_tmp rfl) (by kernel_rfl)) rfl rfl rfl ?_
  refine j_pure (pj_move (has_tmp rfl)) rfl rfl rfl ?_
  refine j_pure (pj_move (has_tmp rfl)) rfl rfl rfl ?_
  obtain ⟨r1, e3, h⟩ := bind_some h
  refine j_pure (pj_callB (hasBL_cons (hasB_of (has_tmp rfl)) <| hasBL_cons (hasB_of (has_tmp rfl)) <| hasBL_cons (hasB_of has_i64) <| hasBL_cons (hasB_own (has_tmp rfl) .here) <| hasBL_nil) (by kernel_rfl) (c_rolodexref04_Under e3) (Rep.flat_slot (flat_vec _ (flat_un _ _)) _)) rfl rfl rfl ?_
  refine j_store_boxx (r' := r1) (has_tmp rfl) (has_tmp rfl) (.next .here) (Path.all R_api_Hash) (by kernel_rfl) rfl ?_
  refine j_end ?_
  obtain rfl := Option.some.inj h
  exact run_ret fun a w hst => q_ret1 hst rfl (.cell rfl .here (by kernel_rfl)) () (fun _ _ h => h) (.nil)
set_option maxRecDepth 100000 in
set_option maxHeartbeats 4000000 in
theorem c_rolodexref04_Recover {G : GP} {p_id : T_api_ID} {p_q : BitVec 32} {p_message : List (BitVec 8)} {p_sig : List (BitVec 8)} {r : T_api_Hash × Bool} (h : rolodexref04_Recover p_id p_q p_message p_sig = some r) : Ctr Tryd.prog G 40 [R_api_ID.slot p_id, u32.slot p_q, (sl u8).slot p_message, (sl u8).slot p_sig] [] (fun (_ : Unit) => tup [R_api_Hash.slot r.1, bl.slot r.2]) (fun (_ : Unit) => []) := by
  unfold rolodexref04_Recover at h
  refine ctr_of_run Tryd.func40 rfl 81 rfl rfl fun m0 w0 b0 => ?_
  show Run _ _ _ [(0, R_api_ID.slot p_id), (1, u32.slot p_q), (2, (sl u8).slot p_message), (3, (sl u8).slot p_sig)] _
  refine run_seq ?_
  refine run_text ?_
  refine j_pure (pj_box_to (has_tmp rfl)) rfl rfl rfl ?_
  refine j_alloc (x := (Vector.replicate 32 (0#8))) (R := R_api_Hash) (zero_vec 32 zero_un) (by kernel_rfl) rfl fun b1 => ?_
  refine j_pure (pj_assign has_bl) rfl rfl rfl ?_
  refine j_end ?_
  refine run_seq ?_
  refine run_seq ?_
  refine run_text ?_
  refine j_pure (pj_move (has_tmp rfl)) rfl rfl rfl ?_
  refine j_pure (pj_len_sl (sz := 1) (has_tmp rfl) (by kernel_rfl)) rfl rfl rfl ?_
  refine j_pure (pj_ilss (has_tmp rfl) has_i64) rfl rfl rfl ?_
  refine j_end ?_
  refine run_cond (has_tmp rfl) (fun e1 => ?_) (fun e1 => ?_)
  · replace h := bt e1 h
    refine run_seq ?_
    refine run_text ?_
    refine j_pure (pj_build (R := R_api_Hash) (zero_vec 32 zero_un) (by kernel_rfl) (by kernel_rfl) rfl .nil) rfl rfl rfl ?_
    refine j_store_boxx (r' := (Vector.replicate 32 (0#8))) (has_tmp rfl) (has_tmp rfl) .here (Path.all R_api_Hash) (by kernel_rfl) rfl ?_
    refine j_pure (pj_assign has_bl) rfl rfl rfl ?_
    refine j_end ?_
    obtain rfl := Option.some.inj h
    exact run_ret fun a w hst => q_retN hst rfl (.cons (.cell rfl .here (by kernel_rfl)) <| .cons (.tmp rfl) <| .nil) rfl () (fun _ _ h => h) (.nil)
  · replace h := bf e1 h
    refine run_skip ?_
    refine run_seq ?_
    refine run_text ?_
    refine j_pure (pj_move (has_tmp rfl)) rfl rfl rfl ?_
    obtain ⟨x1, e2, h⟩ := bind_some h
    refine j_pure (pj_slice_slx (has_tmp rfl) .no (.yes has_i64 isInt_i64) e2 (by kernel_rfl)) rfl rfl rfl ?_
    obtain ⟨r1, e3, h⟩ := bind_some h
    refine j_pure (pj_call (hasL_cons (has_tmp rfl) <| hasL_nil) (by kernel_rfl) (c_rolodexref01_Value e3)) rfl rfl rfl ?_
    refine j_pure (pj_assign (has_tmp rfl)) rfl rfl rfl ?_
    refine j_end ?_
    refine run_seq ?_
    refine run_seq ?_
    refine run_text ?_
    refine j_pure (pj_move (has_tmp rfl)) rfl rfl rfl ?_
    refine j_pure (pj_ulss (k := .u64) (b := 64) (has_tmp rfl) (has_un (x := 1#64) rfl)) rfl rfl rfl ?_
    refine j_pure (pj_move (has_tmp rfl)) rfl rfl rfl ?_
    obtain ⟨y1, e5, h⟩ := bind_some h
    refine j_joinx (ι := Unit) (Γ' := fun _ => [(1, u32.slot p_q), (2, (sl u8).slot p_message), (3, (sl u8).slot p_sig), (4, ptrTo R_api_ID p_id), (8, val (.pointer (some ⟨b1, 0, none⟩))), (10, u64.slot r1), (28, bl.slot y1)]) (H' := fun _ => [box b1 23 R_api_Hash (Vector.replicate 32 (0#8))]) 3 ?_ fun J => ?_
    · intro _
      clear e5
      show OpsJ _ _ _ [(1, u32.slot p_q), (2, (sl u8).slot p_message), (3, (sl u8).slot p_sig), (4, ptrTo R_api_ID p_id), (8, val (.pointer (some ⟨b1, 0, none⟩))), (10, u64.slot r1), (28, bl.slot y1)] [box b1 23 R_api_Hash (Vector.replicate 32 (0#8))] _
      refine j_pure (pj_move (has_tmp rfl)) rfl rfl rfl ?_
      obtain ⟨y2, e7, h⟩ := bind_some h
      refine j_joinx (ι := Unit) (Γ' := fun _ => [(1, u32.slot p_q), (2, (sl u8).slot p_message), (3, (sl u8).slot p_sig), (4, ptrTo R_api_ID p_id), (8, val (.pointer (some ⟨b1, 0, none⟩))), (10, u64.slot r1), (36, bl.slot y2)]) (H' := fun _ => [box b1 23 R_api_Hash (Vector.replicate 32 (0#8))]) 7 ?_ fun J => ?_
      · intro _
        clear e7
        show OpsJ _ _ _ [(1, u32.slot p_q), (2, (sl u8).slot p_message), (3, (sl u8).slot p_sig), (4, ptrTo R_api_ID p_id), (8, val (.pointer (some ⟨b1, 0, none⟩))), (10, u64.slot r1), (36, bl.slot y2)] [box b1 23 R_api_Hash (Vector.replicate 32 (0#8))] _
        refine j_end ?_
        refine run_cond (has_tmp rfl) (fun e9 => ?_) (fun e9 => ?_)
        · replace h := bt e9 h
          refine run_seq ?_
          refine run_text ?_
          refine j_pure (pj_build (R := R_api_Hash) (zero_vec 32 zero_un) (by kernel_rfl) (by kernel_rfl) rfl .nil) rfl rfl rfl ?_
          refine j_store_boxx (r' := (Vector.replicate 32 (0#8))) (has_tmp rfl) (has_tmp rfl) .here (Path.all R_api_Hash) (by kernel_rfl) rfl ?_
          refine j_pure (pj_assign has_bl) rfl rfl rfl ?_
          refine j_end ?_
          obtain rfl := Option.some.inj h
          exact run_ret fun a w hst => q_retN hst rfl (.cons (.cell rfl .here (by kernel_rfl)) <| .cons (.tmp rfl) <| .nil) rfl () (fun _ _ h => h) (.nil)
        · replace h := bf e9 h
          refine run_skip ?_
          refine run_seq ?_
          refine run_text ?_
          refine j_pure (pj_move (has_tmp rfl)) rfl rfl rfl ?_
          refine j_pure (pj_conv_i64 (by kernel_rfl) (has_tmp rfl) isInt_un) rfl rfl rfl ?_
          refine j_pure (pj_assign (has_tmp rfl)) rfl rfl rfl ?_
          refine j_end ?_
          refine run_seq ?_
          obtain ⟨x2, e10, h⟩ := bind_some h
          obtain ⟨r3, e11, h⟩ := bind_some h
          refine run_draw (n := 7) (by kernel_rfl) (by kernel_rfl) (by kernel_rfl) (by kernel_rfl) (.read (.plain rfl (pj_move (has_tmp rfl))) <| .read (.plain rfl (pj_load_to (has_tmp rfl) (by kernel_rfl))) <| .read (.plain rfl (pj_move (has_tmp rfl))) <| .read (.plain rfl (pj_move (has_tmp rfl))) <| .read (.plain rfl (pj_slice_slx (has_tmp rfl) (.yes has_i64 isInt_i64) (.yes has_i64 isInt_i64) e10 (by kernel_rfl))) <| .read (.plain rfl (pj_move (has_tmp rfl))) <| .read (.plain rfl (pj_call (hasL_cons (has_tmp rfl) <| hasL_cons (has_tmp rfl) <| hasL_cons (has_tmp rfl) <| hasL_cons (has_tmp rfl) <| hasL_nil) (by kernel_rfl) (c_rolodexref04_Hashed e11))) <| .nil) (j_to (Γ' := [(1, u32.slot p_q), (3, (sl u8).slot p_sig), (4, ptrTo R_api_ID p_id), (8, val (.pointer (some ⟨b1, 0, none⟩))), (11, i64.slot (w64 (r1.toNat : Int))), (40, i64.slot (w64 (r1.toNat : Int))), (46, R_api_Hash.slot r3)]) (H' := [box b1 23 R_api_Hash (Vector.replicate 32 (0#8))]) (.cons (.of_lk rfl) <| .cons (.of_lk rfl) <| .cons (.of_lk rfl) <| .cons (.of_lk rfl) <| .cons (.of_lk rfl) <| .cons (.of_lk rfl) <| .cons (.of_lk rfl) <| .nil) (.cons .here <| .nil) ?_)
          obtain ⟨r4, e12, h⟩ := bind_some h
          refine j_pure (pj_call (hasL_cons (has_tmp rfl) <| hasL_cons (has_tmp rfl) <| hasL_nil) (by kernel_rfl) (Ctr.froze (c_rolodexref04_Digits e12))) rfl rfl rfl ?_
          refine j_pure (pj_assign (has_tmp rfl)) rfl rfl rfl ?_
          refine j_end ?_
          refine run_seq ?_
          refine run_text ?_
          refine j_assign_nil (T := 5) u8 rfl fun v1 => ?_
          refine j_end ?_
          refine run_seq ?_
          refine run_seq ?_
          refine run_text ?_
          refine j_pure (pj_assign has_i64) rfl rfl rfl ?_
          refine j_end ?_
          obtain ⟨⟨y5, y6⟩, e20, h⟩ := bind_some h
          refine run_loopS (Γi := fun (i : Value) (s : Int × (List (BitVec 8))) => [(1, u32.slot p_q), (3, (sl u8).slot p_sig), (4, ptrTo R_api_ID p_id), (8, val (.pointer (some ⟨b1, 0, none⟩))), (11, i64.slot (w64 (r1.toNat : Int))), (12, (sl i64).slot r4), (13, ov i), (14, i64.slot s.1)]) (Hi := fun (i : Value) (s : Int × (List (BitVec 8))) => [own 5 u8 i s.2, box b1 23 R_api_Hash (Vector.replicate 32 (0#8))]) e20 v1 (fun a w hst => (hst.sub (.cons (.of_lk rfl) <| .cons (.of_lk rfl) <| .cons (.of_lk rfl) <| .cons (.of_lk rfl) <| .cons (.of_lk rfl) <| .cons (.of_lk rfl) <| .cons (.of_lk rfl) <| .cons (.of_lk rfl) <| .nil)).keep (.cons .here <| .cons .here <| .nil)) ?_ ?_
          · clear h e20
            rintro v2 ⟨y3, y4⟩ lr h
            change rolodexref04_Recover_L1 r4 p_sig r1 p_id p_q y3 y4 = some _ at h
            show Run _ _ _ [(1, u32.slot p_q), (3, (sl u8).slot p_sig), (4, ptrTo R_api_ID p_id), (8, val (.pointer (some ⟨b1, 0, none⟩))), (11, i64.slot (w64 (r1.toNat : Int))), (12, (sl i64).slot r4), (13, ov v2), (14, i64.slot y3)] [own 5 u8 v2 y4, box b1 23 R_api_Hash (Vector.replicate 32 (0#8))]
            unfold rolodexref04_Recover_L1 at h
            refine run_seq ?_
            refine run_seq ?_
            refine run_text ?_
            refine j_pure (pj_move (has_tmp rfl)) rfl rfl rfl ?_
            refine j_pure (pj_move (has_tmp rfl)) rfl rfl rfl ?_
            refine j_pure (pj_len_sl (sz := 1) (has_tmp rfl) (by kernel_rfl)) rfl rfl rfl ?_
            refine j_pure (pj_ilss (has_tmp rfl) (has_tmp rfl)) rfl rfl rfl ?_
            refine j_end ?_
            refine run_cond (has_tmp rfl) (fun e13 => ?_) (fun e13 => ?_)
            · replace h := bt e13 h
              refine run_skip ?_
              refine run_seq ?_
              refine run_block ?_
              refine run_seq ?_
              obtain ⟨x3, e14, h⟩ := bind_some h
              obtain ⟨x4, e15, h⟩ := bind_some h
              obtain ⟨x5, e16, h⟩ := bind_some h
              obtain ⟨r5, e17, h⟩ := bind_some h
              obtain ⟨r6, e18, h⟩ := bind_some h
              refine run_keep (H' := [own 5 u8 v2 y4, box b1 23 R_api_Hash (Vector.replicate 32 (0#8))]) (.cons .here <| .cons .here <| .nil) ?_
              refine run_drawL (n := 21) (H := [own 5 u8 v2 y4, box b1 23 R_api_Hash (Vector.replicate 32 (0#8))]) (Ls := [⟨[], [(20, ⟨Nat, fun (b2 : Nat) => [box b2 23 R_api_Hash (Vector.replicate 32 (0#8))], fun (b2 : Nat) => [(15, val (.pointer (some ⟨b2, 0, none⟩)))]⟩)]⟩]) (by kernel_rfl) (by kernel_rfl) (by kernel_rfl) (by kernel_rfl) (by kernel_rfl) rfl (.read rfl (.plain rfl (pj_load_to (has_tmp rfl) (by kernel_rfl))) <| .read rfl (.plain rfl (pj_move (has_tmp rfl))) <| .read rfl (.plain rfl (pj_move (has_tmp rfl))) <| .read rfl (.plain rfl (pj_move (has_tmp rfl))) <| .read rfl (.plain rfl (pj_move (has_tmp rfl))) <| .read rfl (.plain rfl (pj_imul has_i64 (has_tmp rfl))) <| .read rfl (.plain rfl (pj_iadd has_i64 (has_tmp rfl))) <| .read rfl (.plain rfl (pj_move (has_tmp rfl))) <| .read rfl (.plain rfl (pj_imul has_i64 (has_tmp rfl))) <| .read rfl (.plain rfl (pj_iadd has_i64 (has_tmp rfl))) <| .read rfl (.plain rfl (pj_slice_slx (has_tmp rfl) (.yes (has_tmp rfl) isInt_i64) (.yes (has_tmp rfl) isInt_i64) e14 (by kernel_rfl))) <| .read rfl (.plain rfl (pj_s2apx (e := 5) (has_tmp rfl) e15 rfl (by kernel_rfl))) <| .read rfl (.plain rfl (pj_load_to (has_tmp rfl) (by kernel_rfl))) <| .read rfl (.plain rfl (pj_move (has_tmp rfl))) <| .read rfl (.plain rfl (pj_move (has_tmp rfl))) <| .read rfl (.plain rfl (pj_index_slx (has_tmp rfl) (has_tmp rfl) isInt_i64 e16 (by kernel_rfl))) <| .read rfl (.plain rfl (pj_load_to (has_tmp rfl) (by kernel_rfl))) <| .read rfl (.plain rfl (pj_move (has_tmp rfl))) <| .read rfl (.plain rfl (pj_call (hasL_cons (has_tmp rfl) <| hasL_nil) (by kernel_rfl) (c_rolodexref04_Most e17))) <| .read rfl (.plain rfl (pj_call (hasL_cons (has_tmp rfl) <| hasL_cons (has_tmp rfl) <| hasL_cons (has_tmp rfl) <| hasL_cons (has_tmp rfl) <| hasL_cons (has_tmp rfl) <| hasL_cons (has_tmp rfl) <| hasL_nil) (by kernel_rfl) (c_rolodexref04_Steps e18))) <| .step 0 rfl .here (.inl rfl) (fun i => ⟨_, _, fun j => j, (w_alloc (x := (Vector.replicate 32 (0#8))) (R := R_api_Hash) (zero_vec 32 zero_un) (by kernel_rfl) rfl), fun _ => rfl, slotAny, dst1⟩) <| .nil) ?_
              rintro b2
              refine j_to (Γ' := [(1, u32.slot p_q), (3, (sl u8).slot p_sig), (4, ptrTo R_api_ID p_id), (8, val (.pointer (some ⟨b1, 0, none⟩))), (11, i64.slot (w64 (r1.toNat : Int))), (12, (sl i64).slot r4), (13, ov v2), (14, i64.slot y3), (15, val (.pointer (some ⟨b2, 0, none⟩))), (73, R_api_Hash.slot r6)]) (H' := [box b2 23 R_api_Hash (Vector.replicate 32 (0#8)), own 5 u8 v2 y4, box b1 23 R_api_Hash (Vector.replicate 32 (0#8))]) (.cons (.of_lk rfl) <| .cons (.of_lk rfl) <| .cons (.of_lk rfl) <| .cons (.of_lk rfl) <| .cons (.of_lk rfl) <| .cons (.of_lk rfl) <| .cons (.of_lk rfl) <| .cons (.of_lk rfl) <| .cons (.of_lk rfl) <| .cons (.of_lk rfl) <| .nil) (.cons .here <| .cons .here <| .cons .here <| .nil) ?_
              refine j_store_boxx (r' := r6) (has_tmp rfl) (has_tmp rfl) .here (Path.all R_api_Hash) (by kernel_rfl) rfl ?_
              refine j_freezeTo (t := 15) .here (.of_lk rfl) ?_
              refine j_end ?_
              refine run_text ?_
              refine j_pure (pj_move (has_tmp rfl)) rfl rfl rfl ?_
              refine j_pure (pj_slice_toF (has_tmp rfl) (by decide) (by kernel_rfl)) rfl rfl rfl ?_
              obtain ⟨e19, h⟩ := grd_some h
              refine j_append (T := 5) (E := 5) (has_tmp rfl) .here (src_data (has_tmp rfl)) (by kernel_rfl) (by kernel_rfl) e19 rfl fun v3 => ?_
              refine j_pure (pj_assign (has_tmp rfl)) rfl rfl rfl ?_
              refine j_end ?_
              refine run_endblock ?_
              refine run_text ?_
              refine j_pure (pj_move (has_tmp rfl)) rfl rfl rfl ?_
              refine j_pure (pj_iadd (has_tmp rfl) has_i64) rfl rfl rfl ?_
              refine j_pure (pj_assign (has_tmp rfl)) rfl rfl rfl ?_
              refine j_end ?_
              obtain rfl := Option.some.inj h
              exact run_next v3 (.cons (.of_lk rfl) <| .cons (.of_lk rfl) <| .cons (.of_lk rfl) <| .cons (.of_lk rfl) <| .cons (.of_lk rfl) <| .cons (.of_lk rfl) <| .cons (.of_lk rfl) <| .cons (.of_lk rfl) <| .nil) (.cons .here <| .cons .here <| .nil)
            · replace h := bf e13 h
              obtain rfl := Option.some.inj h
              exact run_brk v2 (.cons (.of_lk rfl) <| .cons (.of_lk rfl) <| .cons (.of_lk rfl) <| .cons (.of_lk rfl) <| .cons (.of_lk rfl) <| .cons (.of_lk rfl) <| .cons (.of_lk rfl) <| .cons (.of_lk rfl) <| .nil) (.cons .here <| .cons .here <| .nil)
          · rintro v4
            show Run _ _ _ [(1, u32.slot p_q), (3, (sl u8).slot p_sig), (4, ptrTo R_api_ID p_id), (8, val (.pointer (some ⟨b1, 0, none⟩))), (11, i64.slot (w64 (r1.toNat : Int))), (12, (sl i64).slot r4), (13, ov v4), (14, i64.slot y5)] [own 5 u8 v4 y6, box b1 23 R_api_Hash (Vector.replicate 32 (0#8))]
            refine run_to (Γ' := [(1, u32.slot p_q), (4, ptrTo R_api_ID p_id), (8, val (.pointer (some ⟨b1, 0, none⟩))), (13, ov v4)]) (H' := [own 5 u8 v4 y6, box b1 23 R_api_Hash (Vector.replicate 32 (0#8))]) (.cons (.of_lk rfl) <| .cons (.of_lk rfl) <| .cons (.of_lk rfl) <| .cons (.of_lk rfl) <| .nil) (.cons .here <| .cons .here <| .nil) ?_
            refine run_seq ?_
            refine run_text ?_
            refine j_pure (pj_load_to (has_tmp rfl) (by kernel_rfl)) rfl rfl rfl ?_
            refine j_pure (pj_move (has_tmp rfl)) rfl rfl rfl ?_
            refine j_pure (pj_move (has_tmp rfl)) rfl rfl rfl ?_
            obtain ⟨r7, e21, h⟩ := bind_some h
            refine j_pure (pj_callB (hasBL_cons (hasB_of (has_tmp rfl)) <| hasBL_cons (hasB_of (has_tmp rfl)) <| hasBL_cons (hasB_of has_i64) <| hasBL_cons (hasB_own (has_tmp rfl) .here) <| hasBL_nil) (by kernel_rfl) (c_rolodexref04_Under e21) (Rep.flat_slot (flat_vec _ (flat_un _ _)) _)) rfl rfl rfl ?_
            refine j_store_boxx (r' := r7) (has_tmp rfl) (has_tmp rfl) (.next .here) (Path.all R_api_Hash) (by kernel_rfl) rfl ?_
            refine j_pure (pj_assign has_bl) rfl rfl rfl ?_
            refine j_end ?_
            obtain rfl := Option.some.inj h
            exact run_ret fun a w hst => q_retN hst rfl (.cons (.cell rfl .here (by kernel_rfl)) <| .cons (.tmp rfl) <| .nil) rfl () (fun _ _ h => h) (.nil)
      · rcases bool_tf (y1) with e6 | e6
        · replace e7 := bt e6 e7
          refine j_guard_no2 (j := 6) (want := false) rfl rfl rfl rfl (bl_isx e6) rfl rfl rfl ?_
          refine j_guard_no2 (j := 6) (want := false) rfl rfl rfl rfl (bl_isx e6) rfl rfl rfl ?_
          refine j_guard_no2 (j := 6) (want := false) rfl rfl rfl rfl (bl_isx e6) rfl rfl rfl ?_
          refine j_guard_no2 (j := 6) (want := false) rfl rfl rfl rfl (bl_isx e6) rfl rfl rfl ?_
          refine j_guard_no2 (j := 6) (want := false) rfl rfl rfl rfl (bl_isx e6) rfl rfl rfl ?_
          refine j_guard_no2 (j := 6) (want := false) rfl rfl rfl rfl (bl_isx e6) rfl rfl rfl ?_
          refine j_pure (PJ.eqv (R := bl) (pj_pick (t := any) (has_tmp rfl) (fun _ => has_bl) (fun he => absurd (e6.symm.trans he) (by decide))) (Option.some.inj e7)) rfl rfl rfl ?_
          exact j_to (.cons (.of_lk rfl) <| .cons (.of_lk rfl) <| .cons (.of_lk rfl) <| .cons (.of_lk rfl) <| .cons (.of_lk rfl) <| .cons (.of_lk rfl) <| .cons (.of_lk rfl) <| .nil) (.cons .here <| .nil) (J ())
        · replace e7 := bf e6 e7
          refine j_pure_y (pj_move (has_tmp rfl)) rfl rfl rfl rfl (bl_isx e6) rfl rfl ?_
          refine j_pure_y (pj_len_sl (sz := 1) (has_tmp rfl) (by kernel_rfl)) rfl rfl rfl rfl (bl_isx e6) rfl rfl ?_
          refine j_pure_y (pj_move (has_tmp rfl)) rfl rfl rfl rfl (bl_isx e6) rfl rfl ?_
          refine j_pure_y (pj_conv_i64 (by kernel_rfl) (has_tmp rfl) isInt_un) rfl rfl rfl rfl (bl_isx e6) rfl rfl ?_
          obtain ⟨r2, e8, e7⟩ := bind_some e7
          refine j_pure_y (pj_call (hasL_cons (has_tmp rfl) <| hasL_nil) (by kernel_rfl) (c_rolodexref04_Size e8)) rfl rfl rfl rfl (bl_isx e6) rfl rfl ?_
          refine j_pure_y (pj_ineq (has_tmp rfl) (has_tmp rfl)) rfl rfl rfl rfl (bl_isx e6) rfl rfl ?_
          refine j_pure (PJ.eqv (R := bl) (pj_pick (t := any) (has_tmp rfl) (fun he => absurd (e6.symm.trans he) (by decide)) (fun _ => (has_tmp rfl))) (Option.some.inj e7)) rfl rfl rfl ?_
          exact j_to (.cons (.of_lk rfl) <| .cons (.of_lk rfl) <| .cons (.of_lk rfl) <| .cons (.of_lk rfl) <| .cons (.of_lk rfl) <| .cons (.of_lk rfl) <| .cons (.of_lk rfl) <| .nil) (.cons .here <| .nil) (J ())
    · rcases bool_tf (decide (r1 < (1#64))) with e4 | e4
      · replace e5 := bt e4 e5
        refine j_guard_no2 (j := 2) (want := false) rfl rfl rfl rfl (bl_isx e4) rfl rfl rfl ?_
        refine j_guard_no2 (j := 2) (want := false) rfl rfl rfl rfl (bl_isx e4) rfl rfl rfl ?_
        refine j_pure (PJ.eqv (R := bl) (pj_pick (t := any) (has_tmp rfl) (fun _ => has_bl) (fun he => absurd (e4.symm.trans he) (by decide))) (Option.some.inj e5)) rfl rfl rfl ?_
        exact j_to (.cons (.of_lk rfl) <| .cons (.of_lk rfl) <| .cons (.of_lk rfl) <| .cons (.of_lk rfl) <| .cons (.of_lk rfl) <| .cons (.of_lk rfl) <| .cons (.of_lk rfl) <| .nil) (.cons .here <| .nil) (J ())
      · replace e5 := bf e4 e5
        refine j_pure_y (pj_move (has_tmp rfl)) rfl rfl rfl rfl (bl_isx e4) rfl rfl ?_
        refine j_pure_y (pj_ugtr (k := .u64) (b := 64) (has_tmp rfl) (has_un (x := 4#64) rfl)) rfl rfl rfl rfl (bl_isx e4) rfl rfl ?_
        refine j_pure (PJ.eqv (R := bl) (pj_pick (t := any) (has_tmp rfl) (fun he => absurd (e4.symm.trans he) (by decide)) (fun _ => (has_tmp rfl))) (Option.some.inj e5)) rfl rfl rfl ?_
        exact j_to (.cons (.of_lk rfl) <| .cons (.of_lk rfl) <| .cons (.of_lk rfl) <| .cons (.of_lk rfl) <| .cons (.of_lk rfl) <| .cons (.of_lk rfl) <| .cons (.of_lk rfl) <| .nil) (.cons .here <| .nil) (J ())
set_option maxRecDepth 100000 in
set_option maxHeartbeats 4000000 in
theorem c_rolodexlaw04_LmotsRecovers {G : GP} (hg0 : HG0 G) (hg1 : HG1 G) (hg2 : HG2 G) {p_k : T_rolodexlaw04_Key} {p_message : List (BitVec 8)} {p_signature : List (BitVec 8)} {r : Bool} (h : rolodexlaw04_LmotsRecovers p_k p_message p_signature = some r) : Ctr Tryd.prog G 12 [R_rolodexlaw04_Key.slot p_k, (sl u8).slot p_message, (sl u8).slot p_signature] [] (fun (_ : Unit) => bl.slot r) (fun (_ : Unit) => []) := by
  unfold rolodexlaw04_LmotsRecovers at h
  refine ctr_of_run Tryd.func12 rfl 52 rfl rfl fun m0 w0 b0 => ?_
  show Run _ _ _ [(0, R_rolodexlaw04_Key.slot p_k), (1, (sl u8).slot p_message), (2, (sl u8).slot p_signature)] _
  refine run_seq ?_
  refine run_text ?_
  refine j_pure (pj_box_to (has_tmp rfl)) rfl rfl rfl ?_
  refine j_pure (pj_assign has_bl) rfl rfl rfl ?_
  refine j_end ?_
  refine run_seq ?_
  refine run_seq ?_
  refine run_text ?_
  obtain ⟨r1, e1, h⟩ := bind_some h
  refine j_pure (pj_call (hasL_nil) (by kernel_rfl) (c_rolodexlaw04_awake hg1 e1)) rfl rfl rfl ?_
  refine j_pure (pj_not (has_tmp rfl)) rfl rfl rfl ?_
  refine j_pure (pj_move (has_tmp rfl)) rfl rfl rfl ?_
  obtain ⟨y1, e3, h⟩ := bind_some h
  refine j_joinx (ι := Unit) (Γ' := fun _ => [(1, (sl u8).slot p_message), (2, (sl u8).slot p_signature), (3, ptrTo R_rolodexlaw04_Key p_k), (17, bl.slot y1)]) (H' := fun _ => []) 4 ?_ fun J => ?_
  · intro _
    clear e3
    show OpsJ _ _ _ [(1, (sl u8).slot p_message), (2, (sl u8).slot p_signature), (3, ptrTo R_rolodexlaw04_Key p_k), (17, bl.slot y1)] [] _
    refine j_pure (pj_move (has_tmp rfl)) rfl rfl rfl ?_
    obtain ⟨y2, e5, h⟩ := bind_some h
    refine j_joinx (ι := Unit) (Γ' := fun _ => [(1, (sl u8).slot p_message), (2, (sl u8).slot p_signature), (3, ptrTo R_rolodexlaw04_Key p_k), (22, bl.slot y2)]) (H' := fun _ => []) 4 ?_ fun J => ?_
    · intro _
      clear e5
      show OpsJ _ _ _ [(1, (sl u8).slot p_message), (2, (sl u8).slot p_signature), (3, ptrTo R_rolodexlaw04_Key p_k), (22, bl.slot y2)] [] _
      refine j_end ?_
      refine run_cond (has_tmp rfl) (fun e6 => ?_) (fun e6 => ?_)
      · replace h := bt e6 h
        refine run_seq ?_
        refine run_text ?_
        obtain ⟨r2, e7, h⟩ := bind_some h
        refine j_pure (pj_call (hasL_nil) (by kernel_rfl) (c_rolodexlaw04_awake hg1 e7)) rfl rfl rfl ?_
        refine j_pure (pj_assign (has_tmp rfl)) rfl rfl rfl ?_
        refine j_end ?_
        obtain rfl := Option.some.inj h
        exact run_ret fun a w hst => q_ret1 hst rfl (.tmp rfl) () (fun _ _ h => h) (.nil)
      · replace h := bf e6 h
        refine run_skip ?_
        refine run_seq ?_
        refine run_text ?_
        refine j_pure (pj_field_to (has_tmp rfl) (Path.then (Path.snd i64 (prod R_api_ID (prod u32 R_api_Hash))) (Path.fst R_api_ID (prod u32 R_api_Hash))) (by kernel_rfl)) rfl rfl rfl ?_
        refine j_pure (pj_load_to (has_tmp rfl) (by kernel_rfl)) rfl rfl rfl ?_
        refine j_pure (pj_field_to (has_tmp rfl) (Path.then (Path.snd i64 (prod R_api_ID (prod u32 R_api_Hash))) (Path.then (Path.snd R_api_ID (prod u32 R_api_Hash)) (Path.fst u32 R_api_Hash))) (by kernel_rfl)) rfl rfl rfl ?_
        refine j_pure (pj_load_to (has_tmp rfl) (by kernel_rfl)) rfl rfl rfl ?_
        refine j_pure (pj_move (has_tmp rfl)) rfl rfl rfl ?_
        refine j_pure (pj_move (has_tmp rfl)) rfl rfl rfl ?_
        obtain ⟨r3, e8, h⟩ := bind_some h
        refine j_pure (pj_call (hasL_cons (has_tmp rfl) <| hasL_cons (has_tmp rfl) <| hasL_cons (has_tmp rfl) <| hasL_cons (has_tmp rfl) <| hasL_nil) (by kernel_rfl) (c_lmots_Recover hg0 hg1 hg2 e8)) rfl rfl rfl ?_
        refine j_pure (pj_move (has_tmp rfl)) rfl rfl rfl ?_
        refine j_pure (pj_extract (has_tmp rfl) rfl) rfl rfl rfl ?_
        refine j_pure (pj_extract (has_tmp rfl) rfl) rfl rfl rfl ?_
        refine j_alloc (x := (Vector.replicate 32 (0#8))) (R := R_api_Hash) (zero_vec 32 zero_un) (by kernel_rfl) rfl fun b1 => ?_
        refine j_store_boxx (r' := r3.1) (has_tmp rfl) (has_tmp rfl) .here (Path.all R_api_Hash) (by kernel_rfl) rfl ?_
        refine j_freezeTo (t := 7) .here (.of_lk rfl) ?_
        refine j_pure (pj_assign (has_tmp rfl)) rfl rfl rfl ?_
        refine j_end ?_
        refine run_seq ?_
        refine run_text ?_
        refine j_pure (pj_field_to (has_tmp rfl) (Path.then (Path.snd i64 (prod R_api_ID (prod u32 R_api_Hash))) (Path.fst R_api_ID (prod u32 R_api_Hash))) (by kernel_rfl)) rfl rfl rfl ?_
        refine j_pure (pj_load_to (has_tmp rfl) (by kernel_rfl)) rfl rfl rfl ?_
        refine j_pure (pj_field_to (has_tmp rfl) (Path.then (Path.snd i64 (prod R_api_ID (prod u32 R_api_Hash))) (Path.then (Path.snd R_api_ID (prod u32 R_api_Hash)) (Path.fst u32 R_api_Hash))) (by kernel_rfl)) rfl rfl rfl ?_
        refine j_pure (pj_load_to (has_tmp rfl) (by kernel_rfl)) rfl rfl rfl ?_
        refine j_pure (pj_move (has_tmp rfl)) rfl rfl rfl ?_
        refine j_pure (pj_move (has_tmp rfl)) rfl rfl rfl ?_
        obtain ⟨r4, e9, h⟩ := bind_some h
        refine j_pure (pj_call (hasL_cons (has_tmp rfl) <| hasL_cons (has_tmp rfl) <| hasL_cons (has_tmp rfl) <| hasL_cons (has_tmp rfl) <| hasL_nil) (by kernel_rfl) (c_rolodexref04_Recover e9)) rfl rfl rfl ?_
        refine j_pure (pj_move (has_tmp rfl)) rfl rfl rfl ?_
        refine j_pure (pj_extract (has_tmp rfl) rfl) rfl rfl rfl ?_
        refine j_pure (pj_extract (has_tmp rfl) rfl) rfl rfl rfl ?_
        refine j_alloc (x := (Vector.replicate 32 (0#8))) (R := R_api_Hash) (zero_vec 32 zero_un) (by kernel_rfl) rfl fun b2 => ?_
        refine j_store_boxx (r' := r4.1) (has_tmp rfl) (has_tmp rfl) .here (Path.all R_api_Hash) (by kernel_rfl) rfl ?_
        refine j_freezeTo (t := 9) .here (.of_lk rfl) ?_
        refine j_pure (pj_assign (has_tmp rfl)) rfl rfl rfl ?_
        refine j_end ?_
        refine run_seq ?_
        refine run_text ?_
        refine j_pure (pj_load_to (has_tmp rfl) (by kernel_rfl)) rfl rfl rfl ?_
        refine j_pure (pj_load_to (has_tmp rfl) (by kernel_rfl)) rfl rfl rfl ?_
        refine j_pure (pj_eql (n := 2) (eq_vec (e := 5) (by kernel_rfl) (by kernel_rfl) (eq_un (by kernel_rfl))) (by decide) rfl (by kernel_rfl) (has_tmp rfl) (has_tmp rfl)) rfl rfl rfl ?_
        refine j_pure (pj_move (has_tmp rfl)) rfl rfl rfl ?_
        obtain ⟨y3, e11, h⟩ := bind_some h
        refine j_joinx (ι := Unit) (Γ' := fun _ => [(51, bl.slot y3)]) (H' := fun _ => []) 4 ?_ fun J => ?_
        · intro _
          clear e11
          show OpsJ _ _ _ [(51, bl.slot y3)] [] _
          refine j_pure (pj_assign (has_tmp rfl)) rfl rfl rfl ?_
          refine j_end ?_
          obtain rfl := Option.some.inj h
          exact run_ret fun a w hst => q_ret1 hst rfl (.tmp rfl) () (fun _ _ h => h) (.nil)
        · rcases bool_tf (decide (r3.1 = r4.1)) with e10 | e10
          · replace e11 := bt e10 e11
            refine j_pure_y (pj_move (has_tmp rfl)) rfl rfl rfl rfl (bl_isx e10) rfl rfl ?_
            refine j_pure_y (pj_move (has_tmp rfl)) rfl rfl rfl rfl (bl_isx e10) rfl rfl ?_
            refine j_pure_y (pj_beql (by kernel_rfl) (has_tmp rfl) (has_tmp rfl)) rfl rfl rfl rfl (bl_isx e10) rfl rfl ?_
            refine j_pure (PJ.eqv (R := bl) (pj_pick (t := any) (has_tmp rfl) (fun _ => (has_tmp rfl)) (fun he => absurd (e10.symm.trans he) (by decide))) (Option.some.inj e11)) rfl rfl rfl ?_
            exact j_to (.cons (.of_lk rfl) <| .nil) (.nil) (J ())
          · replace e11 := bf e10 e11
            refine j_guard_no2 (j := 3) (want := true) rfl rfl rfl rfl (bl_isx e10) rfl rfl rfl ?_
            refine j_guard_no2 (j := 3) (want := true) rfl rfl rfl rfl (bl_isx e10) rfl rfl rfl ?_
            refine j_guard_no2 (j := 3) (want := true) rfl rfl rfl rfl (bl_isx e10) rfl rfl rfl ?_
            refine j_pure (PJ.eqv (R := bl) (pj_pick (t := any) (has_tmp rfl) (fun he => absurd (e10.symm.trans he) (by decide)) (fun _ => has_bl)) (Option.some.inj e11)) rfl rfl rfl ?_
            exact j_to (.cons (.of_lk rfl) <| .nil) (.nil) (J ())
    · rcases bool_tf (y1) with e4 | e4
      · replace e5 := bt e4 e5
        refine j_guard_no2 (j := 7) (want := false) rfl rfl rfl rfl (bl_isx e4) rfl rfl rfl ?_
        refine j_guard_no2 (j := 7) (want := false) rfl rfl rfl rfl (bl_isx e4) rfl rfl rfl ?_
        refine j_guard_no2 (j := 7) (want := false) rfl rfl rfl rfl (bl_isx e4) rfl rfl rfl ?_
        refine j_pure (PJ.eqv (R := bl) (pj_pick (t := any) (has_tmp rfl) (fun _ => has_bl) (fun he => absurd (e4.symm.trans he) (by decide))) (Option.some.inj e5)) rfl rfl rfl ?_
        exact j_to (.cons (.of_lk rfl) <| .cons (.of_lk rfl) <| .cons (.of_lk rfl) <| .cons (.of_lk rfl) <| .nil) (.nil) (J ())
      · replace e5 := bf e4 e5
        refine j_pure_y (pj_move (has_tmp rfl)) rfl rfl rfl rfl (bl_isx e4) rfl rfl ?_
        refine j_pure_y (pj_len_sl (sz := 1) (has_tmp rfl) (by kernel_rfl)) rfl rfl rfl rfl (bl_isx e4) rfl rfl ?_
        refine j_pure_y (pj_igtr (has_tmp rfl) has_i64) rfl rfl rfl rfl (bl_isx e4) rfl rfl ?_
        refine j_pure (PJ.eqv (R := bl) (pj_pick (t := any) (has_tmp rfl) (fun he => absurd (e4.symm.trans he) (by decide)) (fun _ => (has_tmp rfl))) (Option.some.inj e5)) rfl rfl rfl ?_
        exact j_to (.cons (.of_lk rfl) <| .cons (.of_lk rfl) <| .cons (.of_lk rfl) <| .cons (.of_lk rfl) <| .nil) (.nil) (J ())
  · rcases bool_tf (!r1) with e2 | e2
    · replace e3 := bt e2 e3
      refine j_guard_no2 (j := 2) (want := false) rfl rfl rfl rfl (bl_isx e2) rfl rfl rfl ?_
      refine j_guard_no2 (j := 2) (want := false) rfl rfl rfl rfl (bl_isx e2) rfl rfl rfl ?_
      refine j_guard_no2 (j := 2) (want := false) rfl rfl rfl rfl (bl_isx e2) rfl rfl rfl ?_
      refine j_pure (PJ.eqv (R := bl) (pj_pick (t := any) (has_tmp rfl) (fun _ => has_bl) (fun he => absurd (e2.symm.trans he) (by decide))) (Option.some.inj e3)) rfl rfl rfl ?_
      exact j_to (.cons (.of_lk rfl) <| .cons (.of_lk rfl) <| .cons (.of_lk rfl) <| .cons (.of_lk rfl) <| .nil) (.nil) (J ())
    · replace e3 := bf e2 e3
      refine j_pure_y (pj_move (has_tmp rfl)) rfl rfl rfl rfl (bl_isx e2) rfl rfl ?_
      refine j_pure_y (pj_len_sl (sz := 1) (has_tmp rfl) (by kernel_rfl)) rfl rfl rfl rfl (bl_isx e2) rfl rfl ?_
      refine j_pure_y (pj_igtr (has_tmp rfl) has_i64) rfl rfl rfl rfl (bl_isx e2) rfl rfl ?_
      refine j_pure (PJ.eqv (R := bl) (pj_pick (t := any) (has_tmp rfl) (fun he => absurd (e2.symm.trans he) (by decide)) (fun _ => (has_tmp rfl))) (Option.some.inj e3)) rfl rfl rfl ?_
      exact j_to (.cons (.of_lk rfl) <| .cons (.of_lk rfl) <| .cons (.of_lk rfl) <| .cons (.of_lk rfl) <| .nil) (.nil) (J ())
end Go.Sl.W
