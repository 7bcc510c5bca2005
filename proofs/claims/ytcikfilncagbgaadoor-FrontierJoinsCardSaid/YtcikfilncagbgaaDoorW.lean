import Derived.Test.YtcikfilncagbgaaDoorWA
import Derived.Test.YtcikfilncagbgaaDoorOp14
import Derived.Test.YtcikfilncagbgaaDoorProg
set_option linter.unusedSimpArgs false
set_option linter.unusedVariables false
set_option linter.unusedSectionVars false
namespace Go.Sl.W
open Go.Proofs Go.Sl Go.Sl.M
set_option maxRecDepth 100000 in
set_option maxHeartbeats 4000000 in
theorem c_rolodexref02_take {G : GP} {p_h : Vector (BitVec 32) 8} {p_block : List (BitVec 8)} {r : (Vector (BitVec 32) 8)} (h : rolodexref02_take p_h p_block = some r) : Ctr Tryd.prog G 71 [(vec 8 u32).slot p_h, (sl u8).slot p_block] [] (fun (_ : Unit) => (vec 8 u32).slot r) (fun (_ : Unit) => []) := by
  unfold rolodexref02_take at h
  refine ctr_of_run Tryd.func71 rfl 121 rfl rfl fun m0 w0 b0 => ?_
  show Run _ _ _ [(0, (vec 8 u32).slot p_h), (1, (sl u8).slot p_block)] _
  refine run_seq ?_
  refine run_text ?_
  refine j_box (has_tmp rfl) rfl fun b1 => ?_
  refine j_alloc (x := (Vector.replicate 8 (0#32))) (R := (vec 8 u32)) (zero_vec 8 zero_un) (by kernel_rfl) rfl fun b2 => ?_
  refine j_end ?_
  refine run_seq ?_
  refine run_text ?_
  refine j_pure (pj_move (has_tmp rfl)) rfl rfl rfl ?_
  obtain ⟨r1, e1, h⟩ := bind_some h
  refine j_pure (pj_call (hasL_cons (has_tmp rfl) <| hasL_nil) (by kernel_rfl) (c_rolodexref02_words e1)) rfl rfl rfl ?_
  refine j_alloc (x := (Vector.replicate 64 (0#32))) (R := (vec 64 u32)) (zero_vec 64 zero_un) (by kernel_rfl) rfl fun b3 => ?_
  refine j_store_boxx (r' := r1) (has_tmp rfl) (has_tmp rfl) .here (Path.all (vec 64 u32)) (by kernel_rfl) rfl ?_
  refine j_freezeTo (t := 5) .here (.of_lk rfl) ?_
  refine j_end ?_
  refine run_seq ?_
  refine run_text ?_
  obtain ⟨r2, e2, h⟩ := bind_some h
  refine j_pure (pj_call (hasL_nil) (by kernel_rfl) (c_rolodexref02_K e2)) rfl rfl rfl ?_
  refine j_alloc (x := (Vector.replicate 64 (0#32))) (R := (vec 64 u32)) (zero_vec 64 zero_un) (by kernel_rfl) rfl fun b4 => ?_
  refine j_store_boxx (r' := r2) (has_tmp rfl) (has_tmp rfl) .here (Path.all (vec 64 u32)) (by kernel_rfl) rfl ?_
  refine j_freezeTo (t := 6) .here (.of_lk rfl) ?_
  refine j_end ?_
  refine run_seq ?_
  refine run_text ?_
  refine j_pure (pj_load_box (has_tmp rfl) (.next .here) (Path.all (vec 8 u32)) (by kernel_rfl)) rfl rfl rfl ?_
  refine j_alloc (x := (Vector.replicate 8 (0#32))) (R := (vec 8 u32)) (zero_vec 8 zero_un) (by kernel_rfl) rfl fun b5 => ?_
  refine j_store_boxx (r' := p_h) (has_tmp rfl) (has_tmp rfl) .here (Path.all (vec 8 u32)) (by kernel_rfl) rfl ?_
  refine j_end ?_
  refine run_seq ?_
  refine run_seq ?_
  refine run_text ?_
  refine j_pure (pj_assign has_i64) rfl rfl rfl ?_
  refine j_end ?_
  obtain ⟨⟨y3, y4⟩, e16, h⟩ := bind_some h
  refine run_loopS (Γi := fun (i : Unit) (s : Int × (Vector (BitVec 32) 8)) => [(2, val (.pointer (some ⟨b1, 0, none⟩))), (4, val (.pointer (some ⟨b2, 0, none⟩))), (5, ptrTo (vec 64 u32) r1), (6, ptrTo (vec 64 u32) r2), (7, val (.pointer (some ⟨b5, 0, none⟩))), (8, i64.slot s.1)]) (Hi := fun (i : Unit) (s : Int × (Vector (BitVec 32) 8)) => [box b5 100 (vec 8 u32) s.2, box b2 100 (vec 8 u32) (Vector.replicate 8 (0#32)), box b1 100 (vec 8 u32) p_h]) e16 () (fun a w hst => (hst.sub (.cons (.of_lk rfl) <| .cons (.of_lk rfl) <| .cons (.of_lk rfl) <| .cons (.of_lk rfl) <| .cons (.of_lk rfl) <| .cons (.of_lk rfl) <| .nil)).keep (.cons .here <| .cons .here <| .cons .here <| .nil)) ?_ ?_
  · clear h e16
    rintro _ ⟨y1, y2⟩ lr h
    change rolodexref02_take_L1 r2 r1 y1 y2 = some _ at h
    show Run _ _ _ [(2, val (.pointer (some ⟨b1, 0, none⟩))), (4, val (.pointer (some ⟨b2, 0, none⟩))), (5, ptrTo (vec 64 u32) r1), (6, ptrTo (vec 64 u32) r2), (7, val (.pointer (some ⟨b5, 0, none⟩))), (8, i64.slot y1)] [box b5 100 (vec 8 u32) y2, box b2 100 (vec 8 u32) (Vector.replicate 8 (0#32)), box b1 100 (vec 8 u32) p_h]
    unfold rolodexref02_take_L1 at h
    refine run_seq ?_
    refine run_seq ?_
    refine run_text ?_
    refine j_pure (pj_move (has_tmp rfl)) rfl rfl rfl ?_
    refine j_pure (pj_ilss (has_tmp rfl) has_i64) rfl rfl rfl ?_
    refine j_end ?_
    refine run_cond (has_tmp rfl) (fun e3 => ?_) (fun e3 => ?_)
    · replace h := bt e3 h
      refine run_skip ?_
      refine run_seq ?_
      refine run_block ?_
      refine run_seq ?_
      refine run_text ?_
      refine j_pure (pj_index_arr (n := 8) (sz := 1) (has_tmp rfl) has_i64 isInt_i64 (by decide) (by decide) (by kernel_rfl)) rfl rfl rfl ?_
      refine j_pure (pj_load_box (has_tmp rfl) .here (Path.then (Path.all (vec 8 u32)) (Path.at 8 u32 4 (by decide))) (by kernel_rfl)) rfl rfl rfl ?_
      refine j_pure (pj_index_arr (n := 8) (sz := 1) (has_tmp rfl) has_i64 isInt_i64 (by decide) (by decide) (by kernel_rfl)) rfl rfl rfl ?_
      refine j_pure (pj_load_box (has_tmp rfl) .here (Path.then (Path.all (vec 8 u32)) (Path.at 8 u32 5 (by decide))) (by kernel_rfl)) rfl rfl rfl ?_
      refine j_pure (pj_uand (k := .u32) (b := 32) rfl rfl (has_tmp rfl) (has_tmp rfl)) rfl rfl rfl ?_
      refine j_pure (pj_index_arr (n := 8) (sz := 1) (has_tmp rfl) has_i64 isInt_i64 (by decide) (by decide) (by kernel_rfl)) rfl rfl rfl ?_
      refine j_pure (pj_load_box (has_tmp rfl) .here (Path.then (Path.all (vec 8 u32)) (Path.at 8 u32 4 (by decide))) (by kernel_rfl)) rfl rfl rfl ?_
      refine j_pure (pj_usub (k := .u32) (b := 32) rfl rfl (has_un (x := 4294967295#32) rfl) (has_tmp rfl)) rfl rfl rfl ?_
      refine j_pure (pj_index_arr (n := 8) (sz := 1) (has_tmp rfl) has_i64 isInt_i64 (by decide) (by decide) (by kernel_rfl)) rfl rfl rfl ?_
      refine j_pure (pj_load_box (has_tmp rfl) .here (Path.then (Path.all (vec 8 u32)) (Path.at 8 u32 6 (by decide))) (by kernel_rfl)) rfl rfl rfl ?_
      refine j_pure (pj_uand (k := .u32) (b := 32) rfl rfl (has_tmp rfl) (has_tmp rfl)) rfl rfl rfl ?_
      refine j_pure (pj_uor (k := .u32) (b := 32) rfl rfl (has_tmp rfl) (has_tmp rfl)) rfl rfl rfl ?_
      obtain ⟨x1, e4, h⟩ := bind_some h
      refine j_pure (PJ.eqv (pj_assign (has_tmp rfl)) (Option.some.inj e4)) rfl rfl rfl ?_
      refine j_end ?_
      refine run_seq ?_
      refine run_text ?_
      refine j_pure (pj_index_arr (n := 8) (sz := 1) (has_tmp rfl) has_i64 isInt_i64 (by decide) (by decide) (by kernel_rfl)) rfl rfl rfl ?_
      refine j_pure (pj_load_box (has_tmp rfl) .here (Path.then (Path.all (vec 8 u32)) (Path.at 8 u32 0 (by decide))) (by kernel_rfl)) rfl rfl rfl ?_
      refine j_pure (pj_index_arr (n := 8) (sz := 1) (has_tmp rfl) has_i64 isInt_i64 (by decide) (by decide) (by kernel_rfl)) rfl rfl rfl ?_
      refine j_pure (pj_load_box (has_tmp rfl) .here (Path.then (Path.all (vec 8 u32)) (Path.at 8 u32 1 (by decide))) (by kernel_rfl)) rfl rfl rfl ?_
      refine j_pure (pj_uand (k := .u32) (b := 32) rfl rfl (has_tmp rfl) (has_tmp rfl)) rfl rfl rfl ?_
      refine j_pure (pj_index_arr (n := 8) (sz := 1) (has_tmp rfl) has_i64 isInt_i64 (by decide) (by decide) (by kernel_rfl)) rfl rfl rfl ?_
      refine j_pure (pj_load_box (has_tmp rfl) .here (Path.then (Path.all (vec 8 u32)) (Path.at 8 u32 0 (by decide))) (by kernel_rfl)) rfl rfl rfl ?_
      refine j_pure (pj_index_arr (n := 8) (sz := 1) (has_tmp rfl) has_i64 isInt_i64 (by decide) (by decide) (by kernel_rfl)) rfl rfl rfl ?_
      refine j_pure (pj_load_box (has_tmp rfl) .here (Path.then (Path.all (vec 8 u32)) (Path.at 8 u32 2 (by decide))) (by kernel_rfl)) rfl rfl rfl ?_
      refine j_pure (pj_uand (k := .u32) (b := 32) rfl rfl (has_tmp rfl) (has_tmp rfl)) rfl rfl rfl ?_
      refine j_pure (pj_uor (k := .u32) (b := 32) rfl rfl (has_tmp rfl) (has_tmp rfl)) rfl rfl rfl ?_
      refine j_pure (pj_index_arr (n := 8) (sz := 1) (has_tmp rfl) has_i64 isInt_i64 (by decide) (by decide) (by kernel_rfl)) rfl rfl rfl ?_
      refine j_pure (pj_load_box (has_tmp rfl) .here (Path.then (Path.all (vec 8 u32)) (Path.at 8 u32 1 (by decide))) (by kernel_rfl)) rfl rfl rfl ?_
      refine j_pure (pj_index_arr (n := 8) (sz := 1) (has_tmp rfl) has_i64 isInt_i64 (by decide) (by decide) (by kernel_rfl)) rfl rfl rfl ?_
      refine j_pure (pj_load_box (has_tmp rfl) .here (Path.then (Path.all (vec 8 u32)) (Path.at 8 u32 2 (by decide))) (by kernel_rfl)) rfl rfl rfl ?_
      refine j_pure (pj_uand (k := .u32) (b := 32) rfl rfl (has_tmp rfl) (has_tmp rfl)) rfl rfl rfl ?_
      refine j_pure (pj_uor (k := .u32) (b := 32) rfl rfl (has_tmp rfl) (has_tmp rfl)) rfl rfl rfl ?_
      obtain ⟨x2, e5, h⟩ := bind_some h
      refine j_pure (PJ.eqv (pj_assign (has_tmp rfl)) (Option.some.inj e5)) rfl rfl rfl ?_
      refine j_end ?_
      refine run_seq ?_
      obtain ⟨r3, e6, h⟩ := bind_some h
      obtain ⟨r4, e7, h⟩ := bind_some h
      obtain ⟨r5, e8, h⟩ := bind_some h
      obtain ⟨x3, e9, h⟩ := bind_some h
      obtain ⟨x4, e10, h⟩ := bind_some h
      refine run_draw (n := 23) (by kernel_rfl) (by kernel_rfl) (by kernel_rfl) (by kernel_rfl) (.read (.plain rfl (pj_index_arr (n := 8) (sz := 1) (has_tmp rfl) has_i64 isInt_i64 (by decide) (by decide) (by kernel_rfl))) <| .read (.plain rfl (pj_load_box (has_tmp rfl) .here (Path.then (Path.all (vec 8 u32)) (Path.at 8 u32 7 (by decide))) (by kernel_rfl))) <| .read (.plain rfl (pj_index_arr (n := 8) (sz := 1) (has_tmp rfl) has_i64 isInt_i64 (by decide) (by decide) (by kernel_rfl))) <| .read (.plain rfl (pj_load_box (has_tmp rfl) .here (Path.then (Path.all (vec 8 u32)) (Path.at 8 u32 4 (by decide))) (by kernel_rfl))) <| .read (.plain rfl (pj_call (hasL_cons (has_tmp rfl) <| hasL_cons (has_un (x := 6#32) rfl) <| hasL_nil) (by kernel_rfl) (c_rolodexref02_turned e6))) <| .read (.plain rfl (pj_index_arr (n := 8) (sz := 1) (has_tmp rfl) has_i64 isInt_i64 (by decide) (by decide) (by kernel_rfl))) <| .read (.plain rfl (pj_load_box (has_tmp rfl) .here (Path.then (Path.all (vec 8 u32)) (Path.at 8 u32 4 (by decide))) (by kernel_rfl))) <| .read (.plain rfl (pj_call (hasL_cons (has_tmp rfl) <| hasL_cons (has_un (x := 11#32) rfl) <| hasL_nil) (by kernel_rfl) (c_rolodexref02_turned e7))) <| .read (.plain rfl (pj_uxor (k := .u32) (b := 32) rfl rfl (has_tmp rfl) (has_tmp rfl))) <| .read (.plain rfl (pj_index_arr (n := 8) (sz := 1) (has_tmp rfl) has_i64 isInt_i64 (by decide) (by decide) (by kernel_rfl))) <| .read (.plain rfl (pj_load_box (has_tmp rfl) .here (Path.then (Path.all (vec 8 u32)) (Path.at 8 u32 4 (by decide))) (by kernel_rfl))) <| .read (.plain rfl (pj_call (hasL_cons (has_tmp rfl) <| hasL_cons (has_un (x := 25#32) rfl) <| hasL_nil) (by kernel_rfl) (c_rolodexref02_turned e8))) <| .read (.plain rfl (pj_uxor (k := .u32) (b := 32) rfl rfl (has_tmp rfl) (has_tmp rfl))) <| .read (.plain rfl (pj_uadd (k := .u32) (b := 32) rfl rfl (has_tmp rfl) (has_tmp rfl))) <| .read (.plain rfl (pj_move (has_tmp rfl))) <| .read (.plain rfl (pj_uadd (k := .u32) (b := 32) rfl rfl (has_tmp rfl) (has_tmp rfl))) <| .read (.plain rfl (pj_move (has_tmp rfl))) <| .read (.plain rfl (pj_index_tox (has_tmp rfl) (has_tmp rfl) isInt_i64 e9 (by kernel_rfl))) <| .read (.plain rfl (pj_load_to (has_tmp rfl) (by kernel_rfl))) <| .read (.plain rfl (pj_uadd (k := .u32) (b := 32) rfl rfl (has_tmp rfl) (has_tmp rfl))) <| .read (.plain rfl (pj_move (has_tmp rfl))) <| .read (.plain rfl (pj_index_tox (has_tmp rfl) (has_tmp rfl) isInt_i64 e10 (by kernel_rfl))) <| .read (.plain rfl (pj_load_to (has_tmp rfl) (by kernel_rfl))) <| .nil) (j_to (Γ' := [(2, val (.pointer (some ⟨b1, 0, none⟩))), (4, val (.pointer (some ⟨b2, 0, none⟩))), (5, ptrTo (vec 64 u32) r1), (6, ptrTo (vec 64 u32) r2), (7, val (.pointer (some ⟨b5, 0, none⟩))), (8, i64.slot y1), (10, u32.slot x2), (70, u32.slot ((((y2[7]) + ((r3 ^^^ r4) ^^^ r5)) + x1) + x3)), (73, u32.slot x4)]) (H' := [box b5 100 (vec 8 u32) y2, box b2 100 (vec 8 u32) (Vector.replicate 8 (0#32)), box b1 100 (vec 8 u32) p_h]) (.cons (.of_lk rfl) <| .cons (.of_lk rfl) <| .cons (.of_lk rfl) <| .cons (.of_lk rfl) <| .cons (.of_lk rfl) <| .cons (.of_lk rfl) <| .cons (.of_lk rfl) <| .cons (.of_lk rfl) <| .cons (.of_lk rfl) <| .nil) (.cons .here <| .cons .here <| .cons .here <| .nil) ?_)
      refine j_pure (pj_uadd (k := .u32) (b := 32) rfl rfl (has_tmp rfl) (has_tmp rfl)) rfl rfl rfl ?_
      obtain ⟨x5, e11, h⟩ := bind_some h
      refine j_pure (PJ.eqv (pj_assign (has_tmp rfl)) (Option.some.inj e11)) rfl rfl rfl ?_
      refine j_end ?_
      refine run_seq ?_
      obtain ⟨r6, e12, h⟩ := bind_some h
      obtain ⟨r7, e13, h⟩ := bind_some h
      obtain ⟨r8, e14, h⟩ := bind_some h
      refine run_draw (n := 12) (by kernel_rfl) (by kernel_rfl) (by kernel_rfl) (by kernel_rfl) (.read (.plain rfl (pj_index_arr (n := 8) (sz := 1) (has_tmp rfl) has_i64 isInt_i64 (by decide) (by decide) (by kernel_rfl))) <| .read (.plain rfl (pj_load_box (has_tmp rfl) .here (Path.then (Path.all (vec 8 u32)) (Path.at 8 u32 0 (by decide))) (by kernel_rfl))) <| .read (.plain rfl (pj_call (hasL_cons (has_tmp rfl) <| hasL_cons (has_un (x := 2#32) rfl) <| hasL_nil) (by kernel_rfl) (c_rolodexref02_turned e12))) <| .read (.plain rfl (pj_index_arr (n := 8) (sz := 1) (has_tmp rfl) has_i64 isInt_i64 (by decide) (by decide) (by kernel_rfl))) <| .read (.plain rfl (pj_load_box (has_tmp rfl) .here (Path.then (Path.all (vec 8 u32)) (Path.at 8 u32 0 (by decide))) (by kernel_rfl))) <| .read (.plain rfl (pj_call (hasL_cons (has_tmp rfl) <| hasL_cons (has_un (x := 13#32) rfl) <| hasL_nil) (by kernel_rfl) (c_rolodexref02_turned e13))) <| .read (.plain rfl (pj_uxor (k := .u32) (b := 32) rfl rfl (has_tmp rfl) (has_tmp rfl))) <| .read (.plain rfl (pj_index_arr (n := 8) (sz := 1) (has_tmp rfl) has_i64 isInt_i64 (by decide) (by decide) (by kernel_rfl))) <| .read (.plain rfl (pj_load_box (has_tmp rfl) .here (Path.then (Path.all (vec 8 u32)) (Path.at 8 u32 0 (by decide))) (by kernel_rfl))) <| .read (.plain rfl (pj_call (hasL_cons (has_tmp rfl) <| hasL_cons (has_un (x := 22#32) rfl) <| hasL_nil) (by kernel_rfl) (c_rolodexref02_turned e14))) <| .read (.plain rfl (pj_uxor (k := .u32) (b := 32) rfl rfl (has_tmp rfl) (has_tmp rfl))) <| .read (.plain rfl (pj_move (has_tmp rfl))) <| .nil) (j_to (Γ' := [(2, val (.pointer (some ⟨b1, 0, none⟩))), (4, val (.pointer (some ⟨b2, 0, none⟩))), (5, ptrTo (vec 64 u32) r1), (6, ptrTo (vec 64 u32) r2), (7, val (.pointer (some ⟨b5, 0, none⟩))), (8, i64.slot y1), (11, u32.slot x5), (85, u32.slot ((r6 ^^^ r7) ^^^ r8)), (86, u32.slot x2)]) (H' := [box b5 100 (vec 8 u32) y2, box b2 100 (vec 8 u32) (Vector.replicate 8 (0#32)), box b1 100 (vec 8 u32) p_h]) (.cons (.of_lk rfl) <| .cons (.of_lk rfl) <| .cons (.of_lk rfl) <| .cons (.of_lk rfl) <| .cons (.of_lk rfl) <| .cons (.of_lk rfl) <| .cons (.of_lk rfl) <| .cons (.of_lk rfl) <| .cons (.of_lk rfl) <| .nil) (.cons .here <| .cons .here <| .cons .here <| .nil) ?_)
      refine j_pure (pj_uadd (k := .u32) (b := 32) rfl rfl (has_tmp rfl) (has_tmp rfl)) rfl rfl rfl ?_
      refine j_pure (pj_assign (has_tmp rfl)) rfl rfl rfl ?_
      refine j_end ?_
      refine run_text ?_
      refine j_pure (pj_move (has_tmp rfl)) rfl rfl rfl ?_
      refine j_pure (pj_move (has_tmp rfl)) rfl rfl rfl ?_
      refine j_pure (pj_uadd (k := .u32) (b := 32) rfl rfl (has_tmp rfl) (has_tmp rfl)) rfl rfl rfl ?_
      refine j_pure (pj_index_arr (n := 8) (sz := 1) (has_tmp rfl) has_i64 isInt_i64 (by decide) (by decide) (by kernel_rfl)) rfl rfl rfl ?_
      refine j_pure (pj_load_box (has_tmp rfl) .here (Path.then (Path.all (vec 8 u32)) (Path.at 8 u32 0 (by decide))) (by kernel_rfl)) rfl rfl rfl ?_
      refine j_pure (pj_index_arr (n := 8) (sz := 1) (has_tmp rfl) has_i64 isInt_i64 (by decide) (by decide) (by kernel_rfl)) rfl rfl rfl ?_
      refine j_pure (pj_load_box (has_tmp rfl) .here (Path.then (Path.all (vec 8 u32)) (Path.at 8 u32 1 (by decide))) (by kernel_rfl)) rfl rfl rfl ?_
      refine j_pure (pj_index_arr (n := 8) (sz := 1) (has_tmp rfl) has_i64 isInt_i64 (by decide) (by decide) (by kernel_rfl)) rfl rfl rfl ?_
      refine j_pure (pj_load_box (has_tmp rfl) .here (Path.then (Path.all (vec 8 u32)) (Path.at 8 u32 2 (by decide))) (by kernel_rfl)) rfl rfl rfl ?_
      refine j_pure (pj_index_arr (n := 8) (sz := 1) (has_tmp rfl) has_i64 isInt_i64 (by decide) (by decide) (by kernel_rfl)) rfl rfl rfl ?_
      refine j_pure (pj_load_box (has_tmp rfl) .here (Path.then (Path.all (vec 8 u32)) (Path.at 8 u32 3 (by decide))) (by kernel_rfl)) rfl rfl rfl ?_
      refine j_pure (pj_move (has_tmp rfl)) rfl rfl rfl ?_
      refine j_pure (pj_uadd (k := .u32) (b := 32) rfl rfl (has_tmp rfl) (has_tmp rfl)) rfl rfl rfl ?_
      refine j_pure (pj_index_arr (n := 8) (sz := 1) (has_tmp rfl) has_i64 isInt_i64 (by decide) (by decide) (by kernel_rfl)) rfl rfl rfl ?_
      refine j_pure (pj_load_box (has_tmp rfl) .here (Path.then (Path.all (vec 8 u32)) (Path.at 8 u32 4 (by decide))) (by kernel_rfl)) rfl rfl rfl ?_
      refine j_pure (pj_index_arr (n := 8) (sz := 1) (has_tmp rfl) has_i64 isInt_i64 (by decide) (by decide) (by kernel_rfl)) rfl rfl rfl ?_
      refine j_pure (pj_load_box (has_tmp rfl) .here (Path.then (Path.all (vec 8 u32)) (Path.at 8 u32 5 (by decide))) (by kernel_rfl)) rfl rfl rfl ?_
      refine j_pure (pj_index_arr (n := 8) (sz := 1) (has_tmp rfl) has_i64 isInt_i64 (by decide) (by decide) (by kernel_rfl)) rfl rfl rfl ?_
      refine j_pure (pj_load_box (has_tmp rfl) .here (Path.then (Path.all (vec 8 u32)) (Path.at 8 u32 6 (by decide))) (by kernel_rfl)) rfl rfl rfl ?_
      obtain ⟨x6, e15, h⟩ := bind_some h
      refine j_pure (PJ.eqv (pj_buildArr (z0 := 0#32) (zero_vec 8 zero_un) (by kernel_rfl) (.cons (has_tmp rfl) (.cons (has_tmp rfl) (.cons (has_tmp rfl) (.cons (has_tmp rfl) (.cons (has_tmp rfl) (.cons (has_tmp rfl) (.cons (has_tmp rfl) (.cons (has_tmp rfl) .nil)))))))) (by kernel_rfl) rfl) (Option.some.inj e15)) rfl rfl rfl ?_
      refine j_store_boxx (r' := x6) (has_tmp rfl) (has_tmp rfl) .here (Path.all (vec 8 u32)) (by kernel_rfl) rfl ?_
      refine j_end ?_
      refine run_endblock ?_
      refine run_text ?_
      refine j_pure (pj_move (has_tmp rfl)) rfl rfl rfl ?_
      refine j_pure (pj_iadd (has_tmp rfl) has_i64) rfl rfl rfl ?_
      refine j_pure (pj_assign (has_tmp rfl)) rfl rfl rfl ?_
      refine j_end ?_
      obtain rfl := Option.some.inj h
      exact run_next () (.cons (.of_lk rfl) <| .cons (.of_lk rfl) <| .cons (.of_lk rfl) <| .cons (.of_lk rfl) <| .cons (.of_lk rfl) <| .cons (.of_lk rfl) <| .nil) (.cons .here <| .cons .here <| .cons .here <| .nil)
    · replace h := bf e3 h
      obtain rfl := Option.some.inj h
      exact run_brk () (.cons (.of_lk rfl) <| .cons (.of_lk rfl) <| .cons (.of_lk rfl) <| .cons (.of_lk rfl) <| .cons (.of_lk rfl) <| .cons (.of_lk rfl) <| .nil) (.cons .here <| .cons .here <| .cons .here <| .nil)
  · rintro _
    show Run _ _ _ [(2, val (.pointer (some ⟨b1, 0, none⟩))), (4, val (.pointer (some ⟨b2, 0, none⟩))), (5, ptrTo (vec 64 u32) r1), (6, ptrTo (vec 64 u32) r2), (7, val (.pointer (some ⟨b5, 0, none⟩))), (8, i64.slot y3)] [box b5 100 (vec 8 u32) y4, box b2 100 (vec 8 u32) (Vector.replicate 8 (0#32)), box b1 100 (vec 8 u32) p_h]
    refine run_to (Γ' := [(2, val (.pointer (some ⟨b1, 0, none⟩))), (4, val (.pointer (some ⟨b2, 0, none⟩))), (7, val (.pointer (some ⟨b5, 0, none⟩)))]) (H' := [box b5 100 (vec 8 u32) y4, box b2 100 (vec 8 u32) (Vector.replicate 8 (0#32)), box b1 100 (vec 8 u32) p_h]) (.cons (.of_lk rfl) <| .cons (.of_lk rfl) <| .cons (.of_lk rfl) <| .nil) (.cons .here <| .cons .here <| .cons .here <| .nil) ?_
    refine run_seq ?_
    refine run_seq ?_
    refine run_text ?_
    refine j_pure (pj_assign has_i64) rfl rfl rfl ?_
    refine j_end ?_
    obtain ⟨⟨y7, y8⟩, e21, h⟩ := bind_some h
    refine run_loopS (Γi := fun (i : Unit) (s : Int × (Vector (BitVec 32) 8)) => [(2, val (.pointer (some ⟨b1, 0, none⟩))), (4, val (.pointer (some ⟨b2, 0, none⟩))), (7, val (.pointer (some ⟨b5, 0, none⟩))), (13, i64.slot s.1)]) (Hi := fun (i : Unit) (s : Int × (Vector (BitVec 32) 8)) => [box b5 100 (vec 8 u32) y4, box b2 100 (vec 8 u32) (Vector.replicate 8 (0#32)), box b1 100 (vec 8 u32) s.2]) e21 () (fun a w hst => (hst.sub (.cons (.of_lk rfl) <| .cons (.of_lk rfl) <| .cons (.of_lk rfl) <| .cons (.of_lk rfl) <| .nil)).keep (.cons .here <| .cons .here <| .cons .here <| .nil)) ?_ ?_
    · clear h e21
      rintro _ ⟨y5, y6⟩ lr h
      change rolodexref02_take_L2 y4 y5 y6 = some _ at h
      show Run _ _ _ [(2, val (.pointer (some ⟨b1, 0, none⟩))), (4, val (.pointer (some ⟨b2, 0, none⟩))), (7, val (.pointer (some ⟨b5, 0, none⟩))), (13, i64.slot y5)] [box b5 100 (vec 8 u32) y4, box b2 100 (vec 8 u32) (Vector.replicate 8 (0#32)), box b1 100 (vec 8 u32) y6]
      unfold rolodexref02_take_L2 at h
      refine run_seq ?_
      refine run_seq ?_
      refine run_text ?_
      refine j_pure (pj_move (has_tmp rfl)) rfl rfl rfl ?_
      refine j_pure (pj_ilss (has_tmp rfl) has_i64) rfl rfl rfl ?_
      refine j_end ?_
      refine run_cond (has_tmp rfl) (fun e17 => ?_) (fun e17 => ?_)
      · replace h := bt e17 h
        refine run_skip ?_
        refine run_seq ?_
        refine run_block ?_
        obtain ⟨x7, e18, h⟩ := bind_some h
        obtain ⟨x8, e19, h⟩ := bind_some h
        refine run_draw (n := 6) (by kernel_rfl) (by kernel_rfl) (by kernel_rfl) (by kernel_rfl) (.read (.plain rfl (pj_move (has_tmp rfl))) <| .read (.plain rfl (pj_index_arr (n := 8) (sz := 1) (has_tmp rfl) (has_tmp rfl) isInt_i64 (vget_some e18).1 (vget_lt e18) (by kernel_rfl))) <| .read (.plain rfl (PJ.eqv (pj_load_box (has_tmp rfl) (.next (.next .here)) (Path.then (Path.all (vec 8 u32)) (Path.atI 8 u32 y5.toNat (vget_some e18).2.1)) (by kernel_rfl)) (vget_eq e18 (vget_some e18).2.1))) <| .read (.plain rfl (pj_move (has_tmp rfl))) <| .read (.plain rfl (pj_index_arr (n := 8) (sz := 1) (has_tmp rfl) (has_tmp rfl) isInt_i64 (vget_some e19).1 (vget_lt e19) (by kernel_rfl))) <| .read (.plain rfl (PJ.eqv (pj_load_box (has_tmp rfl) .here (Path.then (Path.all (vec 8 u32)) (Path.atI 8 u32 y5.toNat (vget_some e19).2.1)) (by kernel_rfl)) (vget_eq e19 (vget_some e19).2.1))) <| .nil) (j_to (Γ' := [(2, val (.pointer (some ⟨b1, 0, none⟩))), (4, val (.pointer (some ⟨b2, 0, none⟩))), (7, val (.pointer (some ⟨b5, 0, none⟩))), (13, i64.slot y5), (112, i64.slot y5), (114, u32.slot x7), (117, u32.slot x8)]) (H' := [box b5 100 (vec 8 u32) y4, box b2 100 (vec 8 u32) (Vector.replicate 8 (0#32)), box b1 100 (vec 8 u32) y6]) (.cons (.of_lk rfl) <| .cons (.of_lk rfl) <| .cons (.of_lk rfl) <| .cons (.of_lk rfl) <| .cons (.of_lk rfl) <| .cons (.of_lk rfl) <| .cons (.of_lk rfl) <| .nil) (.cons .here <| .cons .here <| .cons .here <| .nil) ?_)
        refine j_pure (pj_uadd (k := .u32) (b := 32) rfl rfl (has_tmp rfl) (has_tmp rfl)) rfl rfl rfl ?_
        obtain ⟨e20, h⟩ := grd_some h
        refine j_pure (pj_index_arr (n := 8) (sz := 1) (has_tmp rfl) (has_tmp rfl) isInt_i64 e20.1 e20.2 (by kernel_rfl)) rfl rfl rfl ?_
        refine j_store_boxx (r' := (y6.setIfInBounds y5.toNat (x7 + x8))) (has_tmp rfl) (has_tmp rfl) (.next (.next .here)) (Path.then (Path.all (vec 8 u32)) (Path.atI 8 u32 y5.toNat (lt_nat e20))) (by kernel_rfl) rfl ?_
        refine j_end ?_
        refine run_endblock ?_
        refine run_text ?_
        refine j_pure (pj_move (has_tmp rfl)) rfl rfl rfl ?_
        refine j_pure (pj_iadd (has_tmp rfl) has_i64) rfl rfl rfl ?_
        refine j_pure (pj_assign (has_tmp rfl)) rfl rfl rfl ?_
        refine j_end ?_
        obtain rfl := Option.some.inj h
        exact run_next () (.cons (.of_lk rfl) <| .cons (.of_lk rfl) <| .cons (.of_lk rfl) <| .cons (.of_lk rfl) <| .nil) (.cons (.next .here) <| .cons (.next .here) <| .cons .here <| .nil)
      · replace h := bf e17 h
        obtain rfl := Option.some.inj h
        exact run_brk () (.cons (.of_lk rfl) <| .cons (.of_lk rfl) <| .cons (.of_lk rfl) <| .cons (.of_lk rfl) <| .nil) (.cons .here <| .cons .here <| .cons .here <| .nil)
    · rintro _
      show Run _ _ _ [(2, val (.pointer (some ⟨b1, 0, none⟩))), (4, val (.pointer (some ⟨b2, 0, none⟩))), (7, val (.pointer (some ⟨b5, 0, none⟩))), (13, i64.slot y7)] [box b5 100 (vec 8 u32) y4, box b2 100 (vec 8 u32) (Vector.replicate 8 (0#32)), box b1 100 (vec 8 u32) y8]
      refine run_to (Γ' := [(2, val (.pointer (some ⟨b1, 0, none⟩))), (4, val (.pointer (some ⟨b2, 0, none⟩)))]) (H' := [box b2 100 (vec 8 u32) (Vector.replicate 8 (0#32)), box b1 100 (vec 8 u32) y8]) (.cons (.of_lk rfl) <| .cons (.of_lk rfl) <| .nil) (.cons (.next .here) <| .cons (.next .here) <| .nil) ?_
      refine run_seq ?_
      refine run_text ?_
      refine j_pure (pj_load_box (has_tmp rfl) (.next .here) (Path.all (vec 8 u32)) (by kernel_rfl)) rfl rfl rfl ?_
      refine j_store_boxx (r' := y8) (has_tmp rfl) (has_tmp rfl) .here (Path.all (vec 8 u32)) (by kernel_rfl) rfl ?_
      refine j_end ?_
      obtain rfl := Option.some.inj h
      exact run_ret fun a w hst => q_ret1 hst rfl (.cell rfl .here (by kernel_rfl)) () (fun _ _ h => h) (.nil)
set_option maxRecDepth 100000 in
set_option maxHeartbeats 4000000 in
theorem c_rolodexref02_Sum {G : GP} {p_b : List (BitVec 8)} {r : T_api_Hash} (h : rolodexref02_Sum p_b = some r) : Ctr Tryd.prog G 53 [(sl u8).slot p_b] [] (fun (_ : Unit) => R_api_Hash.slot r) (fun (_ : Unit) => []) := by
  unfold rolodexref02_Sum at h
  refine ctr_of_run Tryd.func53 rfl 42 rfl rfl fun m0 w0 b0 => ?_
  show Run _ _ _ [(0, (sl u8).slot p_b)] _
  refine run_seq ?_
  refine run_text ?_
  refine j_alloc (x := (Vector.replicate 32 (0#8))) (R := R_api_Hash) (zero_vec 32 zero_un) (by kernel_rfl) rfl fun b1 => ?_
  refine j_end ?_
  refine run_seq ?_
  refine run_text ?_
  obtain ⟨r1, e1, h⟩ := bind_some h
  refine j_pure (pj_call (hasL_nil) (by kernel_rfl) (c_rolodexref02_Start e1)) rfl rfl rfl ?_
  refine j_alloc (x := (Vector.replicate 8 (0#32))) (R := (vec 8 u32)) (zero_vec 8 zero_un) (by kernel_rfl) rfl fun b2 => ?_
  refine j_store_boxx (r' := r1) (has_tmp rfl) (has_tmp rfl) .here (Path.all (vec 8 u32)) (by kernel_rfl) rfl ?_
  refine j_end ?_
  refine run_seq ?_
  refine run_text ?_
  refine j_pure (pj_move (has_tmp rfl)) rfl rfl rfl ?_
  obtain ⟨r2, e2, h⟩ := bind_some h
  refine j_pure (pj_call (hasL_cons (has_tmp rfl) <| hasL_nil) (by kernel_rfl) (Ctr.froze (c_rolodexref02_Padded e2))) rfl rfl rfl ?_
  refine j_pure (pj_assign (has_tmp rfl)) rfl rfl rfl ?_
  refine j_end ?_
  refine run_seq ?_
  refine run_seq ?_
  refine run_text ?_
  refine j_pure (pj_assign has_i64) rfl rfl rfl ?_
  refine j_end ?_
  obtain ⟨⟨y3, y4⟩, e6, h⟩ := bind_some h
  refine run_loopS (Γi := fun (i : Unit) (s : Int × (Vector (BitVec 32) 8)) => [(2, val (.pointer (some ⟨b1, 0, none⟩))), (3, val (.pointer (some ⟨b2, 0, none⟩))), (4, (sl u8).slot r2), (5, i64.slot s.1)]) (Hi := fun (i : Unit) (s : Int × (Vector (BitVec 32) 8)) => [box b2 100 (vec 8 u32) s.2, box b1 24 R_api_Hash (Vector.replicate 32 (0#8))]) e6 () (fun a w hst => (hst.sub (.cons (.of_lk rfl) <| .cons (.of_lk rfl) <| .cons (.of_lk rfl) <| .cons (.of_lk rfl) <| .nil)).keep (.cons .here <| .cons .here <| .nil)) ?_ ?_
  · clear h e6
    rintro _ ⟨y1, y2⟩ lr h
    change rolodexref02_Sum_L1 r2 y1 y2 = some _ at h
    show Run _ _ _ [(2, val (.pointer (some ⟨b1, 0, none⟩))), (3, val (.pointer (some ⟨b2, 0, none⟩))), (4, (sl u8).slot r2), (5, i64.slot y1)] [box b2 100 (vec 8 u32) y2, box b1 24 R_api_Hash (Vector.replicate 32 (0#8))]
    unfold rolodexref02_Sum_L1 at h
    refine run_seq ?_
    refine run_seq ?_
    refine run_text ?_
    refine j_pure (pj_move (has_tmp rfl)) rfl rfl rfl ?_
    refine j_pure (pj_move (has_tmp rfl)) rfl rfl rfl ?_
    refine j_pure (pj_len_sl (sz := 1) (has_tmp rfl) (by kernel_rfl)) rfl rfl rfl ?_
    refine j_pure (pj_ilss (has_tmp rfl) (has_tmp rfl)) rfl rfl rfl ?_
    refine j_end ?_
    refine run_cond (has_tmp rfl) (fun e3 => ?_) (fun e3 => ?_)
    · replace h := bt e3 h
      refine run_skip ?_
      refine run_seq ?_
      refine run_block ?_
      obtain ⟨x1, e4, h⟩ := bind_some h
      refine run_draw (n := 6) (by kernel_rfl) (by kernel_rfl) (by kernel_rfl) (by kernel_rfl) (.read (.plain rfl (pj_load_box (has_tmp rfl) .here (Path.all (vec 8 u32)) (by kernel_rfl))) <| .read (.plain rfl (pj_move (has_tmp rfl))) <| .read (.plain rfl (pj_move (has_tmp rfl))) <| .read (.plain rfl (pj_move (has_tmp rfl))) <| .read (.plain rfl (pj_iadd (has_tmp rfl) has_i64)) <| .read (.plain rfl (pj_slice_slx (has_tmp rfl) (.yes (has_tmp rfl) isInt_i64) (.yes (has_tmp rfl) isInt_i64) e4 (by kernel_rfl))) <| .nil) (j_to (Γ' := [(2, val (.pointer (some ⟨b1, 0, none⟩))), (3, val (.pointer (some ⟨b2, 0, none⟩))), (4, (sl u8).slot r2), (5, i64.slot y1), (17, (vec 8 u32).slot y2), (22, (sl u8).slot x1)]) (H' := [box b2 100 (vec 8 u32) y2, box b1 24 R_api_Hash (Vector.replicate 32 (0#8))]) (.cons (.of_lk rfl) <| .cons (.of_lk rfl) <| .cons (.of_lk rfl) <| .cons (.of_lk rfl) <| .cons (.of_lk rfl) <| .cons (.of_lk rfl) <| .nil) (.cons .here <| .cons .here <| .nil) ?_)
      obtain ⟨r3, e5, h⟩ := bind_some h
      refine j_pure (pj_call (hasL_cons (has_tmp rfl) <| hasL_cons (has_tmp rfl) <| hasL_nil) (by kernel_rfl) (c_rolodexref02_take e5)) rfl rfl rfl ?_
      refine j_store_boxx (r' := r3) (has_tmp rfl) (has_tmp rfl) .here (Path.all (vec 8 u32)) (by kernel_rfl) rfl ?_
      refine j_end ?_
      refine run_endblock ?_
      refine run_text ?_
      refine j_pure (pj_move (has_tmp rfl)) rfl rfl rfl ?_
      refine j_pure (pj_iadd (has_tmp rfl) has_i64) rfl rfl rfl ?_
      refine j_pure (pj_assign (has_tmp rfl)) rfl rfl rfl ?_
      refine j_end ?_
      obtain rfl := Option.some.inj h
      exact run_next () (.cons (.of_lk rfl) <| .cons (.of_lk rfl) <| .cons (.of_lk rfl) <| .cons (.of_lk rfl) <| .nil) (.cons .here <| .cons .here <| .nil)
    · replace h := bf e3 h
      obtain rfl := Option.some.inj h
      exact run_brk () (.cons (.of_lk rfl) <| .cons (.of_lk rfl) <| .cons (.of_lk rfl) <| .cons (.of_lk rfl) <| .nil) (.cons .here <| .cons .here <| .nil)
  · rintro _
    show Run _ _ _ [(2, val (.pointer (some ⟨b1, 0, none⟩))), (3, val (.pointer (some ⟨b2, 0, none⟩))), (4, (sl u8).slot r2), (5, i64.slot y3)] [box b2 100 (vec 8 u32) y4, box b1 24 R_api_Hash (Vector.replicate 32 (0#8))]
    refine run_to (Γ' := [(2, val (.pointer (some ⟨b1, 0, none⟩))), (3, val (.pointer (some ⟨b2, 0, none⟩)))]) (H' := [box b2 100 (vec 8 u32) y4, box b1 24 R_api_Hash (Vector.replicate 32 (0#8))]) (.cons (.of_lk rfl) <| .cons (.of_lk rfl) <| .nil) (.cons .here <| .cons .here <| .nil) ?_
    refine run_seq ?_
    refine run_text ?_
    refine j_alloc (x := (Vector.replicate 32 (0#8))) (R := R_api_Hash) (zero_vec 32 zero_un) (by kernel_rfl) rfl fun b3 => ?_
    refine j_end ?_
    refine run_seq ?_
    refine run_seq ?_
    refine run_text ?_
    refine j_pure (pj_assign has_i64) rfl rfl rfl ?_
    refine j_end ?_
    obtain ⟨⟨y7, y8⟩, e11, h⟩ := bind_some h
    refine run_loopS (Γi := fun (i : Unit) (s : Int × T_api_Hash) => [(2, val (.pointer (some ⟨b1, 0, none⟩))), (3, val (.pointer (some ⟨b2, 0, none⟩))), (6, val (.pointer (some ⟨b3, 0, none⟩))), (7, i64.slot s.1)]) (Hi := fun (i : Unit) (s : Int × T_api_Hash) => [box b3 24 R_api_Hash s.2, box b2 100 (vec 8 u32) y4, box b1 24 R_api_Hash (Vector.replicate 32 (0#8))]) e11 () (fun a w hst => (hst.sub (.cons (.of_lk rfl) <| .cons (.of_lk rfl) <| .cons (.of_lk rfl) <| .cons (.of_lk rfl) <| .nil)).keep (.cons .here <| .cons .here <| .cons .here <| .nil)) ?_ ?_
    · clear h e11
      rintro _ ⟨y5, y6⟩ lr h
      change rolodexref02_Sum_L2 y4 y5 y6 = some _ at h
      show Run _ _ _ [(2, val (.pointer (some ⟨b1, 0, none⟩))), (3, val (.pointer (some ⟨b2, 0, none⟩))), (6, val (.pointer (some ⟨b3, 0, none⟩))), (7, i64.slot y5)] [box b3 24 R_api_Hash y6, box b2 100 (vec 8 u32) y4, box b1 24 R_api_Hash (Vector.replicate 32 (0#8))]
      unfold rolodexref02_Sum_L2 at h
      refine run_seq ?_
      refine run_seq ?_
      refine run_text ?_
      refine j_pure (pj_move (has_tmp rfl)) rfl rfl rfl ?_
      refine j_pure (pj_ilss (has_tmp rfl) has_i64) rfl rfl rfl ?_
      refine j_end ?_
      refine run_cond (has_tmp rfl) (fun e7 => ?_) (fun e7 => ?_)
      · replace h := bt e7 h
        refine run_skip ?_
        refine run_seq ?_
        refine run_block ?_
        refine run_text ?_
        refine j_pure (pj_move (has_tmp rfl)) rfl rfl rfl ?_
        refine j_pure (pj_move (has_tmp rfl)) rfl rfl rfl ?_
        refine j_pure (pj_iquo (has_tmp rfl) has_i64 (by decide)) rfl rfl rfl ?_
        obtain ⟨x2, e8, h⟩ := bind_some h
        refine j_pure (pj_index_arr (n := 8) (sz := 1) (has_tmp rfl) (has_tmp rfl) isInt_i64 (vget_some e8).1 (vget_lt e8) (by kernel_rfl)) rfl rfl rfl ?_
        refine j_pure (PJ.eqv (pj_load_box (has_tmp rfl) (.next .here) (Path.then (Path.all (vec 8 u32)) (Path.atI 8 u32 ((w64 (Int.tdiv y5 (4 : Int))).toNat) (vget_some e8).2.1)) (by kernel_rfl)) (vget_eq e8 (vget_some e8).2.1)) rfl rfl rfl ?_
        refine j_pure (pj_move (has_tmp rfl)) rfl rfl rfl ?_
        refine j_pure (pj_irem (has_tmp rfl) has_i64 (by decide)) rfl rfl rfl ?_
        refine j_pure (pj_conv_un (k := .u32) (b := 32) rfl rfl (by kernel_rfl) (has_tmp rfl) isInt_i64) rfl rfl rfl ?_
        refine j_pure (pj_umul (k := .u32) (b := 32) rfl rfl (has_un (x := 8#32) rfl) (has_tmp rfl)) rfl rfl rfl ?_
        refine j_pure (pj_usub (k := .u32) (b := 32) rfl rfl (has_un (x := 24#32) rfl) (has_tmp rfl)) rfl rfl rfl ?_
        refine j_pure (pj_ushr (k := .u32) (b := 32) rfl (has_tmp rfl) (has_tmp rfl) isInt_un (Int.natCast_nonneg _)) rfl rfl rfl ?_
        refine j_pure (pj_conv_uu (k := .u8) (b := 8) rfl rfl (by kernel_rfl) (has_tmp rfl)) rfl rfl rfl ?_
        obtain ⟨e9, h⟩ := grd_some h
        refine j_pure (pj_index_arr (n := 32) (sz := 1) (has_tmp rfl) (has_tmp rfl) isInt_i64 e9.1 e9.2 (by kernel_rfl)) rfl rfl rfl ?_
        obtain ⟨x3, e10, h⟩ := bind_some h
        refine j_store_boxx (r' := x3) (has_tmp rfl) (has_tmp rfl) .here (Path.then (Path.all R_api_Hash) (Path.atI 32 u8 y5.toNat (lt_nat e9))) (by kernel_rfl) (Option.some.inj e10) ?_
        refine j_end ?_
        refine run_endblock ?_
        refine run_text ?_
        refine j_pure (pj_move (has_tmp rfl)) rfl rfl rfl ?_
        refine j_pure (pj_iadd (has_tmp rfl) has_i64) rfl rfl rfl ?_
        refine j_pure (pj_assign (has_tmp rfl)) rfl rfl rfl ?_
        refine j_end ?_
        obtain rfl := Option.some.inj h
        exact run_next () (.cons (.of_lk rfl) <| .cons (.of_lk rfl) <| .cons (.of_lk rfl) <| .cons (.of_lk rfl) <| .nil) (.cons .here <| .cons .here <| .cons .here <| .nil)
      · replace h := bf e7 h
        obtain rfl := Option.some.inj h
        exact run_brk () (.cons (.of_lk rfl) <| .cons (.of_lk rfl) <| .cons (.of_lk rfl) <| .cons (.of_lk rfl) <| .nil) (.cons .here <| .cons .here <| .cons .here <| .nil)
    · rintro _
      show Run _ _ _ [(2, val (.pointer (some ⟨b1, 0, none⟩))), (3, val (.pointer (some ⟨b2, 0, none⟩))), (6, val (.pointer (some ⟨b3, 0, none⟩))), (7, i64.slot y7)] [box b3 24 R_api_Hash y8, box b2 100 (vec 8 u32) y4, box b1 24 R_api_Hash (Vector.replicate 32 (0#8))]
      refine run_to (Γ' := [(2, val (.pointer (some ⟨b1, 0, none⟩))), (6, val (.pointer (some ⟨b3, 0, none⟩)))]) (H' := [box b3 24 R_api_Hash y8, box b1 24 R_api_Hash (Vector.replicate 32 (0#8))]) (.cons (.of_lk rfl) <| .cons (.of_lk rfl) <| .nil) (.cons .here <| .cons (.next .here) <| .nil) ?_
      refine run_seq ?_
      refine run_text ?_
      refine j_pure (pj_load_box (has_tmp rfl) .here (Path.all R_api_Hash) (by kernel_rfl)) rfl rfl rfl ?_
      refine j_store_boxx (r' := y8) (has_tmp rfl) (has_tmp rfl) (.next .here) (Path.all R_api_Hash) (by kernel_rfl) rfl ?_
      refine j_end ?_
      obtain rfl := Option.some.inj h
      exact run_ret fun a w hst => q_ret1 hst rfl (.cell rfl .here (by kernel_rfl)) () (fun _ _ h => h) (.nil)
set_option maxRecDepth 100000 in
set_option maxHeartbeats 4000000 in
theorem c_rolodexref15_Text {G : GP} {p_a : T_api_Hash} {p_b : T_api_Hash} {r : (List (BitVec 8))} (h : rolodexref15_Text p_a p_b = some r) : Ctr Tryd.prog G 54 [R_api_Hash.slot p_a, R_api_Hash.slot p_b] [] (fun (u0 : Value) => ov u0) (fun (u0 : Value) => [own 5 u8 u0 r]) := by
  unfold rolodexref15_Text at h
  refine ctr_of_run Tryd.func54 rfl 13 rfl rfl fun m0 w0 b0 => ?_
  show Run _ _ _ [(0, R_api_Hash.slot p_a), (1, R_api_Hash.slot p_b)] _
  refine run_seq ?_
  refine run_text ?_
  refine j_pure (pj_box_to (has_tmp rfl)) rfl rfl rfl ?_
  refine j_pure (pj_box_to (has_tmp rfl)) rfl rfl rfl ?_
  refine j_assign_nil (T := 5) u8 rfl fun v1 => ?_
  refine j_end ?_
  refine run_seq ?_
  refine run_text ?_
  refine j_buildSlice (T := 5) (R := u8) (.cons (has_un (x := 1#8) rfl) .nil) rfl (by kernel_rfl) (by kernel_rfl) rfl fun v2 => ?_
  refine j_pure (pj_assign (has_tmp rfl)) rfl rfl rfl ?_
  refine j_end ?_
  refine run_seq ?_
  refine run_text ?_
  refine j_pure (pj_move (has_tmp rfl)) rfl rfl rfl ?_
  refine j_pure (pj_slice_toF (has_tmp rfl) (by decide) (by kernel_rfl)) rfl rfl rfl ?_
  obtain ⟨e1, h⟩ := grd_some h
  refine j_append (T := 5) (E := 5) (has_tmp rfl) .here (src_data (has_tmp rfl)) (by kernel_rfl) (by kernel_rfl) e1 rfl fun v3 => ?_
  refine j_pure (pj_assign (has_tmp rfl)) rfl rfl rfl ?_
  refine j_end ?_
  refine run_seq ?_
  refine run_text ?_
  refine j_pure (pj_move (has_tmp rfl)) rfl rfl rfl ?_
  refine j_pure (pj_slice_toF (has_tmp rfl) (by decide) (by kernel_rfl)) rfl rfl rfl ?_
  obtain ⟨e2, h⟩ := grd_some h
  refine j_append (T := 5) (E := 5) (has_tmp rfl) .here (src_data (has_tmp rfl)) (by kernel_rfl) (by kernel_rfl) e2 rfl fun v4 => ?_
  refine j_pure (pj_assign (has_tmp rfl)) rfl rfl rfl ?_
  refine j_end ?_
  obtain rfl := Option.some.inj h
  exact run_ret fun a w hst => q_ret1 hst rfl (.tmp rfl) v4 (fun _ _ h => h) (.cons .here <| .nil)
set_option maxRecDepth 100000 in
set_option maxHeartbeats 4000000 in
theorem c_rolodexref15_Node {G : GP} {p_a : T_api_Hash} {p_b : T_api_Hash} {r : T_api_Hash} (h : rolodexref15_Node p_a p_b = some r) : Ctr Tryd.prog G 19 [R_api_Hash.slot p_a, R_api_Hash.slot p_b] [] (fun (_ : Unit) => R_api_Hash.slot r) (fun (_ : Unit) => []) := by
  unfold rolodexref15_Node at h
  refine ctr_of_run Tryd.func19 rfl 9 rfl rfl fun m0 w0 b0 => ?_
  show Run _ _ _ [(0, R_api_Hash.slot p_a), (1, R_api_Hash.slot p_b)] _
  refine run_seq ?_
  refine run_text ?_
  refine j_pure (pj_box_to (has_tmp rfl)) rfl rfl rfl ?_
  refine j_pure (pj_box_to (has_tmp rfl)) rfl rfl rfl ?_
  refine j_alloc (x := (Vector.replicate 32 (0#8))) (R := R_api_Hash) (zero_vec 32 zero_un) (by kernel_rfl) rfl fun b1 => ?_
  refine j_end ?_
  refine run_seq ?_
  refine run_text ?_
  refine j_pure (pj_load_to (has_tmp rfl) (by kernel_rfl)) rfl rfl rfl ?_
  refine j_pure (pj_load_to (has_tmp rfl) (by kernel_rfl)) rfl rfl rfl ?_
  obtain ⟨r1, e1, h⟩ := bind_some h
  refine j_pure (pj_call (hasL_cons (has_tmp rfl) <| hasL_cons (has_tmp rfl) <| hasL_nil) (by kernel_rfl) (Ctr.froze (c_rolodexref15_Text e1))) rfl rfl rfl ?_
  obtain ⟨r2, e2, h⟩ := bind_some h
  refine j_pure (pj_call (hasL_cons (has_tmp rfl) <| hasL_nil) (by kernel_rfl) (c_rolodexref02_Sum e2)) rfl rfl rfl ?_
  refine j_store_boxx (r' := r2) (has_tmp rfl) (has_tmp rfl) .here (Path.all R_api_Hash) (by kernel_rfl) rfl ?_
  refine j_end ?_
  obtain rfl := Option.some.inj h
  exact run_ret fun a w hst => q_ret1 hst rfl (.cell rfl .here (by kernel_rfl)) () (fun _ _ h => h) (.nil)
set_option maxRecDepth 100000 in
set_option maxHeartbeats 4000000 in
theorem c_rolodexref15_Made {G : GP} {p_sizes : List Int} {p_l : List T_api_Hash} {p_i : Int} {r : (List Int) × (List T_api_Hash)} (h : rolodexref15_Made p_sizes p_l p_i = some r) : Ctr Tryd.prog G 61 [(sl i64).slot p_sizes, (sl R_api_Hash).slot p_l, i64.slot p_i] [] (fun (i : Value × Value) => tup [ov i.1, ov i.2]) (fun (i : Value × Value) => [own 3 i64 i.1 r.1, own 24 R_api_Hash i.2 r.2]) := by
  unfold rolodexref15_Made at h
  refine ctr_of_run Tryd.func61 rfl 55 rfl rfl fun m0 w0 b0 => ?_
  show Run _ _ _ [(0, (sl i64).slot p_sizes), (1, (sl R_api_Hash).slot p_l), (2, i64.slot p_i)] _
  refine run_seq ?_
  refine run_text ?_
  refine j_assign_nil (T := 3) i64 rfl fun v1 => ?_
  refine j_assign_nil (T := 24) R_api_Hash rfl fun v2 => ?_
  refine j_end ?_
  refine run_seq ?_
  refine run_text ?_
  refine j_assign_nil (T := 3) i64 rfl fun v3 => ?_
  refine j_end ?_
  refine run_seq ?_
  refine run_text ?_
  refine j_assign_nil (T := 24) R_api_Hash rfl fun v4 => ?_
  refine j_end ?_
  refine run_seq ?_
  refine run_text ?_
  refine j_pure (pj_move (has_tmp rfl)) rfl rfl rfl ?_
  refine j_pure (pj_move (has_tmp rfl)) rfl rfl rfl ?_
  refine j_pure (pj_move (has_tmp rfl)) rfl rfl rfl ?_
  obtain ⟨x1, e1, h⟩ := bind_some h
  refine j_pure (pj_slice_slx (has_tmp rfl) .no (.yes (has_tmp rfl) isInt_i64) e1 (by kernel_rfl)) rfl rfl rfl ?_
  obtain ⟨e2, h⟩ := grd_some h
  refine j_append (T := 3) (E := 3) (has_tmp rfl) (.next .here) (src_data (has_tmp rfl)) (by kernel_rfl) (by kernel_rfl) e2 rfl fun v5 => ?_
  refine j_pure (pj_assign (has_tmp rfl)) rfl rfl rfl ?_
  refine j_end ?_
  refine run_seq ?_
  refine run_text ?_
  refine j_pure (pj_move (has_tmp rfl)) rfl rfl rfl ?_
  refine j_pure (pj_move (has_tmp rfl)) rfl rfl rfl ?_
  refine j_pure (pj_move (has_tmp rfl)) rfl rfl rfl ?_
  obtain ⟨x2, e3, h⟩ := bind_some h
  refine j_pure (pj_index_slx (has_tmp rfl) (has_tmp rfl) isInt_i64 e3 (by kernel_rfl)) rfl rfl rfl ?_
  refine j_pure (pj_load_to (has_tmp rfl) (by kernel_rfl)) rfl rfl rfl ?_
  refine j_pure (pj_imul has_i64 (has_tmp rfl)) rfl rfl rfl ?_
  refine j_pure (pj_buildSlice (T := 3) (R := i64) (.cons (has_tmp rfl) .nil) rfl (by kernel_rfl) (by kernel_rfl)) rfl rfl rfl ?_
  obtain ⟨e4, h⟩ := grd_some h
  refine j_append (T := 3) (E := 3) (has_tmp rfl) .here (src_data (has_tmp rfl)) (by kernel_rfl) (by kernel_rfl) e4 rfl fun v6 => ?_
  refine j_pure (pj_assign (has_tmp rfl)) rfl rfl rfl ?_
  refine j_end ?_
  refine run_seq ?_
  refine run_text ?_
  refine j_pure (pj_move (has_tmp rfl)) rfl rfl rfl ?_
  refine j_pure (pj_move (has_tmp rfl)) rfl rfl rfl ?_
  refine j_pure (pj_move (has_tmp rfl)) rfl rfl rfl ?_
  refine j_pure (pj_iadd (has_tmp rfl) has_i64) rfl rfl rfl ?_
  obtain ⟨x3, e5, h⟩ := bind_some h
  refine j_pure (pj_slice_slx (has_tmp rfl) (.yes (has_tmp rfl) isInt_i64) .no e5 (by kernel_rfl)) rfl rfl rfl ?_
  obtain ⟨e6, h⟩ := grd_some h
  refine j_append (T := 3) (E := 3) (has_tmp rfl) .here (src_data (has_tmp rfl)) (by kernel_rfl) (by kernel_rfl) e6 rfl fun v7 => ?_
  refine j_pure (pj_assign (has_tmp rfl)) rfl rfl rfl ?_
  refine j_end ?_
  refine run_seq ?_
  refine run_text ?_
  refine j_pure (pj_move (has_tmp rfl)) rfl rfl rfl ?_
  refine j_pure (pj_move (has_tmp rfl)) rfl rfl rfl ?_
  refine j_pure (pj_move (has_tmp rfl)) rfl rfl rfl ?_
  obtain ⟨x4, e7, h⟩ := bind_some h
  refine j_pure (pj_slice_slx (has_tmp rfl) .no (.yes (has_tmp rfl) isInt_i64) e7 (by kernel_rfl)) rfl rfl rfl ?_
  obtain ⟨e8, h⟩ := grd_some h
  refine j_append (T := 24) (E := 24) (has_tmp rfl) (.next .here) (src_data (has_tmp rfl)) (by kernel_rfl) (by kernel_rfl) e8 rfl fun v8 => ?_
  refine j_pure (pj_assign (has_tmp rfl)) rfl rfl rfl ?_
  refine j_end ?_
  refine run_seq ?_
  obtain ⟨x5, e9, h⟩ := bind_some h
  obtain ⟨x6, e10, h⟩ := bind_some h
  obtain ⟨r1, e11, h⟩ := bind_some h
  refine run_draw (n := 12) (by kernel_rfl) (by kernel_rfl) (by kernel_rfl) (by kernel_rfl) (.read (.plain rfl (pj_move (has_tmp rfl))) <| .read (.plain rfl (pj_move (has_tmp rfl))) <| .read (.plain rfl (pj_move (has_tmp rfl))) <| .read (.plain rfl (pj_index_slx (has_tmp rfl) (has_tmp rfl) isInt_i64 e9 (by kernel_rfl))) <| .read (.plain rfl (pj_load_to (has_tmp rfl) (by kernel_rfl))) <| .read (.plain rfl (pj_move (has_tmp rfl))) <| .read (.plain rfl (pj_move (has_tmp rfl))) <| .read (.plain rfl (pj_iadd (has_tmp rfl) has_i64)) <| .read (.plain rfl (pj_index_slx (has_tmp rfl) (has_tmp rfl) isInt_i64 e10 (by kernel_rfl))) <| .read (.plain rfl (pj_load_to (has_tmp rfl) (by kernel_rfl))) <| .read (.plain rfl (pj_call (hasL_cons (has_tmp rfl) <| hasL_cons (has_tmp rfl) <| hasL_nil) (by kernel_rfl) (c_rolodexref15_Node e11))) <| .read (.plain rfl (pj_buildSlice (T := 24) (R := R_api_Hash) (.cons (has_tmp rfl) .nil) rfl (by kernel_rfl) (by kernel_rfl))) <| .nil) (j_to (Γ' := [(1, (sl R_api_Hash).slot p_l), (2, i64.slot p_i), (8, ov v7), (34, ov v8), (45, (sl R_api_Hash).slot ([r1]))]) (H' := [own 24 R_api_Hash v8 (([] : List T_api_Hash) ++ x4), own 3 i64 v7 (((([] : List Int) ++ x1) ++ ([w64 ((2 : Int) * x2)])) ++ x3)]) (.cons (.of_lk rfl) <| .cons (.of_lk rfl) <| .cons (.of_lk rfl) <| .cons (.of_lk rfl) <| .cons (.of_lk rfl) <| .nil) (.cons .here <| .cons .here <| .nil) ?_)
  obtain ⟨e12, h⟩ := grd_some h
  refine j_append (T := 24) (E := 24) (has_tmp rfl) .here (src_data (has_tmp rfl)) (by kernel_rfl) (by kernel_rfl) e12 rfl fun v9 => ?_
  refine j_pure (pj_assign (has_tmp rfl)) rfl rfl rfl ?_
  refine j_end ?_
  refine run_seq ?_
  refine run_text ?_
  refine j_pure (pj_move (has_tmp rfl)) rfl rfl rfl ?_
  refine j_pure (pj_move (has_tmp rfl)) rfl rfl rfl ?_
  refine j_pure (pj_move (has_tmp rfl)) rfl rfl rfl ?_
  refine j_pure (pj_iadd (has_tmp rfl) has_i64) rfl rfl rfl ?_
  obtain ⟨x7, e13, h⟩ := bind_some h
  refine j_pure (pj_slice_slx (has_tmp rfl) (.yes (has_tmp rfl) isInt_i64) .no e13 (by kernel_rfl)) rfl rfl rfl ?_
  obtain ⟨e14, h⟩ := grd_some h
  refine j_append (T := 24) (E := 24) (has_tmp rfl) .here (src_data (has_tmp rfl)) (by kernel_rfl) (by kernel_rfl) e14 rfl fun v10 => ?_
  refine j_pure (pj_assign (has_tmp rfl)) rfl rfl rfl ?_
  refine j_end ?_
  refine run_seq ?_
  refine run_text ?_
  refine j_pure (pj_move (has_tmp rfl)) rfl rfl rfl ?_
  refine j_pure (pj_move (has_tmp rfl)) rfl rfl rfl ?_
  refine j_pure (pj_assign (has_tmp rfl)) rfl rfl rfl ?_
  refine j_pure (pj_assign (has_tmp rfl)) rfl rfl rfl ?_
  refine j_end ?_
  obtain rfl := Option.some.inj h
  exact run_ret fun a w hst => q_retN hst rfl (.cons (.tmp rfl) <| .cons (.tmp rfl) <| .nil) rfl (v7, v10) (fun _ _ h => h) (.cons (.next .here) <| .cons .here <| .nil)
set_option maxRecDepth 100000 in
set_option maxHeartbeats 4000000 in
theorem c_rolodexref15_Join {G : GP} {p_a : T_rolodexref15_Range} {p_b : T_rolodexref15_Range} {r : T_rolodexref15_Range × Int} (h : rolodexref15_Join p_a p_b = some r) : Ctr Tryd.prog G 32 [R_rolodexref15_Range.slot p_a, R_rolodexref15_Range.slot p_b] [] (fun (_ : Unit) => tup [R_rolodexref15_Range.slot r.1, i64.slot r.2]) (fun (_ : Unit) => []) := by
  unfold rolodexref15_Join at h
  refine ctr_of_run Tryd.func32 rfl 68 rfl rfl fun m0 w0 b0 => ?_
  show Run _ _ _ [(0, R_rolodexref15_Range.slot p_a), (1, R_rolodexref15_Range.slot p_b)] _
  refine run_seq ?_
  refine run_text ?_
  refine j_pure (pj_box_to (has_tmp rfl)) rfl rfl rfl ?_
  refine j_pure (pj_box_to (has_tmp rfl)) rfl rfl rfl ?_
  refine j_alloc (x := (0, 0, ([] : List T_api_Hash))) (R := R_rolodexref15_Range) (zero_prod zero_i64 (zero_prod zero_i64 zero_sl)) (by kernel_rfl) rfl fun b1 => ?_
  refine j_pure (pj_assign has_i64) rfl rfl rfl ?_
  refine j_end ?_
  refine run_seq ?_
  refine run_seq ?_
  refine run_text ?_
  refine j_pure (pj_load_to (has_tmp rfl) (by kernel_rfl)) rfl rfl rfl ?_
  obtain ⟨r1, e1, h⟩ := bind_some h
  refine j_pure (pj_call (hasL_cons (has_tmp rfl) <| hasL_nil) (by kernel_rfl) (c_rolodexref15_Formed e1)) rfl rfl rfl ?_
  refine j_pure (pj_not (has_tmp rfl)) rfl rfl rfl ?_
  refine j_pure (pj_move (has_tmp rfl)) rfl rfl rfl ?_
  obtain ⟨y1, e3, h⟩ := bind_some h
  refine j_joinx (ι := Unit) (Γ' := fun _ => [(2, ptrTo R_rolodexref15_Range p_a), (3, ptrTo R_rolodexref15_Range p_b), (4, val (.pointer (some ⟨b1, 0, none⟩))), (16, bl.slot y1)]) (H' := fun _ => [box b1 39 R_rolodexref15_Range (0, 0, ([] : List T_api_Hash))]) 4 ?_ fun J => ?_
  · intro _
    clear e3
    show OpsJ _ _ _ [(2, ptrTo R_rolodexref15_Range p_a), (3, ptrTo R_rolodexref15_Range p_b), (4, val (.pointer (some ⟨b1, 0, none⟩))), (16, bl.slot y1)] [box b1 39 R_rolodexref15_Range (0, 0, ([] : List T_api_Hash))] _
    refine j_pure (pj_move (has_tmp rfl)) rfl rfl rfl ?_
    obtain ⟨y2, e6, h⟩ := bind_some h
    refine j_joinx (ι := Unit) (Γ' := fun _ => [(2, ptrTo R_rolodexref15_Range p_a), (3, ptrTo R_rolodexref15_Range p_b), (4, val (.pointer (some ⟨b1, 0, none⟩))), (23, bl.slot y2)]) (H' := fun _ => [box b1 39 R_rolodexref15_Range (0, 0, ([] : List T_api_Hash))]) 6 ?_ fun J => ?_
    · intro _
      clear e6
      show OpsJ _ _ _ [(2, ptrTo R_rolodexref15_Range p_a), (3, ptrTo R_rolodexref15_Range p_b), (4, val (.pointer (some ⟨b1, 0, none⟩))), (23, bl.slot y2)] [box b1 39 R_rolodexref15_Range (0, 0, ([] : List T_api_Hash))] _
      refine j_end ?_
      refine run_cond (has_tmp rfl) (fun e7 => ?_) (fun e7 => ?_)
      · replace h := bt e7 h
        refine run_seq ?_
        refine run_text ?_
        refine j_pure (pj_build (R := R_rolodexref15_Range) (zero_prod zero_i64 (zero_prod zero_i64 zero_sl)) (by kernel_rfl) (by kernel_rfl) rfl .nil) rfl rfl rfl ?_
        refine j_store_boxx (r' := (0, 0, ([] : List T_api_Hash))) (has_tmp rfl) (has_tmp rfl) .here (Path.all R_rolodexref15_Range) (by kernel_rfl) rfl ?_
        refine j_pure (pj_assign has_i64) rfl rfl rfl ?_
        refine j_end ?_
        obtain rfl := Option.some.inj h
        exact run_ret fun a w hst => q_retN hst rfl (.cons (.cell rfl .here (by kernel_rfl)) <| .cons (.tmp rfl) <| .nil) rfl () (fun _ _ h => h) (.nil)
      · replace h := bf e7 h
        refine run_skip ?_
        refine run_seq ?_
        refine run_text ?_
        refine j_assign_nil (T := 3) i64 rfl fun v1 => ?_
        refine j_end ?_
        refine run_seq ?_
        refine run_text ?_
        refine j_assign_nil (T := 24) R_api_Hash rfl fun v2 => ?_
        refine j_end ?_
        refine run_seq ?_
        refine run_text ?_
        refine j_pure (pj_move (has_tmp rfl)) rfl rfl rfl ?_
        refine j_pure (pj_field_to (has_tmp rfl) (Path.fst i64 (prod i64 (sl R_api_Hash))) (by kernel_rfl)) rfl rfl rfl ?_
        refine j_pure (pj_load_to (has_tmp rfl) (by kernel_rfl)) rfl rfl rfl ?_
        refine j_pure (pj_field_to (has_tmp rfl) (Path.then (Path.snd i64 (prod i64 (sl R_api_Hash))) (Path.fst i64 (sl R_api_Hash))) (by kernel_rfl)) rfl rfl rfl ?_
        refine j_pure (pj_load_to (has_tmp rfl) (by kernel_rfl)) rfl rfl rfl ?_
        obtain ⟨r3, e8, h⟩ := bind_some h
        refine j_pure (pj_call (hasL_cons (has_tmp rfl) <| hasL_cons (has_tmp rfl) <| hasL_nil) (by kernel_rfl) (Ctr.froze (c_rolodexref15_Segments e8))) rfl rfl rfl ?_
        obtain ⟨e9, h⟩ := grd_some h
        refine j_append (T := 3) (E := 3) (has_tmp rfl) (.next .here) (src_data (has_tmp rfl)) (by kernel_rfl) (by kernel_rfl) e9 rfl fun v3 => ?_
        refine j_pure (pj_assign (has_tmp rfl)) rfl rfl rfl ?_
        refine j_end ?_
        refine run_seq ?_
        refine run_text ?_
        refine j_pure (pj_move (has_tmp rfl)) rfl rfl rfl ?_
        refine j_pure (pj_field_to (has_tmp rfl) (Path.fst i64 (prod i64 (sl R_api_Hash))) (by kernel_rfl)) rfl rfl rfl ?_
        refine j_pure (pj_load_to (has_tmp rfl) (by kernel_rfl)) rfl rfl rfl ?_
        refine j_pure (pj_field_to (has_tmp rfl) (Path.then (Path.snd i64 (prod i64 (sl R_api_Hash))) (Path.fst i64 (sl R_api_Hash))) (by kernel_rfl)) rfl rfl rfl ?_
        refine j_pure (pj_load_to (has_tmp rfl) (by kernel_rfl)) rfl rfl rfl ?_
        obtain ⟨r4, e10, h⟩ := bind_some h
        refine j_pure (pj_call (hasL_cons (has_tmp rfl) <| hasL_cons (has_tmp rfl) <| hasL_nil) (by kernel_rfl) (Ctr.froze (c_rolodexref15_Segments e10))) rfl rfl rfl ?_
        obtain ⟨e11, h⟩ := grd_some h
        refine j_append (T := 3) (E := 3) (has_tmp rfl) .here (src_data (has_tmp rfl)) (by kernel_rfl) (by kernel_rfl) e11 rfl fun v4 => ?_
        refine j_pure (pj_assign (has_tmp rfl)) rfl rfl rfl ?_
        refine j_end ?_
        refine run_seq ?_
        refine run_text ?_
        refine j_pure (pj_move (has_tmp rfl)) rfl rfl rfl ?_
        refine j_pure (pj_field_to (has_tmp rfl) (Path.then (Path.snd i64 (prod i64 (sl R_api_Hash))) (Path.snd i64 (sl R_api_Hash))) (by kernel_rfl)) rfl rfl rfl ?_
        refine j_pure (pj_load_to (has_tmp rfl) (by kernel_rfl)) rfl rfl rfl ?_
        obtain ⟨e12, h⟩ := grd_some h
        refine j_append (T := 24) (E := 24) (has_tmp rfl) (.next .here) (src_data (has_tmp rfl)) (by kernel_rfl) (by kernel_rfl) e12 rfl fun v5 => ?_
        refine j_pure (pj_assign (has_tmp rfl)) rfl rfl rfl ?_
        refine j_end ?_
        refine run_seq ?_
        refine run_text ?_
        refine j_pure (pj_move (has_tmp rfl)) rfl rfl rfl ?_
        refine j_pure (pj_field_to (has_tmp rfl) (Path.then (Path.snd i64 (prod i64 (sl R_api_Hash))) (Path.snd i64 (sl R_api_Hash))) (by kernel_rfl)) rfl rfl rfl ?_
        refine j_pure (pj_load_to (has_tmp rfl) (by kernel_rfl)) rfl rfl rfl ?_
        obtain ⟨e13, h⟩ := grd_some h
        refine j_append (T := 24) (E := 24) (has_tmp rfl) .here (src_data (has_tmp rfl)) (by kernel_rfl) (by kernel_rfl) e13 rfl fun v6 => ?_
        refine j_pure (pj_assign (has_tmp rfl)) rfl rfl rfl ?_
        refine j_end ?_
        refine run_seq ?_
        refine run_seq ?_
        refine run_text ?_
        refine j_pure (pj_assign has_i64) rfl rfl rfl ?_
        refine j_end ?_
        obtain ⟨⟨y6, y7, y8⟩, e18, h⟩ := bind_some h
        refine run_loopS (Γi := fun (i : Value × Value) (s : Int × (List T_api_Hash) × (List Int)) => [(2, ptrTo R_rolodexref15_Range p_a), (3, ptrTo R_rolodexref15_Range p_b), (4, val (.pointer (some ⟨b1, 0, none⟩))), (6, ov i.2), (7, ov i.1), (8, i64.slot s.1)]) (Hi := fun (i : Value × Value) (s : Int × (List T_api_Hash) × (List Int)) => [own 24 R_api_Hash i.1 s.2.1, own 3 i64 i.2 s.2.2, box b1 39 R_rolodexref15_Range (0, 0, ([] : List T_api_Hash))]) e18 ⟨v6, v4⟩ (fun a w hst => (hst.sub (.cons (.of_lk rfl) <| .cons (.of_lk rfl) <| .cons (.of_lk rfl) <| .cons (.of_lk rfl) <| .cons (.of_lk rfl) <| .cons (.of_lk rfl) <| .nil)).keep (.cons .here <| .cons .here <| .cons .here <| .nil)) ?_ ?_
        · clear h e18
          rintro ⟨v7, v8⟩ ⟨y3, y4, y5⟩ lr h
          change rolodexref15_Join_L1 p_a y3 y4 y5 = some _ at h
          show Run _ _ _ [(2, ptrTo R_rolodexref15_Range p_a), (3, ptrTo R_rolodexref15_Range p_b), (4, val (.pointer (some ⟨b1, 0, none⟩))), (6, ov v8), (7, ov v7), (8, i64.slot y3)] [own 24 R_api_Hash v7 y4, own 3 i64 v8 y5, box b1 39 R_rolodexref15_Range (0, 0, ([] : List T_api_Hash))]
          unfold rolodexref15_Join_L1 at h
          refine run_seq ?_
          refine run_seq ?_
          refine run_text ?_
          refine j_pure (pj_move (has_tmp rfl)) rfl rfl rfl ?_
          refine j_pure (pj_igeq (has_tmp rfl) has_i64) rfl rfl rfl ?_
          refine j_end ?_
          refine run_cond (has_tmp rfl) (fun e14 => ?_) (fun e14 => ?_)
          · replace h := bt e14 h
            refine run_skip ?_
            refine run_block ?_
            refine run_seq ?_
            refine run_text ?_
            refine j_pure (pj_field_to (has_tmp rfl) (Path.fst i64 (prod i64 (sl R_api_Hash))) (by kernel_rfl)) rfl rfl rfl ?_
            refine j_pure (pj_load_to (has_tmp rfl) (by kernel_rfl)) rfl rfl rfl ?_
            refine j_pure (pj_move (has_tmp rfl)) rfl rfl rfl ?_
            obtain ⟨r5, e15, h⟩ := bind_some h
            refine j_pure (pj_callB (hasBL_cons (hasB_of (has_tmp rfl)) <| hasBL_cons (hasB_own (has_tmp rfl) (.next .here)) <| hasBL_nil) (by kernel_rfl) (c_rolodexref15_First e15) (Rep.flat_slot flat_i64 _)) rfl rfl rfl ?_
            refine j_pure (pj_assign (has_tmp rfl)) rfl rfl rfl ?_
            refine j_end ?_
            refine run_seq ?_
            refine run_text ?_
            refine j_pure (pj_move (has_tmp rfl)) rfl rfl rfl ?_
            refine j_pure (pj_igeq (has_tmp rfl) has_i64) rfl rfl rfl ?_
            refine j_end ?_
            refine run_cond (has_tmp rfl) (fun e16 => ?_) (fun e16 => ?_)
            · replace h := bt e16 h
              refine run_text ?_
              refine j_pure (pj_move (has_tmp rfl)) rfl rfl rfl ?_
              refine j_pure (pj_move (has_tmp rfl)) rfl rfl rfl ?_
              refine j_pure (pj_move (has_tmp rfl)) rfl rfl rfl ?_
              obtain ⟨r6, e17, h⟩ := bind_some h
              refine j_callB (hasBL_cons (hasB_own (has_tmp rfl) (.next .here)) <| hasBL_cons (hasB_own (has_tmp rfl) .here) <| hasBL_cons (hasB_of (has_tmp rfl)) <| hasBL_nil) (by kernel_rfl) (c_rolodexref15_Made e17) (fun i => flat_tup (flatL_cons (Rep.flat_slot (flat_exv _) _) (flatL_cons (Rep.flat_slot (flat_exv _) _) (flatL_nil)))) (fun i e he => own_mem2 he (own_flat flat_i64 _ _) (own_flat (flat_vec _ (flat_un _ _)) _ _)) rfl fun ⟨v9, v10⟩ => ?_
              refine j_pure (pj_move (has_tmp rfl)) rfl rfl rfl ?_
              refine j_pure (pj_extract (has_tmp rfl) rfl) rfl rfl rfl ?_
              refine j_pure (pj_extract (has_tmp rfl) rfl) rfl rfl rfl ?_
              refine j_pure (pj_assign (has_tmp rfl)) rfl rfl rfl ?_
              refine j_pure (pj_assign (has_tmp rfl)) rfl rfl rfl ?_
              refine j_end ?_
              refine run_endblock ?_
              obtain rfl := Option.some.inj h
              exact run_next ⟨v10, v9⟩ (.cons (.of_lk rfl) <| .cons (.of_lk rfl) <| .cons (.of_lk rfl) <| .cons (.of_lk rfl) <| .cons (.of_lk rfl) <| .cons (.of_lk rfl) <| .nil) (.cons (.next .here) <| .cons .here <| .cons (.next (.next .here)) <| .nil)
            · replace h := bf e16 h
              refine run_skip ?_
              refine run_endblock ?_
              obtain rfl := Option.some.inj h
              exact run_next ⟨v7, v8⟩ (.cons (.of_lk rfl) <| .cons (.of_lk rfl) <| .cons (.of_lk rfl) <| .cons (.of_lk rfl) <| .cons (.of_lk rfl) <| .cons (.of_lk rfl) <| .nil) (.cons .here <| .cons .here <| .cons .here <| .nil)
          · replace h := bf e14 h
            obtain rfl := Option.some.inj h
            exact run_brk ⟨v7, v8⟩ (.cons (.of_lk rfl) <| .cons (.of_lk rfl) <| .cons (.of_lk rfl) <| .cons (.of_lk rfl) <| .cons (.of_lk rfl) <| .cons (.of_lk rfl) <| .nil) (.cons .here <| .cons .here <| .cons .here <| .nil)
        · rintro ⟨v11, v12⟩
          show Run _ _ _ [(2, ptrTo R_rolodexref15_Range p_a), (3, ptrTo R_rolodexref15_Range p_b), (4, val (.pointer (some ⟨b1, 0, none⟩))), (6, ov v12), (7, ov v11), (8, i64.slot y6)] [own 24 R_api_Hash v11 y7, own 3 i64 v12 y8, box b1 39 R_rolodexref15_Range (0, 0, ([] : List T_api_Hash))]
          refine run_to (Γ' := [(2, ptrTo R_rolodexref15_Range p_a), (3, ptrTo R_rolodexref15_Range p_b), (4, val (.pointer (some ⟨b1, 0, none⟩))), (7, ov v11)]) (H' := [own 24 R_api_Hash v11 y7, box b1 39 R_rolodexref15_Range (0, 0, ([] : List T_api_Hash))]) (.cons (.of_lk rfl) <| .cons (.of_lk rfl) <| .cons (.of_lk rfl) <| .cons (.of_lk rfl) <| .nil) (.cons .here <| .cons (.next .here) <| .nil) ?_
          refine run_seq ?_
          refine run_text ?_
          refine j_pure (pj_field_to (has_tmp rfl) (Path.fst i64 (prod i64 (sl R_api_Hash))) (by kernel_rfl)) rfl rfl rfl ?_
          refine j_pure (pj_load_to (has_tmp rfl) (by kernel_rfl)) rfl rfl rfl ?_
          refine j_pure (pj_field_to (has_tmp rfl) (Path.then (Path.snd i64 (prod i64 (sl R_api_Hash))) (Path.fst i64 (sl R_api_Hash))) (by kernel_rfl)) rfl rfl rfl ?_
          refine j_pure (pj_load_to (has_tmp rfl) (by kernel_rfl)) rfl rfl rfl ?_
          refine j_pure (pj_move (has_tmp rfl)) rfl rfl rfl ?_
          refine j_freeze [7, 66] .here (frz_cons (.of_lk rfl) <| frz_cons (.of_lk rfl) <| frz_nil) ?_
          obtain ⟨x1, e19, h⟩ := bind_some h
          refine j_pure (PJ.eqv (pj_build (R := R_rolodexref15_Range) (zero_prod zero_i64 (zero_prod zero_i64 zero_sl)) (by kernel_rfl) (by kernel_rfl) rfl (.cons (has_tmp rfl) (Path.fst i64 (prod i64 (sl R_api_Hash))) (by kernel_rfl) (.cons (has_tmp rfl) (Path.then (Path.snd i64 (prod i64 (sl R_api_Hash))) (Path.fst i64 (sl R_api_Hash))) (by kernel_rfl) (.cons (has_tmp rfl) (Path.then (Path.snd i64 (prod i64 (sl R_api_Hash))) (Path.snd i64 (sl R_api_Hash))) (by kernel_rfl) .nil)))) (Option.some.inj e19)) rfl rfl rfl ?_
          refine j_store_boxx (r' := x1) (has_tmp rfl) (has_tmp rfl) .here (Path.all R_rolodexref15_Range) (by kernel_rfl) rfl ?_
          refine j_pure (pj_assign has_i64) rfl rfl rfl ?_
          refine j_end ?_
          obtain rfl := Option.some.inj h
          exact run_ret fun a w hst => q_retN hst rfl (.cons (.cell rfl .here (by kernel_rfl)) <| .cons (.tmp rfl) <| .nil) rfl () (fun _ _ h => h) (.nil)
    · rcases bool_tf (y1) with e5 | e5
      · replace e6 := bt e5 e6
        refine j_guard_no2 (j := 8) (want := false) rfl rfl rfl rfl (bl_isx e5) rfl rfl rfl ?_
        refine j_guard_no2 (j := 8) (want := false) rfl rfl rfl rfl (bl_isx e5) rfl rfl rfl ?_
        refine j_guard_no2 (j := 8) (want := false) rfl rfl rfl rfl (bl_isx e5) rfl rfl rfl ?_
        refine j_guard_no2 (j := 8) (want := false) rfl rfl rfl rfl (bl_isx e5) rfl rfl rfl ?_
        refine j_guard_no2 (j := 8) (want := false) rfl rfl rfl rfl (bl_isx e5) rfl rfl rfl ?_
        refine j_pure (PJ.eqv (R := bl) (pj_pick (t := any) (has_tmp rfl) (fun _ => has_bl) (fun he => absurd (e5.symm.trans he) (by decide))) (Option.some.inj e6)) rfl rfl rfl ?_
        exact j_to (.cons (.of_lk rfl) <| .cons (.of_lk rfl) <| .cons (.of_lk rfl) <| .cons (.of_lk rfl) <| .nil) (.cons .here <| .nil) (J ())
      · replace e6 := bf e5 e6
        refine j_pure_y (pj_field_to (has_tmp rfl) (Path.then (Path.snd i64 (prod i64 (sl R_api_Hash))) (Path.fst i64 (sl R_api_Hash))) (by kernel_rfl)) rfl rfl rfl rfl (bl_isx e5) rfl rfl ?_
        refine j_pure_y (pj_load_to (has_tmp rfl) (by kernel_rfl)) rfl rfl rfl rfl (bl_isx e5) rfl rfl ?_
        refine j_pure_y (pj_field_to (has_tmp rfl) (Path.fst i64 (prod i64 (sl R_api_Hash))) (by kernel_rfl)) rfl rfl rfl rfl (bl_isx e5) rfl rfl ?_
        refine j_pure_y (pj_load_to (has_tmp rfl) (by kernel_rfl)) rfl rfl rfl rfl (bl_isx e5) rfl rfl ?_
        refine j_pure_y (pj_ineq (has_tmp rfl) (has_tmp rfl)) rfl rfl rfl rfl (bl_isx e5) rfl rfl ?_
        refine j_pure (PJ.eqv (R := bl) (pj_pick (t := any) (has_tmp rfl) (fun he => absurd (e5.symm.trans he) (by decide)) (fun _ => (has_tmp rfl))) (Option.some.inj e6)) rfl rfl rfl ?_
        exact j_to (.cons (.of_lk rfl) <| .cons (.of_lk rfl) <| .cons (.of_lk rfl) <| .cons (.of_lk rfl) <| .nil) (.cons .here <| .nil) (J ())
  · rcases bool_tf (!r1) with e2 | e2
    · replace e3 := bt e2 e3
      refine j_guard_no2 (j := 3) (want := false) rfl rfl rfl rfl (bl_isx e2) rfl rfl rfl ?_
      refine j_guard_no2 (j := 3) (want := false) rfl rfl rfl rfl (bl_isx e2) rfl rfl rfl ?_
      refine j_guard_no2 (j := 3) (want := false) rfl rfl rfl rfl (bl_isx e2) rfl rfl rfl ?_
      refine j_pure (PJ.eqv (R := bl) (pj_pick (t := any) (has_tmp rfl) (fun _ => has_bl) (fun he => absurd (e2.symm.trans he) (by decide))) (Option.some.inj e3)) rfl rfl rfl ?_
      exact j_to (.cons (.of_lk rfl) <| .cons (.of_lk rfl) <| .cons (.of_lk rfl) <| .cons (.of_lk rfl) <| .nil) (.cons .here <| .nil) (J ())
    · replace e3 := bf e2 e3
      refine j_pure_y (pj_load_to (has_tmp rfl) (by kernel_rfl)) rfl rfl rfl rfl (bl_isx e2) rfl rfl ?_
      obtain ⟨r2, e4, e3⟩ := bind_some e3
      refine j_pure_y (pj_call (hasL_cons (has_tmp rfl) <| hasL_nil) (by kernel_rfl) (c_rolodexref15_Formed e4)) rfl rfl rfl rfl (bl_isx e2) rfl rfl ?_
      refine j_pure_y (pj_not (has_tmp rfl)) rfl rfl rfl rfl (bl_isx e2) rfl rfl ?_
      refine j_pure (PJ.eqv (R := bl) (pj_pick (t := any) (has_tmp rfl) (fun he => absurd (e2.symm.trans he) (by decide)) (fun _ => (has_tmp rfl))) (Option.some.inj e3)) rfl rfl rfl ?_
      exact j_to (.cons (.of_lk rfl) <| .cons (.of_lk rfl) <| .cons (.of_lk rfl) <| .cons (.of_lk rfl) <| .nil) (.cons .here <| .nil) (J ())
set_option maxRecDepth 100000 in
set_option maxHeartbeats 4000000 in
theorem c_rolodexref15_fold_B {G : GP} {rc : (List T_api_Hash) → Option T_api_Hash} (hrc : ∀ {p_l : List T_api_Hash} {r : T_api_Hash}, rc p_l = some r → Ctr Tryd.prog G 62 [(sl R_api_Hash).slot p_l] [] (fun (_ : Unit) => R_api_Hash.slot r) (fun (_ : Unit) => [])) {p_l : List T_api_Hash} {r : T_api_Hash} (h : rolodexref15_fold_B rc p_l = some r) : Ctr Tryd.prog G 62 [(sl R_api_Hash).slot p_l] [] (fun (_ : Unit) => R_api_Hash.slot r) (fun (_ : Unit) => []) := by
  unfold rolodexref15_fold_B at h
  refine ctr_of_run Tryd.func62 rfl 16 rfl rfl fun m0 w0 b0 => ?_
  show Run _ _ _ [(0, (sl R_api_Hash).slot p_l)] _
  refine run_seq ?_
  refine run_text ?_
  refine j_alloc (x := (Vector.replicate 32 (0#8))) (R := R_api_Hash) (zero_vec 32 zero_un) (by kernel_rfl) rfl fun b1 => ?_
  refine j_end ?_
  refine run_seq ?_
  refine run_seq ?_
  refine run_text ?_
  refine j_pure (pj_move (has_tmp rfl)) rfl rfl rfl ?_
  refine j_pure (pj_len_sl (sz := 32) (has_tmp rfl) (by kernel_rfl)) rfl rfl rfl ?_
  refine j_pure (pj_ieql (has_tmp rfl) has_i64) rfl rfl rfl ?_
  refine j_end ?_
  refine run_cond (has_tmp rfl) (fun e1 => ?_) (fun e1 => ?_)
  · replace h := bt e1 h
    refine run_seq ?_
    refine run_text ?_
    refine j_pure (pj_move (has_tmp rfl)) rfl rfl rfl ?_
    obtain ⟨x1, e2, h⟩ := bind_some h
    refine j_pure (pj_index_slx (has_tmp rfl) has_i64 isInt_i64 e2 (by kernel_rfl)) rfl rfl rfl ?_
    refine j_pure (pj_load_to (has_tmp rfl) (by kernel_rfl)) rfl rfl rfl ?_
    refine j_store_boxx (r' := x1) (has_tmp rfl) (has_tmp rfl) .here (Path.all R_api_Hash) (by kernel_rfl) rfl ?_
    refine j_end ?_
    obtain rfl := Option.some.inj h
    exact run_ret fun a w hst => q_ret1 hst rfl (.cell rfl .here (by kernel_rfl)) () (fun _ _ h => h) (.nil)
  · replace h := bf e1 h
    refine run_skip ?_
    refine run_seq ?_
    obtain ⟨x2, e3, h⟩ := bind_some h
    obtain ⟨x3, e4, h⟩ := bind_some h
    obtain ⟨r1, e5, h⟩ := bind_some h
    refine run_draw (n := 6) (by kernel_rfl) (by kernel_rfl) (by kernel_rfl) (by kernel_rfl) (.read (.plain rfl (pj_move (has_tmp rfl))) <| .read (.plain rfl (pj_index_slx (has_tmp rfl) has_i64 isInt_i64 e3 (by kernel_rfl))) <| .read (.plain rfl (pj_load_to (has_tmp rfl) (by kernel_rfl))) <| .read (.plain rfl (pj_move (has_tmp rfl))) <| .read (.plain rfl (pj_slice_slx (has_tmp rfl) (.yes has_i64 isInt_i64) .no e4 (by kernel_rfl))) <| .read (.plain rfl (pj_call (hasL_cons (has_tmp rfl) <| hasL_nil) (by kernel_rfl) (hrc e5))) <| .nil) (j_to (Γ' := [(2, val (.pointer (some ⟨b1, 0, none⟩))), (11, R_api_Hash.slot x2), (14, R_api_Hash.slot r1)]) (H' := [box b1 24 R_api_Hash (Vector.replicate 32 (0#8))]) (.cons (.of_lk rfl) <| .cons (.of_lk rfl) <| .cons (.of_lk rfl) <| .nil) (.cons .here <| .nil) ?_)
    obtain ⟨r2, e6, h⟩ := bind_some h
    refine j_pure (pj_call (hasL_cons (has_tmp rfl) <| hasL_cons (has_tmp rfl) <| hasL_nil) (by kernel_rfl) (c_rolodexref15_Node e6)) rfl rfl rfl ?_
    refine j_store_boxx (r' := r2) (has_tmp rfl) (has_tmp rfl) .here (Path.all R_api_Hash) (by kernel_rfl) rfl ?_
    refine j_end ?_
    obtain rfl := Option.some.inj h
    exact run_ret fun a w hst => q_ret1 hst rfl (.cell rfl .here (by kernel_rfl)) () (fun _ _ h => h) (.nil)
theorem c_rolodexref15_fold_F {G : GP} : ∀ (n : Nat) {p_l : List T_api_Hash} {r : T_api_Hash}, rolodexref15_fold_F n p_l = some r → Ctr Tryd.prog G 62 [(sl R_api_Hash).slot p_l] [] (fun (_ : Unit) => R_api_Hash.slot r) (fun (_ : Unit) => []) := by
  intro n
  induction n with
  | zero => intro p_l r h; cases h
  | succ n ih => intro p_l r h; exact c_rolodexref15_fold_B (fun h => ih h) h
theorem c_rolodexref15_fold {G : GP} {p_l : List T_api_Hash} {r : T_api_Hash} (h : rolodexref15_fold p_l = some r) : Ctr Tryd.prog G 62 [(sl R_api_Hash).slot p_l] [] (fun (_ : Unit) => R_api_Hash.slot r) (fun (_ : Unit) => []) := c_rolodexref15_fold_F FU h
set_option maxRecDepth 100000 in
set_option maxHeartbeats 4000000 in
theorem c_rolodexref15_Root {G : GP} {p_r : T_rolodexref15_Range} {r : T_api_Hash × Int} (h : rolodexref15_Root p_r = some r) : Ctr Tryd.prog G 33 [R_rolodexref15_Range.slot p_r] [] (fun (_ : Unit) => tup [R_api_Hash.slot r.1, i64.slot r.2]) (fun (_ : Unit) => []) := by
  unfold rolodexref15_Root at h
  refine ctr_of_run Tryd.func33 rfl 21 rfl rfl fun m0 w0 b0 => ?_
  show Run _ _ _ [(0, R_rolodexref15_Range.slot p_r)] _
  refine run_seq ?_
  refine run_text ?_
  refine j_pure (pj_box_to (has_tmp rfl)) rfl rfl rfl ?_
  refine j_alloc (x := (Vector.replicate 32 (0#8))) (R := R_api_Hash) (zero_vec 32 zero_un) (by kernel_rfl) rfl fun b1 => ?_
  refine j_pure (pj_assign has_i64) rfl rfl rfl ?_
  refine j_end ?_
  refine run_seq ?_
  refine run_seq ?_
  refine run_text ?_
  refine j_pure (pj_load_to (has_tmp rfl) (by kernel_rfl)) rfl rfl rfl ?_
  obtain ⟨r1, e1, h⟩ := bind_some h
  refine j_pure (pj_call (hasL_cons (has_tmp rfl) <| hasL_nil) (by kernel_rfl) (c_rolodexref15_Formed e1)) rfl rfl rfl ?_
  refine j_pure (pj_not (has_tmp rfl)) rfl rfl rfl ?_
  refine j_pure (pj_move (has_tmp rfl)) rfl rfl rfl ?_
  obtain ⟨y1, e3, h⟩ := bind_some h
  refine j_joinx (ι := Unit) (Γ' := fun _ => [(1, ptrTo R_rolodexref15_Range p_r), (2, val (.pointer (some ⟨b1, 0, none⟩))), (11, bl.slot y1)]) (H' := fun _ => [box b1 24 R_api_Hash (Vector.replicate 32 (0#8))]) 4 ?_ fun J => ?_
  · intro _
    clear e3
    show OpsJ _ _ _ [(1, ptrTo R_rolodexref15_Range p_r), (2, val (.pointer (some ⟨b1, 0, none⟩))), (11, bl.slot y1)] [box b1 24 R_api_Hash (Vector.replicate 32 (0#8))] _
    refine j_end ?_
    refine run_cond (has_tmp rfl) (fun e4 => ?_) (fun e4 => ?_)
    · replace h := bt e4 h
      refine run_seq ?_
      refine run_text ?_
      refine j_pure (pj_build (R := R_api_Hash) (zero_vec 32 zero_un) (by kernel_rfl) (by kernel_rfl) rfl .nil) rfl rfl rfl ?_
      refine j_store_boxx (r' := (Vector.replicate 32 (0#8))) (has_tmp rfl) (has_tmp rfl) .here (Path.all R_api_Hash) (by kernel_rfl) rfl ?_
      refine j_pure (pj_assign has_i64) rfl rfl rfl ?_
      refine j_end ?_
      obtain rfl := Option.some.inj h
      exact run_ret fun a w hst => q_retN hst rfl (.cons (.cell rfl .here (by kernel_rfl)) <| .cons (.tmp rfl) <| .nil) rfl () (fun _ _ h => h) (.nil)
    · replace h := bf e4 h
      refine run_skip ?_
      refine run_seq ?_
      refine run_seq ?_
      refine run_text ?_
      refine j_pure (pj_field_to (has_tmp rfl) (Path.then (Path.snd i64 (prod i64 (sl R_api_Hash))) (Path.snd i64 (sl R_api_Hash))) (by kernel_rfl)) rfl rfl rfl ?_
      refine j_pure (pj_load_to (has_tmp rfl) (by kernel_rfl)) rfl rfl rfl ?_
      refine j_pure (pj_len_sl (sz := 32) (has_tmp rfl) (by kernel_rfl)) rfl rfl rfl ?_
      refine j_pure (pj_ieql (has_tmp rfl) has_i64) rfl rfl rfl ?_
      refine j_end ?_
      refine run_cond (has_tmp rfl) (fun e5 => ?_) (fun e5 => ?_)
      · replace h := bt e5 h
        refine run_seq ?_
        refine run_text ?_
        obtain ⟨r2, e6, h⟩ := bind_some h
        refine j_pure (pj_call (hasL_cons (has_nil (R := u8)) <| hasL_nil) (by kernel_rfl) (c_rolodexref02_Sum e6)) rfl rfl rfl ?_
        refine j_store_boxx (r' := r2) (has_tmp rfl) (has_tmp rfl) .here (Path.all R_api_Hash) (by kernel_rfl) rfl ?_
        refine j_pure (pj_assign has_i64) rfl rfl rfl ?_
        refine j_end ?_
        obtain rfl := Option.some.inj h
        exact run_ret fun a w hst => q_retN hst rfl (.cons (.cell rfl .here (by kernel_rfl)) <| .cons (.tmp rfl) <| .nil) rfl () (fun _ _ h => h) (.nil)
      · replace h := bf e5 h
        refine run_skip ?_
        refine run_seq ?_
        refine run_text ?_
        refine j_pure (pj_field_to (has_tmp rfl) (Path.then (Path.snd i64 (prod i64 (sl R_api_Hash))) (Path.snd i64 (sl R_api_Hash))) (by kernel_rfl)) rfl rfl rfl ?_
        refine j_pure (pj_load_to (has_tmp rfl) (by kernel_rfl)) rfl rfl rfl ?_
        obtain ⟨r3, e7, h⟩ := bind_some h
        refine j_pure (pj_call (hasL_cons (has_tmp rfl) <| hasL_nil) (by kernel_rfl) (c_rolodexref15_fold e7)) rfl rfl rfl ?_
        refine j_store_boxx (r' := r3) (has_tmp rfl) (has_tmp rfl) .here (Path.all R_api_Hash) (by kernel_rfl) rfl ?_
        refine j_pure (pj_assign has_i64) rfl rfl rfl ?_
        refine j_end ?_
        obtain rfl := Option.some.inj h
        exact run_ret fun a w hst => q_retN hst rfl (.cons (.cell rfl .here (by kernel_rfl)) <| .cons (.tmp rfl) <| .nil) rfl () (fun _ _ h => h) (.nil)
  · rcases bool_tf (!r1) with e2 | e2
    · replace e3 := bt e2 e3
      refine j_guard_no2 (j := 3) (want := false) rfl rfl rfl rfl (bl_isx e2) rfl rfl rfl ?_
      refine j_guard_no2 (j := 3) (want := false) rfl rfl rfl rfl (bl_isx e2) rfl rfl rfl ?_
      refine j_guard_no2 (j := 3) (want := false) rfl rfl rfl rfl (bl_isx e2) rfl rfl rfl ?_
      refine j_pure (PJ.eqv (R := bl) (pj_pick (t := any) (has_tmp rfl) (fun _ => has_bl) (fun he => absurd (e2.symm.trans he) (by decide))) (Option.some.inj e3)) rfl rfl rfl ?_
      exact j_to (.cons (.of_lk rfl) <| .cons (.of_lk rfl) <| .cons (.of_lk rfl) <| .nil) (.cons .here <| .nil) (J ())
    · replace e3 := bf e2 e3
      refine j_pure_y (pj_field_to (has_tmp rfl) (Path.fst i64 (prod i64 (sl R_api_Hash))) (by kernel_rfl)) rfl rfl rfl rfl (bl_isx e2) rfl rfl ?_
      refine j_pure_y (pj_load_to (has_tmp rfl) (by kernel_rfl)) rfl rfl rfl rfl (bl_isx e2) rfl rfl ?_
      refine j_pure_y (pj_ineq (has_tmp rfl) has_i64) rfl rfl rfl rfl (bl_isx e2) rfl rfl ?_
      refine j_pure (PJ.eqv (R := bl) (pj_pick (t := any) (has_tmp rfl) (fun he => absurd (e2.symm.trans he) (by decide)) (fun _ => (has_tmp rfl))) (Option.some.inj e3)) rfl rfl rfl ?_
      exact j_to (.cons (.of_lk rfl) <| .cons (.of_lk rfl) <| .cons (.of_lk rfl) <| .nil) (.cons .here <| .nil) (J ())
set_option maxRecDepth 100000 in
set_option maxHeartbeats 4000000 in
theorem c_rolodexlaw15_FrontierJoins {G : GP} (hg0 : HG0 G) (hg1 : HG1 G) (hg2 : HG2 G) (hg3 : HG3 G) {p_a : T_rolodexref15_Range} {p_b : T_rolodexref15_Range} {r : Bool} (h : rolodexlaw15_FrontierJoins p_a p_b = some r) : Ctr Tryd.prog G 7 [R_rolodexref15_Range.slot p_a, R_rolodexref15_Range.slot p_b] [] (fun (_ : Unit) => bl.slot r) (fun (_ : Unit) => []) := by
  unfold rolodexlaw15_FrontierJoins at h
  refine ctr_of_run Tryd.func7 rfl 76 rfl rfl fun m0 w0 b0 => ?_
  show Run _ _ _ [(0, R_rolodexref15_Range.slot p_a), (1, R_rolodexref15_Range.slot p_b)] _
  refine run_seq ?_
  refine run_text ?_
  refine j_pure (pj_box_to (has_tmp rfl)) rfl rfl rfl ?_
  refine j_pure (pj_box_to (has_tmp rfl)) rfl rfl rfl ?_
  refine j_pure (pj_assign has_bl) rfl rfl rfl ?_
  refine j_end ?_
  refine run_seq ?_
  refine run_seq ?_
  refine run_text ?_
  obtain ⟨r1, e1, h⟩ := bind_some h
  refine j_pure (pj_call (hasL_nil) (by kernel_rfl) (c_rolodexlaw15_awake hg0 hg1 e1)) rfl rfl rfl ?_
  refine j_pure (pj_not (has_tmp rfl)) rfl rfl rfl ?_
  refine j_pure (pj_move (has_tmp rfl)) rfl rfl rfl ?_
  obtain ⟨y1, e3, h⟩ := bind_some h
  refine j_joinx (ι := Unit) (Γ' := fun _ => [(2, ptrTo R_rolodexref15_Range p_a), (3, ptrTo R_rolodexref15_Range p_b), (20, bl.slot y1)]) (H' := fun _ => []) 5 ?_ fun J => ?_
  · intro _
    clear e3
    show OpsJ _ _ _ [(2, ptrTo R_rolodexref15_Range p_a), (3, ptrTo R_rolodexref15_Range p_b), (20, bl.slot y1)] [] _
    refine j_pure (pj_move (has_tmp rfl)) rfl rfl rfl ?_
    obtain ⟨y2, e5, h⟩ := bind_some h
    refine j_joinx (ι := Unit) (Γ' := fun _ => [(2, ptrTo R_rolodexref15_Range p_a), (3, ptrTo R_rolodexref15_Range p_b), (26, bl.slot y2)]) (H' := fun _ => []) 5 ?_ fun J => ?_
    · intro _
      clear e5
      show OpsJ _ _ _ [(2, ptrTo R_rolodexref15_Range p_a), (3, ptrTo R_rolodexref15_Range p_b), (26, bl.slot y2)] [] _
      refine j_end ?_
      refine run_cond (has_tmp rfl) (fun e6 => ?_) (fun e6 => ?_)
      · replace h := bt e6 h
        refine run_seq ?_
        refine run_text ?_
        obtain ⟨r2, e7, h⟩ := bind_some h
        refine j_pure (pj_call (hasL_nil) (by kernel_rfl) (c_rolodexlaw15_awake hg0 hg1 e7)) rfl rfl rfl ?_
        refine j_pure (pj_assign (has_tmp rfl)) rfl rfl rfl ?_
        refine j_end ?_
        obtain rfl := Option.some.inj h
        exact run_ret fun a w hst => q_ret1 hst rfl (.tmp rfl) () (fun _ _ h => h) (.nil)
      · replace h := bf e6 h
        refine run_skip ?_
        refine run_seq ?_
        refine run_text ?_
        refine j_pure (pj_load_to (has_tmp rfl) (by kernel_rfl)) rfl rfl rfl ?_
        refine j_pure (pj_load_to (has_tmp rfl) (by kernel_rfl)) rfl rfl rfl ?_
        obtain ⟨r3, e8, h⟩ := bind_some h
        refine j_pure (pj_call (hasL_cons (has_tmp rfl) <| hasL_cons (has_tmp rfl) <| hasL_nil) (by kernel_rfl) (c_frontier_Join hg0 hg1 hg2 hg3 e8)) rfl rfl rfl ?_
        refine j_pure (pj_move (has_tmp rfl)) rfl rfl rfl ?_
        refine j_pure (pj_extract (has_tmp rfl) rfl) rfl rfl rfl ?_
        refine j_pure (pj_extract (has_tmp rfl) rfl) rfl rfl rfl ?_
        refine j_alloc (x := (0, 0, ([] : List T_api_Hash))) (R := R_frontier_Range) (zero_prod zero_i64 (zero_prod zero_i64 zero_sl)) (by kernel_rfl) rfl fun b1 => ?_
        refine j_store_boxx (r' := r3.1) (has_tmp rfl) (has_tmp rfl) .here (Path.all R_frontier_Range) (by kernel_rfl) rfl ?_
        refine j_freezeTo (t := 5) .here (.of_lk rfl) ?_
        refine j_pure (pj_assign (has_tmp rfl)) rfl rfl rfl ?_
        refine j_end ?_
        refine run_seq ?_
        refine run_text ?_
        refine j_pure (pj_load_to (has_tmp rfl) (by kernel_rfl)) rfl rfl rfl ?_
        refine j_pure (pj_load_to (has_tmp rfl) (by kernel_rfl)) rfl rfl rfl ?_
        obtain ⟨r4, e9, h⟩ := bind_some h
        refine j_pure (pj_call (hasL_cons (has_tmp rfl) <| hasL_cons (has_tmp rfl) <| hasL_nil) (by kernel_rfl) (c_rolodexref15_Join e9)) rfl rfl rfl ?_
        refine j_pure (pj_move (has_tmp rfl)) rfl rfl rfl ?_
        refine j_pure (pj_extract (has_tmp rfl) rfl) rfl rfl rfl ?_
        refine j_pure (pj_extract (has_tmp rfl) rfl) rfl rfl rfl ?_
        refine j_alloc (x := (0, 0, ([] : List T_api_Hash))) (R := R_rolodexref15_Range) (zero_prod zero_i64 (zero_prod zero_i64 zero_sl)) (by kernel_rfl) rfl fun b2 => ?_
        refine j_store_boxx (r' := r4.1) (has_tmp rfl) (has_tmp rfl) .here (Path.all R_rolodexref15_Range) (by kernel_rfl) rfl ?_
        refine j_freezeTo (t := 7) .here (.of_lk rfl) ?_
        refine j_pure (pj_assign (has_tmp rfl)) rfl rfl rfl ?_
        refine j_end ?_
        refine run_seq ?_
        refine run_text ?_
        refine j_pure (pj_load_to (has_tmp rfl) (by kernel_rfl)) rfl rfl rfl ?_
        obtain ⟨r5, e10, h⟩ := bind_some h
        refine j_pure (pj_call (hasL_cons (has_tmp rfl) <| hasL_nil) (by kernel_rfl) (c_frontier_Root hg0 hg1 hg2 hg3 e10)) rfl rfl rfl ?_
        refine j_pure (pj_move (has_tmp rfl)) rfl rfl rfl ?_
        refine j_pure (pj_extract (has_tmp rfl) rfl) rfl rfl rfl ?_
        refine j_pure (pj_extract (has_tmp rfl) rfl) rfl rfl rfl ?_
        refine j_alloc (x := (Vector.replicate 32 (0#8))) (R := R_api_Hash) (zero_vec 32 zero_un) (by kernel_rfl) rfl fun b3 => ?_
        refine j_store_boxx (r' := r5.1) (has_tmp rfl) (has_tmp rfl) .here (Path.all R_api_Hash) (by kernel_rfl) rfl ?_
        refine j_freezeTo (t := 9) .here (.of_lk rfl) ?_
        refine j_pure (pj_assign (has_tmp rfl)) rfl rfl rfl ?_
        refine j_end ?_
        refine run_seq ?_
        refine run_text ?_
        refine j_pure (pj_load_to (has_tmp rfl) (by kernel_rfl)) rfl rfl rfl ?_
        obtain ⟨r6, e11, h⟩ := bind_some h
        refine j_pure (pj_call (hasL_cons (has_tmp rfl) <| hasL_nil) (by kernel_rfl) (c_rolodexref15_Root e11)) rfl rfl rfl ?_
        refine j_pure (pj_move (has_tmp rfl)) rfl rfl rfl ?_
        refine j_pure (pj_extract (has_tmp rfl) rfl) rfl rfl rfl ?_
        refine j_pure (pj_extract (has_tmp rfl) rfl) rfl rfl rfl ?_
        refine j_alloc (x := (Vector.replicate 32 (0#8))) (R := R_api_Hash) (zero_vec 32 zero_un) (by kernel_rfl) rfl fun b4 => ?_
        refine j_store_boxx (r' := r6.1) (has_tmp rfl) (has_tmp rfl) .here (Path.all R_api_Hash) (by kernel_rfl) rfl ?_
        refine j_freezeTo (t := 11) .here (.of_lk rfl) ?_
        refine j_pure (pj_assign (has_tmp rfl)) rfl rfl rfl ?_
        refine j_end ?_
        refine run_seq ?_
        obtain ⟨y3, e13, h⟩ := bind_some h
        obtain ⟨y4, e17, h⟩ := bind_some h
        obtain ⟨y5, e19, h⟩ := bind_some h
        obtain ⟨y6, e21, h⟩ := bind_some h
        refine (run_drawJ (n := 26) (Γ' := [(75, bl.slot y6)]) (H' := []) ?_ fun J => ?_)
        · clear e13 e17 e19 e21
          refine j_pure (pj_assign (has_tmp rfl)) rfl rfl rfl ?_
          refine j_end ?_
          obtain rfl := Option.some.inj h
          exact run_ret fun a w hst => q_ret1 hst rfl (.tmp rfl) () (fun _ _ h => h) (.nil)
        · rcases bool_tf (decide (r3.2 = r4.2)) with e12 | e12
          · replace e13 := bt e12 e13
            obtain ⟨r7, e14, e13⟩ := bind_some e13
            obtain ⟨r8, e15, e13⟩ := bind_some e13
            rcases bool_tf (y3) with e16 | e16
            · replace e17 := bt e16 e17
              rcases bool_tf (y4) with e18 | e18
              · replace e19 := bt e18 e19
                rcases bool_tf (y5) with e20 | e20
                · replace e21 := bt e20 e21
                  obtain ⟨r9, e22, e21⟩ := bind_some e21
                  obtain ⟨r10, e23, e21⟩ := bind_some e21
                  exact run_draw (n := 26) (by kernel_rfl) (by kernel_rfl) (by kernel_rfl) (by kernel_rfl) (.read (.plain rfl (pj_move (has_tmp rfl))) <| .read (.plain rfl (pj_move (has_tmp rfl))) <| .read (.plain rfl (pj_ieql (has_tmp rfl) (has_tmp rfl))) <| .read (.plain rfl (pj_move (has_tmp rfl))) <| .read (.yes ⟨3, true, _, 53, _, rfl, rfl, rfl, fun _ _ => bl_p.1, gd_yes e12⟩ (pj_load_to (has_tmp rfl) (by kernel_rfl))) <| .read (.yes ⟨3, true, _, 53, _, rfl, rfl, rfl, fun _ _ => bl_p.1, gd_yes e12⟩ (pj_call (hasL_cons (has_tmp rfl) <| hasL_nil) (by kernel_rfl) (c_rolodexlaw15_to e14))) <| .read (.yes ⟨3, true, _, 53, _, rfl, rfl, rfl, fun _ _ => bl_p.1, gd_yes e12⟩ (pj_load_to (has_tmp rfl) (by kernel_rfl))) <| .read (.yes ⟨3, true, _, 53, _, rfl, rfl, rfl, fun _ _ => bl_p.1, gd_yes e12⟩ (pj_call (hasL_cons (has_tmp rfl) <| hasL_cons (has_tmp rfl) <| hasL_nil) (by kernel_rfl) (c_rolodexref15_Ranges e15))) <| .read (.plain rfl (PJ.eqv (R := bl) (pj_pick (t := any) (has_tmp rfl) (fun _ => (has_tmp rfl)) (fun he => absurd (e12.symm.trans he) (by decide))) (Option.some.inj e13))) <| .read (.plain rfl (pj_move (has_tmp rfl))) <| .read (.yes ⟨9, true, _, 59, _, rfl, rfl, rfl, fun _ _ => bl_p.1, gd_yes e16⟩ (pj_load_to (has_tmp rfl) (by kernel_rfl))) <| .read (.yes ⟨9, true, _, 59, _, rfl, rfl, rfl, fun _ _ => bl_p.1, gd_yes e16⟩ (pj_load_to (has_tmp rfl) (by kernel_rfl))) <| .read (.yes ⟨9, true, _, 59, _, rfl, rfl, rfl, fun _ _ => bl_p.1, gd_yes e16⟩ (pj_eql (n := 2) (eq_vec (e := 5) (by kernel_rfl) (by kernel_rfl) (eq_un (by kernel_rfl))) (by decide) rfl (by kernel_rfl) (has_tmp rfl) (has_tmp rfl))) <| .read (.plain rfl (PJ.eqv (R := bl) (pj_pick (t := any) (has_tmp rfl) (fun _ => (has_tmp rfl)) (fun he => absurd (e16.symm.trans he) (by decide))) (Option.some.inj e17))) <| .read (.plain rfl (pj_move (has_tmp rfl))) <| .read (.yes ⟨14, true, _, 64, _, rfl, rfl, rfl, fun _ _ => bl_p.1, gd_yes e18⟩ (pj_move (has_tmp rfl))) <| .read (.yes ⟨14, true, _, 64, _, rfl, rfl, rfl, fun _ _ => bl_p.1, gd_yes e18⟩ (pj_move (has_tmp rfl))) <| .read (.yes ⟨14, true, _, 64, _, rfl, rfl, rfl, fun _ _ => bl_p.1, gd_yes e18⟩ (pj_ieql (has_tmp rfl) (has_tmp rfl))) <| .read (.plain rfl (PJ.eqv (R := bl) (pj_pick (t := any) (has_tmp rfl) (fun _ => (has_tmp rfl)) (fun he => absurd (e18.symm.trans he) (by decide))) (Option.some.inj e19))) <| .read (.plain rfl (pj_move (has_tmp rfl))) <| .read (.yes ⟨19, true, _, 69, _, rfl, rfl, rfl, fun _ _ => bl_p.1, gd_yes e20⟩ (pj_load_to (has_tmp rfl) (by kernel_rfl))) <| .read (.yes ⟨19, true, _, 69, _, rfl, rfl, rfl, fun _ _ => bl_p.1, gd_yes e20⟩ (pj_call (hasL_cons (has_tmp rfl) <| hasL_nil) (by kernel_rfl) (c_frontier_Formed hg2 hg3 e22))) <| .read (.yes ⟨19, true, _, 69, _, rfl, rfl, rfl, fun _ _ => bl_p.1, gd_yes e20⟩ (pj_load_to (has_tmp rfl) (by kernel_rfl))) <| .read (.yes ⟨19, true, _, 69, _, rfl, rfl, rfl, fun _ _ => bl_p.1, gd_yes e20⟩ (pj_call (hasL_cons (has_tmp rfl) <| hasL_nil) (by kernel_rfl) (c_rolodexref15_Formed e23))) <| .read (.yes ⟨19, true, _, 69, _, rfl, rfl, rfl, fun _ _ => bl_p.1, gd_yes e20⟩ (pj_beql (by kernel_rfl) (has_tmp rfl) (has_tmp rfl))) <| .read (.plain rfl (PJ.eqv (R := bl) (pj_pick (t := any) (has_tmp rfl) (fun _ => (has_tmp rfl)) (fun he => absurd (e20.symm.trans he) (by decide))) (Option.some.inj e21))) <| .nil) (j_to (Γ' := [(75, bl.slot y6)]) (H' := []) (.cons (.of_lk rfl) <| .nil) (.nil) J)
                · replace e21 := bf e20 e21
                  exact run_draw (n := 26) (by kernel_rfl) (by kernel_rfl) (by kernel_rfl) (by kernel_rfl) (.read (.plain rfl (pj_move (has_tmp rfl))) <| .read (.plain rfl (pj_move (has_tmp rfl))) <| .read (.plain rfl (pj_ieql (has_tmp rfl) (has_tmp rfl))) <| .read (.plain rfl (pj_move (has_tmp rfl))) <| .read (.yes ⟨3, true, _, 53, _, rfl, rfl, rfl, fun _ _ => bl_p.1, gd_yes e12⟩ (pj_load_to (has_tmp rfl) (by kernel_rfl))) <| .read (.yes ⟨3, true, _, 53, _, rfl, rfl, rfl, fun _ _ => bl_p.1, gd_yes e12⟩ (pj_call (hasL_cons (has_tmp rfl) <| hasL_nil) (by kernel_rfl) (c_rolodexlaw15_to e14))) <| .read (.yes ⟨3, true, _, 53, _, rfl, rfl, rfl, fun _ _ => bl_p.1, gd_yes e12⟩ (pj_load_to (has_tmp rfl) (by kernel_rfl))) <| .read (.yes ⟨3, true, _, 53, _, rfl, rfl, rfl, fun _ _ => bl_p.1, gd_yes e12⟩ (pj_call (hasL_cons (has_tmp rfl) <| hasL_cons (has_tmp rfl) <| hasL_nil) (by kernel_rfl) (c_rolodexref15_Ranges e15))) <| .read (.plain rfl (PJ.eqv (R := bl) (pj_pick (t := any) (has_tmp rfl) (fun _ => (has_tmp rfl)) (fun he => absurd (e12.symm.trans he) (by decide))) (Option.some.inj e13))) <| .read (.plain rfl (pj_move (has_tmp rfl))) <| .read (.yes ⟨9, true, _, 59, _, rfl, rfl, rfl, fun _ _ => bl_p.1, gd_yes e16⟩ (pj_load_to (has_tmp rfl) (by kernel_rfl))) <| .read (.yes ⟨9, true, _, 59, _, rfl, rfl, rfl, fun _ _ => bl_p.1, gd_yes e16⟩ (pj_load_to (has_tmp rfl) (by kernel_rfl))) <| .read (.yes ⟨9, true, _, 59, _, rfl, rfl, rfl, fun _ _ => bl_p.1, gd_yes e16⟩ (pj_eql (n := 2) (eq_vec (e := 5) (by kernel_rfl) (by kernel_rfl) (eq_un (by kernel_rfl))) (by decide) rfl (by kernel_rfl) (has_tmp rfl) (has_tmp rfl))) <| .read (.plain rfl (PJ.eqv (R := bl) (pj_pick (t := any) (has_tmp rfl) (fun _ => (has_tmp rfl)) (fun he => absurd (e16.symm.trans he) (by decide))) (Option.some.inj e17))) <| .read (.plain rfl (pj_move (has_tmp rfl))) <| .read (.yes ⟨14, true, _, 64, _, rfl, rfl, rfl, fun _ _ => bl_p.1, gd_yes e18⟩ (pj_move (has_tmp rfl))) <| .read (.yes ⟨14, true, _, 64, _, rfl, rfl, rfl, fun _ _ => bl_p.1, gd_yes e18⟩ (pj_move (has_tmp rfl))) <| .read (.yes ⟨14, true, _, 64, _, rfl, rfl, rfl, fun _ _ => bl_p.1, gd_yes e18⟩ (pj_ieql (has_tmp rfl) (has_tmp rfl))) <| .read (.plain rfl (PJ.eqv (R := bl) (pj_pick (t := any) (has_tmp rfl) (fun _ => (has_tmp rfl)) (fun he => absurd (e18.symm.trans he) (by decide))) (Option.some.inj e19))) <| .read (.plain rfl (pj_move (has_tmp rfl))) <| .read (.no ⟨19, true, _, 69, _, rfl, rfl, rfl, fun _ _ => bl_p.1, gd_no e20⟩) <| .read (.no ⟨19, true, _, 69, _, rfl, rfl, rfl, fun _ _ => bl_p.1, gd_no e20⟩) <| .read (.no ⟨19, true, _, 69, _, rfl, rfl, rfl, fun _ _ => bl_p.1, gd_no e20⟩) <| .read (.no ⟨19, true, _, 69, _, rfl, rfl, rfl, fun _ _ => bl_p.1, gd_no e20⟩) <| .read (.no ⟨19, true, _, 69, _, rfl, rfl, rfl, fun _ _ => bl_p.1, gd_no e20⟩) <| .read (.plain rfl (PJ.eqv (R := bl) (pj_pick (t := any) (has_tmp rfl) (fun he => absurd (e20.symm.trans he) (by decide)) (fun _ => has_bl)) (Option.some.inj e21))) <| .nil) (j_to (Γ' := [(75, bl.slot y6)]) (H' := []) (.cons (.of_lk rfl) <| .nil) (.nil) J)
              · replace e19 := bf e18 e19
                rcases bool_tf (y5) with e20 | e20
                · replace e21 := bt e20 e21
                  obtain ⟨r9, e22, e21⟩ := bind_some e21
                  obtain ⟨r10, e23, e21⟩ := bind_some e21
                  exact run_draw (n := 26) (by kernel_rfl) (by kernel_rfl) (by kernel_rfl) (by kernel_rfl) (.read (.plain rfl (pj_move (has_tmp rfl))) <| .read (.plain rfl (pj_move (has_tmp rfl))) <| .read (.plain rfl (pj_ieql (has_tmp rfl) (has_tmp rfl))) <| .read (.plain rfl (pj_move (has_tmp rfl))) <| .read (.yes ⟨3, true, _, 53, _, rfl, rfl, rfl, fun _ _ => bl_p.1, gd_yes e12⟩ (pj_load_to (has_tmp rfl) (by kernel_rfl))) <| .read (.yes ⟨3, true, _, 53, _, rfl, rfl, rfl, fun _ _ => bl_p.1, gd_yes e12⟩ (pj_call (hasL_cons (has_tmp rfl) <| hasL_nil) (by kernel_rfl) (c_rolodexlaw15_to e14))) <| .read (.yes ⟨3, true, _, 53, _, rfl, rfl, rfl, fun _ _ => bl_p.1, gd_yes e12⟩ (pj_load_to (has_tmp rfl) (by kernel_rfl))) <| .read (.yes ⟨3, true, _, 53, _, rfl, rfl, rfl, fun _ _ => bl_p.1, gd_yes e12⟩ (pj_call (hasL_cons (has_tmp rfl) <| hasL_cons (has_tmp rfl) <| hasL_nil) (by kernel_rfl) (c_rolodexref15_Ranges e15))) <| .read (.plain rfl (PJ.eqv (R := bl) (pj_pick (t := any) (has_tmp rfl) (fun _ => (has_tmp rfl)) (fun he => absurd (e12.symm.trans he) (by decide))) (Option.some.inj e13))) <| .read (.plain rfl (pj_move (has_tmp rfl))) <| .read (.yes ⟨9, true, _, 59, _, rfl, rfl, rfl, fun _ _ => bl_p.1, gd_yes e16⟩ (pj_load_to (has_tmp rfl) (by kernel_rfl))) <| .read (.yes ⟨9, true, _, 59, _, rfl, rfl, rfl, fun _ _ => bl_p.1, gd_yes e16⟩ (pj_load_to (has_tmp rfl) (by kernel_rfl))) <| .read (.yes ⟨9, true, _, 59, _, rfl, rfl, rfl, fun _ _ => bl_p.1, gd_yes e16⟩ (pj_eql (n := 2) (eq_vec (e := 5) (by kernel_rfl) (by kernel_rfl) (eq_un (by kernel_rfl))) (by decide) rfl (by kernel_rfl) (has_tmp rfl) (has_tmp rfl))) <| .read (.plain rfl (PJ.eqv (R := bl) (pj_pick (t := any) (has_tmp rfl) (fun _ => (has_tmp rfl)) (fun he => absurd (e16.symm.trans he) (by decide))) (Option.some.inj e17))) <| .read (.plain rfl (pj_move (has_tmp rfl))) <| .read (.no ⟨14, true, _, 64, _, rfl, rfl, rfl, fun _ _ => bl_p.1, gd_no e18⟩) <| .read (.no ⟨14, true, _, 64, _, rfl, rfl, rfl, fun _ _ => bl_p.1, gd_no e18⟩) <| .read (.no ⟨14, true, _, 64, _, rfl, rfl, rfl, fun _ _ => bl_p.1, gd_no e18⟩) <| .read (.plain rfl (PJ.eqv (R := bl) (pj_pick (t := any) (has_tmp rfl) (fun he => absurd (e18.symm.trans he) (by decide)) (fun _ => has_bl)) (Option.some.inj e19))) <| .read (.plain rfl (pj_move (has_tmp rfl))) <| .read (.yes ⟨19, true, _, 69, _, rfl, rfl, rfl, fun _ _ => bl_p.1, gd_yes e20⟩ (pj_load_to (has_tmp rfl) (by kernel_rfl))) <| .read (.yes ⟨19, true, _, 69, _, rfl, rfl, rfl, fun _ _ => bl_p.1, gd_yes e20⟩ (pj_call (hasL_cons (has_tmp rfl) <| hasL_nil) (by kernel_rfl) (c_frontier_Formed hg2 hg3 e22))) <| .read (.yes ⟨19, true, _, 69, _, rfl, rfl, rfl, fun _ _ => bl_p.1, gd_yes e20⟩ (pj_load_to (has_tmp rfl) (by kernel_rfl))) <| .read (.yes ⟨19, true, _, 69, _, rfl, rfl, rfl, fun _ _ => bl_p.1, gd_yes e20⟩ (pj_call (hasL_cons (has_tmp rfl) <| hasL_nil) (by kernel_rfl) (c_rolodexref15_Formed e23))) <| .read (.yes ⟨19, true, _, 69, _, rfl, rfl, rfl, fun _ _ => bl_p.1, gd_yes e20⟩ (pj_beql (by kernel_rfl) (has_tmp rfl) (has_tmp rfl))) <| .read (.plain rfl (PJ.eqv (R := bl) (pj_pick (t := any) (has_tmp rfl) (fun _ => (has_tmp rfl)) (fun he => absurd (e20.symm.trans he) (by decide))) (Option.some.inj e21))) <| .nil) (j_to (Γ' := [(75, bl.slot y6)]) (H' := []) (.cons (.of_lk rfl) <| .nil) (.nil) J)
                · replace e21 := bf e20 e21
                  exact run_draw (n := 26) (by kernel_rfl) (by kernel_rfl) (by kernel_rfl) (by kernel_rfl) (.read (.plain rfl (pj_move (has_tmp rfl))) <| .read (.plain rfl (pj_move (has_tmp rfl))) <| .read (.plain rfl (pj_ieql (has_tmp rfl) (has_tmp rfl))) <| .read (.plain rfl (pj_move (has_tmp rfl))) <| .read (.yes ⟨3, true, _, 53, _, rfl, rfl, rfl, fun _ _ => bl_p.1, gd_yes e12⟩ (pj_load_to (has_tmp rfl) (by kernel_rfl))) <| .read (.yes ⟨3, true, _, 53, _, rfl, rfl, rfl, fun _ _ => bl_p.1, gd_yes e12⟩ (pj_call (hasL_cons (has_tmp rfl) <| hasL_nil) (by kernel_rfl) (c_rolodexlaw15_to e14))) <| .read (.yes ⟨3, true, _, 53, _, rfl, rfl, rfl, fun _ _ => bl_p.1, gd_yes e12⟩ (pj_load_to (has_tmp rfl) (by kernel_rfl))) <| .read (.yes ⟨3, true, _, 53, _, rfl, rfl, rfl, fun _ _ => bl_p.1, gd_yes e12⟩ (pj_call (hasL_cons (has_tmp rfl) <| hasL_cons (has_tmp rfl) <| hasL_nil) (by kernel_rfl) (c_rolodexref15_Ranges e15))) <| .read (.plain rfl (PJ.eqv (R := bl) (pj_pick (t := any) (has_tmp rfl) (fun _ => (has_tmp rfl)) (fun he => absurd (e12.symm.trans he) (by decide))) (Option.some.inj e13))) <| .read (.plain rfl (pj_move (has_tmp rfl))) <| .read (.yes ⟨9, true, _, 59, _, rfl, rfl, rfl, fun _ _ => bl_p.1, gd_yes e16⟩ (pj_load_to (has_tmp rfl) (by kernel_rfl))) <| .read (.yes ⟨9, true, _, 59, _, rfl, rfl, rfl, fun _ _ => bl_p.1, gd_yes e16⟩ (pj_load_to (has_tmp rfl) (by kernel_rfl))) <| .read (.yes ⟨9, true, _, 59, _, rfl, rfl, rfl, fun _ _ => bl_p.1, gd_yes e16⟩ (pj_eql (n := 2) (eq_vec (e := 5) (by kernel_rfl) (by kernel_rfl) (eq_un (by kernel_rfl))) (by decide) rfl (by kernel_rfl) (has_tmp rfl) (has_tmp rfl))) <| .read (.plain rfl (PJ.eqv (R := bl) (pj_pick (t := any) (has_tmp rfl) (fun _ => (has_tmp rfl)) (fun he => absurd (e16.symm.trans he) (by decide))) (Option.some.inj e17))) <| .read (.plain rfl (pj_move (has_tmp rfl))) <| .read (.no ⟨14, true, _, 64, _, rfl, rfl, rfl, fun _ _ => bl_p.1, gd_no e18⟩) <| .read (.no ⟨14, true, _, 64, _, rfl, rfl, rfl, fun _ _ => bl_p.1, gd_no e18⟩) <| .read (.no ⟨14, true, _, 64, _, rfl, rfl, rfl, fun _ _ => bl_p.1, gd_no e18⟩) <| .read (.plain rfl (PJ.eqv (R := bl) (pj_pick (t := any) (has_tmp rfl) (fun he => absurd (e18.symm.trans he) (by decide)) (fun _ => has_bl)) (Option.some.inj e19))) <| .read (.plain rfl (pj_move (has_tmp rfl))) <| .read (.no ⟨19, true, _, 69, _, rfl, rfl, rfl, fun _ _ => bl_p.1, gd_no e20⟩) <| .read (.no ⟨19, true, _, 69, _, rfl, rfl, rfl, fun _ _ => bl_p.1, gd_no e20⟩) <| .read (.no ⟨19, true, _, 69, _, rfl, rfl, rfl, fun _ _ => bl_p.1, gd_no e20⟩) <| .read (.no ⟨19, true, _, 69, _, rfl, rfl, rfl, fun _ _ => bl_p.1, gd_no e20⟩) <| .read (.no ⟨19, true, _, 69, _, rfl, rfl, rfl, fun _ _ => bl_p.1, gd_no e20⟩) <| .read (.plain rfl (PJ.eqv (R := bl) (pj_pick (t := any) (has_tmp rfl) (fun he => absurd (e20.symm.trans he) (by decide)) (fun _ => has_bl)) (Option.some.inj e21))) <| .nil) (j_to (Γ' := [(75, bl.slot y6)]) (H' := []) (.cons (.of_lk rfl) <| .nil) (.nil) J)
            · replace e17 := bf e16 e17
              rcases bool_tf (y4) with e18 | e18
              · replace e19 := bt e18 e19
                rcases bool_tf (y5) with e20 | e20
                · replace e21 := bt e20 e21
                  obtain ⟨r9, e22, e21⟩ := bind_some e21
                  obtain ⟨r10, e23, e21⟩ := bind_some e21
                  exact run_draw (n := 26) (by kernel_rfl) (by kernel_rfl) (by kernel_rfl) (by kernel_rfl) (.read (.plain rfl (pj_move (has_tmp rfl))) <| .read (.plain rfl (pj_move (has_tmp rfl))) <| .read (.plain rfl (pj_ieql (has_tmp rfl) (has_tmp rfl))) <| .read (.plain rfl (pj_move (has_tmp rfl))) <| .read (.yes ⟨3, true, _, 53, _, rfl, rfl, rfl, fun _ _ => bl_p.1, gd_yes e12⟩ (pj_load_to (has_tmp rfl) (by kernel_rfl))) <| .read (.yes ⟨3, true, _, 53, _, rfl, rfl, rfl, fun _ _ => bl_p.1, gd_yes e12⟩ (pj_call (hasL_cons (has_tmp rfl) <| hasL_nil) (by kernel_rfl) (c_rolodexlaw15_to e14))) <| .read (.yes ⟨3, true, _, 53, _, rfl, rfl, rfl, fun _ _ => bl_p.1, gd_yes e12⟩ (pj_load_to (has_tmp rfl) (by kernel_rfl))) <| .read (.yes ⟨3, true, _, 53, _, rfl, rfl, rfl, fun _ _ => bl_p.1, gd_yes e12⟩ (pj_call (hasL_cons (has_tmp rfl) <| hasL_cons (has_tmp rfl) <| hasL_nil) (by kernel_rfl) (c_rolodexref15_Ranges e15))) <| .read (.plain rfl (PJ.eqv (R := bl) (pj_pick (t := any) (has_tmp rfl) (fun _ => (has_tmp rfl)) (fun he => absurd (e12.symm.trans he) (by decide))) (Option.some.inj e13))) <| .read (.plain rfl (pj_move (has_tmp rfl))) <| .read (.no ⟨9, true, _, 59, _, rfl, rfl, rfl, fun _ _ => bl_p.1, gd_no e16⟩) <| .read (.no ⟨9, true, _, 59, _, rfl, rfl, rfl, fun _ _ => bl_p.1, gd_no e16⟩) <| .read (.no ⟨9, true, _, 59, _, rfl, rfl, rfl, fun _ _ => bl_p.1, gd_no e16⟩) <| .read (.plain rfl (PJ.eqv (R := bl) (pj_pick (t := any) (has_tmp rfl) (fun he => absurd (e16.symm.trans he) (by decide)) (fun _ => has_bl)) (Option.some.inj e17))) <| .read (.plain rfl (pj_move (has_tmp rfl))) <| .read (.yes ⟨14, true, _, 64, _, rfl, rfl, rfl, fun _ _ => bl_p.1, gd_yes e18⟩ (pj_move (has_tmp rfl))) <| .read (.yes ⟨14, true, _, 64, _, rfl, rfl, rfl, fun _ _ => bl_p.1, gd_yes e18⟩ (pj_move (has_tmp rfl))) <| .read (.yes ⟨14, true, _, 64, _, rfl, rfl, rfl, fun _ _ => bl_p.1, gd_yes e18⟩ (pj_ieql (has_tmp rfl) (has_tmp rfl))) <| .read (.plain rfl (PJ.eqv (R := bl) (pj_pick (t := any) (has_tmp rfl) (fun _ => (has_tmp rfl)) (fun he => absurd (e18.symm.trans he) (by decide))) (Option.some.inj e19))) <| .read (.plain rfl (pj_move (has_tmp rfl))) <| .read (.yes ⟨19, true, _, 69, _, rfl, rfl, rfl, fun _ _ => bl_p.1, gd_yes e20⟩ (pj_load_to (has_tmp rfl) (by kernel_rfl))) <| .read (.yes ⟨19, true, _, 69, _, rfl, rfl, rfl, fun _ _ => bl_p.1, gd_yes e20⟩ (pj_call (hasL_cons (has_tmp rfl) <| hasL_nil) (by kernel_rfl) (c_frontier_Formed hg2 hg3 e22))) <| .read (.yes ⟨19, true, _, 69, _, rfl, rfl, rfl, fun _ _ => bl_p.1, gd_yes e20⟩ (pj_load_to (has_tmp rfl) (by kernel_rfl))) <| .read (.yes ⟨19, true, _, 69, _, rfl, rfl, rfl, fun _ _ => bl_p.1, gd_yes e20⟩ (pj_call (hasL_cons (has_tmp rfl) <| hasL_nil) (by kernel_rfl) (c_rolodexref15_Formed e23))) <| .read (.yes ⟨19, true, _, 69, _, rfl, rfl, rfl, fun _ _ => bl_p.1, gd_yes e20⟩ (pj_beql (by kernel_rfl) (has_tmp rfl) (has_tmp rfl))) <| .read (.plain rfl (PJ.eqv (R := bl) (pj_pick (t := any) (has_tmp rfl) (fun _ => (has_tmp rfl)) (fun he => absurd (e20.symm.trans he) (by decide))) (Option.some.inj e21))) <| .nil) (j_to (Γ' := [(75, bl.slot y6)]) (H' := []) (.cons (.of_lk rfl) <| .nil) (.nil) J)
                · replace e21 := bf e20 e21
                  exact run_draw (n := 26) (by kernel_rfl) (by kernel_rfl) (by kernel_rfl) (by kernel_rfl) (.read (.plain rfl (pj_move (has_tmp rfl))) <| .read (.plain rfl (pj_move (has_tmp rfl))) <| .read (.plain rfl (pj_ieql (has_tmp rfl) (has_tmp rfl))) <| .read (.plain rfl (pj_move (has_tmp rfl))) <| .read (.yes ⟨3, true, _, 53, _, rfl, rfl, rfl, fun _ _ => bl_p.1, gd_yes e12⟩ (pj_load_to (has_tmp rfl) (by kernel_rfl))) <| .read (.yes ⟨3, true, _, 53, _, rfl, rfl, rfl, fun _ _ => bl_p.1, gd_yes e12⟩ (pj_call (hasL_cons (has_tmp rfl) <| hasL_nil) (by kernel_rfl) (c_rolodexlaw15_to e14))) <| .read (.yes ⟨3, true, _, 53, _, rfl, rfl, rfl, fun _ _ => bl_p.1, gd_yes e12⟩ (pj_load_to (has_tmp rfl) (by kernel_rfl))) <| .read (.yes ⟨3, true, _, 53, _, rfl, rfl, rfl, fun _ _ => bl_p.1, gd_yes e12⟩ (pj_call (hasL_cons (has_tmp rfl) <| hasL_cons (has_tmp rfl) <| hasL_nil) (by kernel_rfl) (c_rolodexref15_Ranges e15))) <| .read (.plain rfl (PJ.eqv (R := bl) (pj_pick (t := any) (has_tmp rfl) (fun _ => (has_tmp rfl)) (fun he => absurd (e12.symm.trans he) (by decide))) (Option.some.inj e13))) <| .read (.plain rfl (pj_move (has_tmp rfl))) <| .read (.no ⟨9, true, _, 59, _, rfl, rfl, rfl, fun _ _ => bl_p.1, gd_no e16⟩) <| .read (.no ⟨9, true, _, 59, _, rfl, rfl, rfl, fun _ _ => bl_p.1, gd_no e16⟩) <| .read (.no ⟨9, true, _, 59, _, rfl, rfl, rfl, fun _ _ => bl_p.1, gd_no e16⟩) <| .read (.plain rfl (PJ.eqv (R := bl) (pj_pick (t := any) (has_tmp rfl) (fun he => absurd (e16.symm.trans he) (by decide)) (fun _ => has_bl)) (Option.some.inj e17))) <| .read (.plain rfl (pj_move (has_tmp rfl))) <| .read (.yes ⟨14, true, _, 64, _, rfl, rfl, rfl, fun _ _ => bl_p.1, gd_yes e18⟩ (pj_move (has_tmp rfl))) <| .read (.yes ⟨14, true, _, 64, _, rfl, rfl, rfl, fun _ _ => bl_p.1, gd_yes e18⟩ (pj_move (has_tmp rfl))) <| .read (.yes ⟨14, true, _, 64, _, rfl, rfl, rfl, fun _ _ => bl_p.1, gd_yes e18⟩ (pj_ieql (has_tmp rfl) (has_tmp rfl))) <| .read (.plain rfl (PJ.eqv (R := bl) (pj_pick (t := any) (has_tmp rfl) (fun _ => (has_tmp rfl)) (fun he => absurd (e18.symm.trans he) (by decide))) (Option.some.inj e19))) <| .read (.plain rfl (pj_move (has_tmp rfl))) <| .read (.no ⟨19, true, _, 69, _, rfl, rfl, rfl, fun _ _ => bl_p.1, gd_no e20⟩) <| .read (.no ⟨19, true, _, 69, _, rfl, rfl, rfl, fun _ _ => bl_p.1, gd_no e20⟩) <| .read (.no ⟨19, true, _, 69, _, rfl, rfl, rfl, fun _ _ => bl_p.1, gd_no e20⟩) <| .read (.no ⟨19, true, _, 69, _, rfl, rfl, rfl, fun _ _ => bl_p.1, gd_no e20⟩) <| .read (.no ⟨19, true, _, 69, _, rfl, rfl, rfl, fun _ _ => bl_p.1, gd_no e20⟩) <| .read (.plain rfl (PJ.eqv (R := bl) (pj_pick (t := any) (has_tmp rfl) (fun he => absurd (e20.symm.trans he) (by decide)) (fun _ => has_bl)) (Option.some.inj e21))) <| .nil) (j_to (Γ' := [(75, bl.slot y6)]) (H' := []) (.cons (.of_lk rfl) <| .nil) (.nil) J)
              · replace e19 := bf e18 e19
                rcases bool_tf (y5) with e20 | e20
                · replace e21 := bt e20 e21
                  obtain ⟨r9, e22, e21⟩ := bind_some e21
                  obtain ⟨r10, e23, e21⟩ := bind_some e21
                  exact run_draw (n := 26) (by kernel_rfl) (by kernel_rfl) (by kernel_rfl) (by kernel_rfl) (.read (.plain rfl (pj_move (has_tmp rfl))) <| .read (.plain rfl (pj_move (has_tmp rfl))) <| .read (.plain rfl (pj_ieql (has_tmp rfl) (has_tmp rfl))) <| .read (.plain rfl (pj_move (has_tmp rfl))) <| .read (.yes ⟨3, true, _, 53, _, rfl, rfl, rfl, fun _ _ => bl_p.1, gd_yes e12⟩ (pj_load_to (has_tmp rfl) (by kernel_rfl))) <| .read (.yes ⟨3, true, _, 53, _, rfl, rfl, rfl, fun _ _ => bl_p.1, gd_yes e12⟩ (pj_call (hasL_cons (has_tmp rfl) <| hasL_nil) (by kernel_rfl) (c_rolodexlaw15_to e14))) <| .read (.yes ⟨3, true, _, 53, _, rfl, rfl, rfl, fun _ _ => bl_p.1, gd_yes e12⟩ (pj_load_to (has_tmp rfl) (by kernel_rfl))) <| .read (.yes ⟨3, true, _, 53, _, rfl, rfl, rfl, fun _ _ => bl_p.1, gd_yes e12⟩ (pj_call (hasL_cons (has_tmp rfl) <| hasL_cons (has_tmp rfl) <| hasL_nil) (by kernel_rfl) (c_rolodexref15_Ranges e15))) <| .read (.plain rfl (PJ.eqv (R := bl) (pj_pick (t := any) (has_tmp rfl) (fun _ => (has_tmp rfl)) (fun he => absurd (e12.symm.trans he) (by decide))) (Option.some.inj e13))) <| .read (.plain rfl (pj_move (has_tmp rfl))) <| .read (.no ⟨9, true, _, 59, _, rfl, rfl, rfl, fun _ _ => bl_p.1, gd_no e16⟩) <| .read (.no ⟨9, true, _, 59, _, rfl, rfl, rfl, fun _ _ => bl_p.1, gd_no e16⟩) <| .read (.no ⟨9, true, _, 59, _, rfl, rfl, rfl, fun _ _ => bl_p.1, gd_no e16⟩) <| .read (.plain rfl (PJ.eqv (R := bl) (pj_pick (t := any) (has_tmp rfl) (fun he => absurd (e16.symm.trans he) (by decide)) (fun _ => has_bl)) (Option.some.inj e17))) <| .read (.plain rfl (pj_move (has_tmp rfl))) <| .read (.no ⟨14, true, _, 64, _, rfl, rfl, rfl, fun _ _ => bl_p.1, gd_no e18⟩) <| .read (.no ⟨14, true, _, 64, _, rfl, rfl, rfl, fun _ _ => bl_p.1, gd_no e18⟩) <| .read (.no ⟨14, true, _, 64, _, rfl, rfl, rfl, fun _ _ => bl_p.1, gd_no e18⟩) <| .read (.plain rfl (PJ.eqv (R := bl) (pj_pick (t := any) (has_tmp rfl) (fun he => absurd (e18.symm.trans he) (by decide)) (fun _ => has_bl)) (Option.some.inj e19))) <| .read (.plain rfl (pj_move (has_tmp rfl))) <| .read (.yes ⟨19, true, _, 69, _, rfl, rfl, rfl, fun _ _ => bl_p.1, gd_yes e20⟩ (pj_load_to (has_tmp rfl) (by kernel_rfl))) <| .read (.yes ⟨19, true, _, 69, _, rfl, rfl, rfl, fun _ _ => bl_p.1, gd_yes e20⟩ (pj_call (hasL_cons (has_tmp rfl) <| hasL_nil) (by kernel_rfl) (c_frontier_Formed hg2 hg3 e22))) <| .read (.yes ⟨19, true, _, 69, _, rfl, rfl, rfl, fun _ _ => bl_p.1, gd_yes e20⟩ (pj_load_to (has_tmp rfl) (by kernel_rfl))) <| .read (.yes ⟨19, true, _, 69, _, rfl, rfl, rfl, fun _ _ => bl_p.1, gd_yes e20⟩ (pj_call (hasL_cons (has_tmp rfl) <| hasL_nil) (by kernel_rfl) (c_rolodexref15_Formed e23))) <| .read (.yes ⟨19, true, _, 69, _, rfl, rfl, rfl, fun _ _ => bl_p.1, gd_yes e20⟩ (pj_beql (by kernel_rfl) (has_tmp rfl) (has_tmp rfl))) <| .read (.plain rfl (PJ.eqv (R := bl) (pj_pick (t := any) (has_tmp rfl) (fun _ => (has_tmp rfl)) (fun he => absurd (e20.symm.trans he) (by decide))) (Option.some.inj e21))) <| .nil) (j_to (Γ' := [(75, bl.slot y6)]) (H' := []) (.cons (.of_lk rfl) <| .nil) (.nil) J)
                · replace e21 := bf e20 e21
                  exact run_draw (n := 26) (by kernel_rfl) (by kernel_rfl) (by kernel_rfl) (by kernel_rfl) (.read (.plain rfl (pj_move (has_tmp rfl))) <| .read (.plain rfl (pj_move (has_tmp rfl))) <| .read (.plain rfl (pj_ieql (has_tmp rfl) (has_tmp rfl))) <| .read (.plain rfl (pj_move (has_tmp rfl))) <| .read (.yes ⟨3, true, _, 53, _, rfl, rfl, rfl, fun _ _ => bl_p.1, gd_yes e12⟩ (pj_load_to (has_tmp rfl) (by kernel_rfl))) <| .read (.yes ⟨3, true, _, 53, _, rfl, rfl, rfl, fun _ _ => bl_p.1, gd_yes e12⟩ (pj_call (hasL_cons (has_tmp rfl) <| hasL_nil) (by kernel_rfl) (c_rolodexlaw15_to e14))) <| .read (.yes ⟨3, true, _, 53, _, rfl, rfl, rfl, fun _ _ => bl_p.1, gd_yes e12⟩ (pj_load_to (has_tmp rfl) (by kernel_rfl))) <| .read (.yes ⟨3, true, _, 53, _, rfl, rfl, rfl, fun _ _ => bl_p.1, gd_yes e12⟩ (pj_call (hasL_cons (has_tmp rfl) <| hasL_cons (has_tmp rfl) <| hasL_nil) (by kernel_rfl) (c_rolodexref15_Ranges e15))) <| .read (.plain rfl (PJ.eqv (R := bl) (pj_pick (t := any) (has_tmp rfl) (fun _ => (has_tmp rfl)) (fun he => absurd (e12.symm.trans he) (by decide))) (Option.some.inj e13))) <| .read (.plain rfl (pj_move (has_tmp rfl))) <| .read (.no ⟨9, true, _, 59, _, rfl, rfl, rfl, fun _ _ => bl_p.1, gd_no e16⟩) <| .read (.no ⟨9, true, _, 59, _, rfl, rfl, rfl, fun _ _ => bl_p.1, gd_no e16⟩) <| .read (.no ⟨9, true, _, 59, _, rfl, rfl, rfl, fun _ _ => bl_p.1, gd_no e16⟩) <| .read (.plain rfl (PJ.eqv (R := bl) (pj_pick (t := any) (has_tmp rfl) (fun he => absurd (e16.symm.trans he) (by decide)) (fun _ => has_bl)) (Option.some.inj e17))) <| .read (.plain rfl (pj_move (has_tmp rfl))) <| .read (.no ⟨14, true, _, 64, _, rfl, rfl, rfl, fun _ _ => bl_p.1, gd_no e18⟩) <| .read (.no ⟨14, true, _, 64, _, rfl, rfl, rfl, fun _ _ => bl_p.1, gd_no e18⟩) <| .read (.no ⟨14, true, _, 64, _, rfl, rfl, rfl, fun _ _ => bl_p.1, gd_no e18⟩) <| .read (.plain rfl (PJ.eqv (R := bl) (pj_pick (t := any) (has_tmp rfl) (fun he => absurd (e18.symm.trans he) (by decide)) (fun _ => has_bl)) (Option.some.inj e19))) <| .read (.plain rfl (pj_move (has_tmp rfl))) <| .read (.no ⟨19, true, _, 69, _, rfl, rfl, rfl, fun _ _ => bl_p.1, gd_no e20⟩) <| .read (.no ⟨19, true, _, 69, _, rfl, rfl, rfl, fun _ _ => bl_p.1, gd_no e20⟩) <| .read (.no ⟨19, true, _, 69, _, rfl, rfl, rfl, fun _ _ => bl_p.1, gd_no e20⟩) <| .read (.no ⟨19, true, _, 69, _, rfl, rfl, rfl, fun _ _ => bl_p.1, gd_no e20⟩) <| .read (.no ⟨19, true, _, 69, _, rfl, rfl, rfl, fun _ _ => bl_p.1, gd_no e20⟩) <| .read (.plain rfl (PJ.eqv (R := bl) (pj_pick (t := any) (has_tmp rfl) (fun he => absurd (e20.symm.trans he) (by decide)) (fun _ => has_bl)) (Option.some.inj e21))) <| .nil) (j_to (Γ' := [(75, bl.slot y6)]) (H' := []) (.cons (.of_lk rfl) <| .nil) (.nil) J)
          · replace e13 := bf e12 e13
            rcases bool_tf (y3) with e16 | e16
            · replace e17 := bt e16 e17
              rcases bool_tf (y4) with e18 | e18
              · replace e19 := bt e18 e19
                rcases bool_tf (y5) with e20 | e20
                · replace e21 := bt e20 e21
                  obtain ⟨r9, e22, e21⟩ := bind_some e21
                  obtain ⟨r10, e23, e21⟩ := bind_some e21
                  exact run_draw (n := 26) (by kernel_rfl) (by kernel_rfl) (by kernel_rfl) (by kernel_rfl) (.read (.plain rfl (pj_move (has_tmp rfl))) <| .read (.plain rfl (pj_move (has_tmp rfl))) <| .read (.plain rfl (pj_ieql (has_tmp rfl) (has_tmp rfl))) <| .read (.plain rfl (pj_move (has_tmp rfl))) <| .read (.no ⟨3, true, _, 53, _, rfl, rfl, rfl, fun _ _ => bl_p.1, gd_no e12⟩) <| .read (.no ⟨3, true, _, 53, _, rfl, rfl, rfl, fun _ _ => bl_p.1, gd_no e12⟩) <| .read (.no ⟨3, true, _, 53, _, rfl, rfl, rfl, fun _ _ => bl_p.1, gd_no e12⟩) <| .read (.no ⟨3, true, _, 53, _, rfl, rfl, rfl, fun _ _ => bl_p.1, gd_no e12⟩) <| .read (.plain rfl (PJ.eqv (R := bl) (pj_pick (t := any) (has_tmp rfl) (fun he => absurd (e12.symm.trans he) (by decide)) (fun _ => has_bl)) (Option.some.inj e13))) <| .read (.plain rfl (pj_move (has_tmp rfl))) <| .read (.yes ⟨9, true, _, 59, _, rfl, rfl, rfl, fun _ _ => bl_p.1, gd_yes e16⟩ (pj_load_to (has_tmp rfl) (by kernel_rfl))) <| .read (.yes ⟨9, true, _, 59, _, rfl, rfl, rfl, fun _ _ => bl_p.1, gd_yes e16⟩ (pj_load_to (has_tmp rfl) (by kernel_rfl))) <| .read (.yes ⟨9, true, _, 59, _, rfl, rfl, rfl, fun _ _ => bl_p.1, gd_yes e16⟩ (pj_eql (n := 2) (eq_vec (e := 5) (by kernel_rfl) (by kernel_rfl) (eq_un (by kernel_rfl))) (by decide) rfl (by kernel_rfl) (has_tmp rfl) (has_tmp rfl))) <| .read (.plain rfl (PJ.eqv (R := bl) (pj_pick (t := any) (has_tmp rfl) (fun _ => (has_tmp rfl)) (fun he => absurd (e16.symm.trans he) (by decide))) (Option.some.inj e17))) <| .read (.plain rfl (pj_move (has_tmp rfl))) <| .read (.yes ⟨14, true, _, 64, _, rfl, rfl, rfl, fun _ _ => bl_p.1, gd_yes e18⟩ (pj_move (has_tmp rfl))) <| .read (.yes ⟨14, true, _, 64, _, rfl, rfl, rfl, fun _ _ => bl_p.1, gd_yes e18⟩ (pj_move (has_tmp rfl))) <| .read (.yes ⟨14, true, _, 64, _, rfl, rfl, rfl, fun _ _ => bl_p.1, gd_yes e18⟩ (pj_ieql (has_tmp rfl) (has_tmp rfl))) <| .read (.plain rfl (PJ.eqv (R := bl) (pj_pick (t := any) (has_tmp rfl) (fun _ => (has_tmp rfl)) (fun he => absurd (e18.symm.trans he) (by decide))) (Option.some.inj e19))) <| .read (.plain rfl (pj_move (has_tmp rfl))) <| .read (.yes ⟨19, true, _, 69, _, rfl, rfl, rfl, fun _ _ => bl_p.1, gd_yes e20⟩ (pj_load_to (has_tmp rfl) (by kernel_rfl))) <| .read (.yes ⟨19, true, _, 69, _, rfl, rfl, rfl, fun _ _ => bl_p.1, gd_yes e20⟩ (pj_call (hasL_cons (has_tmp rfl) <| hasL_nil) (by kernel_rfl) (c_frontier_Formed hg2 hg3 e22))) <| .read (.yes ⟨19, true, _, 69, _, rfl, rfl, rfl, fun _ _ => bl_p.1, gd_yes e20⟩ (pj_load_to (has_tmp rfl) (by kernel_rfl))) <| .read (.yes ⟨19, true, _, 69, _, rfl, rfl, rfl, fun _ _ => bl_p.1, gd_yes e20⟩ (pj_call (hasL_cons (has_tmp rfl) <| hasL_nil) (by kernel_rfl) (c_rolodexref15_Formed e23))) <| .read (.yes ⟨19, true, _, 69, _, rfl, rfl, rfl, fun _ _ => bl_p.1, gd_yes e20⟩ (pj_beql (by kernel_rfl) (has_tmp rfl) (has_tmp rfl))) <| .read (.plain rfl (PJ.eqv (R := bl) (pj_pick (t := any) (has_tmp rfl) (fun _ => (has_tmp rfl)) (fun he => absurd (e20.symm.trans he) (by decide))) (Option.some.inj e21))) <| .nil) (j_to (Γ' := [(75, bl.slot y6)]) (H' := []) (.cons (.of_lk rfl) <| .nil) (.nil) J)
                · replace e21 := bf e20 e21
                  exact run_draw (n := 26) (by kernel_rfl) (by kernel_rfl) (by kernel_rfl) (by kernel_rfl) (.read (.plain rfl (pj_move (has_tmp rfl))) <| .read (.plain rfl (pj_move (has_tmp rfl))) <| .read (.plain rfl (pj_ieql (has_tmp rfl) (has_tmp rfl))) <| .read (.plain rfl (pj_move (has_tmp rfl))) <| .read (.no ⟨3, true, _, 53, _, rfl, rfl, rfl, fun _ _ => bl_p.1, gd_no e12⟩) <| .read (.no ⟨3, true, _, 53, _, rfl, rfl, rfl, fun _ _ => bl_p.1, gd_no e12⟩) <| .read (.no ⟨3, true, _, 53, _, rfl, rfl, rfl, fun _ _ => bl_p.1, gd_no e12⟩) <| .read (.no ⟨3, true, _, 53, _, rfl, rfl, rfl, fun _ _ => bl_p.1, gd_no e12⟩) <| .read (.plain rfl (PJ.eqv (R := bl) (pj_pick (t := any) (has_tmp rfl) (fun he => absurd (e12.symm.trans he) (by decide)) (fun _ => has_bl)) (Option.some.inj e13))) <| .read (.plain rfl (pj_move (has_tmp rfl))) <| .read (.yes ⟨9, true, _, 59, _, rfl, rfl, rfl, fun _ _ => bl_p.1, gd_yes e16⟩ (pj_load_to (has_tmp rfl) (by kernel_rfl))) <| .read (.yes ⟨9, true, _, 59, _, rfl, rfl, rfl, fun _ _ => bl_p.1, gd_yes e16⟩ (pj_load_to (has_tmp rfl) (by kernel_rfl))) <| .read (.yes ⟨9, true, _, 59, _, rfl, rfl, rfl, fun _ _ => bl_p.1, gd_yes e16⟩ (pj_eql (n := 2) (eq_vec (e := 5) (by kernel_rfl) (by kernel_rfl) (eq_un (by kernel_rfl))) (by decide) rfl (by kernel_rfl) (has_tmp rfl) (has_tmp rfl))) <| .read (.plain rfl (PJ.eqv (R := bl) (pj_pick (t := any) (has_tmp rfl) (fun _ => (has_tmp rfl)) (fun he => absurd (e16.symm.trans he) (by decide))) (Option.some.inj e17))) <| .read (.plain rfl (pj_move (has_tmp rfl))) <| .read (.yes ⟨14, true, _, 64, _, rfl, rfl, rfl, fun _ _ => bl_p.1, gd_yes e18⟩ (pj_move (has_tmp rfl))) <| .read (.yes ⟨14, true, _, 64, _, rfl, rfl, rfl, fun _ _ => bl_p.1, gd_yes e18⟩ (pj_move (has_tmp rfl))) <| .read (.yes ⟨14, true, _, 64, _, rfl, rfl, rfl, fun _ _ => bl_p.1, gd_yes e18⟩ (pj_ieql (has_tmp rfl) (has_tmp rfl))) <| .read (.plain rfl (PJ.eqv (R := bl) (pj_pick (t := any) (has_tmp rfl) (fun _ => (has_tmp rfl)) (fun he => absurd (e18.symm.trans he) (by decide))) (Option.some.inj e19))) <| .read (.plain rfl (pj_move (has_tmp rfl))) <| .read (.no ⟨19, true, _, 69, _, rfl, rfl, rfl, fun _ _ => bl_p.1, gd_no e20⟩) <| .read (.no ⟨19, true, _, 69, _, rfl, rfl, rfl, fun _ _ => bl_p.1, gd_no e20⟩) <| .read (.no ⟨19, true, _, 69, _, rfl, rfl, rfl, fun _ _ => bl_p.1, gd_no e20⟩) <| .read (.no ⟨19, true, _, 69, _, rfl, rfl, rfl, fun _ _ => bl_p.1, gd_no e20⟩) <| .read (.no ⟨19, true, _, 69, _, rfl, rfl, rfl, fun _ _ => bl_p.1, gd_no e20⟩) <| .read (.plain rfl (PJ.eqv (R := bl) (pj_pick (t := any) (has_tmp rfl) (fun he => absurd (e20.symm.trans he) (by decide)) (fun _ => has_bl)) (Option.some.inj e21))) <| .nil) (j_to (Γ' := [(75, bl.slot y6)]) (H' := []) (.cons (.of_lk rfl) <| .nil) (.nil) J)
              · replace e19 := bf e18 e19
                rcases bool_tf (y5) with e20 | e20
                · replace e21 := bt e20 e21
                  obtain ⟨r9, e22, e21⟩ := bind_some e21
                  obtain ⟨r10, e23, e21⟩ := bind_some e21
                  exact run_draw (n := 26) (by kernel_rfl) (by kernel_rfl) (by kernel_rfl) (by kernel_rfl) (.read (.plain rfl (pj_move (has_tmp rfl))) <| .read (.plain rfl (pj_move (has_tmp rfl))) <| .read (.plain rfl (pj_ieql (has_tmp rfl) (has_tmp rfl))) <| .read (.plain rfl (pj_move (has_tmp rfl))) <| .read (.no ⟨3, true, _, 53, _, rfl, rfl, rfl, fun _ _ => bl_p.1, gd_no e12⟩) <| .read (.no ⟨3, true, _, 53, _, rfl, rfl, rfl, fun _ _ => bl_p.1, gd_no e12⟩) <| .read (.no ⟨3, true, _, 53, _, rfl, rfl, rfl, fun _ _ => bl_p.1, gd_no e12⟩) <| .read (.no ⟨3, true, _, 53, _, rfl, rfl, rfl, fun _ _ => bl_p.1, gd_no e12⟩) <| .read (.plain rfl (PJ.eqv (R := bl) (pj_pick (t := any) (has_tmp rfl) (fun he => absurd (e12.symm.trans he) (by decide)) (fun _ => has_bl)) (Option.some.inj e13))) <| .read (.plain rfl (pj_move (has_tmp rfl))) <| .read (.yes ⟨9, true, _, 59, _, rfl, rfl, rfl, fun _ _ => bl_p.1, gd_yes e16⟩ (pj_load_to (has_tmp rfl) (by kernel_rfl))) <| .read (.yes ⟨9, true, _, 59, _, rfl, rfl, rfl, fun _ _ => bl_p.1, gd_yes e16⟩ (pj_load_to (has_tmp rfl) (by kernel_rfl))) <| .read (.yes ⟨9, true, _, 59, _, rfl, rfl, rfl, fun _ _ => bl_p.1, gd_yes e16⟩ (pj_eql (n := 2) (eq_vec (e := 5) (by kernel_rfl) (by kernel_rfl) (eq_un (by kernel_rfl))) (by decide) rfl (by kernel_rfl) (has_tmp rfl) (has_tmp rfl))) <| .read (.plain rfl (PJ.eqv (R := bl) (pj_pick (t := any) (has_tmp rfl) (fun _ => (has_tmp rfl)) (fun he => absurd (e16.symm.trans he) (by decide))) (Option.some.inj e17))) <| .read (.plain rfl (pj_move (has_tmp rfl))) <| .read (.no ⟨14, true, _, 64, _, rfl, rfl, rfl, fun _ _ => bl_p.1, gd_no e18⟩) <| .read (.no ⟨14, true, _, 64, _, rfl, rfl, rfl, fun _ _ => bl_p.1, gd_no e18⟩) <| .read (.no ⟨14, true, _, 64, _, rfl, rfl, rfl, fun _ _ => bl_p.1, gd_no e18⟩) <| .read (.plain rfl (PJ.eqv (R := bl) (pj_pick (t := any) (has_tmp rfl) (fun he => absurd (e18.symm.trans he) (by decide)) (fun _ => has_bl)) (Option.some.inj e19))) <| .read (.plain rfl (pj_move (has_tmp rfl))) <| .read (.yes ⟨19, true, _, 69, _, rfl, rfl, rfl, fun _ _ => bl_p.1, gd_yes e20⟩ (pj_load_to (has_tmp rfl) (by kernel_rfl))) <| .read (.yes ⟨19, true, _, 69, _, rfl, rfl, rfl, fun _ _ => bl_p.1, gd_yes e20⟩ (pj_call (hasL_cons (has_tmp rfl) <| hasL_nil) (by kernel_rfl) (c_frontier_Formed hg2 hg3 e22))) <| .read (.yes ⟨19, true, _, 69, _, rfl, rfl, rfl, fun _ _ => bl_p.1, gd_yes e20⟩ (pj_load_to (has_tmp rfl) (by kernel_rfl))) <| .read (.yes ⟨19, true, _, 69, _, rfl, rfl, rfl, fun _ _ => bl_p.1, gd_yes e20⟩ (pj_call (hasL_cons (has_tmp rfl) <| hasL_nil) (by kernel_rfl) (c_rolodexref15_Formed e23))) <| .read (.yes ⟨19, true, _, 69, _, rfl, rfl, rfl, fun _ _ => bl_p.1, gd_yes e20⟩ (pj_beql (by kernel_rfl) (has_tmp rfl) (has_tmp rfl))) <| .read (.plain rfl (PJ.eqv (R := bl) (pj_pick (t := any) (has_tmp rfl) (fun _ => (has_tmp rfl)) (fun he => absurd (e20.symm.trans he) (by decide))) (Option.some.inj e21))) <| .nil) (j_to (Γ' := [(75, bl.slot y6)]) (H' := []) (.cons (.of_lk rfl) <| .nil) (.nil) J)
                · replace e21 := bf e20 e21
                  exact run_draw (n := 26) (by kernel_rfl) (by kernel_rfl) (by kernel_rfl) (by kernel_rfl) (.read (.plain rfl (pj_move (has_tmp rfl))) <| .read (.plain rfl (pj_move (has_tmp rfl))) <| .read (.plain rfl (pj_ieql (has_tmp rfl) (has_tmp rfl))) <| .read (.plain rfl (pj_move (has_tmp rfl))) <| .read (.no ⟨3, true, _, 53, _, rfl, rfl, rfl, fun _ _ => bl_p.1, gd_no e12⟩) <| .read (.no ⟨3, true, _, 53, _, rfl, rfl, rfl, fun _ _ => bl_p.1, gd_no e12⟩) <| .read (.no ⟨3, true, _, 53, _, rfl, rfl, rfl, fun _ _ => bl_p.1, gd_no e12⟩) <| .read (.no ⟨3, true, _, 53, _, rfl, rfl, rfl, fun _ _ => bl_p.1, gd_no e12⟩) <| .read (.plain rfl (PJ.eqv (R := bl) (pj_pick (t := any) (has_tmp rfl) (fun he => absurd (e12.symm.trans he) (by decide)) (fun _ => has_bl)) (Option.some.inj e13))) <| .read (.plain rfl (pj_move (has_tmp rfl))) <| .read (.yes ⟨9, true, _, 59, _, rfl, rfl, rfl, fun _ _ => bl_p.1, gd_yes e16⟩ (pj_load_to (has_tmp rfl) (by kernel_rfl))) <| .read (.yes ⟨9, true, _, 59, _, rfl, rfl, rfl, fun _ _ => bl_p.1, gd_yes e16⟩ (pj_load_to (has_tmp rfl) (by kernel_rfl))) <| .read (.yes ⟨9, true, _, 59, _, rfl, rfl, rfl, fun _ _ => bl_p.1, gd_yes e16⟩ (pj_eql (n := 2) (eq_vec (e := 5) (by kernel_rfl) (by kernel_rfl) (eq_un (by kernel_rfl))) (by decide) rfl (by kernel_rfl) (has_tmp rfl) (has_tmp rfl))) <| .read (.plain rfl (PJ.eqv (R := bl) (pj_pick (t := any) (has_tmp rfl) (fun _ => (has_tmp rfl)) (fun he => absurd (e16.symm.trans he) (by decide))) (Option.some.inj e17))) <| .read (.plain rfl (pj_move (has_tmp rfl))) <| .read (.no ⟨14, true, _, 64, _, rfl, rfl, rfl, fun _ _ => bl_p.1, gd_no e18⟩) <| .read (.no ⟨14, true, _, 64, _, rfl, rfl, rfl, fun _ _ => bl_p.1, gd_no e18⟩) <| .read (.no ⟨14, true, _, 64, _, rfl, rfl, rfl, fun _ _ => bl_p.1, gd_no e18⟩) <| .read (.plain rfl (PJ.eqv (R := bl) (pj_pick (t := any) (has_tmp rfl) (fun he => absurd (e18.symm.trans he) (by decide)) (fun _ => has_bl)) (Option.some.inj e19))) <| .read (.plain rfl (pj_move (has_tmp rfl))) <| .read (.no ⟨19, true, _, 69, _, rfl, rfl, rfl, fun _ _ => bl_p.1, gd_no e20⟩) <| .read (.no ⟨19, true, _, 69, _, rfl, rfl, rfl, fun _ _ => bl_p.1, gd_no e20⟩) <| .read (.no ⟨19, true, _, 69, _, rfl, rfl, rfl, fun _ _ => bl_p.1, gd_no e20⟩) <| .read (.no ⟨19, true, _, 69, _, rfl, rfl, rfl, fun _ _ => bl_p.1, gd_no e20⟩) <| .read (.no ⟨19, true, _, 69, _, rfl, rfl, rfl, fun _ _ => bl_p.1, gd_no e20⟩) <| .read (.plain rfl (PJ.eqv (R := bl) (pj_pick (t := any) (has_tmp rfl) (fun he => absurd (e20.symm.trans he) (by decide)) (fun _ => has_bl)) (Option.some.inj e21))) <| .nil) (j_to (Γ' := [(75, bl.slot y6)]) (H' := []) (.cons (.of_lk rfl) <| .nil) (.nil) J)
            · replace e17 := bf e16 e17
              rcases bool_tf (y4) with e18 | e18
              · replace e19 := bt e18 e19
                rcases bool_tf (y5) with e20 | e20
                · replace e21 := bt e20 e21
                  obtain ⟨r9, e22, e21⟩ := bind_some e21
                  obtain ⟨r10, e23, e21⟩ := bind_some e21
                  exact run_draw (n := 26) (by kernel_rfl) (by kernel_rfl) (by kernel_rfl) (by kernel_rfl) (.read (.plain rfl (pj_move (has_tmp rfl))) <| .read (.plain rfl (pj_move (has_tmp rfl))) <| .read (.plain rfl (pj_ieql (has_tmp rfl) (has_tmp rfl))) <| .read (.plain rfl (pj_move (has_tmp rfl))) <| .read (.no ⟨3, true, _, 53, _, rfl, rfl, rfl, fun _ _ => bl_p.1, gd_no e12⟩) <| .read (.no ⟨3, true, _, 53, _, rfl, rfl, rfl, fun _ _ => bl_p.1, gd_no e12⟩) <| .read (.no ⟨3, true, _, 53, _, rfl, rfl, rfl, fun _ _ => bl_p.1, gd_no e12⟩) <| .read (.no ⟨3, true, _, 53, _, rfl, rfl, rfl, fun _ _ => bl_p.1, gd_no e12⟩) <| .read (.plain rfl (PJ.eqv (R := bl) (pj_pick (t := any) (has_tmp rfl) (fun he => absurd (e12.symm.trans he) (by decide)) (fun _ => has_bl)) (Option.some.inj e13))) <| .read (.plain rfl (pj_move (has_tmp rfl))) <| .read (.no ⟨9, true, _, 59, _, rfl, rfl, rfl, fun _ _ => bl_p.1, gd_no e16⟩) <| .read (.no ⟨9, true, _, 59, _, rfl, rfl, rfl, fun _ _ => bl_p.1, gd_no e16⟩) <| .read (.no ⟨9, true, _, 59, _, rfl, rfl, rfl, fun _ _ => bl_p.1, gd_no e16⟩) <| .read (.plain rfl (PJ.eqv (R := bl) (pj_pick (t := any) (has_tmp rfl) (fun he => absurd (e16.symm.trans he) (by decide)) (fun _ => has_bl)) (Option.some.inj e17))) <| .read (.plain rfl (pj_move (has_tmp rfl))) <| .read (.yes ⟨14, true, _, 64, _, rfl, rfl, rfl, fun _ _ => bl_p.1, gd_yes e18⟩ (pj_move (has_tmp rfl))) <| .read (.yes ⟨14, true, _, 64, _, rfl, rfl, rfl, fun _ _ => bl_p.1, gd_yes e18⟩ (pj_move (has_tmp rfl))) <| .read (.yes ⟨14, true, _, 64, _, rfl, rfl, rfl, fun _ _ => bl_p.1, gd_yes e18⟩ (pj_ieql (has_tmp rfl) (has_tmp rfl))) <| .read (.plain rfl (PJ.eqv (R := bl) (pj_pick (t := any) (has_tmp rfl) (fun _ => (has_tmp rfl)) (fun he => absurd (e18.symm.trans he) (by decide))) (Option.some.inj e19))) <| .read (.plain rfl (pj_move (has_tmp rfl))) <| .read (.yes ⟨19, true, _, 69, _, rfl, rfl, rfl, fun _ _ => bl_p.1, gd_yes e20⟩ (pj_load_to (has_tmp rfl) (by kernel_rfl))) <| .read (.yes ⟨19, true, _, 69, _, rfl, rfl, rfl, fun _ _ => bl_p.1, gd_yes e20⟩ (pj_call (hasL_cons (has_tmp rfl) <| hasL_nil) (by kernel_rfl) (c_frontier_Formed hg2 hg3 e22))) <| .read (.yes ⟨19, true, _, 69, _, rfl, rfl, rfl, fun _ _ => bl_p.1, gd_yes e20⟩ (pj_load_to (has_tmp rfl) (by kernel_rfl))) <| .read (.yes ⟨19, true, _, 69, _, rfl, rfl, rfl, fun _ _ => bl_p.1, gd_yes e20⟩ (pj_call (hasL_cons (has_tmp rfl) <| hasL_nil) (by kernel_rfl) (c_rolodexref15_Formed e23))) <| .read (.yes ⟨19, true, _, 69, _, rfl, rfl, rfl, fun _ _ => bl_p.1, gd_yes e20⟩ (pj_beql (by kernel_rfl) (has_tmp rfl) (has_tmp rfl))) <| .read (.plain rfl (PJ.eqv (R := bl) (pj_pick (t := any) (has_tmp rfl) (fun _ => (has_tmp rfl)) (fun he => absurd (e20.symm.trans he) (by decide))) (Option.some.inj e21))) <| .nil) (j_to (Γ' := [(75, bl.slot y6)]) (H' := []) (.cons (.of_lk rfl) <| .nil) (.nil) J)
                · replace e21 := bf e20 e21
                  exact run_draw (n := 26) (by kernel_rfl) (by kernel_rfl) (by kernel_rfl) (by kernel_rfl) (.read (.plain rfl (pj_move (has_tmp rfl))) <| .read (.plain rfl (pj_move (has_tmp rfl))) <| .read (.plain rfl (pj_ieql (has_tmp rfl) (has_tmp rfl))) <| .read (.plain rfl (pj_move (has_tmp rfl))) <| .read (.no ⟨3, true, _, 53, _, rfl, rfl, rfl, fun _ _ => bl_p.1, gd_no e12⟩) <| .read (.no ⟨3, true, _, 53, _, rfl, rfl, rfl, fun _ _ => bl_p.1, gd_no e12⟩) <| .read (.no ⟨3, true, _, 53, _, rfl, rfl, rfl, fun _ _ => bl_p.1, gd_no e12⟩) <| .read (.no ⟨3, true, _, 53, _, rfl, rfl, rfl, fun _ _ => bl_p.1, gd_no e12⟩) <| .read (.plain rfl (PJ.eqv (R := bl) (pj_pick (t := any) (has_tmp rfl) (fun he => absurd (e12.symm.trans he) (by decide)) (fun _ => has_bl)) (Option.some.inj e13))) <| .read (.plain rfl (pj_move (has_tmp rfl))) <| .read (.no ⟨9, true, _, 59, _, rfl, rfl, rfl, fun _ _ => bl_p.1, gd_no e16⟩) <| .read (.no ⟨9, true, _, 59, _, rfl, rfl, rfl, fun _ _ => bl_p.1, gd_no e16⟩) <| .read (.no ⟨9, true, _, 59, _, rfl, rfl, rfl, fun _ _ => bl_p.1, gd_no e16⟩) <| .read (.plain rfl (PJ.eqv (R := bl) (pj_pick (t := any) (has_tmp rfl) (fun he => absurd (e16.symm.trans he) (by decide)) (fun _ => has_bl)) (Option.some.inj e17))) <| .read (.plain rfl (pj_move (has_tmp rfl))) <| .read (.yes ⟨14, true, _, 64, _, rfl, rfl, rfl, fun _ _ => bl_p.1, gd_yes e18⟩ (pj_move (has_tmp rfl))) <| .read (.yes ⟨14, true, _, 64, _, rfl, rfl, rfl, fun _ _ => bl_p.1, gd_yes e18⟩ (pj_move (has_tmp rfl))) <| .read (.yes ⟨14, true, _, 64, _, rfl, rfl, rfl, fun _ _ => bl_p.1, gd_yes e18⟩ (pj_ieql (has_tmp rfl) (has_tmp rfl))) <| .read (.plain rfl (PJ.eqv (R := bl) (pj_pick (t := any) (has_tmp rfl) (fun _ => (has_tmp rfl)) (fun he => absurd (e18.symm.trans he) (by decide))) (Option.some.inj e19))) <| .read (.plain rfl (pj_move (has_tmp rfl))) <| .read (.no ⟨19, true, _, 69, _, rfl, rfl, rfl, fun _ _ => bl_p.1, gd_no e20⟩) <| .read (.no ⟨19, true, _, 69, _, rfl, rfl, rfl, fun _ _ => bl_p.1, gd_no e20⟩) <| .read (.no ⟨19, true, _, 69, _, rfl, rfl, rfl, fun _ _ => bl_p.1, gd_no e20⟩) <| .read (.no ⟨19, true, _, 69, _, rfl, rfl, rfl, fun _ _ => bl_p.1, gd_no e20⟩) <| .read (.no ⟨19, true, _, 69, _, rfl, rfl, rfl, fun _ _ => bl_p.1, gd_no e20⟩) <| .read (.plain rfl (PJ.eqv (R := bl) (pj_pick (t := any) (has_tmp rfl) (fun he => absurd (e20.symm.trans he) (by decide)) (fun _ => has_bl)) (Option.some.inj e21))) <| .nil) (j_to (Γ' := [(75, bl.slot y6)]) (H' := []) (.cons (.of_lk rfl) <| .nil) (.nil) J)
              · replace e19 := bf e18 e19
                rcases bool_tf (y5) with e20 | e20
                · replace e21 := bt e20 e21
                  obtain ⟨r9, e22, e21⟩ := bind_some e21
                  obtain ⟨r10, e23, e21⟩ := bind_some e21
                  exact run_draw (n := 26) (by kernel_rfl) (by kernel_rfl) (by kernel_rfl) (by kernel_rfl) (.read (.plain rfl (pj_move (has_tmp rfl))) <| .read (.plain rfl (pj_move (has_tmp rfl))) <| .read (.plain rfl (pj_ieql (has_tmp rfl) (has_tmp rfl))) <| .read (.plain rfl (pj_move (has_tmp rfl))) <| .read (.no ⟨3, true, _, 53, _, rfl, rfl, rfl, fun _ _ => bl_p.1, gd_no e12⟩) <| .read (.no ⟨3, true, _, 53, _, rfl, rfl, rfl, fun _ _ => bl_p.1, gd_no e12⟩) <| .read (.no ⟨3, true, _, 53, _, rfl, rfl, rfl, fun _ _ => bl_p.1, gd_no e12⟩) <| .read (.no ⟨3, true, _, 53, _, rfl, rfl, rfl, fun _ _ => bl_p.1, gd_no e12⟩) <| .read (.plain rfl (PJ.eqv (R := bl) (pj_pick (t := any) (has_tmp rfl) (fun he => absurd (e12.symm.trans he) (by decide)) (fun _ => has_bl)) (Option.some.inj e13))) <| .read (.plain rfl (pj_move (has_tmp rfl))) <| .read (.no ⟨9, true, _, 59, _, rfl, rfl, rfl, fun _ _ => bl_p.1, gd_no e16⟩) <| .read (.no ⟨9, true, _, 59, _, rfl, rfl, rfl, fun _ _ => bl_p.1, gd_no e16⟩) <| .read (.no ⟨9, true, _, 59, _, rfl, rfl, rfl, fun _ _ => bl_p.1, gd_no e16⟩) <| .read (.plain rfl (PJ.eqv (R := bl) (pj_pick (t := any) (has_tmp rfl) (fun he => absurd (e16.symm.trans he) (by decide)) (fun _ => has_bl)) (Option.some.inj e17))) <| .read (.plain rfl (pj_move (has_tmp rfl))) <| .read (.no ⟨14, true, _, 64, _, rfl, rfl, rfl, fun _ _ => bl_p.1, gd_no e18⟩) <| .read (.no ⟨14, true, _, 64, _, rfl, rfl, rfl, fun _ _ => bl_p.1, gd_no e18⟩) <| .read (.no ⟨14, true, _, 64, _, rfl, rfl, rfl, fun _ _ => bl_p.1, gd_no e18⟩) <| .read (.plain rfl (PJ.eqv (R := bl) (pj_pick (t := any) (has_tmp rfl) (fun he => absurd (e18.symm.trans he) (by decide)) (fun _ => has_bl)) (Option.some.inj e19))) <| .read (.plain rfl (pj_move (has_tmp rfl))) <| .read (.yes ⟨19, true, _, 69, _, rfl, rfl, rfl, fun _ _ => bl_p.1, gd_yes e20⟩ (pj_load_to (has_tmp rfl) (by kernel_rfl))) <| .read (.yes ⟨19, true, _, 69, _, rfl, rfl, rfl, fun _ _ => bl_p.1, gd_yes e20⟩ (pj_call (hasL_cons (has_tmp rfl) <| hasL_nil) (by kernel_rfl) (c_frontier_Formed hg2 hg3 e22))) <| .read (.yes ⟨19, true, _, 69, _, rfl, rfl, rfl, fun _ _ => bl_p.1, gd_yes e20⟩ (pj_load_to (has_tmp rfl) (by kernel_rfl))) <| .read (.yes ⟨19, true, _, 69, _, rfl, rfl, rfl, fun _ _ => bl_p.1, gd_yes e20⟩ (pj_call (hasL_cons (has_tmp rfl) <| hasL_nil) (by kernel_rfl) (c_rolodexref15_Formed e23))) <| .read (.yes ⟨19, true, _, 69, _, rfl, rfl, rfl, fun _ _ => bl_p.1, gd_yes e20⟩ (pj_beql (by kernel_rfl) (has_tmp rfl) (has_tmp rfl))) <| .read (.plain rfl (PJ.eqv (R := bl) (pj_pick (t := any) (has_tmp rfl) (fun _ => (has_tmp rfl)) (fun he => absurd (e20.symm.trans he) (by decide))) (Option.some.inj e21))) <| .nil) (j_to (Γ' := [(75, bl.slot y6)]) (H' := []) (.cons (.of_lk rfl) <| .nil) (.nil) J)
                · replace e21 := bf e20 e21
                  exact run_draw (n := 26) (by kernel_rfl) (by kernel_rfl) (by kernel_rfl) (by kernel_rfl) (.read (.plain rfl (pj_move (has_tmp rfl))) <| .read (.plain rfl (pj_move (has_tmp rfl))) <| .read (.plain rfl (pj_ieql (has_tmp rfl) (has_tmp rfl))) <| .read (.plain rfl (pj_move (has_tmp rfl))) <| .read (.no ⟨3, true, _, 53, _, rfl, rfl, rfl, fun _ _ => bl_p.1, gd_no e12⟩) <| .read (.no ⟨3, true, _, 53, _, rfl, rfl, rfl, fun _ _ => bl_p.1, gd_no e12⟩) <| .read (.no ⟨3, true, _, 53, _, rfl, rfl, rfl, fun _ _ => bl_p.1, gd_no e12⟩) <| .read (.no ⟨3, true, _, 53, _, rfl, rfl, rfl, fun _ _ => bl_p.1, gd_no e12⟩) <| .read (.plain rfl (PJ.eqv (R := bl) (pj_pick (t := any) (has_tmp rfl) (fun he => absurd (e12.symm.trans he) (by decide)) (fun _ => has_bl)) (Option.some.inj e13))) <| .read (.plain rfl (pj_move (has_tmp rfl))) <| .read (.no ⟨9, true, _, 59, _, rfl, rfl, rfl, fun _ _ => bl_p.1, gd_no e16⟩) <| .read (.no ⟨9, true, _, 59, _, rfl, rfl, rfl, fun _ _ => bl_p.1, gd_no e16⟩) <| .read (.no ⟨9, true, _, 59, _, rfl, rfl, rfl, fun _ _ => bl_p.1, gd_no e16⟩) <| .read (.plain rfl (PJ.eqv (R := bl) (pj_pick (t := any) (has_tmp rfl) (fun he => absurd (e16.symm.trans he) (by decide)) (fun _ => has_bl)) (Option.some.inj e17))) <| .read (.plain rfl (pj_move (has_tmp rfl))) <| .read (.no ⟨14, true, _, 64, _, rfl, rfl, rfl, fun _ _ => bl_p.1, gd_no e18⟩) <| .read (.no ⟨14, true, _, 64, _, rfl, rfl, rfl, fun _ _ => bl_p.1, gd_no e18⟩) <| .read (.no ⟨14, true, _, 64, _, rfl, rfl, rfl, fun _ _ => bl_p.1, gd_no e18⟩) <| .read (.plain rfl (PJ.eqv (R := bl) (pj_pick (t := any) (has_tmp rfl) (fun he => absurd (e18.symm.trans he) (by decide)) (fun _ => has_bl)) (Option.some.inj e19))) <| .read (.plain rfl (pj_move (has_tmp rfl))) <| .read (.no ⟨19, true, _, 69, _, rfl, rfl, rfl, fun _ _ => bl_p.1, gd_no e20⟩) <| .read (.no ⟨19, true, _, 69, _, rfl, rfl, rfl, fun _ _ => bl_p.1, gd_no e20⟩) <| .read (.no ⟨19, true, _, 69, _, rfl, rfl, rfl, fun _ _ => bl_p.1, gd_no e20⟩) <| .read (.no ⟨19, true, _, 69, _, rfl, rfl, rfl, fun _ _ => bl_p.1, gd_no e20⟩) <| .read (.no ⟨19, true, _, 69, _, rfl, rfl, rfl, fun _ _ => bl_p.1, gd_no e20⟩) <| .read (.plain rfl (PJ.eqv (R := bl) (pj_pick (t := any) (has_tmp rfl) (fun he => absurd (e20.symm.trans he) (by decide)) (fun _ => has_bl)) (Option.some.inj e21))) <| .nil) (j_to (Γ' := [(75, bl.slot y6)]) (H' := []) (.cons (.of_lk rfl) <| .nil) (.nil) J)
    · rcases bool_tf (y1) with e4 | e4
      · replace e5 := bt e4 e5
        refine j_guard_no2 (j := 8) (want := false) rfl rfl rfl rfl (bl_isx e4) rfl rfl rfl ?_
        refine j_guard_no2 (j := 8) (want := false) rfl rfl rfl rfl (bl_isx e4) rfl rfl rfl ?_
        refine j_guard_no2 (j := 8) (want := false) rfl rfl rfl rfl (bl_isx e4) rfl rfl rfl ?_
        refine j_guard_no2 (j := 8) (want := false) rfl rfl rfl rfl (bl_isx e4) rfl rfl rfl ?_
        refine j_pure (PJ.eqv (R := bl) (pj_pick (t := any) (has_tmp rfl) (fun _ => has_bl) (fun he => absurd (e4.symm.trans he) (by decide))) (Option.some.inj e5)) rfl rfl rfl ?_
        exact j_to (.cons (.of_lk rfl) <| .cons (.of_lk rfl) <| .cons (.of_lk rfl) <| .nil) (.nil) (J ())
      · replace e5 := bf e4 e5
        refine j_pure_y (pj_field_to (has_tmp rfl) (Path.then (Path.snd i64 (prod i64 (sl R_api_Hash))) (Path.snd i64 (sl R_api_Hash))) (by kernel_rfl)) rfl rfl rfl rfl (bl_isx e4) rfl rfl ?_
        refine j_pure_y (pj_load_to (has_tmp rfl) (by kernel_rfl)) rfl rfl rfl rfl (bl_isx e4) rfl rfl ?_
        refine j_pure_y (pj_len_sl (sz := 32) (has_tmp rfl) (by kernel_rfl)) rfl rfl rfl rfl (bl_isx e4) rfl rfl ?_
        refine j_pure_y (pj_igtr (has_tmp rfl) has_i64) rfl rfl rfl rfl (bl_isx e4) rfl rfl ?_
        refine j_pure (PJ.eqv (R := bl) (pj_pick (t := any) (has_tmp rfl) (fun he => absurd (e4.symm.trans he) (by decide)) (fun _ => (has_tmp rfl))) (Option.some.inj e5)) rfl rfl rfl ?_
        exact j_to (.cons (.of_lk rfl) <| .cons (.of_lk rfl) <| .cons (.of_lk rfl) <| .nil) (.nil) (J ())
  · rcases bool_tf (!r1) with e2 | e2
    · replace e3 := bt e2 e3
      refine j_guard_no2 (j := 2) (want := false) rfl rfl rfl rfl (bl_isx e2) rfl rfl rfl ?_
      refine j_guard_no2 (j := 2) (want := false) rfl rfl rfl rfl (bl_isx e2) rfl rfl rfl ?_
      refine j_guard_no2 (j := 2) (want := false) rfl rfl rfl rfl (bl_isx e2) rfl rfl rfl ?_
      refine j_guard_no2 (j := 2) (want := false) rfl rfl rfl rfl (bl_isx e2) rfl rfl rfl ?_
      refine j_pure (PJ.eqv (R := bl) (pj_pick (t := any) (has_tmp rfl) (fun _ => has_bl) (fun he => absurd (e2.symm.trans he) (by decide))) (Option.some.inj e3)) rfl rfl rfl ?_
      exact j_to (.cons (.of_lk rfl) <| .cons (.of_lk rfl) <| .cons (.of_lk rfl) <| .nil) (.nil) (J ())
    · replace e3 := bf e2 e3
      refine j_pure_y (pj_field_to (has_tmp rfl) (Path.then (Path.snd i64 (prod i64 (sl R_api_Hash))) (Path.snd i64 (sl R_api_Hash))) (by kernel_rfl)) rfl rfl rfl rfl (bl_isx e2) rfl rfl ?_
      refine j_pure_y (pj_load_to (has_tmp rfl) (by kernel_rfl)) rfl rfl rfl rfl (bl_isx e2) rfl rfl ?_
      refine j_pure_y (pj_len_sl (sz := 32) (has_tmp rfl) (by kernel_rfl)) rfl rfl rfl rfl (bl_isx e2) rfl rfl ?_
      refine j_pure_y (pj_igtr (has_tmp rfl) has_i64) rfl rfl rfl rfl (bl_isx e2) rfl rfl ?_
      refine j_pure (PJ.eqv (R := bl) (pj_pick (t := any) (has_tmp rfl) (fun he => absurd (e2.symm.trans he) (by decide)) (fun _ => (has_tmp rfl))) (Option.some.inj e3)) rfl rfl rfl ?_
      exact j_to (.cons (.of_lk rfl) <| .cons (.of_lk rfl) <| .cons (.of_lk rfl) <| .nil) (.nil) (J ())
end Go.Sl.W
