import Derived.Test.YtcikfilncagbgaaDoorWA
import Derived.Test.YtcikfilncagbgaaDoorOp14
import Derived.Test.YtcikfilncagbgaaDoorProg
set_option linter.unusedSimpArgs false
set_option linter.unusedVariables false
set_option linter.unusedSectionVars false
namespace Go.Sl.W
open Go.Proofs Go.Sl Go.Sl.M
set_option maxRecDepth 100000 in
set_option maxHeartbeats 4000000 in
theorem c_rolodexref02_take {G : GP} {p_h : Vector (BitVec 32) 8} {p_block : List (BitVec 8)} {r : (Vector (BitVec 32) 8)} (h : rolodexref02_take p_h p_block = some r) : Ctr Tryd.prog G 71 [(vec 8 u32).slot p_h, (sl u8).slot p_block] [] (fun (_ : Unit) => (vec 8 u32).slot r) (fun (_ : Unit) => []) := by
  unfold rolodexref02_take at h
  refine ctr_of_run Tryd.func71 rfl 121 rfl rfl fun m0 w0 b0 => ?_
  show Run _ _ _ [(0, (vec 8 u32).slot p_h), (1, (sl u8).slot p_block)] _
  refine run_seq ?_
  refine run_text ?_
  refine j_box (has_tmp rfl) rfl fun b1 => ?_
  refine j_alloc (x := (Vector.replicate 8 (0#32))) (R := (vec 8 u32)) (zero_vec 8 zero_un) (by kernel_rfl) rfl fun b2 => ?_
  refine j_end ?_
  refine run_seq ?_
  refine run_text ?_
  refine j_pure (pj_move (has_tmp rfl)) rfl rfl rfl ?_
  obtain ⟨r1, e1, h⟩ := bind_some h
  refine j_pure (pj_call (hasL_cons (has_tmp rfl) <| hasL_nil) (by kernel_rfl) (c_rolodexref02_words e1)) rfl rfl rfl ?_
  refine j_alloc (x := (Vector.replicate 64 (0#32))) (R := (vec 64 u32)) (zero_vec 64 zero_un) (by kernel_rfl) rfl fun b3 => ?_
  refine j_store_boxx (r' := r1) (has_tmp rfl) (has_tmp rfl) .here (Path.all (vec 64 u32)) (by kernel_rfl) rfl ?_
  refine j_freezeTo (t := 5) .here (.of_lk rfl) ?_
  refine j_end ?_
  refine run_seq ?_
  refine run_text ?_
  obtain ⟨r2, e2, h⟩ := bind_some h
  refine j_pure (pj_call (hasL_nil) (by kernel_rfl) (c_rolodexref02_K e2)) rfl rfl rfl ?_
  refine j_alloc (x := (Vector.replicate 64 (0#32))) (R := (vec 64 u32)) (zero_vec 64 zero_un) (by kernel_rfl) rfl fun b4 => ?_
  refine j_store_boxx (r' := r2) (has_tmp rfl) (has_tmp rfl) .here (Path.all (vec 64 u32)) (by kernel_rfl) rfl ?_
  refine j_freezeTo (t := 6) .here (.of_lk rfl) ?_
  refine j_end ?_
  refine run_seq ?_
  refine run_text ?_
  refine j_pure (pj_load_box (has_tmp rfl) (.next .here) (Path.all (vec 8 u32)) (by kernel_rfl)) rfl rfl rfl ?_
  refine j_alloc (x := (Vector.replicate 8 (0#32))) (R := (vec 8 u32)) (zero_vec 8 zero_un) (by kernel_rfl) rfl fun b5 => ?_
  refine j_store_boxx (r' := p_h) (has_tmp rfl) (has_tmp rfl) .here (Path.all (vec 8 u32)) (by kernel_rfl) rfl ?_
  refine j_end ?_
  refine run_seq ?_
  refine run_seq ?_
  refine run_text ?_
  refine j_pure (pj_assign has_i64) rfl rfl rfl ?_
  refine j_end ?_
  obtain ⟨⟨y3, y4⟩, e16, h⟩ := bind_some h
  refine run_loopS (Γi := fun (i : Unit) (s : Int × (Vector (BitVec 32) 8)) => [(2, val (.pointer (some ⟨b1, 0, none⟩))), (4, val (.pointer (some ⟨b2, 0, none⟩))), (5, ptrTo (vec 64 u32) r1), (6, ptrTo (vec 64 u32) r2), (7, val (.pointer (some ⟨b5, 0, none⟩))), (8, i64.slot s.1)]) (Hi := fun (i : Unit) (s : Int × (Vector (BitVec 32) 8)) => [box b5 100 (vec 8 u32) s.2, box b2 100 (vec 8 u32) (Vector.replicate 8 (0#32)), box b1 100 (vec 8 u32) p_h]) e16 () (fun a w hst => (hst.sub (.cons (.of_lk rfl) <| .cons (.of_lk rfl) <| .cons (.of_lk rfl) <| .cons (.of_lk rfl) <| .cons (.of_lk rfl) <| .cons (.of_lk rfl) <| .nil)).keep (.cons .here <| .cons .here <| .cons .here <| .nil)) ?_ ?_
  · clear h e16
    rintro _ ⟨y1, y2⟩ lr h
    change rolodexref02_take_L1 r2 r1 y1 y2 = some _ at h
    show Run _ _ _ [(2, val (.pointer (some ⟨b1, 0, none⟩))), (4, val (.pointer (some ⟨b2, 0, none⟩))), (5, ptrTo (vec 64 u32) r1), (6, ptrTo (vec 64 u32) r2), (7, val (.pointer (some ⟨b5, 0, none⟩))), (8, i64.slot y1)] [box b5 100 (vec 8 u32) y2, box b2 100 (vec 8 u32) (Vector.replicate 8 (0#32)), box b1 100 (vec 8 u32) p_h]
    unfold rolodexref02_take_L1 at h
    refine run_seq ?_
    refine run_seq ?_
    refine run_text ?_
    refine j_pure (pj_move (has_tmp rfl)) rfl rfl rfl ?_
    refine j_pure (pj_ilss (has_tmp rfl) has_i64) rfl rfl rfl ?_
    refine j_end ?_
    refine run_cond (has_tmp rfl) (fun e3 => ?_) (fun e3 => ?_)
    · replace h := bt e3 h
      refine run_skip ?_
      refine run_seq ?_
      refine run_block ?_
      refine run_seq ?_
      refine run_text ?_
      refine j_pure (pj_index_arr (n := 8) (sz := 1) (has_tmp rfl) has_i64 isInt_i64 (by decide) (by decide) (by kernel_rfl)) rfl rfl rfl ?_
      refine j_pure (pj_load_box (has_tmp rfl) .here (Path.then (Path.all (vec 8 u32)) (Path.at 8 u32 4 (by decide))) (by kernel_rfl)) rfl rfl rfl ?_
      refine j_pure (pj_index_arr (n := 8) (sz := 1) (has_tmp rfl) has_i64 isInt_i64 (by decide) (by decide) (by kernel_rfl)) rfl rfl rfl ?_
      refine j_pure (pj_load_box (has_tmp rfl) .here (Path.then (Path.all (vec 8 u32)) (Path.at 8 u32 5 (by decide))) (by kernel_rfl)) rfl rfl rfl ?_
      refine j_pure (pj_uand (k := .u32) (b := 32) rfl rfl (has_tmp rfl) (has_tmp rfl)) rfl rfl rfl ?_
      refine j_pure (pj_index_arr (n := 8) (sz := 1) (has_tmp rfl) has_i64 isInt_i64 (by decide) (by decide) (by kernel_rfl)) rfl rfl rfl ?_
      refine j_pure (pj_load_box (has_tmp rfl) .here (Path.then (Path.all (vec 8 u32)) (Path.at 8 u32 4 (by decide))) (by kernel_rfl)) rfl rfl rfl ?_
      refine j_pure (pj_usub (k := .u32) (b := 32) rfl rfl (has_un (x := 4294967295#32) rfl) (has_tmp rfl)) rfl rfl rfl ?_
      refine j_pure (pj_index_arr (n := 8) (sz := 1) (has_tmp rfl) has_i64 isInt_i64 (by decide) (by decide) (by kernel_rfl)) rfl rfl rfl ?_
      refine j_pure (pj_load_box (has_tmp rfl) .here (Path.then (Path.all (vec 8 u32)) (Path.at 8 u32 6 (by decide))) (by kernel_rfl)) rfl rfl rfl ?_
      refine j_pure (pj_uand (k := .u32) (b := 32) rfl rfl (has_tmp rfl) (has_tmp rfl)) rfl rfl rfl ?_
      refine j_pure (pj_uor (k := .u32) (b := 32) rfl rfl (has_tmp rfl) (has_tmp rfl)) rfl rfl rfl ?_
      obtain ⟨x1, e4, h⟩ := bind_some h
      refine j_pure (PJ.eqv (pj_assign (has_tmp rfl)) (Option.some.inj e4)) rfl rfl rfl ?_
      refine j_end ?_
      refine run_seq ?_
      refine run_text ?_
      refine j_pure (pj_index_arr (n := 8) (sz := 1) (has_tmp rfl) has_i64 isInt_i64 (by decide) (by decide) (by kernel_rfl)) rfl rfl rfl ?_
      refine j_pure (pj_load_box (has_tmp rfl) .here (Path.then (Path.all (vec 8 u32)) (Path.at 8 u32 0 (by decide))) (by kernel_rfl)) rfl rfl rfl ?_
      refine j_pure (pj_index_arr (n := 8) (sz := 1) (has_tmp rfl) has_i64 isInt_i64 (by decide) (by decide) (by kernel_rfl)) rfl rfl rfl ?_
      refine j_pure (pj_load_box (has_tmp rfl) .here (Path.then (Path.all (vec 8 u32)) (Path.at 8 u32 1 (by decide))) (by kernel_rfl)) rfl rfl rfl ?_
      refine j_pure (pj_uand (k := .u32) (b := 32) rfl rfl (has_tmp rfl) (has_tmp rfl)) rfl rfl rfl ?_
      refine j_pure (pj_index_arr (n := 8) (sz := 1) (has_tmp rfl) has_i64 isInt_i64 (by decide) (by decide) (by kernel_rfl)) rfl rfl rfl ?_
      refine j_pure (pj_load_box (has_tmp rfl) .here (Path.then (Path.all (vec 8 u32)) (Path.at 8 u32 0 (by decide))) (by kernel_rfl)) rfl rfl rfl ?_
      refine j_pure (pj_index_arr (n := 8) (sz := 1) (has_tmp rfl) has_i64 isInt_i64 (by decide) (by decide) (by kernel_rfl)) rfl rfl rfl ?_
      refine j_pure (pj_load_box (has_tmp rfl) .here (Path.then (Path.all (vec 8 u32)) (Path.at 8 u32 2 (by decide))) (by kernel_rfl)) rfl rfl rfl ?_
      refine j_pure (pj_uand (k := .u32) (b := 32) rfl rfl (has_tmp rfl) (has_tmp rfl)) rfl rfl rfl ?_
      refine j_pure (pj_uor (k := .u32) (b := 32) rfl rfl (has_tmp rfl) (has_tmp rfl)) rfl rfl rfl ?_
      refine j_pure (pj_index_arr (n := 8) (sz := 1) (has_tmp rfl) has_i64 isInt_i64 (by decide) (by decide) (by kernel_rfl)) rfl rfl rfl ?_
      refine j_pure (pj_load_box (has_tmp rfl) .here (Path.then (Path.all (vec 8 u32)) (Path.at 8 u32 1 (by decide))) (by kernel_rfl)) rfl rfl rfl ?_
      refine j_pure (pj_index_arr (n := 8) (sz := 1) (has_tmp rfl) has_i64 isInt_i64 (by decide) (by decide) (by kernel_rfl)) rfl rfl rfl ?_
      refine j_pure (pj_load_box (has_tmp rfl) .here (Path.then (Path.all (vec 8 u32)) (Path.at 8 u32 2 (by decide))) (by kernel_rfl)) rfl rfl rfl ?_
      refine j_pure (pj_uand (k := .u32) (b := 32) rfl rfl (has_tmp rfl) (has_tmp rfl)) rfl rfl rfl ?_
      refine j_pure (pj_uor (k := .u32) (b := 32) rfl rfl (has_tmp rfl) (has_tmp rfl)) rfl rfl rfl ?_
      obtain ⟨x2, e5, h⟩ := bind_some h
      refine j_pure (PJ.eqv (pj_assign (has_tmp rfl)) (Option.some.inj e5)) rfl rfl rfl ?_
      refine j_end ?_
      refine run_seq ?_
      obtain ⟨r3, e6, h⟩ := bind_some h
      obtain ⟨r4, e7, h⟩ := bind_some h
      obtain ⟨r5, e8, h⟩ := bind_some h
      obtain ⟨x3, e9, h⟩ := bind_some h
      obtain ⟨x4, e10, h⟩ := bind_some h
      refine run_draw (n := 23) (by kernel_rfl) (by kernel_rfl) (by kernel_rfl) (by kernel_rfl) (.read (.plain rfl (pj_index_arr (n := 8) (sz := 1) (has_tmp rfl) has_i64 isInt_i64 (by decide) (by decide) (by kernel_rfl))) <| .read (.plain rfl (pj_load_box (has_tmp rfl) .here (Path.then (Path.all (vec 8 u32)) (Path.at 8 u32 7 (by decide))) (by kernel_rfl))) <| .read (.plain rfl (pj_index_arr (n := 8) (sz := 1) (has_tmp rfl) has_i64 isInt_i64 (by decide) (by decide) (by kernel_rfl))) <| .read (.plain rfl (pj_load_box (has_tmp rfl) .here (Path.then (Path.all (vec 8 u32)) (Path.at 8 u32 4 (by decide))) (by kernel_rfl))) <| .read (.plain rfl (pj_call (hasL_cons (has_tmp rfl) <| hasL_cons (has_un (x := 6#32) rfl) <| hasL_nil) (by kernel_rfl) (c_rolodexref02_turned e6))) <| .read (.plain rfl (pj_index_arr (n := 8) (sz := 1) (has_tmp rfl) has_i64 isInt_i64 (by decide) (by decide) (by kernel_rfl))) <| .read (.plain rfl (pj_load_box (has_tmp rfl) .here (Path.then (Path.all (vec 8 u32)) (Path.at 8 u32 4 (by decide))) (by kernel_rfl))) <| .read (.plain rfl (pj_call (hasL_cons (has_tmp rfl) <| hasL_cons (has_un (x := 11#32) rfl) <| hasL_nil) (by kernel_rfl) (c_rolodexref02_turned e7))) <| .read (.plain rfl (pj_uxor (k := .u32) (b := 32) rfl rfl (has_tmp rfl) (has_tmp rfl))) <| .read (.plain rfl (pj_index_arr (n := 8) (sz := 1) (has_tmp rfl) has_i64 isInt_i64 (by decide) (by decide) (by kernel_rfl))) <| .read (.plain rfl (pj_load_box (has_tmp rfl) .here (Path.then (Path.all (vec 8 u32)) (Path.at 8 u32 4 (by decide))) (by kernel_rfl))) <| .read (.plain rfl (pj_call (hasL_cons (has_tmp rfl) <| hasL_cons (has_un (x := 25#32) rfl) <| hasL_nil) (by kernel_rfl) (c_rolodexref02_turned e8))) <| .read (.plain rfl (pj_uxor (k := .u32) (b := 32) rfl rfl (has_tmp rfl) (has_tmp rfl))) <| .read (.plain rfl (pj_uadd (k := .u32) (b := 32) rfl rfl (has_tmp rfl) (has_tmp rfl))) <| .read (.plain rfl (pj_move (has_tmp rfl))) <| .read (.plain rfl (pj_uadd (k := .u32) (b := 32) rfl rfl (has_tmp rfl) (has_tmp rfl))) <| .read (.plain rfl (pj_move (has_tmp rfl))) <| .read (.plain rfl (pj_index_tox (has_tmp rfl) (has_tmp rfl) isInt_i64 e9 (by kernel_rfl))) <| .read (.plain rfl (pj_load_to (has_tmp rfl) (by kernel_rfl))) <| .read (.plain rfl (pj_uadd (k := .u32) (b := 32) rfl rfl (has_tmp rfl) (has_tmp rfl))) <| .read (.plain rfl (pj_move (has_tmp rfl))) <| .read (.plain rfl (pj_index_tox (has_tmp rfl) (has_tmp rfl) isInt_i64 e10 (by kernel_rfl))) <| .read (.plain rfl (pj_load_to (has_tmp rfl) (by kernel_rfl))) <| .nil) (j_to (Γ' := [(2, val (.pointer (some ⟨b1, 0, none⟩))), (4, val (.pointer (some ⟨b2, 0, none⟩))), (5, ptrTo (vec 64 u32) r1), (6, ptrTo (vec 64 u32) r2), (7, val (.pointer (some ⟨b5, 0, none⟩))), (8, i64.slot y1), (10, u32.slot x2), (70, u32.slot ((((y2[7]) + ((r3 ^^^ r4) ^^^ r5)) + x1) + x3)), (73, u32.slot x4)]) (H' := [box b5 100 (vec 8 u32) y2, box b2 100 (vec 8 u32) (Vector.replicate 8 (0#32)), box b1 100 (vec 8 u32) p_h]) (.cons (.of_lk rfl) <| .cons (.of_lk rfl) <| .cons (.of_lk rfl) <| .cons (.of_lk rfl) <| .cons (.of_lk rfl) <| .cons (.of_lk rfl) <| .cons (.of_lk rfl) <| .cons (.of_lk rfl) <| .cons (.of_lk rfl) <| .nil) (.cons .here <| .cons .here <| .cons .here <| .nil) ?_)
      refine j_pure (pj_uadd (k := .u32) (b := 32) rfl rfl (has_tmp rfl) (has_tmp rfl)) rfl rfl rfl ?_
      obtain ⟨x5, e11, h⟩ := bind_some h
      refine j_pure (PJ.eqv (pj_assign (has_tmp rfl)) (Option.some.inj e11)) rfl rfl rfl ?_
      refine j_end ?_
      refine run_seq ?_
      obtain ⟨r6, e12, h⟩ := bind_some h
      obtain ⟨r7, e13, h⟩ := bind_some h
      obtain ⟨r8, e14, h⟩ := bind_some h
      refine run_draw (n := 12) (by kernel_rfl) (by kernel_rfl) (by kernel_rfl) (by kernel_rfl) (.read (.plain rfl (pj_index_arr (n := 8) (sz := 1) (has_tmp rfl) has_i64 isInt_i64 (by decide) (by decide) (by kernel_rfl))) <| .read (.plain rfl (pj_load_box (has_tmp rfl) .here (Path.then (Path.all (vec 8 u32)) (Path.at 8 u32 0 (by decide))) (by kernel_rfl))) <| .read (.plain rfl (pj_call (hasL_cons (has_tmp rfl) <| hasL_cons (has_un (x := 2#32) rfl) <| hasL_nil) (by kernel_rfl) (c_rolodexref02_turned e12))) <| .read (.plain rfl (pj_index_arr (n := 8) (sz := 1) (has_tmp rfl) has_i64 isInt_i64 (by decide) (by decide) (by kernel_rfl))) <| .read (.plain rfl (pj_load_box (has_tmp rfl) .here (Path.then (Path.all (vec 8 u32)) (Path.at 8 u32 0 (by decide))) (by kernel_rfl))) <| .read (.plain rfl (pj_call (hasL_cons (has_tmp rfl) <| hasL_cons (has_un (x := 13#32) rfl) <| hasL_nil) (by kernel_rfl) (c_rolodexref02_turned e13))) <| .read (.plain rfl (pj_uxor (k := .u32) (b := 32) rfl rfl (has_tmp rfl) (has_tmp rfl))) <| .read (.plain rfl (pj_index_arr (n := 8) (sz := 1) (has_tmp rfl) has_i64 isInt_i64 (by decide) (by decide) (by kernel_rfl))) <| .read (.plain rfl (pj_load_box (has_tmp rfl) .here (Path.then (Path.all (vec 8 u32)) (Path.at 8 u32 0 (by decide))) (by kernel_rfl))) <| .read (.plain rfl (pj_call (hasL_cons (has_tmp rfl) <| hasL_cons (has_un (x := 22#32) rfl) <| hasL_nil) (by kernel_rfl) (c_rolodexref02_turned e14))) <| .read (.plain rfl (pj_uxor (k := .u32) (b := 32) rfl rfl (has_tmp rfl) (has_tmp rfl))) <| .read (.plain rfl (pj_move (has_tmp rfl))) <| .nil) (j_to (Γ' := [(2, val (.pointer (some ⟨b1, 0, none⟩))), (4, val (.pointer (some ⟨b2, 0, none⟩))), (5, ptrTo (vec 64 u32) r1), (6, ptrTo (vec 64 u32) r2), (7, val (.pointer (some ⟨b5, 0, none⟩))), (8, i64.slot y1), (11, u32.slot x5), (85, u32.slot ((r6 ^^^ r7) ^^^ r8)), (86, u32.slot x2)]) (H' := [box b5 100 (vec 8 u32) y2, box b2 100 (vec 8 u32) (Vector.replicate 8 (0#32)), box b1 100 (vec 8 u32) p_h]) (.cons (.of_lk rfl) <| .cons (.of_lk rfl) <| .cons (.of_lk rfl) <| .cons (.of_lk rfl) <| .cons (.of_lk rfl) <| .cons (.of_lk rfl) <| .cons (.of_lk rfl) <| .cons (.of_lk rfl) <| .cons (.of_lk rfl) <| .nil) (.cons .here <| .cons .here <| .cons .here <| .nil) ?_)
      refine j_pure (pj_uadd (k := .u32) (b := 32) rfl rfl (has_tmp rfl) (has_tmp rfl)) rfl rfl rfl ?_
      refine j_pure (pj_assign (has_tmp rfl)) rfl rfl rfl ?_
      refine j_end ?_
      refine run_text ?_
      refine j_pure (pj_move (has_tmp rfl)) rfl rfl rfl ?_
      refine j_pure (pj_move (has_tmp rfl)) rfl rfl rfl ?_
      refine j_pure (pj_uadd (k := .u32) (b := 32) rfl rfl (has_tmp rfl) (has_tmp rfl)) rfl rfl rfl ?_
      refine j_pure (pj_index_arr (n := 8) (sz := 1) (has_tmp rfl) has_i64 isInt_i64 (by decide) (by decide) (by kernel_rfl)) rfl rfl rfl ?_
      refine j_pure (pj_load_box (has_tmp rfl) .here (Path.then (Path.all (vec 8 u32)) (Path.at 8 u32 0 (by decide))) (by kernel_rfl)) rfl rfl rfl ?_
      refine j_pure (pj_index_arr (n := 8) (sz := 1) (has_tmp rfl) has_i64 isInt_i64 (by decide) (by decide) (by kernel_rfl)) rfl rfl rfl ?_
      refine j_pure (pj_load_box (has_tmp rfl) .here (Path.then (Path.all (vec 8 u32)) (Path.at 8 u32 1 (by decide))) (by kernel_rfl)) rfl rfl rfl ?_
      refine j_pure (pj_index_arr (n := 8) (sz := 1) (has_tmp rfl) has_i64 isInt_i64 (by decide) (by decide) (by kernel_rfl)) rfl rfl rfl ?_
      refine j_pure (pj_load_box (has_tmp rfl) .here (Path.then (Path.all (vec 8 u32)) (Path.at 8 u32 2 (by decide))) (by kernel_rfl)) rfl rfl rfl ?_
      refine j_pure (pj_index_arr (n := 8) (sz := 1) (has_tmp rfl) has_i64 isInt_i64 (by decide) (by decide) (by kernel_rfl)) rfl rfl rfl ?_
      refine j_pure (pj_load_box (has_tmp rfl) .here (Path.then (Path.all (vec 8 u32)) (Path.at 8 u32 3 (by decide))) (by kernel_rfl)) rfl rfl rfl ?_
      refine j_pure (pj_move (has_tmp rfl)) rfl rfl rfl ?_
      refine j_pure (pj_uadd (k := .u32) (b := 32) rfl rfl (has_tmp rfl) (has_tmp rfl)) rfl rfl rfl ?_
      refine j_pure (pj_index_arr (n := 8) (sz := 1) (has_tmp rfl) has_i64 isInt_i64 (by decide) (by decide) (by kernel_rfl)) rfl rfl rfl ?_
      refine j_pure (pj_load_box (has_tmp rfl) .here (Path.then (Path.all (vec 8 u32)) (Path.at 8 u32 4 (by decide))) (by kernel_rfl)) rfl rfl rfl ?_
      refine j_pure (pj_index_arr (n := 8) (sz := 1) (has_tmp rfl) has_i64 isInt_i64 (by decide) (by decide) (by kernel_rfl)) rfl rfl rfl ?_
      refine j_pure (pj_load_box (has_tmp rfl) .here (Path.then (Path.all (vec 8 u32)) (Path.at 8 u32 5 (by decide))) (by kernel_rfl)) rfl rfl rfl ?_
      refine j_pure (pj_index_arr (n := 8) (sz := 1) (has_tmp rfl) has_i64 isInt_i64 (by decide) (by decide) (by kernel_rfl)) rfl rfl rfl ?_
      refine j_pure (pj_load_box (has_tmp rfl) .here (Path.then (Path.all (vec 8 u32)) (Path.at 8 u32 6 (by decide))) (by kernel_rfl)) rfl rfl rfl ?_
      obtain ⟨x6, e15, h⟩ := bind_some h
      refine j_pure (PJ.eqv (pj_buildArr (z0 := 0#32) (zero_vec 8 zero_un) (by kernel_rfl) (.cons (has_tmp rfl) (.cons (has_tmp rfl) (.cons (has_tmp rfl) (.cons (has_tmp rfl) (.cons (has_tmp rfl) (.cons (has_tmp rfl) (.cons (has_tmp rfl) (.cons (has_tmp rfl) .nil)))))))) (by kernel_rfl) rfl) (Option.some.inj e15)) rfl rfl rfl ?_
      refine j_store_boxx (r' := x6) (has_tmp rfl) (has_tmp rfl) .here (Path.all (vec 8 u32)) (by kernel_rfl) rfl ?_
      refine j_end ?_
      refine run_endblock ?_
      refine run_text ?_
      refine j_pure (pj_move (has_tmp rfl)) rfl rfl rfl ?_
      refine j_pure (pj_iadd (has_tmp rfl) has_i64) rfl rfl rfl ?_
      refine j_pure (pj_assign (has_tmp rfl)) rfl rfl rfl ?_
      refine j_end ?_
      obtain rfl := Option.some.inj h
      exact run_next () (.cons (.of_lk rfl) <| .cons (.of_lk rfl) <| .cons (.of_lk rfl) <| .cons (.of_lk rfl) <| .cons (.of_lk rfl) <| .cons (.of_lk rfl) <| .nil) (.cons .here <| .cons .here <| .cons .here <| .nil)
    · replace h := bf e3 h
      obtain rfl := Option.some.inj h
      exact run_brk () (.cons (.of_lk rfl) <| .cons (.of_lk rfl) <| .cons (.of_lk rfl) <| .cons (.of_lk rfl) <| .cons (.of_lk rfl) <| .cons (.of_lk rfl) <| .nil) (.cons .here <| .cons .here <| .cons .here <| .nil)
  · rintro _
    show Run _ _ _ [(2, val (.pointer (some ⟨b1, 0, none⟩))), (4, val (.pointer (some ⟨b2, 0, none⟩))), (5, ptrTo (vec 64 u32) r1), (6, ptrTo (vec 64 u32) r2), (7, val (.pointer (some ⟨b5, 0, none⟩))), (8, i64.slot y3)] [box b5 100 (vec 8 u32) y4, box b2 100 (vec 8 u32) (Vector.replicate 8 (0#32)), box b1 100 (vec 8 u32) p_h]
    refine run_to (Γ' := [(2, val (.pointer (some ⟨b1, 0, none⟩))), (4, val (.pointer (some ⟨b2, 0, none⟩))), (7, val (.pointer (some ⟨b5, 0, none⟩)))]) (H' := [box b5 100 (vec 8 u32) y4, box b2 100 (vec 8 u32) (Vector.replicate 8 (0#32)), box b1 100 (vec 8 u32) p_h]) (.cons (.of_lk rfl) <| .cons (.of_lk rfl) <| .cons (.of_lk rfl) <| .nil) (.cons .here <| .cons .here <| .cons .here <| .nil) ?_
    refine run_seq ?_
    refine run_seq ?_
    refine run_text ?_
    refine j_pure (pj_assign has_i64) rfl rfl rfl ?_
    refine j_end ?_
    obtain ⟨⟨y7, y8⟩, e21, h⟩ := bind_some h
    refine run_loopS (Γi := fun (i : Unit) (s : Int × (Vector (BitVec 32) 8)) => [(2, val (.pointer (some ⟨b1, 0, none⟩))), (4, val (.pointer (some ⟨b2, 0, none⟩))), (7, val (.pointer (some ⟨b5, 0, none⟩))), (13, i64.slot s.1)]) (Hi := fun (i : Unit) (s : Int × (Vector (BitVec 32) 8)) => [box b5 100 (vec 8 u32) y4, box b2 100 (vec 8 u32) (Vector.replicate 8 (0#32)), box b1 100 (vec 8 u32) s.2]) e21 () (fun a w hst => (hst.sub (.cons (.of_lk rfl) <| .cons (.of_lk rfl) <| .cons (.of_lk rfl) <| .cons (.of_lk rfl) <| .nil)).keep (.cons .here <| .cons .here <| .cons .here <| .nil)) ?_ ?_
    · clear h e21
      rintro _ ⟨y5, y6⟩ lr h
      change rolodexref02_take_L2 y4 y5 y6 = some _ at h
      show Run _ _ _ [(2, val (.pointer (some ⟨b1, 0, none⟩))), (4, val (.pointer (some ⟨b2, 0, none⟩))), (7, val (.pointer (some ⟨b5, 0, none⟩))), (13, i64.slot y5)] [box b5 100 (vec 8 u32) y4, box b2 100 (vec 8 u32) (Vector.replicate 8 (0#32)), box b1 100 (vec 8 u32) y6]
      unfold rolodexref02_take_L2 at h
      refine run_seq ?_
      refine run_seq ?_
      refine run_text ?_
      refine j_pure (pj_move (has_tmp rfl)) rfl rfl rfl ?_
      refine j_pure (pj_ilss (has_tmp rfl) has_i64) rfl rfl rfl ?_
      refine j_end ?_
      refine run_cond (has_tmp rfl) (fun e17 => ?_) (fun e17 => ?_)
      · replace h := bt e17 h
        refine run_skip ?_
        refine run_seq ?_
        refine run_block ?_
        obtain ⟨x7, e18, h⟩ := bind_some h
        obtain ⟨x8, e19, h⟩ := bind_some h
        refine run_draw (n := 6) (by kernel_rfl) (by kernel_rfl) (by kernel_rfl) (by kernel_rfl) (.read (.plain rfl (pj_move (has_tmp rfl))) <| .read (.plain rfl (pj_index_arr (n := 8) (sz := 1) (has_tmp rfl) (has_tmp rfl) isInt_i64 (vget_some e18).1 (vget_lt e18) (by kernel_rfl))) <| .read (.plain rfl (PJ.eqv (pj_load_box (has_tmp rfl) (.next (.next .here)) (Path.then (Path.all (vec 8 u32)) (Path.atI 8 u32 y5.toNat (vget_some e18).2.1)) (by kernel_rfl)) (vget_eq e18 (vget_some e18).2.1))) <| .read (.plain rfl (pj_move (has_tmp rfl))) <| .read (.plain rfl (pj_index_arr (n := 8) (sz := 1) (has_tmp rfl) (has_tmp rfl) isInt_i64 (vget_some e19).1 (vget_lt e19) (by kernel_rfl))) <| .read (.plain rfl (PJ.eqv (pj_load_box (has_tmp rfl) .here (Path.then (Path.all (vec 8 u32)) (Path.atI 8 u32 y5.toNat (vget_some e19).2.1)) (by kernel_rfl)) (vget_eq e19 (vget_some e19).2.1))) <| .nil) (j_to (Γ' := [(2, val (.pointer (some ⟨b1, 0, none⟩))), (4, val (.pointer (some ⟨b2, 0, none⟩))), (7, val (.pointer (some ⟨b5, 0, none⟩))), (13, i64.slot y5), (112, i64.slot y5), (114, u32.slot x7), (117, u32.slot x8)]) (H' := [box b5 100 (vec 8 u32) y4, box b2 100 (vec 8 u32) (Vector.replicate 8 (0#32)), box b1 100 (vec 8 u32) y6]) (.cons (.of_lk rfl) <| .cons (.of_lk rfl) <| .cons (.of_lk rfl) <| .cons (.of_lk rfl) <| .cons (.of_lk rfl) <| .cons (.of_lk rfl) <| .cons (.of_lk rfl) <| .nil) (.cons .here <| .cons .here <| .cons .here <| .nil) ?_)
        refine j_pure (pj_uadd (k := .u32) (b := 32) rfl rfl (has_tmp rfl) (has_tmp rfl)) rfl rfl rfl ?_
        obtain ⟨e20, h⟩ := grd_some h
        refine j_pure (pj_index_arr (n := 8) (sz := 1) (has_tmp rfl) (has_tmp rfl) isInt_i64 e20.1 e20.2 (by kernel_rfl)) rfl rfl rfl ?_
        refine j_store_boxx (r' := (y6.setIfInBounds y5.toNat (x7 + x8))) (has_tmp rfl) (has_tmp rfl) (.next (.next .here)) (Path.then (Path.all (vec 8 u32)) (Path.atI 8 u32 y5.toNat (lt_nat e20))) (by kernel_rfl) rfl ?_
        refine j_end ?_
        refine run_endblock ?_
        refine run_text ?_
        refine j_pure (pj_move (has_tmp rfl)) rfl rfl rfl ?_
        refine j_pure (pj_iadd (has_tmp rfl) has_i64) rfl rfl rfl ?_
        refine j_pure (pj_assign (has_tmp rfl)) rfl rfl rfl ?_
        refine j_end ?_
        obtain rfl := Option.some.inj h
        exact run_next () (.cons (.of_lk rfl) <| .cons (.of_lk rfl) <| .cons (.of_lk rfl) <| .cons (.of_lk rfl) <| .nil) (.cons (.next .here) <| .cons (.next .here) <| .cons .here <| .nil)
      · replace h := bf e17 h
        obtain rfl := Option.some.inj h
        exact run_brk () (.cons (.of_lk rfl) <| .cons (.of_lk rfl) <| .cons (.of_lk rfl) <| .cons (.of_lk rfl) <| .nil) (.cons .here <| .cons .here <| .cons .here <| .nil)
    · rintro _
      show Run _ _ _ [(2, val (.pointer (some ⟨b1, 0, none⟩))), (4, val (.pointer (some ⟨b2, 0, none⟩))), (7, val (.pointer (some ⟨b5, 0, none⟩))), (13, i64.slot y7)] [box b5 100 (vec 8 u32) y4, box b2 100 (vec 8 u32) (Vector.replicate 8 (0#32)), box b1 100 (vec 8 u32) y8]
      refine run_to (Γ' := [(2, val (.pointer (some ⟨b1, 0, none⟩))), (4, val (.pointer (some ⟨b2, 0, none⟩)))]) (H' := [box b2 100 (vec 8 u32) (Vector.replicate 8 (0#32)), box b1 100 (vec 8 u32) y8]) (.cons (.of_lk rfl) <| .cons (.of_lk rfl) <| .nil) (.cons (.next .here) <| .cons (.next .here) <| .nil) ?_
      refine run_seq ?_
      refine run_text ?_
      refine j_pure (pj_load_box (has_tmp rfl) (.next .here) (Path.all (vec 8 u32)) (by kernel_rfl)) rfl rfl rfl ?_
      refine j_store_boxx (r' := y8) (has_tmp rfl) (has_tmp rfl) .here (Path.all (vec 8 u32)) (by kernel_rfl) rfl ?_
      refine j_end ?_
      obtain rfl := Option.some.inj h
      exact run_ret fun a w hst => q_ret1 hst rfl (.cell rfl .here (by kernel_rfl)) () (fun _ _ h => h) (.nil)
set_option maxRecDepth 100000 in
set_option maxHeartbeats 4000000 in
theorem c_rolodexref02_Sum {G : GP} {p_b : List (BitVec 8)} {r : T_api_Hash} (h : rolodexref02_Sum p_b = some r) : Ctr Tryd.prog G 53 [(sl u8).slot p_b] [] (fun (_ : Unit) => R_api_Hash.slot r) (fun (_ : Unit) => []) := by
  unfold rolodexref02_Sum at h
  refine ctr_of_run Tryd.func53 rfl 42 rfl rfl fun m0 w0 b0 => ?_
  show Run _ _ _ [(0, (sl u8).slot p_b)] _
  refine run_seq ?_
  refine run_text ?_
  refine j_alloc (x := (Vector.replicate 32 (0#8))) (R := R_api_Hash) (zero_vec 32 zero_un) (by kernel_rfl) rfl fun b1 => ?_
  refine j_end ?_
  refine run_seq ?_
  refine run_text ?_
  obtain ⟨r1, e1, h⟩ := bind_some h
  refine j_pure (pj_call (hasL_nil) (by kernel_rfl) (c_rolodexref02_Start e1)) rfl rfl rfl ?_
  refine j_alloc (x := (Vector.replicate 8 (0#32))) (R := (vec 8 u32)) (zero_vec 8 zero_un) (by kernel_rfl) rfl fun b2 => ?_
  refine j_store_boxx (r' := r1) (has_tmp rfl) (has_tmp rfl) .here (Path.all (vec 8 u32)) (by kernel_rfl) rfl ?_
  refine j_end ?_
  refine run_seq ?_
  refine run_text ?_
  refine j_pure (pj_move (has_tmp rfl)) rfl rfl rfl ?_
  obtain ⟨r2, e2, h⟩ := bind_some h
  refine j_pure (pj_call (hasL_cons (has_tmp rfl) <| hasL_nil) (by kernel_rfl) (Ctr.froze (c_rolodexref02_Padded e2))) rfl rfl rfl ?_
  refine j_pure (pj_assign (has_tmp rfl)) rfl rfl rfl ?_
  refine j_end ?_
  refine run_seq ?_
  refine run_seq ?_
  refine run_text ?_
  refine j_pure (pj_assign has_i64) rfl rfl rfl ?_
  refine j_end ?_
  obtain ⟨⟨y3, y4⟩, e6, h⟩ := bind_some h
  refine run_loopS (Γi := fun (i : Unit) (s : Int × (Vector (BitVec 32) 8)) => [(2, val (.pointer (some ⟨b1, 0, none⟩))), (3, val (.pointer (some ⟨b2, 0, none⟩))), (4, (sl u8).slot r2), (5, i64.slot s.1)]) (Hi := fun (i : Unit) (s : Int × (Vector (BitVec 32) 8)) => [box b2 100 (vec 8 u32) s.2, box b1 24 R_api_Hash (Vector.replicate 32 (0#8))]) e6 () (fun a w hst => (hst.sub (.cons (.of_lk rfl) <| .cons (.of_lk rfl) <| .cons (.of_lk rfl) <| .cons (.of_lk rfl) <| .nil)).keep (.cons .here <| .cons .here <| .nil)) ?_ ?_
  · clear h e6
    rintro _ ⟨y1, y2⟩ lr h
    change rolodexref02_Sum_L1 r2 y1 y2 = some _ at h
    show Run _ _ _ [(2, val (.pointer (some ⟨b1, 0, none⟩))), (3, val (.pointer (some ⟨b2, 0, none⟩))), (4, (sl u8).slot r2), (5, i64.slot y1)] [box b2 100 (vec 8 u32) y2, box b1 24 R_api_Hash (Vector.replicate 32 (0#8))]
    unfold rolodexref02_Sum_L1 at h
    refine run_seq ?_
    refine run_seq ?_
    refine run_text ?_
    refine j_pure (pj_move (has_tmp rfl)) rfl rfl rfl ?_
    refine j_pure (pj_move (has_tmp rfl)) rfl rfl rfl ?_
    refine j_pure (pj_len_sl (sz := 1) (has_tmp rfl) (by kernel_rfl)) rfl rfl rfl ?_
    refine j_pure (pj_ilss (has_tmp rfl) (has_tmp rfl)) rfl rfl rfl ?_
    refine j_end ?_
    refine run_cond (has_tmp rfl) (fun e3 => ?_) (fun e3 => ?_)
    · replace h := bt e3 h
      refine run_skip ?_
      refine run_seq ?_
      refine run_block ?_
      obtain ⟨x1, e4, h⟩ := bind_some h
      refine run_draw (n := 6) (by kernel_rfl) (by kernel_rfl) (by kernel_rfl) (by kernel_rfl) (.read (.plain rfl (pj_load_box (has_tmp rfl) .here (Path.all (vec 8 u32)) (by kernel_rfl))) <| .read (.plain rfl (pj_move (has_tmp rfl))) <| .read (.plain rfl (pj_move (has_tmp rfl))) <| .read (.plain rfl (pj_move (has_tmp rfl))) <| .read (.plain rfl (pj_iadd (has_tmp rfl) has_i64)) <| .read (.plain rfl (pj_slice_slx (has_tmp rfl) (.yes (has_tmp rfl) isInt_i64) (.yes (has_tmp rfl) isInt_i64) e4 (by kernel_rfl))) <| .nil) (j_to (Γ' := [(2, val (.pointer (some ⟨b1, 0, none⟩))), (3, val (.pointer (some ⟨b2, 0, none⟩))), (4, (sl u8).slot r2), (5, i64.slot y1), (17, (vec 8 u32).slot y2), (22, (sl u8).slot x1)]) (H' := [box b2 100 (vec 8 u32) y2, box b1 24 R_api_Hash (Vector.replicate 32 (0#8))]) (.cons (.of_lk rfl) <| .cons (.of_lk rfl) <| .cons (.of_lk rfl) <| .cons (.of_lk rfl) <| .cons (.of_lk rfl) <| .cons (.of_lk rfl) <| .nil) (.cons .here <| .cons .here <| .nil) ?_)
      obtain ⟨r3, e5, h⟩ := bind_some h
      refine j_pure (pj_call (hasL_cons (has_tmp rfl) <| hasL_cons (has_tmp rfl) <| hasL_nil) (by kernel_rfl) (c_rolodexref02_take e5)) rfl rfl rfl ?_
      refine j_store_boxx (r' := r3) (has_tmp rfl) (has_tmp rfl) .here (Path.all (vec 8 u32)) (by kernel_rfl) rfl ?_
      refine j_end ?_
      refine run_endblock ?_
      refine run_text ?_
      refine j_pure (pj_move (has_tmp rfl)) rfl rfl rfl ?_
      refine j_pure (pj_iadd (has_tmp rfl) has_i64) rfl rfl rfl ?_
      refine j_pure (pj_assign (has_tmp rfl)) rfl rfl rfl ?_
      refine j_end ?_
      obtain rfl := Option.some.inj h
      exact run_next () (.cons (.of_lk rfl) <| .cons (.of_lk rfl) <| .cons (.of_lk rfl) <| .cons (.of_lk rfl) <| .nil) (.cons .here <| .cons .here <| .nil)
    · replace h := bf e3 h
      obtain rfl := Option.some.inj h
      exact run_brk () (.cons (.of_lk rfl) <| .cons (.of_lk rfl) <| .cons (.of_lk rfl) <| .cons (.of_lk rfl) <| .nil) (.cons .here <| .cons .here <| .nil)
  · rintro _
    show Run _ _ _ [(2, val (.pointer (some ⟨b1, 0, none⟩))), (3, val (.pointer (some ⟨b2, 0, none⟩))), (4, (sl u8).slot r2), (5, i64.slot y3)] [box b2 100 (vec 8 u32) y4, box b1 24 R_api_Hash (Vector.replicate 32 (0#8))]
    refine run_to (Γ' := [(2, val (.pointer (some ⟨b1, 0, none⟩))), (3, val (.pointer (some ⟨b2, 0, none⟩)))]) (H' := [box b2 100 (vec 8 u32) y4, box b1 24 R_api_Hash (Vector.replicate 32 (0#8))]) (.cons (.of_lk rfl) <| .cons (.of_lk rfl) <| .nil) (.cons .here <| .cons .here <| .nil) ?_
    refine run_seq ?_
    refine run_text ?_
    refine j_alloc (x := (Vector.replicate 32 (0#8))) (R := R_api_Hash) (zero_vec 32 zero_un) (by kernel_rfl) rfl fun b3 => ?_
    refine j_end ?_
    refine run_seq ?_
    refine run_seq ?_
    refine run_text ?_
    refine j_pure (pj_assign has_i64) rfl rfl rfl ?_
    refine j_end ?_
    obtain ⟨⟨y7, y8⟩, e11, h⟩ := bind_some h
    refine run_loopS (Γi := fun (i : Unit) (s : Int × T_api_Hash) => [(2, val (.pointer (some ⟨b1, 0, none⟩))), (3, val (.pointer (some ⟨b2, 0, none⟩))), (6, val (.pointer (some ⟨b3, 0, none⟩))), (7, i64.slot s.1)]) (Hi := fun (i : Unit) (s : Int × T_api_Hash) => [box b3 24 R_api_Hash s.2, box b2 100 (vec 8 u32) y4, box b1 24 R_api_Hash (Vector.replicate 32 (0#8))]) e11 () (fun a w hst => (hst.sub (.cons (.of_lk rfl) <| .cons (.of_lk rfl) <| .cons (.of_lk rfl) <| .cons (.of_lk rfl) <| .nil)).keep (.cons .here <| .cons .here <| .cons .here <| .nil)) ?_ ?_
    · clear h e11
      rintro _ ⟨y5, y6⟩ lr h
      change rolodexref02_Sum_L2 y4 y5 y6 = some _ at h
      show Run _ _ _ [(2, val (.pointer (some ⟨b1, 0, none⟩))), (3, val (.pointer (some ⟨b2, 0, none⟩))), (6, val (.pointer (some ⟨b3, 0, none⟩))), (7, i64.slot y5)] [box b3 24 R_api_Hash y6, box b2 100 (vec 8 u32) y4, box b1 24 R_api_Hash (Vector.replicate 32 (0#8))]
      unfold rolodexref02_Sum_L2 at h
      refine run_seq ?_
      refine run_seq ?_
      refine run_text ?_
      refine j_pure (pj_move (has_tmp rfl)) rfl rfl rfl ?_
      refine j_pure (pj_ilss (has_tmp rfl) has_i64) rfl rfl rfl ?_
      refine j_end ?_
      refine run_cond (has_tmp rfl) (fun e7 => ?_) (fun e7 => ?_)
      · replace h := bt e7 h
        refine run_skip ?_
        refine run_seq ?_
        refine run_block ?_
        refine run_text ?_
        refine j_pure (pj_move (has_tmp rfl)) rfl rfl rfl ?_
        refine j_pure (pj_move (has_tmp rfl)) rfl rfl rfl ?_
        refine j_pure (pj_iquo (has_tmp rfl) has_i64 (by decide)) rfl rfl rfl ?_
        obtain ⟨x2, e8, h⟩ := bind_some h
        refine j_pure (pj_index_arr (n := 8) (sz := 1) (has_tmp rfl) (has_tmp rfl) isInt_i64 (vget_some e8).1 (vget_lt e8) (by kernel_rfl)) rfl rfl rfl ?_
        refine j_pure (PJ.eqv (pj_load_box (has_tmp rfl) (.next .here) (Path.then (Path.all (vec 8 u32)) (Path.atI 8 u32 ((w64 (Int.tdiv y5 (4 : Int))).toNat) (vget_some e8).2.1)) (by kernel_rfl)) (vget_eq e8 (vget_some e8).2.1)) rfl rfl rfl ?_
        refine j_pure (pj_move (has_tmp rfl)) rfl rfl rfl ?_
        refine j_pure (pj_irem (has_tmp rfl) has_i64 (by decide)) rfl rfl rfl ?_
        refine j_pure (pj_conv_un (k := .u32) (b := 32) rfl rfl (by kernel_rfl) (has_tmp rfl) isInt_i64) rfl rfl rfl ?_
        refine j_pure (pj_umul (k := .u32) (b := 32) rfl rfl (has_un (x := 8#32) rfl) (has_tmp rfl)) rfl rfl rfl ?_
        refine j_pure (pj_usub (k := .u32) (b := 32) rfl rfl (has_un (x := 24#32) rfl) (has_tmp rfl)) rfl rfl rfl ?_
        refine j_pure (pj_ushr (k := .u32) (b := 32) rfl (has_tmp rfl) (has_tmp rfl) isInt_un (Int.natCast_nonneg _)) rfl rfl rfl ?_
        refine j_pure (pj_conv_uu (k := .u8) (b := 8) rfl rfl (by kernel_rfl) (has_tmp rfl)) rfl rfl rfl ?_
        obtain ⟨e9, h⟩ := grd_some h
        refine j_pure (pj_index_arr (n := 32) (sz := 1) (has_tmp rfl) (has_tmp rfl) isInt_i64 e9.1 e9.2 (by kernel_rfl)) rfl rfl rfl ?_
        obtain ⟨x3, e10, h⟩ := bind_some h
        refine j_store_boxx (r' := x3) (has_tmp rfl) (has_tmp rfl) .here (Path.then (Path.all R_api_Hash) (Path.atI 32 u8 y5.toNat (lt_nat e9))) (by kernel_rfl) (Option.some.inj e10) ?_
        refine j_end ?_
        refine run_endblock ?_
        refine run_text ?_
        refine j_pure (pj_move (has_tmp rfl)) rfl rfl rfl ?_
        refine j_pure (pj_iadd (has_tmp rfl) has_i64) rfl rfl rfl ?_
        refine j_pure (pj_assign (has_tmp rfl)) rfl rfl rfl ?_
        refine j_end ?_
        obtain rfl := Option.some.inj h
        exact run_next () (.cons (.of_lk rfl) <| .cons (.of_lk rfl) <| .cons (.of_lk rfl) <| .cons (.of_lk rfl) <| .nil) (.cons .here <| .cons .here <| .cons .here <| .nil)
      · replace h := bf e7 h
        obtain rfl := Option.some.inj h
        exact run_brk () (.cons (.of_lk rfl) <| .cons (.of_lk rfl) <| .cons (.of_lk rfl) <| .cons (.of_lk rfl) <| .nil) (.cons .here <| .cons .here <| .cons .here <| .nil)
    · rintro _
      show Run _ _ _ [(2, val (.pointer (some ⟨b1, 0, none⟩))), (3, val (.pointer (some ⟨b2, 0, none⟩))), (6, val (.pointer (some ⟨b3, 0, none⟩))), (7, i64.slot y7)] [box b3 24 R_api_Hash y8, box b2 100 (vec 8 u32) y4, box b1 24 R_api_Hash (Vector.replicate 32 (0#8))]
      refine run_to (Γ' := [(2, val (.pointer (some ⟨b1, 0, none⟩))), (6, val (.pointer (some ⟨b3, 0, none⟩)))]) (H' := [box b3 24 R_api_Hash y8, box b1 24 R_api_Hash (Vector.replicate 32 (0#8))]) (.cons (.of_lk rfl) <| .cons (.of_lk rfl) <| .nil) (.cons .here <| .cons (.next .here) <| .nil) ?_
      refine run_seq ?_
      refine run_text ?_
      refine j_pure (pj_load_box (has_tmp rfl) .here (Path.all R_api_Hash) (by kernel_rfl)) rfl rfl rfl ?_
      refine j_store_boxx (r' := y8) (has_tmp rfl) (has_tmp rfl) (.next .here) (Path.all R_api_Hash) (by kernel_rfl) rfl ?_
      refine j_end ?_
      obtain rfl := Option.some.inj h
      exact run_ret fun a w hst => q_ret1 hst rfl (.cell rfl .here (by kernel_rfl)) () (fun _ _ h => h) (.nil)
set_option maxRecDepth 100000 in
set_option maxHeartbeats 4000000 in
theorem c_rolodexref15_Text {G : GP} {p_a : T_api_Hash} {p_b : T_api_Hash} {r : (List (BitVec 8))} (h : rolodexref15_Text p_a p_b = some r) : Ctr Tryd.prog G 54 [R_api_Hash.slot p_a, R_api_Hash.slot p_b] [] (fun (u0 : Value) => ov u0) (fun (u0 : Value) => [own 5 u8 u0 r]) := by
  unfold rolodexref15_Text at h
  refine ctr_of_run Tryd.func54 rfl 13 rfl rfl fun m0 w0 b0 => ?_
  show Run _ _ _ [(0, R_api_Hash.slot p_a), (1, R_api_Hash.slot p_b)] _
  refine run_seq ?_
  refine run_text ?_
  refine j_pure (pj_box_to (has_tmp rfl)) rfl rfl rfl ?_
  refine j_pure (pj_box_to (has_tmp rfl)) rfl rfl rfl ?_
  refine j_assign_nil (T := 5) u8 rfl fun v1 => ?_
  refine j_end ?_
  refine run_seq ?_
  refine run_text ?_
  refine j_buildSlice (T := 5) (R := u8) (.cons (has_un (x := 1#8) rfl) .nil) rfl (by kernel_rfl) (by kernel_rfl) rfl fun v2 => ?_
  refine j_pure (pj_assign (has_tmp rfl)) rfl rfl rfl ?_
  refine j_end ?_
  refine run_seq ?_
  refine run_text ?_
  refine j_pure (pj_move (has_tmp rfl)) rfl rfl rfl ?_
  refine j_pure (pj_slice_toF (has_tmp rfl) (by decide) (by kernel_rfl)) rfl rfl rfl ?_
  obtain ⟨e1, h⟩ := grd_some h
  refine j_append (T := 5) (E := 5) (has_tmp rfl) .here (src_data (has_tmp rfl)) (by kernel_rfl) (by kernel_rfl) e1 rfl fun v3 => ?_
  refine j_pure (pj_assign (has_tmp rfl)) rfl rfl rfl ?_
  refine j_end ?_
  refine run_seq ?_
  refine run_text ?_
  refine j_pure (pj_move (has_tmp rfl)) rfl rfl rfl ?_
  refine j_pure (pj_slice_toF (has_tmp rfl) (by decide) (by kernel_rfl)) rfl rfl rfl ?_
  obtain ⟨e2, h⟩ := grd_some h
  refine j_append (T := 5) (E := 5) (has_tmp rfl) .here (src_data (has_tmp rfl)) (by kernel_rfl) (by kernel_rfl) e2 rfl fun v4 => ?_
  refine j_pure (pj_assign (has_tmp rfl)) rfl rfl rfl ?_
  refine j_end ?_
  obtain rfl := Option.some.inj h
  exact run_ret fun a w hst => q_ret1 hst rfl (.tmp rfl) v4 (fun _ _ h => h) (.cons .here <| .nil)
set_option maxRecDepth 100000 in
set_option maxHeartbeats 4000000 in
theorem c_rolodexref15_Node {G : GP} {p_a : T_api_Hash} {p_b : T_api_Hash} {r : T_api_Hash} (h : rolodexref15_Node p_a p_b = some r) : Ctr Tryd.prog G 19 [R_api_Hash.slot p_a, R_api_Hash.slot p_b] [] (fun (_ : Unit) => R_api_Hash.slot r) (fun (_ : Unit) => []) := by
  unfold rolodexref15_Node at h
  refine ctr_of_run Tryd.func19 rfl 9 rfl rfl fun m0 w0 b0 => ?_
  show Run _ _ _ [(0, R_api_Hash.slot p_a), (1, R_api_Hash.slot p_b)] _
  refine run_seq ?_
  refine run_text ?_
  refine j_pure (pj_box_to (has_tmp rfl)) rfl rfl rfl ?_
  refine j_pure (pj_box_to (has_tmp rfl)) rfl rfl rfl ?_
  refine j_alloc (x := (Vector.replicate 32 (0#8))) (R := R_api_Hash) (zero_vec 32 zero_un) (by kernel_rfl) rfl fun b1 => ?_
  refine j_end ?_
  refine run_seq ?_
  refine run_text ?_
  refine j_pure (pj_load_to (has_tmp rfl) (by kernel_rfl)) rfl rfl rfl ?_
  refine j_pure (pj_load_to (has_tmp rfl) (by kernel_rfl)) rfl rfl rfl ?_
  obtain ⟨r1, e1, h⟩ := bind_some h
  refine j_pure (pj_call (hasL_cons (has_tmp rfl) <| hasL_cons (has_tmp rfl) <| hasL_nil) (by kernel_rfl) (Ctr.froze (c_rolodexref15_Text e1))) rfl rfl rfl ?_
  obtain ⟨r2, e2, h⟩ := bind_some h
  refine j_pure (pj_call (hasL_cons (has_tmp rfl) <| hasL_nil) (by kernel_rfl) (c_rolodexref02_Sum e2)) rfl rfl rfl ?_
  refine j_store_boxx (r' := r2) (has_tmp rfl) (has_tmp rfl) .here (Path.all R_api_Hash) (by kernel_rfl) rfl ?_
  refine j_end ?_
  obtain rfl := Option.some.inj h
  exact run_ret fun a w hst => q_ret1 hst rfl (.cell rfl .here (by kernel_rfl)) () (fun _ _ h => h) (.nil)
set_option maxRecDepth 100000 in
set_option maxHeartbeats 4000000 in
theorem c_rolodexref15_List_B {G : GP} {rc : (List T_api_Hash) → Option T_api_Hash} (hrc : ∀ {p_l : List T_api_Hash} {r : T_api_Hash}, rc p_l = some r → Ctr Tryd.prog G 30 [(sl R_api_Hash).slot p_l] [] (fun (_ : Unit) => R_api_Hash.slot r) (fun (_ : Unit) => [])) {p_l : List T_api_Hash} {r : T_api_Hash} (h : rolodexref15_List_B rc p_l = some r) : Ctr Tryd.prog G 30 [(sl R_api_Hash).slot p_l] [] (fun (_ : Unit) => R_api_Hash.slot r) (fun (_ : Unit) => []) := by
  unfold rolodexref15_List_B at h
  refine ctr_of_run Tryd.func30 rfl 31 rfl rfl fun m0 w0 b0 => ?_
  show Run _ _ _ [(0, (sl R_api_Hash).slot p_l)] _
  refine run_seq ?_
  refine run_text ?_
  refine j_alloc (x := (Vector.replicate 32 (0#8))) (R := R_api_Hash) (zero_vec 32 zero_un) (by kernel_rfl) rfl fun b1 => ?_
  refine j_end ?_
  refine run_seq ?_
  refine run_seq ?_
  refine run_text ?_
  refine j_pure (pj_move (has_tmp rfl)) rfl rfl rfl ?_
  refine j_pure (pj_len_sl (sz := 32) (has_tmp rfl) (by kernel_rfl)) rfl rfl rfl ?_
  refine j_pure (pj_ieql (has_tmp rfl) has_i64) rfl rfl rfl ?_
  refine j_end ?_
  refine run_cond (has_tmp rfl) (fun e1 => ?_) (fun e1 => ?_)
  · replace h := bt e1 h
    refine run_seq ?_
    refine run_text ?_
    obtain ⟨r1, e2, h⟩ := bind_some h
    refine j_pure (pj_call (hasL_cons (has_nil (R := u8)) <| hasL_nil) (by kernel_rfl) (c_rolodexref02_Sum e2)) rfl rfl rfl ?_
    refine j_store_boxx (r' := r1) (has_tmp rfl) (has_tmp rfl) .here (Path.all R_api_Hash) (by kernel_rfl) rfl ?_
    refine j_end ?_
    obtain rfl := Option.some.inj h
    exact run_ret fun a w hst => q_ret1 hst rfl (.cell rfl .here (by kernel_rfl)) () (fun _ _ h => h) (.nil)
  · replace h := bf e1 h
    refine run_skip ?_
    refine run_seq ?_
    refine run_seq ?_
    refine run_text ?_
    refine j_pure (pj_move (has_tmp rfl)) rfl rfl rfl ?_
    refine j_pure (pj_len_sl (sz := 32) (has_tmp rfl) (by kernel_rfl)) rfl rfl rfl ?_
    refine j_pure (pj_ieql (has_tmp rfl) has_i64) rfl rfl rfl ?_
    refine j_end ?_
    refine run_cond (has_tmp rfl) (fun e3 => ?_) (fun e3 => ?_)
    · replace h := bt e3 h
      refine run_seq ?_
      refine run_text ?_
      refine j_pure (pj_move (has_tmp rfl)) rfl rfl rfl ?_
      obtain ⟨x1, e4, h⟩ := bind_some h
      refine j_pure (pj_index_slx (has_tmp rfl) has_i64 isInt_i64 e4 (by kernel_rfl)) rfl rfl rfl ?_
      refine j_pure (pj_load_to (has_tmp rfl) (by kernel_rfl)) rfl rfl rfl ?_
      refine j_store_boxx (r' := x1) (has_tmp rfl) (has_tmp rfl) .here (Path.all R_api_Hash) (by kernel_rfl) rfl ?_
      refine j_end ?_
      obtain rfl := Option.some.inj h
      exact run_ret fun a w hst => q_ret1 hst rfl (.cell rfl .here (by kernel_rfl)) () (fun _ _ h => h) (.nil)
    · replace h := bf e3 h
      refine run_skip ?_
      refine run_seq ?_
      refine run_text ?_
      refine j_pure (pj_assign has_i64) rfl rfl rfl ?_
      refine j_end ?_
      refine run_seq ?_
      obtain ⟨y2, e6, h⟩ := bind_some h
      refine run_loopS (Γi := fun (i : Unit) (s : Int) => [(0, (sl R_api_Hash).slot p_l), (2, val (.pointer (some ⟨b1, 0, none⟩))), (3, i64.slot s)]) (Hi := fun (i : Unit) (s : Int) => [box b1 24 R_api_Hash (Vector.replicate 32 (0#8))]) e6 () (fun a w hst => (hst.sub (.cons (.of_lk rfl) <| .cons (.of_lk rfl) <| .cons (.of_lk rfl) <| .nil)).keep (.cons .here <| .nil)) ?_ ?_
      · clear h e6
        rintro _ y1 lr h
        change rolodexref15_List_L1 p_l y1 = some _ at h
        show Run _ _ _ [(0, (sl R_api_Hash).slot p_l), (2, val (.pointer (some ⟨b1, 0, none⟩))), (3, i64.slot y1)] [box b1 24 R_api_Hash (Vector.replicate 32 (0#8))]
        unfold rolodexref15_List_L1 at h
        refine run_seq ?_
        refine run_seq ?_
        refine run_text ?_
        refine j_pure (pj_move (has_tmp rfl)) rfl rfl rfl ?_
        refine j_pure (pj_move (has_tmp rfl)) rfl rfl rfl ?_
        refine j_pure (pj_len_sl (sz := 32) (has_tmp rfl) (by kernel_rfl)) rfl rfl rfl ?_
        refine j_pure (pj_move (has_tmp rfl)) rfl rfl rfl ?_
        refine j_pure (pj_isub (has_tmp rfl) (has_tmp rfl)) rfl rfl rfl ?_
        refine j_pure (pj_ilss (has_tmp rfl) (has_tmp rfl)) rfl rfl rfl ?_
        refine j_end ?_
        refine run_cond (has_tmp rfl) (fun e5 => ?_) (fun e5 => ?_)
        · replace h := bt e5 h
          refine run_skip ?_
          refine run_block ?_
          refine run_text ?_
          refine j_pure (pj_move (has_tmp rfl)) rfl rfl rfl ?_
          refine j_pure (pj_imul has_i64 (has_tmp rfl)) rfl rfl rfl ?_
          refine j_pure (pj_assign (has_tmp rfl)) rfl rfl rfl ?_
          refine j_end ?_
          refine run_endblock ?_
          obtain rfl := Option.some.inj h
          exact run_next () (.cons (.of_lk rfl) <| .cons (.of_lk rfl) <| .cons (.of_lk rfl) <| .nil) (.cons .here <| .nil)
        · replace h := bf e5 h
          obtain rfl := Option.some.inj h
          exact run_brk () (.cons (.of_lk rfl) <| .cons (.of_lk rfl) <| .cons (.of_lk rfl) <| .nil) (.cons .here <| .nil)
      · rintro _
        show Run _ _ _ [(0, (sl R_api_Hash).slot p_l), (2, val (.pointer (some ⟨b1, 0, none⟩))), (3, i64.slot y2)] [box b1 24 R_api_Hash (Vector.replicate 32 (0#8))]
        refine run_to (Γ' := [(0, (sl R_api_Hash).slot p_l), (2, val (.pointer (some ⟨b1, 0, none⟩))), (3, i64.slot y2)]) (H' := [box b1 24 R_api_Hash (Vector.replicate 32 (0#8))]) (.cons (.of_lk rfl) <| .cons (.of_lk rfl) <| .cons (.of_lk rfl) <| .nil) (.cons .here <| .nil) ?_
        refine run_seq ?_
        obtain ⟨x2, e7, h⟩ := bind_some h
        obtain ⟨r2, e8, h⟩ := bind_some h
        obtain ⟨x3, e9, h⟩ := bind_some h
        refine run_draw (n := 7) (by kernel_rfl) (by kernel_rfl) (by kernel_rfl) (by kernel_rfl) (.read (.plain rfl (pj_move (has_tmp rfl))) <| .read (.plain rfl (pj_move (has_tmp rfl))) <| .read (.plain rfl (pj_slice_slx (has_tmp rfl) .no (.yes (has_tmp rfl) isInt_i64) e7 (by kernel_rfl))) <| .read (.plain rfl (pj_call (hasL_cons (has_tmp rfl) <| hasL_nil) (by kernel_rfl) (hrc e8))) <| .read (.plain rfl (pj_move (has_tmp rfl))) <| .read (.plain rfl (pj_move (has_tmp rfl))) <| .read (.plain rfl (pj_slice_slx (has_tmp rfl) (.yes (has_tmp rfl) isInt_i64) .no e9 (by kernel_rfl))) <| .nil) (j_to (Γ' := [(2, val (.pointer (some ⟨b1, 0, none⟩))), (25, R_api_Hash.slot r2), (28, (sl R_api_Hash).slot x3)]) (H' := [box b1 24 R_api_Hash (Vector.replicate 32 (0#8))]) (.cons (.of_lk rfl) <| .cons (.of_lk rfl) <| .cons (.of_lk rfl) <| .nil) (.cons .here <| .nil) ?_)
        obtain ⟨r3, e10, h⟩ := bind_some h
        refine j_pure (pj_call (hasL_cons (has_tmp rfl) <| hasL_nil) (by kernel_rfl) (hrc e10)) rfl rfl rfl ?_
        obtain ⟨r4, e11, h⟩ := bind_some h
        refine j_pure (pj_call (hasL_cons (has_tmp rfl) <| hasL_cons (has_tmp rfl) <| hasL_nil) (by kernel_rfl) (c_rolodexref15_Node e11)) rfl rfl rfl ?_
        refine j_store_boxx (r' := r4) (has_tmp rfl) (has_tmp rfl) .here (Path.all R_api_Hash) (by kernel_rfl) rfl ?_
        refine j_end ?_
        obtain rfl := Option.some.inj h
        exact run_ret fun a w hst => q_ret1 hst rfl (.cell rfl .here (by kernel_rfl)) () (fun _ _ h => h) (.nil)
theorem c_rolodexref15_List_F {G : GP} : ∀ (n : Nat) {p_l : List T_api_Hash} {r : T_api_Hash}, rolodexref15_List_F n p_l = some r → Ctr Tryd.prog G 30 [(sl R_api_Hash).slot p_l] [] (fun (_ : Unit) => R_api_Hash.slot r) (fun (_ : Unit) => []) := by
  intro n
  induction n with
  | zero => intro p_l r h; cases h
  | succ n ih => intro p_l r h; exact c_rolodexref15_List_B (fun h => ih h) h
theorem c_rolodexref15_List {G : GP} {p_l : List T_api_Hash} {r : T_api_Hash} (h : rolodexref15_List p_l = some r) : Ctr Tryd.prog G 30 [(sl R_api_Hash).slot p_l] [] (fun (_ : Unit) => R_api_Hash.slot r) (fun (_ : Unit) => []) := c_rolodexref15_List_F FU h
set_option maxRecDepth 100000 in
set_option maxHeartbeats 4000000 in
theorem c_rolodexref15_Of {G : GP} {p_from : Int} {p_l : List T_api_Hash} {r : T_rolodexref15_Range × Int} (h : rolodexref15_Of p_from p_l = some r) : Ctr Tryd.prog G 25 [i64.slot p_from, (sl R_api_Hash).slot p_l] [] (fun (_ : Unit) => tup [R_rolodexref15_Range.slot r.1, i64.slot r.2]) (fun (_ : Unit) => []) := by
  unfold rolodexref15_Of at h
  refine ctr_of_run Tryd.func25 rfl 59 rfl rfl fun m0 w0 b0 => ?_
  show Run _ _ _ [(0, i64.slot p_from), (1, (sl R_api_Hash).slot p_l)] _
  refine run_seq ?_
  refine run_text ?_
  refine j_alloc (x := (0, 0, ([] : List T_api_Hash))) (R := R_rolodexref15_Range) (zero_prod zero_i64 (zero_prod zero_i64 zero_sl)) (by kernel_rfl) rfl fun b1 => ?_
  refine j_pure (pj_assign has_i64) rfl rfl rfl ?_
  refine j_end ?_
  refine run_seq ?_
  refine run_seq ?_
  refine run_text ?_
  refine j_pure (pj_move (has_tmp rfl)) rfl rfl rfl ?_
  refine j_pure (pj_ilss (has_tmp rfl) has_i64) rfl rfl rfl ?_
  refine j_pure (pj_move (has_tmp rfl)) rfl rfl rfl ?_
  obtain ⟨y1, e2, h⟩ := bind_some h
  refine j_joinx (ι := Unit) (Γ' := fun _ => [(0, i64.slot p_from), (1, (sl R_api_Hash).slot p_l), (4, val (.pointer (some ⟨b1, 0, none⟩))), (14, bl.slot y1)]) (H' := fun _ => [box b1 39 R_rolodexref15_Range (0, 0, ([] : List T_api_Hash))]) 3 ?_ fun J => ?_
  · intro _
    clear e2
    show OpsJ _ _ _ [(0, i64.slot p_from), (1, (sl R_api_Hash).slot p_l), (4, val (.pointer (some ⟨b1, 0, none⟩))), (14, bl.slot y1)] [box b1 39 R_rolodexref15_Range (0, 0, ([] : List T_api_Hash))] _
    refine j_pure (pj_move (has_tmp rfl)) rfl rfl rfl ?_
    obtain ⟨y2, e4, h⟩ := bind_some h
    refine j_joinx (ι := Unit) (Γ' := fun _ => [(0, i64.slot p_from), (1, (sl R_api_Hash).slot p_l), (4, val (.pointer (some ⟨b1, 0, none⟩))), (21, bl.slot y2)]) (H' := fun _ => [box b1 39 R_rolodexref15_Range (0, 0, ([] : List T_api_Hash))]) 6 ?_ fun J => ?_
    · intro _
      clear e4
      show OpsJ _ _ _ [(0, i64.slot p_from), (1, (sl R_api_Hash).slot p_l), (4, val (.pointer (some ⟨b1, 0, none⟩))), (21, bl.slot y2)] [box b1 39 R_rolodexref15_Range (0, 0, ([] : List T_api_Hash))] _
      refine j_end ?_
      refine run_cond (has_tmp rfl) (fun e5 => ?_) (fun e5 => ?_)
      · replace h := bt e5 h
        refine run_seq ?_
        refine run_text ?_
        refine j_pure (pj_build (R := R_rolodexref15_Range) (zero_prod zero_i64 (zero_prod zero_i64 zero_sl)) (by kernel_rfl) (by kernel_rfl) rfl .nil) rfl rfl rfl ?_
        refine j_store_boxx (r' := (0, 0, ([] : List T_api_Hash))) (has_tmp rfl) (has_tmp rfl) .here (Path.all R_rolodexref15_Range) (by kernel_rfl) rfl ?_
        refine j_pure (pj_assign has_i64) rfl rfl rfl ?_
        refine j_end ?_
        obtain rfl := Option.some.inj h
        exact run_ret fun a w hst => q_retN hst rfl (.cons (.cell rfl .here (by kernel_rfl)) <| .cons (.tmp rfl) <| .nil) rfl () (fun _ _ h => h) (.nil)
      · replace h := bf e5 h
        refine run_skip ?_
        refine run_seq ?_
        refine run_text ?_
        refine j_pure (pj_move (has_tmp rfl)) rfl rfl rfl ?_
        refine j_pure (pj_move (has_tmp rfl)) rfl rfl rfl ?_
        refine j_pure (pj_move (has_tmp rfl)) rfl rfl rfl ?_
        refine j_pure (pj_len_sl (sz := 32) (has_tmp rfl) (by kernel_rfl)) rfl rfl rfl ?_
        refine j_pure (pj_iadd (has_tmp rfl) (has_tmp rfl)) rfl rfl rfl ?_
        refine j_own_nil 24 R_api_Hash none (j_pure (pj_buildX (R := (prod i64 (prod i64 (exv (.slice none 0 0))))) (x := (0, 0, ())) (zero_prod zero_i64 (zero_prod zero_i64 zero_exv)) (by kernel_rfl) (by kernel_rfl) rfl (.cons (has_tmp rfl) (sx_pathx (x1 := (p_from, 0, ())) (Path.fst i64 (prod i64 (exv (.slice none 0 0)))) rfl) (by kernel_rfl) (.cons (has_tmp rfl) (sx_pathx (x1 := (p_from, w64 (p_from + (p_l.length : Int)), ())) (Path.then (Path.snd i64 (prod i64 (exv (.slice none 0 0)))) (Path.fst i64 (exv (.slice none 0 0)))) rfl) (by kernel_rfl) .nil))) rfl rfl rfl ?_)
        refine j_alloc (x := (0, 0, ())) (R := (prod i64 (prod i64 (exv (.slice none 0 0))))) (zero_prod zero_i64 (zero_prod zero_i64 zero_exv)) (by kernel_rfl) rfl fun b2 => ?_
        refine j_store_all (has_tmp rfl) (has_tmp rfl) .here (by kernel_rfl) (by kernel_rfl) ?_
        refine j_end ?_
        refine run_seq ?_
        refine run_text ?_
        refine j_pure (pj_field_ptr (off := 0) (has_tmp rfl) (by kernel_rfl)) rfl rfl rfl ?_
        refine j_pure (pj_load_box (has_tmp rfl) .here (Path.then (Path.all (prod i64 (prod i64 (exv (.slice none 0 0))))) (Path.fst i64 (prod i64 (exv (.slice none 0 0))))) (by kernel_rfl)) rfl rfl rfl ?_
        refine j_pure (pj_field_ptr (off := 1) (has_tmp rfl) (by kernel_rfl)) rfl rfl rfl ?_
        refine j_pure (pj_load_box (has_tmp rfl) .here (Path.then (Path.all (prod i64 (prod i64 (exv (.slice none 0 0))))) (Path.then (Path.snd i64 (prod i64 (exv (.slice none 0 0)))) (Path.fst i64 (exv (.slice none 0 0))))) (by kernel_rfl)) rfl rfl rfl ?_
        obtain ⟨r1, e6, h⟩ := bind_some h
        refine j_pure (pj_call (hasL_cons (has_tmp rfl) <| hasL_cons (has_tmp rfl) <| hasL_nil) (by kernel_rfl) (Ctr.froze (c_rolodexref15_Segments e6))) rfl rfl rfl ?_
        refine j_pure (pj_assign (has_tmp rfl)) rfl rfl rfl ?_
        refine j_end ?_
        refine run_seq ?_
        refine run_seq ?_
        refine run_text ?_
        refine j_pure (pj_assign has_i64) rfl rfl rfl ?_
        refine j_end ?_
        obtain ⟨⟨y6, y7, y8⟩, e14, h⟩ := bind_some h
        refine run_loopS (Γi := fun (i : Value) (s : (List T_api_Hash) × Int × (List T_api_Hash)) => [(1, (sl R_api_Hash).slot s.1), (4, val (.pointer (some ⟨b1, 0, none⟩))), (6, val (.pointer (some ⟨b2, 0, none⟩))), (7, (sl i64).slot r1), (8, i64.slot s.2.1)]) (Hi := fun (i : Value) (s : (List T_api_Hash) × Int × (List T_api_Hash)) => [box b2 39 (prod i64 (prod i64 (exv i))) (p_from, w64 (p_from + (p_l.length : Int)), ()), own 24 R_api_Hash i s.2.2, box b1 39 R_rolodexref15_Range (0, 0, ([] : List T_api_Hash))]) e14 (.slice none 0 0) (fun a w hst => (hst.sub (.cons (.of_lk rfl) <| .cons (.of_lk rfl) <| .cons (.of_lk rfl) <| .cons (.of_lk rfl) <| .cons (.of_lk rfl) <| .nil)).keep (.cons .here <| .cons .here <| .cons .here <| .nil)) ?_ ?_
        · clear h e14
          rintro v1 ⟨y3, y4, y5⟩ lr h
          change rolodexref15_Of_L1 r1 y3 y4 y5 = some _ at h
          show Run _ _ _ [(1, (sl R_api_Hash).slot y3), (4, val (.pointer (some ⟨b1, 0, none⟩))), (6, val (.pointer (some ⟨b2, 0, none⟩))), (7, (sl i64).slot r1), (8, i64.slot y4)] [box b2 39 (prod i64 (prod i64 (exv v1))) (p_from, w64 (p_from + (p_l.length : Int)), ()), own 24 R_api_Hash v1 y5, box b1 39 R_rolodexref15_Range (0, 0, ([] : List T_api_Hash))]
          unfold rolodexref15_Of_L1 at h
          refine run_seq ?_
          refine run_seq ?_
          refine run_text ?_
          refine j_pure (pj_move (has_tmp rfl)) rfl rfl rfl ?_
          refine j_pure (pj_move (has_tmp rfl)) rfl rfl rfl ?_
          refine j_pure (pj_len_sl (sz := 1) (has_tmp rfl) (by kernel_rfl)) rfl rfl rfl ?_
          refine j_pure (pj_ilss (has_tmp rfl) (has_tmp rfl)) rfl rfl rfl ?_
          refine j_end ?_
          refine run_cond (has_tmp rfl) (fun e7 => ?_) (fun e7 => ?_)
          · replace h := bt e7 h
            refine run_skip ?_
            refine run_seq ?_
            refine run_block ?_
            refine run_seq ?_
            obtain ⟨x1, e8, h⟩ := bind_some h
            obtain ⟨x2, e9, h⟩ := bind_some h
            obtain ⟨r2, e10, h⟩ := bind_some h
            refine run_draw (n := 10) (by kernel_rfl) (by kernel_rfl) (by kernel_rfl) (by kernel_rfl) (.read (.plain rfl (pj_field_ptr (off := 2) (has_tmp rfl) (by kernel_rfl))) <| .read (.plain rfl (pj_load_box (has_tmp rfl) .here (Path.then (Path.all (prod i64 (prod i64 (exv v1)))) (Path.then (Path.snd i64 (prod i64 (exv v1))) (Path.snd i64 (exv v1)))) (by kernel_rfl))) <| .read (.plain rfl (pj_move (has_tmp rfl))) <| .read (.plain rfl (pj_move (has_tmp rfl))) <| .read (.plain rfl (pj_move (has_tmp rfl))) <| .read (.plain rfl (pj_index_slx (has_tmp rfl) (has_tmp rfl) isInt_i64 e8 (by kernel_rfl))) <| .read (.plain rfl (pj_load_to (has_tmp rfl) (by kernel_rfl))) <| .read (.plain rfl (pj_slice_slx (has_tmp rfl) .no (.yes (has_tmp rfl) isInt_i64) e9 (by kernel_rfl))) <| .read (.plain rfl (pj_call (hasL_cons (has_tmp rfl) <| hasL_nil) (by kernel_rfl) (c_rolodexref15_List e10))) <| .read (.plain rfl (pj_buildSlice (T := 24) (R := R_api_Hash) (.cons (has_tmp rfl) .nil) rfl (by kernel_rfl) (by kernel_rfl))) <| .nil) (j_to (Γ' := [(1, (sl R_api_Hash).slot y3), (4, val (.pointer (some ⟨b1, 0, none⟩))), (6, val (.pointer (some ⟨b2, 0, none⟩))), (7, (sl i64).slot r1), (8, i64.slot y4), (41, ov v1), (49, (sl R_api_Hash).slot ([r2]))]) (H' := [box b2 39 (prod i64 (prod i64 (exv v1))) (p_from, w64 (p_from + (p_l.length : Int)), ()), own 24 R_api_Hash v1 y5, box b1 39 R_rolodexref15_Range (0, 0, ([] : List T_api_Hash))]) (.cons (.of_lk rfl) <| .cons (.of_lk rfl) <| .cons (.of_lk rfl) <| .cons (.of_lk rfl) <| .cons (.of_lk rfl) <| .cons (.of_lk rfl) <| .cons (.of_lk rfl) <| .nil) (.cons .here <| .cons .here <| .cons .here <| .nil) ?_)
            obtain ⟨e11, h⟩ := grd_some h
            refine j_append (T := 24) (E := 24) (has_tmp rfl) (.next .here) (src_data (has_tmp rfl)) (by kernel_rfl) (by kernel_rfl) e11 rfl fun v2 => ?_
            refine j_pure (pj_field_ptr (off := 2) (has_tmp rfl) (by kernel_rfl)) rfl rfl rfl ?_
            refine j_store_se (p_from, w64 (p_from + (p_l.length : Int)), ()) (has_tmp rfl) (has_tmp rfl) (.next .here) (se_snd i64 p_from (se_snd i64 (w64 (p_from + (p_l.length : Int))) se_here)) (by kernel_rfl) ?_
            refine j_end ?_
            refine run_text ?_
            refine j_pure (pj_move (has_tmp rfl)) rfl rfl rfl ?_
            refine j_pure (pj_move (has_tmp rfl)) rfl rfl rfl ?_
            refine j_pure (pj_move (has_tmp rfl)) rfl rfl rfl ?_
            obtain ⟨x3, e12, h⟩ := bind_some h
            refine j_pure (pj_index_slx (has_tmp rfl) (has_tmp rfl) isInt_i64 e12 (by kernel_rfl)) rfl rfl rfl ?_
            refine j_pure (pj_load_to (has_tmp rfl) (by kernel_rfl)) rfl rfl rfl ?_
            obtain ⟨x4, e13, h⟩ := bind_some h
            refine j_pure (pj_slice_slx (has_tmp rfl) (.yes (has_tmp rfl) isInt_i64) .no e13 (by kernel_rfl)) rfl rfl rfl ?_
            refine j_pure (pj_assign (has_tmp rfl)) rfl rfl rfl ?_
            refine j_end ?_
            refine run_endblock ?_
            refine run_text ?_
            refine j_pure (pj_move (has_tmp rfl)) rfl rfl rfl ?_
            refine j_pure (pj_iadd (has_tmp rfl) has_i64) rfl rfl rfl ?_
            refine j_pure (pj_assign (has_tmp rfl)) rfl rfl rfl ?_
            refine j_end ?_
            obtain rfl := Option.some.inj h
            exact run_next v2 (.cons (.of_lk rfl) <| .cons (.of_lk rfl) <| .cons (.of_lk rfl) <| .cons (.of_lk rfl) <| .cons (.of_lk rfl) <| .nil) (.cons .here <| .cons .here <| .cons .here <| .nil)
          · replace h := bf e7 h
            obtain rfl := Option.some.inj h
            exact run_brk v1 (.cons (.of_lk rfl) <| .cons (.of_lk rfl) <| .cons (.of_lk rfl) <| .cons (.of_lk rfl) <| .cons (.of_lk rfl) <| .nil) (.cons .here <| .cons .here <| .cons .here <| .nil)
        · rintro v3
          show Run _ _ _ [(1, (sl R_api_Hash).slot y6), (4, val (.pointer (some ⟨b1, 0, none⟩))), (6, val (.pointer (some ⟨b2, 0, none⟩))), (7, (sl i64).slot r1), (8, i64.slot y7)] [box b2 39 (prod i64 (prod i64 (exv v3))) (p_from, w64 (p_from + (p_l.length : Int)), ()), own 24 R_api_Hash v3 y8, box b1 39 R_rolodexref15_Range (0, 0, ([] : List T_api_Hash))]
          refine run_to (Γ' := [(4, val (.pointer (some ⟨b1, 0, none⟩))), (6, val (.pointer (some ⟨b2, 0, none⟩)))]) (H' := [box b2 39 (prod i64 (prod i64 (exv v3))) (p_from, w64 (p_from + (p_l.length : Int)), ()), own 24 R_api_Hash v3 y8, box b1 39 R_rolodexref15_Range (0, 0, ([] : List T_api_Hash))]) (.cons (.of_lk rfl) <| .cons (.of_lk rfl) <| .nil) (.cons .here <| .cons .here <| .cons .here <| .nil) ?_
          refine run_seq ?_
          refine run_text ?_
          refine j_freezeIn (p_from, w64 (p_from + (p_l.length : Int)), y8) (.next .here) .here (cv_snd i64 p_from (cv_snd i64 (w64 (p_from + (p_l.length : Int))) cv_at)) ?_
          refine j_pure (pj_load_box (has_tmp rfl) .here (Path.all R_rolodexref15_Range) (by kernel_rfl)) rfl rfl rfl ?_
          obtain ⟨x5, e15, h⟩ := bind_some h
          refine j_store_boxx (r' := x5) (has_tmp rfl) (has_tmp rfl) (.next .here) (Path.all R_rolodexref15_Range) (by kernel_rfl) (Option.some.inj e15) ?_
          refine j_pure (pj_assign has_i64) rfl rfl rfl ?_
          refine j_end ?_
          obtain rfl := Option.some.inj h
          exact run_ret fun a w hst => q_retN hst rfl (.cons (.cell rfl .here (by kernel_rfl)) <| .cons (.tmp rfl) <| .nil) rfl () (fun _ _ h => h) (.nil)
    · rcases bool_tf (y1) with e3 | e3
      · replace e4 := bt e3 e4
        refine j_guard_no2 (j := 6) (want := false) rfl rfl rfl rfl (bl_isx e3) rfl rfl rfl ?_
        refine j_guard_no2 (j := 6) (want := false) rfl rfl rfl rfl (bl_isx e3) rfl rfl rfl ?_
        refine j_guard_no2 (j := 6) (want := false) rfl rfl rfl rfl (bl_isx e3) rfl rfl rfl ?_
        refine j_guard_no2 (j := 6) (want := false) rfl rfl rfl rfl (bl_isx e3) rfl rfl rfl ?_
        refine j_guard_no2 (j := 6) (want := false) rfl rfl rfl rfl (bl_isx e3) rfl rfl rfl ?_
        refine j_pure (PJ.eqv (R := bl) (pj_pick (t := any) (has_tmp rfl) (fun _ => has_bl) (fun he => absurd (e3.symm.trans he) (by decide))) (Option.some.inj e4)) rfl rfl rfl ?_
        exact j_to (.cons (.of_lk rfl) <| .cons (.of_lk rfl) <| .cons (.of_lk rfl) <| .cons (.of_lk rfl) <| .nil) (.cons .here <| .nil) (J ())
      · replace e4 := bf e3 e4
        refine j_pure_y (pj_move (has_tmp rfl)) rfl rfl rfl rfl (bl_isx e3) rfl rfl ?_
        refine j_pure_y (pj_len_sl (sz := 32) (has_tmp rfl) (by kernel_rfl)) rfl rfl rfl rfl (bl_isx e3) rfl rfl ?_
        refine j_pure_y (pj_move (has_tmp rfl)) rfl rfl rfl rfl (bl_isx e3) rfl rfl ?_
        refine j_pure_y (pj_isub has_i64 (has_tmp rfl)) rfl rfl rfl rfl (bl_isx e3) rfl rfl ?_
        refine j_pure_y (pj_igtr (has_tmp rfl) (has_tmp rfl)) rfl rfl rfl rfl (bl_isx e3) rfl rfl ?_
        refine j_pure (PJ.eqv (R := bl) (pj_pick (t := any) (has_tmp rfl) (fun he => absurd (e3.symm.trans he) (by decide)) (fun _ => (has_tmp rfl))) (Option.some.inj e4)) rfl rfl rfl ?_
        exact j_to (.cons (.of_lk rfl) <| .cons (.of_lk rfl) <| .cons (.of_lk rfl) <| .cons (.of_lk rfl) <| .nil) (.cons .here <| .nil) (J ())
  · rcases bool_tf (decide (p_from < (0 : Int))) with e1 | e1
    · replace e2 := bt e1 e2
      refine j_guard_no2 (j := 2) (want := false) rfl rfl rfl rfl (bl_isx e1) rfl rfl rfl ?_
      refine j_guard_no2 (j := 2) (want := false) rfl rfl rfl rfl (bl_isx e1) rfl rfl rfl ?_
      refine j_pure (PJ.eqv (R := bl) (pj_pick (t := any) (has_tmp rfl) (fun _ => has_bl) (fun he => absurd (e1.symm.trans he) (by decide))) (Option.some.inj e2)) rfl rfl rfl ?_
      exact j_to (.cons (.of_lk rfl) <| .cons (.of_lk rfl) <| .cons (.of_lk rfl) <| .cons (.of_lk rfl) <| .nil) (.cons .here <| .nil) (J ())
    · replace e2 := bf e1 e2
      refine j_pure_y (pj_move (has_tmp rfl)) rfl rfl rfl rfl (bl_isx e1) rfl rfl ?_
      refine j_pure_y (pj_igtr (has_tmp rfl) has_i64) rfl rfl rfl rfl (bl_isx e1) rfl rfl ?_
      refine j_pure (PJ.eqv (R := bl) (pj_pick (t := any) (has_tmp rfl) (fun he => absurd (e1.symm.trans he) (by decide)) (fun _ => (has_tmp rfl))) (Option.some.inj e2)) rfl rfl rfl ?_
      exact j_to (.cons (.of_lk rfl) <| .cons (.of_lk rfl) <| .cons (.of_lk rfl) <| .cons (.of_lk rfl) <| .nil) (.cons .here <| .nil) (J ())
set_option maxRecDepth 100000 in
set_option maxHeartbeats 4000000 in
theorem c_rolodexref16_Entry {G : GP} {p_l : List T_api_Hash} {p_i : Int} {r : T_rolodexref16_Trail × Int} (h : rolodexref16_Entry p_l p_i = some r) : Ctr Tryd.prog G 47 [(sl R_api_Hash).slot p_l, i64.slot p_i] [] (fun (_ : Unit) => tup [R_rolodexref16_Trail.slot r.1, i64.slot r.2]) (fun (_ : Unit) => []) := by
  unfold rolodexref16_Entry at h
  refine ctr_of_run Tryd.func47 rfl 41 rfl rfl fun m0 w0 b0 => ?_
  show Run _ _ _ [(0, (sl R_api_Hash).slot p_l), (1, i64.slot p_i)] _
  refine run_seq ?_
  refine run_text ?_
  refine j_alloc (x := (([] : List T_api_Hash), ([] : List T_api_Hash))) (R := R_rolodexref16_Trail) (zero_prod zero_sl zero_sl) (by kernel_rfl) rfl fun b1 => ?_
  refine j_pure (pj_assign has_i64) rfl rfl rfl ?_
  refine j_end ?_
  refine run_seq ?_
  refine run_seq ?_
  refine run_text ?_
  refine j_pure (pj_move (has_tmp rfl)) rfl rfl rfl ?_
  refine j_pure (pj_ilss (has_tmp rfl) has_i64) rfl rfl rfl ?_
  refine j_pure (pj_move (has_tmp rfl)) rfl rfl rfl ?_
  obtain ⟨y1, e2, h⟩ := bind_some h
  refine j_joinx (ι := Unit) (Γ' := fun _ => [(0, (sl R_api_Hash).slot p_l), (1, i64.slot p_i), (4, val (.pointer (some ⟨b1, 0, none⟩))), (17, bl.slot y1)]) (H' := fun _ => [box b1 59 R_rolodexref16_Trail (([] : List T_api_Hash), ([] : List T_api_Hash))]) 5 ?_ fun J => ?_
  · intro _
    clear e2
    show OpsJ _ _ _ [(0, (sl R_api_Hash).slot p_l), (1, i64.slot p_i), (4, val (.pointer (some ⟨b1, 0, none⟩))), (17, bl.slot y1)] [box b1 59 R_rolodexref16_Trail (([] : List T_api_Hash), ([] : List T_api_Hash))] _
    refine j_end ?_
    refine run_cond (has_tmp rfl) (fun e3 => ?_) (fun e3 => ?_)
    · replace h := bt e3 h
      refine run_seq ?_
      refine run_text ?_
      refine j_pure (pj_build (R := R_rolodexref16_Trail) (zero_prod zero_sl zero_sl) (by kernel_rfl) (by kernel_rfl) rfl .nil) rfl rfl rfl ?_
      obtain ⟨x1, e4, h⟩ := bind_some h
      refine j_store_boxx (r' := x1) (has_tmp rfl) (has_tmp rfl) .here (Path.all R_rolodexref16_Trail) (by kernel_rfl) (Option.some.inj e4) ?_
      refine j_pure (pj_assign has_i64) rfl rfl rfl ?_
      refine j_end ?_
      obtain rfl := Option.some.inj h
      exact run_ret fun a w hst => q_retN hst rfl (.cons (.cell rfl .here (by kernel_rfl)) <| .cons (.tmp rfl) <| .nil) rfl () (fun _ _ h => h) (.nil)
    · replace h := bf e3 h
      refine run_skip ?_
      refine run_seq ?_
      refine run_text ?_
      refine j_pure (pj_move (has_tmp rfl)) rfl rfl rfl ?_
      refine j_pure (pj_move (has_tmp rfl)) rfl rfl rfl ?_
      obtain ⟨x2, e5, h⟩ := bind_some h
      refine j_pure (pj_slice_slx (has_tmp rfl) .no (.yes (has_tmp rfl) isInt_i64) e5 (by kernel_rfl)) rfl rfl rfl ?_
      obtain ⟨r1, e6, h⟩ := bind_some h
      refine j_pure (pj_call (hasL_cons has_i64 <| hasL_cons (has_tmp rfl) <| hasL_nil) (by kernel_rfl) (c_rolodexref15_Of e6)) rfl rfl rfl ?_
      refine j_pure (pj_move (has_tmp rfl)) rfl rfl rfl ?_
      refine j_pure (pj_extract (has_tmp rfl) rfl) rfl rfl rfl ?_
      refine j_pure (pj_extract (has_tmp rfl) rfl) rfl rfl rfl ?_
      refine j_alloc (x := (0, 0, ([] : List T_api_Hash))) (R := R_rolodexref15_Range) (zero_prod zero_i64 (zero_prod zero_i64 zero_sl)) (by kernel_rfl) rfl fun b2 => ?_
      refine j_store_boxx (r' := r1.1) (has_tmp rfl) (has_tmp rfl) .here (Path.all R_rolodexref15_Range) (by kernel_rfl) rfl ?_
      refine j_freezeTo (t := 6) .here (.of_lk rfl) ?_
      refine j_pure (pj_assign (has_tmp rfl)) rfl rfl rfl ?_
      refine j_end ?_
      refine run_seq ?_
      refine run_text ?_
      refine j_pure (pj_move (has_tmp rfl)) rfl rfl rfl ?_
      refine j_pure (pj_iadd (has_tmp rfl) has_i64) rfl rfl rfl ?_
      refine j_pure (pj_move (has_tmp rfl)) rfl rfl rfl ?_
      refine j_pure (pj_move (has_tmp rfl)) rfl rfl rfl ?_
      refine j_pure (pj_iadd (has_tmp rfl) has_i64) rfl rfl rfl ?_
      obtain ⟨x3, e7, h⟩ := bind_some h
      refine j_pure (pj_slice_slx (has_tmp rfl) (.yes (has_tmp rfl) isInt_i64) .no e7 (by kernel_rfl)) rfl rfl rfl ?_
      obtain ⟨r2, e8, h⟩ := bind_some h
      refine j_pure (pj_call (hasL_cons (has_tmp rfl) <| hasL_cons (has_tmp rfl) <| hasL_nil) (by kernel_rfl) (c_rolodexref15_Of e8)) rfl rfl rfl ?_
      refine j_pure (pj_move (has_tmp rfl)) rfl rfl rfl ?_
      refine j_pure (pj_extract (has_tmp rfl) rfl) rfl rfl rfl ?_
      refine j_pure (pj_extract (has_tmp rfl) rfl) rfl rfl rfl ?_
      refine j_alloc (x := (0, 0, ([] : List T_api_Hash))) (R := R_rolodexref15_Range) (zero_prod zero_i64 (zero_prod zero_i64 zero_sl)) (by kernel_rfl) rfl fun b3 => ?_
      refine j_store_boxx (r' := r2.1) (has_tmp rfl) (has_tmp rfl) .here (Path.all R_rolodexref15_Range) (by kernel_rfl) rfl ?_
      refine j_freezeTo (t := 8) .here (.of_lk rfl) ?_
      refine j_pure (pj_assign (has_tmp rfl)) rfl rfl rfl ?_
      refine j_end ?_
      refine run_seq ?_
      refine run_text ?_
      refine j_pure (pj_field_to (has_tmp rfl) (Path.then (Path.snd i64 (prod i64 (sl R_api_Hash))) (Path.snd i64 (sl R_api_Hash))) (by kernel_rfl)) rfl rfl rfl ?_
      refine j_pure (pj_load_to (has_tmp rfl) (by kernel_rfl)) rfl rfl rfl ?_
      refine j_pure (pj_field_to (has_tmp rfl) (Path.then (Path.snd i64 (prod i64 (sl R_api_Hash))) (Path.snd i64 (sl R_api_Hash))) (by kernel_rfl)) rfl rfl rfl ?_
      refine j_pure (pj_load_to (has_tmp rfl) (by kernel_rfl)) rfl rfl rfl ?_
      obtain ⟨x4, e9, h⟩ := bind_some h
      refine j_pure (PJ.eqv (pj_build (R := R_rolodexref16_Trail) (zero_prod zero_sl zero_sl) (by kernel_rfl) (by kernel_rfl) rfl (.cons (has_tmp rfl) (Path.fst (sl R_api_Hash) (sl R_api_Hash)) (by kernel_rfl) (.cons (has_tmp rfl) (Path.snd (sl R_api_Hash) (sl R_api_Hash)) (by kernel_rfl) .nil))) (Option.some.inj e9)) rfl rfl rfl ?_
      refine j_store_boxx (r' := x4) (has_tmp rfl) (has_tmp rfl) .here (Path.all R_rolodexref16_Trail) (by kernel_rfl) rfl ?_
      refine j_pure (pj_assign has_i64) rfl rfl rfl ?_
      refine j_end ?_
      obtain rfl := Option.some.inj h
      exact run_ret fun a w hst => q_retN hst rfl (.cons (.cell rfl .here (by kernel_rfl)) <| .cons (.tmp rfl) <| .nil) rfl () (fun _ _ h => h) (.nil)
  · rcases bool_tf (decide (p_i < (0 : Int))) with e1 | e1
    · replace e2 := bt e1 e2
      refine j_guard_no2 (j := 2) (want := false) rfl rfl rfl rfl (bl_isx e1) rfl rfl rfl ?_
      refine j_guard_no2 (j := 2) (want := false) rfl rfl rfl rfl (bl_isx e1) rfl rfl rfl ?_
      refine j_guard_no2 (j := 2) (want := false) rfl rfl rfl rfl (bl_isx e1) rfl rfl rfl ?_
      refine j_guard_no2 (j := 2) (want := false) rfl rfl rfl rfl (bl_isx e1) rfl rfl rfl ?_
      refine j_pure (PJ.eqv (R := bl) (pj_pick (t := any) (has_tmp rfl) (fun _ => has_bl) (fun he => absurd (e1.symm.trans he) (by decide))) (Option.some.inj e2)) rfl rfl rfl ?_
      exact j_to (.cons (.of_lk rfl) <| .cons (.of_lk rfl) <| .cons (.of_lk rfl) <| .cons (.of_lk rfl) <| .nil) (.cons .here <| .nil) (J ())
    · replace e2 := bf e1 e2
      refine j_pure_y (pj_move (has_tmp rfl)) rfl rfl rfl rfl (bl_isx e1) rfl rfl ?_
      refine j_pure_y (pj_move (has_tmp rfl)) rfl rfl rfl rfl (bl_isx e1) rfl rfl ?_
      refine j_pure_y (pj_len_sl (sz := 32) (has_tmp rfl) (by kernel_rfl)) rfl rfl rfl rfl (bl_isx e1) rfl rfl ?_
      refine j_pure_y (pj_igeq (has_tmp rfl) (has_tmp rfl)) rfl rfl rfl rfl (bl_isx e1) rfl rfl ?_
      refine j_pure (PJ.eqv (R := bl) (pj_pick (t := any) (has_tmp rfl) (fun he => absurd (e1.symm.trans he) (by decide)) (fun _ => (has_tmp rfl))) (Option.some.inj e2)) rfl rfl rfl ?_
      exact j_to (.cons (.of_lk rfl) <| .cons (.of_lk rfl) <| .cons (.of_lk rfl) <| .cons (.of_lk rfl) <| .nil) (.cons .here <| .nil) (J ())
set_option maxRecDepth 100000 in
set_option maxHeartbeats 4000000 in
theorem c_trail_Growth {G : GP} (hg0 : HG0 G) (hg1 : HG1 G) {p_l : List T_api_Hash} {p_m : Int} {r : T_trail_Trail × Int} (h : trail_Growth p_l p_m = some r) : Ctr Tryd.prog G 48 [(sl R_api_Hash).slot p_l, i64.slot p_m] [] (fun (_ : Unit) => tup [R_trail_Trail.slot r.1, i64.slot r.2]) (fun (_ : Unit) => []) := by
  unfold trail_Growth at h
  refine ctr_of_run Tryd.func48 rfl 24 rfl rfl fun m0 w0 b0 => ?_
  show Run _ _ _ [(0, (sl R_api_Hash).slot p_l), (1, i64.slot p_m)] _
  refine run_seq ?_
  refine run_text ?_
  refine j_alloc (x := (([] : List T_api_Hash), ([] : List T_api_Hash))) (R := R_trail_Trail) (zero_prod zero_sl zero_sl) (by kernel_rfl) rfl fun b1 => ?_
  refine j_pure (pj_assign has_i64) rfl rfl rfl ?_
  refine j_end ?_
  refine run_seq ?_
  refine run_seq ?_
  refine run_text ?_
  refine j_pure (pj_move (has_tmp rfl)) rfl rfl rfl ?_
  refine j_pure (pj_ilss (has_tmp rfl) has_i64) rfl rfl rfl ?_
  refine j_pure (pj_move (has_tmp rfl)) rfl rfl rfl ?_
  obtain ⟨y1, e2, h⟩ := bind_some h
  refine j_joinx (ι := Unit) (Γ' := fun _ => [(0, (sl R_api_Hash).slot p_l), (1, i64.slot p_m), (4, val (.pointer (some ⟨b1, 0, none⟩))), (13, bl.slot y1)]) (H' := fun _ => [box b1 64 R_trail_Trail (([] : List T_api_Hash), ([] : List T_api_Hash))]) 5 ?_ fun J => ?_
  · intro _
    clear e2
    show OpsJ _ _ _ [(0, (sl R_api_Hash).slot p_l), (1, i64.slot p_m), (4, val (.pointer (some ⟨b1, 0, none⟩))), (13, bl.slot y1)] [box b1 64 R_trail_Trail (([] : List T_api_Hash), ([] : List T_api_Hash))] _
    refine j_end ?_
    refine run_cond (has_tmp rfl) (fun e3 => ?_) (fun e3 => ?_)
    · replace h := bt e3 h
      refine run_seq ?_
      refine run_text ?_
      refine j_pure (pj_build (R := R_trail_Trail) (zero_prod zero_sl zero_sl) (by kernel_rfl) (by kernel_rfl) rfl .nil) rfl rfl rfl ?_
      obtain ⟨x1, e4, h⟩ := bind_some h
      refine j_store_boxx (r' := x1) (has_tmp rfl) (has_tmp rfl) .here (Path.all R_trail_Trail) (by kernel_rfl) (Option.some.inj e4) ?_
      refine j_pure (pj_assign has_i64) rfl rfl rfl ?_
      refine j_end ?_
      obtain rfl := Option.some.inj h
      exact run_ret fun a w hst => q_retN hst rfl (.cons (.cell rfl .here (by kernel_rfl)) <| .cons (.tmp rfl) <| .nil) rfl () (fun _ _ h => h) (.nil)
    · replace h := bf e3 h
      refine run_skip ?_
      refine run_seq ?_
      refine run_text ?_
      refine j_pure (pj_move (has_tmp rfl)) rfl rfl rfl ?_
      refine j_pure (pj_move (has_tmp rfl)) rfl rfl rfl ?_
      obtain ⟨r1, e5, h⟩ := bind_some h
      refine j_pure (pj_call (hasL_cons (has_tmp rfl) <| hasL_cons has_i64 <| hasL_cons (has_tmp rfl) <| hasL_nil) (by kernel_rfl) (c_trail_of hg0 hg1 e5)) rfl rfl rfl ?_
      refine j_pure (pj_move (has_tmp rfl)) rfl rfl rfl ?_
      refine j_pure (pj_move (has_tmp rfl)) rfl rfl rfl ?_
      refine j_pure (pj_move (has_tmp rfl)) rfl rfl rfl ?_
      refine j_pure (pj_len_sl (sz := 32) (has_tmp rfl) (by kernel_rfl)) rfl rfl rfl ?_
      obtain ⟨r2, e6, h⟩ := bind_some h
      refine j_pure (pj_call (hasL_cons (has_tmp rfl) <| hasL_cons (has_tmp rfl) <| hasL_cons (has_tmp rfl) <| hasL_nil) (by kernel_rfl) (c_trail_of hg0 hg1 e6)) rfl rfl rfl ?_
      obtain ⟨x2, e7, h⟩ := bind_some h
      refine j_pure (PJ.eqv (pj_build (R := R_trail_Trail) (zero_prod zero_sl zero_sl) (by kernel_rfl) (by kernel_rfl) rfl (.cons (has_tmp rfl) (Path.fst (sl R_api_Hash) (sl R_api_Hash)) (by kernel_rfl) (.cons (has_tmp rfl) (Path.snd (sl R_api_Hash) (sl R_api_Hash)) (by kernel_rfl) .nil))) (Option.some.inj e7)) rfl rfl rfl ?_
      refine j_store_boxx (r' := x2) (has_tmp rfl) (has_tmp rfl) .here (Path.all R_trail_Trail) (by kernel_rfl) rfl ?_
      refine j_pure (pj_assign has_i64) rfl rfl rfl ?_
      refine j_end ?_
      obtain rfl := Option.some.inj h
      exact run_ret fun a w hst => q_retN hst rfl (.cons (.cell rfl .here (by kernel_rfl)) <| .cons (.tmp rfl) <| .nil) rfl () (fun _ _ h => h) (.nil)
  · rcases bool_tf (decide (p_m < (0 : Int))) with e1 | e1
    · replace e2 := bt e1 e2
      refine j_guard_no2 (j := 2) (want := false) rfl rfl rfl rfl (bl_isx e1) rfl rfl rfl ?_
      refine j_guard_no2 (j := 2) (want := false) rfl rfl rfl rfl (bl_isx e1) rfl rfl rfl ?_
      refine j_guard_no2 (j := 2) (want := false) rfl rfl rfl rfl (bl_isx e1) rfl rfl rfl ?_
      refine j_guard_no2 (j := 2) (want := false) rfl rfl rfl rfl (bl_isx e1) rfl rfl rfl ?_
      refine j_pure (PJ.eqv (R := bl) (pj_pick (t := any) (has_tmp rfl) (fun _ => has_bl) (fun he => absurd (e1.symm.trans he) (by decide))) (Option.some.inj e2)) rfl rfl rfl ?_
      exact j_to (.cons (.of_lk rfl) <| .cons (.of_lk rfl) <| .cons (.of_lk rfl) <| .cons (.of_lk rfl) <| .nil) (.cons .here <| .nil) (J ())
    · replace e2 := bf e1 e2
      refine j_pure_y (pj_move (has_tmp rfl)) rfl rfl rfl rfl (bl_isx e1) rfl rfl ?_
      refine j_pure_y (pj_move (has_tmp rfl)) rfl rfl rfl rfl (bl_isx e1) rfl rfl ?_
      refine j_pure_y (pj_len_sl (sz := 32) (has_tmp rfl) (by kernel_rfl)) rfl rfl rfl rfl (bl_isx e1) rfl rfl ?_
      refine j_pure_y (pj_igtr (has_tmp rfl) (has_tmp rfl)) rfl rfl rfl rfl (bl_isx e1) rfl rfl ?_
      refine j_pure (PJ.eqv (R := bl) (pj_pick (t := any) (has_tmp rfl) (fun he => absurd (e1.symm.trans he) (by decide)) (fun _ => (has_tmp rfl))) (Option.some.inj e2)) rfl rfl rfl ?_
      exact j_to (.cons (.of_lk rfl) <| .cons (.of_lk rfl) <| .cons (.of_lk rfl) <| .cons (.of_lk rfl) <| .nil) (.cons .here <| .nil) (J ())
set_option maxRecDepth 100000 in
set_option maxHeartbeats 4000000 in
theorem c_rolodexref16_Growth {G : GP} {p_l : List T_api_Hash} {p_m : Int} {r : T_rolodexref16_Trail × Int} (h : rolodexref16_Growth p_l p_m = some r) : Ctr Tryd.prog G 49 [(sl R_api_Hash).slot p_l, i64.slot p_m] [] (fun (_ : Unit) => tup [R_rolodexref16_Trail.slot r.1, i64.slot r.2]) (fun (_ : Unit) => []) := by
  unfold rolodexref16_Growth at h
  refine ctr_of_run Tryd.func49 rfl 39 rfl rfl fun m0 w0 b0 => ?_
  show Run _ _ _ [(0, (sl R_api_Hash).slot p_l), (1, i64.slot p_m)] _
  refine run_seq ?_
  refine run_text ?_
  refine j_alloc (x := (([] : List T_api_Hash), ([] : List T_api_Hash))) (R := R_rolodexref16_Trail) (zero_prod zero_sl zero_sl) (by kernel_rfl) rfl fun b1 => ?_
  refine j_pure (pj_assign has_i64) rfl rfl rfl ?_
  refine j_end ?_
  refine run_seq ?_
  refine run_seq ?_
  refine run_text ?_
  refine j_pure (pj_move (has_tmp rfl)) rfl rfl rfl ?_
  refine j_pure (pj_ilss (has_tmp rfl) has_i64) rfl rfl rfl ?_
  refine j_pure (pj_move (has_tmp rfl)) rfl rfl rfl ?_
  obtain ⟨y1, e2, h⟩ := bind_some h
  refine j_joinx (ι := Unit) (Γ' := fun _ => [(0, (sl R_api_Hash).slot p_l), (1, i64.slot p_m), (4, val (.pointer (some ⟨b1, 0, none⟩))), (17, bl.slot y1)]) (H' := fun _ => [box b1 59 R_rolodexref16_Trail (([] : List T_api_Hash), ([] : List T_api_Hash))]) 5 ?_ fun J => ?_
  · intro _
    clear e2
    show OpsJ _ _ _ [(0, (sl R_api_Hash).slot p_l), (1, i64.slot p_m), (4, val (.pointer (some ⟨b1, 0, none⟩))), (17, bl.slot y1)] [box b1 59 R_rolodexref16_Trail (([] : List T_api_Hash), ([] : List T_api_Hash))] _
    refine j_end ?_
    refine run_cond (has_tmp rfl) (fun e3 => ?_) (fun e3 => ?_)
    · replace h := bt e3 h
      refine run_seq ?_
      refine run_text ?_
      refine j_pure (pj_build (R := R_rolodexref16_Trail) (zero_prod zero_sl zero_sl) (by kernel_rfl) (by kernel_rfl) rfl .nil) rfl rfl rfl ?_
      obtain ⟨x1, e4, h⟩ := bind_some h
      refine j_store_boxx (r' := x1) (has_tmp rfl) (has_tmp rfl) .here (Path.all R_rolodexref16_Trail) (by kernel_rfl) (Option.some.inj e4) ?_
      refine j_pure (pj_assign has_i64) rfl rfl rfl ?_
      refine j_end ?_
      obtain rfl := Option.some.inj h
      exact run_ret fun a w hst => q_retN hst rfl (.cons (.cell rfl .here (by kernel_rfl)) <| .cons (.tmp rfl) <| .nil) rfl () (fun _ _ h => h) (.nil)
    · replace h := bf e3 h
      refine run_skip ?_
      refine run_seq ?_
      refine run_text ?_
      refine j_pure (pj_move (has_tmp rfl)) rfl rfl rfl ?_
      refine j_pure (pj_move (has_tmp rfl)) rfl rfl rfl ?_
      obtain ⟨x2, e5, h⟩ := bind_some h
      refine j_pure (pj_slice_slx (has_tmp rfl) .no (.yes (has_tmp rfl) isInt_i64) e5 (by kernel_rfl)) rfl rfl rfl ?_
      obtain ⟨r1, e6, h⟩ := bind_some h
      refine j_pure (pj_call (hasL_cons has_i64 <| hasL_cons (has_tmp rfl) <| hasL_nil) (by kernel_rfl) (c_rolodexref15_Of e6)) rfl rfl rfl ?_
      refine j_pure (pj_move (has_tmp rfl)) rfl rfl rfl ?_
      refine j_pure (pj_extract (has_tmp rfl) rfl) rfl rfl rfl ?_
      refine j_pure (pj_extract (has_tmp rfl) rfl) rfl rfl rfl ?_
      refine j_alloc (x := (0, 0, ([] : List T_api_Hash))) (R := R_rolodexref15_Range) (zero_prod zero_i64 (zero_prod zero_i64 zero_sl)) (by kernel_rfl) rfl fun b2 => ?_
      refine j_store_boxx (r' := r1.1) (has_tmp rfl) (has_tmp rfl) .here (Path.all R_rolodexref15_Range) (by kernel_rfl) rfl ?_
      refine j_freezeTo (t := 6) .here (.of_lk rfl) ?_
      refine j_pure (pj_assign (has_tmp rfl)) rfl rfl rfl ?_
      refine j_end ?_
      refine run_seq ?_
      refine run_text ?_
      refine j_pure (pj_move (has_tmp rfl)) rfl rfl rfl ?_
      refine j_pure (pj_move (has_tmp rfl)) rfl rfl rfl ?_
      refine j_pure (pj_move (has_tmp rfl)) rfl rfl rfl ?_
      obtain ⟨x3, e7, h⟩ := bind_some h
      refine j_pure (pj_slice_slx (has_tmp rfl) (.yes (has_tmp rfl) isInt_i64) .no e7 (by kernel_rfl)) rfl rfl rfl ?_
      obtain ⟨r2, e8, h⟩ := bind_some h
      refine j_pure (pj_call (hasL_cons (has_tmp rfl) <| hasL_cons (has_tmp rfl) <| hasL_nil) (by kernel_rfl) (c_rolodexref15_Of e8)) rfl rfl rfl ?_
      refine j_pure (pj_move (has_tmp rfl)) rfl rfl rfl ?_
      refine j_pure (pj_extract (has_tmp rfl) rfl) rfl rfl rfl ?_
      refine j_pure (pj_extract (has_tmp rfl) rfl) rfl rfl rfl ?_
      refine j_alloc (x := (0, 0, ([] : List T_api_Hash))) (R := R_rolodexref15_Range) (zero_prod zero_i64 (zero_prod zero_i64 zero_sl)) (by kernel_rfl) rfl fun b3 => ?_
      refine j_store_boxx (r' := r2.1) (has_tmp rfl) (has_tmp rfl) .here (Path.all R_rolodexref15_Range) (by kernel_rfl) rfl ?_
      refine j_freezeTo (t := 8) .here (.of_lk rfl) ?_
      refine j_pure (pj_assign (has_tmp rfl)) rfl rfl rfl ?_
      refine j_end ?_
      refine run_seq ?_
      refine run_text ?_
      refine j_pure (pj_field_to (has_tmp rfl) (Path.then (Path.snd i64 (prod i64 (sl R_api_Hash))) (Path.snd i64 (sl R_api_Hash))) (by kernel_rfl)) rfl rfl rfl ?_
      refine j_pure (pj_load_to (has_tmp rfl) (by kernel_rfl)) rfl rfl rfl ?_
      refine j_pure (pj_field_to (has_tmp rfl) (Path.then (Path.snd i64 (prod i64 (sl R_api_Hash))) (Path.snd i64 (sl R_api_Hash))) (by kernel_rfl)) rfl rfl rfl ?_
      refine j_pure (pj_load_to (has_tmp rfl) (by kernel_rfl)) rfl rfl rfl ?_
      obtain ⟨x4, e9, h⟩ := bind_some h
      refine j_pure (PJ.eqv (pj_build (R := R_rolodexref16_Trail) (zero_prod zero_sl zero_sl) (by kernel_rfl) (by kernel_rfl) rfl (.cons (has_tmp rfl) (Path.fst (sl R_api_Hash) (sl R_api_Hash)) (by kernel_rfl) (.cons (has_tmp rfl) (Path.snd (sl R_api_Hash) (sl R_api_Hash)) (by kernel_rfl) .nil))) (Option.some.inj e9)) rfl rfl rfl ?_
      refine j_store_boxx (r' := x4) (has_tmp rfl) (has_tmp rfl) .here (Path.all R_rolodexref16_Trail) (by kernel_rfl) rfl ?_
      refine j_pure (pj_assign has_i64) rfl rfl rfl ?_
      refine j_end ?_
      obtain rfl := Option.some.inj h
      exact run_ret fun a w hst => q_retN hst rfl (.cons (.cell rfl .here (by kernel_rfl)) <| .cons (.tmp rfl) <| .nil) rfl () (fun _ _ h => h) (.nil)
  · rcases bool_tf (decide (p_m < (0 : Int))) with e1 | e1
    · replace e2 := bt e1 e2
      refine j_guard_no2 (j := 2) (want := false) rfl rfl rfl rfl (bl_isx e1) rfl rfl rfl ?_
      refine j_guard_no2 (j := 2) (want := false) rfl rfl rfl rfl (bl_isx e1) rfl rfl rfl ?_
      refine j_guard_no2 (j := 2) (want := false) rfl rfl rfl rfl (bl_isx e1) rfl rfl rfl ?_
      refine j_guard_no2 (j := 2) (want := false) rfl rfl rfl rfl (bl_isx e1) rfl rfl rfl ?_
      refine j_pure (PJ.eqv (R := bl) (pj_pick (t := any) (has_tmp rfl) (fun _ => has_bl) (fun he => absurd (e1.symm.trans he) (by decide))) (Option.some.inj e2)) rfl rfl rfl ?_
      exact j_to (.cons (.of_lk rfl) <| .cons (.of_lk rfl) <| .cons (.of_lk rfl) <| .cons (.of_lk rfl) <| .nil) (.cons .here <| .nil) (J ())
    · replace e2 := bf e1 e2
      refine j_pure_y (pj_move (has_tmp rfl)) rfl rfl rfl rfl (bl_isx e1) rfl rfl ?_
      refine j_pure_y (pj_move (has_tmp rfl)) rfl rfl rfl rfl (bl_isx e1) rfl rfl ?_
      refine j_pure_y (pj_len_sl (sz := 32) (has_tmp rfl) (by kernel_rfl)) rfl rfl rfl rfl (bl_isx e1) rfl rfl ?_
      refine j_pure_y (pj_igtr (has_tmp rfl) (has_tmp rfl)) rfl rfl rfl rfl (bl_isx e1) rfl rfl ?_
      refine j_pure (PJ.eqv (R := bl) (pj_pick (t := any) (has_tmp rfl) (fun he => absurd (e1.symm.trans he) (by decide)) (fun _ => (has_tmp rfl))) (Option.some.inj e2)) rfl rfl rfl ?_
      exact j_to (.cons (.of_lk rfl) <| .cons (.of_lk rfl) <| .cons (.of_lk rfl) <| .cons (.of_lk rfl) <| .nil) (.cons .here <| .nil) (J ())
set_option maxRecDepth 100000 in
set_option maxHeartbeats 4000000 in
theorem c_rolodexref15_Same {G : GP} {p_a : List T_api_Hash} {p_b : List T_api_Hash} {r : Bool} (h : rolodexref15_Same p_a p_b = some r) : Ctr Tryd.prog G 35 [(sl R_api_Hash).slot p_a, (sl R_api_Hash).slot p_b] [] (fun (_ : Unit) => bl.slot r) (fun (_ : Unit) => []) := by
  unfold rolodexref15_Same at h
  refine ctr_of_run Tryd.func35 rfl 26 rfl rfl fun m0 w0 b0 => ?_
  refine run_ret0 fun Qf hq1 hq2 => ?_
  show Run _ _ _ [(0, (sl R_api_Hash).slot p_a), (1, (sl R_api_Hash).slot p_b)] _
  refine run_seq ?_
  refine run_text ?_
  refine j_pure (pj_assign has_bl) rfl rfl rfl ?_
  refine j_end ?_
  refine run_seq ?_
  refine run_seq ?_
  refine run_text ?_
  refine j_pure (pj_move (has_tmp rfl)) rfl rfl rfl ?_
  refine j_pure (pj_len_sl (sz := 32) (has_tmp rfl) (by kernel_rfl)) rfl rfl rfl ?_
  refine j_pure (pj_move (has_tmp rfl)) rfl rfl rfl ?_
  refine j_pure (pj_len_sl (sz := 32) (has_tmp rfl) (by kernel_rfl)) rfl rfl rfl ?_
  refine j_pure (pj_ineq (has_tmp rfl) (has_tmp rfl)) rfl rfl rfl ?_
  refine j_end ?_
  refine run_cond (has_tmp rfl) (fun e1 => ?_) (fun e1 => ?_)
  · replace h := bt e1 h
    refine run_seq ?_
    refine run_text ?_
    refine j_pure (pj_assign has_bl) rfl rfl rfl ?_
    refine j_end ?_
    obtain rfl := Option.some.inj h
    exact run_ret fun a w hst => q_ret1 hst rfl (.tmp rfl) () (fun _ _ h => h) (.nil)
  · replace h := bf e1 h
    refine run_skip ?_
    refine run_seq ?_
    refine run_seq ?_
    refine run_text ?_
    refine j_pure (pj_assign has_i64) rfl rfl rfl ?_
    refine j_end ?_
    obtain ⟨o, e6, h⟩ := bind_some h
    refine run_loop (Γi := fun (i : Unit) (s : Int) => [(0, (sl R_api_Hash).slot p_a), (1, (sl R_api_Hash).slot p_b), (5, i64.slot s)]) (Hi := fun (i : Unit) (s : Int) => []) (R := fun x a w => x = r → Qf a w) e6 () (fun a w hst => (hst.sub (.cons (.of_lk rfl) <| .cons (.of_lk rfl) <| .cons (.of_lk rfl) <| .nil)).keep (.nil)) ?_ ?_ ?_
    · clear h e6
      rintro _ y1 lr h
      change rolodexref15_Same_L1 p_a p_b y1 = some _ at h
      show Run _ _ _ [(0, (sl R_api_Hash).slot p_a), (1, (sl R_api_Hash).slot p_b), (5, i64.slot y1)] []
      unfold rolodexref15_Same_L1 at h
      refine run_seq ?_
      refine run_seq ?_
      refine run_text ?_
      refine j_pure (pj_move (has_tmp rfl)) rfl rfl rfl ?_
      refine j_pure (pj_move (has_tmp rfl)) rfl rfl rfl ?_
      refine j_pure (pj_len_sl (sz := 32) (has_tmp rfl) (by kernel_rfl)) rfl rfl rfl ?_
      refine j_pure (pj_ilss (has_tmp rfl) (has_tmp rfl)) rfl rfl rfl ?_
      refine j_end ?_
      refine run_cond (has_tmp rfl) (fun e2 => ?_) (fun e2 => ?_)
      · replace h := bt e2 h
        refine run_skip ?_
        refine run_seq ?_
        refine run_block ?_
        refine run_seq ?_
        obtain ⟨x1, e3, h⟩ := bind_some h
        obtain ⟨x2, e4, h⟩ := bind_some h
        refine run_draw (n := 8) (by kernel_rfl) (by kernel_rfl) (by kernel_rfl) (by kernel_rfl) (.read (.plain rfl (pj_move (has_tmp rfl))) <| .read (.plain rfl (pj_move (has_tmp rfl))) <| .read (.plain rfl (pj_index_slx (has_tmp rfl) (has_tmp rfl) isInt_i64 e3 (by kernel_rfl))) <| .read (.plain rfl (pj_load_to (has_tmp rfl) (by kernel_rfl))) <| .read (.plain rfl (pj_move (has_tmp rfl))) <| .read (.plain rfl (pj_move (has_tmp rfl))) <| .read (.plain rfl (pj_index_slx (has_tmp rfl) (has_tmp rfl) isInt_i64 e4 (by kernel_rfl))) <| .read (.plain rfl (pj_load_to (has_tmp rfl) (by kernel_rfl))) <| .nil) (j_to (Γ' := [(0, (sl R_api_Hash).slot p_a), (1, (sl R_api_Hash).slot p_b), (5, i64.slot y1), (20, R_api_Hash.slot x1), (24, R_api_Hash.slot x2)]) (H' := []) (.cons (.of_lk rfl) <| .cons (.of_lk rfl) <| .cons (.of_lk rfl) <| .cons (.of_lk rfl) <| .cons (.of_lk rfl) <| .nil) (.nil) ?_)
        refine j_pure (pj_neq (n := 2) (eq_vec (e := 5) (by kernel_rfl) (by kernel_rfl) (eq_un (by kernel_rfl))) (by decide) rfl (by kernel_rfl) (has_tmp rfl) (has_tmp rfl)) rfl rfl rfl ?_
        refine j_end ?_
        refine run_cond (has_tmp rfl) (fun e5 => ?_) (fun e5 => ?_)
        · replace h := bt e5 h
          refine run_seq ?_
          refine run_text ?_
          refine j_pure (pj_assign has_bl) rfl rfl rfl ?_
          refine j_end ?_
          obtain rfl := Option.some.inj h
          refine run_ret fun a w hst => ⟨rfl, fun hr => ?_⟩
          subst hr
          exact hq2 a w (q_ret1 hst rfl (.tmp rfl) () (fun _ _ h => h) (.nil))
        · replace h := bf e5 h
          refine run_skip ?_
          refine run_endblock ?_
          refine run_text ?_
          refine j_pure (pj_move (has_tmp rfl)) rfl rfl rfl ?_
          refine j_pure (pj_iadd (has_tmp rfl) has_i64) rfl rfl rfl ?_
          refine j_pure (pj_assign (has_tmp rfl)) rfl rfl rfl ?_
          refine j_end ?_
          obtain rfl := Option.some.inj h
          exact run_next () (.cons (.of_lk rfl) <| .cons (.of_lk rfl) <| .cons (.of_lk rfl) <| .nil) (.nil)
      · replace h := bf e2 h
        obtain rfl := Option.some.inj h
        exact run_brk () (.cons (.of_lk rfl) <| .cons (.of_lk rfl) <| .cons (.of_lk rfl) <| .nil) (.nil)
    · rintro _ y2 ho
      subst ho
      show Run _ _ _ [(0, (sl R_api_Hash).slot p_a), (1, (sl R_api_Hash).slot p_b), (5, i64.slot y2)] []
      refine run_to (Γ' := []) (H' := []) (.nil) (.nil) ?_
      refine run_seq ?_
      refine run_text ?_
      refine j_pure (pj_assign has_bl) rfl rfl rfl ?_
      refine j_end ?_
      obtain rfl := Option.some.inj h
      exact run_ret fun a w hst => q_ret1 hst rfl (.tmp rfl) () (fun _ _ h => h) (.nil)
    · intro x a w ho hR
      subst ho
      exact hq1 a w (hR (Option.some.inj h))
set_option maxRecDepth 100000 in
set_option maxHeartbeats 4000000 in
theorem c_rolodexref16_Same {G : GP} {p_a : T_rolodexref16_Trail} {p_b : T_rolodexref16_Trail} {r : Bool} (h : rolodexref16_Same p_a p_b = some r) : Ctr Tryd.prog G 50 [R_rolodexref16_Trail.slot p_a, R_rolodexref16_Trail.slot p_b] [] (fun (_ : Unit) => bl.slot r) (fun (_ : Unit) => []) := by
  unfold rolodexref16_Same at h
  refine ctr_of_run Tryd.func50 rfl 17 rfl rfl fun m0 w0 b0 => ?_
  show Run _ _ _ [(0, R_rolodexref16_Trail.slot p_a), (1, R_rolodexref16_Trail.slot p_b)] _
  refine run_seq ?_
  refine run_text ?_
  refine j_pure (pj_box_to (has_tmp rfl)) rfl rfl rfl ?_
  refine j_pure (pj_box_to (has_tmp rfl)) rfl rfl rfl ?_
  refine j_pure (pj_assign has_bl) rfl rfl rfl ?_
  refine j_end ?_
  refine run_seq ?_
  refine run_text ?_
  refine j_pure (pj_field_to (has_tmp rfl) (Path.fst (sl R_api_Hash) (sl R_api_Hash)) (by kernel_rfl)) rfl rfl rfl ?_
  refine j_pure (pj_load_to (has_tmp rfl) (by kernel_rfl)) rfl rfl rfl ?_
  refine j_pure (pj_field_to (has_tmp rfl) (Path.fst (sl R_api_Hash) (sl R_api_Hash)) (by kernel_rfl)) rfl rfl rfl ?_
  refine j_pure (pj_load_to (has_tmp rfl) (by kernel_rfl)) rfl rfl rfl ?_
  obtain ⟨r1, e1, h⟩ := bind_some h
  refine j_pure (pj_call (hasL_cons (has_tmp rfl) <| hasL_cons (has_tmp rfl) <| hasL_nil) (by kernel_rfl) (c_rolodexref15_Same e1)) rfl rfl rfl ?_
  refine j_pure (pj_move (has_tmp rfl)) rfl rfl rfl ?_
  obtain ⟨y1, e3, h⟩ := bind_some h
  refine j_joinx (ι := Unit) (Γ' := fun _ => [(16, bl.slot y1)]) (H' := fun _ => []) 6 ?_ fun J => ?_
  · intro _
    clear e3
    show OpsJ _ _ _ [(16, bl.slot y1)] [] _
    refine j_pure (pj_assign (has_tmp rfl)) rfl rfl rfl ?_
    refine j_end ?_
    obtain rfl := Option.some.inj h
    exact run_ret fun a w hst => q_ret1 hst rfl (.tmp rfl) () (fun _ _ h => h) (.nil)
  · rcases bool_tf (r1) with e2 | e2
    · replace e3 := bt e2 e3
      refine j_pure_y (pj_field_to (has_tmp rfl) (Path.snd (sl R_api_Hash) (sl R_api_Hash)) (by kernel_rfl)) rfl rfl rfl rfl (bl_isx e2) rfl rfl ?_
      refine j_pure_y (pj_load_to (has_tmp rfl) (by kernel_rfl)) rfl rfl rfl rfl (bl_isx e2) rfl rfl ?_
      refine j_pure_y (pj_field_to (has_tmp rfl) (Path.snd (sl R_api_Hash) (sl R_api_Hash)) (by kernel_rfl)) rfl rfl rfl rfl (bl_isx e2) rfl rfl ?_
      refine j_pure_y (pj_load_to (has_tmp rfl) (by kernel_rfl)) rfl rfl rfl rfl (bl_isx e2) rfl rfl ?_
      obtain ⟨r2, e4, e3⟩ := bind_some e3
      refine j_pure_y (pj_call (hasL_cons (has_tmp rfl) <| hasL_cons (has_tmp rfl) <| hasL_nil) (by kernel_rfl) (c_rolodexref15_Same e4)) rfl rfl rfl rfl (bl_isx e2) rfl rfl ?_
      refine j_pure (PJ.eqv (R := bl) (pj_pick (t := any) (has_tmp rfl) (fun _ => (has_tmp rfl)) (fun he => absurd (e2.symm.trans he) (by decide))) (Option.some.inj e3)) rfl rfl rfl ?_
      exact j_to (.cons (.of_lk rfl) <| .nil) (.nil) (J ())
    · replace e3 := bf e2 e3
      refine j_guard_no2 (j := 5) (want := true) rfl rfl rfl rfl (bl_isx e2) rfl rfl rfl ?_
      refine j_guard_no2 (j := 5) (want := true) rfl rfl rfl rfl (bl_isx e2) rfl rfl rfl ?_
      refine j_guard_no2 (j := 5) (want := true) rfl rfl rfl rfl (bl_isx e2) rfl rfl rfl ?_
      refine j_guard_no2 (j := 5) (want := true) rfl rfl rfl rfl (bl_isx e2) rfl rfl rfl ?_
      refine j_guard_no2 (j := 5) (want := true) rfl rfl rfl rfl (bl_isx e2) rfl rfl rfl ?_
      refine j_pure (PJ.eqv (R := bl) (pj_pick (t := any) (has_tmp rfl) (fun he => absurd (e2.symm.trans he) (by decide)) (fun _ => has_bl)) (Option.some.inj e3)) rfl rfl rfl ?_
      exact j_to (.cons (.of_lk rfl) <| .nil) (.nil) (J ())
set_option maxRecDepth 100000 in
set_option maxHeartbeats 4000000 in
theorem c_rolodexlaw16_TrailTells {G : GP} (hg0 : HG0 G) (hg1 : HG1 G) (hg2 : HG2 G) (hg3 : HG3 G) {p_l : List T_api_Hash} {p_i : Int} {r : Bool} (h : rolodexlaw16_TrailTells p_l p_i = some r) : Ctr Tryd.prog G 12 [(sl R_api_Hash).slot p_l, i64.slot p_i] [] (fun (_ : Unit) => bl.slot r) (fun (_ : Unit) => []) := by
  unfold rolodexlaw16_TrailTells at h
  refine ctr_of_run Tryd.func12 rfl 63 rfl rfl fun m0 w0 b0 => ?_
  show Run _ _ _ [(0, (sl R_api_Hash).slot p_l), (1, i64.slot p_i)] _
  refine run_seq ?_
  refine run_text ?_
  refine j_pure (pj_assign has_bl) rfl rfl rfl ?_
  refine j_end ?_
  refine run_seq ?_
  refine run_seq ?_
  refine run_text ?_
  obtain ⟨r1, e1, h⟩ := bind_some h
  refine j_pure (pj_call (hasL_nil) (by kernel_rfl) (c_rolodexlaw16_awake hg0 hg1 hg2 hg3 e1)) rfl rfl rfl ?_
  refine j_pure (pj_not (has_tmp rfl)) rfl rfl rfl ?_
  refine j_pure (pj_move (has_tmp rfl)) rfl rfl rfl ?_
  obtain ⟨y1, e3, h⟩ := bind_some h
  refine j_joinx (ι := Unit) (Γ' := fun _ => [(0, (sl R_api_Hash).slot p_l), (1, i64.slot p_i), (19, bl.slot y1)]) (H' := fun _ => []) 4 ?_ fun J => ?_
  · intro _
    clear e3
    show OpsJ _ _ _ [(0, (sl R_api_Hash).slot p_l), (1, i64.slot p_i), (19, bl.slot y1)] [] _
    refine j_end ?_
    refine run_cond (has_tmp rfl) (fun e4 => ?_) (fun e4 => ?_)
    · replace h := bt e4 h
      refine run_seq ?_
      refine run_text ?_
      obtain ⟨r2, e5, h⟩ := bind_some h
      refine j_pure (pj_call (hasL_nil) (by kernel_rfl) (c_rolodexlaw16_awake hg0 hg1 hg2 hg3 e5)) rfl rfl rfl ?_
      refine j_pure (pj_assign (has_tmp rfl)) rfl rfl rfl ?_
      refine j_end ?_
      obtain rfl := Option.some.inj h
      exact run_ret fun a w hst => q_ret1 hst rfl (.tmp rfl) () (fun _ _ h => h) (.nil)
    · replace h := bf e4 h
      refine run_skip ?_
      refine run_seq ?_
      refine run_text ?_
      refine j_pure (pj_move (has_tmp rfl)) rfl rfl rfl ?_
      refine j_pure (pj_move (has_tmp rfl)) rfl rfl rfl ?_
      obtain ⟨r3, e6, h⟩ := bind_some h
      refine j_pure (pj_call (hasL_cons (has_tmp rfl) <| hasL_cons (has_tmp rfl) <| hasL_nil) (by kernel_rfl) (c_trail_Entry hg0 hg1 e6)) rfl rfl rfl ?_
      refine j_pure (pj_move (has_tmp rfl)) rfl rfl rfl ?_
      refine j_pure (pj_extract (has_tmp rfl) rfl) rfl rfl rfl ?_
      refine j_pure (pj_extract (has_tmp rfl) rfl) rfl rfl rfl ?_
      refine j_alloc (x := (([] : List T_api_Hash), ([] : List T_api_Hash))) (R := R_trail_Trail) (zero_prod zero_sl zero_sl) (by kernel_rfl) rfl fun b1 => ?_
      refine j_store_boxx (r' := r3.1) (has_tmp rfl) (has_tmp rfl) .here (Path.all R_trail_Trail) (by kernel_rfl) rfl ?_
      refine j_freezeTo (t := 5) .here (.of_lk rfl) ?_
      refine j_pure (pj_assign (has_tmp rfl)) rfl rfl rfl ?_
      refine j_end ?_
      refine run_seq ?_
      refine run_text ?_
      refine j_pure (pj_move (has_tmp rfl)) rfl rfl rfl ?_
      refine j_pure (pj_move (has_tmp rfl)) rfl rfl rfl ?_
      obtain ⟨r4, e7, h⟩ := bind_some h
      refine j_pure (pj_call (hasL_cons (has_tmp rfl) <| hasL_cons (has_tmp rfl) <| hasL_nil) (by kernel_rfl) (c_rolodexref16_Entry e7)) rfl rfl rfl ?_
      refine j_pure (pj_move (has_tmp rfl)) rfl rfl rfl ?_
      refine j_pure (pj_extract (has_tmp rfl) rfl) rfl rfl rfl ?_
      refine j_pure (pj_extract (has_tmp rfl) rfl) rfl rfl rfl ?_
      refine j_alloc (x := (([] : List T_api_Hash), ([] : List T_api_Hash))) (R := R_rolodexref16_Trail) (zero_prod zero_sl zero_sl) (by kernel_rfl) rfl fun b2 => ?_
      refine j_store_boxx (r' := r4.1) (has_tmp rfl) (has_tmp rfl) .here (Path.all R_rolodexref16_Trail) (by kernel_rfl) rfl ?_
      refine j_freezeTo (t := 7) .here (.of_lk rfl) ?_
      refine j_pure (pj_assign (has_tmp rfl)) rfl rfl rfl ?_
      refine j_end ?_
      refine run_seq ?_
      refine run_text ?_
      refine j_pure (pj_move (has_tmp rfl)) rfl rfl rfl ?_
      refine j_pure (pj_move (has_tmp rfl)) rfl rfl rfl ?_
      obtain ⟨r5, e8, h⟩ := bind_some h
      refine j_pure (pj_call (hasL_cons (has_tmp rfl) <| hasL_cons (has_tmp rfl) <| hasL_nil) (by kernel_rfl) (c_trail_Growth hg0 hg1 e8)) rfl rfl rfl ?_
      refine j_pure (pj_move (has_tmp rfl)) rfl rfl rfl ?_
      refine j_pure (pj_extract (has_tmp rfl) rfl) rfl rfl rfl ?_
      refine j_pure (pj_extract (has_tmp rfl) rfl) rfl rfl rfl ?_
      refine j_alloc (x := (([] : List T_api_Hash), ([] : List T_api_Hash))) (R := R_trail_Trail) (zero_prod zero_sl zero_sl) (by kernel_rfl) rfl fun b3 => ?_
      refine j_store_boxx (r' := r5.1) (has_tmp rfl) (has_tmp rfl) .here (Path.all R_trail_Trail) (by kernel_rfl) rfl ?_
      refine j_freezeTo (t := 9) .here (.of_lk rfl) ?_
      refine j_pure (pj_assign (has_tmp rfl)) rfl rfl rfl ?_
      refine j_end ?_
      refine run_seq ?_
      refine run_text ?_
      refine j_pure (pj_move (has_tmp rfl)) rfl rfl rfl ?_
      refine j_pure (pj_move (has_tmp rfl)) rfl rfl rfl ?_
      obtain ⟨r6, e9, h⟩ := bind_some h
      refine j_pure (pj_call (hasL_cons (has_tmp rfl) <| hasL_cons (has_tmp rfl) <| hasL_nil) (by kernel_rfl) (c_rolodexref16_Growth e9)) rfl rfl rfl ?_
      refine j_pure (pj_move (has_tmp rfl)) rfl rfl rfl ?_
      refine j_pure (pj_extract (has_tmp rfl) rfl) rfl rfl rfl ?_
      refine j_pure (pj_extract (has_tmp rfl) rfl) rfl rfl rfl ?_
      refine j_alloc (x := (([] : List T_api_Hash), ([] : List T_api_Hash))) (R := R_rolodexref16_Trail) (zero_prod zero_sl zero_sl) (by kernel_rfl) rfl fun b4 => ?_
      refine j_store_boxx (r' := r6.1) (has_tmp rfl) (has_tmp rfl) .here (Path.all R_rolodexref16_Trail) (by kernel_rfl) rfl ?_
      refine j_freezeTo (t := 11) .here (.of_lk rfl) ?_
      refine j_pure (pj_assign (has_tmp rfl)) rfl rfl rfl ?_
      refine j_end ?_
      refine run_seq ?_
      refine run_text ?_
      refine j_pure (pj_move (has_tmp rfl)) rfl rfl rfl ?_
      refine j_pure (pj_move (has_tmp rfl)) rfl rfl rfl ?_
      refine j_pure (pj_ieql (has_tmp rfl) (has_tmp rfl)) rfl rfl rfl ?_
      refine j_pure (pj_move (has_tmp rfl)) rfl rfl rfl ?_
      obtain ⟨y2, e11, h⟩ := bind_some h
      refine j_joinx (ι := Unit) (Γ' := fun _ => [(5, ptrTo R_trail_Trail r3.1), (7, ptrTo R_rolodexref16_Trail r4.1), (9, ptrTo R_trail_Trail r5.1), (11, ptrTo R_rolodexref16_Trail r6.1), (52, bl.slot y2)]) (H' := fun _ => []) 4 ?_ fun J => ?_
      · intro _
        clear e11
        show OpsJ _ _ _ [(5, ptrTo R_trail_Trail r3.1), (7, ptrTo R_rolodexref16_Trail r4.1), (9, ptrTo R_trail_Trail r5.1), (11, ptrTo R_rolodexref16_Trail r6.1), (52, bl.slot y2)] [] _
        refine j_pure (pj_move (has_tmp rfl)) rfl rfl rfl ?_
        obtain ⟨y3, e13, h⟩ := bind_some h
        refine j_joinx (ι := Unit) (Γ' := fun _ => [(9, ptrTo R_trail_Trail r5.1), (11, ptrTo R_rolodexref16_Trail r6.1), (57, bl.slot y3)]) (H' := fun _ => []) 4 ?_ fun J => ?_
        · intro _
          clear e13
          show OpsJ _ _ _ [(9, ptrTo R_trail_Trail r5.1), (11, ptrTo R_rolodexref16_Trail r6.1), (57, bl.slot y3)] [] _
          refine j_pure (pj_move (has_tmp rfl)) rfl rfl rfl ?_
          obtain ⟨y4, e16, h⟩ := bind_some h
          refine j_joinx (ι := Unit) (Γ' := fun _ => [(62, bl.slot y4)]) (H' := fun _ => []) 4 ?_ fun J => ?_
          · intro _
            clear e16
            show OpsJ _ _ _ [(62, bl.slot y4)] [] _
            refine j_pure (pj_assign (has_tmp rfl)) rfl rfl rfl ?_
            refine j_end ?_
            obtain rfl := Option.some.inj h
            exact run_ret fun a w hst => q_ret1 hst rfl (.tmp rfl) () (fun _ _ h => h) (.nil)
          · rcases bool_tf (y3) with e15 | e15
            · replace e16 := bt e15 e16
              refine j_pure_y (pj_load_to (has_tmp rfl) (by kernel_rfl)) rfl rfl rfl rfl (bl_isx e15) rfl rfl ?_
              refine j_pure_y (pj_load_to (has_tmp rfl) (by kernel_rfl)) rfl rfl rfl rfl (bl_isx e15) rfl rfl ?_
              obtain ⟨r8, e17, e16⟩ := bind_some e16
              refine j_pure_y (pj_call (hasL_cons (has_tmp rfl) <| hasL_cons (has_tmp rfl) <| hasL_nil) (by kernel_rfl) (c_rolodexref16_Same e17)) rfl rfl rfl rfl (bl_isx e15) rfl rfl ?_
              refine j_pure (PJ.eqv (R := bl) (pj_pick (t := any) (has_tmp rfl) (fun _ => (has_tmp rfl)) (fun he => absurd (e15.symm.trans he) (by decide))) (Option.some.inj e16)) rfl rfl rfl ?_
              exact j_to (.cons (.of_lk rfl) <| .nil) (.nil) (J ())
            · replace e16 := bf e15 e16
              refine j_guard_no2 (j := 13) (want := true) rfl rfl rfl rfl (bl_isx e15) rfl rfl rfl ?_
              refine j_guard_no2 (j := 13) (want := true) rfl rfl rfl rfl (bl_isx e15) rfl rfl rfl ?_
              refine j_guard_no2 (j := 13) (want := true) rfl rfl rfl rfl (bl_isx e15) rfl rfl rfl ?_
              refine j_pure (PJ.eqv (R := bl) (pj_pick (t := any) (has_tmp rfl) (fun he => absurd (e15.symm.trans he) (by decide)) (fun _ => has_bl)) (Option.some.inj e16)) rfl rfl rfl ?_
              exact j_to (.cons (.of_lk rfl) <| .nil) (.nil) (J ())
        · rcases bool_tf (y2) with e12 | e12
          · replace e13 := bt e12 e13
            refine j_pure_y (pj_load_to (has_tmp rfl) (by kernel_rfl)) rfl rfl rfl rfl (bl_isx e12) rfl rfl ?_
            refine j_pure_y (pj_load_to (has_tmp rfl) (by kernel_rfl)) rfl rfl rfl rfl (bl_isx e12) rfl rfl ?_
            obtain ⟨r7, e14, e13⟩ := bind_some e13
            refine j_pure_y (pj_call (hasL_cons (has_tmp rfl) <| hasL_cons (has_tmp rfl) <| hasL_nil) (by kernel_rfl) (c_rolodexref16_Same e14)) rfl rfl rfl rfl (bl_isx e12) rfl rfl ?_
            refine j_pure (PJ.eqv (R := bl) (pj_pick (t := any) (has_tmp rfl) (fun _ => (has_tmp rfl)) (fun he => absurd (e12.symm.trans he) (by decide))) (Option.some.inj e13)) rfl rfl rfl ?_
            exact j_to (.cons (.of_lk rfl) <| .cons (.of_lk rfl) <| .cons (.of_lk rfl) <| .nil) (.nil) (J ())
          · replace e13 := bf e12 e13
            refine j_guard_no2 (j := 8) (want := true) rfl rfl rfl rfl (bl_isx e12) rfl rfl rfl ?_
            refine j_guard_no2 (j := 8) (want := true) rfl rfl rfl rfl (bl_isx e12) rfl rfl rfl ?_
            refine j_guard_no2 (j := 8) (want := true) rfl rfl rfl rfl (bl_isx e12) rfl rfl rfl ?_
            refine j_pure (PJ.eqv (R := bl) (pj_pick (t := any) (has_tmp rfl) (fun he => absurd (e12.symm.trans he) (by decide)) (fun _ => has_bl)) (Option.some.inj e13)) rfl rfl rfl ?_
            exact j_to (.cons (.of_lk rfl) <| .cons (.of_lk rfl) <| .cons (.of_lk rfl) <| .nil) (.nil) (J ())
      · rcases bool_tf (decide (r3.2 = r4.2)) with e10 | e10
        · replace e11 := bt e10 e11
          refine j_pure_y (pj_move (has_tmp rfl)) rfl rfl rfl rfl (bl_isx e10) rfl rfl ?_
          refine j_pure_y (pj_move (has_tmp rfl)) rfl rfl rfl rfl (bl_isx e10) rfl rfl ?_
          refine j_pure_y (pj_ieql (has_tmp rfl) (has_tmp rfl)) rfl rfl rfl rfl (bl_isx e10) rfl rfl ?_
          refine j_pure (PJ.eqv (R := bl) (pj_pick (t := any) (has_tmp rfl) (fun _ => (has_tmp rfl)) (fun he => absurd (e10.symm.trans he) (by decide))) (Option.some.inj e11)) rfl rfl rfl ?_
          exact j_to (.cons (.of_lk rfl) <| .cons (.of_lk rfl) <| .cons (.of_lk rfl) <| .cons (.of_lk rfl) <| .cons (.of_lk rfl) <| .nil) (.nil) (J ())
        · replace e11 := bf e10 e11
          refine j_guard_no2 (j := 3) (want := true) rfl rfl rfl rfl (bl_isx e10) rfl rfl rfl ?_
          refine j_guard_no2 (j := 3) (want := true) rfl rfl rfl rfl (bl_isx e10) rfl rfl rfl ?_
          refine j_guard_no2 (j := 3) (want := true) rfl rfl rfl rfl (bl_isx e10) rfl rfl rfl ?_
          refine j_pure (PJ.eqv (R := bl) (pj_pick (t := any) (has_tmp rfl) (fun he => absurd (e10.symm.trans he) (by decide)) (fun _ => has_bl)) (Option.some.inj e11)) rfl rfl rfl ?_
          exact j_to (.cons (.of_lk rfl) <| .cons (.of_lk rfl) <| .cons (.of_lk rfl) <| .cons (.of_lk rfl) <| .cons (.of_lk rfl) <| .nil) (.nil) (J ())
  · rcases bool_tf (!r1) with e2 | e2
    · replace e3 := bt e2 e3
      refine j_guard_no2 (j := 2) (want := false) rfl rfl rfl rfl (bl_isx e2) rfl rfl rfl ?_
      refine j_guard_no2 (j := 2) (want := false) rfl rfl rfl rfl (bl_isx e2) rfl rfl rfl ?_
      refine j_guard_no2 (j := 2) (want := false) rfl rfl rfl rfl (bl_isx e2) rfl rfl rfl ?_
      refine j_pure (PJ.eqv (R := bl) (pj_pick (t := any) (has_tmp rfl) (fun _ => has_bl) (fun he => absurd (e2.symm.trans he) (by decide))) (Option.some.inj e3)) rfl rfl rfl ?_
      exact j_to (.cons (.of_lk rfl) <| .cons (.of_lk rfl) <| .cons (.of_lk rfl) <| .nil) (.nil) (J ())
    · replace e3 := bf e2 e3
      refine j_pure_y (pj_move (has_tmp rfl)) rfl rfl rfl rfl (bl_isx e2) rfl rfl ?_
      refine j_pure_y (pj_len_sl (sz := 32) (has_tmp rfl) (by kernel_rfl)) rfl rfl rfl rfl (bl_isx e2) rfl rfl ?_
      refine j_pure_y (pj_igtr (has_tmp rfl) has_i64) rfl rfl rfl rfl (bl_isx e2) rfl rfl ?_
      refine j_pure (PJ.eqv (R := bl) (pj_pick (t := any) (has_tmp rfl) (fun he => absurd (e2.symm.trans he) (by decide)) (fun _ => (has_tmp rfl))) (Option.some.inj e3)) rfl rfl rfl ?_
      exact j_to (.cons (.of_lk rfl) <| .cons (.of_lk rfl) <| .cons (.of_lk rfl) <| .nil) (.nil) (J ())
end Go.Sl.W
