import Derived.Test.YtheldkljmefbaaaDoorG4
import Derived.Test.YtheldkljmefbaaaDoorG2
import Derived.Test.YtheldkljmefbaaaDoorProg
set_option linter.unusedSimpArgs false
set_option linter.unusedVariables false
set_option linter.unusedSectionVars false
namespace Go.Sl.W
open Go.Proofs Go.Sl Go.Sl.M
set_option maxRecDepth 100000 in
set_option maxHeartbeats 4000000 in
theorem c_lms_node {G : GP} (hg0 : HG0 G) (hg1 : HG1 G) {p_id : T_api_ID} {p_r : Int} {p_under : Int} {p_parts : List (List (BitVec 8))} {r : T_api_Hash} (h : lms_node p_id p_r p_under p_parts = some r) : Ctr Tryd.prog G 109 [R_api_ID.slot p_id, i64.slot p_r, i64.slot p_under, (sl (sl u8)).slot p_parts] [] (fun (_ : Unit) => R_api_Hash.slot r) (fun (_ : Unit) => []) := by
  unfold lms_node at h
  refine ctr_of_run Tryd.func109 rfl 43 rfl rfl fun m0 w0 b0 => ?_
  show Run _ _ _ [(0, R_api_ID.slot p_id), (1, i64.slot p_r), (2, i64.slot p_under), (3, (sl (sl u8)).slot p_parts)] _
  refine rs ?_
  refine rt ?_
  refine jp (pj_box_to (ht rfl)) rfl rfl rfl ?_
  refine j_alloc (x := (Vector.replicate 32 (0#8))) (R := R_api_Hash) (zero_vec 32 zero_un) (by kernel_rfl) rfl fun b1 => ?_
  refine j_end ?_
  refine rs ?_
  refine rt ?_
  refine jp (pj_build (R := prod (exv (.slice none 0 0)) bl) (zero_prod zero_exv zero_bl) (by kernel_rfl) (by kernel_rfl) rfl .nil) rfl rfl rfl ?_
  refine j_box_w (T1 := 5) u8 (ht rfl) rfl fun b2 v1 => ?_
  refine jp (pa (ht rfl)) rfl rfl rfl ?_
  refine j_end ?_
  refine rs ?_
  refine rt ?_
  refine jp (pm (ht rfl)) rfl rfl rfl ?_
  refine jp (pj_slice_toF (ht rfl) (by decide) (by kernel_rfl)) rfl rfl rfl ?_
  obtain ⟨r1, e1, h⟩ := bind_some h
  refine j_call (hc (ht rfl) <| hc (ht rfl) <| hasL_nil) (by kernel_rfl) (c_wire_Writer_Plain e1) (.cons (.next .here) <| .cons .here <| .nil) rfl fun v2 => ?_
  refine j_end ?_
  refine rs ?_
  refine rt ?_
  refine jp (pm (ht rfl)) rfl rfl rfl ?_
  refine jp (pm (ht rfl)) rfl rfl rfl ?_
  refine jp (pj_conv_un (k := .u32) (b := 32) rfl rfl (by kernel_rfl) (ht rfl) isInt_i64) rfl rfl rfl ?_
  obtain ⟨r2, e2, h⟩ := bind_some h
  refine j_call (hc (ht rfl) <| hc (ht rfl) <| hasL_nil) (by kernel_rfl) (c_wire_Writer_U32 e2) (.cons .here <| .cons .here <| .nil) rfl fun v3 => ?_
  refine j_end ?_
  refine rs ?_
  refine rt ?_
  refine jp (pm (ht rfl)) rfl rfl rfl ?_
  refine jp (pm (ht rfl)) rfl rfl rfl ?_
  obtain ⟨r3, e3, h⟩ := bind_some h
  refine j_call (hc (ht rfl) <| hc (ht rfl) <| hasL_nil) (by kernel_rfl) (c_wire_Writer_U16 e3) (.cons .here <| .cons .here <| .nil) rfl fun v4 => ?_
  refine j_end ?_
  refine rs ?_
  refine rs ?_
  refine rt ?_
  refine jp (pm (ht rfl)) rfl rfl rfl ?_
  refine jp (pj_len_sl (sz := 1) (ht rfl) (by kernel_rfl)) rfl rfl rfl ?_
  refine jp (pm has_i64) rfl rfl rfl ?_
  refine j_end ?_
  obtain ⟨⟨y4, y5, y6⟩, e7, h⟩ := bind_some h
  refine run_loopS (Γi := fun (i : Value) (s : Int × Bool × (List (BitVec 8))) => [(8, val (.pointer (some ⟨b1, 0, none⟩))), (9, val (.pointer (some ⟨b2, 0, none⟩))), (26, (sl (sl u8)).slot p_parts), (27, i64.slot (p_parts.length : Int)), (28, i64.slot s.1)]) (Hi := fun (i : Value) (s : Int × Bool × (List (BitVec 8))) => [box b2 63 (prod (exv i) bl) ((), s.2.1), own 5 u8 i s.2.2, box b1 23 R_api_Hash (Vector.replicate 32 (0#8))]) e7 v4 (fun a w hst => (hst.sub (.cons (.of_lk rfl) <| .cons (.of_lk rfl) <| .cons (.of_lk rfl) <| .cons (.of_lk rfl) <| .cons (.of_lk rfl) <| .nil)).keep (.cons .here <| .cons .here <| .cons .here <| .nil)) ?_ ?_
  · clear h e7
    rintro v5 ⟨y1, y2, y3⟩ lr h
    change lms_node_L1 p_parts y1 y2 y3 = some _ at h
    show Run _ _ _ [(8, val (.pointer (some ⟨b1, 0, none⟩))), (9, val (.pointer (some ⟨b2, 0, none⟩))), (26, (sl (sl u8)).slot p_parts), (27, i64.slot (p_parts.length : Int)), (28, i64.slot y1)] [box b2 63 (prod (exv v5) bl) ((), y2), own 5 u8 v5 y3, box b1 23 R_api_Hash (Vector.replicate 32 (0#8))]
    unfold lms_node_L1 at h
    refine rs ?_
    refine rt ?_
    refine jp (pj_ilss (ht rfl) (ht rfl)) rfl rfl rfl ?_
    refine j_end ?_
    refine rs ?_
    refine run_cond (ht rfl) (fun e4 => ?_) (fun e4 => ?_)
    · replace h := bt e4 h
      refine run_skip ?_
      refine rs ?_
      refine run_block ?_
      refine rs ?_
      refine rt ?_
      obtain ⟨x1, e5, h⟩ := bind_some h
      refine jp (pj_index_slx (ht rfl) (ht rfl) isInt_i64 e5 (by kernel_rfl)) rfl rfl rfl ?_
      refine jp (pl (ht rfl) (by kernel_rfl)) rfl rfl rfl ?_
      refine jp (pa (ht rfl)) rfl rfl rfl ?_
      refine j_end ?_
      refine rt ?_
      refine jp (pm (ht rfl)) rfl rfl rfl ?_
      refine jp (pm (ht rfl)) rfl rfl rfl ?_
      obtain ⟨r4, e6, h⟩ := bind_some h
      refine j_call (hc (ht rfl) <| hc (ht rfl) <| hasL_nil) (by kernel_rfl) (c_wire_Writer_Plain e6) (.cons .here <| .cons .here <| .nil) rfl fun v6 => ?_
      refine j_end ?_
      refine run_endblock ?_
      refine rt ?_
      refine jp (pj_iadd (ht rfl) has_i64) rfl rfl rfl ?_
      refine jp (pm (ht rfl)) rfl rfl rfl ?_
      refine j_end ?_
      obtain rfl := oi h
      exact run_next v6 (.cons (.of_lk rfl) <| .cons (.of_lk rfl) <| .cons (.of_lk rfl) <| .cons (.of_lk rfl) <| .cons (.of_lk rfl) <| .nil) (.cons .here <| .cons .here <| .cons .here <| .nil)
    · replace h := bf e4 h
      obtain rfl := oi h
      exact run_brk v5 (.cons (.of_lk rfl) <| .cons (.of_lk rfl) <| .cons (.of_lk rfl) <| .cons (.of_lk rfl) <| .cons (.of_lk rfl) <| .nil) (.cons .here <| .cons .here <| .cons .here <| .nil)
  · rintro v7
    show Run _ _ _ [(8, val (.pointer (some ⟨b1, 0, none⟩))), (9, val (.pointer (some ⟨b2, 0, none⟩))), (26, (sl (sl u8)).slot p_parts), (27, i64.slot (p_parts.length : Int)), (28, i64.slot y4)] [box b2 63 (prod (exv v7) bl) ((), y5), own 5 u8 v7 y6, box b1 23 R_api_Hash (Vector.replicate 32 (0#8))]
    refine run_to (Γ' := [(8, val (.pointer (some ⟨b1, 0, none⟩))), (9, val (.pointer (some ⟨b2, 0, none⟩)))]) (H' := [box b2 63 (prod (exv v7) bl) ((), y5), own 5 u8 v7 y6, box b1 23 R_api_Hash (Vector.replicate 32 (0#8))]) (.cons (.of_lk rfl) <| .cons (.of_lk rfl) <| .nil) (.cons .here <| .cons .here <| .cons .here <| .nil) ?_
    refine rs ?_
    refine rt ?_
    refine jp (pm (ht rfl)) rfl rfl rfl ?_
    obtain ⟨r5, e8, h⟩ := bind_some h
    refine j_call (hc (ht rfl) <| hasL_nil) (by kernel_rfl) (c_wire_Writer_Out e8) (.cons .here <| .cons .here <| .nil) rfl fun ⟨v8, v9⟩ => ?_
    refine jp (pm (ht rfl)) rfl rfl rfl ?_
    refine jp (pj_extract (ht rfl) rfl) rfl rfl rfl ?_
    refine jp (pj_extract (ht rfl) rfl) rfl rfl rfl ?_
    refine jp (pa (ht rfl)) rfl rfl rfl ?_
    refine jp (pa (ht rfl)) rfl rfl rfl ?_
    refine j_end ?_
    refine rs ?_
    refine rt ?_
    refine jp (pm (ht rfl)) rfl rfl rfl ?_
    obtain ⟨r6, e9, h⟩ := bind_some h
    refine jp (pj_callB (hasBL_cons (hasB_own (ht rfl) (.next (.next .here))) <| hasBL_nil) (by kernel_rfl) (c_hash_Sum hg0 hg1 e9) (Rep.flat_slot (flat_vec _ (flat_un _ _)) _)) rfl rfl rfl ?_
    refine j_store_boxx (r' := r6) (ht rfl) (ht rfl) (.next (.next (.next .here))) (Path.all R_api_Hash) (by kernel_rfl) rfl ?_
    refine j_end ?_
    obtain rfl := oi h
    exact run_ret fun a w hst => q_ret1 hst rfl (.cell rfl .here (by kernel_rfl)) () (fun _ _ h => h) (.nil)
set_option maxRecDepth 100000 in
set_option maxHeartbeats 4000000 in
theorem c_lms_inner {G : GP} (hg0 : HG0 G) (hg1 : HG1 G) {p_id : T_api_ID} {p_r : Int} {p_a : T_api_Hash} {p_b : T_api_Hash} {r : T_api_Hash} (h : lms_inner p_id p_r p_a p_b = some r) : Ctr Tryd.prog G 90 [R_api_ID.slot p_id, i64.slot p_r, R_api_Hash.slot p_a, R_api_Hash.slot p_b] [] (fun (_ : Unit) => R_api_Hash.slot r) (fun (_ : Unit) => []) := by
  unfold lms_inner at h
  refine ctr_of_run Tryd.func90 rfl 15 rfl rfl fun m0 w0 b0 => ?_
  show Run _ _ _ [(0, R_api_ID.slot p_id), (1, i64.slot p_r), (2, R_api_Hash.slot p_a), (3, R_api_Hash.slot p_b)] _
  refine rs ?_
  refine rt ?_
  refine jp (pj_box_to (ht rfl)) rfl rfl rfl ?_
  refine jp (pj_box_to (ht rfl)) rfl rfl rfl ?_
  refine jp (pj_box_to (ht rfl)) rfl rfl rfl ?_
  refine j_alloc (x := (Vector.replicate 32 (0#8))) (R := R_api_Hash) (zero_vec 32 zero_un) (by kernel_rfl) rfl fun b1 => ?_
  refine j_end ?_
  refine rs ?_
  refine run_draw (n := 5) (by kernel_rfl) (by kernel_rfl) (by kernel_rfl) (by kernel_rfl) (.read (.plain rfl (pl (ht rfl) (by kernel_rfl))) <| .read (.plain rfl (pm (ht rfl))) <| .read (.plain rfl (pj_slice_toF (ht rfl) (by decide) (by kernel_rfl))) <| .read (.plain rfl (pj_slice_toF (ht rfl) (by decide) (by kernel_rfl))) <| .read (.plain rfl (pj_buildSlice (T := 26) (R := (sl u8)) (.cons (ht rfl) (.cons (ht rfl) .nil)) rfl (by kernel_rfl) (by kernel_rfl))) <| .nil) (j_to (Γ' := [(8, val (.pointer (some ⟨b1, 0, none⟩))), (9, R_api_ID.slot p_id), (10, i64.slot p_r), (13, (sl (sl u8)).slot ([p_a.toList, p_b.toList]))]) (H' := [box b1 23 R_api_Hash (Vector.replicate 32 (0#8))]) (.cons (.of_lk rfl) <| .cons (.of_lk rfl) <| .cons (.of_lk rfl) <| .cons (.of_lk rfl) <| .nil) (.cons .here <| .nil) ?_)
  obtain ⟨r1, e1, h⟩ := bind_some h
  refine jp (pj_call (hc (ht rfl) <| hc (ht rfl) <| hc has_i64 <| hc (ht rfl) <| hasL_nil) (by kernel_rfl) (c_lms_node hg0 hg1 e1)) rfl rfl rfl ?_
  refine j_store_boxx (r' := r1) (ht rfl) (ht rfl) .here (Path.all R_api_Hash) (by kernel_rfl) rfl ?_
  refine j_end ?_
  obtain rfl := oi h
  exact run_ret fun a w hst => q_ret1 hst rfl (.cell rfl .here (by kernel_rfl)) () (fun _ _ h => h) (.nil)
set_option maxRecDepth 100000 in
set_option maxHeartbeats 4000000 in
theorem c_lms_climb {G : GP} (hg0 : HG0 G) (hg1 : HG1 G) {p_id : T_api_ID} {p_r : Int} {p_h : T_api_Hash} {p_path : List T_api_Hash} {r : T_api_Hash} (h : lms_climb p_id p_r p_h p_path = some r) : Ctr Tryd.prog G 79 [R_api_ID.slot p_id, i64.slot p_r, R_api_Hash.slot p_h, (sl R_api_Hash).slot p_path] [] (fun (_ : Unit) => R_api_Hash.slot r) (fun (_ : Unit) => []) := by
  unfold lms_climb at h
  refine ctr_of_run Tryd.func79 rfl 35 rfl rfl fun m0 w0 b0 => ?_
  show Run _ _ _ [(0, R_api_ID.slot p_id), (1, i64.slot p_r), (2, R_api_Hash.slot p_h), (3, (sl R_api_Hash).slot p_path)] _
  refine rs ?_
  refine rt ?_
  refine jp (pj_box_to (ht rfl)) rfl rfl rfl ?_
  refine j_box (ht rfl) rfl fun b1 => ?_
  refine j_alloc (x := (Vector.replicate 32 (0#8))) (R := R_api_Hash) (zero_vec 32 zero_un) (by kernel_rfl) rfl fun b2 => ?_
  refine j_end ?_
  refine rs ?_
  refine rs ?_
  refine rt ?_
  refine jp (pm (ht rfl)) rfl rfl rfl ?_
  refine jp (pj_len_sl (sz := 32) (ht rfl) (by kernel_rfl)) rfl rfl rfl ?_
  refine jp (pm has_i64) rfl rfl rfl ?_
  refine j_end ?_
  obtain ⟨⟨y6, y7, y8⟩, e6, h⟩ := bind_some h
  refine run_loopS (Γi := fun (i : Unit) (s : Int × Int × T_api_Hash) => [(1, i64.slot s.1), (4, ptrTo R_api_ID p_id), (6, val (.pointer (some ⟨b1, 0, none⟩))), (8, val (.pointer (some ⟨b2, 0, none⟩))), (13, (sl R_api_Hash).slot p_path), (14, i64.slot (p_path.length : Int)), (15, i64.slot s.2.1)]) (Hi := fun (i : Unit) (s : Int × Int × T_api_Hash) => [box b2 23 R_api_Hash (Vector.replicate 32 (0#8)), box b1 23 R_api_Hash s.2.2]) e6 () (fun a w hst => (hst.sub (.cons (.of_lk rfl) <| .cons (.of_lk rfl) <| .cons (.of_lk rfl) <| .cons (.of_lk rfl) <| .cons (.of_lk rfl) <| .cons (.of_lk rfl) <| .cons (.of_lk rfl) <| .nil)).keep (.cons .here <| .cons .here <| .nil)) ?_ ?_
  · clear h e6
    rintro _ ⟨y1, y2, y3⟩ lr h
    change lms_climb_L1 p_path p_id y1 y2 y3 = some _ at h
    show Run _ _ _ [(1, i64.slot y1), (4, ptrTo R_api_ID p_id), (6, val (.pointer (some ⟨b1, 0, none⟩))), (8, val (.pointer (some ⟨b2, 0, none⟩))), (13, (sl R_api_Hash).slot p_path), (14, i64.slot (p_path.length : Int)), (15, i64.slot y2)] [box b2 23 R_api_Hash (Vector.replicate 32 (0#8)), box b1 23 R_api_Hash y3]
    unfold lms_climb_L1 at h
    refine rs ?_
    refine rt ?_
    refine jp (pj_ilss (ht rfl) (ht rfl)) rfl rfl rfl ?_
    refine j_end ?_
    refine rs ?_
    refine run_cond (ht rfl) (fun e1 => ?_) (fun e1 => ?_)
    · replace h := bt e1 h
      refine run_skip ?_
      refine rs ?_
      refine run_block ?_
      refine rs ?_
      refine rt ?_
      obtain ⟨x1, e2, h⟩ := bind_some h
      refine jp (pj_index_slx (ht rfl) (ht rfl) isInt_i64 e2 (by kernel_rfl)) rfl rfl rfl ?_
      refine jp (pl (ht rfl) (by kernel_rfl)) rfl rfl rfl ?_
      refine j_alloc (x := (Vector.replicate 32 (0#8))) (R := R_api_Hash) (zero_vec 32 zero_un) (by kernel_rfl) rfl fun b3 => ?_
      refine j_store_boxx (r' := x1) (ht rfl) (ht rfl) .here (Path.all R_api_Hash) (by kernel_rfl) rfl ?_
      refine j_freezeTo (t := 10) .here (.of_lk rfl) ?_
      refine j_end ?_
      refine rs ?_
      refine run_keep (H' := [box b2 23 R_api_Hash (Vector.replicate 32 (0#8)), box b1 23 R_api_Hash y3]) (.cons .here <| .cons .here <| .nil) ?_
      refine run_drawL (n := 5) (H := [box b2 23 R_api_Hash (Vector.replicate 32 (0#8)), box b1 23 R_api_Hash y3]) (Ls := [⟨[], [(2, ⟨Nat, fun (b4 : Nat) => [box b4 23 R_api_Hash (Vector.replicate 32 (0#8))], fun (b4 : Nat) => [(11, val (.pointer (some ⟨b4, 0, none⟩)))]⟩), (4, ⟨Nat, fun (b4 : Nat) => [box b4 23 R_api_Hash y3], fun (b4 : Nat) => [(11, val (.pointer (some ⟨b4, 0, none⟩)))]⟩)]⟩, ⟨[], [(3, ⟨Nat, fun (b5 : Nat) => [box b5 23 R_api_Hash (Vector.replicate 32 (0#8))], fun (b5 : Nat) => [(12, val (.pointer (some ⟨b5, 0, none⟩)))]⟩)]⟩]) (by kernel_rfl) (by kernel_rfl) (by kernel_rfl) (by kernel_rfl) (by kernel_rfl) rfl (.read rfl (.plain rfl (pj_load_box (ht rfl) (.next .here) (Path.all R_api_Hash) (by kernel_rfl))) <| .read rfl (.plain rfl (pl (ht rfl) (by kernel_rfl))) <| .step 0 rfl .here (.inl rfl) (fun i => ⟨_, _, fun j => j, (w_alloc (x := (Vector.replicate 32 (0#8))) (R := R_api_Hash) (zero_vec 32 zero_un) (by kernel_rfl) rfl), fun _ => rfl, slotAny, dst1⟩) <| .step 1 rfl .here (.inl rfl) (fun i => ⟨_, _, fun j => j, (w_alloc (x := (Vector.replicate 32 (0#8))) (R := R_api_Hash) (zero_vec 32 zero_un) (by kernel_rfl) rfl), fun _ => rfl, slotAny, dst1⟩) <| .step 0 rfl (.next .here) (.inl rfl) (fun i => ⟨_, _, fun _ => i, (w_store (r' := y3) (ht rfl) (ht rfl) .here (Path.all R_api_Hash) (by kernel_rfl) rfl), fun _ => rfl, (slotNo (s := any)), dst0⟩) <| .nil) ?_
      rintro b4 b5
      refine j_to (Γ' := [(1, i64.slot y1), (4, ptrTo R_api_ID p_id), (6, val (.pointer (some ⟨b1, 0, none⟩))), (8, val (.pointer (some ⟨b2, 0, none⟩))), (10, ptrTo R_api_Hash x1), (11, val (.pointer (some ⟨b4, 0, none⟩))), (12, val (.pointer (some ⟨b5, 0, none⟩))), (13, (sl R_api_Hash).slot p_path), (14, i64.slot (p_path.length : Int)), (15, i64.slot y2), (20, R_api_Hash.slot x1)]) (H' := [box b4 23 R_api_Hash y3, box b5 23 R_api_Hash (Vector.replicate 32 (0#8)), box b2 23 R_api_Hash (Vector.replicate 32 (0#8)), box b1 23 R_api_Hash y3]) (.cons (.of_lk rfl) <| .cons (.of_lk rfl) <| .cons (.of_lk rfl) <| .cons (.of_lk rfl) <| .cons (.of_lk rfl) <| .cons (.of_lk rfl) <| .cons (.of_lk rfl) <| .cons (.of_lk rfl) <| .cons (.of_lk rfl) <| .cons (.of_lk rfl) <| .cons (.of_lk rfl) <| .nil) (.cons .here <| .cons .here <| .cons .here <| .cons .here <| .nil) ?_
      refine j_store_boxx (r' := x1) (ht rfl) (ht rfl) (.next .here) (Path.all R_api_Hash) (by kernel_rfl) rfl ?_
      refine j_end ?_
      refine rs ?_
      refine rs ?_
      refine rt ?_
      refine jp (pm (ht rfl)) rfl rfl rfl ?_
      refine jp (pj_irem (ht rfl) has_i64 (by decide)) rfl rfl rfl ?_
      refine jp (pj_ieql (ht rfl) has_i64) rfl rfl rfl ?_
      refine j_end ?_
      obtain ⟨⟨y4, y5⟩, e4, h⟩ := bind_some h
      refine run_joinx (ι := Unit) (Γ' := fun (_ : Unit) => [(1, i64.slot y1), (4, ptrTo R_api_ID p_id), (6, val (.pointer (some ⟨b1, 0, none⟩))), (8, val (.pointer (some ⟨b2, 0, none⟩))), (11, val (.pointer (some ⟨b4, 0, none⟩))), (12, val (.pointer (some ⟨b5, 0, none⟩))), (13, (sl R_api_Hash).slot p_path), (14, i64.slot (p_path.length : Int)), (15, i64.slot y2)]) (H' := fun (_ : Unit) => [box b5 23 R_api_Hash y4, box b4 23 R_api_Hash y5, box b2 23 R_api_Hash (Vector.replicate 32 (0#8)), box b1 23 R_api_Hash y3]) ?_ fun J => ?_
      · intro _
        clear e4
        show Run _ _ _ [(1, i64.slot y1), (4, ptrTo R_api_ID p_id), (6, val (.pointer (some ⟨b1, 0, none⟩))), (8, val (.pointer (some ⟨b2, 0, none⟩))), (11, val (.pointer (some ⟨b4, 0, none⟩))), (12, val (.pointer (some ⟨b5, 0, none⟩))), (13, (sl R_api_Hash).slot p_path), (14, i64.slot (p_path.length : Int)), (15, i64.slot y2)] [box b5 23 R_api_Hash y4, box b4 23 R_api_Hash y5, box b2 23 R_api_Hash (Vector.replicate 32 (0#8)), box b1 23 R_api_Hash y3]
        refine rs ?_
        refine rt ?_
        refine jp (pm (ht rfl)) rfl rfl rfl ?_
        refine jp (pj_iquo (ht rfl) has_i64 (by decide)) rfl rfl rfl ?_
        refine jp (pa (ht rfl)) rfl rfl rfl ?_
        refine j_end ?_
        refine rt ?_
        refine jp (pl (ht rfl) (by kernel_rfl)) rfl rfl rfl ?_
        refine jp (pm (ht rfl)) rfl rfl rfl ?_
        refine jp (pj_load_box (ht rfl) (.next .here) (Path.all R_api_Hash) (by kernel_rfl)) rfl rfl rfl ?_
        refine jp (pj_load_box (ht rfl) .here (Path.all R_api_Hash) (by kernel_rfl)) rfl rfl rfl ?_
        obtain ⟨r1, e5, h⟩ := bind_some h
        refine jp (pj_call (hc (ht rfl) <| hc (ht rfl) <| hc (ht rfl) <| hc (ht rfl) <| hasL_nil) (by kernel_rfl) (c_lms_inner hg0 hg1 e5)) rfl rfl rfl ?_
        refine j_store_boxx (r' := r1) (ht rfl) (ht rfl) (.next (.next (.next .here))) (Path.all R_api_Hash) (by kernel_rfl) rfl ?_
        refine j_end ?_
        refine run_endblock ?_
        refine rt ?_
        refine jp (pj_iadd (ht rfl) has_i64) rfl rfl rfl ?_
        refine jp (pm (ht rfl)) rfl rfl rfl ?_
        refine j_end ?_
        obtain rfl := oi h
        exact run_next () (.cons (.of_lk rfl) <| .cons (.of_lk rfl) <| .cons (.of_lk rfl) <| .cons (.of_lk rfl) <| .cons (.of_lk rfl) <| .cons (.of_lk rfl) <| .cons (.of_lk rfl) <| .nil) (.cons (.next (.next (.next .here))) <| .cons .here <| .nil)
      · refine run_cond (ht rfl) (fun e3 => ?_) (fun e3 => ?_)
        · replace h := bt e3 e4
          refine run_keep (H' := [box b4 23 R_api_Hash y3, box b5 23 R_api_Hash x1, box b2 23 R_api_Hash (Vector.replicate 32 (0#8)), box b1 23 R_api_Hash y3]) (.cons (.next .here) <| .cons .here <| .cons .here <| .cons .here <| .nil) ?_
          refine run_drawL (n := 3) (H := [box b5 23 R_api_Hash x1, box b2 23 R_api_Hash (Vector.replicate 32 (0#8)), box b1 23 R_api_Hash y3]) (Ls := [⟨[box b4 23 R_api_Hash y3], [(2, ⟨Unit, fun (_ : Unit) => [box b4 23 R_api_Hash x1], fun (_ : Unit) => []⟩)]⟩]) (by kernel_rfl) (by kernel_rfl) (by kernel_rfl) (by kernel_rfl) (by kernel_rfl) rfl (.read rfl (.plain rfl (pl (ht rfl) (by kernel_rfl))) <| .read rfl (.plain rfl (pj_load_box (ht rfl) (.next (.next .here)) (Path.all R_api_Hash) (by kernel_rfl))) <| .step 0 rfl .here (.inl rfl) (fun i => ⟨_, _, fun _ => (), (w_store (r' := x1) (ht rfl) (ht rfl) .here (Path.all R_api_Hash) (by kernel_rfl) rfl), fun _ => rfl, (slotNo (s := any)), dst0⟩) <| .nil) ?_
          rintro _
          refine j_to (Γ' := [(1, i64.slot y1), (4, ptrTo R_api_ID p_id), (6, val (.pointer (some ⟨b1, 0, none⟩))), (8, val (.pointer (some ⟨b2, 0, none⟩))), (11, val (.pointer (some ⟨b4, 0, none⟩))), (12, val (.pointer (some ⟨b5, 0, none⟩))), (13, (sl R_api_Hash).slot p_path), (14, i64.slot (p_path.length : Int)), (15, i64.slot y2), (25, R_api_Hash.slot y3)]) (H' := [box b4 23 R_api_Hash x1, box b5 23 R_api_Hash x1, box b2 23 R_api_Hash (Vector.replicate 32 (0#8)), box b1 23 R_api_Hash y3]) (.cons (.of_lk rfl) <| .cons (.of_lk rfl) <| .cons (.of_lk rfl) <| .cons (.of_lk rfl) <| .cons (.of_lk rfl) <| .cons (.of_lk rfl) <| .cons (.of_lk rfl) <| .cons (.of_lk rfl) <| .cons (.of_lk rfl) <| .cons (.of_lk rfl) <| .nil) (.cons .here <| .cons .here <| .cons .here <| .cons .here <| .nil) ?_
          refine j_store_boxx (r' := y3) (ht rfl) (ht rfl) (.next .here) (Path.all R_api_Hash) (by kernel_rfl) rfl ?_
          refine j_end ?_
          obtain ⟨rfl, rfl⟩ := Prod.mk.inj (oi h)
          exact run_to (.cons (.of_lk rfl) <| .cons (.of_lk rfl) <| .cons (.of_lk rfl) <| .cons (.of_lk rfl) <| .cons (.of_lk rfl) <| .cons (.of_lk rfl) <| .cons (.of_lk rfl) <| .cons (.of_lk rfl) <| .cons (.of_lk rfl) <| .nil) (.cons .here <| .cons .here <| .cons .here <| .cons .here <| .nil) (J ())
        · replace h := bf e3 e4
          refine run_skip ?_
          obtain ⟨rfl, rfl⟩ := Prod.mk.inj (oi h)
          exact run_to (.cons (.of_lk rfl) <| .cons (.of_lk rfl) <| .cons (.of_lk rfl) <| .cons (.of_lk rfl) <| .cons (.of_lk rfl) <| .cons (.of_lk rfl) <| .cons (.of_lk rfl) <| .cons (.of_lk rfl) <| .cons (.of_lk rfl) <| .nil) (.cons .here <| .cons .here <| .cons .here <| .cons .here <| .nil) (J ())
    · replace h := bf e1 h
      obtain rfl := oi h
      exact run_brk () (.cons (.of_lk rfl) <| .cons (.of_lk rfl) <| .cons (.of_lk rfl) <| .cons (.of_lk rfl) <| .cons (.of_lk rfl) <| .cons (.of_lk rfl) <| .cons (.of_lk rfl) <| .nil) (.cons .here <| .cons .here <| .nil)
  · rintro _
    show Run _ _ _ [(1, i64.slot y6), (4, ptrTo R_api_ID p_id), (6, val (.pointer (some ⟨b1, 0, none⟩))), (8, val (.pointer (some ⟨b2, 0, none⟩))), (13, (sl R_api_Hash).slot p_path), (14, i64.slot (p_path.length : Int)), (15, i64.slot y7)] [box b2 23 R_api_Hash (Vector.replicate 32 (0#8)), box b1 23 R_api_Hash y8]
    refine run_to (Γ' := [(6, val (.pointer (some ⟨b1, 0, none⟩))), (8, val (.pointer (some ⟨b2, 0, none⟩)))]) (H' := [box b2 23 R_api_Hash (Vector.replicate 32 (0#8)), box b1 23 R_api_Hash y8]) (.cons (.of_lk rfl) <| .cons (.of_lk rfl) <| .nil) (.cons .here <| .cons .here <| .nil) ?_
    refine rs ?_
    refine rt ?_
    refine jp (pj_load_box (ht rfl) (.next .here) (Path.all R_api_Hash) (by kernel_rfl)) rfl rfl rfl ?_
    refine j_store_boxx (r' := y8) (ht rfl) (ht rfl) .here (Path.all R_api_Hash) (by kernel_rfl) rfl ?_
    refine j_end ?_
    obtain rfl := oi h
    exact run_ret fun a w hst => q_ret1 hst rfl (.cell rfl .here (by kernel_rfl)) () (fun _ _ h => h) (.nil)
set_option maxRecDepth 100000 in
set_option maxHeartbeats 4000000 in
theorem c_lms_leaf {G : GP} (hg0 : HG0 G) (hg1 : HG1 G) {p_id : T_api_ID} {p_r : Int} {p_public : T_api_Hash} {r : T_api_Hash} (h : lms_leaf p_id p_r p_public = some r) : Ctr Tryd.prog G 80 [R_api_ID.slot p_id, i64.slot p_r, R_api_Hash.slot p_public] [] (fun (_ : Unit) => R_api_Hash.slot r) (fun (_ : Unit) => []) := by
  unfold lms_leaf at h
  refine ctr_of_run Tryd.func80 rfl 12 rfl rfl fun m0 w0 b0 => ?_
  show Run _ _ _ [(0, R_api_ID.slot p_id), (1, i64.slot p_r), (2, R_api_Hash.slot p_public)] _
  refine rs ?_
  refine rt ?_
  refine jp (pj_box_to (ht rfl)) rfl rfl rfl ?_
  refine jp (pj_box_to (ht rfl)) rfl rfl rfl ?_
  refine j_alloc (x := (Vector.replicate 32 (0#8))) (R := R_api_Hash) (zero_vec 32 zero_un) (by kernel_rfl) rfl fun b1 => ?_
  refine j_end ?_
  refine rs ?_
  refine run_draw (n := 4) (by kernel_rfl) (by kernel_rfl) (by kernel_rfl) (by kernel_rfl) (.read (.plain rfl (pl (ht rfl) (by kernel_rfl))) <| .read (.plain rfl (pm (ht rfl))) <| .read (.plain rfl (pj_slice_toF (ht rfl) (by decide) (by kernel_rfl))) <| .read (.plain rfl (pj_buildSlice (T := 26) (R := (sl u8)) (.cons (ht rfl) .nil) rfl (by kernel_rfl) (by kernel_rfl))) <| .nil) (j_to (Γ' := [(6, val (.pointer (some ⟨b1, 0, none⟩))), (7, R_api_ID.slot p_id), (8, i64.slot p_r), (10, (sl (sl u8)).slot ([p_public.toList]))]) (H' := [box b1 23 R_api_Hash (Vector.replicate 32 (0#8))]) (.cons (.of_lk rfl) <| .cons (.of_lk rfl) <| .cons (.of_lk rfl) <| .cons (.of_lk rfl) <| .nil) (.cons .here <| .nil) ?_)
  obtain ⟨r1, e1, h⟩ := bind_some h
  refine jp (pj_call (hc (ht rfl) <| hc (ht rfl) <| hc has_i64 <| hc (ht rfl) <| hasL_nil) (by kernel_rfl) (c_lms_node hg0 hg1 e1)) rfl rfl rfl ?_
  refine j_store_boxx (r' := r1) (ht rfl) (ht rfl) .here (Path.all R_api_Hash) (by kernel_rfl) rfl ?_
  refine j_end ?_
  obtain rfl := oi h
  exact run_ret fun a w hst => q_ret1 hst rfl (.cell rfl .here (by kernel_rfl)) () (fun _ _ h => h) (.nil)
set_option maxRecDepth 100000 in
set_option maxHeartbeats 4000000 in
theorem c_slices_Equal_byte_byte {G : GP} {p_s1 : List (BitVec 8)} {p_s2 : List (BitVec 8)} {r : Bool} (h : slices_Equal_byte_byte p_s1 p_s2 = some r) : Ctr Tryd.prog G 81 [(sl u8).slot p_s1, (sl u8).slot p_s2] [] (fun (_ : Unit) => bl.slot r) (fun (_ : Unit) => []) := by
  unfold slices_Equal_byte_byte at h
  refine ctr_of_run Tryd.func81 rfl 26 rfl rfl fun m0 w0 b0 => ?_
  refine run_ret0 fun Qf hq1 hq2 => ?_
  show Run _ _ _ [(0, (sl u8).slot p_s1), (1, (sl u8).slot p_s2)] _
  refine rs ?_
  refine rt ?_
  refine jp (pa has_bl) rfl rfl rfl ?_
  refine j_end ?_
  refine rs ?_
  refine rs ?_
  refine rt ?_
  refine jp (pm (ht rfl)) rfl rfl rfl ?_
  refine jp (pj_len_sl (sz := 1) (ht rfl) (by kernel_rfl)) rfl rfl rfl ?_
  refine jp (pm (ht rfl)) rfl rfl rfl ?_
  refine jp (pj_len_sl (sz := 1) (ht rfl) (by kernel_rfl)) rfl rfl rfl ?_
  refine jp (pj_ineq (ht rfl) (ht rfl)) rfl rfl rfl ?_
  refine j_end ?_
  refine run_cond (ht rfl) (fun e1 => ?_) (fun e1 => ?_)
  · replace h := bt e1 h
    refine rs ?_
    refine rt ?_
    refine jp (pa has_bl) rfl rfl rfl ?_
    refine j_end ?_
    obtain rfl := oi h
    exact run_ret fun a w hst => q_ret1 hst rfl (.tmp rfl) () (fun _ _ h => h) (.nil)
  · replace h := bf e1 h
    refine run_skip ?_
    refine rs ?_
    refine rs ?_
    refine rt ?_
    refine jp (pm (ht rfl)) rfl rfl rfl ?_
    refine jp (pj_len_sl (sz := 1) (ht rfl) (by kernel_rfl)) rfl rfl rfl ?_
    refine jp (pm has_i64) rfl rfl rfl ?_
    refine j_end ?_
    obtain ⟨o, e6, h⟩ := bind_some h
    refine run_loop (Γi := fun (i : Unit) (s : Int) => [(0, (sl u8).slot p_s1), (1, (sl u8).slot p_s2), (12, i64.slot (p_s1.length : Int)), (13, i64.slot s)]) (Hi := fun (i : Unit) (s : Int) => []) (R := fun x a w => x = r → Qf a w) e6 () (fun a w hst => (hst.sub (.cons (.of_lk rfl) <| .cons (.of_lk rfl) <| .cons (.of_lk rfl) <| .cons (.of_lk rfl) <| .nil)).keep (.nil)) ?_ ?_ ?_
    · clear h e6
      rintro _ y1 lr h
      change slices_Equal_byte_byte_L1 p_s1 p_s2 y1 = some _ at h
      show Run _ _ _ [(0, (sl u8).slot p_s1), (1, (sl u8).slot p_s2), (12, i64.slot (p_s1.length : Int)), (13, i64.slot y1)] []
      unfold slices_Equal_byte_byte_L1 at h
      refine rs ?_
      refine rt ?_
      refine jp (pj_ilss (ht rfl) (ht rfl)) rfl rfl rfl ?_
      refine j_end ?_
      refine rs ?_
      refine run_cond (ht rfl) (fun e2 => ?_) (fun e2 => ?_)
      · replace h := bt e2 h
        refine run_skip ?_
        refine rs ?_
        refine run_block ?_
        refine rs ?_
        refine rt ?_
        refine jp (pm (ht rfl)) rfl rfl rfl ?_
        refine jp (pa (ht rfl)) rfl rfl rfl ?_
        refine j_end ?_
        refine rs ?_
        obtain ⟨x1, e3, h⟩ := bind_some h
        obtain ⟨x2, e4, h⟩ := bind_some h
        refine run_draw (n := 8) (by kernel_rfl) (by kernel_rfl) (by kernel_rfl) (by kernel_rfl) (.read (.plain rfl (pm (ht rfl))) <| .read (.plain rfl (pm (ht rfl))) <| .read (.plain rfl (pj_index_slx (ht rfl) (ht rfl) isInt_i64 e3 (by kernel_rfl))) <| .read (.plain rfl (pl (ht rfl) (by kernel_rfl))) <| .read (.plain rfl (pm (ht rfl))) <| .read (.plain rfl (pm (ht rfl))) <| .read (.plain rfl (pj_index_slx (ht rfl) (ht rfl) isInt_i64 e4 (by kernel_rfl))) <| .read (.plain rfl (pl (ht rfl) (by kernel_rfl))) <| .nil) (j_to (Γ' := [(0, (sl u8).slot p_s1), (1, (sl u8).slot p_s2), (12, i64.slot (p_s1.length : Int)), (13, i64.slot y1), (19, u8.slot x1), (23, u8.slot x2)]) (H' := []) (.cons (.of_lk rfl) <| .cons (.of_lk rfl) <| .cons (.of_lk rfl) <| .cons (.of_lk rfl) <| .cons (.of_lk rfl) <| .cons (.of_lk rfl) <| .nil) (.nil) ?_)
        refine jp (pj_uneq (k := .u8) (b := 8) (ht rfl) (ht rfl)) rfl rfl rfl ?_
        refine j_end ?_
        refine run_cond (ht rfl) (fun e5 => ?_) (fun e5 => ?_)
        · replace h := bt e5 h
          refine rs ?_
          refine rt ?_
          refine jp (pa has_bl) rfl rfl rfl ?_
          refine j_end ?_
          obtain rfl := oi h
          refine run_ret fun a w hst => ⟨rfl, fun hr => ?_⟩
          subst hr
          exact hq2 a w (q_ret1 hst rfl (.tmp rfl) () (fun _ _ h => h) (.nil))
        · replace h := bf e5 h
          refine run_skip ?_
          refine run_endblock ?_
          refine rt ?_
          refine jp (pj_iadd (ht rfl) has_i64) rfl rfl rfl ?_
          refine jp (pm (ht rfl)) rfl rfl rfl ?_
          refine j_end ?_
          obtain rfl := oi h
          exact run_next () (.cons (.of_lk rfl) <| .cons (.of_lk rfl) <| .cons (.of_lk rfl) <| .cons (.of_lk rfl) <| .nil) (.nil)
      · replace h := bf e2 h
        obtain rfl := oi h
        exact run_brk () (.cons (.of_lk rfl) <| .cons (.of_lk rfl) <| .cons (.of_lk rfl) <| .cons (.of_lk rfl) <| .nil) (.nil)
    · rintro _ y2 ho
      subst ho
      show Run _ _ _ [(0, (sl u8).slot p_s1), (1, (sl u8).slot p_s2), (12, i64.slot (p_s1.length : Int)), (13, i64.slot y2)] []
      refine run_to (Γ' := []) (H' := []) (.nil) (.nil) ?_
      refine rs ?_
      refine rt ?_
      refine jp (pa has_bl) rfl rfl rfl ?_
      refine j_end ?_
      obtain rfl := oi h
      exact run_ret fun a w hst => q_ret1 hst rfl (.tmp rfl) () (fun _ _ h => h) (.nil)
    · intro x a w ho hR
      subst ho
      exact hq1 a w (hR (oi h))
set_option maxRecDepth 100000 in
set_option maxHeartbeats 4000000 in
theorem c_lms_Verify {G : GP} (hg0 : HG0 G) (hg1 : HG1 G) (hg2 : HG2 G) {p_public : List (BitVec 8)} {p_message : List (BitVec 8)} {p_sig : List (BitVec 8)} {r : Bool} (h : lms_Verify p_public p_message p_sig = some r) : Ctr Tryd.prog G 56 [(sl u8).slot p_public, (sl u8).slot p_message, (sl u8).slot p_sig] [] (fun (_ : Unit) => bl.slot r) (fun (_ : Unit) => []) := by
  unfold lms_Verify at h
  refine ctr_of_run Tryd.func56 rfl 77 rfl rfl fun m0 w0 b0 => ?_
  show Run _ _ _ [(0, (sl u8).slot p_public), (1, (sl u8).slot p_message), (2, (sl u8).slot p_sig)] _
  refine rs ?_
  refine rt ?_
  refine jp (pa has_bl) rfl rfl rfl ?_
  refine j_end ?_
  refine rs ?_
  refine rs ?_
  refine rt ?_
  refine jp (pm (ht rfl)) rfl rfl rfl ?_
  refine jp (pj_len_sl (sz := 1) (ht rfl) (by kernel_rfl)) rfl rfl rfl ?_
  refine jp (pj_ineq (ht rfl) has_i64) rfl rfl rfl ?_
  refine j_end ?_
  refine run_cond (ht rfl) (fun e1 => ?_) (fun e1 => ?_)
  · replace h := bt e1 h
    refine rs ?_
    refine rt ?_
    refine jp (pa has_bl) rfl rfl rfl ?_
    refine j_end ?_
    obtain rfl := oi h
    exact run_ret fun a w hst => q_ret1 hst rfl (.tmp rfl) () (fun _ _ h => h) (.nil)
  · replace h := bf e1 h
    refine run_skip ?_
    refine rs ?_
    refine rt ?_
    refine jp (pm (ht rfl)) rfl rfl rfl ?_
    obtain ⟨r1, e2, h⟩ := bind_some h
    refine j_call (hc (ht rfl) <| hasL_nil) (by kernel_rfl) (c_wire_New e2) .nil rfl fun b1 => ?_
    refine jp (pa (ht rfl)) rfl rfl rfl ?_
    refine j_end ?_
    refine rs ?_
    refine rt ?_
    refine jp (pm (ht rfl)) rfl rfl rfl ?_
    obtain ⟨r2, e3, h⟩ := bind_some h
    refine j_call (hc (ht rfl) <| hasL_nil) (by kernel_rfl) (c_wire_Reader_U32 e3) (.cons .here <| .nil) rfl fun _ => ?_
    refine jp (pj_conv_ui (by decide) (by kernel_rfl) (ht rfl)) rfl rfl rfl ?_
    refine jp (pm (ht rfl)) rfl rfl rfl ?_
    obtain ⟨r3, e4, h⟩ := bind_some h
    refine j_call (hc (ht rfl) <| hasL_nil) (by kernel_rfl) (c_wire_Reader_U32 e4) (.cons .here <| .nil) rfl fun _ => ?_
    refine jp (pj_conv_ui (by decide) (by kernel_rfl) (ht rfl)) rfl rfl rfl ?_
    refine jp (pa (ht rfl)) rfl rfl rfl ?_
    refine jp (pa (ht rfl)) rfl rfl rfl ?_
    refine j_end ?_
    refine rs ?_
    obtain ⟨r4, e5, h⟩ := bind_some h
    obtain ⟨x1, e6, h⟩ := bind_some h
    obtain ⟨r5, e7, h⟩ := bind_some h
    refine run_keep (H' := [box b1 98 (prod (sl u8) bl) (r3.1.1, r3.1.2)]) (.cons .here <| .nil) ?_
    refine run_drawL (n := 7) (H := []) (Ls := [⟨[box b1 98 (prod (sl u8) bl) (r3.1.1, r3.1.2)], [(1, ⟨Unit, fun (_ : Unit) => [box b1 98 (prod (sl u8) bl) (r4.1.1, r4.1.2)], fun (_ : Unit) => [(29, (sl u8).slot r4.2)]⟩), (5, ⟨Unit, fun (_ : Unit) => [box b1 98 (prod (sl u8) bl) (r5.1.1, r5.1.2)], fun (_ : Unit) => [(33, (sl u8).slot r5.2), (29, (sl u8).slot r4.2)]⟩)]⟩, ⟨[], [(6, ⟨Nat, fun (b2 : Nat) => [box b2 107 R_api_ID (Vector.replicate 16 (0#8))], fun (b2 : Nat) => [(10, val (.pointer (some ⟨b2, 0, none⟩)))]⟩)]⟩]) (by kernel_rfl) (by kernel_rfl) (by kernel_rfl) (by kernel_rfl) (by kernel_rfl) rfl (.read rfl (.plain rfl (pm (ht rfl))) <| .step 0 rfl .here (.inl rfl) (fun i => ⟨_, _, fun _ => (), (w_call (hc (ht rfl) <| hc has_i64 <| hasL_nil) (by kernel_rfl) (c_wire_Reader_Plain e5) (.cons .here <| .nil) rfl), fun _ => rfl, slotIs, dst1⟩) <| .read rfl (.plain rfl (pj_s2apx (e := 5) (ht rfl) e6 rfl (by kernel_rfl))) <| .read rfl (.plain rfl (pl (ht rfl) (by kernel_rfl))) <| .read rfl (.plain rfl (pm (ht rfl))) <| .step 0 rfl (.next .here) (.inl rfl) (fun i => ⟨_, _, fun _ => (), (w_call (hc (ht rfl) <| hc has_i64 <| hasL_nil) (by kernel_rfl) (c_wire_Reader_Plain e7) (.cons .here <| .nil) rfl), fun _ => rfl, slotIs, dst1⟩) <| .step 1 rfl .here (.inl rfl) (fun i => ⟨_, _, fun j => j, (w_alloc (x := (Vector.replicate 16 (0#8))) (R := R_api_ID) (zero_vec 16 zero_un) (by kernel_rfl) rfl), fun _ => rfl, slotAny, dst1⟩) <| .nil) ?_
    rintro _ b2
    refine j_to (Γ' := [(1, (sl u8).slot p_message), (2, (sl u8).slot p_sig), (8, i64.slot (r2.2.toNat : Int)), (9, i64.slot (r3.2.toNat : Int)), (10, val (.pointer (some ⟨b2, 0, none⟩))), (31, R_api_ID.slot x1), (33, (sl u8).slot r5.2)]) (H' := [box b2 107 R_api_ID (Vector.replicate 16 (0#8))]) (.cons (.of_lk rfl) <| .cons (.of_lk rfl) <| .cons (.of_lk rfl) <| .cons (.of_lk rfl) <| .cons (.of_lk rfl) <| .cons (.of_lk rfl) <| .cons (.of_lk rfl) <| .nil) (.cons (.next .here) <| .nil) ?_
    refine j_store_boxx (r' := x1) (ht rfl) (ht rfl) .here (Path.all R_api_ID) (by kernel_rfl) rfl ?_
    refine j_freezeTo (t := 10) .here (.of_lk rfl) ?_
    refine jp (pa (ht rfl)) rfl rfl rfl ?_
    refine j_end ?_
    refine rs ?_
    refine rs ?_
    refine rt ?_
    refine jp (pm (ht rfl)) rfl rfl rfl ?_
    refine jp (pm (ht rfl)) rfl rfl rfl ?_
    obtain ⟨r6, e8, h⟩ := bind_some h
    refine jp (pj_call (hc (ht rfl) <| hc (ht rfl) <| hasL_nil) (by kernel_rfl) (c_lms_may hg2 e8)) rfl rfl rfl ?_
    refine jp (pj_not (ht rfl)) rfl rfl rfl ?_
    refine j_end ?_
    refine run_cond (ht rfl) (fun e9 => ?_) (fun e9 => ?_)
    · replace h := bt e9 h
      refine rs ?_
      refine rt ?_
      refine jp (pa has_bl) rfl rfl rfl ?_
      refine j_end ?_
      obtain rfl := oi h
      exact run_ret fun a w hst => q_ret1 hst rfl (.tmp rfl) () (fun _ _ h => h) (.nil)
    · replace h := bf e9 h
      refine run_skip ?_
      refine rs ?_
      refine rt ?_
      refine jp (pm (ht rfl)) rfl rfl rfl ?_
      refine jp (pm (ht rfl)) rfl rfl rfl ?_
      refine jp (pm (ht rfl)) rfl rfl rfl ?_
      obtain ⟨r7, e10, h⟩ := bind_some h
      refine jp (pj_call (hc (ht rfl) <| hc (ht rfl) <| hc (ht rfl) <| hasL_nil) (by kernel_rfl) (c_lms_parted hg2 e10)) rfl rfl rfl ?_
      refine jp (pm (ht rfl)) rfl rfl rfl ?_
      refine jp (pj_extract (ht rfl) rfl) rfl rfl rfl ?_
      refine jp (pj_extract (ht rfl) rfl) rfl rfl rfl ?_
      refine j_alloc (x := (0, ([] : List (BitVec 8)), ([] : List T_api_Hash))) (R := R_lms_signature) (zero_prod zero_i64 (zero_prod zero_sl zero_sl)) (by kernel_rfl) rfl fun b3 => ?_
      refine j_store_boxx (r' := r7.1) (ht rfl) (ht rfl) .here (Path.all R_lms_signature) (by kernel_rfl) rfl ?_
      refine j_freezeTo (t := 12) .here (.of_lk rfl) ?_
      refine jp (pa (ht rfl)) rfl rfl rfl ?_
      refine j_end ?_
      refine rs ?_
      refine rs ?_
      refine rt ?_
      refine jp (pm (ht rfl)) rfl rfl rfl ?_
      refine jp (pj_not (ht rfl)) rfl rfl rfl ?_
      refine j_end ?_
      refine run_cond (ht rfl) (fun e11 => ?_) (fun e11 => ?_)
      · replace h := bt e11 h
        refine rs ?_
        refine rt ?_
        refine jp (pa has_bl) rfl rfl rfl ?_
        refine j_end ?_
        obtain rfl := oi h
        exact run_ret fun a w hst => q_ret1 hst rfl (.tmp rfl) () (fun _ _ h => h) (.nil)
      · replace h := bf e11 h
        refine run_skip ?_
        refine rs ?_
        refine rt ?_
        refine jp (pl (ht rfl) (by kernel_rfl)) rfl rfl rfl ?_
        refine jp (pj_field_to (ht rfl) (Path.fst i64 (prod (sl u8) (sl R_api_Hash))) (by kernel_rfl)) rfl rfl rfl ?_
        refine jp (pl (ht rfl) (by kernel_rfl)) rfl rfl rfl ?_
        refine jp (pj_conv_un (k := .u32) (b := 32) rfl rfl (by kernel_rfl) (ht rfl) isInt_i64) rfl rfl rfl ?_
        refine jp (pm (ht rfl)) rfl rfl rfl ?_
        refine jp (pj_field_to (ht rfl) (Path.then (Path.snd i64 (prod (sl u8) (sl R_api_Hash))) (Path.fst (sl u8) (sl R_api_Hash))) (by kernel_rfl)) rfl rfl rfl ?_
        refine jp (pl (ht rfl) (by kernel_rfl)) rfl rfl rfl ?_
        obtain ⟨r8, e12, h⟩ := bind_some h
        refine jp (pj_call (hc (ht rfl) <| hc (ht rfl) <| hc (ht rfl) <| hc (ht rfl) <| hasL_nil) (by kernel_rfl) (c_lmots_Recover hg0 hg1 hg2 e12)) rfl rfl rfl ?_
        refine jp (pm (ht rfl)) rfl rfl rfl ?_
        refine jp (pj_extract (ht rfl) rfl) rfl rfl rfl ?_
        refine jp (pj_extract (ht rfl) rfl) rfl rfl rfl ?_
        refine j_alloc (x := (Vector.replicate 32 (0#8))) (R := R_api_Hash) (zero_vec 32 zero_un) (by kernel_rfl) rfl fun b4 => ?_
        refine j_store_boxx (r' := r8.1) (ht rfl) (ht rfl) .here (Path.all R_api_Hash) (by kernel_rfl) rfl ?_
        refine j_freezeTo (t := 14) .here (.of_lk rfl) ?_
        refine jp (pa (ht rfl)) rfl rfl rfl ?_
        refine j_end ?_
        refine rs ?_
        refine rs ?_
        refine rt ?_
        refine jp (pm (ht rfl)) rfl rfl rfl ?_
        refine jp (pj_not (ht rfl)) rfl rfl rfl ?_
        refine j_end ?_
        refine run_cond (ht rfl) (fun e13 => ?_) (fun e13 => ?_)
        · replace h := bt e13 h
          refine rs ?_
          refine rt ?_
          refine jp (pa has_bl) rfl rfl rfl ?_
          refine j_end ?_
          obtain rfl := oi h
          exact run_ret fun a w hst => q_ret1 hst rfl (.tmp rfl) () (fun _ _ h => h) (.nil)
        · replace h := bf e13 h
          refine run_skip ?_
          refine rs ?_
          obtain ⟨e14, h⟩ := grd_some h
          refine run_draw (n := 4) (by kernel_rfl) (by kernel_rfl) (by kernel_rfl) (by kernel_rfl) (.read (.plain rfl (pm (ht rfl))) <| .read (.plain rfl (pj_ishl has_i64 (ht rfl) isInt_i64 e14)) <| .read (.plain rfl (pj_field_to (ht rfl) (Path.fst i64 (prod (sl u8) (sl R_api_Hash))) (by kernel_rfl))) <| .read (.plain rfl (pl (ht rfl) (by kernel_rfl))) <| .nil) (j_to (Γ' := [(10, ptrTo R_api_ID x1), (11, (sl u8).slot r5.2), (12, ptrTo R_lms_signature r7.1), (14, ptrTo R_api_Hash r8.1), (61, i64.slot (ishl (1 : Int) (r2.2.toNat : Int))), (63, i64.slot r7.1.1)]) (H' := []) (.cons (.of_lk rfl) <| .cons (.of_lk rfl) <| .cons (.of_lk rfl) <| .cons (.of_lk rfl) <| .cons (.of_lk rfl) <| .cons (.of_lk rfl) <| .nil) (.nil) ?_)
          refine jp (pj_iadd (ht rfl) (ht rfl)) rfl rfl rfl ?_
          obtain ⟨x2, e15, h⟩ := bind_some h
          refine jp (PJ.eqv (pa (ht rfl)) (oi e15)) rfl rfl rfl ?_
          refine j_end ?_
          refine rs ?_
          obtain ⟨r9, e16, h⟩ := bind_some h
          obtain ⟨r10, e17, h⟩ := bind_some h
          refine run_keep (H' := []) (.nil) ?_
          refine run_drawL (n := 10) (H := []) (Ls := [⟨[], [(9, ⟨Nat, fun (b5 : Nat) => [box b5 23 R_api_Hash (Vector.replicate 32 (0#8))], fun (b5 : Nat) => [(16, val (.pointer (some ⟨b5, 0, none⟩)))]⟩)]⟩]) (by kernel_rfl) (by kernel_rfl) (by kernel_rfl) (by kernel_rfl) (by kernel_rfl) rfl (.read rfl (.plain rfl (pl (ht rfl) (by kernel_rfl))) <| .read rfl (.plain rfl (pm (ht rfl))) <| .read rfl (.plain rfl (pl (ht rfl) (by kernel_rfl))) <| .read rfl (.plain rfl (pm (ht rfl))) <| .read rfl (.plain rfl (pl (ht rfl) (by kernel_rfl))) <| .read rfl (.plain rfl (pj_call (hc (ht rfl) <| hc (ht rfl) <| hc (ht rfl) <| hasL_nil) (by kernel_rfl) (c_lms_leaf hg0 hg1 e16))) <| .read rfl (.plain rfl (pj_field_to (ht rfl) (Path.then (Path.snd i64 (prod (sl u8) (sl R_api_Hash))) (Path.snd (sl u8) (sl R_api_Hash))) (by kernel_rfl))) <| .read rfl (.plain rfl (pl (ht rfl) (by kernel_rfl))) <| .read rfl (.plain rfl (pj_call (hc (ht rfl) <| hc (ht rfl) <| hc (ht rfl) <| hc (ht rfl) <| hasL_nil) (by kernel_rfl) (c_lms_climb hg0 hg1 e17))) <| .step 0 rfl .here (.inl rfl) (fun i => ⟨_, _, fun j => j, (w_alloc (x := (Vector.replicate 32 (0#8))) (R := R_api_Hash) (zero_vec 32 zero_un) (by kernel_rfl) rfl), fun _ => rfl, slotAny, dst1⟩) <| .nil) ?_
          rintro b5
          refine j_to (Γ' := [(11, (sl u8).slot r5.2), (16, val (.pointer (some ⟨b5, 0, none⟩))), (73, R_api_Hash.slot r10)]) (H' := [box b5 23 R_api_Hash (Vector.replicate 32 (0#8))]) (.cons (.of_lk rfl) <| .cons (.of_lk rfl) <| .cons (.of_lk rfl) <| .nil) (.cons .here <| .nil) ?_
          refine j_store_boxx (r' := r10) (ht rfl) (ht rfl) .here (Path.all R_api_Hash) (by kernel_rfl) rfl ?_
          refine j_freezeTo (t := 16) .here (.of_lk rfl) ?_
          refine j_end ?_
          refine rs ?_
          refine rt ?_
          refine jp (pj_slice_toF (ht rfl) (by decide) (by kernel_rfl)) rfl rfl rfl ?_
          refine jp (pm (ht rfl)) rfl rfl rfl ?_
          obtain ⟨r11, e18, h⟩ := bind_some h
          refine jp (pj_call (hc (ht rfl) <| hc (ht rfl) <| hasL_nil) (by kernel_rfl) (c_slices_Equal_byte_byte e18)) rfl rfl rfl ?_
          refine jp (pa (ht rfl)) rfl rfl rfl ?_
          refine j_end ?_
          obtain rfl := oi h
          exact run_ret fun a w hst => q_ret1 hst rfl (.tmp rfl) () (fun _ _ h => h) (.nil)
set_option maxRecDepth 100000 in
set_option maxHeartbeats 4000000 in
theorem c_hss_Verify {G : GP} (hg0 : HG0 G) (hg1 : HG1 G) (hg2 : HG2 G) {p_public : List (BitVec 8)} {p_message : List (BitVec 8)} {p_signature : List (BitVec 8)} {r : Bool} (h : hss_Verify p_public p_message p_signature = some r) : Ctr Tryd.prog G 36 [(sl u8).slot p_public, (sl u8).slot p_message, (sl u8).slot p_signature] [] (fun (_ : Unit) => bl.slot r) (fun (_ : Unit) => []) := by
  unfold hss_Verify at h
  refine ctr_of_run Tryd.func36 rfl 60 rfl rfl fun m0 w0 b0 => ?_
  show Run _ _ _ [(0, (sl u8).slot p_public), (1, (sl u8).slot p_message), (2, (sl u8).slot p_signature)] _
  refine rs ?_
  refine rt ?_
  refine jp (pa has_bl) rfl rfl rfl ?_
  refine j_end ?_
  refine rs ?_
  refine rs ?_
  refine rt ?_
  refine jp (pm (ht rfl)) rfl rfl rfl ?_
  refine jp (pj_len_sl (sz := 1) (ht rfl) (by kernel_rfl)) rfl rfl rfl ?_
  refine jp (pj_ineq (ht rfl) has_i64) rfl rfl rfl ?_
  refine j_end ?_
  refine run_cond (ht rfl) (fun e1 => ?_) (fun e1 => ?_)
  · replace h := bt e1 h
    refine rs ?_
    refine rt ?_
    refine jp (pa has_bl) rfl rfl rfl ?_
    refine j_end ?_
    obtain rfl := oi h
    exact run_ret fun a w hst => q_ret1 hst rfl (.tmp rfl) () (fun _ _ h => h) (.nil)
  · replace h := bf e1 h
    refine run_skip ?_
    refine rs ?_
    refine rt ?_
    refine jp (pm (ht rfl)) rfl rfl rfl ?_
    obtain ⟨r1, e2, h⟩ := bind_some h
    refine j_call (hc (ht rfl) <| hasL_nil) (by kernel_rfl) (c_wire_New e2) .nil rfl fun b1 => ?_
    refine jp (pa (ht rfl)) rfl rfl rfl ?_
    refine j_end ?_
    refine rs ?_
    refine rs ?_
    refine rt ?_
    refine jp (pm (ht rfl)) rfl rfl rfl ?_
    obtain ⟨r2, e3, h⟩ := bind_some h
    refine j_call (hc (ht rfl) <| hasL_nil) (by kernel_rfl) (c_wire_Reader_U32 e3) (.cons .here <| .nil) rfl fun _ => ?_
    refine jp (pj_uneq (k := .u32) (b := 32) (ht rfl) (has_un (x := 2#32) rfl)) rfl rfl rfl ?_
    refine j_end ?_
    refine run_cond (ht rfl) (fun e4 => ?_) (fun e4 => ?_)
    · replace h := bt e4 h
      refine rs ?_
      refine rt ?_
      refine jp (pa has_bl) rfl rfl rfl ?_
      refine j_end ?_
      obtain rfl := oi h
      exact run_ret fun a w hst => q_ret1 hst rfl (.tmp rfl) () (fun _ _ h => h) (.nil)
    · replace h := bf e4 h
      refine run_skip ?_
      refine rs ?_
      refine rt ?_
      refine jp (pm (ht rfl)) rfl rfl rfl ?_
      obtain ⟨r3, e5, h⟩ := bind_some h
      refine j_call (hc (ht rfl) <| hasL_nil) (by kernel_rfl) (c_wire_Reader_U32 e5) (.cons .here <| .nil) rfl fun _ => ?_
      refine jp (pj_conv_ui (by decide) (by kernel_rfl) (ht rfl)) rfl rfl rfl ?_
      refine jp (pm (ht rfl)) rfl rfl rfl ?_
      obtain ⟨r4, e6, h⟩ := bind_some h
      refine j_call (hc (ht rfl) <| hasL_nil) (by kernel_rfl) (c_wire_Reader_U32 e6) (.cons .here <| .nil) rfl fun _ => ?_
      refine jp (pj_conv_ui (by decide) (by kernel_rfl) (ht rfl)) rfl rfl rfl ?_
      refine jp (pa (ht rfl)) rfl rfl rfl ?_
      refine jp (pa (ht rfl)) rfl rfl rfl ?_
      refine j_end ?_
      refine rs ?_
      refine rt ?_
      refine jp (pm (ht rfl)) rfl rfl rfl ?_
      obtain ⟨r5, e7, h⟩ := bind_some h
      refine j_call (hc (ht rfl) <| hasL_nil) (by kernel_rfl) (c_wire_New e7) .nil rfl fun b2 => ?_
      refine jp (pa (ht rfl)) rfl rfl rfl ?_
      refine j_end ?_
      refine rs ?_
      refine rs ?_
      refine rt ?_
      refine jp (pm (ht rfl)) rfl rfl rfl ?_
      obtain ⟨r6, e8, h⟩ := bind_some h
      refine j_call (hc (ht rfl) <| hasL_nil) (by kernel_rfl) (c_wire_Reader_U32 e8) (.cons .here <| .nil) rfl fun _ => ?_
      refine jp (pj_uneq (k := .u32) (b := 32) (ht rfl) (has_un (x := 1#32) rfl)) rfl rfl rfl ?_
      refine j_end ?_
      refine run_cond (ht rfl) (fun e9 => ?_) (fun e9 => ?_)
      · replace h := bt e9 h
        refine rs ?_
        refine rt ?_
        refine jp (pa has_bl) rfl rfl rfl ?_
        refine j_end ?_
        obtain rfl := oi h
        exact run_ret fun a w hst => q_ret1 hst rfl (.tmp rfl) () (fun _ _ h => h) (.nil)
      · replace h := bf e9 h
        refine run_skip ?_
        refine rs ?_
        refine rt ?_
        refine jp (pm (ht rfl)) rfl rfl rfl ?_
        refine jp (pm (ht rfl)) rfl rfl rfl ?_
        refine jp (pm (ht rfl)) rfl rfl rfl ?_
        obtain ⟨r7, e10, h⟩ := bind_some h
        refine jp (pj_call (hc (ht rfl) <| hc (ht rfl) <| hasL_nil) (by kernel_rfl) (c_lms_Size hg2 e10)) rfl rfl rfl ?_
        obtain ⟨r8, e11, h⟩ := bind_some h
        refine j_call (hc (ht rfl) <| hc (ht rfl) <| hasL_nil) (by kernel_rfl) (c_wire_Reader_Plain e11) (.cons .here <| .nil) rfl fun _ => ?_
        refine jp (pa (ht rfl)) rfl rfl rfl ?_
        refine j_end ?_
        refine rs ?_
        refine rt ?_
        refine jp (pm (ht rfl)) rfl rfl rfl ?_
        obtain ⟨r9, e12, h⟩ := bind_some h
        refine j_call (hc (ht rfl) <| hc has_i64 <| hasL_nil) (by kernel_rfl) (c_wire_Reader_Plain e12) (.cons .here <| .nil) rfl fun _ => ?_
        refine jp (pa (ht rfl)) rfl rfl rfl ?_
        refine j_end ?_
        refine rs ?_
        refine rt ?_
        refine jp (pm (ht rfl)) rfl rfl rfl ?_
        refine jp (pm (ht rfl)) rfl rfl rfl ?_
        obtain ⟨r10, e13, h⟩ := bind_some h
        refine jp (pj_callR (hc (ht rfl) <| hasL_nil) .here (by kernel_rfl) (fun _ => (c_wire_Reader_Left e13))) rfl rfl rfl ?_
        obtain ⟨r11, e14, h⟩ := bind_some h
        refine j_call (hc (ht rfl) <| hc (ht rfl) <| hasL_nil) (by kernel_rfl) (c_wire_Reader_Plain e14) (.cons .here <| .nil) rfl fun _ => ?_
        refine jp (pa (ht rfl)) rfl rfl rfl ?_
        refine j_end ?_
        refine rs ?_
        refine rt ?_
        refine jp (pm (ht rfl)) rfl rfl rfl ?_
        obtain ⟨r12, e15, h⟩ := bind_some h
        refine jp (pj_callR (hc (ht rfl) <| hasL_nil) .here (by kernel_rfl) (fun _ => (c_wire_Reader_Fails e15))) rfl rfl rfl ?_
        refine jp (pj_not (ht rfl)) rfl rfl rfl ?_
        refine jp (pm (ht rfl)) rfl rfl rfl ?_
        obtain ⟨y1, e17, h⟩ := bind_some h
        refine j_joinx (ι := Unit) (Γ' := fun _ => [(1, (sl u8).slot p_message), (12, (sl u8).slot r9.2), (13, (sl u8).slot r11.2), (53, bl.slot y1)]) (H' := fun _ => []) 6 ?_ fun J => ?_
        · intro _
          clear e17
          show OpsJ _ _ _ [(1, (sl u8).slot p_message), (12, (sl u8).slot r9.2), (13, (sl u8).slot r11.2), (53, bl.slot y1)] [] _
          refine jp (pm (ht rfl)) rfl rfl rfl ?_
          obtain ⟨y2, e21, h⟩ := bind_some h
          refine j_joinx (ι := Unit) (Γ' := fun _ => [(59, bl.slot y2)]) (H' := fun _ => []) 5 ?_ fun J => ?_
          · intro _
            clear e21
            show OpsJ _ _ _ [(59, bl.slot y2)] [] _
            refine jp (pa (ht rfl)) rfl rfl rfl ?_
            refine j_end ?_
            obtain rfl := oi h
            exact run_ret fun a w hst => q_ret1 hst rfl (.tmp rfl) () (fun _ _ h => h) (.nil)
          · rcases bool_tf (y1) with e20 | e20
            · replace e21 := bt e20 e21
              refine jy (pm (ht rfl)) rfl rfl rfl rfl (bl_isx e20) rfl rfl ?_
              refine jy (pm (ht rfl)) rfl rfl rfl rfl (bl_isx e20) rfl rfl ?_
              refine jy (pm (ht rfl)) rfl rfl rfl rfl (bl_isx e20) rfl rfl ?_
              obtain ⟨r14, e22, e21⟩ := bind_some e21
              refine jy (pj_call (hc (ht rfl) <| hc (ht rfl) <| hc (ht rfl) <| hasL_nil) (by kernel_rfl) (c_lms_Verify hg0 hg1 hg2 e22)) rfl rfl rfl rfl (bl_isx e20) rfl rfl ?_
              refine jp (PJ.eqv (R := bl) (pj_pick (t := any) (ht rfl) (fun _ => (ht rfl)) (fun he => absurd (e20.symm.trans he) (by decide))) (oi e21)) rfl rfl rfl ?_
              exact j_to (.cons (.of_lk rfl) <| .nil) (.nil) (J ())
            · replace e21 := bf e20 e21
              refine j_guard_no2 (j := 10) (want := true) rfl rfl rfl rfl (bl_isx e20) rfl rfl rfl ?_
              refine j_guard_no2 (j := 10) (want := true) rfl rfl rfl rfl (bl_isx e20) rfl rfl rfl ?_
              refine j_guard_no2 (j := 10) (want := true) rfl rfl rfl rfl (bl_isx e20) rfl rfl rfl ?_
              refine j_guard_no2 (j := 10) (want := true) rfl rfl rfl rfl (bl_isx e20) rfl rfl rfl ?_
              refine jp (PJ.eqv (R := bl) (pj_pick (t := any) (ht rfl) (fun he => absurd (e20.symm.trans he) (by decide)) (fun _ => has_bl)) (oi e21)) rfl rfl rfl ?_
              exact j_to (.cons (.of_lk rfl) <| .nil) (.nil) (J ())
        · rcases bool_tf (!r12) with e16 | e16
          · replace e17 := bt e16 e17
            refine jy (pm (ht rfl)) rfl rfl rfl rfl (bl_isx e16) rfl rfl ?_
            obtain ⟨x1, e18, e17⟩ := bind_some e17
            refine jy (pj_slice_slx (ht rfl) (.yes has_i64 isInt_i64) .no e18 (by kernel_rfl)) rfl rfl rfl rfl (bl_isx e16) rfl rfl ?_
            refine jy (pm (ht rfl)) rfl rfl rfl rfl (bl_isx e16) rfl rfl ?_
            refine jy (pm (ht rfl)) rfl rfl rfl rfl (bl_isx e16) rfl rfl ?_
            obtain ⟨r13, e19, e17⟩ := bind_some e17
            refine jy (pj_call (hc (ht rfl) <| hc (ht rfl) <| hc (ht rfl) <| hasL_nil) (by kernel_rfl) (c_lms_Verify hg0 hg1 hg2 e19)) rfl rfl rfl rfl (bl_isx e16) rfl rfl ?_
            refine jp (PJ.eqv (R := bl) (pj_pick (t := any) (ht rfl) (fun _ => (ht rfl)) (fun he => absurd (e16.symm.trans he) (by decide))) (oi e17)) rfl rfl rfl ?_
            exact j_to (.cons (.of_lk rfl) <| .cons (.of_lk rfl) <| .cons (.of_lk rfl) <| .cons (.of_lk rfl) <| .nil) (.nil) (J ())
          · replace e17 := bf e16 e17
            refine j_guard_no2 (j := 3) (want := true) rfl rfl rfl rfl (bl_isx e16) rfl rfl rfl ?_
            refine j_guard_no2 (j := 3) (want := true) rfl rfl rfl rfl (bl_isx e16) rfl rfl rfl ?_
            refine j_guard_no2 (j := 3) (want := true) rfl rfl rfl rfl (bl_isx e16) rfl rfl rfl ?_
            refine j_guard_no2 (j := 3) (want := true) rfl rfl rfl rfl (bl_isx e16) rfl rfl rfl ?_
            refine j_guard_no2 (j := 3) (want := true) rfl rfl rfl rfl (bl_isx e16) rfl rfl rfl ?_
            refine jp (PJ.eqv (R := bl) (pj_pick (t := any) (ht rfl) (fun he => absurd (e16.symm.trans he) (by decide)) (fun _ => has_bl)) (oi e17)) rfl rfl rfl ?_
            exact j_to (.cons (.of_lk rfl) <| .cons (.of_lk rfl) <| .cons (.of_lk rfl) <| .cons (.of_lk rfl) <| .nil) (.nil) (J ())
set_option maxRecDepth 100000 in
set_option maxHeartbeats 4000000 in
theorem c_head_Right {G : GP} (hg0 : HG0 G) (hg1 : HG1 G) (hg2 : HG2 G) {p_s : T_head_Signed} {p_public : List (BitVec 8)} {r : Bool} (h : head_Right p_s p_public = some r) : Ctr Tryd.prog G 14 [R_head_Signed.slot p_s, (sl u8).slot p_public] [] (fun (_ : Unit) => bl.slot r) (fun (_ : Unit) => []) := by
  unfold head_Right at h
  refine ctr_of_run Tryd.func14 rfl 22 rfl rfl fun m0 w0 b0 => ?_
  show Run _ _ _ [(0, R_head_Signed.slot p_s), (1, (sl u8).slot p_public)] _
  refine rs ?_
  refine rt ?_
  refine jp (pj_box_to (ht rfl)) rfl rfl rfl ?_
  refine jp (pa has_bl) rfl rfl rfl ?_
  refine j_end ?_
  refine rs ?_
  refine rt ?_
  refine jp (pj_field_to (ht rfl) (Path.fst R_head_Head (sl u8)) (by kernel_rfl)) rfl rfl rfl ?_
  refine jp (pl (ht rfl) (by kernel_rfl)) rfl rfl rfl ?_
  obtain ⟨r1, e1, h⟩ := bind_some h
  refine jp (pj_call (hc (ht rfl) <| hasL_nil) (by kernel_rfl) (Ctr.froze2 (c_head_Encode e1))) rfl rfl rfl ?_
  refine jp (pm (ht rfl)) rfl rfl rfl ?_
  refine jp (pj_extract (ht rfl) rfl) rfl rfl rfl ?_
  refine jp (pj_extract (ht rfl) rfl) rfl rfl rfl ?_
  refine jp (pa (ht rfl)) rfl rfl rfl ?_
  refine jp (pa (ht rfl)) rfl rfl rfl ?_
  refine j_end ?_
  refine rs ?_
  refine rt ?_
  refine jp (pm (ht rfl)) rfl rfl rfl ?_
  refine jp (pj_ieql (ht rfl) has_i64) rfl rfl rfl ?_
  refine jp (pm (ht rfl)) rfl rfl rfl ?_
  obtain ⟨y1, e3, h⟩ := bind_some h
  refine j_joinx (ι := Unit) (Γ' := fun _ => [(21, bl.slot y1)]) (H' := fun _ => []) 6 ?_ fun J => ?_
  · intro _
    clear e3
    show OpsJ _ _ _ [(21, bl.slot y1)] [] _
    refine jp (pa (ht rfl)) rfl rfl rfl ?_
    refine j_end ?_
    obtain rfl := oi h
    exact run_ret fun a w hst => q_ret1 hst rfl (.tmp rfl) () (fun _ _ h => h) (.nil)
  · rcases bool_tf (decide (r1.2 = (0 : Int))) with e2 | e2
    · replace e3 := bt e2 e3
      refine jy (pm (ht rfl)) rfl rfl rfl rfl (bl_isx e2) rfl rfl ?_
      refine jy (pm (ht rfl)) rfl rfl rfl rfl (bl_isx e2) rfl rfl ?_
      refine jy (pj_field_to (ht rfl) (Path.snd R_head_Head (sl u8)) (by kernel_rfl)) rfl rfl rfl rfl (bl_isx e2) rfl rfl ?_
      refine jy (pl (ht rfl) (by kernel_rfl)) rfl rfl rfl rfl (bl_isx e2) rfl rfl ?_
      obtain ⟨r2, e4, e3⟩ := bind_some e3
      refine jy (pj_call (hc (ht rfl) <| hc (ht rfl) <| hc (ht rfl) <| hasL_nil) (by kernel_rfl) (c_hss_Verify hg0 hg1 hg2 e4)) rfl rfl rfl rfl (bl_isx e2) rfl rfl ?_
      refine jp (PJ.eqv (R := bl) (pj_pick (t := any) (ht rfl) (fun _ => (ht rfl)) (fun he => absurd (e2.symm.trans he) (by decide))) (oi e3)) rfl rfl rfl ?_
      exact j_to (.cons (.of_lk rfl) <| .nil) (.nil) (J ())
    · replace e3 := bf e2 e3
      refine j_guard_no2 (j := 2) (want := true) rfl rfl rfl rfl (bl_isx e2) rfl rfl rfl ?_
      refine j_guard_no2 (j := 2) (want := true) rfl rfl rfl rfl (bl_isx e2) rfl rfl rfl ?_
      refine j_guard_no2 (j := 2) (want := true) rfl rfl rfl rfl (bl_isx e2) rfl rfl rfl ?_
      refine j_guard_no2 (j := 2) (want := true) rfl rfl rfl rfl (bl_isx e2) rfl rfl rfl ?_
      refine j_guard_no2 (j := 2) (want := true) rfl rfl rfl rfl (bl_isx e2) rfl rfl rfl ?_
      refine jp (PJ.eqv (R := bl) (pj_pick (t := any) (ht rfl) (fun he => absurd (e2.symm.trans he) (by decide)) (fun _ => has_bl)) (oi e3)) rfl rfl rfl ?_
      exact j_to (.cons (.of_lk rfl) <| .nil) (.nil) (J ())
set_option maxRecDepth 100000 in
set_option maxHeartbeats 4000000 in
theorem c_hash_Text {G : GP} {p_tag : BitVec 8} {p_parts : List (List (BitVec 8))} {r : (List (BitVec 8))} (h : hash_Text p_tag p_parts = some r) : Ctr Tryd.prog G 117 [u8.slot p_tag, (sl (sl u8)).slot p_parts] [] (fun (u0 : Value) => ov u0) (fun (u0 : Value) => [own 5 u8 u0 r]) := by
  unfold hash_Text at h
  refine ctr_of_run Tryd.func117 rfl 58 rfl rfl fun m0 w0 b0 => ?_
  show Run _ _ _ [(0, u8.slot p_tag), (1, (sl (sl u8)).slot p_parts)] _
  refine rs ?_
  refine rt ?_
  refine j_assign_nil (T := 5) u8 rfl fun v1 => ?_
  refine j_end ?_
  refine rs ?_
  refine rt ?_
  refine jp (pa has_i64) rfl rfl rfl ?_
  refine j_end ?_
  refine rs ?_
  refine rs ?_
  refine rt ?_
  refine jp (pm (ht rfl)) rfl rfl rfl ?_
  refine jp (pj_len_sl (sz := 1) (ht rfl) (by kernel_rfl)) rfl rfl rfl ?_
  refine jp (pm has_i64) rfl rfl rfl ?_
  refine j_end ?_
  obtain ⟨⟨y3, y4⟩, e4, h⟩ := bind_some h
  refine run_loopS (Γi := fun (i : Unit) (s : Int × Int) => [(0, u8.slot p_tag), (1, (sl (sl u8)).slot p_parts), (5, i64.slot s.1), (12, (sl (sl u8)).slot p_parts), (13, i64.slot (p_parts.length : Int)), (14, i64.slot s.2)]) (Hi := fun (i : Unit) (s : Int × Int) => []) e4 () (fun a w hst => (hst.sub (.cons (.of_lk rfl) <| .cons (.of_lk rfl) <| .cons (.of_lk rfl) <| .cons (.of_lk rfl) <| .cons (.of_lk rfl) <| .cons (.of_lk rfl) <| .nil)).keep (.nil)) ?_ ?_
  · clear h e4
    rintro _ ⟨y1, y2⟩ lr h
    change hash_Text_L1 p_parts y1 y2 = some _ at h
    show Run _ _ _ [(0, u8.slot p_tag), (1, (sl (sl u8)).slot p_parts), (5, i64.slot y1), (12, (sl (sl u8)).slot p_parts), (13, i64.slot (p_parts.length : Int)), (14, i64.slot y2)] []
    unfold hash_Text_L1 at h
    refine rs ?_
    refine rt ?_
    refine jp (pj_ilss (ht rfl) (ht rfl)) rfl rfl rfl ?_
    refine j_end ?_
    refine rs ?_
    refine run_cond (ht rfl) (fun e1 => ?_) (fun e1 => ?_)
    · replace h := bt e1 h
      refine run_skip ?_
      refine rs ?_
      refine run_block ?_
      refine rs ?_
      refine rt ?_
      obtain ⟨x1, e2, h⟩ := bind_some h
      refine jp (pj_index_slx (ht rfl) (ht rfl) isInt_i64 e2 (by kernel_rfl)) rfl rfl rfl ?_
      refine jp (pl (ht rfl) (by kernel_rfl)) rfl rfl rfl ?_
      refine jp (pa (ht rfl)) rfl rfl rfl ?_
      refine j_end ?_
      refine rt ?_
      refine jp (pm (ht rfl)) rfl rfl rfl ?_
      refine jp (pm (ht rfl)) rfl rfl rfl ?_
      refine jp (pj_len_sl (sz := 1) (ht rfl) (by kernel_rfl)) rfl rfl rfl ?_
      refine jp (pj_iadd has_i64 (ht rfl)) rfl rfl rfl ?_
      refine jp (pj_iadd (ht rfl) (ht rfl)) rfl rfl rfl ?_
      obtain ⟨x2, e3, h⟩ := bind_some h
      refine jp (PJ.eqv (pa (ht rfl)) (oi e3)) rfl rfl rfl ?_
      refine j_end ?_
      refine run_endblock ?_
      refine rt ?_
      refine jp (pj_iadd (ht rfl) has_i64) rfl rfl rfl ?_
      refine jp (pm (ht rfl)) rfl rfl rfl ?_
      refine j_end ?_
      obtain rfl := oi h
      exact run_next () (.cons (.of_lk rfl) <| .cons (.of_lk rfl) <| .cons (.of_lk rfl) <| .cons (.of_lk rfl) <| .cons (.of_lk rfl) <| .cons (.of_lk rfl) <| .nil) (.nil)
    · replace h := bf e1 h
      obtain rfl := oi h
      exact run_brk () (.cons (.of_lk rfl) <| .cons (.of_lk rfl) <| .cons (.of_lk rfl) <| .cons (.of_lk rfl) <| .cons (.of_lk rfl) <| .cons (.of_lk rfl) <| .nil) (.nil)
  · rintro _
    show Run _ _ _ [(0, u8.slot p_tag), (1, (sl (sl u8)).slot p_parts), (5, i64.slot y3), (12, (sl (sl u8)).slot p_parts), (13, i64.slot (p_parts.length : Int)), (14, i64.slot y4)] []
    refine run_to (Γ' := [(0, u8.slot p_tag), (1, (sl (sl u8)).slot p_parts), (5, i64.slot y3)]) (H' := []) (.cons (.of_lk rfl) <| .cons (.of_lk rfl) <| .cons (.of_lk rfl) <| .nil) (.nil) ?_
    refine rs ?_
    refine rt ?_
    refine jp (pm (ht rfl)) rfl rfl rfl ?_
    obtain ⟨e5, h⟩ := grd_some h
    refine j_makeSlice (T := 5) (R := u8) (z := (0#8)) has_i64 (ht rfl) (by decide) e5.1 e5.2 (by kernel_rfl) zero_un (by kernel_rfl) rfl fun v2 => ?_
    refine jp (pa (ht rfl)) rfl rfl rfl ?_
    refine j_end ?_
    refine rs ?_
    refine rt ?_
    refine jp (pm (ht rfl)) rfl rfl rfl ?_
    refine jp (pm (ht rfl)) rfl rfl rfl ?_
    refine jp (pj_buildSlice (T := 5) (R := u8) (.cons (ht rfl) .nil) rfl (by kernel_rfl) (by kernel_rfl)) rfl rfl rfl ?_
    obtain ⟨e6, h⟩ := grd_some h
    refine j_append (T := 5) (E := 5) (ht rfl) .here (src_data (ht rfl)) (by kernel_rfl) (by kernel_rfl) e6 rfl fun v3 => ?_
    refine jp (pa (ht rfl)) rfl rfl rfl ?_
    refine j_end ?_
    refine rs ?_
    refine rs ?_
    refine rt ?_
    refine jp (pm (ht rfl)) rfl rfl rfl ?_
    refine jp (pj_len_sl (sz := 1) (ht rfl) (by kernel_rfl)) rfl rfl rfl ?_
    refine jp (pm has_i64) rfl rfl rfl ?_
    refine j_end ?_
    obtain ⟨⟨y7, y8⟩, e11, h⟩ := bind_some h
    refine run_loopS (Γi := fun (i : Value) (s : Int × (List (BitVec 8))) => [(8, ov i), (30, (sl (sl u8)).slot p_parts), (31, i64.slot (p_parts.length : Int)), (32, i64.slot s.1)]) (Hi := fun (i : Value) (s : Int × (List (BitVec 8))) => [own 5 u8 i s.2]) e11 v3 (fun a w hst => (hst.sub (.cons (.of_lk rfl) <| .cons (.of_lk rfl) <| .cons (.of_lk rfl) <| .cons (.of_lk rfl) <| .nil)).keep (.cons .here <| .nil)) ?_ ?_
    · clear h e11
      rintro v4 ⟨y5, y6⟩ lr h
      change hash_Text_L2 p_parts y5 y6 = some _ at h
      show Run _ _ _ [(8, ov v4), (30, (sl (sl u8)).slot p_parts), (31, i64.slot (p_parts.length : Int)), (32, i64.slot y5)] [own 5 u8 v4 y6]
      unfold hash_Text_L2 at h
      refine rs ?_
      refine rt ?_
      refine jp (pj_ilss (ht rfl) (ht rfl)) rfl rfl rfl ?_
      refine j_end ?_
      refine rs ?_
      refine run_cond (ht rfl) (fun e7 => ?_) (fun e7 => ?_)
      · replace h := bt e7 h
        refine run_skip ?_
        refine rs ?_
        refine run_block ?_
        refine rs ?_
        refine rt ?_
        obtain ⟨x3, e8, h⟩ := bind_some h
        refine jp (pj_index_slx (ht rfl) (ht rfl) isInt_i64 e8 (by kernel_rfl)) rfl rfl rfl ?_
        refine jp (pl (ht rfl) (by kernel_rfl)) rfl rfl rfl ?_
        refine jp (pa (ht rfl)) rfl rfl rfl ?_
        refine j_end ?_
        refine rs ?_
        refine rt ?_
        refine jp (pm (ht rfl)) rfl rfl rfl ?_
        refine jp (pj_len_sl (sz := 1) (ht rfl) (by kernel_rfl)) rfl rfl rfl ?_
        refine jp (pj_conv_un (k := .u32) (b := 32) rfl rfl (by kernel_rfl) (ht rfl) isInt_i64) rfl rfl rfl ?_
        refine jp (pa (ht rfl)) rfl rfl rfl ?_
        refine j_end ?_
        refine rs ?_
        refine rt ?_
        refine jp (pm (ht rfl)) rfl rfl rfl ?_
        refine jp (pm (ht rfl)) rfl rfl rfl ?_
        refine jp (pj_ushr (k := .u32) (b := 32) rfl (ht rfl) (has_un (x := 24#64) rfl) isInt_un (Int.natCast_nonneg _)) rfl rfl rfl ?_
        refine jp (pj_conv_uu (k := .u8) (b := 8) rfl rfl (by kernel_rfl) (ht rfl)) rfl rfl rfl ?_
        refine jp (pm (ht rfl)) rfl rfl rfl ?_
        refine jp (pj_ushr (k := .u32) (b := 32) rfl (ht rfl) (has_un (x := 16#64) rfl) isInt_un (Int.natCast_nonneg _)) rfl rfl rfl ?_
        refine jp (pj_conv_uu (k := .u8) (b := 8) rfl rfl (by kernel_rfl) (ht rfl)) rfl rfl rfl ?_
        refine jp (pm (ht rfl)) rfl rfl rfl ?_
        refine jp (pj_ushr (k := .u32) (b := 32) rfl (ht rfl) (has_un (x := 8#64) rfl) isInt_un (Int.natCast_nonneg _)) rfl rfl rfl ?_
        refine jp (pj_conv_uu (k := .u8) (b := 8) rfl rfl (by kernel_rfl) (ht rfl)) rfl rfl rfl ?_
        refine jp (pm (ht rfl)) rfl rfl rfl ?_
        refine jp (pj_conv_uu (k := .u8) (b := 8) rfl rfl (by kernel_rfl) (ht rfl)) rfl rfl rfl ?_
        refine jp (pj_buildSlice (T := 5) (R := u8) (.cons (ht rfl) (.cons (ht rfl) (.cons (ht rfl) (.cons (ht rfl) .nil)))) rfl (by kernel_rfl) (by kernel_rfl)) rfl rfl rfl ?_
        obtain ⟨e9, h⟩ := grd_some h
        refine j_append (T := 5) (E := 5) (ht rfl) .here (src_data (ht rfl)) (by kernel_rfl) (by kernel_rfl) e9 rfl fun v5 => ?_
        refine jp (pa (ht rfl)) rfl rfl rfl ?_
        refine j_end ?_
        refine rt ?_
        refine jp (pm (ht rfl)) rfl rfl rfl ?_
        refine jp (pm (ht rfl)) rfl rfl rfl ?_
        obtain ⟨e10, h⟩ := grd_some h
        refine j_append (T := 5) (E := 5) (ht rfl) .here (src_data (ht rfl)) (by kernel_rfl) (by kernel_rfl) e10 rfl fun v6 => ?_
        refine jp (pa (ht rfl)) rfl rfl rfl ?_
        refine j_end ?_
        refine run_endblock ?_
        refine rt ?_
        refine jp (pj_iadd (ht rfl) has_i64) rfl rfl rfl ?_
        refine jp (pm (ht rfl)) rfl rfl rfl ?_
        refine j_end ?_
        obtain rfl := oi h
        exact run_next v6 (.cons (.of_lk rfl) <| .cons (.of_lk rfl) <| .cons (.of_lk rfl) <| .cons (.of_lk rfl) <| .nil) (.cons .here <| .nil)
      · replace h := bf e7 h
        obtain rfl := oi h
        exact run_brk v4 (.cons (.of_lk rfl) <| .cons (.of_lk rfl) <| .cons (.of_lk rfl) <| .cons (.of_lk rfl) <| .nil) (.cons .here <| .nil)
    · rintro v7
      show Run _ _ _ [(8, ov v7), (30, (sl (sl u8)).slot p_parts), (31, i64.slot (p_parts.length : Int)), (32, i64.slot y7)] [own 5 u8 v7 y8]
      refine run_to (Γ' := [(8, ov v7)]) (H' := [own 5 u8 v7 y8]) (.cons (.of_lk rfl) <| .nil) (.cons .here <| .nil) ?_
      refine rs ?_
      refine rt ?_
      refine jp (pm (ht rfl)) rfl rfl rfl ?_
      refine jp (pa (ht rfl)) rfl rfl rfl ?_
      refine j_end ?_
      obtain rfl := oi h
      exact run_ret fun a w hst => q_ret1 hst rfl (.tmp rfl) v7 (fun _ _ h => h) (.cons .here <| .nil)
set_option maxRecDepth 100000 in
set_option maxHeartbeats 4000000 in
theorem c_hash_Tagged {G : GP} (hg0 : HG0 G) (hg1 : HG1 G) {p_tag : BitVec 8} {p_parts : List (List (BitVec 8))} {r : T_api_Hash} (h : hash_Tagged p_tag p_parts = some r) : Ctr Tryd.prog G 88 [u8.slot p_tag, (sl (sl u8)).slot p_parts] [] (fun (_ : Unit) => R_api_Hash.slot r) (fun (_ : Unit) => []) := by
  unfold hash_Tagged at h
  refine ctr_of_run Tryd.func88 rfl 9 rfl rfl fun m0 w0 b0 => ?_
  show Run _ _ _ [(0, u8.slot p_tag), (1, (sl (sl u8)).slot p_parts)] _
  refine rs ?_
  refine rt ?_
  refine j_alloc (x := (Vector.replicate 32 (0#8))) (R := R_api_Hash) (zero_vec 32 zero_un) (by kernel_rfl) rfl fun b1 => ?_
  refine j_end ?_
  refine rs ?_
  refine rt ?_
  refine jp (pm (ht rfl)) rfl rfl rfl ?_
  refine jp (pm (ht rfl)) rfl rfl rfl ?_
  obtain ⟨r1, e1, h⟩ := bind_some h
  refine jp (pj_call (hc (ht rfl) <| hc (ht rfl) <| hasL_nil) (by kernel_rfl) (Ctr.froze (c_hash_Text e1))) rfl rfl rfl ?_
  obtain ⟨r2, e2, h⟩ := bind_some h
  refine jp (pj_call (hc (ht rfl) <| hasL_nil) (by kernel_rfl) (c_hash_Sum hg0 hg1 e2)) rfl rfl rfl ?_
  refine j_store_boxx (r' := r2) (ht rfl) (ht rfl) .here (Path.all R_api_Hash) (by kernel_rfl) rfl ?_
  refine j_end ?_
  obtain rfl := oi h
  exact run_ret fun a w hst => q_ret1 hst rfl (.cell rfl .here (by kernel_rfl)) () (fun _ _ h => h) (.nil)
set_option maxRecDepth 100000 in
set_option maxHeartbeats 4000000 in
theorem c_hss_child {G : GP} (hg0 : HG0 G) (hg1 : HG1 G) {p_seed : T_api_Hash} {p_number : List (BitVec 8)} {r : T_api_ID × T_api_Hash} (h : hss_child p_seed p_number = some r) : Ctr Tryd.prog G 60 [R_api_Hash.slot p_seed, (sl u8).slot p_number] [] (fun (_ : Unit) => tup [R_api_ID.slot r.1, R_api_Hash.slot r.2]) (fun (_ : Unit) => []) := by
  unfold hss_child at h
  refine ctr_of_run Tryd.func60 rfl 24 rfl rfl fun m0 w0 b0 => ?_
  show Run _ _ _ [(0, R_api_Hash.slot p_seed), (1, (sl u8).slot p_number)] _
  refine rs ?_
  refine rt ?_
  refine jp (pj_box_to (ht rfl)) rfl rfl rfl ?_
  refine j_alloc (x := (Vector.replicate 16 (0#8))) (R := R_api_ID) (zero_vec 16 zero_un) (by kernel_rfl) rfl fun b1 => ?_
  refine j_alloc (x := (Vector.replicate 32 (0#8))) (R := R_api_Hash) (zero_vec 32 zero_un) (by kernel_rfl) rfl fun b2 => ?_
  refine j_end ?_
  refine rs ?_
  refine rt ?_
  refine jp (pj_slice_toF (ht rfl) (by decide) (by kernel_rfl)) rfl rfl rfl ?_
  refine j_buildSlice (T := 26) (R := (sl u8)) (.cons (ht rfl) .nil) rfl (by kernel_rfl) (by kernel_rfl) rfl fun v1 => ?_
  refine jp (pa (ht rfl)) rfl rfl rfl ?_
  refine j_end ?_
  refine rs ?_
  refine rs ?_
  refine rt ?_
  refine jp (pm (ht rfl)) rfl rfl rfl ?_
  refine jp (pj_len_sl (sz := 1) (ht rfl) (by kernel_rfl)) rfl rfl rfl ?_
  refine jp (pj_igtr (ht rfl) has_i64) rfl rfl rfl ?_
  refine j_end ?_
  obtain ⟨y1, e3, h⟩ := bind_some h
  refine run_joinx (ι := Value) (Γ' := fun (v2 : Value) => [(4, val (.pointer (some ⟨b1, 0, none⟩))), (5, val (.pointer (some ⟨b2, 0, none⟩))), (6, ov v2)]) (H' := fun (v2 : Value) => [own 26 (sl u8) v2 y1, box b2 23 R_api_Hash (Vector.replicate 32 (0#8)), box b1 107 R_api_ID (Vector.replicate 16 (0#8))]) ?_ fun J => ?_
  · intro v2
    clear e3
    show Run _ _ _ [(4, val (.pointer (some ⟨b1, 0, none⟩))), (5, val (.pointer (some ⟨b2, 0, none⟩))), (6, ov v2)] [own 26 (sl u8) v2 y1, box b2 23 R_api_Hash (Vector.replicate 32 (0#8)), box b1 107 R_api_ID (Vector.replicate 16 (0#8))]
    refine rs ?_
    refine rt ?_
    refine jp (pm (ht rfl)) rfl rfl rfl ?_
    obtain ⟨r1, e4, h⟩ := bind_some h
    refine jp (pj_callB (hasBL_cons (hasB_of (has_un (x := 105#8) rfl)) <| hasBL_cons (hasB_own (ht rfl) .here) <| hasBL_nil) (by kernel_rfl) (c_hash_Tagged hg0 hg1 e4) (Rep.flat_slot (flat_vec _ (flat_un _ _)) _)) rfl rfl rfl ?_
    refine j_alloc (x := (Vector.replicate 32 (0#8))) (R := R_api_Hash) (zero_vec 32 zero_un) (by kernel_rfl) rfl fun b3 => ?_
    refine j_store_boxx (r' := r1) (ht rfl) (ht rfl) .here (Path.all R_api_Hash) (by kernel_rfl) rfl ?_
    refine j_freezeTo (t := 7) .here (.of_lk rfl) ?_
    refine j_end ?_
    refine rs ?_
    obtain ⟨x1, e5, h⟩ := bind_some h
    obtain ⟨x2, e6, h⟩ := bind_some h
    obtain ⟨r2, e7, h⟩ := bind_some h
    refine run_draw (n := 5) (by kernel_rfl) (by kernel_rfl) (by kernel_rfl) (by kernel_rfl) (.read (.plain rfl (pj_slice_to (ht rfl) .no (.yes has_i64 isInt_i64) e5 (by decide) (by kernel_rfl))) <| .read (.plain rfl (pj_s2apx (e := 5) (ht rfl) e6 rfl (by kernel_rfl))) <| .read (.plain rfl (pl (ht rfl) (by kernel_rfl))) <| .read (.plain rfl (pm (ht rfl))) <| .read (.plain rfl (pj_callB (hasBL_cons (hasB_of (has_un (x := 115#8) rfl)) <| hasBL_cons (hasB_own (ht rfl) .here) <| hasBL_nil) (by kernel_rfl) (c_hash_Tagged hg0 hg1 e7) (Rep.flat_slot (flat_vec _ (flat_un _ _)) _))) <| .nil) (j_to (Γ' := [(4, val (.pointer (some ⟨b1, 0, none⟩))), (5, val (.pointer (some ⟨b2, 0, none⟩))), (21, R_api_ID.slot x2), (23, R_api_Hash.slot r2)]) (H' := [box b2 23 R_api_Hash (Vector.replicate 32 (0#8)), box b1 107 R_api_ID (Vector.replicate 16 (0#8))]) (.cons (.of_lk rfl) <| .cons (.of_lk rfl) <| .cons (.of_lk rfl) <| .cons (.of_lk rfl) <| .nil) (.cons (.next .here) <| .cons (.next .here) <| .nil) ?_)
    refine j_store_boxx (r' := x2) (ht rfl) (ht rfl) (.next .here) (Path.all R_api_ID) (by kernel_rfl) rfl ?_
    refine j_store_boxx (r' := r2) (ht rfl) (ht rfl) (.next .here) (Path.all R_api_Hash) (by kernel_rfl) rfl ?_
    refine j_end ?_
    obtain rfl := oi h
    exact run_ret fun a w hst => q_retN hst rfl (.cons (.cell rfl (.next .here) (by kernel_rfl)) <| .cons (.cell rfl .here (by kernel_rfl)) <| .nil) rfl () (fun _ _ h => h) (.nil)
  · refine run_cond (ht rfl) (fun e1 => ?_) (fun e1 => ?_)
    · replace h := bt e1 e3
      refine rt ?_
      refine jp (pm (ht rfl)) rfl rfl rfl ?_
      refine jp (pm (ht rfl)) rfl rfl rfl ?_
      refine jp (pj_buildSlice (T := 26) (R := (sl u8)) (.cons (ht rfl) .nil) rfl (by kernel_rfl) (by kernel_rfl)) rfl rfl rfl ?_
      obtain ⟨e2, h⟩ := grd_some h
      refine j_append (T := 26) (E := 26) (ht rfl) .here (src_data (ht rfl)) (by kernel_rfl) (by kernel_rfl) e2 rfl fun v3 => ?_
      refine jp (pa (ht rfl)) rfl rfl rfl ?_
      refine j_end ?_
      obtain rfl := oi h
      exact run_to (.cons (.of_lk rfl) <| .cons (.of_lk rfl) <| .cons (.of_lk rfl) <| .nil) (.cons .here <| .cons .here <| .cons .here <| .nil) (J v3)
    · replace h := bf e1 e3
      refine run_skip ?_
      obtain rfl := oi h
      exact run_to (.cons (.of_lk rfl) <| .cons (.of_lk rfl) <| .cons (.of_lk rfl) <| .nil) (.cons .here <| .cons .here <| .cons .here <| .nil) (J v1)
set_option maxRecDepth 100000 in
set_option maxHeartbeats 4000000 in
theorem c_lmots_secret {G : GP} (hg0 : HG0 G) (hg1 : HG1 G) {p_id : T_api_ID} {p_q : BitVec 32} {p_i : Int} {p_seed : T_api_Hash} {r : T_api_Hash} (h : lmots_secret p_id p_q p_i p_seed = some r) : Ctr Tryd.prog G 118 [R_api_ID.slot p_id, u32.slot p_q, i64.slot p_i, R_api_Hash.slot p_seed] [] (fun (_ : Unit) => R_api_Hash.slot r) (fun (_ : Unit) => []) := by
  unfold lmots_secret at h
  refine ctr_of_run Tryd.func118 rfl 16 rfl rfl fun m0 w0 b0 => ?_
  show Run _ _ _ [(0, R_api_ID.slot p_id), (1, u32.slot p_q), (2, i64.slot p_i), (3, R_api_Hash.slot p_seed)] _
  refine rs ?_
  refine rt ?_
  refine jp (pj_box_to (ht rfl)) rfl rfl rfl ?_
  refine jp (pj_box_to (ht rfl)) rfl rfl rfl ?_
  refine j_alloc (x := (Vector.replicate 32 (0#8))) (R := R_api_Hash) (zero_vec 32 zero_un) (by kernel_rfl) rfl fun b1 => ?_
  refine j_end ?_
  refine rs ?_
  refine run_draw (n := 6) (by kernel_rfl) (by kernel_rfl) (by kernel_rfl) (by kernel_rfl) (.read (.plain rfl (pl (ht rfl) (by kernel_rfl))) <| .read (.plain rfl (pm (ht rfl))) <| .read (.plain rfl (pm (ht rfl))) <| .read (.plain rfl (pj_buildSlice (T := 5) (R := u8) (.cons (has_un (x := 255#8) rfl) .nil) rfl (by kernel_rfl) (by kernel_rfl))) <| .read (.plain rfl (pj_slice_toF (ht rfl) (by decide) (by kernel_rfl))) <| .read (.plain rfl (pj_buildSlice (T := 26) (R := (sl u8)) (.cons (ht rfl) (.cons (ht rfl) .nil)) rfl (by kernel_rfl) (by kernel_rfl))) <| .nil) (j_to (Γ' := [(8, val (.pointer (some ⟨b1, 0, none⟩))), (9, R_api_ID.slot p_id), (10, u32.slot p_q), (11, i64.slot p_i), (14, (sl (sl u8)).slot ([[255#8], p_seed.toList]))]) (H' := [box b1 23 R_api_Hash (Vector.replicate 32 (0#8))]) (.cons (.of_lk rfl) <| .cons (.of_lk rfl) <| .cons (.of_lk rfl) <| .cons (.of_lk rfl) <| .cons (.of_lk rfl) <| .nil) (.cons .here <| .nil) ?_)
  obtain ⟨r1, e1, h⟩ := bind_some h
  refine jp (pj_call (hc (ht rfl) <| hc (ht rfl) <| hc (ht rfl) <| hc (ht rfl) <| hasL_nil) (by kernel_rfl) (c_lmots_under hg0 hg1 e1)) rfl rfl rfl ?_
  refine j_store_boxx (r' := r1) (ht rfl) (ht rfl) .here (Path.all R_api_Hash) (by kernel_rfl) rfl ?_
  refine j_end ?_
  obtain rfl := oi h
  exact run_ret fun a w hst => q_ret1 hst rfl (.cell rfl .here (by kernel_rfl)) () (fun _ _ h => h) (.nil)
set_option maxRecDepth 100000 in
set_option maxHeartbeats 4000000 in
theorem c_lmots_Public {G : GP} (hg0 : HG0 G) (hg1 : HG1 G) (hg2 : HG2 G) {p_kind : Int} {p_id : T_api_ID} {p_q : BitVec 32} {p_seed : T_api_Hash} {r : T_api_Hash × Int} (h : lmots_Public p_kind p_id p_q p_seed = some r) : Ctr Tryd.prog G 89 [i64.slot p_kind, R_api_ID.slot p_id, u32.slot p_q, R_api_Hash.slot p_seed] [] (fun (_ : Unit) => tup [R_api_Hash.slot r.1, i64.slot r.2]) (fun (_ : Unit) => []) := by
  unfold lmots_Public at h
  refine ctr_of_run Tryd.func89 rfl 49 rfl rfl fun m0 w0 b0 => ?_
  show Run _ _ _ [(0, i64.slot p_kind), (1, R_api_ID.slot p_id), (2, u32.slot p_q), (3, R_api_Hash.slot p_seed)] _
  refine rs ?_
  refine rt ?_
  refine jp (pj_box_to (ht rfl)) rfl rfl rfl ?_
  refine jp (pj_box_to (ht rfl)) rfl rfl rfl ?_
  refine j_alloc (x := (Vector.replicate 32 (0#8))) (R := R_api_Hash) (zero_vec 32 zero_un) (by kernel_rfl) rfl fun b1 => ?_
  refine jp (pa has_i64) rfl rfl rfl ?_
  refine j_end ?_
  refine rs ?_
  refine rt ?_
  refine jp (pm (ht rfl)) rfl rfl rfl ?_
  obtain ⟨r1, e1, h⟩ := bind_some h
  refine jp (pj_call (hc (ht rfl) <| hasL_nil) (by kernel_rfl) (c_lmots_of hg2 e1)) rfl rfl rfl ?_
  refine jp (pm (ht rfl)) rfl rfl rfl ?_
  refine jp (pj_extract (ht rfl) rfl) rfl rfl rfl ?_
  refine jp (pj_extract (ht rfl) rfl) rfl rfl rfl ?_
  refine j_alloc (x := (0, 0, 0)) (R := R_lmots_form) (zero_prod zero_i64 (zero_prod zero_i64 zero_i64)) (by kernel_rfl) rfl fun b2 => ?_
  refine j_store_boxx (r' := r1.1) (ht rfl) (ht rfl) .here (Path.all R_lmots_form) (by kernel_rfl) rfl ?_
  refine j_freezeTo (t := 10) .here (.of_lk rfl) ?_
  refine jp (pa (ht rfl)) rfl rfl rfl ?_
  refine j_end ?_
  refine rs ?_
  refine rs ?_
  refine rt ?_
  refine jp (pm (ht rfl)) rfl rfl rfl ?_
  refine jp (pj_not (ht rfl)) rfl rfl rfl ?_
  refine j_end ?_
  refine run_cond (ht rfl) (fun e2 => ?_) (fun e2 => ?_)
  · replace h := bt e2 h
    refine rs ?_
    refine rt ?_
    refine jp (pj_build (R := R_api_Hash) (zero_vec 32 zero_un) (by kernel_rfl) (by kernel_rfl) rfl .nil) rfl rfl rfl ?_
    refine j_store_boxx (r' := (Vector.replicate 32 (0#8))) (ht rfl) (ht rfl) .here (Path.all R_api_Hash) (by kernel_rfl) rfl ?_
    refine jp (pa has_i64) rfl rfl rfl ?_
    refine j_end ?_
    obtain rfl := oi h
    exact run_ret fun a w hst => q_retN hst rfl (.cons (.cell rfl .here (by kernel_rfl)) <| .cons (.tmp rfl) <| .nil) rfl () (fun _ _ h => h) (.nil)
  · replace h := bf e2 h
    refine run_skip ?_
    refine rs ?_
    refine rt ?_
    refine jp (pj_field_to (ht rfl) (Path.then (Path.snd i64 (prod i64 i64)) (Path.fst i64 i64)) (by kernel_rfl)) rfl rfl rfl ?_
    refine jp (pl (ht rfl) (by kernel_rfl)) rfl rfl rfl ?_
    obtain ⟨e3, h⟩ := grd_some h
    obtain ⟨x1, e4, h⟩ := bind_some h
    refine j_makeSlicex (T := 23) (R := R_api_Hash) (z := (Vector.replicate 32 (0#8))) (ht rfl) (ht rfl) e3.1 (Int.le_refl _) e3.2 (by kernel_rfl) (zero_vec 32 zero_un) (by kernel_rfl) (oi e4) rfl fun v1 => ?_
    refine jp (pa (ht rfl)) rfl rfl rfl ?_
    refine j_end ?_
    refine rs ?_
    refine rs ?_
    refine rt ?_
    refine jp (pm (ht rfl)) rfl rfl rfl ?_
    refine jp (pj_len_own (sz := 32) (ht rfl) .here (by kernel_rfl)) rfl rfl rfl ?_
    refine jp (pm has_i64) rfl rfl rfl ?_
    refine j_end ?_
    obtain ⟨⟨y3, y4⟩, e10, h⟩ := bind_some h
    refine run_loopS (Γi := fun (i : Unit) (s : Int × (List T_api_Hash)) => [(2, u32.slot p_q), (5, ptrTo R_api_ID p_id), (7, ptrTo R_api_Hash p_seed), (8, val (.pointer (some ⟨b1, 0, none⟩))), (10, ptrTo R_lmots_form r1.1), (12, ov v1), (26, i64.slot (x1.length : Int)), (27, i64.slot s.1)]) (Hi := fun (i : Unit) (s : Int × (List T_api_Hash)) => [own 23 R_api_Hash v1 s.2, box b1 23 R_api_Hash (Vector.replicate 32 (0#8))]) e10 () (fun a w hst => (hst.sub (.cons (.of_lk rfl) <| .cons (.of_lk rfl) <| .cons (.of_lk rfl) <| .cons (.of_lk rfl) <| .cons (.of_lk rfl) <| .cons (.of_lk rfl) <| .cons (.of_lk rfl) <| .cons (.of_lk rfl) <| .nil)).keep (.cons .here <| .cons .here <| .nil)) ?_ ?_
    · clear h e10
      rintro _ ⟨y1, y2⟩ lr h
      change lmots_Public_L1 x1 p_id p_q p_seed r1 y1 y2 = some _ at h
      show Run _ _ _ [(2, u32.slot p_q), (5, ptrTo R_api_ID p_id), (7, ptrTo R_api_Hash p_seed), (8, val (.pointer (some ⟨b1, 0, none⟩))), (10, ptrTo R_lmots_form r1.1), (12, ov v1), (26, i64.slot (x1.length : Int)), (27, i64.slot y1)] [own 23 R_api_Hash v1 y2, box b1 23 R_api_Hash (Vector.replicate 32 (0#8))]
      unfold lmots_Public_L1 at h
      refine rs ?_
      refine rt ?_
      refine jp (pj_ilss (ht rfl) (ht rfl)) rfl rfl rfl ?_
      refine j_end ?_
      refine rs ?_
      refine run_cond (ht rfl) (fun e5 => ?_) (fun e5 => ?_)
      · replace h := bt e5 h
        refine run_skip ?_
        refine rs ?_
        refine run_block ?_
        refine rs ?_
        refine rt ?_
        refine jp (pm (ht rfl)) rfl rfl rfl ?_
        refine jp (pa (ht rfl)) rfl rfl rfl ?_
        refine j_end ?_
        obtain ⟨r2, e6, h⟩ := bind_some h
        obtain ⟨r3, e7, h⟩ := bind_some h
        obtain ⟨r4, e8, h⟩ := bind_some h
        refine run_draw (n := 13) (by kernel_rfl) (by kernel_rfl) (by kernel_rfl) (by kernel_rfl) (.read (.plain rfl (pm (ht rfl))) <| .read (.plain rfl (pm (ht rfl))) <| .read (.plain rfl (pl (ht rfl) (by kernel_rfl))) <| .read (.plain rfl (pm (ht rfl))) <| .read (.plain rfl (pm (ht rfl))) <| .read (.plain rfl (pl (ht rfl) (by kernel_rfl))) <| .read (.plain rfl (pm (ht rfl))) <| .read (.plain rfl (pm (ht rfl))) <| .read (.plain rfl (pl (ht rfl) (by kernel_rfl))) <| .read (.plain rfl (pj_call (hc (ht rfl) <| hc (ht rfl) <| hc (ht rfl) <| hc (ht rfl) <| hasL_nil) (by kernel_rfl) (c_lmots_secret hg0 hg1 e6))) <| .read (.plain rfl (pl (ht rfl) (by kernel_rfl))) <| .read (.plain rfl (pj_call (hc (ht rfl) <| hasL_nil) (by kernel_rfl) (c_lmots_form_most e7))) <| .read (.plain rfl (pj_call (hc (ht rfl) <| hc (ht rfl) <| hc (ht rfl) <| hc (ht rfl) <| hc has_i64 <| hc (ht rfl) <| hasL_nil) (by kernel_rfl) (c_lmots_chain hg0 hg1 e8))) <| .nil) (j_to (Γ' := [(2, u32.slot p_q), (5, ptrTo R_api_ID p_id), (7, ptrTo R_api_Hash p_seed), (8, val (.pointer (some ⟨b1, 0, none⟩))), (10, ptrTo R_lmots_form r1.1), (12, ov v1), (26, i64.slot (x1.length : Int)), (27, i64.slot y1), (30, ov v1), (31, i64.slot y1), (42, R_api_Hash.slot r4)]) (H' := [own 23 R_api_Hash v1 y2, box b1 23 R_api_Hash (Vector.replicate 32 (0#8))]) (.cons (.of_lk rfl) <| .cons (.of_lk rfl) <| .cons (.of_lk rfl) <| .cons (.of_lk rfl) <| .cons (.of_lk rfl) <| .cons (.of_lk rfl) <| .cons (.of_lk rfl) <| .cons (.of_lk rfl) <| .cons (.of_lk rfl) <| .cons (.of_lk rfl) <| .cons (.of_lk rfl) <| .nil) (.cons .here <| .cons .here <| .nil) ?_)
        obtain ⟨e9, h⟩ := grd_some h
        refine jp (pj_index_own (ht rfl) .here (ht rfl) isInt_i64 e9.1 (lt_nat e9) (by kernel_rfl)) rfl rfl rfl ?_
        refine j_store_own0 R_api_Hash (y1.toNat) (ht rfl) (ht rfl) .here (lt_nat e9) (by kernel_rfl) ?_
        refine j_end ?_
        refine run_endblock ?_
        refine rt ?_
        refine jp (pj_iadd (ht rfl) has_i64) rfl rfl rfl ?_
        refine jp (pm (ht rfl)) rfl rfl rfl ?_
        refine j_end ?_
        obtain rfl := oi h
        exact run_next () (.cons (.of_lk rfl) <| .cons (.of_lk rfl) <| .cons (.of_lk rfl) <| .cons (.of_lk rfl) <| .cons (.of_lk rfl) <| .cons (.of_lk rfl) <| .cons (.of_lk rfl) <| .cons (.of_lk rfl) <| .nil) (.cons .here <| .cons .here <| .nil)
      · replace h := bf e5 h
        obtain rfl := oi h
        exact run_brk () (.cons (.of_lk rfl) <| .cons (.of_lk rfl) <| .cons (.of_lk rfl) <| .cons (.of_lk rfl) <| .cons (.of_lk rfl) <| .cons (.of_lk rfl) <| .cons (.of_lk rfl) <| .cons (.of_lk rfl) <| .nil) (.cons .here <| .cons .here <| .nil)
    · rintro _
      show Run _ _ _ [(2, u32.slot p_q), (5, ptrTo R_api_ID p_id), (7, ptrTo R_api_Hash p_seed), (8, val (.pointer (some ⟨b1, 0, none⟩))), (10, ptrTo R_lmots_form r1.1), (12, ov v1), (26, i64.slot (x1.length : Int)), (27, i64.slot y3)] [own 23 R_api_Hash v1 y4, box b1 23 R_api_Hash (Vector.replicate 32 (0#8))]
      refine run_to (Γ' := [(2, u32.slot p_q), (5, ptrTo R_api_ID p_id), (8, val (.pointer (some ⟨b1, 0, none⟩))), (12, ov v1)]) (H' := [own 23 R_api_Hash v1 y4, box b1 23 R_api_Hash (Vector.replicate 32 (0#8))]) (.cons (.of_lk rfl) <| .cons (.of_lk rfl) <| .cons (.of_lk rfl) <| .cons (.of_lk rfl) <| .nil) (.cons .here <| .cons .here <| .nil) ?_
      refine rs ?_
      refine rt ?_
      refine jp (pl (ht rfl) (by kernel_rfl)) rfl rfl rfl ?_
      refine jp (pm (ht rfl)) rfl rfl rfl ?_
      refine jp (pm (ht rfl)) rfl rfl rfl ?_
      obtain ⟨r5, e11, h⟩ := bind_some h
      refine jp (pj_callB (hasBL_cons (hasB_of (ht rfl)) <| hasBL_cons (hasB_of (ht rfl)) <| hasBL_cons (hasB_own (ht rfl) .here) <| hasBL_nil) (by kernel_rfl) (c_lmots_folded hg0 hg1 e11) (Rep.flat_slot (flat_vec _ (flat_un _ _)) _)) rfl rfl rfl ?_
      refine j_store_boxx (r' := r5) (ht rfl) (ht rfl) (.next .here) (Path.all R_api_Hash) (by kernel_rfl) rfl ?_
      refine jp (pa has_i64) rfl rfl rfl ?_
      refine j_end ?_
      obtain rfl := oi h
      exact run_ret fun a w hst => q_retN hst rfl (.cons (.cell rfl .here (by kernel_rfl)) <| .cons (.tmp rfl) <| .nil) rfl () (fun _ _ h => h) (.nil)
set_option maxRecDepth 100000 in
set_option maxHeartbeats 4000000 in
theorem c_lms_New {G : GP} (hg0 : HG0 G) (hg1 : HG1 G) (hg2 : HG2 G) {p_height : Int} {p_kind : Int} {p_id : T_api_ID} {p_seed : T_api_Hash} {r : (Option T_lms_Tree) × Int} (h : lms_New p_height p_kind p_id p_seed = some r) : Ctr Tryd.prog G 61 [i64.slot p_height, i64.slot p_kind, R_api_ID.slot p_id, R_api_Hash.slot p_seed] [] (fun (_ : Unit) => tup [(ptr R_lms_Tree).slot r.1, i64.slot r.2]) (fun (_ : Unit) => []) := by
  unfold lms_New at h
  refine ctr_of_run Tryd.func61 rfl 95 rfl rfl fun m0 w0 b0 => ?_
  refine run_ret0 fun Qf hq1 hq2 => ?_
  show Run _ _ _ [(0, i64.slot p_height), (1, i64.slot p_kind), (2, R_api_ID.slot p_id), (3, R_api_Hash.slot p_seed)] _
  refine rs ?_
  refine rt ?_
  refine jp (pj_box_to (ht rfl)) rfl rfl rfl ?_
  refine jp (pj_box_to (ht rfl)) rfl rfl rfl ?_
  refine jp (pa (has_nilp (R := R_lms_Tree))) rfl rfl rfl ?_
  refine jp (pa has_i64) rfl rfl rfl ?_
  refine j_end ?_
  refine rs ?_
  refine rs ?_
  refine rt ?_
  refine jp (pm (ht rfl)) rfl rfl rfl ?_
  refine jp (pm (ht rfl)) rfl rfl rfl ?_
  obtain ⟨r1, e1, h⟩ := bind_some h
  refine jp (pj_call (hc (ht rfl) <| hc (ht rfl) <| hasL_nil) (by kernel_rfl) (c_lms_may hg2 e1)) rfl rfl rfl ?_
  refine jp (pj_not (ht rfl)) rfl rfl rfl ?_
  refine j_end ?_
  refine run_cond (ht rfl) (fun e2 => ?_) (fun e2 => ?_)
  · replace h := bt e2 h
    refine rs ?_
    refine rt ?_
    refine jp (pa (has_nilp (R := R_lms_Tree))) rfl rfl rfl ?_
    refine jp (pa has_i64) rfl rfl rfl ?_
    refine j_end ?_
    obtain rfl := oi h
    exact run_ret fun a w hst => q_retN hst rfl (.cons (.tmp rfl) <| .cons (.tmp rfl) <| .nil) rfl () (fun _ _ h => h) (.nil)
  · replace h := bf e2 h
    refine run_skip ?_
    refine rs ?_
    refine rt ?_
    refine jp (pm (ht rfl)) rfl rfl rfl ?_
    obtain ⟨e3, h⟩ := grd_some h
    refine jp (pj_ishl has_i64 (ht rfl) isInt_i64 e3) rfl rfl rfl ?_
    refine jp (pa (ht rfl)) rfl rfl rfl ?_
    refine j_end ?_
    refine rs ?_
    obtain ⟨e4, h⟩ := grd_some h
    obtain ⟨x1, e5, h⟩ := bind_some h
    refine run_keep (H' := []) (.nil) ?_
    refine run_drawL (n := 7) (H := []) (Ls := [⟨[], [(6, ⟨Value, fun (v1 : Value) => [own 23 R_api_Hash v1 x1], fun (v1 : Value) => [(28, ov v1)]⟩)]⟩]) (by kernel_rfl) (by kernel_rfl) (by kernel_rfl) (by kernel_rfl) (by kernel_rfl) rfl (.read rfl (.plain rfl (pm (ht rfl))) <| .read rfl (.plain rfl (pm (ht rfl))) <| .read rfl (.plain rfl (pl (ht rfl) (by kernel_rfl))) <| .read rfl (.plain rfl (pl (ht rfl) (by kernel_rfl))) <| .read rfl (.plain rfl (pm (ht rfl))) <| .read rfl (.plain rfl (pj_imul has_i64 (ht rfl))) <| .step 0 rfl .here (.inl rfl) (fun i => ⟨_, _, fun j => j, (w_makeSlicex (T := 23) (R := R_api_Hash) (z := (Vector.replicate 32 (0#8))) (ht rfl) (ht rfl) e4.1 (Int.le_refl _) e4.2 (by kernel_rfl) (zero_vec 32 zero_un) (by kernel_rfl) (oi e5) rfl), fun _ => rfl, slotAny, dst1⟩) <| .nil) ?_
    rintro v1
    refine j_to (Γ' := [(1, i64.slot p_kind), (6, ptrTo R_api_ID p_id), (7, ptrTo R_api_Hash p_seed), (10, i64.slot (ishl (1 : Int) p_height)), (22, i64.slot p_height), (23, i64.slot p_kind), (24, R_api_ID.slot p_id), (25, R_api_Hash.slot p_seed), (28, ov v1)]) (H' := [own 23 R_api_Hash v1 x1]) (.cons (.of_lk rfl) <| .cons (.of_lk rfl) <| .cons (.of_lk rfl) <| .cons (.of_lk rfl) <| .cons (.of_lk rfl) <| .cons (.of_lk rfl) <| .cons (.of_lk rfl) <| .cons (.of_lk rfl) <| .cons (.of_lk rfl) <| .nil) (.cons .here <| .nil) ?_
    refine jp (pj_buildX (R := (prod i64 (prod i64 (prod R_api_ID (prod R_api_Hash (exv (.slice none 0 0))))))) (x := (0, 0, (Vector.replicate 16 (0#8)), (Vector.replicate 32 (0#8)), ())) (zero_prod zero_i64 (zero_prod zero_i64 (zero_prod (zero_vec 16 zero_un) (zero_prod (zero_vec 32 zero_un) zero_exv)))) (by kernel_rfl) (by kernel_rfl) rfl (.cons (ht rfl) (sx_pathx (x1 := (p_height, 0, (Vector.replicate 16 (0#8)), (Vector.replicate 32 (0#8)), ())) (Path.fst i64 (prod i64 (prod R_api_ID (prod R_api_Hash (exv (.slice none 0 0)))))) rfl) (by kernel_rfl) (.cons (ht rfl) (sx_pathx (x1 := (p_height, p_kind, (Vector.replicate 16 (0#8)), (Vector.replicate 32 (0#8)), ())) (Path.then (Path.snd i64 (prod i64 (prod R_api_ID (prod R_api_Hash (exv (.slice none 0 0)))))) (Path.fst i64 (prod R_api_ID (prod R_api_Hash (exv (.slice none 0 0)))))) rfl) (by kernel_rfl) (.cons (ht rfl) (sx_pathx (x1 := (p_height, p_kind, p_id, (Vector.replicate 32 (0#8)), ())) (Path.then (Path.snd i64 (prod i64 (prod R_api_ID (prod R_api_Hash (exv (.slice none 0 0)))))) (Path.then (Path.snd i64 (prod R_api_ID (prod R_api_Hash (exv (.slice none 0 0))))) (Path.fst R_api_ID (prod R_api_Hash (exv (.slice none 0 0)))))) rfl) (by kernel_rfl) (.cons (ht rfl) (sx_pathx (x1 := (p_height, p_kind, p_id, p_seed, ())) (Path.then (Path.snd i64 (prod i64 (prod R_api_ID (prod R_api_Hash (exv (.slice none 0 0)))))) (Path.then (Path.snd i64 (prod R_api_ID (prod R_api_Hash (exv (.slice none 0 0))))) (Path.then (Path.snd R_api_ID (prod R_api_Hash (exv (.slice none 0 0)))) (Path.fst R_api_Hash (exv (.slice none 0 0)))))) rfl) (by kernel_rfl) (.cons (ht rfl) (sx_se (se_snd i64 p_height (se_snd i64 p_kind (se_snd R_api_ID p_id (se_snd R_api_Hash p_seed se_here))))) (by kernel_rfl) .nil)))))) rfl rfl rfl ?_
    refine j_box (ht rfl) rfl fun b1 => ?_
    refine jp (pa (ht rfl)) rfl rfl rfl ?_
    refine j_end ?_
    refine rs ?_
    refine rs ?_
    refine rt ?_
    refine jp (pm (ht rfl)) rfl rfl rfl ?_
    refine jp (pm has_i64) rfl rfl rfl ?_
    refine j_end ?_
    obtain ⟨o, e11, h⟩ := bind_some h
    refine run_loop (Γi := fun (i : Unit) (s : Int × (List T_api_Hash)) => [(1, i64.slot p_kind), (6, ptrTo R_api_ID p_id), (7, ptrTo R_api_Hash p_seed), (10, i64.slot (ishl (1 : Int) p_height)), (11, val (.pointer (some ⟨b1, 0, none⟩))), (31, i64.slot (ishl (1 : Int) p_height)), (32, i64.slot s.1)]) (Hi := fun (i : Unit) (s : Int × (List T_api_Hash)) => [box b1 116 (prod i64 (prod i64 (prod R_api_ID (prod R_api_Hash (exv v1))))) (p_height, p_kind, p_id, p_seed, ()), own 23 R_api_Hash v1 s.2]) (R := fun x a w => x = r → Qf a w) e11 () (fun a w hst => (hst.sub (.cons (.of_lk rfl) <| .cons (.of_lk rfl) <| .cons (.of_lk rfl) <| .cons (.of_lk rfl) <| .cons (.of_lk rfl) <| .cons (.of_lk rfl) <| .cons (.of_lk rfl) <| .nil)).keep (.cons .here <| .cons .here <| .nil)) ?_ ?_ ?_
    · clear h e11
      rintro _ ⟨y1, y2⟩ lr h
      change lms_New_L1 p_height p_kind p_id p_seed y1 y2 = some _ at h
      show Run _ _ _ [(1, i64.slot p_kind), (6, ptrTo R_api_ID p_id), (7, ptrTo R_api_Hash p_seed), (10, i64.slot (ishl (1 : Int) p_height)), (11, val (.pointer (some ⟨b1, 0, none⟩))), (31, i64.slot (ishl (1 : Int) p_height)), (32, i64.slot y1)] [box b1 116 (prod i64 (prod i64 (prod R_api_ID (prod R_api_Hash (exv v1))))) (p_height, p_kind, p_id, p_seed, ()), own 23 R_api_Hash v1 y2]
      unfold lms_New_L1 at h
      refine rs ?_
      refine rt ?_
      refine jp (pj_ilss (ht rfl) (ht rfl)) rfl rfl rfl ?_
      refine j_end ?_
      refine rs ?_
      refine run_cond (ht rfl) (fun e6 => ?_) (fun e6 => ?_)
      · replace h := bt e6 h
        refine run_skip ?_
        refine rs ?_
        refine run_block ?_
        refine rs ?_
        refine rt ?_
        refine jp (pm (ht rfl)) rfl rfl rfl ?_
        refine jp (pa (ht rfl)) rfl rfl rfl ?_
        refine j_end ?_
        refine rs ?_
        refine rt ?_
        refine jp (pm (ht rfl)) rfl rfl rfl ?_
        refine jp (pl (ht rfl) (by kernel_rfl)) rfl rfl rfl ?_
        refine jp (pm (ht rfl)) rfl rfl rfl ?_
        refine jp (pj_conv_un (k := .u32) (b := 32) rfl rfl (by kernel_rfl) (ht rfl) isInt_i64) rfl rfl rfl ?_
        refine jp (pl (ht rfl) (by kernel_rfl)) rfl rfl rfl ?_
        obtain ⟨r2, e7, h⟩ := bind_some h
        refine jp (pj_call (hc (ht rfl) <| hc (ht rfl) <| hc (ht rfl) <| hc (ht rfl) <| hasL_nil) (by kernel_rfl) (c_lmots_Public hg0 hg1 hg2 e7)) rfl rfl rfl ?_
        refine jp (pm (ht rfl)) rfl rfl rfl ?_
        refine jp (pj_extract (ht rfl) rfl) rfl rfl rfl ?_
        refine jp (pj_extract (ht rfl) rfl) rfl rfl rfl ?_
        refine j_alloc (x := (Vector.replicate 32 (0#8))) (R := R_api_Hash) (zero_vec 32 zero_un) (by kernel_rfl) rfl fun b2 => ?_
        refine j_store_boxx (r' := r2.1) (ht rfl) (ht rfl) .here (Path.all R_api_Hash) (by kernel_rfl) rfl ?_
        refine j_freezeTo (t := 13) .here (.of_lk rfl) ?_
        refine jp (pa (ht rfl)) rfl rfl rfl ?_
        refine j_end ?_
        refine rs ?_
        refine rs ?_
        refine rt ?_
        refine jp (pm (ht rfl)) rfl rfl rfl ?_
        refine jp (pj_ineq (ht rfl) has_i64) rfl rfl rfl ?_
        refine j_end ?_
        refine run_cond (ht rfl) (fun e8 => ?_) (fun e8 => ?_)
        · replace h := bt e8 h
          refine rs ?_
          refine rt ?_
          refine jp (pm (ht rfl)) rfl rfl rfl ?_
          refine jp (pa (has_nilp (R := R_lms_Tree))) rfl rfl rfl ?_
          refine jp (pa (ht rfl)) rfl rfl rfl ?_
          refine j_end ?_
          obtain rfl := oi h
          refine run_ret fun a w hst => ⟨rfl, fun hr => ?_⟩
          subst hr
          exact hq2 a w (q_retN hst rfl (.cons (.tmp rfl) <| .cons (.tmp rfl) <| .nil) rfl () (fun _ _ h => h) (.nil))
        · replace h := bf e8 h
          refine run_skip ?_
          obtain ⟨r3, e9, h⟩ := bind_some h
          refine run_draw (n := 13) (by kernel_rfl) (by kernel_rfl) (by kernel_rfl) (by kernel_rfl) (.read (.plain rfl (pm (ht rfl))) <| .read (.plain rfl (pj_nilCheck_ptr (ht rfl))) <| .read (.plain rfl (pj_field_ptr (off := 50) (ht rfl) (by kernel_rfl))) <| .read (.plain rfl (pj_load_box (ht rfl) .here (Path.then (Path.all (prod i64 (prod i64 (prod R_api_ID (prod R_api_Hash (exv v1)))))) (Path.then (Path.snd i64 (prod i64 (prod R_api_ID (prod R_api_Hash (exv v1))))) (Path.then (Path.snd i64 (prod R_api_ID (prod R_api_Hash (exv v1)))) (Path.then (Path.snd R_api_ID (prod R_api_Hash (exv v1))) (Path.snd R_api_Hash (exv v1)))))) (by kernel_rfl))) <| .read (.plain rfl (pm (ht rfl))) <| .read (.plain rfl (pm (ht rfl))) <| .read (.plain rfl (pj_iadd (ht rfl) (ht rfl))) <| .read (.plain rfl (pl (ht rfl) (by kernel_rfl))) <| .read (.plain rfl (pm (ht rfl))) <| .read (.plain rfl (pm (ht rfl))) <| .read (.plain rfl (pj_iadd (ht rfl) (ht rfl))) <| .read (.plain rfl (pl (ht rfl) (by kernel_rfl))) <| .read (.plain rfl (pj_call (hc (ht rfl) <| hc (ht rfl) <| hc (ht rfl) <| hasL_nil) (by kernel_rfl) (c_lms_leaf hg0 hg1 e9))) <| .nil) (j_to (Γ' := [(1, i64.slot p_kind), (6, ptrTo R_api_ID p_id), (7, ptrTo R_api_Hash p_seed), (10, i64.slot (ishl (1 : Int) p_height)), (11, val (.pointer (some ⟨b1, 0, none⟩))), (31, i64.slot (ishl (1 : Int) p_height)), (32, i64.slot y1), (50, ov v1), (53, i64.slot (w64 ((ishl (1 : Int) p_height) + y1))), (59, R_api_Hash.slot r3)]) (H' := [box b1 116 (prod i64 (prod i64 (prod R_api_ID (prod R_api_Hash (exv v1))))) (p_height, p_kind, p_id, p_seed, ()), own 23 R_api_Hash v1 y2]) (.cons (.of_lk rfl) <| .cons (.of_lk rfl) <| .cons (.of_lk rfl) <| .cons (.of_lk rfl) <| .cons (.of_lk rfl) <| .cons (.of_lk rfl) <| .cons (.of_lk rfl) <| .cons (.of_lk rfl) <| .cons (.of_lk rfl) <| .cons (.of_lk rfl) <| .nil) (.cons .here <| .cons .here <| .nil) ?_)
          obtain ⟨e10, h⟩ := grd_some h
          refine jp (pj_index_own (ht rfl) (.next .here) (ht rfl) isInt_i64 e10.1 (lt_nat e10) (by kernel_rfl)) rfl rfl rfl ?_
          refine j_store_own0 R_api_Hash ((w64 ((ishl (1 : Int) p_height) + y1)).toNat) (ht rfl) (ht rfl) (.next .here) (lt_nat e10) (by kernel_rfl) ?_
          refine j_end ?_
          refine run_endblock ?_
          refine rt ?_
          refine jp (pj_iadd (ht rfl) has_i64) rfl rfl rfl ?_
          refine jp (pm (ht rfl)) rfl rfl rfl ?_
          refine j_end ?_
          obtain rfl := oi h
          exact run_next () (.cons (.of_lk rfl) <| .cons (.of_lk rfl) <| .cons (.of_lk rfl) <| .cons (.of_lk rfl) <| .cons (.of_lk rfl) <| .cons (.of_lk rfl) <| .cons (.of_lk rfl) <| .nil) (.cons (.next .here) <| .cons .here <| .nil)
      · replace h := bf e6 h
        obtain rfl := oi h
        exact run_brk () (.cons (.of_lk rfl) <| .cons (.of_lk rfl) <| .cons (.of_lk rfl) <| .cons (.of_lk rfl) <| .cons (.of_lk rfl) <| .cons (.of_lk rfl) <| .cons (.of_lk rfl) <| .nil) (.cons .here <| .cons .here <| .nil)
    · rintro _ ⟨y3, y4⟩ ho
      subst ho
      show Run _ _ _ [(1, i64.slot p_kind), (6, ptrTo R_api_ID p_id), (7, ptrTo R_api_Hash p_seed), (10, i64.slot (ishl (1 : Int) p_height)), (11, val (.pointer (some ⟨b1, 0, none⟩))), (31, i64.slot (ishl (1 : Int) p_height)), (32, i64.slot y3)] [box b1 116 (prod i64 (prod i64 (prod R_api_ID (prod R_api_Hash (exv v1))))) (p_height, p_kind, p_id, p_seed, ()), own 23 R_api_Hash v1 y4]
      refine run_to (Γ' := [(6, ptrTo R_api_ID p_id), (10, i64.slot (ishl (1 : Int) p_height)), (11, val (.pointer (some ⟨b1, 0, none⟩)))]) (H' := [box b1 116 (prod i64 (prod i64 (prod R_api_ID (prod R_api_Hash (exv v1))))) (p_height, p_kind, p_id, p_seed, ()), own 23 R_api_Hash v1 y4]) (.cons (.of_lk rfl) <| .cons (.of_lk rfl) <| .cons (.of_lk rfl) <| .nil) (.cons .here <| .cons .here <| .nil) ?_
      refine rs ?_
      refine rs ?_
      refine rt ?_
      refine jp (pm (ht rfl)) rfl rfl rfl ?_
      refine jp (pj_isub (ht rfl) has_i64) rfl rfl rfl ?_
      obtain ⟨x2, e12, h⟩ := bind_some h
      refine jp (PJ.eqv (pa (ht rfl)) (oi e12)) rfl rfl rfl ?_
      refine j_end ?_
      obtain ⟨⟨y7, y8⟩, e18, h⟩ := bind_some h
      refine run_loopS (Γi := fun (i : Unit) (s : Int × (List T_api_Hash)) => [(6, ptrTo R_api_ID p_id), (11, val (.pointer (some ⟨b1, 0, none⟩))), (15, i64.slot s.1)]) (Hi := fun (i : Unit) (s : Int × (List T_api_Hash)) => [box b1 116 (prod i64 (prod i64 (prod R_api_ID (prod R_api_Hash (exv v1))))) (p_height, p_kind, p_id, p_seed, ()), own 23 R_api_Hash v1 s.2]) e18 () (fun a w hst => (hst.sub (.cons (.of_lk rfl) <| .cons (.of_lk rfl) <| .cons (.of_lk rfl) <| .nil)).keep (.cons .here <| .cons .here <| .nil)) ?_ ?_
      · clear h e18
        rintro _ ⟨y5, y6⟩ lr h
        change lms_New_L2 p_id y5 y6 = some _ at h
        show Run _ _ _ [(6, ptrTo R_api_ID p_id), (11, val (.pointer (some ⟨b1, 0, none⟩))), (15, i64.slot y5)] [box b1 116 (prod i64 (prod i64 (prod R_api_ID (prod R_api_Hash (exv v1))))) (p_height, p_kind, p_id, p_seed, ()), own 23 R_api_Hash v1 y6]
        unfold lms_New_L2 at h
        refine rs ?_
        refine rs ?_
        refine rt ?_
        refine jp (pm (ht rfl)) rfl rfl rfl ?_
        refine jp (pj_igtr (ht rfl) has_i64) rfl rfl rfl ?_
        refine j_end ?_
        refine run_cond (ht rfl) (fun e13 => ?_) (fun e13 => ?_)
        · replace h := bt e13 h
          refine run_skip ?_
          refine rs ?_
          refine run_block ?_
          obtain ⟨x3, e14, h⟩ := bind_some h
          obtain ⟨x4, e15, h⟩ := bind_some h
          obtain ⟨r4, e16, h⟩ := bind_some h
          refine run_draw (n := 25) (by kernel_rfl) (by kernel_rfl) (by kernel_rfl) (by kernel_rfl) (.read (.plain rfl (pm (ht rfl))) <| .read (.plain rfl (pj_nilCheck_ptr (ht rfl))) <| .read (.plain rfl (pj_field_ptr (off := 50) (ht rfl) (by kernel_rfl))) <| .read (.plain rfl (pj_load_box (ht rfl) .here (Path.then (Path.all (prod i64 (prod i64 (prod R_api_ID (prod R_api_Hash (exv v1)))))) (Path.then (Path.snd i64 (prod i64 (prod R_api_ID (prod R_api_Hash (exv v1))))) (Path.then (Path.snd i64 (prod R_api_ID (prod R_api_Hash (exv v1)))) (Path.then (Path.snd R_api_ID (prod R_api_Hash (exv v1))) (Path.snd R_api_Hash (exv v1)))))) (by kernel_rfl))) <| .read (.plain rfl (pm (ht rfl))) <| .read (.plain rfl (pl (ht rfl) (by kernel_rfl))) <| .read (.plain rfl (pm (ht rfl))) <| .read (.plain rfl (pm (ht rfl))) <| .read (.plain rfl (pj_nilCheck_ptr (ht rfl))) <| .read (.plain rfl (pj_field_ptr (off := 50) (ht rfl) (by kernel_rfl))) <| .read (.plain rfl (pj_load_box (ht rfl) .here (Path.then (Path.all (prod i64 (prod i64 (prod R_api_ID (prod R_api_Hash (exv v1)))))) (Path.then (Path.snd i64 (prod i64 (prod R_api_ID (prod R_api_Hash (exv v1))))) (Path.then (Path.snd i64 (prod R_api_ID (prod R_api_Hash (exv v1)))) (Path.then (Path.snd R_api_ID (prod R_api_Hash (exv v1))) (Path.snd R_api_Hash (exv v1)))))) (by kernel_rfl))) <| .read (.plain rfl (pm (ht rfl))) <| .read (.plain rfl (pj_imul has_i64 (ht rfl))) <| .read (.plain rfl (pj_index_own (ht rfl) (.next .here) (ht rfl) isInt_i64 (lget_some e14).1 (lget_some e14).2.1 (by kernel_rfl))) <| .read (.plain rfl (PJ.eqv (pj_load_own0 R_api_Hash ((w64 ((2 : Int) * y5)).toNat) (ht rfl) (.next .here) (lget_some e14).2.1 (by kernel_rfl)) (lget_eq e14 (lget_some e14).2.1))) <| .read (.plain rfl (pm (ht rfl))) <| .read (.plain rfl (pj_nilCheck_ptr (ht rfl))) <| .read (.plain rfl (pj_field_ptr (off := 50) (ht rfl) (by kernel_rfl))) <| .read (.plain rfl (pj_load_box (ht rfl) .here (Path.then (Path.all (prod i64 (prod i64 (prod R_api_ID (prod R_api_Hash (exv v1)))))) (Path.then (Path.snd i64 (prod i64 (prod R_api_ID (prod R_api_Hash (exv v1))))) (Path.then (Path.snd i64 (prod R_api_ID (prod R_api_Hash (exv v1)))) (Path.then (Path.snd R_api_ID (prod R_api_Hash (exv v1))) (Path.snd R_api_Hash (exv v1)))))) (by kernel_rfl))) <| .read (.plain rfl (pm (ht rfl))) <| .read (.plain rfl (pj_imul has_i64 (ht rfl))) <| .read (.plain rfl (pj_iadd (ht rfl) has_i64)) <| .read (.plain rfl (pj_index_own (ht rfl) (.next .here) (ht rfl) isInt_i64 (lget_some e15).1 (lget_some e15).2.1 (by kernel_rfl))) <| .read (.plain rfl (PJ.eqv (pj_load_own0 R_api_Hash ((w64 ((w64 ((2 : Int) * y5)) + (1 : Int))).toNat) (ht rfl) (.next .here) (lget_some e15).2.1 (by kernel_rfl)) (lget_eq e15 (lget_some e15).2.1))) <| .read (.plain rfl (pj_call (hc (ht rfl) <| hc (ht rfl) <| hc (ht rfl) <| hc (ht rfl) <| hasL_nil) (by kernel_rfl) (c_lms_inner hg0 hg1 e16))) <| .nil) (j_to (Γ' := [(6, ptrTo R_api_ID p_id), (11, val (.pointer (some ⟨b1, 0, none⟩))), (15, i64.slot y5), (71, ov v1), (72, i64.slot y5), (92, R_api_Hash.slot r4)]) (H' := [box b1 116 (prod i64 (prod i64 (prod R_api_ID (prod R_api_Hash (exv v1))))) (p_height, p_kind, p_id, p_seed, ()), own 23 R_api_Hash v1 y6]) (.cons (.of_lk rfl) <| .cons (.of_lk rfl) <| .cons (.of_lk rfl) <| .cons (.of_lk rfl) <| .cons (.of_lk rfl) <| .cons (.of_lk rfl) <| .nil) (.cons .here <| .cons .here <| .nil) ?_)
          obtain ⟨e17, h⟩ := grd_some h
          refine jp (pj_index_own (ht rfl) (.next .here) (ht rfl) isInt_i64 e17.1 (lt_nat e17) (by kernel_rfl)) rfl rfl rfl ?_
          refine j_store_own0 R_api_Hash (y5.toNat) (ht rfl) (ht rfl) (.next .here) (lt_nat e17) (by kernel_rfl) ?_
          refine j_end ?_
          refine run_endblock ?_
          refine rt ?_
          refine jp (pm (ht rfl)) rfl rfl rfl ?_
          refine jp (pj_isub (ht rfl) has_i64) rfl rfl rfl ?_
          refine jp (pa (ht rfl)) rfl rfl rfl ?_
          refine j_end ?_
          obtain rfl := oi h
          exact run_next () (.cons (.of_lk rfl) <| .cons (.of_lk rfl) <| .cons (.of_lk rfl) <| .nil) (.cons (.next .here) <| .cons .here <| .nil)
        · replace h := bf e13 h
          obtain rfl := oi h
          exact run_brk () (.cons (.of_lk rfl) <| .cons (.of_lk rfl) <| .cons (.of_lk rfl) <| .nil) (.cons .here <| .cons .here <| .nil)
      · rintro _
        show Run _ _ _ [(6, ptrTo R_api_ID p_id), (11, val (.pointer (some ⟨b1, 0, none⟩))), (15, i64.slot y7)] [box b1 116 (prod i64 (prod i64 (prod R_api_ID (prod R_api_Hash (exv v1))))) (p_height, p_kind, p_id, p_seed, ()), own 23 R_api_Hash v1 y8]
        refine run_to (Γ' := [(11, val (.pointer (some ⟨b1, 0, none⟩)))]) (H' := [box b1 116 (prod i64 (prod i64 (prod R_api_ID (prod R_api_Hash (exv v1))))) (p_height, p_kind, p_id, p_seed, ()), own 23 R_api_Hash v1 y8]) (.cons (.of_lk rfl) <| .nil) (.cons .here <| .cons .here <| .nil) ?_
        refine rs ?_
        refine rt ?_
        refine jp (pm (ht rfl)) rfl rfl rfl ?_
        refine jp (pa (ht rfl)) rfl rfl rfl ?_
        refine jp (pa has_i64) rfl rfl rfl ?_
        refine j_end ?_
        refine run_freezeIn (p_height, p_kind, p_id, p_seed, y8) (.next .here) .here (cv_snd i64 p_height (cv_snd i64 p_kind (cv_snd R_api_ID p_id (cv_snd R_api_Hash p_seed cv_at)))) ?_
        refine run_freezeBox [8, 11, 94] .here (frz_cons (.of_lk rfl) <| frz_cons (.of_lk rfl) <| frz_cons (.of_lk rfl) <| frz_nil) ?_
        obtain rfl := oi h
        exact run_ret fun a w hst => q_retN hst rfl (.cons (.tmp rfl) <| .cons (.tmp rfl) <| .nil) rfl () (fun _ _ h => h) (.nil)
    · intro x a w ho hR
      subst ho
      exact hq1 a w (hR (oi h))
set_option maxRecDepth 100000 in
set_option maxHeartbeats 4000000 in
theorem c_hss_New {G : GP} (hg0 : HG0 G) (hg1 : HG1 G) (hg2 : HG2 G) {p_top : Int} {p_bottom : Int} {p_kind : Int} {p_seed : T_api_Hash} {r : (Option (Int × Int × T_api_Hash × (Option T_lms_Tree) × (Option T_lms_Tree) × Int)) × Int} (h : hss_New p_top p_bottom p_kind p_seed = some r) : Ctr Tryd.prog G 39 [i64.slot p_top, i64.slot p_bottom, i64.slot p_kind, R_api_Hash.slot p_seed] [] (fun (u0 : Nat) => tup [optP u0 r.1, i64.slot r.2]) (fun (u0 : Nat) => optB u0 87 (prod i64 (prod i64 (prod R_api_Hash (prod (ptr R_lms_Tree) (prod (ptr R_lms_Tree) i64))))) r.1) := by
  unfold hss_New at h
  refine ctr_of_run Tryd.func39 rfl 40 rfl rfl fun m0 w0 b0 => ?_
  show Run _ _ _ [(0, i64.slot p_top), (1, i64.slot p_bottom), (2, i64.slot p_kind), (3, R_api_Hash.slot p_seed)] _
  refine rs ?_
  refine rt ?_
  refine jp (pj_box_to (ht rfl)) rfl rfl rfl ?_
  refine jp (pa has_nilP) rfl rfl rfl ?_
  refine jp (pa has_i64) rfl rfl rfl ?_
  refine j_end ?_
  refine rs ?_
  refine rs ?_
  refine rt ?_
  refine jp (pm (ht rfl)) rfl rfl rfl ?_
  refine jp (pm (ht rfl)) rfl rfl rfl ?_
  obtain ⟨r1, e1, h⟩ := bind_some h
  refine jp (pj_call (hc (ht rfl) <| hc (ht rfl) <| hasL_nil) (by kernel_rfl) (c_lms_Size hg2 e1)) rfl rfl rfl ?_
  refine jp (pj_ieql (ht rfl) has_i64) rfl rfl rfl ?_
  refine j_end ?_
  refine run_cond (ht rfl) (fun e2 => ?_) (fun e2 => ?_)
  · replace h := bt e2 h
    refine rs ?_
    refine rt ?_
    refine jp (pa has_nilP) rfl rfl rfl ?_
    refine jp (pa has_i64) rfl rfl rfl ?_
    refine j_end ?_
    obtain rfl := oi h
    exact run_ret fun a w hst => q_retN hst rfl (.cons (.tmp rfl) <| .cons (.tmp rfl) <| .nil) rfl 0 (fun _ _ h => h) (.nil)
  · replace h := bf e2 h
    refine run_skip ?_
    refine rs ?_
    refine rt ?_
    refine jp (pl (ht rfl) (by kernel_rfl)) rfl rfl rfl ?_
    obtain ⟨r2, e3, h⟩ := bind_some h
    refine jp (pj_call (hc (ht rfl) <| hc (has_nil (R := u8)) <| hasL_nil) (by kernel_rfl) (c_hss_child hg0 hg1 e3)) rfl rfl rfl ?_
    refine jp (pm (ht rfl)) rfl rfl rfl ?_
    refine jp (pj_extract (ht rfl) rfl) rfl rfl rfl ?_
    refine jp (pj_extract (ht rfl) rfl) rfl rfl rfl ?_
    refine j_alloc (x := (Vector.replicate 16 (0#8))) (R := R_api_ID) (zero_vec 16 zero_un) (by kernel_rfl) rfl fun b1 => ?_
    refine j_alloc (x := (Vector.replicate 32 (0#8))) (R := R_api_Hash) (zero_vec 32 zero_un) (by kernel_rfl) rfl fun b2 => ?_
    refine j_store_boxx (r' := r2.1) (ht rfl) (ht rfl) (.next .here) (Path.all R_api_ID) (by kernel_rfl) rfl ?_
    refine j_freezeTo (t := 10) .here (.of_lk rfl) ?_
    refine j_store_boxx (r' := r2.2) (ht rfl) (ht rfl) .here (Path.all R_api_Hash) (by kernel_rfl) rfl ?_
    refine j_freezeTo (t := 11) .here (.of_lk rfl) ?_
    refine j_end ?_
    refine rs ?_
    refine rt ?_
    refine jp (pm (ht rfl)) rfl rfl rfl ?_
    refine jp (pm (ht rfl)) rfl rfl rfl ?_
    refine jp (pl (ht rfl) (by kernel_rfl)) rfl rfl rfl ?_
    refine jp (pl (ht rfl) (by kernel_rfl)) rfl rfl rfl ?_
    obtain ⟨r3, e4, h⟩ := bind_some h
    refine jp (pj_call (hc (ht rfl) <| hc (ht rfl) <| hc (ht rfl) <| hc (ht rfl) <| hasL_nil) (by kernel_rfl) (c_lms_New hg0 hg1 hg2 e4)) rfl rfl rfl ?_
    refine jp (pm (ht rfl)) rfl rfl rfl ?_
    refine jp (pj_extract (ht rfl) rfl) rfl rfl rfl ?_
    refine jp (pj_extract (ht rfl) rfl) rfl rfl rfl ?_
    refine jp (pa (ht rfl)) rfl rfl rfl ?_
    refine jp (pa (ht rfl)) rfl rfl rfl ?_
    refine j_end ?_
    refine rs ?_
    refine rs ?_
    refine rt ?_
    refine jp (pm (ht rfl)) rfl rfl rfl ?_
    refine jp (pj_ineq (ht rfl) has_i64) rfl rfl rfl ?_
    refine j_end ?_
    refine run_cond (ht rfl) (fun e5 => ?_) (fun e5 => ?_)
    · replace h := bt e5 h
      refine rs ?_
      refine rt ?_
      refine jp (pm (ht rfl)) rfl rfl rfl ?_
      refine jp (pa has_nilP) rfl rfl rfl ?_
      refine jp (pa (ht rfl)) rfl rfl rfl ?_
      refine j_end ?_
      obtain rfl := oi h
      exact run_ret fun a w hst => q_retN hst rfl (.cons (.tmp rfl) <| .cons (.tmp rfl) <| .nil) rfl 0 (fun _ _ h => h) (.nil)
    · replace h := bf e5 h
      refine run_skip ?_
      refine rs ?_
      refine rt ?_
      refine jp (pm (ht rfl)) rfl rfl rfl ?_
      refine jp (pm (ht rfl)) rfl rfl rfl ?_
      refine jp (pl (ht rfl) (by kernel_rfl)) rfl rfl rfl ?_
      refine jp (pm (ht rfl)) rfl rfl rfl ?_
      obtain ⟨x1, e6, h⟩ := bind_some h
      refine jp (PJ.eqv (pj_build (R := R_hss_Signer) (zero_prod zero_i64 (zero_prod zero_i64 (zero_prod (zero_vec 32 zero_un) (zero_prod zero_ptr (zero_prod zero_ptr zero_i64))))) (by kernel_rfl) (by kernel_rfl) rfl (.cons (ht rfl) (Path.fst i64 (prod i64 (prod R_api_Hash (prod (ptr R_lms_Tree) (prod (ptr R_lms_Tree) i64))))) (by kernel_rfl) (.cons (ht rfl) (Path.then (Path.snd i64 (prod i64 (prod R_api_Hash (prod (ptr R_lms_Tree) (prod (ptr R_lms_Tree) i64))))) (Path.fst i64 (prod R_api_Hash (prod (ptr R_lms_Tree) (prod (ptr R_lms_Tree) i64))))) (by kernel_rfl) (.cons (ht rfl) (Path.then (Path.snd i64 (prod i64 (prod R_api_Hash (prod (ptr R_lms_Tree) (prod (ptr R_lms_Tree) i64))))) (Path.then (Path.snd i64 (prod R_api_Hash (prod (ptr R_lms_Tree) (prod (ptr R_lms_Tree) i64)))) (Path.fst R_api_Hash (prod (ptr R_lms_Tree) (prod (ptr R_lms_Tree) i64))))) (by kernel_rfl) (.cons (ht rfl) (Path.then (Path.snd i64 (prod i64 (prod R_api_Hash (prod (ptr R_lms_Tree) (prod (ptr R_lms_Tree) i64))))) (Path.then (Path.snd i64 (prod R_api_Hash (prod (ptr R_lms_Tree) (prod (ptr R_lms_Tree) i64)))) (Path.then (Path.snd R_api_Hash (prod (ptr R_lms_Tree) (prod (ptr R_lms_Tree) i64))) (Path.fst (ptr R_lms_Tree) (prod (ptr R_lms_Tree) i64))))) (by kernel_rfl) (.cons has_i64 (Path.then (Path.snd i64 (prod i64 (prod R_api_Hash (prod (ptr R_lms_Tree) (prod (ptr R_lms_Tree) i64))))) (Path.then (Path.snd i64 (prod R_api_Hash (prod (ptr R_lms_Tree) (prod (ptr R_lms_Tree) i64)))) (Path.then (Path.snd R_api_Hash (prod (ptr R_lms_Tree) (prod (ptr R_lms_Tree) i64))) (Path.then (Path.snd (ptr R_lms_Tree) (prod (ptr R_lms_Tree) i64)) (Path.snd (ptr R_lms_Tree) i64))))) (by kernel_rfl) .nil)))))) (oi e6)) rfl rfl rfl ?_
      refine j_box (ht rfl) rfl fun b3 => ?_
      refine jp (pa (ht rfl)) rfl rfl rfl ?_
      refine jp (pa has_i64) rfl rfl rfl ?_
      refine j_end ?_
      obtain rfl := oi h
      exact run_ret fun a w hst => q_retN hst rfl (.cons (.tmp rfl) <| .cons (.tmp rfl) <| .nil) rfl b3 (fun _ _ h => h) (.cons .here <| .nil)
set_option maxRecDepth 100000 in
set_option maxHeartbeats 4000000 in
theorem c_rolodexlaw27_Signer {G : GP} (hg0 : HG0 G) (hg1 : HG1 G) (hg2 : HG2 G) {r : (Int × Int × T_api_Hash × (Option T_lms_Tree) × (Option T_lms_Tree) × Int)} (h : rolodexlaw27_Signer = some r) : Ctr Tryd.prog G 18 [] [] (fun (u0 : Nat) => val (.pointer (some ⟨u0, 0, none⟩))) (fun (u0 : Nat) => [box u0 87 (prod i64 (prod i64 (prod R_api_Hash (prod (ptr R_lms_Tree) (prod (ptr R_lms_Tree) i64))))) (r.1, r.2.1, r.2.2.1, r.2.2.2.1, r.2.2.2.2.1, r.2.2.2.2.2)]) := by
  unfold rolodexlaw27_Signer at h
  refine ctr_of_run Tryd.func18 rfl 9 rfl rfl fun m0 w0 b0 => ?_
  show Run _ _ _ [] _
  refine rs ?_
  refine rt ?_
  refine jp (pa (has_nilp (R := R_hss_Signer))) rfl rfl rfl ?_
  refine j_end ?_
  refine rs ?_
  refine rt ?_
  obtain ⟨x1, e1, h⟩ := bind_some h
  refine jp (PJ.eqv (pj_build (R := R_api_Hash) (zero_vec 32 zero_un) (by kernel_rfl) (by kernel_rfl) rfl (.cons (has_un (x := 27#8) rfl) (Path.at 32 u8 0 (by decide)) (by kernel_rfl) .nil)) (oi e1)) rfl rfl rfl ?_
  obtain ⟨r1, e2, h⟩ := bind_some h
  obtain ⟨x2, e3, h⟩ := bind_some h
  refine j_call (hc has_i64 <| hc has_i64 <| hc has_i64 <| hc (ht rfl) <| hasL_nil) (by kernel_rfl) (c_hss_New hg0 hg1 hg2 (e2.trans (congrArg some (show r1 = (some x2, r1.2) from Prod.ext e3 rfl)))) .nil rfl fun b1 => ?_
  refine jp (pm (ht rfl)) rfl rfl rfl ?_
  refine jp (pj_extract (ht rfl) rfl) rfl rfl rfl ?_
  refine jp (pj_extract (ht rfl) rfl) rfl rfl rfl ?_
  refine jp (pa (ht rfl)) rfl rfl rfl ?_
  refine jp (pa (ht rfl)) rfl rfl rfl ?_
  refine j_end ?_
  refine rs ?_
  refine rt ?_
  refine jp (pm (ht rfl)) rfl rfl rfl ?_
  refine jp (pa (ht rfl)) rfl rfl rfl ?_
  refine j_end ?_
  obtain rfl := oi h
  exact run_ret fun a w hst => q_ret1 hst rfl (.tmp rfl) b1 (fun _ _ h => h) (.cons .here <| .nil)
set_option maxRecDepth 100000 in
set_option maxHeartbeats 4000000 in
theorem c_gossip_New {G : GP} {p_public : List (BitVec 8)} {r : ((List (BitVec 8)) × (List T_head_Signed) × (List T_gossip_Fork) × (List T_gossip_link))} (h : gossip_New p_public = some r) : Ctr Tryd.prog G 19 [(sl u8).slot p_public] [] (fun (i : Nat × Value × Value × Value) => val (.pointer (some ⟨i.1, 0, none⟩))) (fun (i : Nat × Value × Value × Value) => [box i.1 83 (prod (sl u8) (prod (exv i.2.1) (prod (exv i.2.2.1) (exv i.2.2.2)))) (r.1, (), (), ()), own 44 R_head_Signed i.2.1 r.2.1, own 59 R_gossip_Fork i.2.2.1 r.2.2.1, own 144 R_gossip_link i.2.2.2 r.2.2.2]) := by
  unfold gossip_New at h
  refine ctr_of_run Tryd.func19 rfl 7 rfl rfl fun m0 w0 b0 => ?_
  show Run _ _ _ [(0, (sl u8).slot p_public)] _
  refine rs ?_
  refine rt ?_
  refine jp (pa (has_nilp (R := R_gossip_Pool))) rfl rfl rfl ?_
  refine j_end ?_
  refine rs ?_
  refine rt ?_
  refine jp (pm (ht rfl)) rfl rfl rfl ?_
  obtain ⟨r1, e1, h⟩ := bind_some h
  refine jp (pj_call (hc (ht rfl) <| hasL_nil) (by kernel_rfl) (Ctr.froze (c_slices_Clone_byte_byte e1))) rfl rfl rfl ?_
  refine j_own_nil 144 R_gossip_link none (j_own_nil 59 R_gossip_Fork none (j_own_nil 44 R_head_Signed none (jp (pj_buildX (R := (prod (sl u8) (prod (exv (.slice none 0 0)) (prod (exv ((.slice none 0 0))) (exv (((.slice none 0 0)))))))) (x := (([] : List (BitVec 8)), (), (), ())) (zero_prod zero_sl (zero_prod zero_exv (zero_prod zero_exv zero_exv))) (by kernel_rfl) (by kernel_rfl) rfl (.cons (ht rfl) (sx_pathx (x1 := (r1, (), (), ())) (Path.fst (sl u8) (prod (exv (.slice none 0 0)) (prod (exv ((.slice none 0 0))) (exv (((.slice none 0 0))))))) rfl) (by kernel_rfl) .nil)) rfl rfl rfl ?_)))
  refine j_box (ht rfl) rfl fun b1 => ?_
  refine jp (pa (ht rfl)) rfl rfl rfl ?_
  refine j_end ?_
  obtain rfl := oi h
  exact run_ret fun a w hst => q_ret1 hst rfl (.tmp rfl) (b1, (.slice none 0 0), ((.slice none 0 0)), (((.slice none 0 0)))) (fun _ _ h => h) (.cons .here <| .cons .here <| .cons .here <| .cons .here <| .nil)
set_option maxRecDepth 100000 in
set_option maxHeartbeats 4000000 in
theorem c_slices_Grow_byte_byte_nilsl {G : GP} {p_n : Int} {r : (List (BitVec 8))} (h : slices_Grow_byte_byte_nilsl p_n = some r) : Ctr Tryd.prog G 62 [val (.slice none 0 0), i64.slot p_n] [] (fun (u0 : Value) => ov u0) (fun (u0 : Value) => [own 5 u8 u0 r]) := by
  unfold slices_Grow_byte_byte_nilsl at h
  refine ctr_of_run Tryd.func62 rfl 27 rfl rfl fun m0 w0 b0 => ?_
  show Run _ _ _ [(0, val (.slice none 0 0)), (1, i64.slot p_n)] _
  refine rs ?_
  refine rt ?_
  refine j_assign_nil (T := 5) u8 rfl fun v1 => ?_
  refine j_end ?_
  refine rs ?_
  refine rs ?_
  refine rt ?_
  refine jp (pm (ht rfl)) rfl rfl rfl ?_
  refine jp (pj_ilss (ht rfl) has_i64) rfl rfl rfl ?_
  refine j_end ?_
  refine run_cond (ht rfl) (fun e1 => ?_) (fun e1 => ?_)
  · replace h := bt e1 h
    cases h
  · replace h := bf e1 h
    refine run_skip ?_
    refine rs ?_
    refine rs ?_
    refine rt ?_
    refine jp (pm (ht rfl)) rfl rfl rfl ?_
    refine jp (pm (ht rfl)) rfl rfl rfl ?_
    refine jp (pj_cap_val (sz := 1) (ht rfl) (by kernel_rfl)) rfl rfl rfl ?_
    refine jp (pm (ht rfl)) rfl rfl rfl ?_
    refine jp (pj_len_val (sz := 1) (ht rfl) (by kernel_rfl)) rfl rfl rfl ?_
    refine jp (pj_isub (ht rfl) (ht rfl)) rfl rfl rfl ?_
    refine jp (pj_isub (ht rfl) (ht rfl)) rfl rfl rfl ?_
    obtain ⟨x1, e2, h⟩ := bind_some h
    refine jp (PJ.eqv (pa (ht rfl)) (oi e2)) rfl rfl rfl ?_
    refine j_end ?_
    refine rs ?_
    refine rt ?_
    refine jp (pm (ht rfl)) rfl rfl rfl ?_
    refine jp (pj_igtr (ht rfl) has_i64) rfl rfl rfl ?_
    refine j_end ?_
    refine run_cond (ht rfl) (fun e3 => ?_) (fun e3 => ?_)
    · replace h := bt e3 h
      refine rt ?_
      refine jp (pm (ht rfl)) rfl rfl rfl ?_
      refine jp (pm (ht rfl)) rfl rfl rfl ?_
      refine jp (pj_cap_val (sz := 1) (ht rfl) (by kernel_rfl)) rfl rfl rfl ?_
      refine jp (pj_slice_nil (sz := 1) (ht rfl) (ht rfl) isInt_i64 (by kernel_rfl)) rfl rfl rfl ?_
      refine jp (pm (ht rfl)) rfl rfl rfl ?_
      obtain ⟨e4, h⟩ := grd_some h
      refine j_appendMake (T := 5) (R := u8) (z := (0#8)) (ht rfl) (ht rfl) e4 (by kernel_rfl) (by kernel_rfl) zero_un (by kernel_rfl) (by kernel_rfl) rfl fun v2 => ?_
      refine jp (pm (ht rfl)) rfl rfl rfl ?_
      refine jp (pj_len_val (sz := 1) (ht rfl) (by kernel_rfl)) rfl rfl rfl ?_
      obtain ⟨e5, h⟩ := grd_some h
      refine j_slice_own (ht rfl) .here (ht rfl) isInt_i64 e5.1 e5.2 (by kernel_rfl) rfl fun v3 => ?_
      refine jp (pa (ht rfl)) rfl rfl rfl ?_
      refine j_end ?_
      refine rs ?_
      refine rt ?_
      refine jp (pm (ht rfl)) rfl rfl rfl ?_
      refine jp (pa (ht rfl)) rfl rfl rfl ?_
      refine j_end ?_
      obtain rfl := oi h
      exact run_ret fun a w hst => q_ret1 hst rfl (.tmp rfl) v3 (fun _ _ h => h) (.cons .here <| .nil)
    · replace h := bf e3 h
      refine run_skip ?_
      refine rs ?_
      refine rt ?_
      refine jp (pm (ht rfl)) rfl rfl rfl ?_
      refine j_own_nil 5 u8 none (jp (pa (has_ov_nil (ht rfl))) rfl rfl rfl ?_)
      refine j_end ?_
      obtain rfl := oi h
      exact run_ret fun a w hst => q_ret1 hst rfl (.tmp rfl) (.slice none 0 0) (fun _ _ h => h) (.cons .here <| .nil)
set_option maxRecDepth 100000 in
set_option maxHeartbeats 4000000 in
theorem c_slices_Concat_byte_byte {G : GP} {p_slices : List (List (BitVec 8))} {r : (List (BitVec 8))} (h : slices_Concat_byte_byte p_slices = some r) : Ctr Tryd.prog G 41 [(sl (sl u8)).slot p_slices] [] (fun (u0 : Value) => ov u0) (fun (u0 : Value) => [own 5 u8 u0 r]) := by
  unfold slices_Concat_byte_byte at h
  refine ctr_of_run Tryd.func41 rfl 36 rfl rfl fun m0 w0 b0 => ?_
  show Run _ _ _ [(0, (sl (sl u8)).slot p_slices)] _
  refine rs ?_
  refine rt ?_
  refine j_assign_nil (T := 5) u8 rfl fun v1 => ?_
  refine j_end ?_
  refine rs ?_
  refine rt ?_
  refine jp (pa has_i64) rfl rfl rfl ?_
  refine j_end ?_
  refine rs ?_
  refine rs ?_
  refine rt ?_
  refine jp (pm (ht rfl)) rfl rfl rfl ?_
  refine jp (pj_len_sl (sz := 1) (ht rfl) (by kernel_rfl)) rfl rfl rfl ?_
  refine jp (pm has_i64) rfl rfl rfl ?_
  refine j_end ?_
  obtain ⟨⟨y3, y4⟩, e4, h⟩ := bind_some h
  refine run_loopS (Γi := fun (i : Unit) (s : Int × Int) => [(0, (sl (sl u8)).slot p_slices), (3, i64.slot s.1), (9, (sl (sl u8)).slot p_slices), (10, i64.slot (p_slices.length : Int)), (11, i64.slot s.2)]) (Hi := fun (i : Unit) (s : Int × Int) => []) e4 () (fun a w hst => (hst.sub (.cons (.of_lk rfl) <| .cons (.of_lk rfl) <| .cons (.of_lk rfl) <| .cons (.of_lk rfl) <| .cons (.of_lk rfl) <| .nil)).keep (.nil)) ?_ ?_
  · clear h e4
    rintro _ ⟨y1, y2⟩ lr h
    change slices_Concat_byte_byte_L1 p_slices y1 y2 = some _ at h
    show Run _ _ _ [(0, (sl (sl u8)).slot p_slices), (3, i64.slot y1), (9, (sl (sl u8)).slot p_slices), (10, i64.slot (p_slices.length : Int)), (11, i64.slot y2)] []
    unfold slices_Concat_byte_byte_L1 at h
    refine rs ?_
    refine rt ?_
    refine jp (pj_ilss (ht rfl) (ht rfl)) rfl rfl rfl ?_
    refine j_end ?_
    refine rs ?_
    refine run_cond (ht rfl) (fun e1 => ?_) (fun e1 => ?_)
    · replace h := bt e1 h
      refine run_skip ?_
      refine rs ?_
      refine run_block ?_
      refine rs ?_
      refine rt ?_
      obtain ⟨x1, e2, h⟩ := bind_some h
      refine jp (pj_index_slx (ht rfl) (ht rfl) isInt_i64 e2 (by kernel_rfl)) rfl rfl rfl ?_
      refine jp (pl (ht rfl) (by kernel_rfl)) rfl rfl rfl ?_
      refine jp (pa (ht rfl)) rfl rfl rfl ?_
      refine j_end ?_
      refine rs ?_
      refine rt ?_
      refine jp (pm (ht rfl)) rfl rfl rfl ?_
      refine jp (pm (ht rfl)) rfl rfl rfl ?_
      refine jp (pj_len_sl (sz := 1) (ht rfl) (by kernel_rfl)) rfl rfl rfl ?_
      refine jp (pj_iadd (ht rfl) (ht rfl)) rfl rfl rfl ?_
      refine jp (pa (ht rfl)) rfl rfl rfl ?_
      refine j_end ?_
      refine rs ?_
      refine rt ?_
      refine jp (pm (ht rfl)) rfl rfl rfl ?_
      refine jp (pj_ilss (ht rfl) has_i64) rfl rfl rfl ?_
      refine j_end ?_
      refine run_cond (ht rfl) (fun e3 => ?_) (fun e3 => ?_)
      · replace h := bt e3 h
        cases h
      · replace h := bf e3 h
        refine run_skip ?_
        refine run_endblock ?_
        refine rt ?_
        refine jp (pj_iadd (ht rfl) has_i64) rfl rfl rfl ?_
        refine jp (pm (ht rfl)) rfl rfl rfl ?_
        refine j_end ?_
        obtain rfl := oi h
        exact run_next () (.cons (.of_lk rfl) <| .cons (.of_lk rfl) <| .cons (.of_lk rfl) <| .cons (.of_lk rfl) <| .cons (.of_lk rfl) <| .nil) (.nil)
    · replace h := bf e1 h
      obtain rfl := oi h
      exact run_brk () (.cons (.of_lk rfl) <| .cons (.of_lk rfl) <| .cons (.of_lk rfl) <| .cons (.of_lk rfl) <| .cons (.of_lk rfl) <| .nil) (.nil)
  · rintro _
    show Run _ _ _ [(0, (sl (sl u8)).slot p_slices), (3, i64.slot y3), (9, (sl (sl u8)).slot p_slices), (10, i64.slot (p_slices.length : Int)), (11, i64.slot y4)] []
    refine run_to (Γ' := [(0, (sl (sl u8)).slot p_slices), (3, i64.slot y3)]) (H' := []) (.cons (.of_lk rfl) <| .cons (.of_lk rfl) <| .nil) (.nil) ?_
    refine rs ?_
    refine rt ?_
    refine jp (pm (ht rfl)) rfl rfl rfl ?_
    obtain ⟨r1, e5, h⟩ := bind_some h
    refine j_call (hc has_nilS <| hc (ht rfl) <| hasL_nil) (by kernel_rfl) (c_slices_Grow_byte_byte_nilsl e5) .nil rfl fun v2 => ?_
    refine jp (pa (ht rfl)) rfl rfl rfl ?_
    refine j_end ?_
    refine rs ?_
    refine rs ?_
    refine rt ?_
    refine jp (pm (ht rfl)) rfl rfl rfl ?_
    refine jp (pj_len_sl (sz := 1) (ht rfl) (by kernel_rfl)) rfl rfl rfl ?_
    refine jp (pm has_i64) rfl rfl rfl ?_
    refine j_end ?_
    obtain ⟨⟨y7, y8⟩, e9, h⟩ := bind_some h
    refine run_loopS (Γi := fun (i : Value) (s : Int × (List (BitVec 8))) => [(6, ov i), (25, (sl (sl u8)).slot p_slices), (26, i64.slot (p_slices.length : Int)), (27, i64.slot s.1)]) (Hi := fun (i : Value) (s : Int × (List (BitVec 8))) => [own 5 u8 i s.2]) e9 v2 (fun a w hst => (hst.sub (.cons (.of_lk rfl) <| .cons (.of_lk rfl) <| .cons (.of_lk rfl) <| .cons (.of_lk rfl) <| .nil)).keep (.cons .here <| .nil)) ?_ ?_
    · clear h e9
      rintro v3 ⟨y5, y6⟩ lr h
      change slices_Concat_byte_byte_L2 p_slices y5 y6 = some _ at h
      show Run _ _ _ [(6, ov v3), (25, (sl (sl u8)).slot p_slices), (26, i64.slot (p_slices.length : Int)), (27, i64.slot y5)] [own 5 u8 v3 y6]
      unfold slices_Concat_byte_byte_L2 at h
      refine rs ?_
      refine rt ?_
      refine jp (pj_ilss (ht rfl) (ht rfl)) rfl rfl rfl ?_
      refine j_end ?_
      refine rs ?_
      refine run_cond (ht rfl) (fun e6 => ?_) (fun e6 => ?_)
      · replace h := bt e6 h
        refine run_skip ?_
        refine rs ?_
        refine run_block ?_
        refine rs ?_
        refine rt ?_
        obtain ⟨x2, e7, h⟩ := bind_some h
        refine jp (pj_index_slx (ht rfl) (ht rfl) isInt_i64 e7 (by kernel_rfl)) rfl rfl rfl ?_
        refine jp (pl (ht rfl) (by kernel_rfl)) rfl rfl rfl ?_
        refine jp (pa (ht rfl)) rfl rfl rfl ?_
        refine j_end ?_
        refine rt ?_
        refine jp (pm (ht rfl)) rfl rfl rfl ?_
        refine jp (pm (ht rfl)) rfl rfl rfl ?_
        obtain ⟨e8, h⟩ := grd_some h
        refine j_append (T := 5) (E := 5) (ht rfl) .here (src_data (ht rfl)) (by kernel_rfl) (by kernel_rfl) e8 rfl fun v4 => ?_
        refine jp (pa (ht rfl)) rfl rfl rfl ?_
        refine j_end ?_
        refine run_endblock ?_
        refine rt ?_
        refine jp (pj_iadd (ht rfl) has_i64) rfl rfl rfl ?_
        refine jp (pm (ht rfl)) rfl rfl rfl ?_
        refine j_end ?_
        obtain rfl := oi h
        exact run_next v4 (.cons (.of_lk rfl) <| .cons (.of_lk rfl) <| .cons (.of_lk rfl) <| .cons (.of_lk rfl) <| .nil) (.cons .here <| .nil)
      · replace h := bf e6 h
        obtain rfl := oi h
        exact run_brk v3 (.cons (.of_lk rfl) <| .cons (.of_lk rfl) <| .cons (.of_lk rfl) <| .cons (.of_lk rfl) <| .nil) (.cons .here <| .nil)
    · rintro v5
      show Run _ _ _ [(6, ov v5), (25, (sl (sl u8)).slot p_slices), (26, i64.slot (p_slices.length : Int)), (27, i64.slot y7)] [own 5 u8 v5 y8]
      refine run_to (Γ' := [(6, ov v5)]) (H' := [own 5 u8 v5 y8]) (.cons (.of_lk rfl) <| .nil) (.cons .here <| .nil) ?_
      refine rs ?_
      refine rt ?_
      refine jp (pm (ht rfl)) rfl rfl rfl ?_
      refine jp (pa (ht rfl)) rfl rfl rfl ?_
      refine j_end ?_
      obtain rfl := oi h
      exact run_ret fun a w hst => q_ret1 hst rfl (.tmp rfl) v5 (fun _ _ h => h) (.cons .here <| .nil)
set_option maxRecDepth 100000 in
set_option maxHeartbeats 4000000 in
theorem c_lms_Tree_Public {G : GP} {p_t : Option T_lms_Tree} {r : (List (BitVec 8))} (h : lms_Tree_Public p_t = some r) : Ctr Tryd.prog G 42 [(ptr R_lms_Tree).slot p_t] [] (fun (u0 : Value) => ov u0) (fun (u0 : Value) => [own 5 u8 u0 r]) := by
  unfold lms_Tree_Public at h
  refine ctr_of_run Tryd.func42 rfl 44 rfl rfl fun m0 w0 b0 => ?_
  show Run _ _ _ [(0, (ptr R_lms_Tree).slot p_t)] _
  refine rs ?_
  refine rt ?_
  refine j_assign_nil (T := 5) u8 rfl fun v1 => ?_
  refine j_end ?_
  refine rs ?_
  refine rs ?_
  refine rt ?_
  refine jp (pm (ht rfl)) rfl rfl rfl ?_
  refine jp (pj_eq_nil (E := 116) (by kernel_rfl) (ht rfl)) rfl rfl rfl ?_
  refine j_end ?_
  refine run_cond (ht rfl) (fun e1 => ?_) (fun e1 => ?_)
  · replace h := bt e1 h
    refine rs ?_
    refine rt ?_
    refine j_assign_nil (T := 5) u8 rfl fun v2 => ?_
    refine j_end ?_
    obtain rfl := oi h
    exact run_ret fun a w hst => q_ret1 hst rfl (.tmp rfl) v2 (fun _ _ h => h) (.cons .here <| .nil)
  · replace h := bf e1 h
    refine run_skip ?_
    refine rs ?_
    refine rt ?_
    refine jp (pj_build (R := prod (exv (.slice none 0 0)) bl) (zero_prod zero_exv zero_bl) (by kernel_rfl) (by kernel_rfl) rfl .nil) rfl rfl rfl ?_
    refine j_box_w (T1 := 5) u8 (ht rfl) rfl fun b1 v3 => ?_
    refine jp (pa (ht rfl)) rfl rfl rfl ?_
    refine j_end ?_
    refine rs ?_
    refine rt ?_
    refine jp (pm (ht rfl)) rfl rfl rfl ?_
    refine jp (pm (ht rfl)) rfl rfl rfl ?_
    obtain ⟨x1, e2, h⟩ := bind_some h
    refine jp (pj_nilCheck_some (ht rfl) e2) rfl rfl rfl ?_
    refine jp (pj_field_to (ht rfl) (Path.fst i64 (prod i64 (prod R_api_ID (prod R_api_Hash (sl R_api_Hash))))) (by kernel_rfl)) rfl rfl rfl ?_
    refine jp (pl (ht rfl) (by kernel_rfl)) rfl rfl rfl ?_
    refine jp (pj_conv_un (k := .u32) (b := 32) rfl rfl (by kernel_rfl) (ht rfl) isInt_i64) rfl rfl rfl ?_
    obtain ⟨r1, e3, h⟩ := bind_some h
    refine j_call (hc (ht rfl) <| hc (ht rfl) <| hasL_nil) (by kernel_rfl) (c_wire_Writer_U32 e3) (.cons (.next .here) <| .cons .here <| .nil) rfl fun v4 => ?_
    refine j_end ?_
    refine rs ?_
    refine rt ?_
    refine jp (pm (ht rfl)) rfl rfl rfl ?_
    refine jp (pm (ht rfl)) rfl rfl rfl ?_
    obtain ⟨x2, e4, h⟩ := bind_some h
    refine jp (pj_nilCheck_some (ht rfl) e4) rfl rfl rfl ?_
    refine jp (pj_field_to (ht rfl) (Path.then (Path.snd i64 (prod i64 (prod R_api_ID (prod R_api_Hash (sl R_api_Hash))))) (Path.fst i64 (prod R_api_ID (prod R_api_Hash (sl R_api_Hash))))) (by kernel_rfl)) rfl rfl rfl ?_
    refine jp (pl (ht rfl) (by kernel_rfl)) rfl rfl rfl ?_
    refine jp (pj_conv_un (k := .u32) (b := 32) rfl rfl (by kernel_rfl) (ht rfl) isInt_i64) rfl rfl rfl ?_
    obtain ⟨r2, e5, h⟩ := bind_some h
    refine j_call (hc (ht rfl) <| hc (ht rfl) <| hasL_nil) (by kernel_rfl) (c_wire_Writer_U32 e5) (.cons .here <| .cons .here <| .nil) rfl fun v5 => ?_
    refine j_end ?_
    refine rs ?_
    refine rt ?_
    refine jp (pm (ht rfl)) rfl rfl rfl ?_
    refine jp (pm (ht rfl)) rfl rfl rfl ?_
    obtain ⟨x3, e6, h⟩ := bind_some h
    refine jp (pj_nilCheck_some (ht rfl) e6) rfl rfl rfl ?_
    refine jp (pj_field_to (ht rfl) (Path.then (Path.snd i64 (prod i64 (prod R_api_ID (prod R_api_Hash (sl R_api_Hash))))) (Path.then (Path.snd i64 (prod R_api_ID (prod R_api_Hash (sl R_api_Hash)))) (Path.fst R_api_ID (prod R_api_Hash (sl R_api_Hash))))) (by kernel_rfl)) rfl rfl rfl ?_
    refine jp (pj_slice_toF (ht rfl) (by decide) (by kernel_rfl)) rfl rfl rfl ?_
    obtain ⟨r3, e7, h⟩ := bind_some h
    refine j_call (hc (ht rfl) <| hc (ht rfl) <| hasL_nil) (by kernel_rfl) (c_wire_Writer_Plain e7) (.cons .here <| .cons .here <| .nil) rfl fun v6 => ?_
    refine j_end ?_
    refine rs ?_
    refine rt ?_
    refine jp (pm (ht rfl)) rfl rfl rfl ?_
    refine jp (pm (ht rfl)) rfl rfl rfl ?_
    obtain ⟨x4, e8, h⟩ := bind_some h
    refine jp (pj_nilCheck_some (ht rfl) e8) rfl rfl rfl ?_
    refine jp (pj_field_to (ht rfl) (Path.then (Path.snd i64 (prod i64 (prod R_api_ID (prod R_api_Hash (sl R_api_Hash))))) (Path.then (Path.snd i64 (prod R_api_ID (prod R_api_Hash (sl R_api_Hash)))) (Path.then (Path.snd R_api_ID (prod R_api_Hash (sl R_api_Hash))) (Path.snd R_api_Hash (sl R_api_Hash))))) (by kernel_rfl)) rfl rfl rfl ?_
    refine jp (pl (ht rfl) (by kernel_rfl)) rfl rfl rfl ?_
    obtain ⟨x5, e9, h⟩ := bind_some h
    refine jp (pj_index_slx (ht rfl) has_i64 isInt_i64 e9 (by kernel_rfl)) rfl rfl rfl ?_
    refine jp (pj_slice_toF (ht rfl) (by decide) (by kernel_rfl)) rfl rfl rfl ?_
    obtain ⟨r4, e10, h⟩ := bind_some h
    refine j_call (hc (ht rfl) <| hc (ht rfl) <| hasL_nil) (by kernel_rfl) (c_wire_Writer_Plain e10) (.cons .here <| .cons .here <| .nil) rfl fun v7 => ?_
    refine j_end ?_
    refine rs ?_
    refine rt ?_
    refine jp (pm (ht rfl)) rfl rfl rfl ?_
    obtain ⟨r5, e11, h⟩ := bind_some h
    refine j_call (hc (ht rfl) <| hasL_nil) (by kernel_rfl) (c_wire_Writer_Out e11) (.cons .here <| .cons .here <| .nil) rfl fun ⟨v8, v9⟩ => ?_
    refine jp (pm (ht rfl)) rfl rfl rfl ?_
    refine jp (pj_extract (ht rfl) rfl) rfl rfl rfl ?_
    refine jp (pj_extract (ht rfl) rfl) rfl rfl rfl ?_
    refine jp (pa (ht rfl)) rfl rfl rfl ?_
    refine jp (pa (ht rfl)) rfl rfl rfl ?_
    refine j_end ?_
    refine rs ?_
    refine rt ?_
    refine jp (pm (ht rfl)) rfl rfl rfl ?_
    refine jp (pa (ht rfl)) rfl rfl rfl ?_
    refine j_end ?_
    obtain rfl := oi h
    exact run_ret fun a w hst => q_ret1 hst rfl (.tmp rfl) v9 (fun _ _ h => h) (.cons (.next (.next .here)) <| .nil)
set_option maxRecDepth 100000 in
set_option maxHeartbeats 4000000 in
theorem c_hss_Signer_Public {G : GP} {p_s : Int × Int × T_api_Hash × (Option T_lms_Tree) × (Option T_lms_Tree) × Int} {b_s : Nat} {c_s : List Value} {r : (List (BitVec 8))} (h : hss_Signer_Public p_s = some r) : Ctr Tryd.prog G 20 [val (.pointer (some ⟨b_s, 0, none⟩))] [box b_s 87 (exr (prod i64 (prod i64 (prod R_api_Hash (prod (ptr R_lms_Tree) (prod (ptr R_lms_Tree) i64))))) c_s) (p_s.1, p_s.2.1, p_s.2.2.1, p_s.2.2.2.1, p_s.2.2.2.2.1, p_s.2.2.2.2.2)] (fun (u0 : Value) => ov u0) (fun (u0 : Value) => [box b_s 87 (exr (prod i64 (prod i64 (prod R_api_Hash (prod (ptr R_lms_Tree) (prod (ptr R_lms_Tree) i64))))) c_s) (p_s.1, p_s.2.1, p_s.2.2.1, p_s.2.2.2.1, p_s.2.2.2.2.1, p_s.2.2.2.2.2), own 5 u8 u0 r]) := by
  unfold hss_Signer_Public at h
  refine ctr_of_run Tryd.func20 rfl 13 rfl rfl fun m0 w0 b0 => ?_
  show Run _ _ _ [(0, val (.pointer (some ⟨b_s, 0, none⟩)))] _
  refine rs ?_
  refine rt ?_
  refine j_assign_nil (T := 5) u8 rfl fun v1 => ?_
  refine j_end ?_
  refine rs ?_
  refine rs ?_
  refine rt ?_
  refine jp (PJ.xw (.keep (.ex .refl)) (pm (ht rfl))) rfl rfl rfl ?_
  refine jp (PJ.xw (.keep (.ex .refl)) (pj_eq_nil_val (E := 87) (by kernel_rfl) (ht rfl))) rfl rfl rfl ?_
  refine j_end ?_
  refine run_cond_f (ht rfl) rfl ?_
  refine run_skip ?_
  refine rs ?_
  refine rt ?_
  refine jp (PJ.xw (.keep (.ex .refl)) (pj_buildSlice (T := 5) (R := u8) (.cons (has_un (x := 0#8) rfl) (.cons (has_un (x := 0#8) rfl) (.cons (has_un (x := 0#8) rfl) (.cons (has_un (x := 2#8) rfl) .nil)))) rfl (by kernel_rfl) (by kernel_rfl))) rfl rfl rfl ?_
  refine jp (PJ.xw (.keep (.ex .refl)) (pm (ht rfl))) rfl rfl rfl ?_
  refine jp (PJ.xw (.keep (.ex .refl)) (pj_nilCheck_ptr (ht rfl))) rfl rfl rfl ?_
  refine jp (PJ.xw (.keep (.ex .refl)) (pj_field_ptr (off := 34) (ht rfl) (by kernel_rfl))) rfl rfl rfl ?_
  refine jp (PJ.xw (.keep (.ex .refl)) (pj_load_box (ht rfl) (.next .here) (Path.then (Path.all (prod i64 (prod i64 (prod R_api_Hash (prod (ptr R_lms_Tree) (prod (ptr R_lms_Tree) i64)))))) (Path.then (Path.snd i64 (prod i64 (prod R_api_Hash (prod (ptr R_lms_Tree) (prod (ptr R_lms_Tree) i64))))) (Path.then (Path.snd i64 (prod R_api_Hash (prod (ptr R_lms_Tree) (prod (ptr R_lms_Tree) i64)))) (Path.then (Path.snd R_api_Hash (prod (ptr R_lms_Tree) (prod (ptr R_lms_Tree) i64))) (Path.fst (ptr R_lms_Tree) (prod (ptr R_lms_Tree) i64)))))) (by kernel_rfl))) rfl rfl rfl ?_
  obtain ⟨r1, e2, h⟩ := bind_some h
  refine jp (PJ.xw (.keep (.ex .refl)) (pj_call (hc (ht rfl) <| hasL_nil) (by kernel_rfl) (Ctr.froze (c_lms_Tree_Public e2)))) rfl rfl rfl ?_
  refine jp (PJ.xw (.keep (.ex .refl)) (pj_buildSlice (T := 26) (R := (sl u8)) (.cons (ht rfl) (.cons (ht rfl) .nil)) rfl (by kernel_rfl) (by kernel_rfl))) rfl rfl rfl ?_
  obtain ⟨r2, e3, h⟩ := bind_some h
  refine j_call (hc (ht rfl) <| hasL_nil) (by kernel_rfl) (c_slices_Concat_byte_byte e3) .nil rfl fun v2 => ?_
  refine jp (PJ.xw (.keep (.keep (.ex .refl))) (pa (ht rfl))) rfl rfl rfl ?_
  refine j_end ?_
  obtain rfl := oi h
  exact run_ret fun a w hst => q_ret1 hst rfl (.tmp rfl) v2 (fun _ _ h => h) (.cons (.next (.next .here)) <| .cons .here <| .nil)
set_option maxRecDepth 100000 in
set_option maxHeartbeats 4000000 in
theorem c_lms_Tree_Keys {G : GP} {p_t : Option T_lms_Tree} {r : Int} (h : lms_Tree_Keys p_t = some r) : Ctr Tryd.prog G 119 [(ptr R_lms_Tree).slot p_t] [] (fun (_ : Unit) => i64.slot r) (fun (_ : Unit) => []) := by
  unfold lms_Tree_Keys at h
  refine ctr_of_run Tryd.func119 rfl 10 rfl rfl fun m0 w0 b0 => ?_
  show Run _ _ _ [(0, (ptr R_lms_Tree).slot p_t)] _
  refine rs ?_
  refine rt ?_
  refine jp (pa has_i64) rfl rfl rfl ?_
  refine j_end ?_
  refine rs ?_
  refine rs ?_
  refine rt ?_
  refine jp (pm (ht rfl)) rfl rfl rfl ?_
  refine jp (pj_eq_nil (E := 116) (by kernel_rfl) (ht rfl)) rfl rfl rfl ?_
  refine j_end ?_
  refine run_cond (ht rfl) (fun e1 => ?_) (fun e1 => ?_)
  · replace h := bt e1 h
    refine rs ?_
    refine rt ?_
    refine jp (pa has_i64) rfl rfl rfl ?_
    refine j_end ?_
    obtain rfl := oi h
    exact run_ret fun a w hst => q_ret1 hst rfl (.tmp rfl) () (fun _ _ h => h) (.nil)
  · replace h := bf e1 h
    refine run_skip ?_
    refine rs ?_
    refine rt ?_
    refine jp (pm (ht rfl)) rfl rfl rfl ?_
    obtain ⟨x1, e2, h⟩ := bind_some h
    refine jp (pj_nilCheck_some (ht rfl) e2) rfl rfl rfl ?_
    refine jp (pj_field_to (ht rfl) (Path.fst i64 (prod i64 (prod R_api_ID (prod R_api_Hash (sl R_api_Hash))))) (by kernel_rfl)) rfl rfl rfl ?_
    refine jp (pl (ht rfl) (by kernel_rfl)) rfl rfl rfl ?_
    obtain ⟨e3, h⟩ := grd_some h
    refine jp (pj_ishl has_i64 (ht rfl) isInt_i64 e3) rfl rfl rfl ?_
    refine jp (pa (ht rfl)) rfl rfl rfl ?_
    refine j_end ?_
    obtain rfl := oi h
    exact run_ret fun a w hst => q_ret1 hst rfl (.tmp rfl) () (fun _ _ h => h) (.nil)
set_option maxRecDepth 100000 in
set_option maxHeartbeats 4000000 in
theorem c_hss_Signer_Keys {G : GP} {p_s : Int × Int × T_api_Hash × (Option T_lms_Tree) × (Option T_lms_Tree) × Int} {b_s : Nat} {c_s : List Value} {r : Int} (h : hss_Signer_Keys p_s = some r) : Ctr Tryd.prog G 91 [val (.pointer (some ⟨b_s, 0, none⟩))] [box b_s 87 (exr (prod i64 (prod i64 (prod R_api_Hash (prod (ptr R_lms_Tree) (prod (ptr R_lms_Tree) i64))))) c_s) (p_s.1, p_s.2.1, p_s.2.2.1, p_s.2.2.2.1, p_s.2.2.2.2.1, p_s.2.2.2.2.2)] (fun (_ : Unit) => i64.slot r) (fun (_ : Unit) => [box b_s 87 (exr (prod i64 (prod i64 (prod R_api_Hash (prod (ptr R_lms_Tree) (prod (ptr R_lms_Tree) i64))))) c_s) (p_s.1, p_s.2.1, p_s.2.2.1, p_s.2.2.2.1, p_s.2.2.2.2.1, p_s.2.2.2.2.2)]) := by
  unfold hss_Signer_Keys at h
  refine ctr_of_run Tryd.func91 rfl 15 rfl rfl fun m0 w0 b0 => ?_
  show Run _ _ _ [(0, val (.pointer (some ⟨b_s, 0, none⟩)))] _
  refine rs ?_
  refine rt ?_
  refine jp (PJ.xw (.ex .refl) (pa has_i64)) rfl rfl rfl ?_
  refine j_end ?_
  refine rs ?_
  refine rs ?_
  refine rt ?_
  refine jp (PJ.xw (.ex .refl) (pm (ht rfl))) rfl rfl rfl ?_
  refine jp (PJ.xw (.ex .refl) (pj_eq_nil_val (E := 87) (by kernel_rfl) (ht rfl))) rfl rfl rfl ?_
  refine j_end ?_
  refine run_cond_f (ht rfl) rfl ?_
  refine run_skip ?_
  refine rs ?_
  obtain ⟨r1, e2, h⟩ := bind_some h
  refine run_draw (n := 9) (by kernel_rfl) (by kernel_rfl) (by kernel_rfl) (by kernel_rfl) (.read (.plain rfl (PJ.xw (.ex .refl) (pm (ht rfl)))) <| .read (.plain rfl (PJ.xw (.ex .refl) (pj_nilCheck_ptr (ht rfl)))) <| .read (.plain rfl (PJ.xw (.ex .refl) (pj_field_ptr (off := 34) (ht rfl) (by kernel_rfl)))) <| .read (.plain rfl (PJ.xw (.ex .refl) (pj_load_box (ht rfl) .here (Path.then (Path.all (prod i64 (prod i64 (prod R_api_Hash (prod (ptr R_lms_Tree) (prod (ptr R_lms_Tree) i64)))))) (Path.then (Path.snd i64 (prod i64 (prod R_api_Hash (prod (ptr R_lms_Tree) (prod (ptr R_lms_Tree) i64))))) (Path.then (Path.snd i64 (prod R_api_Hash (prod (ptr R_lms_Tree) (prod (ptr R_lms_Tree) i64)))) (Path.then (Path.snd R_api_Hash (prod (ptr R_lms_Tree) (prod (ptr R_lms_Tree) i64))) (Path.fst (ptr R_lms_Tree) (prod (ptr R_lms_Tree) i64)))))) (by kernel_rfl)))) <| .read (.plain rfl (PJ.xw (.ex .refl) (pj_call (hc (ht rfl) <| hasL_nil) (by kernel_rfl) (c_lms_Tree_Keys e2)))) <| .read (.plain rfl (PJ.xw (.ex .refl) (pm (ht rfl)))) <| .read (.plain rfl (PJ.xw (.ex .refl) (pj_nilCheck_ptr (ht rfl)))) <| .read (.plain rfl (PJ.xw (.ex .refl) (pj_field_ptr (off := 0) (ht rfl) (by kernel_rfl)))) <| .read (.plain rfl (PJ.xw (.ex .refl) (pj_load_box (ht rfl) .here (Path.then (Path.all (prod i64 (prod i64 (prod R_api_Hash (prod (ptr R_lms_Tree) (prod (ptr R_lms_Tree) i64)))))) (Path.fst i64 (prod i64 (prod R_api_Hash (prod (ptr R_lms_Tree) (prod (ptr R_lms_Tree) i64)))))) (by kernel_rfl)))) <| .nil) (j_to (Γ' := [(9, i64.slot r1), (13, i64.slot p_s.1)]) (H' := [box b_s 87 (exr (prod i64 (prod i64 (prod R_api_Hash (prod (ptr R_lms_Tree) (prod (ptr R_lms_Tree) i64))))) c_s) (p_s.1, p_s.2.1, p_s.2.2.1, p_s.2.2.2.1, p_s.2.2.2.2.1, p_s.2.2.2.2.2)]) (.cons (.of_lk rfl) <| .cons (.of_lk rfl) <| .nil) (.cons .here <| .nil) ?_)
  obtain ⟨e3, h⟩ := grd_some h
  refine jp (PJ.xw (.ex .refl) (pj_ishl (ht rfl) (ht rfl) isInt_i64 e3)) rfl rfl rfl ?_
  refine jp (PJ.xw (.ex .refl) (pa (ht rfl))) rfl rfl rfl ?_
  refine j_end ?_
  obtain rfl := oi h
  exact run_ret fun a w hst => q_ret1 hst rfl (.tmp rfl) () (fun _ _ h => h) (.cons .here <| .nil)
set_option maxRecDepth 100000 in
set_option maxHeartbeats 4000000 in
theorem c_hss_Signer_tree {G : GP} (hg0 : HG0 G) (hg1 : HG1 G) (hg2 : HG2 G) {p_s : Int × Int × T_api_Hash × (Option T_lms_Tree) × (Option T_lms_Tree) × Int} {p_i : Int} {b_s : Nat} {r : (Int × Int × T_api_Hash × (Option T_lms_Tree) × (Option T_lms_Tree) × Int) × (Option T_lms_Tree) × Int} (h : hss_Signer_tree p_s p_i = some r) : Ctr Tryd.prog G 92 [val (.pointer (some ⟨b_s, 0, none⟩)), i64.slot p_i] [box b_s 87 (prod i64 (prod i64 (prod R_api_Hash (prod (ptr R_lms_Tree) (prod (ptr R_lms_Tree) i64))))) (p_s.1, p_s.2.1, p_s.2.2.1, p_s.2.2.2.1, p_s.2.2.2.2.1, p_s.2.2.2.2.2)] (fun (_ : Unit) => tup [(ptr R_lms_Tree).slot r.2.1, i64.slot r.2.2]) (fun (_ : Unit) => [box b_s 87 (prod i64 (prod i64 (prod R_api_Hash (prod (ptr R_lms_Tree) (prod (ptr R_lms_Tree) i64))))) (r.1.1, r.1.2.1, r.1.2.2.1, r.1.2.2.2.1, r.1.2.2.2.2.1, r.1.2.2.2.2.2)]) := by
  unfold hss_Signer_tree at h
  refine ctr_of_run Tryd.func92 rfl 66 rfl rfl fun m0 w0 b0 => ?_
  show Run _ _ _ [(0, val (.pointer (some ⟨b_s, 0, none⟩))), (1, i64.slot p_i)] _
  refine rs ?_
  refine rt ?_
  refine jp (pa (has_nilp (R := R_lms_Tree))) rfl rfl rfl ?_
  refine jp (pa has_i64) rfl rfl rfl ?_
  refine j_end ?_
  refine rs ?_
  refine rs ?_
  refine rt ?_
  refine jp (pm (ht rfl)) rfl rfl rfl ?_
  refine jp (pj_nilCheck_ptr (ht rfl)) rfl rfl rfl ?_
  refine jp (pj_field_ptr (off := 36) (ht rfl) (by kernel_rfl)) rfl rfl rfl ?_
  refine jp (pj_load_box (ht rfl) .here (Path.then (Path.all (prod i64 (prod i64 (prod R_api_Hash (prod (ptr R_lms_Tree) (prod (ptr R_lms_Tree) i64)))))) (Path.then (Path.snd i64 (prod i64 (prod R_api_Hash (prod (ptr R_lms_Tree) (prod (ptr R_lms_Tree) i64))))) (Path.then (Path.snd i64 (prod R_api_Hash (prod (ptr R_lms_Tree) (prod (ptr R_lms_Tree) i64)))) (Path.then (Path.snd R_api_Hash (prod (ptr R_lms_Tree) (prod (ptr R_lms_Tree) i64))) (Path.then (Path.snd (ptr R_lms_Tree) (prod (ptr R_lms_Tree) i64)) (Path.snd (ptr R_lms_Tree) i64)))))) (by kernel_rfl)) rfl rfl rfl ?_
  refine jp (pm (ht rfl)) rfl rfl rfl ?_
  refine jp (pj_ieql (ht rfl) (ht rfl)) rfl rfl rfl ?_
  refine j_end ?_
  refine run_cond (ht rfl) (fun e1 => ?_) (fun e1 => ?_)
  · replace h := bt e1 h
    refine rs ?_
    refine rt ?_
    refine jp (pm (ht rfl)) rfl rfl rfl ?_
    refine jp (pj_nilCheck_ptr (ht rfl)) rfl rfl rfl ?_
    refine jp (pj_field_ptr (off := 35) (ht rfl) (by kernel_rfl)) rfl rfl rfl ?_
    refine jp (pj_load_box (ht rfl) .here (Path.then (Path.all (prod i64 (prod i64 (prod R_api_Hash (prod (ptr R_lms_Tree) (prod (ptr R_lms_Tree) i64)))))) (Path.then (Path.snd i64 (prod i64 (prod R_api_Hash (prod (ptr R_lms_Tree) (prod (ptr R_lms_Tree) i64))))) (Path.then (Path.snd i64 (prod R_api_Hash (prod (ptr R_lms_Tree) (prod (ptr R_lms_Tree) i64)))) (Path.then (Path.snd R_api_Hash (prod (ptr R_lms_Tree) (prod (ptr R_lms_Tree) i64))) (Path.then (Path.snd (ptr R_lms_Tree) (prod (ptr R_lms_Tree) i64)) (Path.fst (ptr R_lms_Tree) i64)))))) (by kernel_rfl)) rfl rfl rfl ?_
    refine jp (pa (ht rfl)) rfl rfl rfl ?_
    refine jp (pa has_i64) rfl rfl rfl ?_
    refine j_end ?_
    obtain rfl := oi h
    exact run_ret fun a w hst => q_retN hst rfl (.cons (.tmp rfl) <| .cons (.tmp rfl) <| .nil) rfl () (fun _ _ h => h) (.cons .here <| .nil)
  · replace h := bf e1 h
    refine run_skip ?_
    refine rs ?_
    refine rt ?_
    refine jp (pm (ht rfl)) rfl rfl rfl ?_
    refine jp (pj_nilCheck_ptr (ht rfl)) rfl rfl rfl ?_
    refine jp (pj_field_ptr (off := 2) (ht rfl) (by kernel_rfl)) rfl rfl rfl ?_
    refine jp (pj_load_box (ht rfl) .here (Path.then (Path.all (prod i64 (prod i64 (prod R_api_Hash (prod (ptr R_lms_Tree) (prod (ptr R_lms_Tree) i64)))))) (Path.then (Path.snd i64 (prod i64 (prod R_api_Hash (prod (ptr R_lms_Tree) (prod (ptr R_lms_Tree) i64))))) (Path.then (Path.snd i64 (prod R_api_Hash (prod (ptr R_lms_Tree) (prod (ptr R_lms_Tree) i64)))) (Path.fst R_api_Hash (prod (ptr R_lms_Tree) (prod (ptr R_lms_Tree) i64)))))) (by kernel_rfl)) rfl rfl rfl ?_
    refine jp (pm (ht rfl)) rfl rfl rfl ?_
    refine jp (pj_ishr (ht rfl) (has_un (x := 24#64) rfl) isInt_un (Int.natCast_nonneg _)) rfl rfl rfl ?_
    refine jp (pj_conv_un (k := .u8) (b := 8) rfl rfl (by kernel_rfl) (ht rfl) isInt_i64) rfl rfl rfl ?_
    refine jp (pm (ht rfl)) rfl rfl rfl ?_
    refine jp (pj_ishr (ht rfl) (has_un (x := 16#64) rfl) isInt_un (Int.natCast_nonneg _)) rfl rfl rfl ?_
    refine jp (pj_conv_un (k := .u8) (b := 8) rfl rfl (by kernel_rfl) (ht rfl) isInt_i64) rfl rfl rfl ?_
    refine jp (pm (ht rfl)) rfl rfl rfl ?_
    refine jp (pj_ishr (ht rfl) (has_un (x := 8#64) rfl) isInt_un (Int.natCast_nonneg _)) rfl rfl rfl ?_
    refine jp (pj_conv_un (k := .u8) (b := 8) rfl rfl (by kernel_rfl) (ht rfl) isInt_i64) rfl rfl rfl ?_
    refine jp (pm (ht rfl)) rfl rfl rfl ?_
    refine jp (pj_conv_un (k := .u8) (b := 8) rfl rfl (by kernel_rfl) (ht rfl) isInt_i64) rfl rfl rfl ?_
    refine jp (pj_buildSlice (T := 5) (R := u8) (.cons (ht rfl) (.cons (ht rfl) (.cons (ht rfl) (.cons (ht rfl) .nil)))) rfl (by kernel_rfl) (by kernel_rfl)) rfl rfl rfl ?_
    obtain ⟨r1, e2, h⟩ := bind_some h
    refine jp (pj_call (hc (ht rfl) <| hc (ht rfl) <| hasL_nil) (by kernel_rfl) (c_hss_child hg0 hg1 e2)) rfl rfl rfl ?_
    refine jp (pm (ht rfl)) rfl rfl rfl ?_
    refine jp (pj_extract (ht rfl) rfl) rfl rfl rfl ?_
    refine jp (pj_extract (ht rfl) rfl) rfl rfl rfl ?_
    refine j_alloc (x := (Vector.replicate 16 (0#8))) (R := R_api_ID) (zero_vec 16 zero_un) (by kernel_rfl) rfl fun b1 => ?_
    refine j_alloc (x := (Vector.replicate 32 (0#8))) (R := R_api_Hash) (zero_vec 32 zero_un) (by kernel_rfl) rfl fun b2 => ?_
    refine j_store_boxx (r' := r1.1) (ht rfl) (ht rfl) (.next .here) (Path.all R_api_ID) (by kernel_rfl) rfl ?_
    refine j_freezeTo (t := 6) .here (.of_lk rfl) ?_
    refine j_store_boxx (r' := r1.2) (ht rfl) (ht rfl) .here (Path.all R_api_Hash) (by kernel_rfl) rfl ?_
    refine j_freezeTo (t := 7) .here (.of_lk rfl) ?_
    refine j_end ?_
    refine rs ?_
    obtain ⟨r2, e3, h⟩ := bind_some h
    refine run_draw (n := 15) (by kernel_rfl) (by kernel_rfl) (by kernel_rfl) (by kernel_rfl) (.read (.plain rfl (pm (ht rfl))) <| .read (.plain rfl (pj_nilCheck_ptr (ht rfl))) <| .read (.plain rfl (pj_field_ptr (off := 0) (ht rfl) (by kernel_rfl))) <| .read (.plain rfl (pj_load_box (ht rfl) .here (Path.then (Path.all (prod i64 (prod i64 (prod R_api_Hash (prod (ptr R_lms_Tree) (prod (ptr R_lms_Tree) i64)))))) (Path.fst i64 (prod i64 (prod R_api_Hash (prod (ptr R_lms_Tree) (prod (ptr R_lms_Tree) i64)))))) (by kernel_rfl))) <| .read (.plain rfl (pm (ht rfl))) <| .read (.plain rfl (pj_nilCheck_ptr (ht rfl))) <| .read (.plain rfl (pj_field_ptr (off := 1) (ht rfl) (by kernel_rfl))) <| .read (.plain rfl (pj_load_box (ht rfl) .here (Path.then (Path.all (prod i64 (prod i64 (prod R_api_Hash (prod (ptr R_lms_Tree) (prod (ptr R_lms_Tree) i64)))))) (Path.then (Path.snd i64 (prod i64 (prod R_api_Hash (prod (ptr R_lms_Tree) (prod (ptr R_lms_Tree) i64))))) (Path.fst i64 (prod R_api_Hash (prod (ptr R_lms_Tree) (prod (ptr R_lms_Tree) i64)))))) (by kernel_rfl))) <| .read (.plain rfl (pl (ht rfl) (by kernel_rfl))) <| .read (.plain rfl (pl (ht rfl) (by kernel_rfl))) <| .read (.plain rfl (pj_call (hc (ht rfl) <| hc (ht rfl) <| hc (ht rfl) <| hc (ht rfl) <| hasL_nil) (by kernel_rfl) (c_lms_New hg0 hg1 hg2 e3))) <| .read (.plain rfl (pm (ht rfl))) <| .read (.plain rfl (pj_extract (ht rfl) rfl)) <| .read (.plain rfl (pj_extract (ht rfl) rfl)) <| .read (.plain rfl (pa (ht rfl))) <| .nil) (j_to (Γ' := [(0, val (.pointer (some ⟨b_s, 0, none⟩))), (1, i64.slot p_i), (8, (ptr R_lms_Tree).slot r2.1), (53, i64.slot r2.2)]) (H' := [box b_s 87 (prod i64 (prod i64 (prod R_api_Hash (prod (ptr R_lms_Tree) (prod (ptr R_lms_Tree) i64))))) (p_s.1, p_s.2.1, p_s.2.2.1, p_s.2.2.2.1, p_s.2.2.2.2.1, p_s.2.2.2.2.2)]) (.cons (.of_lk rfl) <| .cons (.of_lk rfl) <| .cons (.of_lk rfl) <| .cons (.of_lk rfl) <| .nil) (.cons .here <| .nil) ?_)
    refine jp (pa (ht rfl)) rfl rfl rfl ?_
    refine j_end ?_
    refine rs ?_
    refine rs ?_
    refine rt ?_
    refine jp (pm (ht rfl)) rfl rfl rfl ?_
    refine jp (pj_ineq (ht rfl) has_i64) rfl rfl rfl ?_
    refine j_end ?_
    refine run_cond (ht rfl) (fun e4 => ?_) (fun e4 => ?_)
    · replace h := bt e4 h
      refine rs ?_
      refine rt ?_
      refine jp (pm (ht rfl)) rfl rfl rfl ?_
      refine jp (pa (has_nilp (R := R_lms_Tree))) rfl rfl rfl ?_
      refine jp (pa (ht rfl)) rfl rfl rfl ?_
      refine j_end ?_
      obtain rfl := oi h
      exact run_ret fun a w hst => q_retN hst rfl (.cons (.tmp rfl) <| .cons (.tmp rfl) <| .nil) rfl () (fun _ _ h => h) (.cons .here <| .nil)
    · replace h := bf e4 h
      refine run_skip ?_
      refine rs ?_
      refine rt ?_
      refine jp (pm (ht rfl)) rfl rfl rfl ?_
      refine jp (pm (ht rfl)) rfl rfl rfl ?_
      refine jp (pm (ht rfl)) rfl rfl rfl ?_
      refine jp (pm (ht rfl)) rfl rfl rfl ?_
      refine jp (pj_nilCheck_ptr (ht rfl)) rfl rfl rfl ?_
      refine jp (pj_field_ptr (off := 35) (ht rfl) (by kernel_rfl)) rfl rfl rfl ?_
      refine j_store_boxx (r' := (p_s.1, p_s.2.1, p_s.2.2.1, p_s.2.2.2.1, r2.1, p_s.2.2.2.2.2)) (ht rfl) (ht rfl) .here (Path.then (Path.all (prod i64 (prod i64 (prod R_api_Hash (prod (ptr R_lms_Tree) (prod (ptr R_lms_Tree) i64)))))) (Path.then (Path.snd i64 (prod i64 (prod R_api_Hash (prod (ptr R_lms_Tree) (prod (ptr R_lms_Tree) i64))))) (Path.then (Path.snd i64 (prod R_api_Hash (prod (ptr R_lms_Tree) (prod (ptr R_lms_Tree) i64)))) (Path.then (Path.snd R_api_Hash (prod (ptr R_lms_Tree) (prod (ptr R_lms_Tree) i64))) (Path.then (Path.snd (ptr R_lms_Tree) (prod (ptr R_lms_Tree) i64)) (Path.fst (ptr R_lms_Tree) i64)))))) (by kernel_rfl) rfl ?_
      refine jp (pj_nilCheck_ptr (ht rfl)) rfl rfl rfl ?_
      refine jp (pj_field_ptr (off := 36) (ht rfl) (by kernel_rfl)) rfl rfl rfl ?_
      refine j_store_boxx (r' := (p_s.1, p_s.2.1, p_s.2.2.1, p_s.2.2.2.1, r2.1, p_i)) (ht rfl) (ht rfl) .here (Path.then (Path.all (prod i64 (prod i64 (prod R_api_Hash (prod (ptr R_lms_Tree) (prod (ptr R_lms_Tree) i64)))))) (Path.then (Path.snd i64 (prod i64 (prod R_api_Hash (prod (ptr R_lms_Tree) (prod (ptr R_lms_Tree) i64))))) (Path.then (Path.snd i64 (prod R_api_Hash (prod (ptr R_lms_Tree) (prod (ptr R_lms_Tree) i64)))) (Path.then (Path.snd R_api_Hash (prod (ptr R_lms_Tree) (prod (ptr R_lms_Tree) i64))) (Path.then (Path.snd (ptr R_lms_Tree) (prod (ptr R_lms_Tree) i64)) (Path.snd (ptr R_lms_Tree) i64)))))) (by kernel_rfl) rfl ?_
      refine j_end ?_
      refine rs ?_
      refine rt ?_
      refine jp (pm (ht rfl)) rfl rfl rfl ?_
      refine jp (pa (ht rfl)) rfl rfl rfl ?_
      refine jp (pa has_i64) rfl rfl rfl ?_
      refine j_end ?_
      obtain rfl := oi h
      exact run_ret fun a w hst => q_retN hst rfl (.cons (.tmp rfl) <| .cons (.tmp rfl) <| .nil) rfl () (fun _ _ h => h) (.cons .here <| .nil)
set_option maxRecDepth 100000 in
set_option maxHeartbeats 4000000 in
theorem c_lmots_Sign {G : GP} (hg0 : HG0 G) (hg1 : HG1 G) (hg2 : HG2 G) {p_kind : Int} {p_id : T_api_ID} {p_q : BitVec 32} {p_seed : T_api_Hash} {p_message : List (BitVec 8)} {r : (List (BitVec 8)) × Int} (h : lmots_Sign p_kind p_id p_q p_seed p_message = some r) : Ctr Tryd.prog G 120 [i64.slot p_kind, R_api_ID.slot p_id, u32.slot p_q, R_api_Hash.slot p_seed, (sl u8).slot p_message] [] (fun (u0 : Value) => tup [ov u0, i64.slot r.2]) (fun (u0 : Value) => [own 5 u8 u0 r.1]) := by
  unfold lmots_Sign at h
  refine ctr_of_run Tryd.func120 rfl 71 rfl rfl fun m0 w0 b0 => ?_
  show Run _ _ _ [(0, i64.slot p_kind), (1, R_api_ID.slot p_id), (2, u32.slot p_q), (3, R_api_Hash.slot p_seed), (4, (sl u8).slot p_message)] _
  refine rs ?_
  refine rt ?_
  refine jp (pj_box_to (ht rfl)) rfl rfl rfl ?_
  refine jp (pj_box_to (ht rfl)) rfl rfl rfl ?_
  refine j_assign_nil (T := 5) u8 rfl fun v1 => ?_
  refine jp (pa has_i64) rfl rfl rfl ?_
  refine j_end ?_
  refine rs ?_
  refine rt ?_
  refine jp (pm (ht rfl)) rfl rfl rfl ?_
  obtain ⟨r1, e1, h⟩ := bind_some h
  refine jp (pj_call (hc (ht rfl) <| hasL_nil) (by kernel_rfl) (c_lmots_of hg2 e1)) rfl rfl rfl ?_
  refine jp (pm (ht rfl)) rfl rfl rfl ?_
  refine jp (pj_extract (ht rfl) rfl) rfl rfl rfl ?_
  refine jp (pj_extract (ht rfl) rfl) rfl rfl rfl ?_
  refine j_alloc (x := (0, 0, 0)) (R := R_lmots_form) (zero_prod zero_i64 (zero_prod zero_i64 zero_i64)) (by kernel_rfl) rfl fun b1 => ?_
  refine j_store_boxx (r' := r1.1) (ht rfl) (ht rfl) .here (Path.all R_lmots_form) (by kernel_rfl) rfl ?_
  refine j_freezeTo (t := 12) .here (.of_lk rfl) ?_
  refine jp (pa (ht rfl)) rfl rfl rfl ?_
  refine j_end ?_
  refine rs ?_
  refine rs ?_
  refine rt ?_
  refine jp (pm (ht rfl)) rfl rfl rfl ?_
  refine jp (pj_not (ht rfl)) rfl rfl rfl ?_
  refine j_end ?_
  refine run_cond (ht rfl) (fun e2 => ?_) (fun e2 => ?_)
  · replace h := bt e2 h
    refine rs ?_
    refine rt ?_
    refine j_assign_nil (T := 5) u8 rfl fun v2 => ?_
    refine jp (pa has_i64) rfl rfl rfl ?_
    refine j_end ?_
    obtain rfl := oi h
    exact run_ret fun a w hst => q_retN hst rfl (.cons (.tmp rfl) <| .cons (.tmp rfl) <| .nil) rfl v2 (fun _ _ h => h) (.cons .here <| .nil)
  · replace h := bf e2 h
    refine run_skip ?_
    refine rs ?_
    refine rt ?_
    refine jp (pl (ht rfl) (by kernel_rfl)) rfl rfl rfl ?_
    refine jp (pm (ht rfl)) rfl rfl rfl ?_
    refine jp (pl (ht rfl) (by kernel_rfl)) rfl rfl rfl ?_
    obtain ⟨r2, e3, h⟩ := bind_some h
    refine jp (pj_call (hc (ht rfl) <| hc (ht rfl) <| hc has_i64 <| hc (ht rfl) <| hasL_nil) (by kernel_rfl) (c_lmots_secret hg0 hg1 e3)) rfl rfl rfl ?_
    refine j_alloc (x := (Vector.replicate 32 (0#8))) (R := R_api_Hash) (zero_vec 32 zero_un) (by kernel_rfl) rfl fun b2 => ?_
    refine j_store_boxx (r' := r2) (ht rfl) (ht rfl) .here (Path.all R_api_Hash) (by kernel_rfl) rfl ?_
    refine j_freezeTo (t := 14) .here (.of_lk rfl) ?_
    refine j_end ?_
    refine rs ?_
    refine rt ?_
    refine jp (pj_build (R := prod (exv (.slice none 0 0)) bl) (zero_prod zero_exv zero_bl) (by kernel_rfl) (by kernel_rfl) rfl .nil) rfl rfl rfl ?_
    refine j_box_w (T1 := 5) u8 (ht rfl) rfl fun b3 v3 => ?_
    refine jp (pa (ht rfl)) rfl rfl rfl ?_
    refine j_end ?_
    refine rs ?_
    refine rt ?_
    refine jp (pm (ht rfl)) rfl rfl rfl ?_
    refine jp (pm (ht rfl)) rfl rfl rfl ?_
    refine jp (pj_conv_un (k := .u32) (b := 32) rfl rfl (by kernel_rfl) (ht rfl) isInt_i64) rfl rfl rfl ?_
    obtain ⟨r3, e4, h⟩ := bind_some h
    refine j_call (hc (ht rfl) <| hc (ht rfl) <| hasL_nil) (by kernel_rfl) (c_wire_Writer_U32 e4) (.cons (.next .here) <| .cons .here <| .nil) rfl fun v4 => ?_
    refine j_end ?_
    refine rs ?_
    refine rt ?_
    refine jp (pm (ht rfl)) rfl rfl rfl ?_
    refine jp (pj_slice_toF (ht rfl) (by decide) (by kernel_rfl)) rfl rfl rfl ?_
    obtain ⟨r4, e5, h⟩ := bind_some h
    refine j_call (hc (ht rfl) <| hc (ht rfl) <| hasL_nil) (by kernel_rfl) (c_wire_Writer_Plain e5) (.cons .here <| .cons .here <| .nil) rfl fun v5 => ?_
    refine j_end ?_
    refine rs ?_
    refine rs ?_
    obtain ⟨r5, e6, h⟩ := bind_some h
    obtain ⟨r6, e7, h⟩ := bind_some h
    refine run_draw (n := 10) (by kernel_rfl) (by kernel_rfl) (by kernel_rfl) (by kernel_rfl) (.read (.plain rfl (pl (ht rfl) (by kernel_rfl))) <| .read (.plain rfl (pl (ht rfl) (by kernel_rfl))) <| .read (.plain rfl (pm (ht rfl))) <| .read (.plain rfl (pj_slice_toF (ht rfl) (by decide) (by kernel_rfl))) <| .read (.plain rfl (pm (ht rfl))) <| .read (.plain rfl (pj_buildSlice (T := 26) (R := (sl u8)) (.cons (ht rfl) (.cons (ht rfl) .nil)) rfl (by kernel_rfl) (by kernel_rfl))) <| .read (.plain rfl (pj_call (hc (ht rfl) <| hc (ht rfl) <| hc has_i64 <| hc (ht rfl) <| hasL_nil) (by kernel_rfl) (c_lmots_under hg0 hg1 e6))) <| .read (.plain rfl (pj_call (hc (ht rfl) <| hc (ht rfl) <| hasL_nil) (by kernel_rfl) (Ctr.froze (c_lmots_form_digits e7)))) <| .read (.plain rfl (pj_len_sl (sz := 1) (ht rfl) (by kernel_rfl))) <| .read (.plain rfl (pm has_i64)) <| .nil) (j_to (Γ' := [(2, u32.slot p_q), (6, ptrTo R_api_ID p_id), (8, ptrTo R_api_Hash p_seed), (15, val (.pointer (some ⟨b3, 0, none⟩))), (46, (sl i64).slot r6), (47, i64.slot (r6.length : Int)), (48, i64.slot (0 : Int))]) (H' := [box b3 63 (prod (exv v5) bl) ((), r4.2), own 5 u8 v5 r4.1]) (.cons (.of_lk rfl) <| .cons (.of_lk rfl) <| .cons (.of_lk rfl) <| .cons (.of_lk rfl) <| .cons (.of_lk rfl) <| .cons (.of_lk rfl) <| .cons (.of_lk rfl) <| .nil) (.cons .here <| .cons .here <| .nil) ?_)
    refine j_end ?_
    obtain ⟨⟨y4, y5, y6⟩, e13, h⟩ := bind_some h
    refine run_loopS (Γi := fun (i : Value) (s : Int × Bool × (List (BitVec 8))) => [(2, u32.slot p_q), (6, ptrTo R_api_ID p_id), (8, ptrTo R_api_Hash p_seed), (15, val (.pointer (some ⟨b3, 0, none⟩))), (46, (sl i64).slot r6), (47, i64.slot (r6.length : Int)), (48, i64.slot s.1)]) (Hi := fun (i : Value) (s : Int × Bool × (List (BitVec 8))) => [box b3 63 (prod (exv i) bl) ((), s.2.1), own 5 u8 i s.2.2]) e13 v5 (fun a w hst => (hst.sub (.cons (.of_lk rfl) <| .cons (.of_lk rfl) <| .cons (.of_lk rfl) <| .cons (.of_lk rfl) <| .cons (.of_lk rfl) <| .cons (.of_lk rfl) <| .cons (.of_lk rfl) <| .nil)).keep (.cons .here <| .cons .here <| .nil)) ?_ ?_
    · clear h e13
      rintro v6 ⟨y1, y2, y3⟩ lr h
      change lmots_Sign_L1 r6 p_id p_q p_seed y1 y2 y3 = some _ at h
      show Run _ _ _ [(2, u32.slot p_q), (6, ptrTo R_api_ID p_id), (8, ptrTo R_api_Hash p_seed), (15, val (.pointer (some ⟨b3, 0, none⟩))), (46, (sl i64).slot r6), (47, i64.slot (r6.length : Int)), (48, i64.slot y1)] [box b3 63 (prod (exv v6) bl) ((), y2), own 5 u8 v6 y3]
      unfold lmots_Sign_L1 at h
      refine rs ?_
      refine rt ?_
      refine jp (pj_ilss (ht rfl) (ht rfl)) rfl rfl rfl ?_
      refine j_end ?_
      refine rs ?_
      refine run_cond (ht rfl) (fun e8 => ?_) (fun e8 => ?_)
      · replace h := bt e8 h
        refine run_skip ?_
        refine rs ?_
        refine run_block ?_
        refine rs ?_
        refine rt ?_
        refine jp (pm (ht rfl)) rfl rfl rfl ?_
        obtain ⟨x1, e9, h⟩ := bind_some h
        refine jp (pj_index_slx (ht rfl) (ht rfl) isInt_i64 e9 (by kernel_rfl)) rfl rfl rfl ?_
        refine jp (pl (ht rfl) (by kernel_rfl)) rfl rfl rfl ?_
        refine jp (pa (ht rfl)) rfl rfl rfl ?_
        refine jp (pa (ht rfl)) rfl rfl rfl ?_
        refine j_end ?_
        refine rs ?_
        obtain ⟨r7, e10, h⟩ := bind_some h
        obtain ⟨r8, e11, h⟩ := bind_some h
        refine run_keep (H' := [box b3 63 (prod (exv v6) bl) ((), y2), own 5 u8 v6 y3]) (.cons .here <| .cons .here <| .nil) ?_
        refine run_drawL (n := 11) (H := [box b3 63 (prod (exv v6) bl) ((), y2), own 5 u8 v6 y3]) (Ls := [⟨[], [(10, ⟨Nat, fun (b4 : Nat) => [box b4 23 R_api_Hash (Vector.replicate 32 (0#8))], fun (b4 : Nat) => [(18, val (.pointer (some ⟨b4, 0, none⟩)))]⟩)]⟩]) (by kernel_rfl) (by kernel_rfl) (by kernel_rfl) (by kernel_rfl) (by kernel_rfl) rfl (.read rfl (.plain rfl (pl (ht rfl) (by kernel_rfl))) <| .read rfl (.plain rfl (pm (ht rfl))) <| .read rfl (.plain rfl (pm (ht rfl))) <| .read rfl (.plain rfl (pl (ht rfl) (by kernel_rfl))) <| .read rfl (.plain rfl (pm (ht rfl))) <| .read rfl (.plain rfl (pm (ht rfl))) <| .read rfl (.plain rfl (pl (ht rfl) (by kernel_rfl))) <| .read rfl (.plain rfl (pj_call (hc (ht rfl) <| hc (ht rfl) <| hc (ht rfl) <| hc (ht rfl) <| hasL_nil) (by kernel_rfl) (c_lmots_secret hg0 hg1 e10))) <| .read rfl (.plain rfl (pm (ht rfl))) <| .read rfl (.plain rfl (pj_call (hc (ht rfl) <| hc (ht rfl) <| hc (ht rfl) <| hc (ht rfl) <| hc has_i64 <| hc (ht rfl) <| hasL_nil) (by kernel_rfl) (c_lmots_chain hg0 hg1 e11))) <| .step 0 rfl .here (.inl rfl) (fun i => ⟨_, _, fun j => j, (w_alloc (x := (Vector.replicate 32 (0#8))) (R := R_api_Hash) (zero_vec 32 zero_un) (by kernel_rfl) rfl), fun _ => rfl, slotAny, dst1⟩) <| .nil) ?_
        rintro b4
        refine j_to (Γ' := [(2, u32.slot p_q), (6, ptrTo R_api_ID p_id), (8, ptrTo R_api_Hash p_seed), (15, val (.pointer (some ⟨b3, 0, none⟩))), (18, val (.pointer (some ⟨b4, 0, none⟩))), (46, (sl i64).slot r6), (47, i64.slot (r6.length : Int)), (48, i64.slot y1), (62, R_api_Hash.slot r8)]) (H' := [box b4 23 R_api_Hash (Vector.replicate 32 (0#8)), box b3 63 (prod (exv v6) bl) ((), y2), own 5 u8 v6 y3]) (.cons (.of_lk rfl) <| .cons (.of_lk rfl) <| .cons (.of_lk rfl) <| .cons (.of_lk rfl) <| .cons (.of_lk rfl) <| .cons (.of_lk rfl) <| .cons (.of_lk rfl) <| .cons (.of_lk rfl) <| .cons (.of_lk rfl) <| .nil) (.cons .here <| .cons .here <| .cons .here <| .nil) ?_
        refine j_store_boxx (r' := r8) (ht rfl) (ht rfl) .here (Path.all R_api_Hash) (by kernel_rfl) rfl ?_
        refine j_freezeTo (t := 18) .here (.of_lk rfl) ?_
        refine j_end ?_
        refine rt ?_
        refine jp (pm (ht rfl)) rfl rfl rfl ?_
        refine jp (pj_slice_toF (ht rfl) (by decide) (by kernel_rfl)) rfl rfl rfl ?_
        obtain ⟨r9, e12, h⟩ := bind_some h
        refine j_call (hc (ht rfl) <| hc (ht rfl) <| hasL_nil) (by kernel_rfl) (c_wire_Writer_Plain e12) (.cons .here <| .cons .here <| .nil) rfl fun v7 => ?_
        refine j_end ?_
        refine run_endblock ?_
        refine rt ?_
        refine jp (pj_iadd (ht rfl) has_i64) rfl rfl rfl ?_
        refine jp (pm (ht rfl)) rfl rfl rfl ?_
        refine j_end ?_
        obtain rfl := oi h
        exact run_next v7 (.cons (.of_lk rfl) <| .cons (.of_lk rfl) <| .cons (.of_lk rfl) <| .cons (.of_lk rfl) <| .cons (.of_lk rfl) <| .cons (.of_lk rfl) <| .cons (.of_lk rfl) <| .nil) (.cons .here <| .cons .here <| .nil)
      · replace h := bf e8 h
        obtain rfl := oi h
        exact run_brk v6 (.cons (.of_lk rfl) <| .cons (.of_lk rfl) <| .cons (.of_lk rfl) <| .cons (.of_lk rfl) <| .cons (.of_lk rfl) <| .cons (.of_lk rfl) <| .cons (.of_lk rfl) <| .nil) (.cons .here <| .cons .here <| .nil)
    · rintro v8
      show Run _ _ _ [(2, u32.slot p_q), (6, ptrTo R_api_ID p_id), (8, ptrTo R_api_Hash p_seed), (15, val (.pointer (some ⟨b3, 0, none⟩))), (46, (sl i64).slot r6), (47, i64.slot (r6.length : Int)), (48, i64.slot y4)] [box b3 63 (prod (exv v8) bl) ((), y5), own 5 u8 v8 y6]
      refine run_to (Γ' := [(15, val (.pointer (some ⟨b3, 0, none⟩)))]) (H' := [box b3 63 (prod (exv v8) bl) ((), y5), own 5 u8 v8 y6]) (.cons (.of_lk rfl) <| .nil) (.cons .here <| .cons .here <| .nil) ?_
      refine rs ?_
      refine rt ?_
      refine jp (pm (ht rfl)) rfl rfl rfl ?_
      obtain ⟨r10, e14, h⟩ := bind_some h
      refine j_call (hc (ht rfl) <| hasL_nil) (by kernel_rfl) (c_wire_Writer_Out e14) (.cons .here <| .cons .here <| .nil) rfl fun ⟨v9, v10⟩ => ?_
      refine jp (pj_extract (ht rfl) rfl) rfl rfl rfl ?_
      refine jp (pj_extract (ht rfl) rfl) rfl rfl rfl ?_
      refine jp (pa (ht rfl)) rfl rfl rfl ?_
      refine jp (pa (ht rfl)) rfl rfl rfl ?_
      refine j_end ?_
      obtain rfl := oi h
      exact run_ret fun a w hst => q_retN hst rfl (.cons (.tmp rfl) <| .cons (.tmp rfl) <| .nil) rfl v10 (fun _ _ h => h) (.cons (.next (.next .here)) <| .nil)
set_option maxRecDepth 100000 in
set_option maxHeartbeats 4000000 in
theorem c_lms_Tree_Sign {G : GP} (hg0 : HG0 G) (hg1 : HG1 G) (hg2 : HG2 G) {p_t : Option T_lms_Tree} {p_q : Int} {p_message : List (BitVec 8)} {r : (List (BitVec 8)) × Int} (h : lms_Tree_Sign p_t p_q p_message = some r) : Ctr Tryd.prog G 93 [(ptr R_lms_Tree).slot p_t, i64.slot p_q, (sl u8).slot p_message] [] (fun (u0 : Value) => tup [ov u0, i64.slot r.2]) (fun (u0 : Value) => [own 5 u8 u0 r.1]) := by
  unfold lms_Tree_Sign at h
  refine ctr_of_run Tryd.func93 rfl 84 rfl rfl fun m0 w0 b0 => ?_
  show Run _ _ _ [(0, (ptr R_lms_Tree).slot p_t), (1, i64.slot p_q), (2, (sl u8).slot p_message)] _
  refine rs ?_
  refine rt ?_
  refine j_assign_nil (T := 5) u8 rfl fun v1 => ?_
  refine jp (pa has_i64) rfl rfl rfl ?_
  refine j_end ?_
  refine rs ?_
  refine run_block ?_
  refine rs ?_
  refine rt ?_
  refine jp (pm (ht rfl)) rfl rfl rfl ?_
  refine jp (pj_eq_nil (E := 116) (by kernel_rfl) (ht rfl)) rfl rfl rfl ?_
  refine jp (pa (ht rfl)) rfl rfl rfl ?_
  refine j_end ?_
  refine run_cond (ht rfl) (fun e1 => ?_) (fun e1 => ?_)
  · replace h := bt e1 h
    refine rs ?_
    refine rt ?_
    refine j_assign_nil (T := 5) u8 rfl fun v2 => ?_
    refine jp (pa has_i64) rfl rfl rfl ?_
    refine j_end ?_
    obtain rfl := oi h
    exact run_ret fun a w hst => q_retN hst rfl (.cons (.tmp rfl) <| .cons (.tmp rfl) <| .nil) rfl v2 (fun _ _ h => h) (.cons .here <| .nil)
  · replace h := bf e1 h
    refine rs ?_
    refine rt ?_
    refine jp (pm (ht rfl)) rfl rfl rfl ?_
    refine jp (pj_ilss (ht rfl) has_i64) rfl rfl rfl ?_
    refine jp (pm (ht rfl)) rfl rfl rfl ?_
    obtain ⟨y1, e3, h⟩ := bind_some h
    refine j_joinx (ι := Unit) (Γ' := fun _ => [(0, (ptr R_lms_Tree).slot p_t), (1, i64.slot p_q), (2, (sl u8).slot p_message), (23, bl.slot y1)]) (H' := fun _ => []) 5 ?_ fun J => ?_
    · intro _
      clear e3
      show OpsJ _ _ _ [(0, (ptr R_lms_Tree).slot p_t), (1, i64.slot p_q), (2, (sl u8).slot p_message), (23, bl.slot y1)] [] _
      refine jp (pa (ht rfl)) rfl rfl rfl ?_
      refine j_end ?_
      refine run_cond (ht rfl) (fun e5 => ?_) (fun e5 => ?_)
      · replace h := bt e5 h
        refine rs ?_
        refine rt ?_
        refine j_assign_nil (T := 5) u8 rfl fun v3 => ?_
        refine jp (pa has_i64) rfl rfl rfl ?_
        refine j_end ?_
        obtain rfl := oi h
        exact run_ret fun a w hst => q_retN hst rfl (.cons (.tmp rfl) <| .cons (.tmp rfl) <| .nil) rfl v3 (fun _ _ h => h) (.cons .here <| .nil)
      · replace h := bf e5 h
        refine run_skip ?_
        refine run_endblock ?_
        refine rs ?_
        obtain ⟨x1, e6, h⟩ := bind_some h
        obtain ⟨x2, e7, h⟩ := bind_some h
        obtain ⟨x3, e8, h⟩ := bind_some h
        obtain ⟨r2, e9, h⟩ := bind_some h
        refine run_draw (n := 20) (by kernel_rfl) (by kernel_rfl) (by kernel_rfl) (by kernel_rfl) (.read (.plain rfl (pm (ht rfl))) <| .read (.plain rfl (pj_nilCheck_some (ht rfl) e6)) <| .read (.plain rfl (pj_field_to (ht rfl) (Path.then (Path.snd i64 (prod i64 (prod R_api_ID (prod R_api_Hash (sl R_api_Hash))))) (Path.fst i64 (prod R_api_ID (prod R_api_Hash (sl R_api_Hash))))) (by kernel_rfl))) <| .read (.plain rfl (pl (ht rfl) (by kernel_rfl))) <| .read (.plain rfl (pm (ht rfl))) <| .read (.plain rfl (pj_nilCheck_some (ht rfl) e7)) <| .read (.plain rfl (pj_field_to (ht rfl) (Path.then (Path.snd i64 (prod i64 (prod R_api_ID (prod R_api_Hash (sl R_api_Hash))))) (Path.then (Path.snd i64 (prod R_api_ID (prod R_api_Hash (sl R_api_Hash)))) (Path.fst R_api_ID (prod R_api_Hash (sl R_api_Hash))))) (by kernel_rfl))) <| .read (.plain rfl (pl (ht rfl) (by kernel_rfl))) <| .read (.plain rfl (pm (ht rfl))) <| .read (.plain rfl (pj_conv_un (k := .u32) (b := 32) rfl rfl (by kernel_rfl) (ht rfl) isInt_i64)) <| .read (.plain rfl (pm (ht rfl))) <| .read (.plain rfl (pj_nilCheck_some (ht rfl) e8)) <| .read (.plain rfl (pj_field_to (ht rfl) (Path.then (Path.snd i64 (prod i64 (prod R_api_ID (prod R_api_Hash (sl R_api_Hash))))) (Path.then (Path.snd i64 (prod R_api_ID (prod R_api_Hash (sl R_api_Hash)))) (Path.then (Path.snd R_api_ID (prod R_api_Hash (sl R_api_Hash))) (Path.fst R_api_Hash (sl R_api_Hash))))) (by kernel_rfl))) <| .read (.plain rfl (pl (ht rfl) (by kernel_rfl))) <| .read (.plain rfl (pm (ht rfl))) <| .read (.plain rfl (pj_call (hc (ht rfl) <| hc (ht rfl) <| hc (ht rfl) <| hc (ht rfl) <| hc (ht rfl) <| hasL_nil) (by kernel_rfl) (Ctr.froze2 (c_lmots_Sign hg0 hg1 hg2 e9)))) <| .read (.plain rfl (pm (ht rfl))) <| .read (.plain rfl (pj_extract (ht rfl) rfl)) <| .read (.plain rfl (pj_extract (ht rfl) rfl)) <| .read (.plain rfl (pa (ht rfl))) <| .nil) (j_to (Γ' := [(0, (ptr R_lms_Tree).slot p_t), (1, i64.slot p_q), (8, (sl u8).slot r2.1), (42, i64.slot r2.2)]) (H' := []) (.cons (.of_lk rfl) <| .cons (.of_lk rfl) <| .cons (.of_lk rfl) <| .cons (.of_lk rfl) <| .nil) (.nil) ?_)
        refine jp (pa (ht rfl)) rfl rfl rfl ?_
        refine j_end ?_
        refine rs ?_
        refine rs ?_
        refine rt ?_
        refine jp (pm (ht rfl)) rfl rfl rfl ?_
        refine jp (pj_ineq (ht rfl) has_i64) rfl rfl rfl ?_
        refine j_end ?_
        refine run_cond (ht rfl) (fun e10 => ?_) (fun e10 => ?_)
        · replace h := bt e10 h
          refine rs ?_
          refine rt ?_
          refine jp (pm (ht rfl)) rfl rfl rfl ?_
          refine j_assign_nil (T := 5) u8 rfl fun v4 => ?_
          refine jp (pa (ht rfl)) rfl rfl rfl ?_
          refine j_end ?_
          obtain rfl := oi h
          exact run_ret fun a w hst => q_retN hst rfl (.cons (.tmp rfl) <| .cons (.tmp rfl) <| .nil) rfl v4 (fun _ _ h => h) (.cons .here <| .nil)
        · replace h := bf e10 h
          refine run_skip ?_
          refine rs ?_
          refine rt ?_
          refine jp (pj_build (R := prod (exv (.slice none 0 0)) bl) (zero_prod zero_exv zero_bl) (by kernel_rfl) (by kernel_rfl) rfl .nil) rfl rfl rfl ?_
          refine j_box_w (T1 := 5) u8 (ht rfl) rfl fun b1 v5 => ?_
          refine jp (pa (ht rfl)) rfl rfl rfl ?_
          refine j_end ?_
          refine rs ?_
          refine rt ?_
          refine jp (pm (ht rfl)) rfl rfl rfl ?_
          refine jp (pm (ht rfl)) rfl rfl rfl ?_
          refine jp (pj_conv_un (k := .u32) (b := 32) rfl rfl (by kernel_rfl) (ht rfl) isInt_i64) rfl rfl rfl ?_
          obtain ⟨r3, e11, h⟩ := bind_some h
          refine j_call (hc (ht rfl) <| hc (ht rfl) <| hasL_nil) (by kernel_rfl) (c_wire_Writer_U32 e11) (.cons (.next .here) <| .cons .here <| .nil) rfl fun v6 => ?_
          refine j_end ?_
          refine rs ?_
          refine rt ?_
          refine jp (pm (ht rfl)) rfl rfl rfl ?_
          refine jp (pm (ht rfl)) rfl rfl rfl ?_
          obtain ⟨r4, e12, h⟩ := bind_some h
          refine j_call (hc (ht rfl) <| hc (ht rfl) <| hasL_nil) (by kernel_rfl) (c_wire_Writer_Plain e12) (.cons .here <| .cons .here <| .nil) rfl fun v7 => ?_
          refine j_end ?_
          refine rs ?_
          refine rt ?_
          refine jp (pm (ht rfl)) rfl rfl rfl ?_
          refine jp (pm (ht rfl)) rfl rfl rfl ?_
          obtain ⟨x4, e13, h⟩ := bind_some h
          refine jp (pj_nilCheck_some (ht rfl) e13) rfl rfl rfl ?_
          refine jp (pj_field_to (ht rfl) (Path.fst i64 (prod i64 (prod R_api_ID (prod R_api_Hash (sl R_api_Hash))))) (by kernel_rfl)) rfl rfl rfl ?_
          refine jp (pl (ht rfl) (by kernel_rfl)) rfl rfl rfl ?_
          refine jp (pj_conv_un (k := .u32) (b := 32) rfl rfl (by kernel_rfl) (ht rfl) isInt_i64) rfl rfl rfl ?_
          obtain ⟨r5, e14, h⟩ := bind_some h
          refine j_call (hc (ht rfl) <| hc (ht rfl) <| hasL_nil) (by kernel_rfl) (c_wire_Writer_U32 e14) (.cons .here <| .cons .here <| .nil) rfl fun v8 => ?_
          refine j_end ?_
          refine rs ?_
          refine rs ?_
          refine rt ?_
          refine jp (pm (ht rfl)) rfl rfl rfl ?_
          obtain ⟨r6, e15, h⟩ := bind_some h
          refine jp (pj_call (hc (ht rfl) <| hasL_nil) (by kernel_rfl) (c_lms_Tree_Keys e15)) rfl rfl rfl ?_
          refine jp (pm (ht rfl)) rfl rfl rfl ?_
          refine jp (pj_iadd (ht rfl) (ht rfl)) rfl rfl rfl ?_
          refine jp (pa (ht rfl)) rfl rfl rfl ?_
          refine j_end ?_
          obtain ⟨⟨y5, y6, y7⟩, e20, h⟩ := bind_some h
          refine run_loopS (Γi := fun (i : Value) (s : Int × Bool × (List (BitVec 8))) => [(0, (ptr R_lms_Tree).slot p_t), (10, val (.pointer (some ⟨b1, 0, none⟩))), (11, i64.slot s.1)]) (Hi := fun (i : Value) (s : Int × Bool × (List (BitVec 8))) => [box b1 63 (prod (exv i) bl) ((), s.2.1), own 5 u8 i s.2.2]) e20 v8 (fun a w hst => (hst.sub (.cons (.of_lk rfl) <| .cons (.of_lk rfl) <| .cons (.of_lk rfl) <| .nil)).keep (.cons .here <| .cons .here <| .nil)) ?_ ?_
          · clear h e20
            rintro v9 ⟨y2, y3, y4⟩ lr h
            change lms_Tree_Sign_L1 p_t y2 y3 y4 = some _ at h
            show Run _ _ _ [(0, (ptr R_lms_Tree).slot p_t), (10, val (.pointer (some ⟨b1, 0, none⟩))), (11, i64.slot y2)] [box b1 63 (prod (exv v9) bl) ((), y3), own 5 u8 v9 y4]
            unfold lms_Tree_Sign_L1 at h
            refine rs ?_
            refine rs ?_
            refine rt ?_
            refine jp (pm (ht rfl)) rfl rfl rfl ?_
            refine jp (pj_igtr (ht rfl) has_i64) rfl rfl rfl ?_
            refine j_end ?_
            refine run_cond (ht rfl) (fun e16 => ?_) (fun e16 => ?_)
            · replace h := bt e16 h
              refine run_skip ?_
              refine rs ?_
              refine run_block ?_
              refine rt ?_
              refine jp (pm (ht rfl)) rfl rfl rfl ?_
              refine jp (pm (ht rfl)) rfl rfl rfl ?_
              obtain ⟨x5, e17, h⟩ := bind_some h
              refine jp (pj_nilCheck_some (ht rfl) e17) rfl rfl rfl ?_
              refine jp (pj_field_to (ht rfl) (Path.then (Path.snd i64 (prod i64 (prod R_api_ID (prod R_api_Hash (sl R_api_Hash))))) (Path.then (Path.snd i64 (prod R_api_ID (prod R_api_Hash (sl R_api_Hash)))) (Path.then (Path.snd R_api_ID (prod R_api_Hash (sl R_api_Hash))) (Path.snd R_api_Hash (sl R_api_Hash))))) (by kernel_rfl)) rfl rfl rfl ?_
              refine jp (pl (ht rfl) (by kernel_rfl)) rfl rfl rfl ?_
              refine jp (pm (ht rfl)) rfl rfl rfl ?_
              refine jp (pj_ixor (ht rfl) has_i64) rfl rfl rfl ?_
              obtain ⟨x6, e18, h⟩ := bind_some h
              refine jp (pj_index_slx (ht rfl) (ht rfl) isInt_i64 e18 (by kernel_rfl)) rfl rfl rfl ?_
              refine jp (pj_slice_toF (ht rfl) (by decide) (by kernel_rfl)) rfl rfl rfl ?_
              obtain ⟨r7, e19, h⟩ := bind_some h
              refine j_call (hc (ht rfl) <| hc (ht rfl) <| hasL_nil) (by kernel_rfl) (c_wire_Writer_Plain e19) (.cons .here <| .cons .here <| .nil) rfl fun v10 => ?_
              refine j_end ?_
              refine run_endblock ?_
              refine rt ?_
              refine jp (pm (ht rfl)) rfl rfl rfl ?_
              refine jp (pj_iquo (ht rfl) has_i64 (by decide)) rfl rfl rfl ?_
              refine jp (pa (ht rfl)) rfl rfl rfl ?_
              refine j_end ?_
              obtain rfl := oi h
              exact run_next v10 (.cons (.of_lk rfl) <| .cons (.of_lk rfl) <| .cons (.of_lk rfl) <| .nil) (.cons .here <| .cons .here <| .nil)
            · replace h := bf e16 h
              obtain rfl := oi h
              exact run_brk v9 (.cons (.of_lk rfl) <| .cons (.of_lk rfl) <| .cons (.of_lk rfl) <| .nil) (.cons .here <| .cons .here <| .nil)
          · rintro v11
            show Run _ _ _ [(0, (ptr R_lms_Tree).slot p_t), (10, val (.pointer (some ⟨b1, 0, none⟩))), (11, i64.slot y5)] [box b1 63 (prod (exv v11) bl) ((), y6), own 5 u8 v11 y7]
            refine run_to (Γ' := [(10, val (.pointer (some ⟨b1, 0, none⟩)))]) (H' := [box b1 63 (prod (exv v11) bl) ((), y6), own 5 u8 v11 y7]) (.cons (.of_lk rfl) <| .nil) (.cons .here <| .cons .here <| .nil) ?_
            refine rs ?_
            refine rt ?_
            refine jp (pm (ht rfl)) rfl rfl rfl ?_
            obtain ⟨r8, e21, h⟩ := bind_some h
            refine j_call (hc (ht rfl) <| hasL_nil) (by kernel_rfl) (c_wire_Writer_Out e21) (.cons .here <| .cons .here <| .nil) rfl fun ⟨v12, v13⟩ => ?_
            refine jp (pj_extract (ht rfl) rfl) rfl rfl rfl ?_
            refine jp (pj_extract (ht rfl) rfl) rfl rfl rfl ?_
            refine jp (pa (ht rfl)) rfl rfl rfl ?_
            refine jp (pa (ht rfl)) rfl rfl rfl ?_
            refine j_end ?_
            obtain rfl := oi h
            exact run_ret fun a w hst => q_retN hst rfl (.cons (.tmp rfl) <| .cons (.tmp rfl) <| .nil) rfl v13 (fun _ _ h => h) (.cons (.next (.next .here)) <| .nil)
    · rcases bool_tf (decide (p_q < (0 : Int))) with e2 | e2
      · replace e3 := bt e2 e3
        refine j_guard_no2 (j := 2) (want := false) rfl rfl rfl rfl (bl_isx e2) rfl rfl rfl ?_
        refine j_guard_no2 (j := 2) (want := false) rfl rfl rfl rfl (bl_isx e2) rfl rfl rfl ?_
        refine j_guard_no2 (j := 2) (want := false) rfl rfl rfl rfl (bl_isx e2) rfl rfl rfl ?_
        refine j_guard_no2 (j := 2) (want := false) rfl rfl rfl rfl (bl_isx e2) rfl rfl rfl ?_
        refine jp (PJ.eqv (R := bl) (pj_pick (t := any) (ht rfl) (fun _ => has_bl) (fun he => absurd (e2.symm.trans he) (by decide))) (oi e3)) rfl rfl rfl ?_
        exact j_to (.cons (.of_lk rfl) <| .cons (.of_lk rfl) <| .cons (.of_lk rfl) <| .cons (.of_lk rfl) <| .nil) (.nil) (J ())
      · replace e3 := bf e2 e3
        refine jy (pm (ht rfl)) rfl rfl rfl rfl (bl_isx e2) rfl rfl ?_
        refine jy (pm (ht rfl)) rfl rfl rfl rfl (bl_isx e2) rfl rfl ?_
        obtain ⟨r1, e4, e3⟩ := bind_some e3
        refine jy (pj_call (hc (ht rfl) <| hasL_nil) (by kernel_rfl) (c_lms_Tree_Keys e4)) rfl rfl rfl rfl (bl_isx e2) rfl rfl ?_
        refine jy (pj_igeq (ht rfl) (ht rfl)) rfl rfl rfl rfl (bl_isx e2) rfl rfl ?_
        refine jp (PJ.eqv (R := bl) (pj_pick (t := any) (ht rfl) (fun he => absurd (e2.symm.trans he) (by decide)) (fun _ => (ht rfl))) (oi e3)) rfl rfl rfl ?_
        exact j_to (.cons (.of_lk rfl) <| .cons (.of_lk rfl) <| .cons (.of_lk rfl) <| .cons (.of_lk rfl) <| .nil) (.nil) (J ())
set_option maxRecDepth 100000 in
set_option maxHeartbeats 4000000 in
theorem c_hss_Signer_Sign {G : GP} (hg0 : HG0 G) (hg1 : HG1 G) (hg2 : HG2 G) {p_s : Int × Int × T_api_Hash × (Option T_lms_Tree) × (Option T_lms_Tree) × Int} {p_n : Int} {p_message : List (BitVec 8)} {b_s : Nat} {r : (Int × Int × T_api_Hash × (Option T_lms_Tree) × (Option T_lms_Tree) × Int) × (List (BitVec 8)) × Int} (h : hss_Signer_Sign p_s p_n p_message = some r) : Ctr Tryd.prog G 63 [val (.pointer (some ⟨b_s, 0, none⟩)), i64.slot p_n, (sl u8).slot p_message] [box b_s 87 (prod i64 (prod i64 (prod R_api_Hash (prod (ptr R_lms_Tree) (prod (ptr R_lms_Tree) i64))))) (p_s.1, p_s.2.1, p_s.2.2.1, p_s.2.2.2.1, p_s.2.2.2.2.1, p_s.2.2.2.2.2)] (fun (u0 : Value) => tup [ov u0, i64.slot r.2.2]) (fun (u0 : Value) => [box b_s 87 (prod i64 (prod i64 (prod R_api_Hash (prod (ptr R_lms_Tree) (prod (ptr R_lms_Tree) i64))))) (r.1.1, r.1.2.1, r.1.2.2.1, r.1.2.2.2.1, r.1.2.2.2.2.1, r.1.2.2.2.2.2), own 5 u8 u0 r.2.1]) := by
  unfold hss_Signer_Sign at h
  refine ctr_of_run Tryd.func63 rfl 81 rfl rfl fun m0 w0 b0 => ?_
  show Run _ _ _ [(0, val (.pointer (some ⟨b_s, 0, none⟩))), (1, i64.slot p_n), (2, (sl u8).slot p_message)] _
  refine rs ?_
  refine rt ?_
  refine j_assign_nil (T := 5) u8 rfl fun v1 => ?_
  refine jp (pa has_i64) rfl rfl rfl ?_
  refine j_end ?_
  refine rs ?_
  refine run_block ?_
  refine rs ?_
  refine rt ?_
  refine jp (pm (ht rfl)) rfl rfl rfl ?_
  refine jp (pj_eq_nil_val (E := 87) (by kernel_rfl) (ht rfl)) rfl rfl rfl ?_
  refine jp (pa (ht rfl)) rfl rfl rfl ?_
  refine j_end ?_
  refine run_cond_f (ht rfl) rfl ?_
  refine rs ?_
  refine rt ?_
  refine jp (pm (ht rfl)) rfl rfl rfl ?_
  refine jp (pj_ilss (ht rfl) has_i64) rfl rfl rfl ?_
  refine jp (pm (ht rfl)) rfl rfl rfl ?_
  obtain ⟨y1, e3, h⟩ := bind_some h
  refine j_joinx (ι := Unit) (Γ' := fun _ => [(0, val (.pointer (some ⟨b_s, 0, none⟩))), (1, i64.slot p_n), (2, (sl u8).slot p_message), (26, bl.slot y1)]) (H' := fun _ => [box b_s 87 (prod i64 (prod i64 (prod R_api_Hash (prod (ptr R_lms_Tree) (prod (ptr R_lms_Tree) i64))))) (p_s.1, p_s.2.1, p_s.2.2.1, p_s.2.2.2.1, p_s.2.2.2.2.1, p_s.2.2.2.2.2)]) 5 ?_ fun J => ?_
  · intro _
    clear e3
    show OpsJ _ _ _ [(0, val (.pointer (some ⟨b_s, 0, none⟩))), (1, i64.slot p_n), (2, (sl u8).slot p_message), (26, bl.slot y1)] [box b_s 87 (prod i64 (prod i64 (prod R_api_Hash (prod (ptr R_lms_Tree) (prod (ptr R_lms_Tree) i64))))) (p_s.1, p_s.2.1, p_s.2.2.1, p_s.2.2.2.1, p_s.2.2.2.2.1, p_s.2.2.2.2.2)] _
    refine jp (pa (ht rfl)) rfl rfl rfl ?_
    refine j_end ?_
    refine run_cond (ht rfl) (fun e5 => ?_) (fun e5 => ?_)
    · replace h := bt e5 h
      refine rs ?_
      refine rt ?_
      refine j_assign_nil (T := 5) u8 rfl fun v2 => ?_
      refine jp (pa has_i64) rfl rfl rfl ?_
      refine j_end ?_
      obtain rfl := oi h
      exact run_ret fun a w hst => q_retN hst rfl (.cons (.tmp rfl) <| .cons (.tmp rfl) <| .nil) rfl v2 (fun _ _ h => h) (.cons (.next .here) <| .cons .here <| .nil)
    · replace h := bf e5 h
      refine run_skip ?_
      refine run_endblock ?_
      refine rs ?_
      obtain ⟨e6, h⟩ := grd_some h
      obtain ⟨e7, h⟩ := grd_some h
      refine run_draw (n := 15) (by kernel_rfl) (by kernel_rfl) (by kernel_rfl) (by kernel_rfl) (.read (.plain rfl (pm (ht rfl))) <| .read (.plain rfl (pm (ht rfl))) <| .read (.plain rfl (pj_nilCheck_ptr (ht rfl))) <| .read (.plain rfl (pj_field_ptr (off := 0) (ht rfl) (by kernel_rfl))) <| .read (.plain rfl (pj_load_box (ht rfl) .here (Path.then (Path.all (prod i64 (prod i64 (prod R_api_Hash (prod (ptr R_lms_Tree) (prod (ptr R_lms_Tree) i64)))))) (Path.fst i64 (prod i64 (prod R_api_Hash (prod (ptr R_lms_Tree) (prod (ptr R_lms_Tree) i64)))))) (by kernel_rfl))) <| .read (.plain rfl (pj_ishr (ht rfl) (ht rfl) isInt_i64 e6)) <| .read (.plain rfl (pm (ht rfl))) <| .read (.plain rfl (pm (ht rfl))) <| .read (.plain rfl (pj_nilCheck_ptr (ht rfl))) <| .read (.plain rfl (pj_field_ptr (off := 0) (ht rfl) (by kernel_rfl))) <| .read (.plain rfl (pj_load_box (ht rfl) .here (Path.then (Path.all (prod i64 (prod i64 (prod R_api_Hash (prod (ptr R_lms_Tree) (prod (ptr R_lms_Tree) i64)))))) (Path.fst i64 (prod i64 (prod R_api_Hash (prod (ptr R_lms_Tree) (prod (ptr R_lms_Tree) i64)))))) (by kernel_rfl))) <| .read (.plain rfl (pj_ishl has_i64 (ht rfl) isInt_i64 e7)) <| .read (.plain rfl (pj_isub (ht rfl) has_i64)) <| .read (.plain rfl (pj_iand (ht rfl) (ht rfl))) <| .read (.plain rfl (pa (ht rfl))) <| .nil) (j_to (Γ' := [(0, val (.pointer (some ⟨b_s, 0, none⟩))), (2, (sl u8).slot p_message), (8, i64.slot (ishr p_n p_s.1)), (40, i64.slot (iand p_n (w64 ((ishl (1 : Int) p_s.1) - (1 : Int)))))]) (H' := [box b_s 87 (prod i64 (prod i64 (prod R_api_Hash (prod (ptr R_lms_Tree) (prod (ptr R_lms_Tree) i64))))) (p_s.1, p_s.2.1, p_s.2.2.1, p_s.2.2.2.1, p_s.2.2.2.2.1, p_s.2.2.2.2.2)]) (.cons (.of_lk rfl) <| .cons (.of_lk rfl) <| .cons (.of_lk rfl) <| .cons (.of_lk rfl) <| .nil) (.cons .here <| .nil) ?_)
      obtain ⟨x1, e8, h⟩ := bind_some h
      refine jp (PJ.eqv (pa (ht rfl)) (oi e8)) rfl rfl rfl ?_
      refine j_end ?_
      refine rs ?_
      refine rt ?_
      refine jp (pm (ht rfl)) rfl rfl rfl ?_
      refine jp (pm (ht rfl)) rfl rfl rfl ?_
      obtain ⟨r2, e9, h⟩ := bind_some h
      refine j_call (hc (ht rfl) <| hc (ht rfl) <| hasL_nil) (by kernel_rfl) (c_hss_Signer_tree hg0 hg1 hg2 e9) (.cons .here <| .nil) rfl fun _ => ?_
      refine jp (pm (ht rfl)) rfl rfl rfl ?_
      refine jp (pj_extract (ht rfl) rfl) rfl rfl rfl ?_
      refine jp (pj_extract (ht rfl) rfl) rfl rfl rfl ?_
      refine jp (pa (ht rfl)) rfl rfl rfl ?_
      refine jp (pa (ht rfl)) rfl rfl rfl ?_
      refine j_end ?_
      refine rs ?_
      refine rs ?_
      refine rt ?_
      refine jp (pm (ht rfl)) rfl rfl rfl ?_
      refine jp (pj_ineq (ht rfl) has_i64) rfl rfl rfl ?_
      refine j_end ?_
      refine run_cond (ht rfl) (fun e10 => ?_) (fun e10 => ?_)
      · replace h := bt e10 h
        refine rs ?_
        refine rt ?_
        refine jp (pm (ht rfl)) rfl rfl rfl ?_
        refine j_assign_nil (T := 5) u8 rfl fun v3 => ?_
        refine jp (pa (ht rfl)) rfl rfl rfl ?_
        refine j_end ?_
        obtain rfl := oi h
        exact run_ret fun a w hst => q_retN hst rfl (.cons (.tmp rfl) <| .cons (.tmp rfl) <| .nil) rfl v3 (fun _ _ h => h) (.cons (.next .here) <| .cons .here <| .nil)
      · replace h := bf e10 h
        refine run_skip ?_
        refine rs ?_
        refine rt ?_
        refine jp (pm (ht rfl)) rfl rfl rfl ?_
        obtain ⟨r3, e11, h⟩ := bind_some h
        refine jp (pj_call (hc (ht rfl) <| hasL_nil) (by kernel_rfl) (Ctr.froze (c_lms_Tree_Public e11))) rfl rfl rfl ?_
        refine jp (pa (ht rfl)) rfl rfl rfl ?_
        refine j_end ?_
        refine rs ?_
        refine rt ?_
        refine jp (pm (ht rfl)) rfl rfl rfl ?_
        refine jp (pj_nilCheck_ptr (ht rfl)) rfl rfl rfl ?_
        refine jp (pj_field_ptr (off := 34) (ht rfl) (by kernel_rfl)) rfl rfl rfl ?_
        refine jp (pj_load_box (ht rfl) .here (Path.then (Path.all (prod i64 (prod i64 (prod R_api_Hash (prod (ptr R_lms_Tree) (prod (ptr R_lms_Tree) i64)))))) (Path.then (Path.snd i64 (prod i64 (prod R_api_Hash (prod (ptr R_lms_Tree) (prod (ptr R_lms_Tree) i64))))) (Path.then (Path.snd i64 (prod R_api_Hash (prod (ptr R_lms_Tree) (prod (ptr R_lms_Tree) i64)))) (Path.then (Path.snd R_api_Hash (prod (ptr R_lms_Tree) (prod (ptr R_lms_Tree) i64))) (Path.fst (ptr R_lms_Tree) (prod (ptr R_lms_Tree) i64)))))) (by kernel_rfl)) rfl rfl rfl ?_
        refine jp (pm (ht rfl)) rfl rfl rfl ?_
        refine jp (pm (ht rfl)) rfl rfl rfl ?_
        obtain ⟨r4, e12, h⟩ := bind_some h
        refine jp (pj_call (hc (ht rfl) <| hc (ht rfl) <| hc (ht rfl) <| hasL_nil) (by kernel_rfl) (Ctr.froze2 (c_lms_Tree_Sign hg0 hg1 hg2 e12))) rfl rfl rfl ?_
        refine jp (pm (ht rfl)) rfl rfl rfl ?_
        refine jp (pj_extract (ht rfl) rfl) rfl rfl rfl ?_
        refine jp (pj_extract (ht rfl) rfl) rfl rfl rfl ?_
        refine jp (pa (ht rfl)) rfl rfl rfl ?_
        refine jp (pa (ht rfl)) rfl rfl rfl ?_
        refine j_end ?_
        refine rs ?_
        refine rs ?_
        refine rt ?_
        refine jp (pm (ht rfl)) rfl rfl rfl ?_
        refine jp (pj_ineq (ht rfl) has_i64) rfl rfl rfl ?_
        refine j_end ?_
        refine run_cond (ht rfl) (fun e13 => ?_) (fun e13 => ?_)
        · replace h := bt e13 h
          refine rs ?_
          refine rt ?_
          refine jp (pm (ht rfl)) rfl rfl rfl ?_
          refine j_assign_nil (T := 5) u8 rfl fun v4 => ?_
          refine jp (pa (ht rfl)) rfl rfl rfl ?_
          refine j_end ?_
          obtain rfl := oi h
          exact run_ret fun a w hst => q_retN hst rfl (.cons (.tmp rfl) <| .cons (.tmp rfl) <| .nil) rfl v4 (fun _ _ h => h) (.cons (.next .here) <| .cons .here <| .nil)
        · replace h := bf e13 h
          refine run_skip ?_
          refine rs ?_
          refine rt ?_
          refine jp (pm (ht rfl)) rfl rfl rfl ?_
          refine jp (pm (ht rfl)) rfl rfl rfl ?_
          refine jp (pm (ht rfl)) rfl rfl rfl ?_
          obtain ⟨r5, e14, h⟩ := bind_some h
          refine jp (pj_call (hc (ht rfl) <| hc (ht rfl) <| hc (ht rfl) <| hasL_nil) (by kernel_rfl) (Ctr.froze2 (c_lms_Tree_Sign hg0 hg1 hg2 e14))) rfl rfl rfl ?_
          refine jp (pm (ht rfl)) rfl rfl rfl ?_
          refine jp (pj_extract (ht rfl) rfl) rfl rfl rfl ?_
          refine jp (pj_extract (ht rfl) rfl) rfl rfl rfl ?_
          refine jp (pa (ht rfl)) rfl rfl rfl ?_
          refine jp (pa (ht rfl)) rfl rfl rfl ?_
          refine j_end ?_
          refine rs ?_
          refine rs ?_
          refine rt ?_
          refine jp (pm (ht rfl)) rfl rfl rfl ?_
          refine jp (pj_ineq (ht rfl) has_i64) rfl rfl rfl ?_
          refine j_end ?_
          refine run_cond (ht rfl) (fun e15 => ?_) (fun e15 => ?_)
          · replace h := bt e15 h
            refine rs ?_
            refine rt ?_
            refine jp (pm (ht rfl)) rfl rfl rfl ?_
            refine j_assign_nil (T := 5) u8 rfl fun v5 => ?_
            refine jp (pa (ht rfl)) rfl rfl rfl ?_
            refine j_end ?_
            obtain rfl := oi h
            exact run_ret fun a w hst => q_retN hst rfl (.cons (.tmp rfl) <| .cons (.tmp rfl) <| .nil) rfl v5 (fun _ _ h => h) (.cons (.next .here) <| .cons .here <| .nil)
          · replace h := bf e15 h
            refine run_skip ?_
            refine rs ?_
            refine rt ?_
            refine jp (pj_buildSlice (T := 5) (R := u8) (.cons (has_un (x := 0#8) rfl) (.cons (has_un (x := 0#8) rfl) (.cons (has_un (x := 0#8) rfl) (.cons (has_un (x := 1#8) rfl) .nil)))) rfl (by kernel_rfl) (by kernel_rfl)) rfl rfl rfl ?_
            refine jp (pm (ht rfl)) rfl rfl rfl ?_
            refine jp (pm (ht rfl)) rfl rfl rfl ?_
            refine jp (pm (ht rfl)) rfl rfl rfl ?_
            refine jp (pj_buildSlice (T := 26) (R := (sl u8)) (.cons (ht rfl) (.cons (ht rfl) (.cons (ht rfl) (.cons (ht rfl) .nil)))) rfl (by kernel_rfl) (by kernel_rfl)) rfl rfl rfl ?_
            obtain ⟨r6, e16, h⟩ := bind_some h
            refine j_call (hc (ht rfl) <| hasL_nil) (by kernel_rfl) (c_slices_Concat_byte_byte e16) .nil rfl fun v6 => ?_
            refine jp (pa (ht rfl)) rfl rfl rfl ?_
            refine jp (pa has_i64) rfl rfl rfl ?_
            refine j_end ?_
            obtain rfl := oi h
            exact run_ret fun a w hst => q_retN hst rfl (.cons (.tmp rfl) <| .cons (.tmp rfl) <| .nil) rfl v6 (fun _ _ h => h) (.cons (.next .here) <| .cons .here <| .nil)
  · rcases bool_tf (decide (p_n < (0 : Int))) with e2 | e2
    · replace e3 := bt e2 e3
      refine j_guard_no2 (j := 2) (want := false) rfl rfl rfl rfl (bl_isx e2) rfl rfl rfl ?_
      refine j_guard_no2 (j := 2) (want := false) rfl rfl rfl rfl (bl_isx e2) rfl rfl rfl ?_
      refine j_guard_no2 (j := 2) (want := false) rfl rfl rfl rfl (bl_isx e2) rfl rfl rfl ?_
      refine j_guard_no2 (j := 2) (want := false) rfl rfl rfl rfl (bl_isx e2) rfl rfl rfl ?_
      refine jp (PJ.eqv (R := bl) (pj_pick (t := any) (ht rfl) (fun _ => has_bl) (fun he => absurd (e2.symm.trans he) (by decide))) (oi e3)) rfl rfl rfl ?_
      exact j_to (.cons (.of_lk rfl) <| .cons (.of_lk rfl) <| .cons (.of_lk rfl) <| .cons (.of_lk rfl) <| .nil) (.cons (.next .here) <| .nil) (J ())
    · replace e3 := bf e2 e3
      refine jy (pm (ht rfl)) rfl rfl rfl rfl (bl_isx e2) rfl rfl ?_
      refine jy (pm (ht rfl)) rfl rfl rfl rfl (bl_isx e2) rfl rfl ?_
      obtain ⟨r1, e4, e3⟩ := bind_some e3
      refine jy (pj_callR (hc (ht rfl) <| hasL_nil) (.next .here) (by kernel_rfl) (fun _ => (c_hss_Signer_Keys e4))) rfl rfl rfl rfl (bl_isx e2) rfl rfl ?_
      refine jy (pj_igeq (ht rfl) (ht rfl)) rfl rfl rfl rfl (bl_isx e2) rfl rfl ?_
      refine jp (PJ.eqv (R := bl) (pj_pick (t := any) (ht rfl) (fun he => absurd (e2.symm.trans he) (by decide)) (fun _ => (ht rfl))) (oi e3)) rfl rfl rfl ?_
      exact j_to (.cons (.of_lk rfl) <| .cons (.of_lk rfl) <| .cons (.of_lk rfl) <| .cons (.of_lk rfl) <| .nil) (.cons (.next .here) <| .nil) (J ())
set_option maxRecDepth 100000 in
set_option maxHeartbeats 4000000 in
theorem c_head_Sign {G : GP} (hg0 : HG0 G) (hg1 : HG1 G) (hg2 : HG2 G) {p_s : Int × Int × T_api_Hash × (Option T_lms_Tree) × (Option T_lms_Tree) × Int} {p_n : Int} {p_h : T_head_Head} {b_s : Nat} {r : (Int × Int × T_api_Hash × (Option T_lms_Tree) × (Option T_lms_Tree) × Int) × T_head_Signed × Int} (h : head_Sign p_s p_n p_h = some r) : Ctr Tryd.prog G 43 [val (.pointer (some ⟨b_s, 0, none⟩)), i64.slot p_n, R_head_Head.slot p_h] [box b_s 87 (prod i64 (prod i64 (prod R_api_Hash (prod (ptr R_lms_Tree) (prod (ptr R_lms_Tree) i64))))) (p_s.1, p_s.2.1, p_s.2.2.1, p_s.2.2.2.1, p_s.2.2.2.2.1, p_s.2.2.2.2.2)] (fun (_ : Unit) => tup [R_head_Signed.slot r.2.1, i64.slot r.2.2]) (fun (_ : Unit) => [box b_s 87 (prod i64 (prod i64 (prod R_api_Hash (prod (ptr R_lms_Tree) (prod (ptr R_lms_Tree) i64))))) (r.1.1, r.1.2.1, r.1.2.2.1, r.1.2.2.2.1, r.1.2.2.2.2.1, r.1.2.2.2.2.2)]) := by
  unfold head_Sign at h
  refine ctr_of_run Tryd.func43 rfl 34 rfl rfl fun m0 w0 b0 => ?_
  show Run _ _ _ [(0, val (.pointer (some ⟨b_s, 0, none⟩))), (1, i64.slot p_n), (2, R_head_Head.slot p_h)] _
  refine rs ?_
  refine rt ?_
  refine jp (pj_box_to (ht rfl)) rfl rfl rfl ?_
  refine j_alloc (x := ((0, 0, (Vector.replicate 32 (0#8)), (Vector.replicate 32 (0#8))), ([] : List (BitVec 8)))) (R := R_head_Signed) (zero_prod (zero_prod zero_i64 (zero_prod zero_i64 (zero_prod (zero_vec 32 zero_un) (zero_vec 32 zero_un)))) zero_sl) (by kernel_rfl) rfl fun b1 => ?_
  refine jp (pa has_i64) rfl rfl rfl ?_
  refine j_end ?_
  refine rs ?_
  refine rt ?_
  refine jp (pl (ht rfl) (by kernel_rfl)) rfl rfl rfl ?_
  obtain ⟨r1, e1, h⟩ := bind_some h
  refine jp (pj_call (hc (ht rfl) <| hasL_nil) (by kernel_rfl) (Ctr.froze2 (c_head_Encode e1))) rfl rfl rfl ?_
  refine jp (pm (ht rfl)) rfl rfl rfl ?_
  refine jp (pj_extract (ht rfl) rfl) rfl rfl rfl ?_
  refine jp (pj_extract (ht rfl) rfl) rfl rfl rfl ?_
  refine jp (pa (ht rfl)) rfl rfl rfl ?_
  refine jp (pa (ht rfl)) rfl rfl rfl ?_
  refine j_end ?_
  refine rs ?_
  refine rs ?_
  refine rt ?_
  refine jp (pm (ht rfl)) rfl rfl rfl ?_
  refine jp (pj_ineq (ht rfl) has_i64) rfl rfl rfl ?_
  refine j_end ?_
  refine run_cond (ht rfl) (fun e2 => ?_) (fun e2 => ?_)
  · replace h := bt e2 h
    refine rs ?_
    refine rt ?_
    refine jp (pj_build (R := R_head_Signed) (zero_prod (zero_prod zero_i64 (zero_prod zero_i64 (zero_prod (zero_vec 32 zero_un) (zero_vec 32 zero_un)))) zero_sl) (by kernel_rfl) (by kernel_rfl) rfl .nil) rfl rfl rfl ?_
    refine jp (pm (ht rfl)) rfl rfl rfl ?_
    obtain ⟨x1, e3, h⟩ := bind_some h
    refine j_store_boxx (r' := x1) (ht rfl) (ht rfl) .here (Path.all R_head_Signed) (by kernel_rfl) (oi e3) ?_
    refine jp (pa (ht rfl)) rfl rfl rfl ?_
    refine j_end ?_
    obtain rfl := oi h
    exact run_ret fun a w hst => q_retN hst rfl (.cons (.cell rfl .here (by kernel_rfl)) <| .cons (.tmp rfl) <| .nil) rfl () (fun _ _ h => h) (.cons (.next .here) <| .nil)
  · replace h := bf e2 h
    refine run_skip ?_
    refine rs ?_
    refine rt ?_
    refine jp (pm (ht rfl)) rfl rfl rfl ?_
    refine jp (pm (ht rfl)) rfl rfl rfl ?_
    refine jp (pm (ht rfl)) rfl rfl rfl ?_
    obtain ⟨r2, e4, h⟩ := bind_some h
    refine j_call (hc (ht rfl) <| hc (ht rfl) <| hc (ht rfl) <| hasL_nil) (by kernel_rfl) (c_hss_Signer_Sign hg0 hg1 hg2 e4) (.cons (.next .here) <| .nil) rfl fun v1 => ?_
    refine jp (pm (ht rfl)) rfl rfl rfl ?_
    refine jp (pj_extract (ht rfl) rfl) rfl rfl rfl ?_
    refine jp (pj_extract (ht rfl) rfl) rfl rfl rfl ?_
    refine jp (pa (ht rfl)) rfl rfl rfl ?_
    refine jp (pa (ht rfl)) rfl rfl rfl ?_
    refine j_end ?_
    refine rs ?_
    refine rs ?_
    refine rt ?_
    refine jp (pm (ht rfl)) rfl rfl rfl ?_
    refine jp (pj_ineq (ht rfl) has_i64) rfl rfl rfl ?_
    refine j_end ?_
    refine run_cond (ht rfl) (fun e5 => ?_) (fun e5 => ?_)
    · replace h := bt e5 h
      refine rs ?_
      refine rt ?_
      refine jp (pj_build (R := R_head_Signed) (zero_prod (zero_prod zero_i64 (zero_prod zero_i64 (zero_prod (zero_vec 32 zero_un) (zero_vec 32 zero_un)))) zero_sl) (by kernel_rfl) (by kernel_rfl) rfl .nil) rfl rfl rfl ?_
      refine jp (pm (ht rfl)) rfl rfl rfl ?_
      obtain ⟨x2, e6, h⟩ := bind_some h
      refine j_store_boxx (r' := x2) (ht rfl) (ht rfl) (.next (.next .here)) (Path.all R_head_Signed) (by kernel_rfl) (oi e6) ?_
      refine jp (pa (ht rfl)) rfl rfl rfl ?_
      refine j_end ?_
      obtain rfl := oi h
      exact run_ret fun a w hst => q_retN hst rfl (.cons (.cell rfl .here (by kernel_rfl)) <| .cons (.tmp rfl) <| .nil) rfl () (fun _ _ h => h) (.cons (.next .here) <| .nil)
    · replace h := bf e5 h
      refine run_skip ?_
      refine rs ?_
      refine rt ?_
      refine jp (pl (ht rfl) (by kernel_rfl)) rfl rfl rfl ?_
      refine jp (pm (ht rfl)) rfl rfl rfl ?_
      refine j_freeze [10, 25, 32] (.next .here) (frz_cons (.of_lk rfl) <| frz_cons (.of_lk rfl) <| frz_cons (.of_lk rfl) <| frz_nil) ?_
      obtain ⟨x3, e7, h⟩ := bind_some h
      refine jp (PJ.eqv (pj_build (R := R_head_Signed) (zero_prod (zero_prod zero_i64 (zero_prod zero_i64 (zero_prod (zero_vec 32 zero_un) (zero_vec 32 zero_un)))) zero_sl) (by kernel_rfl) (by kernel_rfl) rfl (.cons (ht rfl) (Path.fst R_head_Head (sl u8)) (by kernel_rfl) (.cons (ht rfl) (Path.snd R_head_Head (sl u8)) (by kernel_rfl) .nil))) (oi e7)) rfl rfl rfl ?_
      refine j_store_boxx (r' := x3) (ht rfl) (ht rfl) (.next .here) (Path.all R_head_Signed) (by kernel_rfl) rfl ?_
      refine jp (pa has_i64) rfl rfl rfl ?_
      refine j_end ?_
      obtain rfl := oi h
      exact run_ret fun a w hst => q_retN hst rfl (.cons (.cell rfl .here (by kernel_rfl)) <| .cons (.tmp rfl) <| .nil) rfl () (fun _ _ h => h) (.cons (.next .here) <| .nil)
set_option maxRecDepth 100000 in
set_option maxHeartbeats 4000000 in
theorem c_rolodexlaw27_Signed {G : GP} (hg0 : HG0 G) (hg1 : HG1 G) (hg2 : HG2 G) {p_s : Int × Int × T_api_Hash × (Option T_lms_Tree) × (Option T_lms_Tree) × Int} {p_h : T_rolodexref17_Head} {b_s : Nat} {r : (Int × Int × T_api_Hash × (Option T_lms_Tree) × (Option T_lms_Tree) × Int) × T_head_Signed} (h : rolodexlaw27_Signed p_s p_h = some r) : Ctr Tryd.prog G 21 [val (.pointer (some ⟨b_s, 0, none⟩)), R_rolodexref17_Head.slot p_h] [box b_s 87 (prod i64 (prod i64 (prod R_api_Hash (prod (ptr R_lms_Tree) (prod (ptr R_lms_Tree) i64))))) (p_s.1, p_s.2.1, p_s.2.2.1, p_s.2.2.2.1, p_s.2.2.2.2.1, p_s.2.2.2.2.2)] (fun (_ : Unit) => R_head_Signed.slot r.2) (fun (_ : Unit) => [box b_s 87 (prod i64 (prod i64 (prod R_api_Hash (prod (ptr R_lms_Tree) (prod (ptr R_lms_Tree) i64))))) (r.1.1, r.1.2.1, r.1.2.2.1, r.1.2.2.2.1, r.1.2.2.2.2.1, r.1.2.2.2.2.2)]) := by
  unfold rolodexlaw27_Signed at h
  refine ctr_of_run Tryd.func21 rfl 21 rfl rfl fun m0 w0 b0 => ?_
  show Run _ _ _ [(0, val (.pointer (some ⟨b_s, 0, none⟩))), (1, R_rolodexref17_Head.slot p_h)] _
  refine rs ?_
  refine rt ?_
  refine jp (pj_box_to (ht rfl)) rfl rfl rfl ?_
  refine j_alloc (x := ((0, 0, (Vector.replicate 32 (0#8)), (Vector.replicate 32 (0#8))), ([] : List (BitVec 8)))) (R := R_head_Signed) (zero_prod (zero_prod zero_i64 (zero_prod zero_i64 (zero_prod (zero_vec 32 zero_un) (zero_vec 32 zero_un)))) zero_sl) (by kernel_rfl) rfl fun b1 => ?_
  refine j_end ?_
  refine rs ?_
  refine rt ?_
  refine jp (pm (ht rfl)) rfl rfl rfl ?_
  refine jp (pj_field_to (ht rfl) (Path.fst i64 (prod i64 (prod R_api_Hash R_api_Hash))) (by kernel_rfl)) rfl rfl rfl ?_
  refine jp (pl (ht rfl) (by kernel_rfl)) rfl rfl rfl ?_
  refine jp (pj_conv_un (k := .u64) (b := 64) rfl rfl (by kernel_rfl) (ht rfl) isInt_i64) rfl rfl rfl ?_
  refine jp (pj_urem (k := .u64) (b := 64) (ht rfl) (has_un (x := 8#64) rfl) (by decide)) rfl rfl rfl ?_
  refine jp (pj_conv_i64 (by kernel_rfl) (ht rfl) isInt_un) rfl rfl rfl ?_
  refine jp (pl (ht rfl) (by kernel_rfl)) rfl rfl rfl ?_
  obtain ⟨r1, e1, h⟩ := bind_some h
  refine j_call (hc (ht rfl) <| hc (ht rfl) <| hc (ht rfl) <| hasL_nil) (by kernel_rfl) (c_head_Sign hg0 hg1 hg2 e1) (.cons (.next .here) <| .nil) rfl fun _ => ?_
  refine jp (pm (ht rfl)) rfl rfl rfl ?_
  refine jp (pj_extract (ht rfl) rfl) rfl rfl rfl ?_
  refine jp (pj_extract (ht rfl) rfl) rfl rfl rfl ?_
  refine j_alloc (x := ((0, 0, (Vector.replicate 32 (0#8)), (Vector.replicate 32 (0#8))), ([] : List (BitVec 8)))) (R := R_head_Signed) (zero_prod (zero_prod zero_i64 (zero_prod zero_i64 (zero_prod (zero_vec 32 zero_un) (zero_vec 32 zero_un)))) zero_sl) (by kernel_rfl) rfl fun b2 => ?_
  refine j_store_boxx (r' := r1.2.1) (ht rfl) (ht rfl) .here (Path.all R_head_Signed) (by kernel_rfl) rfl ?_
  refine jp (pa (ht rfl)) rfl rfl rfl ?_
  refine j_end ?_
  refine rs ?_
  refine rt ?_
  refine jp (pl (ht rfl) (by kernel_rfl)) rfl rfl rfl ?_
  refine jp (pj_field_ptr (off := 0) (ht rfl) (by kernel_rfl)) rfl rfl rfl ?_
  refine j_store_boxx (r' := (p_h, r1.2.1.2)) (ht rfl) (ht rfl) .here (Path.then (Path.all R_head_Signed) (Path.fst R_head_Head (sl u8))) (by kernel_rfl) rfl ?_
  refine j_end ?_
  refine rs ?_
  refine rt ?_
  refine jp (pj_load_box (ht rfl) .here (Path.all R_head_Signed) (by kernel_rfl)) rfl rfl rfl ?_
  refine j_store_boxx (r' := (p_h, r1.2.1.2)) (ht rfl) (ht rfl) (.next (.next .here)) (Path.all R_head_Signed) (by kernel_rfl) rfl ?_
  refine j_end ?_
  obtain rfl := oi h
  exact run_ret fun a w hst => q_ret1 hst rfl (.cell rfl .here (by kernel_rfl)) () (fun _ _ h => h) (.cons (.next (.next .here)) <| .nil)
set_option maxRecDepth 100000 in
set_option maxHeartbeats 4000000 in
theorem c_gossip_Pool_place_1 {G : GP} {p_s : T_head_Signed} {p_e : Int} {r : Int} (h : gossip_Pool_place_1 p_s p_e = some r) : Ctr Tryd.prog G 65 [R_head_Signed.slot p_s, i64.slot p_e] [] (fun (_ : Unit) => i64.slot r) (fun (_ : Unit) => []) := by
  unfold gossip_Pool_place_1 at h
  refine ctr_of_run Tryd.func65 rfl 10 rfl rfl fun m0 w0 b0 => ?_
  show Run _ _ _ [(0, R_head_Signed.slot p_s), (1, i64.slot p_e)] _
  refine rs ?_
  refine rt ?_
  refine jp (pj_box_to (ht rfl)) rfl rfl rfl ?_
  refine jp (pa has_i64) rfl rfl rfl ?_
  refine j_end ?_
  refine rs ?_
  refine rt ?_
  refine jp (pj_field_to (ht rfl) (Path.fst R_head_Head (sl u8)) (by kernel_rfl)) rfl rfl rfl ?_
  refine jp (pj_field_to (ht rfl) (Path.fst i64 (prod i64 (prod R_api_Hash R_api_Hash))) (by kernel_rfl)) rfl rfl rfl ?_
  refine jp (pl (ht rfl) (by kernel_rfl)) rfl rfl rfl ?_
  refine jp (pm (ht rfl)) rfl rfl rfl ?_
  refine jp (pj_isub (ht rfl) (ht rfl)) rfl rfl rfl ?_
  refine jp (pa (ht rfl)) rfl rfl rfl ?_
  refine j_end ?_
  obtain rfl := oi h
  exact run_ret fun a w hst => q_ret1 hst rfl (.tmp rfl) () (fun _ _ h => h) (.nil)
set_option maxRecDepth 100000 in
set_option maxHeartbeats 4000000 in
theorem c_slices_BinarySearchFunc_head_Signed_head_Signed_int_gossip_Pool_place_1 {G : GP} {p_x : List T_head_Signed} {p_target : Int} {r : Int × Bool} (h : slices_BinarySearchFunc_head_Signed_head_Signed_int_gossip_Pool_place_1 p_x p_target = some r) : Ctr Tryd.prog G 64 [(sl R_head_Signed).slot p_x, i64.slot p_target, fnS 65 []] [] (fun (_ : Unit) => tup [i64.slot r.1, bl.slot r.2]) (fun (_ : Unit) => []) := by
  unfold slices_BinarySearchFunc_head_Signed_head_Signed_int_gossip_Pool_place_1 at h
  refine ctr_of_run Tryd.func64 rfl 49 rfl rfl fun m0 w0 b0 => ?_
  show Run _ _ _ [(0, (sl R_head_Signed).slot p_x), (1, i64.slot p_target), (2, fnS 65 [])] _
  refine rs ?_
  refine rt ?_
  refine jp (pa has_i64) rfl rfl rfl ?_
  refine jp (pa has_bl) rfl rfl rfl ?_
  refine j_end ?_
  refine rs ?_
  refine rt ?_
  refine jp (pm (ht rfl)) rfl rfl rfl ?_
  refine jp (pj_len_sl (sz := 67) (ht rfl) (by kernel_rfl)) rfl rfl rfl ?_
  refine jp (pa (ht rfl)) rfl rfl rfl ?_
  refine j_end ?_
  refine rs ?_
  refine rt ?_
  refine jp (pm (ht rfl)) rfl rfl rfl ?_
  refine jp (pa has_i64) rfl rfl rfl ?_
  refine jp (pa (ht rfl)) rfl rfl rfl ?_
  refine j_end ?_
  refine rs ?_
  obtain ⟨⟨y3, y4⟩, e6, h⟩ := bind_some h
  refine run_loopS (Γi := fun (i : Unit) (s : Int × Int) => [(0, (sl R_head_Signed).slot p_x), (1, i64.slot p_target), (2, fnS 65 []), (8, i64.slot (p_x.length : Int)), (9, i64.slot s.1), (10, i64.slot s.2)]) (Hi := fun (i : Unit) (s : Int × Int) => []) e6 () (fun a w hst => (hst.sub (.cons (.of_lk rfl) <| .cons (.of_lk rfl) <| .cons (.of_lk rfl) <| .cons (.of_lk rfl) <| .cons (.of_lk rfl) <| .cons (.of_lk rfl) <| .nil)).keep (.nil)) ?_ ?_
  · clear h e6
    rintro _ ⟨y1, y2⟩ lr h
    change slices_BinarySearchFunc_head_Signed_head_Signed_int_gossip_Pool_place_1_L1 p_x p_target y1 y2 = some _ at h
    show Run _ _ _ [(0, (sl R_head_Signed).slot p_x), (1, i64.slot p_target), (2, fnS 65 []), (8, i64.slot (p_x.length : Int)), (9, i64.slot y1), (10, i64.slot y2)] []
    unfold slices_BinarySearchFunc_head_Signed_head_Signed_int_gossip_Pool_place_1_L1 at h
    refine rs ?_
    refine rs ?_
    refine rt ?_
    refine jp (pm (ht rfl)) rfl rfl rfl ?_
    refine jp (pm (ht rfl)) rfl rfl rfl ?_
    refine jp (pj_ilss (ht rfl) (ht rfl)) rfl rfl rfl ?_
    refine j_end ?_
    refine run_cond (ht rfl) (fun e1 => ?_) (fun e1 => ?_)
    · replace h := bt e1 h
      refine run_skip ?_
      refine run_block ?_
      refine rs ?_
      refine rt ?_
      refine jp (pm (ht rfl)) rfl rfl rfl ?_
      refine jp (pm (ht rfl)) rfl rfl rfl ?_
      refine jp (pj_iadd (ht rfl) (ht rfl)) rfl rfl rfl ?_
      refine jp (pj_conv_un (k := .u64) (b := 64) rfl rfl (by kernel_rfl) (ht rfl) isInt_i64) rfl rfl rfl ?_
      refine jp (pj_ushr (k := .u64) (b := 64) rfl (ht rfl) (has_un (x := 1#64) rfl) isInt_un (Int.natCast_nonneg _)) rfl rfl rfl ?_
      refine jp (pj_conv_i64 (by kernel_rfl) (ht rfl) isInt_un) rfl rfl rfl ?_
      obtain ⟨x1, e2, h⟩ := bind_some h
      refine jp (PJ.eqv (pa (ht rfl)) (oi e2)) rfl rfl rfl ?_
      refine j_end ?_
      refine rs ?_
      refine rt ?_
      refine jp (pm (ht rfl)) rfl rfl rfl ?_
      refine jp (pm (ht rfl)) rfl rfl rfl ?_
      refine jp (pm (ht rfl)) rfl rfl rfl ?_
      obtain ⟨x2, e3, h⟩ := bind_some h
      refine jp (pj_index_slx (ht rfl) (ht rfl) isInt_i64 e3 (by kernel_rfl)) rfl rfl rfl ?_
      refine jp (pl (ht rfl) (by kernel_rfl)) rfl rfl rfl ?_
      refine jp (pm (ht rfl)) rfl rfl rfl ?_
      obtain ⟨r1, e4, h⟩ := bind_some h
      refine jp (pj_callV (ht rfl) (hc (ht rfl) <| hc (ht rfl) <| hasL_nil) (by kernel_rfl) (c_gossip_Pool_place_1 e4)) rfl rfl rfl ?_
      refine jp (pj_ilss (ht rfl) has_i64) rfl rfl rfl ?_
      refine j_end ?_
      refine run_cond (ht rfl) (fun e5 => ?_) (fun e5 => ?_)
      · replace h := bt e5 h
        refine rt ?_
        refine jp (pm (ht rfl)) rfl rfl rfl ?_
        refine jp (pj_iadd (ht rfl) has_i64) rfl rfl rfl ?_
        refine jp (pa (ht rfl)) rfl rfl rfl ?_
        refine j_end ?_
        refine run_endblock ?_
        obtain rfl := oi h
        exact run_next () (.cons (.of_lk rfl) <| .cons (.of_lk rfl) <| .cons (.of_lk rfl) <| .cons (.of_lk rfl) <| .cons (.of_lk rfl) <| .cons (.of_lk rfl) <| .nil) (.nil)
      · replace h := bf e5 h
        refine rt ?_
        refine jp (pm (ht rfl)) rfl rfl rfl ?_
        refine jp (pa (ht rfl)) rfl rfl rfl ?_
        refine j_end ?_
        refine run_endblock ?_
        obtain rfl := oi h
        exact run_next () (.cons (.of_lk rfl) <| .cons (.of_lk rfl) <| .cons (.of_lk rfl) <| .cons (.of_lk rfl) <| .cons (.of_lk rfl) <| .cons (.of_lk rfl) <| .nil) (.nil)
    · replace h := bf e1 h
      obtain rfl := oi h
      exact run_brk () (.cons (.of_lk rfl) <| .cons (.of_lk rfl) <| .cons (.of_lk rfl) <| .cons (.of_lk rfl) <| .cons (.of_lk rfl) <| .cons (.of_lk rfl) <| .nil) (.nil)
  · rintro _
    show Run _ _ _ [(0, (sl R_head_Signed).slot p_x), (1, i64.slot p_target), (2, fnS 65 []), (8, i64.slot (p_x.length : Int)), (9, i64.slot y3), (10, i64.slot y4)] []
    refine run_to (Γ' := [(0, (sl R_head_Signed).slot p_x), (1, i64.slot p_target), (2, fnS 65 []), (8, i64.slot (p_x.length : Int)), (9, i64.slot y3)]) (H' := []) (.cons (.of_lk rfl) <| .cons (.of_lk rfl) <| .cons (.of_lk rfl) <| .cons (.of_lk rfl) <| .cons (.of_lk rfl) <| .nil) (.nil) ?_
    refine rs ?_
    refine rt ?_
    refine jp (pm (ht rfl)) rfl rfl rfl ?_
    refine jp (pm (ht rfl)) rfl rfl rfl ?_
    refine jp (pm (ht rfl)) rfl rfl rfl ?_
    refine jp (pj_ilss (ht rfl) (ht rfl)) rfl rfl rfl ?_
    refine jp (pm (ht rfl)) rfl rfl rfl ?_
    obtain ⟨y5, e8, h⟩ := bind_some h
    refine j_joinx (ι := Unit) (Γ' := fun _ => [(35, i64.slot y3), (48, bl.slot y5)]) (H' := fun _ => []) 9 ?_ fun J => ?_
    · intro _
      clear e8
      show OpsJ _ _ _ [(35, i64.slot y3), (48, bl.slot y5)] [] _
      refine jp (pa (ht rfl)) rfl rfl rfl ?_
      refine jp (pa (ht rfl)) rfl rfl rfl ?_
      refine j_end ?_
      obtain rfl := oi h
      exact run_ret fun a w hst => q_retN hst rfl (.cons (.tmp rfl) <| .cons (.tmp rfl) <| .nil) rfl () (fun _ _ h => h) (.nil)
    · rcases bool_tf (decide (y3 < (p_x.length : Int))) with e7 | e7
      · replace e8 := bt e7 e8
        refine jy (pm (ht rfl)) rfl rfl rfl rfl (bl_isx e7) rfl rfl ?_
        refine jy (pm (ht rfl)) rfl rfl rfl rfl (bl_isx e7) rfl rfl ?_
        refine jy (pm (ht rfl)) rfl rfl rfl rfl (bl_isx e7) rfl rfl ?_
        obtain ⟨x3, e9, e8⟩ := bind_some e8
        refine jy (pj_index_slx (ht rfl) (ht rfl) isInt_i64 e9 (by kernel_rfl)) rfl rfl rfl rfl (bl_isx e7) rfl rfl ?_
        refine jy (pl (ht rfl) (by kernel_rfl)) rfl rfl rfl rfl (bl_isx e7) rfl rfl ?_
        refine jy (pm (ht rfl)) rfl rfl rfl rfl (bl_isx e7) rfl rfl ?_
        obtain ⟨r2, e10, e8⟩ := bind_some e8
        refine jy (pj_callV (ht rfl) (hc (ht rfl) <| hc (ht rfl) <| hasL_nil) (by kernel_rfl) (c_gossip_Pool_place_1 e10)) rfl rfl rfl rfl (bl_isx e7) rfl rfl ?_
        refine jy (pj_ieql (ht rfl) has_i64) rfl rfl rfl rfl (bl_isx e7) rfl rfl ?_
        refine jp (PJ.eqv (R := bl) (pj_pick (t := any) (ht rfl) (fun _ => (ht rfl)) (fun he => absurd (e7.symm.trans he) (by decide))) (oi e8)) rfl rfl rfl ?_
        exact j_to (.cons (.of_lk rfl) <| .cons (.of_lk rfl) <| .nil) (.nil) (J ())
      · replace e8 := bf e7 e8
        refine j_guard_no2 (j := 4) (want := true) rfl rfl rfl rfl (bl_isx e7) rfl rfl rfl ?_
        refine j_guard_no2 (j := 4) (want := true) rfl rfl rfl rfl (bl_isx e7) rfl rfl rfl ?_
        refine j_guard_no2 (j := 4) (want := true) rfl rfl rfl rfl (bl_isx e7) rfl rfl rfl ?_
        refine j_guard_no2 (j := 4) (want := true) rfl rfl rfl rfl (bl_isx e7) rfl rfl rfl ?_
        refine j_guard_no2 (j := 4) (want := true) rfl rfl rfl rfl (bl_isx e7) rfl rfl rfl ?_
        refine j_guard_no2 (j := 4) (want := true) rfl rfl rfl rfl (bl_isx e7) rfl rfl rfl ?_
        refine j_guard_no2 (j := 4) (want := true) rfl rfl rfl rfl (bl_isx e7) rfl rfl rfl ?_
        refine j_guard_no2 (j := 4) (want := true) rfl rfl rfl rfl (bl_isx e7) rfl rfl rfl ?_
        refine jp (PJ.eqv (R := bl) (pj_pick (t := any) (ht rfl) (fun he => absurd (e7.symm.trans he) (by decide)) (fun _ => has_bl)) (oi e8)) rfl rfl rfl ?_
        exact j_to (.cons (.of_lk rfl) <| .cons (.of_lk rfl) <| .nil) (.nil) (J ())
set_option maxRecDepth 100000 in
set_option maxHeartbeats 4000000 in
theorem c_gossip_Pool_place {G : GP} {p_p : Option T_gossip_Pool} {p_e : Int} {r : Int × Bool} (h : gossip_Pool_place p_p p_e = some r) : Ctr Tryd.prog G 44 [(ptr R_gossip_Pool).slot p_p, i64.slot p_e] [] (fun (_ : Unit) => tup [i64.slot r.1, bl.slot r.2]) (fun (_ : Unit) => []) := by
  unfold gossip_Pool_place at h
  refine ctr_of_run Tryd.func44 rfl 14 rfl rfl fun m0 w0 b0 => ?_
  show Run _ _ _ [(0, (ptr R_gossip_Pool).slot p_p), (1, i64.slot p_e)] _
  refine rs ?_
  refine rt ?_
  refine jp (pa has_i64) rfl rfl rfl ?_
  refine jp (pa has_bl) rfl rfl rfl ?_
  refine j_end ?_
  refine rs ?_
  refine rt ?_
  refine jp (pm (ht rfl)) rfl rfl rfl ?_
  obtain ⟨x1, e1, h⟩ := bind_some h
  refine jp (pj_nilCheck_some (ht rfl) e1) rfl rfl rfl ?_
  refine jp (pj_field_to (ht rfl) (Path.then (Path.snd (sl u8) (prod (sl R_head_Signed) (prod (sl R_gossip_Fork) (sl R_gossip_link)))) (Path.fst (sl R_head_Signed) (prod (sl R_gossip_Fork) (sl R_gossip_link)))) (by kernel_rfl)) rfl rfl rfl ?_
  refine jp (pl (ht rfl) (by kernel_rfl)) rfl rfl rfl ?_
  refine jp (pm (ht rfl)) rfl rfl rfl ?_
  obtain ⟨r1, e2, h⟩ := bind_some h
  refine jp (pj_call (hc (ht rfl) <| hc (ht rfl) <| hc has_fn0 <| hasL_nil) (by kernel_rfl) (c_slices_BinarySearchFunc_head_Signed_head_Signed_int_gossip_Pool_place_1 e2)) rfl rfl rfl ?_
  refine jp (pj_extract (ht rfl) rfl) rfl rfl rfl ?_
  refine jp (pj_extract (ht rfl) rfl) rfl rfl rfl ?_
  refine jp (pa (ht rfl)) rfl rfl rfl ?_
  refine jp (pa (ht rfl)) rfl rfl rfl ?_
  refine j_end ?_
  obtain rfl := oi h
  exact run_ret fun a w hst => q_retN hst rfl (.cons (.tmp rfl) <| .cons (.tmp rfl) <| .nil) rfl () (fun _ _ h => h) (.nil)
set_option maxRecDepth 100000 in
set_option maxHeartbeats 4000000 in
theorem c_gossip_Pool_forked_1 {G : GP} {p_f : T_gossip_Fork} {q_0 : Int} {r : Bool} (h : gossip_Pool_forked_1 p_f q_0 = some r) : Ctr Tryd.prog G 67 [R_gossip_Fork.slot p_f, ptrTo i64 q_0] [] (fun (_ : Unit) => bl.slot r) (fun (_ : Unit) => []) := by
  unfold gossip_Pool_forked_1 at h
  refine ctr_of_run Tryd.func67 rfl 10 rfl rfl fun m0 w0 b0 => ?_
  show Run _ _ _ [(0, R_gossip_Fork.slot p_f), (1, ptrTo i64 q_0)] _
  refine rs ?_
  refine rt ?_
  refine jp (pj_box_to (ht rfl)) rfl rfl rfl ?_
  refine jp (pa has_bl) rfl rfl rfl ?_
  refine j_end ?_
  refine rs ?_
  refine rt ?_
  refine jp (pj_field_to (ht rfl) (Path.fst R_head_Signed R_head_Signed) (by kernel_rfl)) rfl rfl rfl ?_
  refine jp (pj_field_to (ht rfl) (Path.fst R_head_Head (sl u8)) (by kernel_rfl)) rfl rfl rfl ?_
  refine jp (pj_field_to (ht rfl) (Path.fst i64 (prod i64 (prod R_api_Hash R_api_Hash))) (by kernel_rfl)) rfl rfl rfl ?_
  refine jp (pl (ht rfl) (by kernel_rfl)) rfl rfl rfl ?_
  refine jp (pl (ht rfl) (by kernel_rfl)) rfl rfl rfl ?_
  refine jp (pj_ieql (ht rfl) (ht rfl)) rfl rfl rfl ?_
  refine jp (pa (ht rfl)) rfl rfl rfl ?_
  refine j_end ?_
  obtain rfl := oi h
  exact run_ret fun a w hst => q_ret1 hst rfl (.tmp rfl) () (fun _ _ h => h) (.nil)
set_option maxRecDepth 100000 in
set_option maxHeartbeats 4000000 in
theorem c_slices_IndexFunc_gossip_Fork_gossip_Fork_gossip_Pool_forked_1 {G : GP} {p_s : List T_gossip_Fork} {k1_0 : Int} {r : Int} (h : slices_IndexFunc_gossip_Fork_gossip_Fork_gossip_Pool_forked_1 p_s k1_0 = some r) : Ctr Tryd.prog G 94 [(sl R_gossip_Fork).slot p_s, fnS 67 [ptrTo i64 k1_0]] [] (fun (_ : Unit) => i64.slot r) (fun (_ : Unit) => []) := by
  unfold slices_IndexFunc_gossip_Fork_gossip_Fork_gossip_Pool_forked_1 at h
  refine ctr_of_run Tryd.func94 rfl 19 rfl rfl fun m0 w0 b0 => ?_
  refine run_ret0 fun Qf hq1 hq2 => ?_
  show Run _ _ _ [(0, (sl R_gossip_Fork).slot p_s), (1, fnS 67 [ptrTo i64 k1_0])] _
  refine rs ?_
  refine rt ?_
  refine jp (pa has_i64) rfl rfl rfl ?_
  refine j_end ?_
  refine rs ?_
  refine rs ?_
  refine rt ?_
  refine jp (pm (ht rfl)) rfl rfl rfl ?_
  refine jp (pj_len_sl (sz := 134) (ht rfl) (by kernel_rfl)) rfl rfl rfl ?_
  refine jp (pm has_i64) rfl rfl rfl ?_
  refine j_end ?_
  obtain ⟨o, e5, h⟩ := bind_some h
  refine run_loop (Γi := fun (i : Unit) (s : Int) => [(0, (sl R_gossip_Fork).slot p_s), (1, fnS 67 [ptrTo i64 k1_0]), (7, i64.slot (p_s.length : Int)), (8, i64.slot s)]) (Hi := fun (i : Unit) (s : Int) => []) (R := fun x a w => x = r → Qf a w) e5 () (fun a w hst => (hst.sub (.cons (.of_lk rfl) <| .cons (.of_lk rfl) <| .cons (.of_lk rfl) <| .cons (.of_lk rfl) <| .nil)).keep (.nil)) ?_ ?_ ?_
  · clear h e5
    rintro _ y1 lr h
    change slices_IndexFunc_gossip_Fork_gossip_Fork_gossip_Pool_forked_1_L1 p_s k1_0 y1 = some _ at h
    show Run _ _ _ [(0, (sl R_gossip_Fork).slot p_s), (1, fnS 67 [ptrTo i64 k1_0]), (7, i64.slot (p_s.length : Int)), (8, i64.slot y1)] []
    unfold slices_IndexFunc_gossip_Fork_gossip_Fork_gossip_Pool_forked_1_L1 at h
    refine rs ?_
    refine rt ?_
    refine jp (pj_ilss (ht rfl) (ht rfl)) rfl rfl rfl ?_
    refine j_end ?_
    refine rs ?_
    refine run_cond (ht rfl) (fun e1 => ?_) (fun e1 => ?_)
    · replace h := bt e1 h
      refine run_skip ?_
      refine rs ?_
      refine run_block ?_
      refine rs ?_
      refine rt ?_
      refine jp (pm (ht rfl)) rfl rfl rfl ?_
      refine jp (pa (ht rfl)) rfl rfl rfl ?_
      refine j_end ?_
      refine rs ?_
      refine rt ?_
      refine jp (pm (ht rfl)) rfl rfl rfl ?_
      refine jp (pm (ht rfl)) rfl rfl rfl ?_
      refine jp (pm (ht rfl)) rfl rfl rfl ?_
      obtain ⟨x1, e2, h⟩ := bind_some h
      refine jp (pj_index_slx (ht rfl) (ht rfl) isInt_i64 e2 (by kernel_rfl)) rfl rfl rfl ?_
      refine jp (pl (ht rfl) (by kernel_rfl)) rfl rfl rfl ?_
      obtain ⟨r1, e3, h⟩ := bind_some h
      refine jp (pj_callV (ht rfl) (hc (ht rfl) <| hasL_nil) (by kernel_rfl) (c_gossip_Pool_forked_1 e3)) rfl rfl rfl ?_
      refine j_end ?_
      refine run_cond (ht rfl) (fun e4 => ?_) (fun e4 => ?_)
      · replace h := bt e4 h
        refine rs ?_
        refine rt ?_
        refine jp (pm (ht rfl)) rfl rfl rfl ?_
        refine jp (pa (ht rfl)) rfl rfl rfl ?_
        refine j_end ?_
        obtain rfl := oi h
        refine run_ret fun a w hst => ⟨rfl, fun hr => ?_⟩
        subst hr
        exact hq2 a w (q_ret1 hst rfl (.tmp rfl) () (fun _ _ h => h) (.nil))
      · replace h := bf e4 h
        refine run_skip ?_
        refine run_endblock ?_
        refine rt ?_
        refine jp (pj_iadd (ht rfl) has_i64) rfl rfl rfl ?_
        refine jp (pm (ht rfl)) rfl rfl rfl ?_
        refine j_end ?_
        obtain rfl := oi h
        exact run_next () (.cons (.of_lk rfl) <| .cons (.of_lk rfl) <| .cons (.of_lk rfl) <| .cons (.of_lk rfl) <| .nil) (.nil)
    · replace h := bf e1 h
      obtain rfl := oi h
      exact run_brk () (.cons (.of_lk rfl) <| .cons (.of_lk rfl) <| .cons (.of_lk rfl) <| .cons (.of_lk rfl) <| .nil) (.nil)
  · rintro _ y2 ho
    subst ho
    show Run _ _ _ [(0, (sl R_gossip_Fork).slot p_s), (1, fnS 67 [ptrTo i64 k1_0]), (7, i64.slot (p_s.length : Int)), (8, i64.slot y2)] []
    refine run_to (Γ' := []) (H' := []) (.nil) (.nil) ?_
    refine rs ?_
    refine rt ?_
    refine jp (pa has_i64) rfl rfl rfl ?_
    refine j_end ?_
    obtain rfl := oi h
    exact run_ret fun a w hst => q_ret1 hst rfl (.tmp rfl) () (fun _ _ h => h) (.nil)
  · intro x a w ho hR
    subst ho
    exact hq1 a w (hR (oi h))
set_option maxRecDepth 100000 in
set_option maxHeartbeats 4000000 in
theorem c_slices_ContainsFunc_gossip_Fork_gossip_Fork_gossip_Pool_forked_1 {G : GP} {p_s : List T_gossip_Fork} {k1_0 : Int} {r : Bool} (h : slices_ContainsFunc_gossip_Fork_gossip_Fork_gossip_Pool_forked_1 p_s k1_0 = some r) : Ctr Tryd.prog G 66 [(sl R_gossip_Fork).slot p_s, fnS 67 [ptrTo i64 k1_0]] [] (fun (_ : Unit) => bl.slot r) (fun (_ : Unit) => []) := by
  unfold slices_ContainsFunc_gossip_Fork_gossip_Fork_gossip_Pool_forked_1 at h
  refine ctr_of_run Tryd.func66 rfl 9 rfl rfl fun m0 w0 b0 => ?_
  show Run _ _ _ [(0, (sl R_gossip_Fork).slot p_s), (1, fnS 67 [ptrTo i64 k1_0])] _
  refine rs ?_
  refine rt ?_
  refine jp (pa has_bl) rfl rfl rfl ?_
  refine j_end ?_
  refine rs ?_
  refine rt ?_
  refine jp (pm (ht rfl)) rfl rfl rfl ?_
  refine jp (pm (ht rfl)) rfl rfl rfl ?_
  obtain ⟨r1, e1, h⟩ := bind_some h
  refine jp (pj_call (hc (ht rfl) <| hc (ht rfl) <| hasL_nil) (by kernel_rfl) (c_slices_IndexFunc_gossip_Fork_gossip_Fork_gossip_Pool_forked_1 e1)) rfl rfl rfl ?_
  refine jp (pj_igeq (ht rfl) has_i64) rfl rfl rfl ?_
  refine jp (pa (ht rfl)) rfl rfl rfl ?_
  refine j_end ?_
  obtain rfl := oi h
  exact run_ret fun a w hst => q_ret1 hst rfl (.tmp rfl) () (fun _ _ h => h) (.nil)
set_option maxRecDepth 100000 in
set_option maxHeartbeats 4000000 in
theorem c_gossip_Pool_forked {G : GP} {p_p : Option T_gossip_Pool} {p_e : Int} {r : Bool} (h : gossip_Pool_forked p_p p_e = some r) : Ctr Tryd.prog G 45 [(ptr R_gossip_Pool).slot p_p, i64.slot p_e] [] (fun (_ : Unit) => bl.slot r) (fun (_ : Unit) => []) := by
  unfold gossip_Pool_forked at h
  refine ctr_of_run Tryd.func45 rfl 11 rfl rfl fun m0 w0 b0 => ?_
  show Run _ _ _ [(0, (ptr R_gossip_Pool).slot p_p), (1, i64.slot p_e)] _
  refine rs ?_
  refine rt ?_
  refine jp (pj_box_to (ht rfl)) rfl rfl rfl ?_
  refine jp (pa has_bl) rfl rfl rfl ?_
  refine j_end ?_
  refine rs ?_
  refine rt ?_
  refine jp (pm (ht rfl)) rfl rfl rfl ?_
  obtain ⟨x1, e1, h⟩ := bind_some h
  refine jp (pj_nilCheck_some (ht rfl) e1) rfl rfl rfl ?_
  refine jp (pj_field_to (ht rfl) (Path.then (Path.snd (sl u8) (prod (sl R_head_Signed) (prod (sl R_gossip_Fork) (sl R_gossip_link)))) (Path.then (Path.snd (sl R_head_Signed) (prod (sl R_gossip_Fork) (sl R_gossip_link))) (Path.fst (sl R_gossip_Fork) (sl R_gossip_link)))) (by kernel_rfl)) rfl rfl rfl ?_
  refine jp (pl (ht rfl) (by kernel_rfl)) rfl rfl rfl ?_
  refine jp (pj_makeFunc (hc (ht rfl) <| hasL_nil)) rfl rfl rfl ?_
  obtain ⟨r1, e2, h⟩ := bind_some h
  refine jp (pj_call (hc (ht rfl) <| hc (ht rfl) <| hasL_nil) (by kernel_rfl) (c_slices_ContainsFunc_gossip_Fork_gossip_Fork_gossip_Pool_forked_1 e2)) rfl rfl rfl ?_
  refine jp (pa (ht rfl)) rfl rfl rfl ?_
  refine j_end ?_
  obtain rfl := oi h
  exact run_ret fun a w hst => q_ret1 hst rfl (.tmp rfl) () (fun _ _ h => h) (.nil)
set_option maxRecDepth 100000 in
set_option maxHeartbeats 4000000 in
theorem c_gossip_copied {G : GP} {p_s : T_head_Signed} {r : T_head_Signed} (h : gossip_copied p_s = some r) : Ctr Tryd.prog G 46 [R_head_Signed.slot p_s] [] (fun (_ : Unit) => R_head_Signed.slot r) (fun (_ : Unit) => []) := by
  unfold gossip_copied at h
  refine ctr_of_run Tryd.func46 rfl 8 rfl rfl fun m0 w0 b0 => ?_
  show Run _ _ _ [(0, R_head_Signed.slot p_s)] _
  refine rs ?_
  refine rt ?_
  refine j_box (ht rfl) rfl fun b1 => ?_
  refine j_alloc (x := ((0, 0, (Vector.replicate 32 (0#8)), (Vector.replicate 32 (0#8))), ([] : List (BitVec 8)))) (R := R_head_Signed) (zero_prod (zero_prod zero_i64 (zero_prod zero_i64 (zero_prod (zero_vec 32 zero_un) (zero_vec 32 zero_un)))) zero_sl) (by kernel_rfl) rfl fun b2 => ?_
  refine j_end ?_
  refine rs ?_
  refine rt ?_
  refine jp (pj_field_ptr (off := 66) (ht rfl) (by kernel_rfl)) rfl rfl rfl ?_
  refine jp (pj_load_box (ht rfl) (.next .here) (Path.then (Path.all R_head_Signed) (Path.snd R_head_Head (sl u8))) (by kernel_rfl)) rfl rfl rfl ?_
  obtain ⟨r1, e1, h⟩ := bind_some h
  refine jp (pj_call (hc (ht rfl) <| hasL_nil) (by kernel_rfl) (Ctr.froze (c_slices_Clone_byte_byte e1))) rfl rfl rfl ?_
  refine jp (pj_field_ptr (off := 66) (ht rfl) (by kernel_rfl)) rfl rfl rfl ?_
  refine j_store_boxx (r' := (p_s.1, r1)) (ht rfl) (ht rfl) (.next .here) (Path.then (Path.all R_head_Signed) (Path.snd R_head_Head (sl u8))) (by kernel_rfl) rfl ?_
  refine j_end ?_
  refine rs ?_
  refine rt ?_
  refine jp (pj_load_box (ht rfl) .here (Path.all R_head_Signed) (by kernel_rfl)) rfl rfl rfl ?_
  refine j_store_boxx (r' := (p_s.1, r1)) (ht rfl) (ht rfl) (.next .here) (Path.all R_head_Signed) (by kernel_rfl) rfl ?_
  refine j_end ?_
  obtain rfl := oi h
  exact run_ret fun a w hst => q_ret1 hst rfl (.cell rfl .here (by kernel_rfl)) () (fun _ _ h => h) (.nil)
set_option maxRecDepth 100000 in
set_option maxHeartbeats 4000000 in
theorem c_slices_Insert_head_Signed_head_Signed {G : GP} {p_s : List T_head_Signed} {p_i : Int} {p_v : List T_head_Signed} {v_s v_v : Value} {r : List T_head_Signed} (h : slices_Insert_head_Signed_head_Signed p_s p_i p_v = some r) :
    Ctr Tryd.prog G 47 [ov v_s, i64.slot p_i, ov v_v] [own 44 R_head_Signed v_s p_s, own 44 R_head_Signed v_v p_v] (fun (u0 : Value) => ov u0) (fun (u0 : Value) => [own 44 R_head_Signed u0 r]) := by
  obtain ⟨i, y, rfl, hi, rfl, hn, hr⟩ := ins_some h
  clear h
  have w1 : w64 ((p_s.length : Int) + 1) = ((p_s.length + 1 : Nat) : Int) := w64_eq (by omega)
  have w2 : w64 ((i : Int) + 1) = ((i + 1 : Nat) : Int) := w64_eq (by omega)
  have w3 : w64 (((p_s.length + 1 : Nat) : Int) - (i : Int)) = ((p_s.length + 1 - i : Nat) : Int) := by rw [w64_eq (by omega)]; omega
  refine ctr_of_run Tryd.func47 rfl 95 rfl rfl fun m0 w0 b0 => ?_
  show Run _ _ _ [(0, ov v_s), (1, i64.slot (i : Int)), (2, ov v_v)] _
  refine rs ?_
  refine rt ?_
  refine j_assign_nil (T := 44) R_head_Signed rfl fun v1 => ?_
  refine j_end ?_
  refine rs ?_
  refine rt ?_
  refine jp (pm (ht rfl)) rfl rfl rfl ?_
  refine jp (pm (ht rfl)) rfl rfl rfl ?_
  refine jp (pj_slice_own_any (sz := 67) (ht rfl) (.next .here) (ht rfl) isInt_i64 (by omega) (by omega) (by kernel_rfl)) rfl rfl rfl ?_
  refine j_end ?_
  refine rs ?_
  refine rt ?_
  refine jp (pm (ht rfl)) rfl rfl rfl ?_
  refine jp (PJ.eqv (y := (1 : Int)) (pj_len_own (sz := 67) (ht rfl) (.next (.next .here)) (by kernel_rfl)) rfl) rfl rfl rfl ?_
  refine jp (pa (ht rfl)) rfl rfl rfl ?_
  refine j_end ?_
  refine rs ?_
  refine rs ?_
  refine rt ?_
  refine jp (pm (ht rfl)) rfl rfl rfl ?_
  refine jp (pj_ieql (ht rfl) has_i64) rfl rfl rfl ?_
  refine j_end ?_
  refine run_cond_f (ht rfl) rfl ?_
  refine run_skip ?_
  refine rs ?_
  refine rt ?_
  refine jp (pm (ht rfl)) rfl rfl rfl ?_
  refine jp (pj_len_own (sz := 67) (ht rfl) (.next .here) (by kernel_rfl)) rfl rfl rfl ?_
  refine jp (pa (ht rfl)) rfl rfl rfl ?_
  refine j_end ?_
  refine rs ?_
  refine rs ?_
  refine rt ?_
  refine jp (pm (ht rfl)) rfl rfl rfl ?_
  refine jp (pm (ht rfl)) rfl rfl rfl ?_
  refine jp (pj_ieql (ht rfl) (ht rfl)) rfl rfl rfl ?_
  refine j_end ?_
  refine run_cond (ht rfl) (fun e5 => ?_) (fun e5 => ?_)
  · have e6 : i = p_s.length := by have := of_decide_eq_true e5; omega
    subst e6
    have e7 : r = p_s ++ [y] := by rw [hr]; simp
    subst e7
    refine rs ?_
    refine rt ?_
    refine jp (pm (ht rfl)) rfl rfl rfl ?_
    refine jp (pm (ht rfl)) rfl rfl rfl ?_
    refine j_append (T := 44) (E := 44) (ht rfl) (.next .here) (src_own (ht rfl) (.next (.next .here))) (by kernel_rfl) (by kernel_rfl) (by simp; omega) rfl fun v2 => ?_
    refine jp (pa (ht rfl)) rfl rfl rfl ?_
    refine j_end ?_
    exact run_ret fun a w hst => q_ret1 hst rfl (.tmp rfl) v2 (fun _ _ h => h) (.cons .here <| .nil)
  · have e6 : i < p_s.length := by have := of_decide_eq_false e5; omega
    have hne : p_s ≠ [] := by intro h; rw [h] at e6; simp at e6
    refine run_skip ?_
    refine rs ?_
    refine rs ?_
    refine rt ?_
    refine j_openOwn (.next .here) hne fun b n1 hv1 => ?_
    subst hv1
    refine j_openOwn (.next (.next .here)) (by simp) fun b2 n2 hv2 => ?_
    subst hv2
    refine jp (pm (ht rfl)) rfl rfl rfl ?_
    refine jp (pm (ht rfl)) rfl rfl rfl ?_
    refine jp (PJ.eqv (pj_iadd (ht rfl) (ht rfl)) w1) rfl rfl rfl ?_
    refine jp (pm (ht rfl)) rfl rfl rfl ?_
    refine jp (pj_cap_val (sz := 67) (has_ov_val (ht rfl)) (by kernel_rfl)) rfl rfl rfl ?_
    refine jp (pj_igtr (ht rfl) (ht rfl)) rfl rfl rfl ?_
    refine j_end ?_
    refine run_cond (ht rfl) (fun e8 => ?_) (fun e8 => ?_)
    · have e9 : p_s.length + n1 < p_s.length + 1 := by have := of_decide_eq_true e8; omega
      refine rs ?_
      refine rt ?_
      refine jp (pm (ht rfl)) rfl rfl rfl ?_
      refine jp (pm (ht rfl)) rfl rfl rfl ?_
      refine jp (pj_slice_val0 (sz := 67) (has_ov_val (ht rfl)) .no (.yes (ht rfl) isInt_i64) 0 i rfl rfl (by omega) (by omega) (by omega) (by kernel_rfl)) rfl rfl rfl ?_
      refine jp (pm (ht rfl)) rfl rfl rfl ?_
      refine jp (pm (ht rfl)) rfl rfl rfl ?_
      refine jp (PJ.eqv (pj_iadd (ht rfl) (ht rfl)) w1) rfl rfl rfl ?_
      refine jp (pm (ht rfl)) rfl rfl rfl ?_
      refine jp (PJ.eqv (pj_isub (ht rfl) (ht rfl)) w3) rfl rfl rfl ?_
      refine j_appendZ (kn := .i64) (T := 44) (b := b) (i := i) (cap := p_s.length + n1) (k := p_s.length + 1 - i) (R := R_head_Signed) (ht rfl) (.next .here) (ht rfl) (by simp; omega) (by omega) (by omega) (by omega) (by kernel_rfl) (by kernel_rfl) (by kernel_rfl) rfl fun b3 e => ?_
      refine jp (pa (ht rfl)) rfl rfl rfl ?_
      refine j_end ?_
      refine rs ?_
      refine rt ?_
      refine jp (pm (ht rfl)) rfl rfl rfl ?_
      refine jp (pm (ht rfl)) rfl rfl rfl ?_
      refine jp (pj_slice_val0 (sz := 67) (ht rfl) (.yes (ht rfl) isInt_i64) .no i (i + (p_s.length + 1 - i)) rfl rfl (by omega) (by omega) (by omega) (by kernel_rfl)) rfl rfl rfl ?_
      refine jp (pm (ht rfl)) rfl rfl rfl ?_
      refine j_copyK (T := 44) (lo := i) (R := R_head_Signed) (N := 1) (xs := [y]) (ht rfl) .here (srcK_arr (b := b2) (T := 44) (zs := [y].map some ++ List.replicate n2 none) (lo := 0) (cap := 1 + n2) (has_ov_val (ht rfl)) (.next (.next .here)) rfl) (by simp; omega) (by simp; omega) (by kernel_rfl) rfl ?_
      refine j_end ?_
      refine rs ?_
      refine run_draw (n := 8) (by kernel_rfl) (by kernel_rfl) (by kernel_rfl) (by kernel_rfl) (.read (.plain rfl (pm (ht rfl))) <| .read (.plain rfl (pm (ht rfl))) <| .read (.plain rfl (pm (ht rfl))) <| .read (.plain rfl (PJ.eqv (pj_iadd (ht rfl) (ht rfl)) w2)) <| .read (.plain rfl (pj_slice_val0 (sz := 67) (ht rfl) (.yes (ht rfl) isInt_i64) .no (i + 1) (i + (p_s.length + 1 - i)) rfl rfl (by omega) (by omega) (by omega) (by kernel_rfl))) <| .read (.plain rfl (pm (ht rfl))) <| .read (.plain rfl (pm (ht rfl))) <| .read (.plain rfl (pj_slice_val0 (sz := 67) (has_ov_val (ht rfl)) (.yes (ht rfl) isInt_i64) .no i p_s.length rfl rfl (by omega) (by omega) (by omega) (by kernel_rfl))) <| .nil) ?_
      refine j_copyK (T := 44) (lo := i + 1) (R := R_head_Signed) (N := p_s.length - i) (xs := p_s.drop i) (ht rfl) .here (srcK_arr (b := b) (lo := i) (cap := p_s.length + n1 - i) (ht rfl) (.next .here) (by rw [List.drop_append_of_le_length (by simp; omega)]; simp)) (by simp; omega) (by simp; omega) (by kernel_rfl) rfl ?_
      refine j_end ?_
      refine rs ?_
      refine rt ?_
      refine jp (pm (ht rfl)) rfl rfl rfl ?_
      refine jp (pa (ht rfl)) rfl rfl rfl ?_
      refine j_end ?_
      refine run_closeOwn2 r e (i + (p_s.length + 1 - i)) (i + (p_s.length + 1 - i) + e) .here (by rw [hr]; exact ins_grow p_s y i e n1 hi) (by rw [hr]; simp; omega) (by rw [hr]; simp; omega) ?_
      exact run_ret fun a w hst => q_ret1 hst rfl (.tmp rfl) (.slice (some ⟨b3, 0, none⟩) (i + (p_s.length + 1 - i)) (i + (p_s.length + 1 - i) + e)) (fun _ _ h => ov_p.2 ⟨h, rfl⟩) (.cons .here <| .nil)
    · have e9 : ¬ p_s.length + n1 < p_s.length + 1 := by have := of_decide_eq_false e8; omega
      refine run_skip ?_
      refine rs ?_
      refine rt ?_
      refine jp (pm (ht rfl)) rfl rfl rfl ?_
      refine jp (pm (ht rfl)) rfl rfl rfl ?_
      refine jp (pm (ht rfl)) rfl rfl rfl ?_
      refine jp (PJ.eqv (pj_iadd (ht rfl) (ht rfl)) w1) rfl rfl rfl ?_
      refine jp (pj_slice_val0 (sz := 67) (has_ov_val (ht rfl)) .no (.yes (ht rfl) isInt_i64) 0 (p_s.length + 1) rfl rfl (by omega) (by omega) (by omega) (by kernel_rfl)) rfl rfl rfl ?_
      refine jp (pa (ht rfl)) rfl rfl rfl ?_
      refine j_end ?_
      refine rs ?_
      refine rs ?_
      refine rt ?_
      refine jp (pm (ht rfl)) rfl rfl rfl ?_
      refine jp (pm (ht rfl)) rfl rfl rfl ?_
      refine jp (pm (ht rfl)) rfl rfl rfl ?_
      refine jp (pm (ht rfl)) rfl rfl rfl ?_
      refine jp (PJ.eqv (pj_iadd (ht rfl) (ht rfl)) w2) rfl rfl rfl ?_
      refine jp (pj_slice_val0 (sz := 67) (n := p_s.length + 1) (cap := p_s.length + n1) (ht rfl) (.yes (ht rfl) isInt_i64) .no (i + 1) (p_s.length + 1) rfl rfl (by omega) (by omega) (by omega) (by kernel_rfl)) rfl rfl rfl ?_
      refine jp (pj_overlaps (fn := Tryd.f68) (tS := 56) (tR := 4) (sz := 67) (T1 := 44) (T2 := 44) (R1 := R_head_Signed) (R2 := R_head_Signed) (z2 := p_s.map some ++ List.replicate n1 none) Tryd.func68 (by kernel_rfl) (by kernel_rfl) (by kernel_rfl) (by kernel_rfl) (by kernel_rfl) (has_ov_val (ht rfl)) (ht rfl) .here .here (Nat.mul_pos (by simp; omega) (by decide))) rfl rfl rfl ?_
      refine jp (pj_not (ht rfl)) rfl rfl rfl ?_
      refine j_end ?_
      refine run_cond_t (ht rfl) rfl ?_
      refine rs ?_
      refine run_draw (n := 8) (by kernel_rfl) (by kernel_rfl) (by kernel_rfl) (by kernel_rfl) (.read (.plain rfl (pm (ht rfl))) <| .read (.plain rfl (pm (ht rfl))) <| .read (.plain rfl (pm (ht rfl))) <| .read (.plain rfl (PJ.eqv (pj_iadd (ht rfl) (ht rfl)) w2)) <| .read (.plain rfl (pj_slice_val0 (sz := 67) (n := p_s.length + 1) (cap := p_s.length + n1) (ht rfl) (.yes (ht rfl) isInt_i64) .no (i + 1) (p_s.length + 1) rfl rfl (by omega) (by omega) (by omega) (by kernel_rfl))) <| .read (.plain rfl (pm (ht rfl))) <| .read (.plain rfl (pm (ht rfl))) <| .read (.plain rfl (pj_slice_val0 (sz := 67) (n := p_s.length + 1) (cap := p_s.length + n1) (ht rfl) (.yes (ht rfl) isInt_i64) .no i (p_s.length + 1) rfl rfl (by omega) (by omega) (by omega) (by kernel_rfl))) <| .nil) ?_
      refine j_copyK (T := 44) (lo := i + 1) (R := R_head_Signed) (N := p_s.length + 1 - i) (xs := p_s.drop i) (ht rfl) (.next .here) (srcK_arr (b := b) (lo := i) (cap := p_s.length + n1 - i) (ht rfl) (.next .here) (by rw [List.drop_append_of_le_length (by simp; omega)]; simp)) (by simp; omega) (by simp; omega) (by kernel_rfl) rfl ?_
      refine j_end ?_
      refine rs ?_
      refine rt ?_
      refine jp (pm (ht rfl)) rfl rfl rfl ?_
      refine jp (pm (ht rfl)) rfl rfl rfl ?_
      refine jp (pj_slice_val0 (sz := 67) (n := p_s.length + 1) (cap := p_s.length + n1) (ht rfl) (.yes (ht rfl) isInt_i64) .no i (p_s.length + 1) rfl rfl (by omega) (by omega) (by omega) (by kernel_rfl)) rfl rfl rfl ?_
      refine jp (pm (ht rfl)) rfl rfl rfl ?_
      refine j_copyK (T := 44) (lo := i) (R := R_head_Signed) (N := 1) (xs := [y]) (ht rfl) .here (srcK_arr (b := b2) (T := 44) (zs := [y].map some ++ List.replicate n2 none) (lo := 0) (cap := 1 + n2) (has_ov_val (ht rfl)) (.next .here) rfl) (by simp; omega) (by simp; omega) (by kernel_rfl) rfl ?_
      refine j_end ?_
      refine rs ?_
      refine rt ?_
      refine jp (pm (ht rfl)) rfl rfl rfl ?_
      refine jp (pa (ht rfl)) rfl rfl rfl ?_
      refine j_end ?_
      refine run_closeOwn2 r (n1 - 1) (p_s.length + 1) (p_s.length + n1) .here (by rw [hr]; exact ins_shift p_s y i n1 e6 (by omega)) (by rw [hr]; simp; omega) (by rw [hr]; simp; omega) ?_
      exact run_ret fun a w hst => q_ret1 hst rfl (.tmp rfl) (.slice (some ⟨b, 0, none⟩) (p_s.length + 1) (p_s.length + n1)) (fun _ _ h => ov_p.2 ⟨h, rfl⟩) (.cons .here <| .nil)
end Go.Sl.W
