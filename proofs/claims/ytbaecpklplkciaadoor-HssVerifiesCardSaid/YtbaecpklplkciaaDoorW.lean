import Derived.Test.YtbaecpklplkciaaDoorWB
import Derived.Test.YtbaecpklplkciaaDoorOp14
import Derived.Test.YtbaecpklplkciaaDoorProg
set_option linter.unusedSimpArgs false
set_option linter.unusedVariables false
set_option linter.unusedSectionVars false
namespace Go.Sl.W
open Go.Proofs Go.Sl Go.Sl.M
set_option maxRecDepth 100000 in
set_option maxHeartbeats 4000000 in
theorem c_rolodexref04_Steps {G : GP} {p_id : T_api_ID} {p_q : BitVec 32} {p_i : Int} {p_h : T_api_Hash} {p_from : Int} {p_to : Int} {r : T_api_Hash} (h : rolodexref04_Steps p_id p_q p_i p_h p_from p_to = some r) : Ctr Tryd.prog G 89 [R_api_ID.slot p_id, u32.slot p_q, i64.slot p_i, R_api_Hash.slot p_h, i64.slot p_from, i64.slot p_to] [] (fun (_ : Unit) => R_api_Hash.slot r) (fun (_ : Unit) => []) := by
  unfold rolodexref04_Steps at h
  refine ctr_of_run Tryd.func89 rfl 29 rfl rfl fun m0 w0 b0 => ?_
  show Run _ _ _ [(0, R_api_ID.slot p_id), (1, u32.slot p_q), (2, i64.slot p_i), (3, R_api_Hash.slot p_h), (4, i64.slot p_from), (5, i64.slot p_to)] _
  refine rs ?_
  refine rt ?_
  refine jp (pj_box_to (ht rfl)) rfl rfl rfl ?_
  refine j_box (ht rfl) rfl fun b1 => ?_
  refine j_alloc (x := (Vector.replicate 32 (0#8))) (R := R_api_Hash) (zero_vec 32 zero_un) (by kernel_rfl) rfl fun b2 => ?_
  refine j_end ?_
  refine rs ?_
  refine rs ?_
  refine rt ?_
  refine jp (pm (ht rfl)) rfl rfl rfl ?_
  refine jp (pa (ht rfl)) rfl rfl rfl ?_
  refine j_end ?_
  obtain ⟨⟨y3, y4⟩, e4, h⟩ := bind_some h
  refine run_loopS (Γi := fun (i : Unit) (s : Int × T_api_Hash) => [(1, u32.slot p_q), (2, i64.slot p_i), (5, i64.slot p_to), (6, ptrTo R_api_ID p_id), (9, val (.pointer (some ⟨b1, 0, none⟩))), (12, val (.pointer (some ⟨b2, 0, none⟩))), (13, i64.slot s.1)]) (Hi := fun (i : Unit) (s : Int × T_api_Hash) => [box b2 26 R_api_Hash (Vector.replicate 32 (0#8)), box b1 26 R_api_Hash s.2]) e4 () (fun a w hst => (hst.sub (.cons (.of_lk rfl) <| .cons (.of_lk rfl) <| .cons (.of_lk rfl) <| .cons (.of_lk rfl) <| .cons (.of_lk rfl) <| .cons (.of_lk rfl) <| .cons (.of_lk rfl) <| .nil)).keep (.cons .here <| .cons .here <| .nil)) ?_ ?_
  · clear h e4
    rintro _ ⟨y1, y2⟩ lr h
    change rolodexref04_Steps_L1 p_to p_id p_q p_i y1 y2 = some _ at h
    show Run _ _ _ [(1, u32.slot p_q), (2, i64.slot p_i), (5, i64.slot p_to), (6, ptrTo R_api_ID p_id), (9, val (.pointer (some ⟨b1, 0, none⟩))), (12, val (.pointer (some ⟨b2, 0, none⟩))), (13, i64.slot y1)] [box b2 26 R_api_Hash (Vector.replicate 32 (0#8)), box b1 26 R_api_Hash y2]
    unfold rolodexref04_Steps_L1 at h
    refine rs ?_
    refine rs ?_
    refine rt ?_
    refine jp (pm (ht rfl)) rfl rfl rfl ?_
    refine jp (pm (ht rfl)) rfl rfl rfl ?_
    refine jp (pj_ilss (ht rfl) (ht rfl)) rfl rfl rfl ?_
    refine j_end ?_
    refine run_cond (ht rfl) (fun e1 => ?_) (fun e1 => ?_)
    · replace h := bt e1 h
      refine run_skip ?_
      refine rs ?_
      refine run_block ?_
      obtain ⟨r1, e2, h⟩ := bind_some h
      refine run_draw (n := 7) (by kernel_rfl) (by kernel_rfl) (by kernel_rfl) (by kernel_rfl) (.read (.plain rfl (pl (ht rfl) (by kernel_rfl))) <| .read (.plain rfl (pm (ht rfl))) <| .read (.plain rfl (pm (ht rfl))) <| .read (.plain rfl (pm (ht rfl))) <| .read (.plain rfl (pj_conv_un (k := .u8) (b := 8) rfl rfl (by kernel_rfl) (ht rfl) isInt_i64)) <| .read (.plain rfl (pj_slice_arrc (lo := 0) (sz := 1) (n := 32) (ht rfl) .no .no 32 32 rfl (by kernel_rfl))) <| .read (.plain rfl (pj_callBF (hasBL_cons (hasB_of (ht rfl)) <| hasBL_cons (hasB_arrF (ht rfl) (.next .here) (by decide)) <| hasBL_nil) (by kernel_rfl) (c_rolodexref04_with e2) (flat_un _ _))) <| .nil) (j_to (Γ' := [(1, u32.slot p_q), (2, i64.slot p_i), (5, i64.slot p_to), (6, ptrTo R_api_ID p_id), (9, val (.pointer (some ⟨b1, 0, none⟩))), (12, val (.pointer (some ⟨b2, 0, none⟩))), (13, i64.slot y1), (20, R_api_ID.slot p_id), (21, u32.slot p_q), (22, i64.slot p_i), (26, (sl u8).slot r1)]) (H' := [box b2 26 R_api_Hash (Vector.replicate 32 (0#8)), box b1 26 R_api_Hash y2]) (.cons (.of_lk rfl) <| .cons (.of_lk rfl) <| .cons (.of_lk rfl) <| .cons (.of_lk rfl) <| .cons (.of_lk rfl) <| .cons (.of_lk rfl) <| .cons (.of_lk rfl) <| .cons (.of_lk rfl) <| .cons (.of_lk rfl) <| .cons (.of_lk rfl) <| .cons (.of_lk rfl) <| .nil) (.cons .here <| .cons .here <| .nil) ?_)
      obtain ⟨r2, e3, h⟩ := bind_some h
      refine jp (pj_call (hc (ht rfl) <| hc (ht rfl) <| hc (ht rfl) <| hc (ht rfl) <| hasL_nil) (by kernel_rfl) (c_rolodexref04_Under e3)) rfl rfl rfl ?_
      refine j_store_boxx (r' := r2) (ht rfl) (ht rfl) (.next .here) (Path.all R_api_Hash) (by kernel_rfl) rfl ?_
      refine j_end ?_
      refine run_endblock ?_
      refine rt ?_
      refine jp (pm (ht rfl)) rfl rfl rfl ?_
      refine jp (pj_iadd (ht rfl) has_i64) rfl rfl rfl ?_
      refine jp (pa (ht rfl)) rfl rfl rfl ?_
      refine j_end ?_
      obtain rfl := oi h
      exact run_next () (.cons (.of_lk rfl) <| .cons (.of_lk rfl) <| .cons (.of_lk rfl) <| .cons (.of_lk rfl) <| .cons (.of_lk rfl) <| .cons (.of_lk rfl) <| .cons (.of_lk rfl) <| .nil) (.cons (.next .here) <| .cons .here <| .nil)
    · replace h := bf e1 h
      obtain rfl := oi h
      exact run_brk () (.cons (.of_lk rfl) <| .cons (.of_lk rfl) <| .cons (.of_lk rfl) <| .cons (.of_lk rfl) <| .cons (.of_lk rfl) <| .cons (.of_lk rfl) <| .cons (.of_lk rfl) <| .nil) (.cons .here <| .cons .here <| .nil)
  · rintro _
    show Run _ _ _ [(1, u32.slot p_q), (2, i64.slot p_i), (5, i64.slot p_to), (6, ptrTo R_api_ID p_id), (9, val (.pointer (some ⟨b1, 0, none⟩))), (12, val (.pointer (some ⟨b2, 0, none⟩))), (13, i64.slot y3)] [box b2 26 R_api_Hash (Vector.replicate 32 (0#8)), box b1 26 R_api_Hash y4]
    refine run_to (Γ' := [(9, val (.pointer (some ⟨b1, 0, none⟩))), (12, val (.pointer (some ⟨b2, 0, none⟩)))]) (H' := [box b2 26 R_api_Hash (Vector.replicate 32 (0#8)), box b1 26 R_api_Hash y4]) (.cons (.of_lk rfl) <| .cons (.of_lk rfl) <| .nil) (.cons .here <| .cons .here <| .nil) ?_
    refine rs ?_
    refine rt ?_
    refine jp (pj_load_box (ht rfl) (.next .here) (Path.all R_api_Hash) (by kernel_rfl)) rfl rfl rfl ?_
    refine j_store_boxx (r' := y4) (ht rfl) (ht rfl) .here (Path.all R_api_Hash) (by kernel_rfl) rfl ?_
    refine j_end ?_
    obtain rfl := oi h
    exact run_ret fun a w hst => q_ret1 hst rfl (.cell rfl .here (by kernel_rfl)) () (fun _ _ h => h) (.nil)
set_option maxRecDepth 100000 in
set_option maxHeartbeats 4000000 in
theorem c_rolodexref04_Recover {G : GP} {p_id : T_api_ID} {p_q : BitVec 32} {p_message : List (BitVec 8)} {p_sig : List (BitVec 8)} {r : T_api_Hash × Bool} (h : rolodexref04_Recover p_id p_q p_message p_sig = some r) : Ctr Tryd.prog G 67 [R_api_ID.slot p_id, u32.slot p_q, (sl u8).slot p_message, (sl u8).slot p_sig] [] (fun (_ : Unit) => tup [R_api_Hash.slot r.1, bl.slot r.2]) (fun (_ : Unit) => []) := by
  unfold rolodexref04_Recover at h
  refine ctr_of_run Tryd.func67 rfl 81 rfl rfl fun m0 w0 b0 => ?_
  show Run _ _ _ [(0, R_api_ID.slot p_id), (1, u32.slot p_q), (2, (sl u8).slot p_message), (3, (sl u8).slot p_sig)] _
  refine rs ?_
  refine rt ?_
  refine jp (pj_box_to (ht rfl)) rfl rfl rfl ?_
  refine j_alloc (x := (Vector.replicate 32 (0#8))) (R := R_api_Hash) (zero_vec 32 zero_un) (by kernel_rfl) rfl fun b1 => ?_
  refine jp (pa has_bl) rfl rfl rfl ?_
  refine j_end ?_
  refine rs ?_
  refine rs ?_
  refine rt ?_
  refine jp (pm (ht rfl)) rfl rfl rfl ?_
  refine jp (pj_len_sl (sz := 1) (ht rfl) (by kernel_rfl)) rfl rfl rfl ?_
  refine jp (pj_ilss (ht rfl) has_i64) rfl rfl rfl ?_
  refine j_end ?_
  refine run_cond (ht rfl) (fun e1 => ?_) (fun e1 => ?_)
  · replace h := bt e1 h
    refine rs ?_
    refine rt ?_
    refine jp (pj_build (R := R_api_Hash) (zero_vec 32 zero_un) (by kernel_rfl) (by kernel_rfl) rfl .nil) rfl rfl rfl ?_
    refine j_store_boxx (r' := (Vector.replicate 32 (0#8))) (ht rfl) (ht rfl) .here (Path.all R_api_Hash) (by kernel_rfl) rfl ?_
    refine jp (pa has_bl) rfl rfl rfl ?_
    refine j_end ?_
    obtain rfl := oi h
    exact run_ret fun a w hst => q_retN hst rfl (.cons (.cell rfl .here (by kernel_rfl)) <| .cons (.tmp rfl) <| .nil) rfl () (fun _ _ h => h) (.nil)
  · replace h := bf e1 h
    refine run_skip ?_
    refine rs ?_
    refine rt ?_
    refine jp (pm (ht rfl)) rfl rfl rfl ?_
    obtain ⟨x1, e2, h⟩ := bind_some h
    refine jp (pj_slice_slx (ht rfl) .no (.yes has_i64 isInt_i64) e2 (by kernel_rfl)) rfl rfl rfl ?_
    obtain ⟨r1, e3, h⟩ := bind_some h
    refine jp (pj_call (hc (ht rfl) <| hasL_nil) (by kernel_rfl) (c_rolodexref01_Value e3)) rfl rfl rfl ?_
    refine jp (pa (ht rfl)) rfl rfl rfl ?_
    refine j_end ?_
    refine rs ?_
    refine rs ?_
    refine rt ?_
    refine jp (pm (ht rfl)) rfl rfl rfl ?_
    refine jp (pj_ulss (k := .u64) (b := 64) (ht rfl) (has_un (x := 1#64) rfl)) rfl rfl rfl ?_
    refine jp (pm (ht rfl)) rfl rfl rfl ?_
    obtain ⟨y1, e5, h⟩ := bind_some h
    refine j_joinx (ι := Unit) (Γ' := fun _ => [(1, u32.slot p_q), (2, (sl u8).slot p_message), (3, (sl u8).slot p_sig), (4, ptrTo R_api_ID p_id), (8, val (.pointer (some ⟨b1, 0, none⟩))), (10, u64.slot r1), (28, bl.slot y1)]) (H' := fun _ => [box b1 26 R_api_Hash (Vector.replicate 32 (0#8))]) 3 ?_ fun J => ?_
    · intro _
      clear e5
      show OpsJ _ _ _ [(1, u32.slot p_q), (2, (sl u8).slot p_message), (3, (sl u8).slot p_sig), (4, ptrTo R_api_ID p_id), (8, val (.pointer (some ⟨b1, 0, none⟩))), (10, u64.slot r1), (28, bl.slot y1)] [box b1 26 R_api_Hash (Vector.replicate 32 (0#8))] _
      refine jp (pm (ht rfl)) rfl rfl rfl ?_
      obtain ⟨y2, e7, h⟩ := bind_some h
      refine j_joinx (ι := Unit) (Γ' := fun _ => [(1, u32.slot p_q), (2, (sl u8).slot p_message), (3, (sl u8).slot p_sig), (4, ptrTo R_api_ID p_id), (8, val (.pointer (some ⟨b1, 0, none⟩))), (10, u64.slot r1), (36, bl.slot y2)]) (H' := fun _ => [box b1 26 R_api_Hash (Vector.replicate 32 (0#8))]) 7 ?_ fun J => ?_
      · intro _
        clear e7
        show OpsJ _ _ _ [(1, u32.slot p_q), (2, (sl u8).slot p_message), (3, (sl u8).slot p_sig), (4, ptrTo R_api_ID p_id), (8, val (.pointer (some ⟨b1, 0, none⟩))), (10, u64.slot r1), (36, bl.slot y2)] [box b1 26 R_api_Hash (Vector.replicate 32 (0#8))] _
        refine j_end ?_
        refine run_cond (ht rfl) (fun e9 => ?_) (fun e9 => ?_)
        · replace h := bt e9 h
          refine rs ?_
          refine rt ?_
          refine jp (pj_build (R := R_api_Hash) (zero_vec 32 zero_un) (by kernel_rfl) (by kernel_rfl) rfl .nil) rfl rfl rfl ?_
          refine j_store_boxx (r' := (Vector.replicate 32 (0#8))) (ht rfl) (ht rfl) .here (Path.all R_api_Hash) (by kernel_rfl) rfl ?_
          refine jp (pa has_bl) rfl rfl rfl ?_
          refine j_end ?_
          obtain rfl := oi h
          exact run_ret fun a w hst => q_retN hst rfl (.cons (.cell rfl .here (by kernel_rfl)) <| .cons (.tmp rfl) <| .nil) rfl () (fun _ _ h => h) (.nil)
        · replace h := bf e9 h
          refine run_skip ?_
          refine rs ?_
          refine rt ?_
          refine jp (pm (ht rfl)) rfl rfl rfl ?_
          refine jp (pj_conv_i64 (by kernel_rfl) (ht rfl) isInt_un) rfl rfl rfl ?_
          refine jp (pa (ht rfl)) rfl rfl rfl ?_
          refine j_end ?_
          refine rs ?_
          obtain ⟨x2, e10, h⟩ := bind_some h
          obtain ⟨r3, e11, h⟩ := bind_some h
          refine run_draw (n := 7) (by kernel_rfl) (by kernel_rfl) (by kernel_rfl) (by kernel_rfl) (.read (.plain rfl (pm (ht rfl))) <| .read (.plain rfl (pl (ht rfl) (by kernel_rfl))) <| .read (.plain rfl (pm (ht rfl))) <| .read (.plain rfl (pm (ht rfl))) <| .read (.plain rfl (pj_slice_slx (ht rfl) (.yes has_i64 isInt_i64) (.yes has_i64 isInt_i64) e10 (by kernel_rfl))) <| .read (.plain rfl (pm (ht rfl))) <| .read (.plain rfl (pj_call (hc (ht rfl) <| hc (ht rfl) <| hc (ht rfl) <| hc (ht rfl) <| hasL_nil) (by kernel_rfl) (c_rolodexref04_Hashed e11))) <| .nil) (j_to (Γ' := [(1, u32.slot p_q), (3, (sl u8).slot p_sig), (4, ptrTo R_api_ID p_id), (8, val (.pointer (some ⟨b1, 0, none⟩))), (11, i64.slot (w64 (r1.toNat : Int))), (40, i64.slot (w64 (r1.toNat : Int))), (46, R_api_Hash.slot r3)]) (H' := [box b1 26 R_api_Hash (Vector.replicate 32 (0#8))]) (.cons (.of_lk rfl) <| .cons (.of_lk rfl) <| .cons (.of_lk rfl) <| .cons (.of_lk rfl) <| .cons (.of_lk rfl) <| .cons (.of_lk rfl) <| .cons (.of_lk rfl) <| .nil) (.cons .here <| .nil) ?_)
          obtain ⟨r4, e12, h⟩ := bind_some h
          refine jp (pj_call (hc (ht rfl) <| hc (ht rfl) <| hasL_nil) (by kernel_rfl) (Ctr.froze (c_rolodexref04_Digits e12))) rfl rfl rfl ?_
          refine jp (pa (ht rfl)) rfl rfl rfl ?_
          refine j_end ?_
          refine rs ?_
          refine rt ?_
          refine j_assign_nil (T := 5) u8 rfl fun v1 => ?_
          refine j_end ?_
          refine rs ?_
          refine rs ?_
          refine rt ?_
          refine jp (pa has_i64) rfl rfl rfl ?_
          refine j_end ?_
          obtain ⟨⟨y5, y6⟩, e20, h⟩ := bind_some h
          refine run_loopS (Γi := fun (i : Value) (s : Int × (List (BitVec 8))) => [(1, u32.slot p_q), (3, (sl u8).slot p_sig), (4, ptrTo R_api_ID p_id), (8, val (.pointer (some ⟨b1, 0, none⟩))), (11, i64.slot (w64 (r1.toNat : Int))), (12, (sl i64).slot r4), (13, ov i), (14, i64.slot s.1)]) (Hi := fun (i : Value) (s : Int × (List (BitVec 8))) => [own 5 u8 i s.2, box b1 26 R_api_Hash (Vector.replicate 32 (0#8))]) e20 v1 (fun a w hst => (hst.sub (.cons (.of_lk rfl) <| .cons (.of_lk rfl) <| .cons (.of_lk rfl) <| .cons (.of_lk rfl) <| .cons (.of_lk rfl) <| .cons (.of_lk rfl) <| .cons (.of_lk rfl) <| .cons (.of_lk rfl) <| .nil)).keep (.cons .here <| .cons .here <| .nil)) ?_ ?_
          · clear h e20
            rintro v2 ⟨y3, y4⟩ lr h
            change rolodexref04_Recover_L1 r4 p_sig r1 p_id p_q y3 y4 = some _ at h
            show Run _ _ _ [(1, u32.slot p_q), (3, (sl u8).slot p_sig), (4, ptrTo R_api_ID p_id), (8, val (.pointer (some ⟨b1, 0, none⟩))), (11, i64.slot (w64 (r1.toNat : Int))), (12, (sl i64).slot r4), (13, ov v2), (14, i64.slot y3)] [own 5 u8 v2 y4, box b1 26 R_api_Hash (Vector.replicate 32 (0#8))]
            unfold rolodexref04_Recover_L1 at h
            refine rs ?_
            refine rs ?_
            refine rt ?_
            refine jp (pm (ht rfl)) rfl rfl rfl ?_
            refine jp (pm (ht rfl)) rfl rfl rfl ?_
            refine jp (pj_len_sl (sz := 1) (ht rfl) (by kernel_rfl)) rfl rfl rfl ?_
            refine jp (pj_ilss (ht rfl) (ht rfl)) rfl rfl rfl ?_
            refine j_end ?_
            refine run_cond (ht rfl) (fun e13 => ?_) (fun e13 => ?_)
            · replace h := bt e13 h
              refine run_skip ?_
              refine rs ?_
              refine run_block ?_
              refine rs ?_
              obtain ⟨x3, e14, h⟩ := bind_some h
              obtain ⟨x4, e15, h⟩ := bind_some h
              obtain ⟨x5, e16, h⟩ := bind_some h
              obtain ⟨r5, e17, h⟩ := bind_some h
              obtain ⟨r6, e18, h⟩ := bind_some h
              refine run_keep (H' := [own 5 u8 v2 y4, box b1 26 R_api_Hash (Vector.replicate 32 (0#8))]) (.cons .here <| .cons .here <| .nil) ?_
              refine run_drawL (n := 21) (H := [own 5 u8 v2 y4, box b1 26 R_api_Hash (Vector.replicate 32 (0#8))]) (Ls := [⟨[], [(20, ⟨Nat, fun (b2 : Nat) => [box b2 26 R_api_Hash (Vector.replicate 32 (0#8))], fun (b2 : Nat) => [(15, val (.pointer (some ⟨b2, 0, none⟩)))]⟩)]⟩]) (by kernel_rfl) (by kernel_rfl) (by kernel_rfl) (by kernel_rfl) (by kernel_rfl) rfl (.read rfl (.plain rfl (pl (ht rfl) (by kernel_rfl))) <| .read rfl (.plain rfl (pm (ht rfl))) <| .read rfl (.plain rfl (pm (ht rfl))) <| .read rfl (.plain rfl (pm (ht rfl))) <| .read rfl (.plain rfl (pm (ht rfl))) <| .read rfl (.plain rfl (pj_imul has_i64 (ht rfl))) <| .read rfl (.plain rfl (pj_iadd has_i64 (ht rfl))) <| .read rfl (.plain rfl (pm (ht rfl))) <| .read rfl (.plain rfl (pj_imul has_i64 (ht rfl))) <| .read rfl (.plain rfl (pj_iadd has_i64 (ht rfl))) <| .read rfl (.plain rfl (pj_slice_slx (ht rfl) (.yes (ht rfl) isInt_i64) (.yes (ht rfl) isInt_i64) e14 (by kernel_rfl))) <| .read rfl (.plain rfl (pj_s2apx (e := 5) (ht rfl) e15 rfl (by kernel_rfl))) <| .read rfl (.plain rfl (pl (ht rfl) (by kernel_rfl))) <| .read rfl (.plain rfl (pm (ht rfl))) <| .read rfl (.plain rfl (pm (ht rfl))) <| .read rfl (.plain rfl (pj_index_slx (ht rfl) (ht rfl) isInt_i64 e16 (by kernel_rfl))) <| .read rfl (.plain rfl (pl (ht rfl) (by kernel_rfl))) <| .read rfl (.plain rfl (pm (ht rfl))) <| .read rfl (.plain rfl (pj_call (hc (ht rfl) <| hasL_nil) (by kernel_rfl) (c_rolodexref04_Most e17))) <| .read rfl (.plain rfl (pj_call (hc (ht rfl) <| hc (ht rfl) <| hc (ht rfl) <| hc (ht rfl) <| hc (ht rfl) <| hc (ht rfl) <| hasL_nil) (by kernel_rfl) (c_rolodexref04_Steps e18))) <| .step 0 rfl .here (.inl rfl) (fun i => ⟨_, _, fun j => j, (w_alloc (x := (Vector.replicate 32 (0#8))) (R := R_api_Hash) (zero_vec 32 zero_un) (by kernel_rfl) rfl), fun _ => rfl, slotAny, dst1⟩) <| .nil) ?_
              rintro b2
              refine j_to (Γ' := [(1, u32.slot p_q), (3, (sl u8).slot p_sig), (4, ptrTo R_api_ID p_id), (8, val (.pointer (some ⟨b1, 0, none⟩))), (11, i64.slot (w64 (r1.toNat : Int))), (12, (sl i64).slot r4), (13, ov v2), (14, i64.slot y3), (15, val (.pointer (some ⟨b2, 0, none⟩))), (73, R_api_Hash.slot r6)]) (H' := [box b2 26 R_api_Hash (Vector.replicate 32 (0#8)), own 5 u8 v2 y4, box b1 26 R_api_Hash (Vector.replicate 32 (0#8))]) (.cons (.of_lk rfl) <| .cons (.of_lk rfl) <| .cons (.of_lk rfl) <| .cons (.of_lk rfl) <| .cons (.of_lk rfl) <| .cons (.of_lk rfl) <| .cons (.of_lk rfl) <| .cons (.of_lk rfl) <| .cons (.of_lk rfl) <| .cons (.of_lk rfl) <| .nil) (.cons .here <| .cons .here <| .cons .here <| .nil) ?_
              refine j_store_boxx (r' := r6) (ht rfl) (ht rfl) .here (Path.all R_api_Hash) (by kernel_rfl) rfl ?_
              refine j_freezeTo (t := 15) .here (.of_lk rfl) ?_
              refine j_end ?_
              refine rt ?_
              refine jp (pm (ht rfl)) rfl rfl rfl ?_
              refine jp (pj_slice_toF (ht rfl) (by decide) (by kernel_rfl)) rfl rfl rfl ?_
              obtain ⟨e19, h⟩ := grd_some h
              refine j_append (T := 5) (E := 5) (ht rfl) .here (src_data (ht rfl)) (by kernel_rfl) (by kernel_rfl) e19 rfl fun v3 => ?_
              refine jp (pa (ht rfl)) rfl rfl rfl ?_
              refine j_end ?_
              refine run_endblock ?_
              refine rt ?_
              refine jp (pm (ht rfl)) rfl rfl rfl ?_
              refine jp (pj_iadd (ht rfl) has_i64) rfl rfl rfl ?_
              refine jp (pa (ht rfl)) rfl rfl rfl ?_
              refine j_end ?_
              obtain rfl := oi h
              exact run_next v3 (.cons (.of_lk rfl) <| .cons (.of_lk rfl) <| .cons (.of_lk rfl) <| .cons (.of_lk rfl) <| .cons (.of_lk rfl) <| .cons (.of_lk rfl) <| .cons (.of_lk rfl) <| .cons (.of_lk rfl) <| .nil) (.cons .here <| .cons .here <| .nil)
            · replace h := bf e13 h
              obtain rfl := oi h
              exact run_brk v2 (.cons (.of_lk rfl) <| .cons (.of_lk rfl) <| .cons (.of_lk rfl) <| .cons (.of_lk rfl) <| .cons (.of_lk rfl) <| .cons (.of_lk rfl) <| .cons (.of_lk rfl) <| .cons (.of_lk rfl) <| .nil) (.cons .here <| .cons .here <| .nil)
          · rintro v4
            show Run _ _ _ [(1, u32.slot p_q), (3, (sl u8).slot p_sig), (4, ptrTo R_api_ID p_id), (8, val (.pointer (some ⟨b1, 0, none⟩))), (11, i64.slot (w64 (r1.toNat : Int))), (12, (sl i64).slot r4), (13, ov v4), (14, i64.slot y5)] [own 5 u8 v4 y6, box b1 26 R_api_Hash (Vector.replicate 32 (0#8))]
            refine run_to (Γ' := [(1, u32.slot p_q), (4, ptrTo R_api_ID p_id), (8, val (.pointer (some ⟨b1, 0, none⟩))), (13, ov v4)]) (H' := [own 5 u8 v4 y6, box b1 26 R_api_Hash (Vector.replicate 32 (0#8))]) (.cons (.of_lk rfl) <| .cons (.of_lk rfl) <| .cons (.of_lk rfl) <| .cons (.of_lk rfl) <| .nil) (.cons .here <| .cons .here <| .nil) ?_
            refine rs ?_
            refine rt ?_
            refine jp (pl (ht rfl) (by kernel_rfl)) rfl rfl rfl ?_
            refine jp (pm (ht rfl)) rfl rfl rfl ?_
            refine jp (pm (ht rfl)) rfl rfl rfl ?_
            obtain ⟨r7, e21, h⟩ := bind_some h
            refine jp (pj_callB (hasBL_cons (hasB_of (ht rfl)) <| hasBL_cons (hasB_of (ht rfl)) <| hasBL_cons (hasB_of has_i64) <| hasBL_cons (hasB_own (ht rfl) .here) <| hasBL_nil) (by kernel_rfl) (c_rolodexref04_Under e21) (Rep.flat_slot (flat_vec _ (flat_un _ _)) _)) rfl rfl rfl ?_
            refine j_store_boxx (r' := r7) (ht rfl) (ht rfl) (.next .here) (Path.all R_api_Hash) (by kernel_rfl) rfl ?_
            refine jp (pa has_bl) rfl rfl rfl ?_
            refine j_end ?_
            obtain rfl := oi h
            exact run_ret fun a w hst => q_retN hst rfl (.cons (.cell rfl .here (by kernel_rfl)) <| .cons (.tmp rfl) <| .nil) rfl () (fun _ _ h => h) (.nil)
      · rcases bool_tf (y1) with e6 | e6
        · replace e7 := bt e6 e7
          refine j_guard_no2 (j := 6) (want := false) rfl rfl rfl rfl (bl_isx e6) rfl rfl rfl ?_
          refine j_guard_no2 (j := 6) (want := false) rfl rfl rfl rfl (bl_isx e6) rfl rfl rfl ?_
          refine j_guard_no2 (j := 6) (want := false) rfl rfl rfl rfl (bl_isx e6) rfl rfl rfl ?_
          refine j_guard_no2 (j := 6) (want := false) rfl rfl rfl rfl (bl_isx e6) rfl rfl rfl ?_
          refine j_guard_no2 (j := 6) (want := false) rfl rfl rfl rfl (bl_isx e6) rfl rfl rfl ?_
          refine j_guard_no2 (j := 6) (want := false) rfl rfl rfl rfl (bl_isx e6) rfl rfl rfl ?_
          refine jp (PJ.eqv (R := bl) (pj_pick (t := any) (ht rfl) (fun _ => has_bl) (fun he => absurd (e6.symm.trans he) (by decide))) (oi e7)) rfl rfl rfl ?_
          exact j_to (.cons (.of_lk rfl) <| .cons (.of_lk rfl) <| .cons (.of_lk rfl) <| .cons (.of_lk rfl) <| .cons (.of_lk rfl) <| .cons (.of_lk rfl) <| .cons (.of_lk rfl) <| .nil) (.cons .here <| .nil) (J ())
        · replace e7 := bf e6 e7
          refine jy (pm (ht rfl)) rfl rfl rfl rfl (bl_isx e6) rfl rfl ?_
          refine jy (pj_len_sl (sz := 1) (ht rfl) (by kernel_rfl)) rfl rfl rfl rfl (bl_isx e6) rfl rfl ?_
          refine jy (pm (ht rfl)) rfl rfl rfl rfl (bl_isx e6) rfl rfl ?_
          refine jy (pj_conv_i64 (by kernel_rfl) (ht rfl) isInt_un) rfl rfl rfl rfl (bl_isx e6) rfl rfl ?_
          obtain ⟨r2, e8, e7⟩ := bind_some e7
          refine jy (pj_call (hc (ht rfl) <| hasL_nil) (by kernel_rfl) (c_rolodexref04_Size e8)) rfl rfl rfl rfl (bl_isx e6) rfl rfl ?_
          refine jy (pj_ineq (ht rfl) (ht rfl)) rfl rfl rfl rfl (bl_isx e6) rfl rfl ?_
          refine jp (PJ.eqv (R := bl) (pj_pick (t := any) (ht rfl) (fun he => absurd (e6.symm.trans he) (by decide)) (fun _ => (ht rfl))) (oi e7)) rfl rfl rfl ?_
          exact j_to (.cons (.of_lk rfl) <| .cons (.of_lk rfl) <| .cons (.of_lk rfl) <| .cons (.of_lk rfl) <| .cons (.of_lk rfl) <| .cons (.of_lk rfl) <| .cons (.of_lk rfl) <| .nil) (.cons .here <| .nil) (J ())
    · rcases bool_tf (decide (r1 < (1#64))) with e4 | e4
      · replace e5 := bt e4 e5
        refine j_guard_no2 (j := 2) (want := false) rfl rfl rfl rfl (bl_isx e4) rfl rfl rfl ?_
        refine j_guard_no2 (j := 2) (want := false) rfl rfl rfl rfl (bl_isx e4) rfl rfl rfl ?_
        refine jp (PJ.eqv (R := bl) (pj_pick (t := any) (ht rfl) (fun _ => has_bl) (fun he => absurd (e4.symm.trans he) (by decide))) (oi e5)) rfl rfl rfl ?_
        exact j_to (.cons (.of_lk rfl) <| .cons (.of_lk rfl) <| .cons (.of_lk rfl) <| .cons (.of_lk rfl) <| .cons (.of_lk rfl) <| .cons (.of_lk rfl) <| .cons (.of_lk rfl) <| .nil) (.cons .here <| .nil) (J ())
      · replace e5 := bf e4 e5
        refine jy (pm (ht rfl)) rfl rfl rfl rfl (bl_isx e4) rfl rfl ?_
        refine jy (pj_ugtr (k := .u64) (b := 64) (ht rfl) (has_un (x := 4#64) rfl)) rfl rfl rfl rfl (bl_isx e4) rfl rfl ?_
        refine jp (PJ.eqv (R := bl) (pj_pick (t := any) (ht rfl) (fun he => absurd (e4.symm.trans he) (by decide)) (fun _ => (ht rfl))) (oi e5)) rfl rfl rfl ?_
        exact j_to (.cons (.of_lk rfl) <| .cons (.of_lk rfl) <| .cons (.of_lk rfl) <| .cons (.of_lk rfl) <| .cons (.of_lk rfl) <| .cons (.of_lk rfl) <| .cons (.of_lk rfl) <| .nil) (.cons .here <| .nil) (J ())
set_option maxRecDepth 100000 in
set_option maxHeartbeats 4000000 in
theorem c_rolodexref05_Node {G : GP} {p_id : T_api_ID} {p_r : Int} {p_under : Int} {p_b : List (BitVec 8)} {r : T_api_Hash} (h : rolodexref05_Node p_id p_r p_under p_b = some r) : Ctr Tryd.prog G 68 [R_api_ID.slot p_id, i64.slot p_r, i64.slot p_under, (sl u8).slot p_b] [] (fun (_ : Unit) => R_api_Hash.slot r) (fun (_ : Unit) => []) := by
  unfold rolodexref05_Node at h
  refine ctr_of_run Tryd.func68 rfl 28 rfl rfl fun m0 w0 b0 => ?_
  show Run _ _ _ [(0, R_api_ID.slot p_id), (1, i64.slot p_r), (2, i64.slot p_under), (3, (sl u8).slot p_b)] _
  refine rs ?_
  refine rt ?_
  refine jp (pj_box_to (ht rfl)) rfl rfl rfl ?_
  refine j_alloc (x := (Vector.replicate 32 (0#8))) (R := R_api_Hash) (zero_vec 32 zero_un) (by kernel_rfl) rfl fun b1 => ?_
  refine j_end ?_
  refine rs ?_
  refine rt ?_
  refine j_assign_nil (T := 5) u8 rfl fun v1 => ?_
  refine j_end ?_
  refine rs ?_
  refine rt ?_
  refine jp (pm (ht rfl)) rfl rfl rfl ?_
  refine jp (pj_slice_toF (ht rfl) (by decide) (by kernel_rfl)) rfl rfl rfl ?_
  obtain ⟨e1, h⟩ := grd_some h
  refine j_append (T := 5) (E := 5) (ht rfl) .here (src_data (ht rfl)) (by kernel_rfl) (by kernel_rfl) e1 rfl fun v2 => ?_
  refine jp (pa (ht rfl)) rfl rfl rfl ?_
  refine j_end ?_
  refine rs ?_
  refine rt ?_
  refine jp (pm (ht rfl)) rfl rfl rfl ?_
  refine jp (pm (ht rfl)) rfl rfl rfl ?_
  refine jp (pj_conv_un (k := .u64) (b := 64) rfl rfl (by kernel_rfl) (ht rfl) isInt_i64) rfl rfl rfl ?_
  obtain ⟨r1, e2, h⟩ := bind_some h
  refine jp (pj_call (hc (ht rfl) <| hc has_i64 <| hasL_nil) (by kernel_rfl) (Ctr.froze (c_rolodexref01_Number e2))) rfl rfl rfl ?_
  obtain ⟨e3, h⟩ := grd_some h
  refine j_append (T := 5) (E := 5) (ht rfl) .here (src_data (ht rfl)) (by kernel_rfl) (by kernel_rfl) e3 rfl fun v3 => ?_
  refine jp (pa (ht rfl)) rfl rfl rfl ?_
  refine j_end ?_
  refine rs ?_
  refine rt ?_
  refine jp (pm (ht rfl)) rfl rfl rfl ?_
  refine jp (pm (ht rfl)) rfl rfl rfl ?_
  refine jp (pj_conv_un (k := .u64) (b := 64) rfl rfl (by kernel_rfl) (ht rfl) isInt_i64) rfl rfl rfl ?_
  obtain ⟨r2, e4, h⟩ := bind_some h
  refine jp (pj_call (hc (ht rfl) <| hc has_i64 <| hasL_nil) (by kernel_rfl) (Ctr.froze (c_rolodexref01_Number e4))) rfl rfl rfl ?_
  obtain ⟨e5, h⟩ := grd_some h
  refine j_append (T := 5) (E := 5) (ht rfl) .here (src_data (ht rfl)) (by kernel_rfl) (by kernel_rfl) e5 rfl fun v4 => ?_
  refine jp (pa (ht rfl)) rfl rfl rfl ?_
  refine j_end ?_
  refine rs ?_
  refine rt ?_
  refine jp (pm (ht rfl)) rfl rfl rfl ?_
  refine jp (pm (ht rfl)) rfl rfl rfl ?_
  obtain ⟨e6, h⟩ := grd_some h
  refine j_append (T := 5) (E := 5) (ht rfl) .here (src_data (ht rfl)) (by kernel_rfl) (by kernel_rfl) e6 rfl fun v5 => ?_
  refine jp (pa (ht rfl)) rfl rfl rfl ?_
  refine j_end ?_
  refine rs ?_
  refine rt ?_
  refine jp (pm (ht rfl)) rfl rfl rfl ?_
  obtain ⟨r3, e7, h⟩ := bind_some h
  refine jp (pj_callB (hasBL_cons (hasB_own (ht rfl) .here) <| hasBL_nil) (by kernel_rfl) (c_rolodexref02_Sum e7) (Rep.flat_slot (flat_vec _ (flat_un _ _)) _)) rfl rfl rfl ?_
  refine j_store_boxx (r' := r3) (ht rfl) (ht rfl) (.next .here) (Path.all R_api_Hash) (by kernel_rfl) rfl ?_
  refine j_end ?_
  obtain rfl := oi h
  exact run_ret fun a w hst => q_ret1 hst rfl (.cell rfl .here (by kernel_rfl)) () (fun _ _ h => h) (.nil)
set_option maxRecDepth 100000 in
set_option maxHeartbeats 4000000 in
theorem c_rolodexref05_two {G : GP} {p_a : T_api_Hash} {p_b : T_api_Hash} {r : (List (BitVec 8))} (h : rolodexref05_two p_a p_b = some r) : Ctr Tryd.prog G 69 [R_api_Hash.slot p_a, R_api_Hash.slot p_b] [] (fun (u0 : Value) => ov u0) (fun (u0 : Value) => [own 5 u8 u0 r]) := by
  unfold rolodexref05_two at h
  refine ctr_of_run Tryd.func69 rfl 12 rfl rfl fun m0 w0 b0 => ?_
  show Run _ _ _ [(0, R_api_Hash.slot p_a), (1, R_api_Hash.slot p_b)] _
  refine rs ?_
  refine rt ?_
  refine jp (pj_box_to (ht rfl)) rfl rfl rfl ?_
  refine jp (pj_box_to (ht rfl)) rfl rfl rfl ?_
  refine j_assign_nil (T := 5) u8 rfl fun v1 => ?_
  refine j_end ?_
  refine rs ?_
  refine rt ?_
  refine j_assign_nil (T := 5) u8 rfl fun v2 => ?_
  refine j_end ?_
  refine rs ?_
  refine rt ?_
  refine jp (pm (ht rfl)) rfl rfl rfl ?_
  refine jp (pj_slice_toF (ht rfl) (by decide) (by kernel_rfl)) rfl rfl rfl ?_
  obtain ⟨e1, h⟩ := grd_some h
  refine j_append (T := 5) (E := 5) (ht rfl) .here (src_data (ht rfl)) (by kernel_rfl) (by kernel_rfl) e1 rfl fun v3 => ?_
  refine jp (pa (ht rfl)) rfl rfl rfl ?_
  refine j_end ?_
  refine rs ?_
  refine rt ?_
  refine jp (pm (ht rfl)) rfl rfl rfl ?_
  refine jp (pj_slice_toF (ht rfl) (by decide) (by kernel_rfl)) rfl rfl rfl ?_
  obtain ⟨e2, h⟩ := grd_some h
  refine j_append (T := 5) (E := 5) (ht rfl) .here (src_data (ht rfl)) (by kernel_rfl) (by kernel_rfl) e2 rfl fun v4 => ?_
  refine jp (pa (ht rfl)) rfl rfl rfl ?_
  refine j_end ?_
  obtain rfl := oi h
  exact run_ret fun a w hst => q_ret1 hst rfl (.tmp rfl) v4 (fun _ _ h => h) (.cons .here <| .nil)
set_option maxRecDepth 100000 in
set_option maxHeartbeats 4000000 in
theorem c_rolodexref05_Verify {G : GP} {p_public : List (BitVec 8)} {p_message : List (BitVec 8)} {p_sig : List (BitVec 8)} {r : Bool} (h : rolodexref05_Verify p_public p_message p_sig = some r) : Ctr Tryd.prog G 37 [(sl u8).slot p_public, (sl u8).slot p_message, (sl u8).slot p_sig] [] (fun (_ : Unit) => bl.slot r) (fun (_ : Unit) => []) := by
  unfold rolodexref05_Verify at h
  refine ctr_of_run Tryd.func37 rfl 157 rfl rfl fun m0 w0 b0 => ?_
  show Run _ _ _ [(0, (sl u8).slot p_public), (1, (sl u8).slot p_message), (2, (sl u8).slot p_sig)] _
  refine rs ?_
  refine rt ?_
  refine jp (pa has_bl) rfl rfl rfl ?_
  refine j_end ?_
  refine rs ?_
  refine rs ?_
  refine rt ?_
  refine jp (pm (ht rfl)) rfl rfl rfl ?_
  refine jp (pj_len_sl (sz := 1) (ht rfl) (by kernel_rfl)) rfl rfl rfl ?_
  refine jp (pj_ineq (ht rfl) has_i64) rfl rfl rfl ?_
  refine j_end ?_
  refine run_cond (ht rfl) (fun e1 => ?_) (fun e1 => ?_)
  · replace h := bt e1 h
    refine rs ?_
    refine rt ?_
    refine jp (pa has_bl) rfl rfl rfl ?_
    refine j_end ?_
    obtain rfl := oi h
    exact run_ret fun a w hst => q_ret1 hst rfl (.tmp rfl) () (fun _ _ h => h) (.nil)
  · replace h := bf e1 h
    refine run_skip ?_
    refine rs ?_
    obtain ⟨x1, e2, h⟩ := bind_some h
    obtain ⟨r1, e3, h⟩ := bind_some h
    obtain ⟨x2, e4, h⟩ := bind_some h
    refine run_draw (n := 5) (by kernel_rfl) (by kernel_rfl) (by kernel_rfl) (by kernel_rfl) (.read (.plain rfl (pm (ht rfl))) <| .read (.plain rfl (pj_slice_slx (ht rfl) .no (.yes has_i64 isInt_i64) e2 (by kernel_rfl))) <| .read (.plain rfl (pj_call (hc (ht rfl) <| hasL_nil) (by kernel_rfl) (c_rolodexref01_Value e3))) <| .read (.plain rfl (pm (ht rfl))) <| .read (.plain rfl (pj_slice_slx (ht rfl) (.yes has_i64 isInt_i64) (.yes has_i64 isInt_i64) e4 (by kernel_rfl))) <| .nil) (j_to (Γ' := [(0, (sl u8).slot p_public), (1, (sl u8).slot p_message), (2, (sl u8).slot p_sig), (25, u64.slot r1), (27, (sl u8).slot x2)]) (H' := []) (.cons (.of_lk rfl) <| .cons (.of_lk rfl) <| .cons (.of_lk rfl) <| .cons (.of_lk rfl) <| .cons (.of_lk rfl) <| .nil) (.nil) ?_)
    obtain ⟨r2, e5, h⟩ := bind_some h
    refine jp (pj_call (hc (ht rfl) <| hasL_nil) (by kernel_rfl) (c_rolodexref01_Value e5)) rfl rfl rfl ?_
    refine jp (pa (ht rfl)) rfl rfl rfl ?_
    refine jp (pa (ht rfl)) rfl rfl rfl ?_
    refine j_end ?_
    refine rs ?_
    refine rs ?_
    refine rt ?_
    refine jp (pm (ht rfl)) rfl rfl rfl ?_
    refine jp (pj_ugtr (k := .u64) (b := 64) (ht rfl) (has_un (x := 4#64) rfl)) rfl rfl rfl ?_
    refine jp (pm (ht rfl)) rfl rfl rfl ?_
    obtain ⟨y1, e7, h⟩ := bind_some h
    refine j_joinx (ι := Unit) (Γ' := fun _ => [(0, (sl u8).slot p_public), (1, (sl u8).slot p_message), (2, (sl u8).slot p_sig), (7, u64.slot r1), (8, u64.slot r2), (34, bl.slot y1)]) (H' := fun _ => []) 3 ?_ fun J => ?_
    · intro _
      clear e7
      show OpsJ _ _ _ [(0, (sl u8).slot p_public), (1, (sl u8).slot p_message), (2, (sl u8).slot p_sig), (7, u64.slot r1), (8, u64.slot r2), (34, bl.slot y1)] [] _
      refine jp (pm (ht rfl)) rfl rfl rfl ?_
      obtain ⟨y2, e9, h⟩ := bind_some h
      refine j_joinx (ι := Unit) (Γ' := fun _ => [(0, (sl u8).slot p_public), (1, (sl u8).slot p_message), (2, (sl u8).slot p_sig), (7, u64.slot r1), (8, u64.slot r2), (42, bl.slot y2)]) (H' := fun _ => []) 7 ?_ fun J => ?_
      · intro _
        clear e9
        show OpsJ _ _ _ [(0, (sl u8).slot p_public), (1, (sl u8).slot p_message), (2, (sl u8).slot p_sig), (7, u64.slot r1), (8, u64.slot r2), (42, bl.slot y2)] [] _
        refine jp (pm (ht rfl)) rfl rfl rfl ?_
        obtain ⟨y3, e12, h⟩ := bind_some h
        refine j_joinx (ι := Unit) (Γ' := fun _ => [(0, (sl u8).slot p_public), (1, (sl u8).slot p_message), (2, (sl u8).slot p_sig), (7, u64.slot r1), (8, u64.slot r2), (52, bl.slot y3)]) (H' := fun _ => []) 9 ?_ fun J => ?_
        · intro _
          clear e12
          show OpsJ _ _ _ [(0, (sl u8).slot p_public), (1, (sl u8).slot p_message), (2, (sl u8).slot p_sig), (7, u64.slot r1), (8, u64.slot r2), (52, bl.slot y3)] [] _
          refine j_end ?_
          refine run_cond (ht rfl) (fun e14 => ?_) (fun e14 => ?_)
          · replace h := bt e14 h
            refine rs ?_
            refine rt ?_
            refine jp (pa has_bl) rfl rfl rfl ?_
            refine j_end ?_
            obtain rfl := oi h
            exact run_ret fun a w hst => q_ret1 hst rfl (.tmp rfl) () (fun _ _ h => h) (.nil)
          · replace h := bf e14 h
            refine run_skip ?_
            refine rs ?_
            refine rt ?_
            refine jp (pm (ht rfl)) rfl rfl rfl ?_
            refine jp (pj_conv_i64 (by kernel_rfl) (ht rfl) isInt_un) rfl rfl rfl ?_
            refine jp (pm (ht rfl)) rfl rfl rfl ?_
            refine jp (pj_conv_i64 (by kernel_rfl) (ht rfl) isInt_un) rfl rfl rfl ?_
            refine jp (pa (ht rfl)) rfl rfl rfl ?_
            refine jp (pa (ht rfl)) rfl rfl rfl ?_
            refine j_end ?_
            refine rs ?_
            refine rt ?_
            refine jp (pm (ht rfl)) rfl rfl rfl ?_
            obtain ⟨x3, e15, h⟩ := bind_some h
            refine jp (pj_slice_slx (ht rfl) (.yes has_i64 isInt_i64) (.yes has_i64 isInt_i64) e15 (by kernel_rfl)) rfl rfl rfl ?_
            obtain ⟨x4, e16, h⟩ := bind_some h
            refine jp (pj_s2apx (e := 5) (ht rfl) e16 rfl (by kernel_rfl)) rfl rfl rfl ?_
            refine jp (pl (ht rfl) (by kernel_rfl)) rfl rfl rfl ?_
            refine j_alloc (x := (Vector.replicate 16 (0#8))) (R := R_api_ID) (zero_vec 16 zero_un) (by kernel_rfl) rfl fun b1 => ?_
            refine j_store_boxx (r' := x4) (ht rfl) (ht rfl) .here (Path.all R_api_ID) (by kernel_rfl) rfl ?_
            refine j_freezeTo (t := 11) .here (.of_lk rfl) ?_
            refine j_end ?_
            refine rs ?_
            refine rt ?_
            refine jp (pm (ht rfl)) rfl rfl rfl ?_
            obtain ⟨r5, e17, h⟩ := bind_some h
            refine jp (pj_call (hc (ht rfl) <| hasL_nil) (by kernel_rfl) (c_rolodexref04_Size e17)) rfl rfl rfl ?_
            refine jp (pa (ht rfl)) rfl rfl rfl ?_
            refine j_end ?_
            refine rs ?_
            refine rt ?_
            refine jp (pm (ht rfl)) rfl rfl rfl ?_
            obtain ⟨x5, e18, h⟩ := bind_some h
            refine jp (pj_slice_slx (ht rfl) .no (.yes has_i64 isInt_i64) e18 (by kernel_rfl)) rfl rfl rfl ?_
            obtain ⟨r6, e19, h⟩ := bind_some h
            refine jp (pj_call (hc (ht rfl) <| hasL_nil) (by kernel_rfl) (c_rolodexref01_Value e19)) rfl rfl rfl ?_
            refine jp (pa (ht rfl)) rfl rfl rfl ?_
            refine j_end ?_
            refine rs ?_
            refine rs ?_
            refine rt ?_
            refine jp (pm (ht rfl)) rfl rfl rfl ?_
            refine jp (pm (ht rfl)) rfl rfl rfl ?_
            refine jp (pm (ht rfl)) rfl rfl rfl ?_
            obtain ⟨r7, e20, h⟩ := bind_some h
            refine jp (pj_call (hc (ht rfl) <| hc (ht rfl) <| hasL_nil) (by kernel_rfl) (c_rolodexref05_Keys e20)) rfl rfl rfl ?_
            refine jp (pj_conv_un (k := .u64) (b := 64) rfl rfl (by kernel_rfl) (ht rfl) isInt_i64) rfl rfl rfl ?_
            refine jp (pj_ugeq (k := .u64) (b := 64) (ht rfl) (ht rfl)) rfl rfl rfl ?_
            refine jp (pm (ht rfl)) rfl rfl rfl ?_
            obtain ⟨y4, e22, h⟩ := bind_some h
            refine j_joinx (ι := Unit) (Γ' := fun _ => [(0, (sl u8).slot p_public), (1, (sl u8).slot p_message), (2, (sl u8).slot p_sig), (7, u64.slot r1), (9, i64.slot (w64 (r1.toNat : Int))), (10, i64.slot (w64 (r2.toNat : Int))), (11, ptrTo R_api_ID x4), (12, i64.slot r5), (13, u64.slot r6), (78, bl.slot y4)]) (H' := fun _ => []) 6 ?_ fun J => ?_
            · intro _
              clear e22
              show OpsJ _ _ _ [(0, (sl u8).slot p_public), (1, (sl u8).slot p_message), (2, (sl u8).slot p_sig), (7, u64.slot r1), (9, i64.slot (w64 (r1.toNat : Int))), (10, i64.slot (w64 (r2.toNat : Int))), (11, ptrTo R_api_ID x4), (12, i64.slot r5), (13, u64.slot r6), (78, bl.slot y4)] [] _
              refine jp (pm (ht rfl)) rfl rfl rfl ?_
              obtain ⟨y5, e26, h⟩ := bind_some h
              refine j_joinx (ι := Unit) (Γ' := fun _ => [(0, (sl u8).slot p_public), (1, (sl u8).slot p_message), (2, (sl u8).slot p_sig), (9, i64.slot (w64 (r1.toNat : Int))), (10, i64.slot (w64 (r2.toNat : Int))), (11, ptrTo R_api_ID x4), (12, i64.slot r5), (13, u64.slot r6), (89, bl.slot y5)]) (H' := fun _ => []) 10 ?_ fun J => ?_
              · intro _
                clear e26
                show OpsJ _ _ _ [(0, (sl u8).slot p_public), (1, (sl u8).slot p_message), (2, (sl u8).slot p_sig), (9, i64.slot (w64 (r1.toNat : Int))), (10, i64.slot (w64 (r2.toNat : Int))), (11, ptrTo R_api_ID x4), (12, i64.slot r5), (13, u64.slot r6), (89, bl.slot y5)] [] _
                refine j_end ?_
                refine run_cond (ht rfl) (fun e29 => ?_) (fun e29 => ?_)
                · replace h := bt e29 h
                  refine rs ?_
                  refine rt ?_
                  refine jp (pa has_bl) rfl rfl rfl ?_
                  refine j_end ?_
                  obtain rfl := oi h
                  exact run_ret fun a w hst => q_ret1 hst rfl (.tmp rfl) () (fun _ _ h => h) (.nil)
                · replace h := bf e29 h
                  refine run_skip ?_
                  refine rs ?_
                  obtain ⟨x8, e30, h⟩ := bind_some h
                  obtain ⟨r10, e31, h⟩ := bind_some h
                  refine run_keep (H' := []) (.nil) ?_
                  refine run_drawL (n := 14) (H := []) (Ls := [⟨[], [(12, ⟨Nat, fun (b2 : Nat) => [box b2 26 R_api_Hash (Vector.replicate 32 (0#8))], fun (b2 : Nat) => [(14, val (.pointer (some ⟨b2, 0, none⟩)))]⟩), (13, ⟨Nat, fun (b2 : Nat) => [box b2 26 R_api_Hash r10.1], fun (b2 : Nat) => [(14, val (.pointer (some ⟨b2, 0, none⟩)))]⟩)]⟩]) (by kernel_rfl) (by kernel_rfl) (by kernel_rfl) (by kernel_rfl) (by kernel_rfl) rfl (.read rfl (.plain rfl (pl (ht rfl) (by kernel_rfl))) <| .read rfl (.plain rfl (pm (ht rfl))) <| .read rfl (.plain rfl (pj_conv_uu (k := .u32) (b := 32) rfl rfl (by kernel_rfl) (ht rfl))) <| .read rfl (.plain rfl (pm (ht rfl))) <| .read rfl (.plain rfl (pm (ht rfl))) <| .read rfl (.plain rfl (pm (ht rfl))) <| .read rfl (.plain rfl (pj_iadd has_i64 (ht rfl))) <| .read rfl (.plain rfl (pj_slice_slx (ht rfl) (.yes has_i64 isInt_i64) (.yes (ht rfl) isInt_i64) e30 (by kernel_rfl))) <| .read rfl (.plain rfl (pj_call (hc (ht rfl) <| hc (ht rfl) <| hc (ht rfl) <| hc (ht rfl) <| hasL_nil) (by kernel_rfl) (c_rolodexref04_Recover e31))) <| .read rfl (.plain rfl (pm (ht rfl))) <| .read rfl (.plain rfl (pj_extract (ht rfl) rfl)) <| .read rfl (.plain rfl (pj_extract (ht rfl) rfl)) <| .step 0 rfl .here (.inl rfl) (fun i => ⟨_, _, fun j => j, (w_alloc (x := (Vector.replicate 32 (0#8))) (R := R_api_Hash) (zero_vec 32 zero_un) (by kernel_rfl) rfl), fun _ => rfl, slotAny, dst1⟩) <| .step 0 rfl (.next .here) (.inl rfl) (fun i => ⟨_, _, fun _ => i, (w_store (r' := r10.1) (ht rfl) (ht rfl) .here (Path.all R_api_Hash) (by kernel_rfl) rfl), fun _ => rfl, (slotNo (s := any)), dst0⟩) <| .nil) ?_
                  rintro b2
                  refine j_to (Γ' := [(0, (sl u8).slot p_public), (2, (sl u8).slot p_sig), (9, i64.slot (w64 (r1.toNat : Int))), (10, i64.slot (w64 (r2.toNat : Int))), (11, ptrTo R_api_ID x4), (12, i64.slot r5), (13, u64.slot r6), (14, val (.pointer (some ⟨b2, 0, none⟩))), (101, bl.slot r10.2)]) (H' := [box b2 26 R_api_Hash r10.1]) (.cons (.of_lk rfl) <| .cons (.of_lk rfl) <| .cons (.of_lk rfl) <| .cons (.of_lk rfl) <| .cons (.of_lk rfl) <| .cons (.of_lk rfl) <| .cons (.of_lk rfl) <| .cons (.of_lk rfl) <| .cons (.of_lk rfl) <| .nil) (.cons .here <| .nil) ?_
                  refine jp (pa (ht rfl)) rfl rfl rfl ?_
                  refine j_end ?_
                  refine rs ?_
                  refine rt ?_
                  refine jp (pm (ht rfl)) rfl rfl rfl ?_
                  refine jp (pm (ht rfl)) rfl rfl rfl ?_
                  obtain ⟨r11, e32, h⟩ := bind_some h
                  refine jp (pj_call (hc (ht rfl) <| hc (ht rfl) <| hasL_nil) (by kernel_rfl) (c_rolodexref05_Keys e32)) rfl rfl rfl ?_
                  refine jp (pm (ht rfl)) rfl rfl rfl ?_
                  refine jp (pj_conv_i64 (by kernel_rfl) (ht rfl) isInt_un) rfl rfl rfl ?_
                  refine jp (pj_iadd (ht rfl) (ht rfl)) rfl rfl rfl ?_
                  refine jp (pa (ht rfl)) rfl rfl rfl ?_
                  refine j_end ?_
                  refine rs ?_
                  obtain ⟨r12, e33, h⟩ := bind_some h
                  refine run_keep (H' := [box b2 26 R_api_Hash r10.1]) (.cons .here <| .nil) ?_
                  refine run_drawL (n := 5) (H := [box b2 26 R_api_Hash r10.1]) (Ls := [⟨[], [(4, ⟨Nat, fun (b3 : Nat) => [box b3 26 R_api_Hash (Vector.replicate 32 (0#8))], fun (b3 : Nat) => [(17, val (.pointer (some ⟨b3, 0, none⟩)))]⟩)]⟩]) (by kernel_rfl) (by kernel_rfl) (by kernel_rfl) (by kernel_rfl) (by kernel_rfl) rfl (.read rfl (.plain rfl (pl (ht rfl) (by kernel_rfl))) <| .read rfl (.plain rfl (pm (ht rfl))) <| .read rfl (.plain rfl (pj_slice_arrc (lo := 0) (sz := 1) (n := 32) (ht rfl) .no .no 32 32 rfl (by kernel_rfl))) <| .read rfl (.plain rfl (pj_callB (hasBL_cons (hasB_of (ht rfl)) <| hasBL_cons (hasB_of (ht rfl)) <| hasBL_cons (hasB_of has_i64) <| hasBL_cons (hasB_arrF (ht rfl) .here (by decide)) <| hasBL_nil) (by kernel_rfl) (c_rolodexref05_Node e33) (Rep.flat_slot (flat_vec _ (flat_un _ _)) _))) <| .step 0 rfl .here (.inl rfl) (fun i => ⟨_, _, fun j => j, (w_alloc (x := (Vector.replicate 32 (0#8))) (R := R_api_Hash) (zero_vec 32 zero_un) (by kernel_rfl) rfl), fun _ => rfl, slotAny, dst1⟩) <| .nil) ?_
                  rintro b3
                  refine j_to (Γ' := [(0, (sl u8).slot p_public), (2, (sl u8).slot p_sig), (9, i64.slot (w64 (r1.toNat : Int))), (11, ptrTo R_api_ID x4), (12, i64.slot r5), (15, bl.slot r10.2), (16, i64.slot (w64 (r11 + (w64 (r6.toNat : Int))))), (17, val (.pointer (some ⟨b3, 0, none⟩))), (111, R_api_Hash.slot r12)]) (H' := [box b3 26 R_api_Hash (Vector.replicate 32 (0#8))]) (.cons (.of_lk rfl) <| .cons (.of_lk rfl) <| .cons (.of_lk rfl) <| .cons (.of_lk rfl) <| .cons (.of_lk rfl) <| .cons (.of_lk rfl) <| .cons (.of_lk rfl) <| .cons (.of_lk rfl) <| .cons (.of_lk rfl) <| .nil) (.cons .here <| .nil) ?_
                  refine j_store_boxx (r' := r12) (ht rfl) (ht rfl) .here (Path.all R_api_Hash) (by kernel_rfl) rfl ?_
                  refine j_end ?_
                  refine rs ?_
                  refine rs ?_
                  refine rt ?_
                  refine jp (pa has_i64) rfl rfl rfl ?_
                  refine j_end ?_
                  obtain ⟨⟨y9, y10, y11⟩, e42, h⟩ := bind_some h
                  refine run_loopS (Γi := fun (i : Unit) (s : Int × Int × T_api_Hash) => [(0, (sl u8).slot p_public), (2, (sl u8).slot p_sig), (9, i64.slot (w64 (r1.toNat : Int))), (11, ptrTo R_api_ID x4), (12, i64.slot r5), (15, bl.slot r10.2), (16, i64.slot s.1), (17, val (.pointer (some ⟨b3, 0, none⟩))), (18, i64.slot s.2.1)]) (Hi := fun (i : Unit) (s : Int × Int × T_api_Hash) => [box b3 26 R_api_Hash s.2.2]) e42 () (fun a w hst => (hst.sub (.cons (.of_lk rfl) <| .cons (.of_lk rfl) <| .cons (.of_lk rfl) <| .cons (.of_lk rfl) <| .cons (.of_lk rfl) <| .cons (.of_lk rfl) <| .cons (.of_lk rfl) <| .cons (.of_lk rfl) <| .cons (.of_lk rfl) <| .nil)).keep (.cons .here <| .nil)) ?_ ?_
                  · clear h e42
                    rintro _ ⟨y6, y7, y8⟩ lr h
                    change rolodexref05_Verify_L1 r1 p_sig r5 x4 y6 y7 y8 = some _ at h
                    show Run _ _ _ [(0, (sl u8).slot p_public), (2, (sl u8).slot p_sig), (9, i64.slot (w64 (r1.toNat : Int))), (11, ptrTo R_api_ID x4), (12, i64.slot r5), (15, bl.slot r10.2), (16, i64.slot y6), (17, val (.pointer (some ⟨b3, 0, none⟩))), (18, i64.slot y7)] [box b3 26 R_api_Hash y8]
                    unfold rolodexref05_Verify_L1 at h
                    refine rs ?_
                    refine rs ?_
                    refine rt ?_
                    refine jp (pm (ht rfl)) rfl rfl rfl ?_
                    refine jp (pm (ht rfl)) rfl rfl rfl ?_
                    refine jp (pj_ilss (ht rfl) (ht rfl)) rfl rfl rfl ?_
                    refine j_end ?_
                    refine run_cond (ht rfl) (fun e34 => ?_) (fun e34 => ?_)
                    · replace h := bt e34 h
                      refine run_skip ?_
                      refine rs ?_
                      refine run_block ?_
                      refine rs ?_
                      refine rt ?_
                      refine jp (pm (ht rfl)) rfl rfl rfl ?_
                      refine jp (pm (ht rfl)) rfl rfl rfl ?_
                      refine jp (pj_iadd has_i64 (ht rfl)) rfl rfl rfl ?_
                      refine jp (pm (ht rfl)) rfl rfl rfl ?_
                      refine jp (pj_imul has_i64 (ht rfl)) rfl rfl rfl ?_
                      refine jp (pj_iadd (ht rfl) (ht rfl)) rfl rfl rfl ?_
                      refine jp (pm (ht rfl)) rfl rfl rfl ?_
                      refine jp (pj_iadd has_i64 (ht rfl)) rfl rfl rfl ?_
                      refine jp (pm (ht rfl)) rfl rfl rfl ?_
                      refine jp (pj_imul has_i64 (ht rfl)) rfl rfl rfl ?_
                      refine jp (pj_iadd (ht rfl) (ht rfl)) rfl rfl rfl ?_
                      obtain ⟨x9, e35, h⟩ := bind_some h
                      refine jp (pj_slice_slx (ht rfl) (.yes (ht rfl) isInt_i64) (.yes (ht rfl) isInt_i64) e35 (by kernel_rfl)) rfl rfl rfl ?_
                      obtain ⟨x10, e36, h⟩ := bind_some h
                      refine jp (pj_s2apx (e := 5) (ht rfl) e36 rfl (by kernel_rfl)) rfl rfl rfl ?_
                      refine jp (pl (ht rfl) (by kernel_rfl)) rfl rfl rfl ?_
                      refine j_alloc (x := (Vector.replicate 32 (0#8))) (R := R_api_Hash) (zero_vec 32 zero_un) (by kernel_rfl) rfl fun b4 => ?_
                      refine j_store_boxx (r' := x10) (ht rfl) (ht rfl) .here (Path.all R_api_Hash) (by kernel_rfl) rfl ?_
                      refine j_freezeTo (t := 19) .here (.of_lk rfl) ?_
                      refine j_end ?_
                      refine rs ?_
                      refine rs ?_
                      refine rt ?_
                      refine jp (pm (ht rfl)) rfl rfl rfl ?_
                      refine jp (pj_irem (ht rfl) has_i64 (by decide)) rfl rfl rfl ?_
                      refine jp (pj_ieql (ht rfl) has_i64) rfl rfl rfl ?_
                      refine j_end ?_
                      refine run_cond (ht rfl) (fun e37 => ?_) (fun e37 => ?_)
                      · replace h := bt e37 h
                        obtain ⟨r13, e38, h⟩ := bind_some h
                        refine run_draw (n := 6) (by kernel_rfl) (by kernel_rfl) (by kernel_rfl) (by kernel_rfl) (.read (.plain rfl (pl (ht rfl) (by kernel_rfl))) <| .read (.plain rfl (pm (ht rfl))) <| .read (.plain rfl (pj_iquo (ht rfl) has_i64 (by decide))) <| .read (.plain rfl (pj_load_box (ht rfl) .here (Path.all R_api_Hash) (by kernel_rfl))) <| .read (.plain rfl (pl (ht rfl) (by kernel_rfl))) <| .read (.plain rfl (pj_call (hc (ht rfl) <| hc (ht rfl) <| hasL_nil) (by kernel_rfl) (Ctr.froze (c_rolodexref05_two e38)))) <| .nil) (j_to (Γ' := [(0, (sl u8).slot p_public), (2, (sl u8).slot p_sig), (9, i64.slot (w64 (r1.toNat : Int))), (11, ptrTo R_api_ID x4), (12, i64.slot r5), (15, bl.slot r10.2), (16, i64.slot y6), (17, val (.pointer (some ⟨b3, 0, none⟩))), (18, i64.slot y7), (134, R_api_ID.slot x4), (136, i64.slot (w64 (Int.tdiv y6 (2 : Int)))), (139, (sl u8).slot r13)]) (H' := [box b3 26 R_api_Hash y8]) (.cons (.of_lk rfl) <| .cons (.of_lk rfl) <| .cons (.of_lk rfl) <| .cons (.of_lk rfl) <| .cons (.of_lk rfl) <| .cons (.of_lk rfl) <| .cons (.of_lk rfl) <| .cons (.of_lk rfl) <| .cons (.of_lk rfl) <| .cons (.of_lk rfl) <| .cons (.of_lk rfl) <| .cons (.of_lk rfl) <| .nil) (.cons .here <| .nil) ?_)
                        obtain ⟨r14, e39, h⟩ := bind_some h
                        refine jp (pj_call (hc (ht rfl) <| hc (ht rfl) <| hc has_i64 <| hc (ht rfl) <| hasL_nil) (by kernel_rfl) (c_rolodexref05_Node e39)) rfl rfl rfl ?_
                        refine j_store_boxx (r' := r14) (ht rfl) (ht rfl) .here (Path.all R_api_Hash) (by kernel_rfl) rfl ?_
                        refine j_end ?_
                        refine rt ?_
                        refine jp (pm (ht rfl)) rfl rfl rfl ?_
                        refine jp (pj_iquo (ht rfl) has_i64 (by decide)) rfl rfl rfl ?_
                        refine jp (pa (ht rfl)) rfl rfl rfl ?_
                        refine j_end ?_
                        refine run_endblock ?_
                        refine rt ?_
                        refine jp (pm (ht rfl)) rfl rfl rfl ?_
                        refine jp (pj_iadd (ht rfl) has_i64) rfl rfl rfl ?_
                        refine jp (pa (ht rfl)) rfl rfl rfl ?_
                        refine j_end ?_
                        obtain rfl := oi h
                        exact run_next () (.cons (.of_lk rfl) <| .cons (.of_lk rfl) <| .cons (.of_lk rfl) <| .cons (.of_lk rfl) <| .cons (.of_lk rfl) <| .cons (.of_lk rfl) <| .cons (.of_lk rfl) <| .cons (.of_lk rfl) <| .cons (.of_lk rfl) <| .nil) (.cons .here <| .nil)
                      · replace h := bf e37 h
                        obtain ⟨r15, e40, h⟩ := bind_some h
                        refine run_draw (n := 6) (by kernel_rfl) (by kernel_rfl) (by kernel_rfl) (by kernel_rfl) (.read (.plain rfl (pl (ht rfl) (by kernel_rfl))) <| .read (.plain rfl (pm (ht rfl))) <| .read (.plain rfl (pj_iquo (ht rfl) has_i64 (by decide))) <| .read (.plain rfl (pl (ht rfl) (by kernel_rfl))) <| .read (.plain rfl (pj_load_box (ht rfl) .here (Path.all R_api_Hash) (by kernel_rfl))) <| .read (.plain rfl (pj_call (hc (ht rfl) <| hc (ht rfl) <| hasL_nil) (by kernel_rfl) (Ctr.froze (c_rolodexref05_two e40)))) <| .nil) (j_to (Γ' := [(0, (sl u8).slot p_public), (2, (sl u8).slot p_sig), (9, i64.slot (w64 (r1.toNat : Int))), (11, ptrTo R_api_ID x4), (12, i64.slot r5), (15, bl.slot r10.2), (16, i64.slot y6), (17, val (.pointer (some ⟨b3, 0, none⟩))), (18, i64.slot y7), (141, R_api_ID.slot x4), (143, i64.slot (w64 (Int.tdiv y6 (2 : Int)))), (146, (sl u8).slot r15)]) (H' := [box b3 26 R_api_Hash y8]) (.cons (.of_lk rfl) <| .cons (.of_lk rfl) <| .cons (.of_lk rfl) <| .cons (.of_lk rfl) <| .cons (.of_lk rfl) <| .cons (.of_lk rfl) <| .cons (.of_lk rfl) <| .cons (.of_lk rfl) <| .cons (.of_lk rfl) <| .cons (.of_lk rfl) <| .cons (.of_lk rfl) <| .cons (.of_lk rfl) <| .nil) (.cons .here <| .nil) ?_)
                        obtain ⟨r16, e41, h⟩ := bind_some h
                        refine jp (pj_call (hc (ht rfl) <| hc (ht rfl) <| hc has_i64 <| hc (ht rfl) <| hasL_nil) (by kernel_rfl) (c_rolodexref05_Node e41)) rfl rfl rfl ?_
                        refine j_store_boxx (r' := r16) (ht rfl) (ht rfl) .here (Path.all R_api_Hash) (by kernel_rfl) rfl ?_
                        refine j_end ?_
                        refine rt ?_
                        refine jp (pm (ht rfl)) rfl rfl rfl ?_
                        refine jp (pj_iquo (ht rfl) has_i64 (by decide)) rfl rfl rfl ?_
                        refine jp (pa (ht rfl)) rfl rfl rfl ?_
                        refine j_end ?_
                        refine run_endblock ?_
                        refine rt ?_
                        refine jp (pm (ht rfl)) rfl rfl rfl ?_
                        refine jp (pj_iadd (ht rfl) has_i64) rfl rfl rfl ?_
                        refine jp (pa (ht rfl)) rfl rfl rfl ?_
                        refine j_end ?_
                        obtain rfl := oi h
                        exact run_next () (.cons (.of_lk rfl) <| .cons (.of_lk rfl) <| .cons (.of_lk rfl) <| .cons (.of_lk rfl) <| .cons (.of_lk rfl) <| .cons (.of_lk rfl) <| .cons (.of_lk rfl) <| .cons (.of_lk rfl) <| .cons (.of_lk rfl) <| .nil) (.cons .here <| .nil)
                    · replace h := bf e34 h
                      obtain rfl := oi h
                      exact run_brk () (.cons (.of_lk rfl) <| .cons (.of_lk rfl) <| .cons (.of_lk rfl) <| .cons (.of_lk rfl) <| .cons (.of_lk rfl) <| .cons (.of_lk rfl) <| .cons (.of_lk rfl) <| .cons (.of_lk rfl) <| .cons (.of_lk rfl) <| .nil) (.cons .here <| .nil)
                  · rintro _
                    show Run _ _ _ [(0, (sl u8).slot p_public), (2, (sl u8).slot p_sig), (9, i64.slot (w64 (r1.toNat : Int))), (11, ptrTo R_api_ID x4), (12, i64.slot r5), (15, bl.slot r10.2), (16, i64.slot y9), (17, val (.pointer (some ⟨b3, 0, none⟩))), (18, i64.slot y10)] [box b3 26 R_api_Hash y11]
                    refine run_to (Γ' := [(0, (sl u8).slot p_public), (15, bl.slot r10.2), (17, val (.pointer (some ⟨b3, 0, none⟩)))]) (H' := [box b3 26 R_api_Hash y11]) (.cons (.of_lk rfl) <| .cons (.of_lk rfl) <| .cons (.of_lk rfl) <| .nil) (.cons .here <| .nil) ?_
                    refine rs ?_
                    obtain ⟨y12, e44, h⟩ := bind_some h
                    refine (run_drawJ (n := 7) (Γ' := [(156, bl.slot y12)]) (H' := []) ?_ fun J => ?_)
                    · clear e44
                      refine jp (pa (ht rfl)) rfl rfl rfl ?_
                      refine j_end ?_
                      obtain rfl := oi h
                      exact run_ret fun a w hst => q_ret1 hst rfl (.tmp rfl) () (fun _ _ h => h) (.nil)
                    · rcases bool_tf (r10.2) with e43 | e43
                      · replace e44 := bt e43 e44
                        obtain ⟨x11, e45, e44⟩ := bind_some e44
                        obtain ⟨r17, e46, e44⟩ := bind_some e44
                        exact run_draw (n := 7) (by kernel_rfl) (by kernel_rfl) (by kernel_rfl) (by kernel_rfl) (.read (.plain rfl (pm (ht rfl))) <| .read (.plain rfl (pm (ht rfl))) <| .read (.yes ⟨1, true, _, 151, _, rfl, rfl, rfl, fun _ _ => bl_p.1, gd_yes e43⟩ (pj_slice_arrc (lo := 0) (sz := 1) (n := 32) (ht rfl) .no .no 32 32 rfl (by kernel_rfl))) <| .read (.yes ⟨1, true, _, 151, _, rfl, rfl, rfl, fun _ _ => bl_p.1, gd_yes e43⟩ (pm (ht rfl))) <| .read (.yes ⟨1, true, _, 151, _, rfl, rfl, rfl, fun _ _ => bl_p.1, gd_yes e43⟩ (pj_slice_slx (ht rfl) (.yes has_i64 isInt_i64) (.yes has_i64 isInt_i64) e45 (by kernel_rfl))) <| .read (.yes ⟨1, true, _, 151, _, rfl, rfl, rfl, fun _ _ => bl_p.1, gd_yes e43⟩ (pj_callB (hasBL_cons (hasB_arrF (ht rfl) .here (by decide)) <| hasBL_cons (hasB_of (ht rfl)) <| hasBL_nil) (by kernel_rfl) (c_rolodexref01_Same e46) (Rep.flat_slot flat_bl _))) <| .read (.plain rfl (PJ.eqv (R := bl) (pj_pick (t := any) (ht rfl) (fun _ => (ht rfl)) (fun he => absurd (e43.symm.trans he) (by decide))) (oi e44))) <| .nil) (j_to (Γ' := [(156, bl.slot y12)]) (H' := []) (.cons (.of_lk rfl) <| .nil) (.nil) J)
                      · replace e44 := bf e43 e44
                        exact run_draw (n := 7) (by kernel_rfl) (by kernel_rfl) (by kernel_rfl) (by kernel_rfl) (.read (.plain rfl (pm (ht rfl))) <| .read (.plain rfl (pm (ht rfl))) <| .read (.no ⟨1, true, _, 151, _, rfl, rfl, rfl, fun _ _ => bl_p.1, gd_no e43⟩) <| .read (.no ⟨1, true, _, 151, _, rfl, rfl, rfl, fun _ _ => bl_p.1, gd_no e43⟩) <| .read (.no ⟨1, true, _, 151, _, rfl, rfl, rfl, fun _ _ => bl_p.1, gd_no e43⟩) <| .read (.no ⟨1, true, _, 151, _, rfl, rfl, rfl, fun _ _ => bl_p.1, gd_no e43⟩) <| .read (.plain rfl (PJ.eqv (R := bl) (pj_pick (t := any) (ht rfl) (fun he => absurd (e43.symm.trans he) (by decide)) (fun _ => has_bl)) (oi e44))) <| .nil) (j_to (Γ' := [(156, bl.slot y12)]) (H' := []) (.cons (.of_lk rfl) <| .nil) (.nil) J)
              · rcases bool_tf (y4) with e25 | e25
                · replace e26 := bt e25 e26
                  refine j_guard_no2 (j := 13) (want := false) rfl rfl rfl rfl (bl_isx e25) rfl rfl rfl ?_
                  refine j_guard_no2 (j := 13) (want := false) rfl rfl rfl rfl (bl_isx e25) rfl rfl rfl ?_
                  refine j_guard_no2 (j := 13) (want := false) rfl rfl rfl rfl (bl_isx e25) rfl rfl rfl ?_
                  refine j_guard_no2 (j := 13) (want := false) rfl rfl rfl rfl (bl_isx e25) rfl rfl rfl ?_
                  refine j_guard_no2 (j := 13) (want := false) rfl rfl rfl rfl (bl_isx e25) rfl rfl rfl ?_
                  refine j_guard_no2 (j := 13) (want := false) rfl rfl rfl rfl (bl_isx e25) rfl rfl rfl ?_
                  refine j_guard_no2 (j := 13) (want := false) rfl rfl rfl rfl (bl_isx e25) rfl rfl rfl ?_
                  refine j_guard_no2 (j := 13) (want := false) rfl rfl rfl rfl (bl_isx e25) rfl rfl rfl ?_
                  refine j_guard_no2 (j := 13) (want := false) rfl rfl rfl rfl (bl_isx e25) rfl rfl rfl ?_
                  refine jp (PJ.eqv (R := bl) (pj_pick (t := any) (ht rfl) (fun _ => has_bl) (fun he => absurd (e25.symm.trans he) (by decide))) (oi e26)) rfl rfl rfl ?_
                  exact j_to (.cons (.of_lk rfl) <| .cons (.of_lk rfl) <| .cons (.of_lk rfl) <| .cons (.of_lk rfl) <| .cons (.of_lk rfl) <| .cons (.of_lk rfl) <| .cons (.of_lk rfl) <| .cons (.of_lk rfl) <| .cons (.of_lk rfl) <| .nil) (.nil) (J ())
                · replace e26 := bf e25 e26
                  refine jy (pm (ht rfl)) rfl rfl rfl rfl (bl_isx e25) rfl rfl ?_
                  refine jy (pm (ht rfl)) rfl rfl rfl rfl (bl_isx e25) rfl rfl ?_
                  refine jy (pj_iadd has_i64 (ht rfl)) rfl rfl rfl rfl (bl_isx e25) rfl rfl ?_
                  refine jy (pm (ht rfl)) rfl rfl rfl rfl (bl_isx e25) rfl rfl ?_
                  refine jy (pj_iadd has_i64 (ht rfl)) rfl rfl rfl rfl (bl_isx e25) rfl rfl ?_
                  obtain ⟨x7, e27, e26⟩ := bind_some e26
                  refine jy (pj_slice_slx (ht rfl) (.yes (ht rfl) isInt_i64) (.yes (ht rfl) isInt_i64) e27 (by kernel_rfl)) rfl rfl rfl rfl (bl_isx e25) rfl rfl ?_
                  obtain ⟨r9, e28, e26⟩ := bind_some e26
                  refine jy (pj_call (hc (ht rfl) <| hasL_nil) (by kernel_rfl) (c_rolodexref01_Value e28)) rfl rfl rfl rfl (bl_isx e25) rfl rfl ?_
                  refine jy (pm (ht rfl)) rfl rfl rfl rfl (bl_isx e25) rfl rfl ?_
                  refine jy (pj_uneq (k := .u64) (b := 64) (ht rfl) (ht rfl)) rfl rfl rfl rfl (bl_isx e25) rfl rfl ?_
                  refine jp (PJ.eqv (R := bl) (pj_pick (t := any) (ht rfl) (fun he => absurd (e25.symm.trans he) (by decide)) (fun _ => (ht rfl))) (oi e26)) rfl rfl rfl ?_
                  exact j_to (.cons (.of_lk rfl) <| .cons (.of_lk rfl) <| .cons (.of_lk rfl) <| .cons (.of_lk rfl) <| .cons (.of_lk rfl) <| .cons (.of_lk rfl) <| .cons (.of_lk rfl) <| .cons (.of_lk rfl) <| .cons (.of_lk rfl) <| .nil) (.nil) (J ())
            · rcases bool_tf (decide ((BitVec.ofInt 64 r7) ≤ r6)) with e21 | e21
              · replace e22 := bt e21 e22
                refine j_guard_no2 (j := 6) (want := false) rfl rfl rfl rfl (bl_isx e21) rfl rfl rfl ?_
                refine j_guard_no2 (j := 6) (want := false) rfl rfl rfl rfl (bl_isx e21) rfl rfl rfl ?_
                refine j_guard_no2 (j := 6) (want := false) rfl rfl rfl rfl (bl_isx e21) rfl rfl rfl ?_
                refine j_guard_no2 (j := 6) (want := false) rfl rfl rfl rfl (bl_isx e21) rfl rfl rfl ?_
                refine j_guard_no2 (j := 6) (want := false) rfl rfl rfl rfl (bl_isx e21) rfl rfl rfl ?_
                refine jp (PJ.eqv (R := bl) (pj_pick (t := any) (ht rfl) (fun _ => has_bl) (fun he => absurd (e21.symm.trans he) (by decide))) (oi e22)) rfl rfl rfl ?_
                exact j_to (.cons (.of_lk rfl) <| .cons (.of_lk rfl) <| .cons (.of_lk rfl) <| .cons (.of_lk rfl) <| .cons (.of_lk rfl) <| .cons (.of_lk rfl) <| .cons (.of_lk rfl) <| .cons (.of_lk rfl) <| .cons (.of_lk rfl) <| .cons (.of_lk rfl) <| .nil) (.nil) (J ())
              · replace e22 := bf e21 e22
                refine jy (pm (ht rfl)) rfl rfl rfl rfl (bl_isx e21) rfl rfl ?_
                obtain ⟨x6, e23, e22⟩ := bind_some e22
                refine jy (pj_slice_slx (ht rfl) (.yes has_i64 isInt_i64) (.yes has_i64 isInt_i64) e23 (by kernel_rfl)) rfl rfl rfl rfl (bl_isx e21) rfl rfl ?_
                obtain ⟨r8, e24, e22⟩ := bind_some e22
                refine jy (pj_call (hc (ht rfl) <| hasL_nil) (by kernel_rfl) (c_rolodexref01_Value e24)) rfl rfl rfl rfl (bl_isx e21) rfl rfl ?_
                refine jy (pm (ht rfl)) rfl rfl rfl rfl (bl_isx e21) rfl rfl ?_
                refine jy (pj_uneq (k := .u64) (b := 64) (ht rfl) (ht rfl)) rfl rfl rfl rfl (bl_isx e21) rfl rfl ?_
                refine jp (PJ.eqv (R := bl) (pj_pick (t := any) (ht rfl) (fun he => absurd (e21.symm.trans he) (by decide)) (fun _ => (ht rfl))) (oi e22)) rfl rfl rfl ?_
                exact j_to (.cons (.of_lk rfl) <| .cons (.of_lk rfl) <| .cons (.of_lk rfl) <| .cons (.of_lk rfl) <| .cons (.of_lk rfl) <| .cons (.of_lk rfl) <| .cons (.of_lk rfl) <| .cons (.of_lk rfl) <| .cons (.of_lk rfl) <| .cons (.of_lk rfl) <| .nil) (.nil) (J ())
        · rcases bool_tf (y2) with e11 | e11
          · replace e12 := bt e11 e12
            refine j_guard_no2 (j := 14) (want := false) rfl rfl rfl rfl (bl_isx e11) rfl rfl rfl ?_
            refine j_guard_no2 (j := 14) (want := false) rfl rfl rfl rfl (bl_isx e11) rfl rfl rfl ?_
            refine j_guard_no2 (j := 14) (want := false) rfl rfl rfl rfl (bl_isx e11) rfl rfl rfl ?_
            refine j_guard_no2 (j := 14) (want := false) rfl rfl rfl rfl (bl_isx e11) rfl rfl rfl ?_
            refine j_guard_no2 (j := 14) (want := false) rfl rfl rfl rfl (bl_isx e11) rfl rfl rfl ?_
            refine j_guard_no2 (j := 14) (want := false) rfl rfl rfl rfl (bl_isx e11) rfl rfl rfl ?_
            refine j_guard_no2 (j := 14) (want := false) rfl rfl rfl rfl (bl_isx e11) rfl rfl rfl ?_
            refine j_guard_no2 (j := 14) (want := false) rfl rfl rfl rfl (bl_isx e11) rfl rfl rfl ?_
            refine jp (PJ.eqv (R := bl) (pj_pick (t := any) (ht rfl) (fun _ => has_bl) (fun he => absurd (e11.symm.trans he) (by decide))) (oi e12)) rfl rfl rfl ?_
            exact j_to (.cons (.of_lk rfl) <| .cons (.of_lk rfl) <| .cons (.of_lk rfl) <| .cons (.of_lk rfl) <| .cons (.of_lk rfl) <| .cons (.of_lk rfl) <| .nil) (.nil) (J ())
          · replace e12 := bf e11 e12
            refine jy (pm (ht rfl)) rfl rfl rfl rfl (bl_isx e11) rfl rfl ?_
            refine jy (pj_len_sl (sz := 1) (ht rfl) (by kernel_rfl)) rfl rfl rfl rfl (bl_isx e11) rfl rfl ?_
            refine jy (pm (ht rfl)) rfl rfl rfl rfl (bl_isx e11) rfl rfl ?_
            refine jy (pj_conv_i64 (by kernel_rfl) (ht rfl) isInt_un) rfl rfl rfl rfl (bl_isx e11) rfl rfl ?_
            refine jy (pm (ht rfl)) rfl rfl rfl rfl (bl_isx e11) rfl rfl ?_
            refine jy (pj_conv_i64 (by kernel_rfl) (ht rfl) isInt_un) rfl rfl rfl rfl (bl_isx e11) rfl rfl ?_
            obtain ⟨r4, e13, e12⟩ := bind_some e12
            refine jy (pj_call (hc (ht rfl) <| hc (ht rfl) <| hasL_nil) (by kernel_rfl) (c_rolodexref05_Size e13)) rfl rfl rfl rfl (bl_isx e11) rfl rfl ?_
            refine jy (pj_ineq (ht rfl) (ht rfl)) rfl rfl rfl rfl (bl_isx e11) rfl rfl ?_
            refine jp (PJ.eqv (R := bl) (pj_pick (t := any) (ht rfl) (fun he => absurd (e11.symm.trans he) (by decide)) (fun _ => (ht rfl))) (oi e12)) rfl rfl rfl ?_
            exact j_to (.cons (.of_lk rfl) <| .cons (.of_lk rfl) <| .cons (.of_lk rfl) <| .cons (.of_lk rfl) <| .cons (.of_lk rfl) <| .cons (.of_lk rfl) <| .nil) (.nil) (J ())
      · rcases bool_tf (y1) with e8 | e8
        · replace e9 := bt e8 e9
          refine j_guard_no2 (j := 6) (want := false) rfl rfl rfl rfl (bl_isx e8) rfl rfl rfl ?_
          refine j_guard_no2 (j := 6) (want := false) rfl rfl rfl rfl (bl_isx e8) rfl rfl rfl ?_
          refine j_guard_no2 (j := 6) (want := false) rfl rfl rfl rfl (bl_isx e8) rfl rfl rfl ?_
          refine j_guard_no2 (j := 6) (want := false) rfl rfl rfl rfl (bl_isx e8) rfl rfl rfl ?_
          refine j_guard_no2 (j := 6) (want := false) rfl rfl rfl rfl (bl_isx e8) rfl rfl rfl ?_
          refine j_guard_no2 (j := 6) (want := false) rfl rfl rfl rfl (bl_isx e8) rfl rfl rfl ?_
          refine jp (PJ.eqv (R := bl) (pj_pick (t := any) (ht rfl) (fun _ => has_bl) (fun he => absurd (e8.symm.trans he) (by decide))) (oi e9)) rfl rfl rfl ?_
          exact j_to (.cons (.of_lk rfl) <| .cons (.of_lk rfl) <| .cons (.of_lk rfl) <| .cons (.of_lk rfl) <| .cons (.of_lk rfl) <| .cons (.of_lk rfl) <| .nil) (.nil) (J ())
        · replace e9 := bf e8 e9
          refine jy (pm (ht rfl)) rfl rfl rfl rfl (bl_isx e8) rfl rfl ?_
          refine jy (pj_conv_i64 (by kernel_rfl) (ht rfl) isInt_un) rfl rfl rfl rfl (bl_isx e8) rfl rfl ?_
          refine jy (pm (ht rfl)) rfl rfl rfl rfl (bl_isx e8) rfl rfl ?_
          refine jy (pj_conv_i64 (by kernel_rfl) (ht rfl) isInt_un) rfl rfl rfl rfl (bl_isx e8) rfl rfl ?_
          obtain ⟨r3, e10, e9⟩ := bind_some e9
          refine jy (pj_call (hc (ht rfl) <| hc (ht rfl) <| hasL_nil) (by kernel_rfl) (c_rolodexref05_Keys e10)) rfl rfl rfl rfl (bl_isx e8) rfl rfl ?_
          refine jy (pj_ieql (ht rfl) has_i64) rfl rfl rfl rfl (bl_isx e8) rfl rfl ?_
          refine jp (PJ.eqv (R := bl) (pj_pick (t := any) (ht rfl) (fun he => absurd (e8.symm.trans he) (by decide)) (fun _ => (ht rfl))) (oi e9)) rfl rfl rfl ?_
          exact j_to (.cons (.of_lk rfl) <| .cons (.of_lk rfl) <| .cons (.of_lk rfl) <| .cons (.of_lk rfl) <| .cons (.of_lk rfl) <| .cons (.of_lk rfl) <| .nil) (.nil) (J ())
    · rcases bool_tf (decide ((4#64) < r1)) with e6 | e6
      · replace e7 := bt e6 e7
        refine j_guard_no2 (j := 2) (want := false) rfl rfl rfl rfl (bl_isx e6) rfl rfl rfl ?_
        refine j_guard_no2 (j := 2) (want := false) rfl rfl rfl rfl (bl_isx e6) rfl rfl rfl ?_
        refine jp (PJ.eqv (R := bl) (pj_pick (t := any) (ht rfl) (fun _ => has_bl) (fun he => absurd (e6.symm.trans he) (by decide))) (oi e7)) rfl rfl rfl ?_
        exact j_to (.cons (.of_lk rfl) <| .cons (.of_lk rfl) <| .cons (.of_lk rfl) <| .cons (.of_lk rfl) <| .cons (.of_lk rfl) <| .cons (.of_lk rfl) <| .nil) (.nil) (J ())
      · replace e7 := bf e6 e7
        refine jy (pm (ht rfl)) rfl rfl rfl rfl (bl_isx e6) rfl rfl ?_
        refine jy (pj_ugtr (k := .u64) (b := 64) (ht rfl) (has_un (x := 4#64) rfl)) rfl rfl rfl rfl (bl_isx e6) rfl rfl ?_
        refine jp (PJ.eqv (R := bl) (pj_pick (t := any) (ht rfl) (fun he => absurd (e6.symm.trans he) (by decide)) (fun _ => (ht rfl))) (oi e7)) rfl rfl rfl ?_
        exact j_to (.cons (.of_lk rfl) <| .cons (.of_lk rfl) <| .cons (.of_lk rfl) <| .cons (.of_lk rfl) <| .cons (.of_lk rfl) <| .cons (.of_lk rfl) <| .nil) (.nil) (J ())
set_option maxRecDepth 100000 in
set_option maxHeartbeats 4000000 in
theorem c_rolodexref06_Verify {G : GP} {p_public : List (BitVec 8)} {p_message : List (BitVec 8)} {p_sig : List (BitVec 8)} {r : Bool} (h : rolodexref06_Verify p_public p_message p_sig = some r) : Ctr Tryd.prog G 41 [(sl u8).slot p_public, (sl u8).slot p_message, (sl u8).slot p_sig] [] (fun (_ : Unit) => bl.slot r) (fun (_ : Unit) => []) := by
  unfold rolodexref06_Verify at h
  refine ctr_of_run Tryd.func41 rfl 80 rfl rfl fun m0 w0 b0 => ?_
  show Run _ _ _ [(0, (sl u8).slot p_public), (1, (sl u8).slot p_message), (2, (sl u8).slot p_sig)] _
  refine rs ?_
  refine rt ?_
  refine jp (pa has_bl) rfl rfl rfl ?_
  refine j_end ?_
  refine rs ?_
  refine rs ?_
  refine rt ?_
  refine jp (pm (ht rfl)) rfl rfl rfl ?_
  refine jp (pj_len_sl (sz := 1) (ht rfl) (by kernel_rfl)) rfl rfl rfl ?_
  refine jp (pj_ineq (ht rfl) has_i64) rfl rfl rfl ?_
  refine jp (pm (ht rfl)) rfl rfl rfl ?_
  obtain ⟨y1, e2, h⟩ := bind_some h
  refine j_joinx (ι := Unit) (Γ' := fun _ => [(0, (sl u8).slot p_public), (1, (sl u8).slot p_message), (2, (sl u8).slot p_sig), (18, bl.slot y1)]) (H' := fun _ => []) 4 ?_ fun J => ?_
  · intro _
    clear e2
    show OpsJ _ _ _ [(0, (sl u8).slot p_public), (1, (sl u8).slot p_message), (2, (sl u8).slot p_sig), (18, bl.slot y1)] [] _
    refine jp (pm (ht rfl)) rfl rfl rfl ?_
    obtain ⟨y2, e4, h⟩ := bind_some h
    refine j_joinx (ι := Unit) (Γ' := fun _ => [(0, (sl u8).slot p_public), (1, (sl u8).slot p_message), (2, (sl u8).slot p_sig), (24, bl.slot y2)]) (H' := fun _ => []) 5 ?_ fun J => ?_
    · intro _
      clear e4
      show OpsJ _ _ _ [(0, (sl u8).slot p_public), (1, (sl u8).slot p_message), (2, (sl u8).slot p_sig), (24, bl.slot y2)] [] _
      refine jp (pm (ht rfl)) rfl rfl rfl ?_
      obtain ⟨y3, e8, h⟩ := bind_some h
      refine j_joinx (ι := Unit) (Γ' := fun _ => [(0, (sl u8).slot p_public), (1, (sl u8).slot p_message), (2, (sl u8).slot p_sig), (30, bl.slot y3)]) (H' := fun _ => []) 5 ?_ fun J => ?_
      · intro _
        clear e8
        show OpsJ _ _ _ [(0, (sl u8).slot p_public), (1, (sl u8).slot p_message), (2, (sl u8).slot p_sig), (30, bl.slot y3)] [] _
        refine j_end ?_
        refine run_cond (ht rfl) (fun e11 => ?_) (fun e11 => ?_)
        · replace h := bt e11 h
          refine rs ?_
          refine rt ?_
          refine jp (pa has_bl) rfl rfl rfl ?_
          refine j_end ?_
          obtain rfl := oi h
          exact run_ret fun a w hst => q_ret1 hst rfl (.tmp rfl) () (fun _ _ h => h) (.nil)
        · replace h := bf e11 h
          refine run_skip ?_
          refine rs ?_
          obtain ⟨x3, e12, h⟩ := bind_some h
          obtain ⟨r3, e13, h⟩ := bind_some h
          obtain ⟨x4, e14, h⟩ := bind_some h
          refine run_draw (n := 5) (by kernel_rfl) (by kernel_rfl) (by kernel_rfl) (by kernel_rfl) (.read (.plain rfl (pm (ht rfl))) <| .read (.plain rfl (pj_slice_slx (ht rfl) (.yes has_i64 isInt_i64) (.yes has_i64 isInt_i64) e12 (by kernel_rfl))) <| .read (.plain rfl (pj_call (hc (ht rfl) <| hasL_nil) (by kernel_rfl) (c_rolodexref01_Value e13))) <| .read (.plain rfl (pm (ht rfl))) <| .read (.plain rfl (pj_slice_slx (ht rfl) (.yes has_i64 isInt_i64) (.yes has_i64 isInt_i64) e14 (by kernel_rfl))) <| .nil) (j_to (Γ' := [(0, (sl u8).slot p_public), (1, (sl u8).slot p_message), (2, (sl u8).slot p_sig), (33, u64.slot r3), (35, (sl u8).slot x4)]) (H' := []) (.cons (.of_lk rfl) <| .cons (.of_lk rfl) <| .cons (.of_lk rfl) <| .cons (.of_lk rfl) <| .cons (.of_lk rfl) <| .nil) (.nil) ?_)
          obtain ⟨r4, e15, h⟩ := bind_some h
          refine jp (pj_call (hc (ht rfl) <| hasL_nil) (by kernel_rfl) (c_rolodexref01_Value e15)) rfl rfl rfl ?_
          refine jp (pa (ht rfl)) rfl rfl rfl ?_
          refine jp (pa (ht rfl)) rfl rfl rfl ?_
          refine j_end ?_
          refine rs ?_
          refine rs ?_
          refine rt ?_
          refine jp (pm (ht rfl)) rfl rfl rfl ?_
          refine jp (pj_ugtr (k := .u64) (b := 64) (ht rfl) (has_un (x := 4#64) rfl)) rfl rfl rfl ?_
          refine jp (pm (ht rfl)) rfl rfl rfl ?_
          obtain ⟨y4, e17, h⟩ := bind_some h
          refine j_joinx (ι := Unit) (Γ' := fun _ => [(0, (sl u8).slot p_public), (1, (sl u8).slot p_message), (2, (sl u8).slot p_sig), (7, u64.slot r3), (8, u64.slot r4), (42, bl.slot y4)]) (H' := fun _ => []) 3 ?_ fun J => ?_
          · intro _
            clear e17
            show OpsJ _ _ _ [(0, (sl u8).slot p_public), (1, (sl u8).slot p_message), (2, (sl u8).slot p_sig), (7, u64.slot r3), (8, u64.slot r4), (42, bl.slot y4)] [] _
            refine j_end ?_
            refine run_cond (ht rfl) (fun e18 => ?_) (fun e18 => ?_)
            · replace h := bt e18 h
              refine rs ?_
              refine rt ?_
              refine jp (pa has_bl) rfl rfl rfl ?_
              refine j_end ?_
              obtain rfl := oi h
              exact run_ret fun a w hst => q_ret1 hst rfl (.tmp rfl) () (fun _ _ h => h) (.nil)
            · replace h := bf e18 h
              refine run_skip ?_
              refine rs ?_
              refine rt ?_
              refine jp (pm (ht rfl)) rfl rfl rfl ?_
              refine jp (pj_conv_i64 (by kernel_rfl) (ht rfl) isInt_un) rfl rfl rfl ?_
              refine jp (pm (ht rfl)) rfl rfl rfl ?_
              refine jp (pj_conv_i64 (by kernel_rfl) (ht rfl) isInt_un) rfl rfl rfl ?_
              obtain ⟨r5, e19, h⟩ := bind_some h
              refine jp (pj_call (hc (ht rfl) <| hc (ht rfl) <| hasL_nil) (by kernel_rfl) (c_rolodexref05_Size e19)) rfl rfl rfl ?_
              refine jp (pa (ht rfl)) rfl rfl rfl ?_
              refine j_end ?_
              refine rs ?_
              refine rs ?_
              refine rt ?_
              refine jp (pm (ht rfl)) rfl rfl rfl ?_
              refine jp (pj_ieql (ht rfl) has_i64) rfl rfl rfl ?_
              refine jp (pm (ht rfl)) rfl rfl rfl ?_
              obtain ⟨y5, e21, h⟩ := bind_some h
              refine j_joinx (ι := Unit) (Γ' := fun _ => [(0, (sl u8).slot p_public), (1, (sl u8).slot p_message), (2, (sl u8).slot p_sig), (9, i64.slot r5), (56, bl.slot y5)]) (H' := fun _ => []) 6 ?_ fun J => ?_
              · intro _
                clear e21
                show OpsJ _ _ _ [(0, (sl u8).slot p_public), (1, (sl u8).slot p_message), (2, (sl u8).slot p_sig), (9, i64.slot r5), (56, bl.slot y5)] [] _
                refine j_end ?_
                refine run_cond (ht rfl) (fun e22 => ?_) (fun e22 => ?_)
                · replace h := bt e22 h
                  refine rs ?_
                  refine rt ?_
                  refine jp (pa has_bl) rfl rfl rfl ?_
                  refine j_end ?_
                  obtain rfl := oi h
                  exact run_ret fun a w hst => q_ret1 hst rfl (.tmp rfl) () (fun _ _ h => h) (.nil)
                · replace h := bf e22 h
                  refine run_skip ?_
                  refine rs ?_
                  refine rt ?_
                  refine jp (pm (ht rfl)) rfl rfl rfl ?_
                  refine jp (pm (ht rfl)) rfl rfl rfl ?_
                  refine jp (pj_iadd has_i64 (ht rfl)) rfl rfl rfl ?_
                  refine jp (pm (ht rfl)) rfl rfl rfl ?_
                  refine jp (pj_iadd has_i64 (ht rfl)) rfl rfl rfl ?_
                  obtain ⟨x5, e23, h⟩ := bind_some h
                  refine jp (pj_slice_slx (ht rfl) (.yes (ht rfl) isInt_i64) (.yes (ht rfl) isInt_i64) e23 (by kernel_rfl)) rfl rfl rfl ?_
                  refine jp (pa (ht rfl)) rfl rfl rfl ?_
                  refine j_end ?_
                  refine rs ?_
                  obtain ⟨x6, e24, h⟩ := bind_some h
                  obtain ⟨x7, e25, h⟩ := bind_some h
                  obtain ⟨r6, e26, h⟩ := bind_some h
                  obtain ⟨y6, e28, h⟩ := bind_some h
                  refine (run_drawJ (n := 17) (Γ' := [(79, bl.slot y6)]) (H' := []) ?_ fun J => ?_)
                  · clear e28
                    refine jp (pa (ht rfl)) rfl rfl rfl ?_
                    refine j_end ?_
                    obtain rfl := oi h
                    exact run_ret fun a w hst => q_ret1 hst rfl (.tmp rfl) () (fun _ _ h => h) (.nil)
                  · rcases bool_tf (r6) with e27 | e27
                    · replace e28 := bt e27 e28
                      obtain ⟨x8, e29, e28⟩ := bind_some e28
                      obtain ⟨r7, e30, e28⟩ := bind_some e28
                      exact run_draw (n := 17) (by kernel_rfl) (by kernel_rfl) (by kernel_rfl) (by kernel_rfl) (.read (.plain rfl (pm (ht rfl))) <| .read (.plain rfl (pj_slice_slx (ht rfl) (.yes has_i64 isInt_i64) (.yes has_i64 isInt_i64) e24 (by kernel_rfl))) <| .read (.plain rfl (pm (ht rfl))) <| .read (.plain rfl (pm (ht rfl))) <| .read (.plain rfl (pm (ht rfl))) <| .read (.plain rfl (pj_iadd has_i64 (ht rfl))) <| .read (.plain rfl (pj_slice_slx (ht rfl) (.yes has_i64 isInt_i64) (.yes (ht rfl) isInt_i64) e25 (by kernel_rfl))) <| .read (.plain rfl (pj_call (hc (ht rfl) <| hc (ht rfl) <| hc (ht rfl) <| hasL_nil) (by kernel_rfl) (c_rolodexref05_Verify e26))) <| .read (.plain rfl (pm (ht rfl))) <| .read (.yes ⟨8, true, _, 71, _, rfl, rfl, rfl, fun _ _ => bl_p.1, gd_yes e27⟩ (pm (ht rfl))) <| .read (.yes ⟨8, true, _, 71, _, rfl, rfl, rfl, fun _ _ => bl_p.1, gd_yes e27⟩ (pm (ht rfl))) <| .read (.yes ⟨8, true, _, 71, _, rfl, rfl, rfl, fun _ _ => bl_p.1, gd_yes e27⟩ (pm (ht rfl))) <| .read (.yes ⟨8, true, _, 71, _, rfl, rfl, rfl, fun _ _ => bl_p.1, gd_yes e27⟩ (pm (ht rfl))) <| .read (.yes ⟨8, true, _, 71, _, rfl, rfl, rfl, fun _ _ => bl_p.1, gd_yes e27⟩ (pj_iadd has_i64 (ht rfl))) <| .read (.yes ⟨8, true, _, 71, _, rfl, rfl, rfl, fun _ _ => bl_p.1, gd_yes e27⟩ (pj_slice_slx (ht rfl) (.yes (ht rfl) isInt_i64) .no e29 (by kernel_rfl))) <| .read (.yes ⟨8, true, _, 71, _, rfl, rfl, rfl, fun _ _ => bl_p.1, gd_yes e27⟩ (pj_call (hc (ht rfl) <| hc (ht rfl) <| hc (ht rfl) <| hasL_nil) (by kernel_rfl) (c_rolodexref05_Verify e30))) <| .read (.plain rfl (PJ.eqv (R := bl) (pj_pick (t := any) (ht rfl) (fun _ => (ht rfl)) (fun he => absurd (e27.symm.trans he) (by decide))) (oi e28))) <| .nil) (j_to (Γ' := [(79, bl.slot y6)]) (H' := []) (.cons (.of_lk rfl) <| .nil) (.nil) J)
                    · replace e28 := bf e27 e28
                      exact run_draw (n := 17) (by kernel_rfl) (by kernel_rfl) (by kernel_rfl) (by kernel_rfl) (.read (.plain rfl (pm (ht rfl))) <| .read (.plain rfl (pj_slice_slx (ht rfl) (.yes has_i64 isInt_i64) (.yes has_i64 isInt_i64) e24 (by kernel_rfl))) <| .read (.plain rfl (pm (ht rfl))) <| .read (.plain rfl (pm (ht rfl))) <| .read (.plain rfl (pm (ht rfl))) <| .read (.plain rfl (pj_iadd has_i64 (ht rfl))) <| .read (.plain rfl (pj_slice_slx (ht rfl) (.yes has_i64 isInt_i64) (.yes (ht rfl) isInt_i64) e25 (by kernel_rfl))) <| .read (.plain rfl (pj_call (hc (ht rfl) <| hc (ht rfl) <| hc (ht rfl) <| hasL_nil) (by kernel_rfl) (c_rolodexref05_Verify e26))) <| .read (.plain rfl (pm (ht rfl))) <| .read (.no ⟨8, true, _, 71, _, rfl, rfl, rfl, fun _ _ => bl_p.1, gd_no e27⟩) <| .read (.no ⟨8, true, _, 71, _, rfl, rfl, rfl, fun _ _ => bl_p.1, gd_no e27⟩) <| .read (.no ⟨8, true, _, 71, _, rfl, rfl, rfl, fun _ _ => bl_p.1, gd_no e27⟩) <| .read (.no ⟨8, true, _, 71, _, rfl, rfl, rfl, fun _ _ => bl_p.1, gd_no e27⟩) <| .read (.no ⟨8, true, _, 71, _, rfl, rfl, rfl, fun _ _ => bl_p.1, gd_no e27⟩) <| .read (.no ⟨8, true, _, 71, _, rfl, rfl, rfl, fun _ _ => bl_p.1, gd_no e27⟩) <| .read (.no ⟨8, true, _, 71, _, rfl, rfl, rfl, fun _ _ => bl_p.1, gd_no e27⟩) <| .read (.plain rfl (PJ.eqv (R := bl) (pj_pick (t := any) (ht rfl) (fun he => absurd (e27.symm.trans he) (by decide)) (fun _ => has_bl)) (oi e28))) <| .nil) (j_to (Γ' := [(79, bl.slot y6)]) (H' := []) (.cons (.of_lk rfl) <| .nil) (.nil) J)
              · rcases bool_tf (decide (r5 = (0 : Int))) with e20 | e20
                · replace e21 := bt e20 e21
                  refine j_guard_no2 (j := 2) (want := false) rfl rfl rfl rfl (bl_isx e20) rfl rfl rfl ?_
                  refine j_guard_no2 (j := 2) (want := false) rfl rfl rfl rfl (bl_isx e20) rfl rfl rfl ?_
                  refine j_guard_no2 (j := 2) (want := false) rfl rfl rfl rfl (bl_isx e20) rfl rfl rfl ?_
                  refine j_guard_no2 (j := 2) (want := false) rfl rfl rfl rfl (bl_isx e20) rfl rfl rfl ?_
                  refine j_guard_no2 (j := 2) (want := false) rfl rfl rfl rfl (bl_isx e20) rfl rfl rfl ?_
                  refine jp (PJ.eqv (R := bl) (pj_pick (t := any) (ht rfl) (fun _ => has_bl) (fun he => absurd (e20.symm.trans he) (by decide))) (oi e21)) rfl rfl rfl ?_
                  exact j_to (.cons (.of_lk rfl) <| .cons (.of_lk rfl) <| .cons (.of_lk rfl) <| .cons (.of_lk rfl) <| .cons (.of_lk rfl) <| .nil) (.nil) (J ())
                · replace e21 := bf e20 e21
                  refine jy (pm (ht rfl)) rfl rfl rfl rfl (bl_isx e20) rfl rfl ?_
                  refine jy (pj_len_sl (sz := 1) (ht rfl) (by kernel_rfl)) rfl rfl rfl rfl (bl_isx e20) rfl rfl ?_
                  refine jy (pm (ht rfl)) rfl rfl rfl rfl (bl_isx e20) rfl rfl ?_
                  refine jy (pj_iadd has_i64 (ht rfl)) rfl rfl rfl rfl (bl_isx e20) rfl rfl ?_
                  refine jy (pj_ilss (ht rfl) (ht rfl)) rfl rfl rfl rfl (bl_isx e20) rfl rfl ?_
                  refine jp (PJ.eqv (R := bl) (pj_pick (t := any) (ht rfl) (fun he => absurd (e20.symm.trans he) (by decide)) (fun _ => (ht rfl))) (oi e21)) rfl rfl rfl ?_
                  exact j_to (.cons (.of_lk rfl) <| .cons (.of_lk rfl) <| .cons (.of_lk rfl) <| .cons (.of_lk rfl) <| .cons (.of_lk rfl) <| .nil) (.nil) (J ())
          · rcases bool_tf (decide ((4#64) < r3)) with e16 | e16
            · replace e17 := bt e16 e17
              refine j_guard_no2 (j := 2) (want := false) rfl rfl rfl rfl (bl_isx e16) rfl rfl rfl ?_
              refine j_guard_no2 (j := 2) (want := false) rfl rfl rfl rfl (bl_isx e16) rfl rfl rfl ?_
              refine jp (PJ.eqv (R := bl) (pj_pick (t := any) (ht rfl) (fun _ => has_bl) (fun he => absurd (e16.symm.trans he) (by decide))) (oi e17)) rfl rfl rfl ?_
              exact j_to (.cons (.of_lk rfl) <| .cons (.of_lk rfl) <| .cons (.of_lk rfl) <| .cons (.of_lk rfl) <| .cons (.of_lk rfl) <| .cons (.of_lk rfl) <| .nil) (.nil) (J ())
            · replace e17 := bf e16 e17
              refine jy (pm (ht rfl)) rfl rfl rfl rfl (bl_isx e16) rfl rfl ?_
              refine jy (pj_ugtr (k := .u64) (b := 64) (ht rfl) (has_un (x := 4#64) rfl)) rfl rfl rfl rfl (bl_isx e16) rfl rfl ?_
              refine jp (PJ.eqv (R := bl) (pj_pick (t := any) (ht rfl) (fun he => absurd (e16.symm.trans he) (by decide)) (fun _ => (ht rfl))) (oi e17)) rfl rfl rfl ?_
              exact j_to (.cons (.of_lk rfl) <| .cons (.of_lk rfl) <| .cons (.of_lk rfl) <| .cons (.of_lk rfl) <| .cons (.of_lk rfl) <| .cons (.of_lk rfl) <| .nil) (.nil) (J ())
      · rcases bool_tf (y2) with e7 | e7
        · replace e8 := bt e7 e8
          refine j_guard_no2 (j := 14) (want := false) rfl rfl rfl rfl (bl_isx e7) rfl rfl rfl ?_
          refine j_guard_no2 (j := 14) (want := false) rfl rfl rfl rfl (bl_isx e7) rfl rfl rfl ?_
          refine j_guard_no2 (j := 14) (want := false) rfl rfl rfl rfl (bl_isx e7) rfl rfl rfl ?_
          refine j_guard_no2 (j := 14) (want := false) rfl rfl rfl rfl (bl_isx e7) rfl rfl rfl ?_
          refine jp (PJ.eqv (R := bl) (pj_pick (t := any) (ht rfl) (fun _ => has_bl) (fun he => absurd (e7.symm.trans he) (by decide))) (oi e8)) rfl rfl rfl ?_
          exact j_to (.cons (.of_lk rfl) <| .cons (.of_lk rfl) <| .cons (.of_lk rfl) <| .cons (.of_lk rfl) <| .nil) (.nil) (J ())
        · replace e8 := bf e7 e8
          refine jy (pm (ht rfl)) rfl rfl rfl rfl (bl_isx e7) rfl rfl ?_
          obtain ⟨x2, e9, e8⟩ := bind_some e8
          refine jy (pj_slice_slx (ht rfl) .no (.yes has_i64 isInt_i64) e9 (by kernel_rfl)) rfl rfl rfl rfl (bl_isx e7) rfl rfl ?_
          obtain ⟨r2, e10, e8⟩ := bind_some e8
          refine jy (pj_call (hc (ht rfl) <| hasL_nil) (by kernel_rfl) (c_rolodexref01_Value e10)) rfl rfl rfl rfl (bl_isx e7) rfl rfl ?_
          refine jy (pj_uneq (k := .u64) (b := 64) (ht rfl) (has_un (x := 1#64) rfl)) rfl rfl rfl rfl (bl_isx e7) rfl rfl ?_
          refine jp (PJ.eqv (R := bl) (pj_pick (t := any) (ht rfl) (fun he => absurd (e7.symm.trans he) (by decide)) (fun _ => (ht rfl))) (oi e8)) rfl rfl rfl ?_
          exact j_to (.cons (.of_lk rfl) <| .cons (.of_lk rfl) <| .cons (.of_lk rfl) <| .cons (.of_lk rfl) <| .nil) (.nil) (J ())
    · rcases bool_tf (y1) with e3 | e3
      · replace e4 := bt e3 e4
        refine j_guard_no2 (j := 8) (want := false) rfl rfl rfl rfl (bl_isx e3) rfl rfl rfl ?_
        refine j_guard_no2 (j := 8) (want := false) rfl rfl rfl rfl (bl_isx e3) rfl rfl rfl ?_
        refine j_guard_no2 (j := 8) (want := false) rfl rfl rfl rfl (bl_isx e3) rfl rfl rfl ?_
        refine j_guard_no2 (j := 8) (want := false) rfl rfl rfl rfl (bl_isx e3) rfl rfl rfl ?_
        refine jp (PJ.eqv (R := bl) (pj_pick (t := any) (ht rfl) (fun _ => has_bl) (fun he => absurd (e3.symm.trans he) (by decide))) (oi e4)) rfl rfl rfl ?_
        exact j_to (.cons (.of_lk rfl) <| .cons (.of_lk rfl) <| .cons (.of_lk rfl) <| .cons (.of_lk rfl) <| .nil) (.nil) (J ())
      · replace e4 := bf e3 e4
        refine jy (pm (ht rfl)) rfl rfl rfl rfl (bl_isx e3) rfl rfl ?_
        obtain ⟨x1, e5, e4⟩ := bind_some e4
        refine jy (pj_slice_slx (ht rfl) .no (.yes has_i64 isInt_i64) e5 (by kernel_rfl)) rfl rfl rfl rfl (bl_isx e3) rfl rfl ?_
        obtain ⟨r1, e6, e4⟩ := bind_some e4
        refine jy (pj_call (hc (ht rfl) <| hasL_nil) (by kernel_rfl) (c_rolodexref01_Value e6)) rfl rfl rfl rfl (bl_isx e3) rfl rfl ?_
        refine jy (pj_uneq (k := .u64) (b := 64) (ht rfl) (has_un (x := 2#64) rfl)) rfl rfl rfl rfl (bl_isx e3) rfl rfl ?_
        refine jp (PJ.eqv (R := bl) (pj_pick (t := any) (ht rfl) (fun he => absurd (e3.symm.trans he) (by decide)) (fun _ => (ht rfl))) (oi e4)) rfl rfl rfl ?_
        exact j_to (.cons (.of_lk rfl) <| .cons (.of_lk rfl) <| .cons (.of_lk rfl) <| .cons (.of_lk rfl) <| .nil) (.nil) (J ())
  · rcases bool_tf (!decide ((p_public.length : Int) = (60 : Int))) with e1 | e1
    · replace e2 := bt e1 e2
      refine j_guard_no2 (j := 3) (want := false) rfl rfl rfl rfl (bl_isx e1) rfl rfl rfl ?_
      refine j_guard_no2 (j := 3) (want := false) rfl rfl rfl rfl (bl_isx e1) rfl rfl rfl ?_
      refine j_guard_no2 (j := 3) (want := false) rfl rfl rfl rfl (bl_isx e1) rfl rfl rfl ?_
      refine jp (PJ.eqv (R := bl) (pj_pick (t := any) (ht rfl) (fun _ => has_bl) (fun he => absurd (e1.symm.trans he) (by decide))) (oi e2)) rfl rfl rfl ?_
      exact j_to (.cons (.of_lk rfl) <| .cons (.of_lk rfl) <| .cons (.of_lk rfl) <| .cons (.of_lk rfl) <| .nil) (.nil) (J ())
    · replace e2 := bf e1 e2
      refine jy (pm (ht rfl)) rfl rfl rfl rfl (bl_isx e1) rfl rfl ?_
      refine jy (pj_len_sl (sz := 1) (ht rfl) (by kernel_rfl)) rfl rfl rfl rfl (bl_isx e1) rfl rfl ?_
      refine jy (pj_ilss (ht rfl) has_i64) rfl rfl rfl rfl (bl_isx e1) rfl rfl ?_
      refine jp (PJ.eqv (R := bl) (pj_pick (t := any) (ht rfl) (fun he => absurd (e1.symm.trans he) (by decide)) (fun _ => (ht rfl))) (oi e2)) rfl rfl rfl ?_
      exact j_to (.cons (.of_lk rfl) <| .cons (.of_lk rfl) <| .cons (.of_lk rfl) <| .cons (.of_lk rfl) <| .nil) (.nil) (J ())
set_option maxRecDepth 100000 in
set_option maxHeartbeats 4000000 in
theorem c_rolodexlaw06_HssVerifies {G : GP} (hg0 : HG0 G) (hg1 : HG1 G) (hg2 : HG2 G) {p_public : List (BitVec 8)} {p_message : List (BitVec 8)} {p_signature : List (BitVec 8)} {r : Bool} (h : rolodexlaw06_HssVerifies p_public p_message p_signature = some r) : Ctr Tryd.prog G 12 [(sl u8).slot p_public, (sl u8).slot p_message, (sl u8).slot p_signature] [] (fun (_ : Unit) => bl.slot r) (fun (_ : Unit) => []) := by
  unfold rolodexlaw06_HssVerifies at h
  refine ctr_of_run Tryd.func12 rfl 34 rfl rfl fun m0 w0 b0 => ?_
  show Run _ _ _ [(0, (sl u8).slot p_public), (1, (sl u8).slot p_message), (2, (sl u8).slot p_signature)] _
  refine rs ?_
  refine rt ?_
  refine jp (pa has_bl) rfl rfl rfl ?_
  refine j_end ?_
  refine rs ?_
  refine rs ?_
  refine rt ?_
  obtain ⟨r1, e1, h⟩ := bind_some h
  refine jp (pj_call (hasL_nil) (by kernel_rfl) (c_rolodexlaw06_awake hg0 hg1 hg2 e1)) rfl rfl rfl ?_
  refine jp (pj_not (ht rfl)) rfl rfl rfl ?_
  refine jp (pm (ht rfl)) rfl rfl rfl ?_
  obtain ⟨y1, e3, h⟩ := bind_some h
  refine j_joinx (ι := Unit) (Γ' := fun _ => [(0, (sl u8).slot p_public), (1, (sl u8).slot p_message), (2, (sl u8).slot p_signature), (13, bl.slot y1)]) (H' := fun _ => []) 4 ?_ fun J => ?_
  · intro _
    clear e3
    show OpsJ _ _ _ [(0, (sl u8).slot p_public), (1, (sl u8).slot p_message), (2, (sl u8).slot p_signature), (13, bl.slot y1)] [] _
    refine jp (pm (ht rfl)) rfl rfl rfl ?_
    obtain ⟨y2, e5, h⟩ := bind_some h
    refine j_joinx (ι := Unit) (Γ' := fun _ => [(0, (sl u8).slot p_public), (1, (sl u8).slot p_message), (2, (sl u8).slot p_signature), (18, bl.slot y2)]) (H' := fun _ => []) 4 ?_ fun J => ?_
    · intro _
      clear e5
      show OpsJ _ _ _ [(0, (sl u8).slot p_public), (1, (sl u8).slot p_message), (2, (sl u8).slot p_signature), (18, bl.slot y2)] [] _
      refine jp (pm (ht rfl)) rfl rfl rfl ?_
      obtain ⟨y3, e7, h⟩ := bind_some h
      refine j_joinx (ι := Unit) (Γ' := fun _ => [(0, (sl u8).slot p_public), (1, (sl u8).slot p_message), (2, (sl u8).slot p_signature), (23, bl.slot y3)]) (H' := fun _ => []) 4 ?_ fun J => ?_
      · intro _
        clear e7
        show OpsJ _ _ _ [(0, (sl u8).slot p_public), (1, (sl u8).slot p_message), (2, (sl u8).slot p_signature), (23, bl.slot y3)] [] _
        refine j_end ?_
        refine run_cond (ht rfl) (fun e8 => ?_) (fun e8 => ?_)
        · replace h := bt e8 h
          refine rs ?_
          refine rt ?_
          obtain ⟨r2, e9, h⟩ := bind_some h
          refine jp (pj_call (hasL_nil) (by kernel_rfl) (c_rolodexlaw06_awake hg0 hg1 hg2 e9)) rfl rfl rfl ?_
          refine jp (pa (ht rfl)) rfl rfl rfl ?_
          refine j_end ?_
          obtain rfl := oi h
          exact run_ret fun a w hst => q_ret1 hst rfl (.tmp rfl) () (fun _ _ h => h) (.nil)
        · replace h := bf e8 h
          refine run_skip ?_
          refine rs ?_
          refine rt ?_
          refine jp (pm (ht rfl)) rfl rfl rfl ?_
          refine jp (pm (ht rfl)) rfl rfl rfl ?_
          refine jp (pm (ht rfl)) rfl rfl rfl ?_
          obtain ⟨r3, e10, h⟩ := bind_some h
          refine jp (pj_call (hc (ht rfl) <| hc (ht rfl) <| hc (ht rfl) <| hasL_nil) (by kernel_rfl) (c_hss_Verify hg0 hg1 hg2 e10)) rfl rfl rfl ?_
          refine jp (pm (ht rfl)) rfl rfl rfl ?_
          refine jp (pm (ht rfl)) rfl rfl rfl ?_
          refine jp (pm (ht rfl)) rfl rfl rfl ?_
          obtain ⟨r4, e11, h⟩ := bind_some h
          refine jp (pj_call (hc (ht rfl) <| hc (ht rfl) <| hc (ht rfl) <| hasL_nil) (by kernel_rfl) (c_rolodexref06_Verify e11)) rfl rfl rfl ?_
          refine jp (pj_beql (by kernel_rfl) (ht rfl) (ht rfl)) rfl rfl rfl ?_
          refine jp (pa (ht rfl)) rfl rfl rfl ?_
          refine j_end ?_
          obtain rfl := oi h
          exact run_ret fun a w hst => q_ret1 hst rfl (.tmp rfl) () (fun _ _ h => h) (.nil)
      · rcases bool_tf (y2) with e6 | e6
        · replace e7 := bt e6 e7
          refine j_guard_no2 (j := 12) (want := false) rfl rfl rfl rfl (bl_isx e6) rfl rfl rfl ?_
          refine j_guard_no2 (j := 12) (want := false) rfl rfl rfl rfl (bl_isx e6) rfl rfl rfl ?_
          refine j_guard_no2 (j := 12) (want := false) rfl rfl rfl rfl (bl_isx e6) rfl rfl rfl ?_
          refine jp (PJ.eqv (R := bl) (pj_pick (t := any) (ht rfl) (fun _ => has_bl) (fun he => absurd (e6.symm.trans he) (by decide))) (oi e7)) rfl rfl rfl ?_
          exact j_to (.cons (.of_lk rfl) <| .cons (.of_lk rfl) <| .cons (.of_lk rfl) <| .cons (.of_lk rfl) <| .nil) (.nil) (J ())
        · replace e7 := bf e6 e7
          refine jy (pm (ht rfl)) rfl rfl rfl rfl (bl_isx e6) rfl rfl ?_
          refine jy (pj_len_sl (sz := 1) (ht rfl) (by kernel_rfl)) rfl rfl rfl rfl (bl_isx e6) rfl rfl ?_
          refine jy (pj_igtr (ht rfl) has_i64) rfl rfl rfl rfl (bl_isx e6) rfl rfl ?_
          refine jp (PJ.eqv (R := bl) (pj_pick (t := any) (ht rfl) (fun he => absurd (e6.symm.trans he) (by decide)) (fun _ => (ht rfl))) (oi e7)) rfl rfl rfl ?_
          exact j_to (.cons (.of_lk rfl) <| .cons (.of_lk rfl) <| .cons (.of_lk rfl) <| .cons (.of_lk rfl) <| .nil) (.nil) (J ())
    · rcases bool_tf (y1) with e4 | e4
      · replace e5 := bt e4 e5
        refine j_guard_no2 (j := 7) (want := false) rfl rfl rfl rfl (bl_isx e4) rfl rfl rfl ?_
        refine j_guard_no2 (j := 7) (want := false) rfl rfl rfl rfl (bl_isx e4) rfl rfl rfl ?_
        refine j_guard_no2 (j := 7) (want := false) rfl rfl rfl rfl (bl_isx e4) rfl rfl rfl ?_
        refine jp (PJ.eqv (R := bl) (pj_pick (t := any) (ht rfl) (fun _ => has_bl) (fun he => absurd (e4.symm.trans he) (by decide))) (oi e5)) rfl rfl rfl ?_
        exact j_to (.cons (.of_lk rfl) <| .cons (.of_lk rfl) <| .cons (.of_lk rfl) <| .cons (.of_lk rfl) <| .nil) (.nil) (J ())
      · replace e5 := bf e4 e5
        refine jy (pm (ht rfl)) rfl rfl rfl rfl (bl_isx e4) rfl rfl ?_
        refine jy (pj_len_sl (sz := 1) (ht rfl) (by kernel_rfl)) rfl rfl rfl rfl (bl_isx e4) rfl rfl ?_
        refine jy (pj_igtr (ht rfl) has_i64) rfl rfl rfl rfl (bl_isx e4) rfl rfl ?_
        refine jp (PJ.eqv (R := bl) (pj_pick (t := any) (ht rfl) (fun he => absurd (e4.symm.trans he) (by decide)) (fun _ => (ht rfl))) (oi e5)) rfl rfl rfl ?_
        exact j_to (.cons (.of_lk rfl) <| .cons (.of_lk rfl) <| .cons (.of_lk rfl) <| .cons (.of_lk rfl) <| .nil) (.nil) (J ())
  · rcases bool_tf (!r1) with e2 | e2
    · replace e3 := bt e2 e3
      refine j_guard_no2 (j := 2) (want := false) rfl rfl rfl rfl (bl_isx e2) rfl rfl rfl ?_
      refine j_guard_no2 (j := 2) (want := false) rfl rfl rfl rfl (bl_isx e2) rfl rfl rfl ?_
      refine j_guard_no2 (j := 2) (want := false) rfl rfl rfl rfl (bl_isx e2) rfl rfl rfl ?_
      refine jp (PJ.eqv (R := bl) (pj_pick (t := any) (ht rfl) (fun _ => has_bl) (fun he => absurd (e2.symm.trans he) (by decide))) (oi e3)) rfl rfl rfl ?_
      exact j_to (.cons (.of_lk rfl) <| .cons (.of_lk rfl) <| .cons (.of_lk rfl) <| .cons (.of_lk rfl) <| .nil) (.nil) (J ())
    · replace e3 := bf e2 e3
      refine jy (pm (ht rfl)) rfl rfl rfl rfl (bl_isx e2) rfl rfl ?_
      refine jy (pj_len_sl (sz := 1) (ht rfl) (by kernel_rfl)) rfl rfl rfl rfl (bl_isx e2) rfl rfl ?_
      refine jy (pj_igtr (ht rfl) has_i64) rfl rfl rfl rfl (bl_isx e2) rfl rfl ?_
      refine jp (PJ.eqv (R := bl) (pj_pick (t := any) (ht rfl) (fun he => absurd (e2.symm.trans he) (by decide)) (fun _ => (ht rfl))) (oi e3)) rfl rfl rfl ?_
      exact j_to (.cons (.of_lk rfl) <| .cons (.of_lk rfl) <| .cons (.of_lk rfl) <| .cons (.of_lk rfl) <| .nil) (.nil) (J ())
end Go.Sl.W
