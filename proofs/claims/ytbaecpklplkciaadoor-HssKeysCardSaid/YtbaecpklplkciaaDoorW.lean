import Derived.Test.YtbaecpklplkciaaDoorWA
import Derived.Test.YtbaecpklplkciaaDoorOp14
import Derived.Test.YtbaecpklplkciaaDoorProg
set_option linter.unusedSimpArgs false
set_option linter.unusedVariables false
set_option linter.unusedSectionVars false
namespace Go.Sl.W
open Go.Proofs Go.Sl Go.Sl.M
set_option maxRecDepth 100000 in
set_option maxHeartbeats 4000000 in
theorem c_rolodexref01_Number {G : GP} {p_x : BitVec 64} {p_bytes : Int} {r : (List (BitVec 8))} (h : rolodexref01_Number p_x p_bytes = some r) : Ctr Tryd.prog G 53 [u64.slot p_x, i64.slot p_bytes] [] (fun (u0 : Value) => ov u0) (fun (u0 : Value) => [own 5 u8 u0 r]) := by
  unfold rolodexref01_Number at h
  refine ctr_of_run Tryd.func53 rfl 36 rfl rfl fun m0 w0 b0 => ?_
  show Run _ _ _ [(0, u64.slot p_x), (1, i64.slot p_bytes)] _
  refine rs ?_
  refine rt ?_
  refine j_assign_nil (T := 5) u8 rfl fun v1 => ?_
  refine j_end ?_
  refine rs ?_
  refine rt ?_
  refine j_assign_nil (T := 5) u8 rfl fun v2 => ?_
  refine j_assign_nil (T := 5) u8 rfl fun v3 => ?_
  refine j_end ?_
  refine rs ?_
  refine rs ?_
  refine rt ?_
  refine jp (pa has_i64) rfl rfl rfl ?_
  refine j_end ?_
  obtain ⟨⟨y4, y5, y6⟩, e3, h⟩ := bind_some h
  refine run_loopS (Γi := fun (i : Value) (s : (BitVec 64) × Int × (List (BitVec 8))) => [(0, u64.slot s.1), (1, i64.slot p_bytes), (5, ov i), (6, ov v3), (7, i64.slot s.2.1)]) (Hi := fun (i : Value) (s : (BitVec 64) × Int × (List (BitVec 8))) => [own 5 u8 v3 ([] : List (BitVec 8)), own 5 u8 i s.2.2]) e3 v2 (fun a w hst => (hst.sub (.cons (.of_lk rfl) <| .cons (.of_lk rfl) <| .cons (.of_lk rfl) <| .cons (.of_lk rfl) <| .cons (.of_lk rfl) <| .nil)).keep (.cons .here <| .cons .here <| .nil)) ?_ ?_
  · clear h e3
    rintro v4 ⟨y1, y2, y3⟩ lr h
    change rolodexref01_Number_L1 p_bytes y1 y2 y3 = some _ at h
    show Run _ _ _ [(0, u64.slot y1), (1, i64.slot p_bytes), (5, ov v4), (6, ov v3), (7, i64.slot y2)] [own 5 u8 v3 ([] : List (BitVec 8)), own 5 u8 v4 y3]
    unfold rolodexref01_Number_L1 at h
    refine rs ?_
    refine rs ?_
    refine rt ?_
    refine jp (pm (ht rfl)) rfl rfl rfl ?_
    refine jp (pm (ht rfl)) rfl rfl rfl ?_
    refine jp (pj_ilss (ht rfl) (ht rfl)) rfl rfl rfl ?_
    refine j_end ?_
    refine run_cond (ht rfl) (fun e1 => ?_) (fun e1 => ?_)
    · replace h := bt e1 h
      refine run_skip ?_
      refine rs ?_
      refine run_block ?_
      refine rs ?_
      refine rt ?_
      refine jp (pm (ht rfl)) rfl rfl rfl ?_
      refine jp (pm (ht rfl)) rfl rfl rfl ?_
      refine jp (pj_urem (k := .u64) (b := 64) (ht rfl) (has_un (x := 256#64) rfl) (by decide)) rfl rfl rfl ?_
      refine jp (pj_conv_uu (k := .u8) (b := 8) rfl rfl (by kernel_rfl) (ht rfl)) rfl rfl rfl ?_
      refine jp (pj_buildSlice (T := 5) (R := u8) (.cons (ht rfl) .nil) rfl (by kernel_rfl) (by kernel_rfl)) rfl rfl rfl ?_
      obtain ⟨e2, h⟩ := grd_some h
      refine j_append (T := 5) (E := 5) (ht rfl) (.next .here) (src_data (ht rfl)) (by kernel_rfl) (by kernel_rfl) e2 rfl fun v5 => ?_
      refine jp (pa (ht rfl)) rfl rfl rfl ?_
      refine j_end ?_
      refine rt ?_
      refine jp (pm (ht rfl)) rfl rfl rfl ?_
      refine jp (pj_uquo (k := .u64) (b := 64) rfl rfl (ht rfl) (has_un (x := 256#64) rfl) (by decide)) rfl rfl rfl ?_
      refine jp (pa (ht rfl)) rfl rfl rfl ?_
      refine j_end ?_
      refine run_endblock ?_
      refine rt ?_
      refine jp (pm (ht rfl)) rfl rfl rfl ?_
      refine jp (pj_iadd (ht rfl) has_i64) rfl rfl rfl ?_
      refine jp (pa (ht rfl)) rfl rfl rfl ?_
      refine j_end ?_
      obtain rfl := oi h
      exact run_next v5 (.cons (.of_lk rfl) <| .cons (.of_lk rfl) <| .cons (.of_lk rfl) <| .cons (.of_lk rfl) <| .cons (.of_lk rfl) <| .nil) (.cons (.next .here) <| .cons .here <| .nil)
    · replace h := bf e1 h
      obtain rfl := oi h
      exact run_brk v4 (.cons (.of_lk rfl) <| .cons (.of_lk rfl) <| .cons (.of_lk rfl) <| .cons (.of_lk rfl) <| .cons (.of_lk rfl) <| .nil) (.cons .here <| .cons .here <| .nil)
  · rintro v6
    show Run _ _ _ [(0, u64.slot y4), (1, i64.slot p_bytes), (5, ov v6), (6, ov v3), (7, i64.slot y5)] [own 5 u8 v3 ([] : List (BitVec 8)), own 5 u8 v6 y6]
    refine run_to (Γ' := [(1, i64.slot p_bytes), (5, ov v6), (6, ov v3)]) (H' := [own 5 u8 v3 ([] : List (BitVec 8)), own 5 u8 v6 y6]) (.cons (.of_lk rfl) <| .cons (.of_lk rfl) <| .cons (.of_lk rfl) <| .nil) (.cons .here <| .cons .here <| .nil) ?_
    refine rs ?_
    refine rs ?_
    refine rt ?_
    refine jp (pm (ht rfl)) rfl rfl rfl ?_
    refine jp (pj_isub (ht rfl) has_i64) rfl rfl rfl ?_
    refine jp (pa (ht rfl)) rfl rfl rfl ?_
    refine j_end ?_
    obtain ⟨⟨y9, y10⟩, e7, h⟩ := bind_some h
    refine run_loopS (Γi := fun (i : Value) (s : Int × (List (BitVec 8))) => [(5, ov v6), (6, ov i), (8, i64.slot s.1)]) (Hi := fun (i : Value) (s : Int × (List (BitVec 8))) => [own 5 u8 i s.2, own 5 u8 v6 y6]) e7 v3 (fun a w hst => (hst.sub (.cons (.of_lk rfl) <| .cons (.of_lk rfl) <| .cons (.of_lk rfl) <| .nil)).keep (.cons .here <| .cons .here <| .nil)) ?_ ?_
    · clear h e7
      rintro v7 ⟨y7, y8⟩ lr h
      change rolodexref01_Number_L2 y6 y7 y8 = some _ at h
      show Run _ _ _ [(5, ov v6), (6, ov v7), (8, i64.slot y7)] [own 5 u8 v7 y8, own 5 u8 v6 y6]
      unfold rolodexref01_Number_L2 at h
      refine rs ?_
      refine rs ?_
      refine rt ?_
      refine jp (pm (ht rfl)) rfl rfl rfl ?_
      refine jp (pj_igeq (ht rfl) has_i64) rfl rfl rfl ?_
      refine j_end ?_
      refine run_cond (ht rfl) (fun e4 => ?_) (fun e4 => ?_)
      · replace h := bt e4 h
        refine run_skip ?_
        refine rs ?_
        refine run_block ?_
        refine rt ?_
        refine jp (pm (ht rfl)) rfl rfl rfl ?_
        refine jp (pm (ht rfl)) rfl rfl rfl ?_
        refine jp (pm (ht rfl)) rfl rfl rfl ?_
        obtain ⟨x1, e5, h⟩ := bind_some h
        refine jp (pj_index_own (ht rfl) (.next .here) (ht rfl) isInt_i64 (lget_some e5).1 (lget_some e5).2.1 (by kernel_rfl)) rfl rfl rfl ?_
        refine jp (PJ.eqv (pj_load_own0 u8 (y7.toNat) (ht rfl) (.next .here) (lget_some e5).2.1 (by kernel_rfl)) (lget_eq e5 (lget_some e5).2.1)) rfl rfl rfl ?_
        refine jp (pj_buildSlice (T := 5) (R := u8) (.cons (ht rfl) .nil) rfl (by kernel_rfl) (by kernel_rfl)) rfl rfl rfl ?_
        obtain ⟨e6, h⟩ := grd_some h
        refine j_append (T := 5) (E := 5) (ht rfl) .here (src_data (ht rfl)) (by kernel_rfl) (by kernel_rfl) e6 rfl fun v8 => ?_
        refine jp (pa (ht rfl)) rfl rfl rfl ?_
        refine j_end ?_
        refine run_endblock ?_
        refine rt ?_
        refine jp (pm (ht rfl)) rfl rfl rfl ?_
        refine jp (pj_isub (ht rfl) has_i64) rfl rfl rfl ?_
        refine jp (pa (ht rfl)) rfl rfl rfl ?_
        refine j_end ?_
        obtain rfl := oi h
        exact run_next v8 (.cons (.of_lk rfl) <| .cons (.of_lk rfl) <| .cons (.of_lk rfl) <| .nil) (.cons .here <| .cons .here <| .nil)
      · replace h := bf e4 h
        obtain rfl := oi h
        exact run_brk v7 (.cons (.of_lk rfl) <| .cons (.of_lk rfl) <| .cons (.of_lk rfl) <| .nil) (.cons .here <| .cons .here <| .nil)
    · rintro v9
      show Run _ _ _ [(5, ov v6), (6, ov v9), (8, i64.slot y9)] [own 5 u8 v9 y10, own 5 u8 v6 y6]
      refine run_to (Γ' := [(6, ov v9)]) (H' := [own 5 u8 v9 y10]) (.cons (.of_lk rfl) <| .nil) (.cons .here <| .nil) ?_
      refine rs ?_
      refine rt ?_
      refine jp (pm (ht rfl)) rfl rfl rfl ?_
      refine jp (pa (ht rfl)) rfl rfl rfl ?_
      refine j_end ?_
      obtain rfl := oi h
      exact run_ret fun a w hst => q_ret1 hst rfl (.tmp rfl) v9 (fun _ _ h => h) (.cons .here <| .nil)
set_option maxRecDepth 100000 in
set_option maxHeartbeats 4000000 in
theorem c_rolodexref02_Start {G : GP} {r : (Vector (BitVec 32) 8)} (h : rolodexref02_Start = some r) : Ctr Tryd.prog G 109 [] [] (fun (_ : Unit) => (vec 8 u32).slot r) (fun (_ : Unit) => []) := by
  unfold rolodexref02_Start at h
  refine ctr_of_run Tryd.func109 rfl 2 rfl rfl fun m0 w0 b0 => ?_
  show Run _ _ _ [] _
  refine rs ?_
  refine rt ?_
  refine j_alloc (x := (Vector.replicate 8 (0#32))) (R := (vec 8 u32)) (zero_vec 8 zero_un) (by kernel_rfl) rfl fun b1 => ?_
  refine j_end ?_
  refine rs ?_
  refine rt ?_
  obtain ⟨x1, e1, h⟩ := bind_some h
  refine jp (PJ.eqv (pj_buildArr (z0 := 0#32) (zero_vec 8 zero_un) (by kernel_rfl) (.cons (has_un (x := 1779033703#32) rfl) (.cons (has_un (x := 3144134277#32) rfl) (.cons (has_un (x := 1013904242#32) rfl) (.cons (has_un (x := 2773480762#32) rfl) (.cons (has_un (x := 1359893119#32) rfl) (.cons (has_un (x := 2600822924#32) rfl) (.cons (has_un (x := 528734635#32) rfl) (.cons (has_un (x := 1541459225#32) rfl) .nil)))))))) (by kernel_rfl) rfl) (oi e1)) rfl rfl rfl ?_
  refine j_store_boxx (r' := x1) (ht rfl) (ht rfl) .here (Path.all (vec 8 u32)) (by kernel_rfl) rfl ?_
  refine j_end ?_
  obtain rfl := oi h
  exact run_ret fun a w hst => q_ret1 hst rfl (.cell rfl .here (by kernel_rfl)) () (fun _ _ h => h) (.nil)
set_option maxRecDepth 100000 in
set_option maxHeartbeats 4000000 in
theorem c_rolodexref02_Padded {G : GP} {p_b : List (BitVec 8)} {r : (List (BitVec 8))} (h : rolodexref02_Padded p_b = some r) : Ctr Tryd.prog G 110 [(sl u8).slot p_b] [] (fun (u0 : Value) => ov u0) (fun (u0 : Value) => [own 5 u8 u0 r]) := by
  unfold rolodexref02_Padded at h
  refine ctr_of_run Tryd.func110 rfl 24 rfl rfl fun m0 w0 b0 => ?_
  show Run _ _ _ [(0, (sl u8).slot p_b)] _
  refine rs ?_
  refine rt ?_
  refine j_assign_nil (T := 5) u8 rfl fun v1 => ?_
  refine j_end ?_
  refine rs ?_
  refine rt ?_
  refine j_assign_nil (T := 5) u8 rfl fun v2 => ?_
  refine j_end ?_
  refine rs ?_
  refine rt ?_
  refine jp (pm (ht rfl)) rfl rfl rfl ?_
  refine jp (pm (ht rfl)) rfl rfl rfl ?_
  obtain ⟨e1, h⟩ := grd_some h
  refine j_append (T := 5) (E := 5) (ht rfl) .here (src_data (ht rfl)) (by kernel_rfl) (by kernel_rfl) e1 rfl fun v3 => ?_
  refine jp (pa (ht rfl)) rfl rfl rfl ?_
  refine j_end ?_
  refine rs ?_
  refine rt ?_
  refine jp (pm (ht rfl)) rfl rfl rfl ?_
  refine jp (pj_buildSlice (T := 5) (R := u8) (.cons (has_un (x := 128#8) rfl) .nil) rfl (by kernel_rfl) (by kernel_rfl)) rfl rfl rfl ?_
  obtain ⟨e2, h⟩ := grd_some h
  refine j_append (T := 5) (E := 5) (ht rfl) .here (src_data (ht rfl)) (by kernel_rfl) (by kernel_rfl) e2 rfl fun v4 => ?_
  refine jp (pa (ht rfl)) rfl rfl rfl ?_
  refine j_end ?_
  refine rs ?_
  obtain ⟨y2, e5, h⟩ := bind_some h
  refine run_loopS (Γi := fun (i : Value) (s : (List (BitVec 8))) => [(0, (sl u8).slot p_b), (3, ov i)]) (Hi := fun (i : Value) (s : (List (BitVec 8))) => [own 5 u8 i s]) e5 v4 (fun a w hst => (hst.sub (.cons (.of_lk rfl) <| .cons (.of_lk rfl) <| .nil)).keep (.cons .here <| .nil)) ?_ ?_
  · clear h e5
    rintro v5 y1 lr h
    change rolodexref02_Padded_L1 y1 = some _ at h
    show Run _ _ _ [(0, (sl u8).slot p_b), (3, ov v5)] [own 5 u8 v5 y1]
    unfold rolodexref02_Padded_L1 at h
    refine rs ?_
    refine rs ?_
    refine rt ?_
    refine jp (pm (ht rfl)) rfl rfl rfl ?_
    refine jp (pj_len_own (sz := 1) (ht rfl) .here (by kernel_rfl)) rfl rfl rfl ?_
    refine jp (pj_irem (ht rfl) has_i64 (by decide)) rfl rfl rfl ?_
    refine jp (pj_ineq (ht rfl) has_i64) rfl rfl rfl ?_
    refine j_end ?_
    refine run_cond (ht rfl) (fun e3 => ?_) (fun e3 => ?_)
    · replace h := bt e3 h
      refine run_skip ?_
      refine run_block ?_
      refine rt ?_
      refine jp (pm (ht rfl)) rfl rfl rfl ?_
      refine jp (pj_buildSlice (T := 5) (R := u8) (.cons (has_un (x := 0#8) rfl) .nil) rfl (by kernel_rfl) (by kernel_rfl)) rfl rfl rfl ?_
      obtain ⟨e4, h⟩ := grd_some h
      refine j_append (T := 5) (E := 5) (ht rfl) .here (src_data (ht rfl)) (by kernel_rfl) (by kernel_rfl) e4 rfl fun v6 => ?_
      refine jp (pa (ht rfl)) rfl rfl rfl ?_
      refine j_end ?_
      refine run_endblock ?_
      obtain rfl := oi h
      exact run_next v6 (.cons (.of_lk rfl) <| .cons (.of_lk rfl) <| .nil) (.cons .here <| .nil)
    · replace h := bf e3 h
      obtain rfl := oi h
      exact run_brk v5 (.cons (.of_lk rfl) <| .cons (.of_lk rfl) <| .nil) (.cons .here <| .nil)
  · rintro v7
    show Run _ _ _ [(0, (sl u8).slot p_b), (3, ov v7)] [own 5 u8 v7 y2]
    refine run_to (Γ' := [(0, (sl u8).slot p_b), (3, ov v7)]) (H' := [own 5 u8 v7 y2]) (.cons (.of_lk rfl) <| .cons (.of_lk rfl) <| .nil) (.cons .here <| .nil) ?_
    refine rs ?_
    refine rt ?_
    refine jp (pm (ht rfl)) rfl rfl rfl ?_
    refine jp (pm (ht rfl)) rfl rfl rfl ?_
    refine jp (pj_len_sl (sz := 1) (ht rfl) (by kernel_rfl)) rfl rfl rfl ?_
    refine jp (pj_conv_un (k := .u64) (b := 64) rfl rfl (by kernel_rfl) (ht rfl) isInt_i64) rfl rfl rfl ?_
    refine jp (pj_umul (k := .u64) (b := 64) rfl rfl (has_un (x := 8#64) rfl) (ht rfl)) rfl rfl rfl ?_
    obtain ⟨r1, e6, h⟩ := bind_some h
    refine jp (pj_call (hc (ht rfl) <| hc has_i64 <| hasL_nil) (by kernel_rfl) (Ctr.froze (c_rolodexref01_Number e6))) rfl rfl rfl ?_
    obtain ⟨e7, h⟩ := grd_some h
    refine j_append (T := 5) (E := 5) (ht rfl) .here (src_data (ht rfl)) (by kernel_rfl) (by kernel_rfl) e7 rfl fun v8 => ?_
    refine jp (pa (ht rfl)) rfl rfl rfl ?_
    refine j_end ?_
    obtain rfl := oi h
    exact run_ret fun a w hst => q_ret1 hst rfl (.tmp rfl) v8 (fun _ _ h => h) (.cons .here <| .nil)
set_option maxRecDepth 100000 in
set_option maxHeartbeats 4000000 in
theorem c_rolodexref01_Value {G : GP} {p_b : List (BitVec 8)} {r : (BitVec 64)} (h : rolodexref01_Value p_b = some r) : Ctr Tryd.prog G 66 [(sl u8).slot p_b] [] (fun (_ : Unit) => u64.slot r) (fun (_ : Unit) => []) := by
  unfold rolodexref01_Value at h
  refine ctr_of_run Tryd.func66 rfl 20 rfl rfl fun m0 w0 b0 => ?_
  show Run _ _ _ [(0, (sl u8).slot p_b)] _
  refine rs ?_
  refine rt ?_
  refine jp (pa (has_un (x := 0#64) rfl)) rfl rfl rfl ?_
  refine j_end ?_
  refine rs ?_
  refine rt ?_
  refine jp (pa (has_un (x := 0#64) rfl)) rfl rfl rfl ?_
  refine j_end ?_
  refine rs ?_
  refine rs ?_
  refine rt ?_
  refine jp (pa has_i64) rfl rfl rfl ?_
  refine j_end ?_
  obtain ⟨⟨y3, y4⟩, e3, h⟩ := bind_some h
  refine run_loopS (Γi := fun (i : Unit) (s : (BitVec 64) × Int) => [(0, (sl u8).slot p_b), (3, u64.slot s.1), (4, i64.slot s.2)]) (Hi := fun (i : Unit) (s : (BitVec 64) × Int) => []) e3 () (fun a w hst => (hst.sub (.cons (.of_lk rfl) <| .cons (.of_lk rfl) <| .cons (.of_lk rfl) <| .nil)).keep (.nil)) ?_ ?_
  · clear h e3
    rintro _ ⟨y1, y2⟩ lr h
    change rolodexref01_Value_L1 p_b y1 y2 = some _ at h
    show Run _ _ _ [(0, (sl u8).slot p_b), (3, u64.slot y1), (4, i64.slot y2)] []
    unfold rolodexref01_Value_L1 at h
    refine rs ?_
    refine rs ?_
    refine rt ?_
    refine jp (pm (ht rfl)) rfl rfl rfl ?_
    refine jp (pm (ht rfl)) rfl rfl rfl ?_
    refine jp (pj_len_sl (sz := 1) (ht rfl) (by kernel_rfl)) rfl rfl rfl ?_
    refine jp (pj_ilss (ht rfl) (ht rfl)) rfl rfl rfl ?_
    refine j_end ?_
    refine run_cond (ht rfl) (fun e1 => ?_) (fun e1 => ?_)
    · replace h := bt e1 h
      refine run_skip ?_
      refine rs ?_
      refine run_block ?_
      refine rt ?_
      refine jp (pm (ht rfl)) rfl rfl rfl ?_
      refine jp (pj_umul (k := .u64) (b := 64) rfl rfl (ht rfl) (has_un (x := 256#64) rfl)) rfl rfl rfl ?_
      refine jp (pm (ht rfl)) rfl rfl rfl ?_
      refine jp (pm (ht rfl)) rfl rfl rfl ?_
      obtain ⟨x1, e2, h⟩ := bind_some h
      refine jp (pj_index_slx (ht rfl) (ht rfl) isInt_i64 e2 (by kernel_rfl)) rfl rfl rfl ?_
      refine jp (pl (ht rfl) (by kernel_rfl)) rfl rfl rfl ?_
      refine jp (pj_conv_uu (k := .u64) (b := 64) rfl rfl (by kernel_rfl) (ht rfl)) rfl rfl rfl ?_
      refine jp (pj_uadd (k := .u64) (b := 64) rfl rfl (ht rfl) (ht rfl)) rfl rfl rfl ?_
      refine jp (pa (ht rfl)) rfl rfl rfl ?_
      refine j_end ?_
      refine run_endblock ?_
      refine rt ?_
      refine jp (pm (ht rfl)) rfl rfl rfl ?_
      refine jp (pj_iadd (ht rfl) has_i64) rfl rfl rfl ?_
      refine jp (pa (ht rfl)) rfl rfl rfl ?_
      refine j_end ?_
      obtain rfl := oi h
      exact run_next () (.cons (.of_lk rfl) <| .cons (.of_lk rfl) <| .cons (.of_lk rfl) <| .nil) (.nil)
    · replace h := bf e1 h
      obtain rfl := oi h
      exact run_brk () (.cons (.of_lk rfl) <| .cons (.of_lk rfl) <| .cons (.of_lk rfl) <| .nil) (.nil)
  · rintro _
    show Run _ _ _ [(0, (sl u8).slot p_b), (3, u64.slot y3), (4, i64.slot y4)] []
    refine run_to (Γ' := [(3, u64.slot y3)]) (H' := []) (.cons (.of_lk rfl) <| .nil) (.nil) ?_
    refine rs ?_
    refine rt ?_
    refine jp (pm (ht rfl)) rfl rfl rfl ?_
    refine jp (pa (ht rfl)) rfl rfl rfl ?_
    refine j_end ?_
    obtain rfl := oi h
    exact run_ret fun a w hst => q_ret1 hst rfl (.tmp rfl) () (fun _ _ h => h) (.nil)
set_option maxRecDepth 100000 in
set_option maxHeartbeats 4000000 in
theorem c_rolodexref02_turned {G : GP} {p_x : BitVec 32} {p_n : BitVec 32} {r : (BitVec 32)} (h : rolodexref02_turned p_x p_n = some r) : Ctr Tryd.prog G 117 [u32.slot p_x, u32.slot p_n] [] (fun (_ : Unit) => u32.slot r) (fun (_ : Unit) => []) := by
  unfold rolodexref02_turned at h
  refine ctr_of_run Tryd.func117 rfl 13 rfl rfl fun m0 w0 b0 => ?_
  show Run _ _ _ [(0, u32.slot p_x), (1, u32.slot p_n)] _
  refine rs ?_
  refine rt ?_
  refine jp (pa (has_un (x := 0#32) rfl)) rfl rfl rfl ?_
  refine j_end ?_
  refine rs ?_
  refine rt ?_
  refine jp (pm (ht rfl)) rfl rfl rfl ?_
  refine jp (pm (ht rfl)) rfl rfl rfl ?_
  refine jp (pj_ushr (k := .u32) (b := 32) rfl (ht rfl) (ht rfl) isInt_un (Int.natCast_nonneg _)) rfl rfl rfl ?_
  refine jp (pm (ht rfl)) rfl rfl rfl ?_
  refine jp (pm (ht rfl)) rfl rfl rfl ?_
  refine jp (pj_usub (k := .u32) (b := 32) rfl rfl (has_un (x := 32#32) rfl) (ht rfl)) rfl rfl rfl ?_
  refine jp (pj_ushl (k := .u32) (b := 32) rfl rfl (ht rfl) (ht rfl) isInt_un (Int.natCast_nonneg _)) rfl rfl rfl ?_
  refine jp (pj_uor (k := .u32) (b := 32) rfl rfl (ht rfl) (ht rfl)) rfl rfl rfl ?_
  obtain ⟨x1, e1, h⟩ := bind_some h
  refine jp (PJ.eqv (pa (ht rfl)) (oi e1)) rfl rfl rfl ?_
  refine j_end ?_
  obtain rfl := oi h
  exact run_ret fun a w hst => q_ret1 hst rfl (.tmp rfl) () (fun _ _ h => h) (.nil)
set_option maxRecDepth 100000 in
set_option maxHeartbeats 4000000 in
theorem c_rolodexref02_words {G : GP} {p_b : List (BitVec 8)} {r : (Vector (BitVec 32) 64)} (h : rolodexref02_words p_b = some r) : Ctr Tryd.prog G 115 [(sl u8).slot p_b] [] (fun (_ : Unit) => (vec 64 u32).slot r) (fun (_ : Unit) => []) := by
  unfold rolodexref02_words at h
  refine ctr_of_run Tryd.func115 rfl 65 rfl rfl fun m0 w0 b0 => ?_
  show Run _ _ _ [(0, (sl u8).slot p_b)] _
  refine rs ?_
  refine rt ?_
  refine j_alloc (x := (Vector.replicate 64 (0#32))) (R := (vec 64 u32)) (zero_vec 64 zero_un) (by kernel_rfl) rfl fun b1 => ?_
  refine j_end ?_
  refine rs ?_
  refine rt ?_
  refine j_alloc (x := (Vector.replicate 64 (0#32))) (R := (vec 64 u32)) (zero_vec 64 zero_un) (by kernel_rfl) rfl fun b2 => ?_
  refine j_end ?_
  refine rs ?_
  refine rs ?_
  refine rt ?_
  refine jp (pa has_i64) rfl rfl rfl ?_
  refine j_end ?_
  obtain ⟨⟨y3, y4⟩, e6, h⟩ := bind_some h
  refine run_loopS (Γi := fun (i : Unit) (s : Int × (Vector (BitVec 32) 64)) => [(0, (sl u8).slot p_b), (2, val (.pointer (some ⟨b1, 0, none⟩))), (3, val (.pointer (some ⟨b2, 0, none⟩))), (4, i64.slot s.1)]) (Hi := fun (i : Unit) (s : Int × (Vector (BitVec 32) 64)) => [box b2 148 (vec 64 u32) s.2, box b1 148 (vec 64 u32) (Vector.replicate 64 (0#32))]) e6 () (fun a w hst => (hst.sub (.cons (.of_lk rfl) <| .cons (.of_lk rfl) <| .cons (.of_lk rfl) <| .cons (.of_lk rfl) <| .nil)).keep (.cons .here <| .cons .here <| .nil)) ?_ ?_
  · clear h e6
    rintro _ ⟨y1, y2⟩ lr h
    change rolodexref02_words_L1 p_b y1 y2 = some _ at h
    show Run _ _ _ [(0, (sl u8).slot p_b), (2, val (.pointer (some ⟨b1, 0, none⟩))), (3, val (.pointer (some ⟨b2, 0, none⟩))), (4, i64.slot y1)] [box b2 148 (vec 64 u32) y2, box b1 148 (vec 64 u32) (Vector.replicate 64 (0#32))]
    unfold rolodexref02_words_L1 at h
    refine rs ?_
    refine rs ?_
    refine rt ?_
    refine jp (pm (ht rfl)) rfl rfl rfl ?_
    refine jp (pj_ilss (ht rfl) has_i64) rfl rfl rfl ?_
    refine j_end ?_
    refine run_cond (ht rfl) (fun e1 => ?_) (fun e1 => ?_)
    · replace h := bt e1 h
      refine run_skip ?_
      refine rs ?_
      refine run_block ?_
      refine rt ?_
      refine jp (pm (ht rfl)) rfl rfl rfl ?_
      refine jp (pm (ht rfl)) rfl rfl rfl ?_
      refine jp (pm (ht rfl)) rfl rfl rfl ?_
      refine jp (pj_imul has_i64 (ht rfl)) rfl rfl rfl ?_
      refine jp (pm (ht rfl)) rfl rfl rfl ?_
      refine jp (pj_imul has_i64 (ht rfl)) rfl rfl rfl ?_
      refine jp (pj_iadd (ht rfl) has_i64) rfl rfl rfl ?_
      obtain ⟨x1, e2, h⟩ := bind_some h
      refine jp (pj_slice_slx (ht rfl) (.yes (ht rfl) isInt_i64) (.yes (ht rfl) isInt_i64) e2 (by kernel_rfl)) rfl rfl rfl ?_
      obtain ⟨r1, e3, h⟩ := bind_some h
      refine jp (pj_call (hc (ht rfl) <| hasL_nil) (by kernel_rfl) (c_rolodexref01_Value e3)) rfl rfl rfl ?_
      refine jp (pj_conv_uu (k := .u32) (b := 32) rfl rfl (by kernel_rfl) (ht rfl)) rfl rfl rfl ?_
      obtain ⟨e4, h⟩ := grd_some h
      refine jp (pj_index_arr (n := 64) (sz := 1) (ht rfl) (ht rfl) isInt_i64 e4.1 e4.2 (by kernel_rfl)) rfl rfl rfl ?_
      obtain ⟨x2, e5, h⟩ := bind_some h
      refine j_store_boxx (r' := x2) (ht rfl) (ht rfl) .here (Path.then (Path.all (vec 64 u32)) (Path.atI 64 u32 y1.toNat (lt_nat e4))) (by kernel_rfl) (oi e5) ?_
      refine j_end ?_
      refine run_endblock ?_
      refine rt ?_
      refine jp (pm (ht rfl)) rfl rfl rfl ?_
      refine jp (pj_iadd (ht rfl) has_i64) rfl rfl rfl ?_
      refine jp (pa (ht rfl)) rfl rfl rfl ?_
      refine j_end ?_
      obtain rfl := oi h
      exact run_next () (.cons (.of_lk rfl) <| .cons (.of_lk rfl) <| .cons (.of_lk rfl) <| .cons (.of_lk rfl) <| .nil) (.cons .here <| .cons .here <| .nil)
    · replace h := bf e1 h
      obtain rfl := oi h
      exact run_brk () (.cons (.of_lk rfl) <| .cons (.of_lk rfl) <| .cons (.of_lk rfl) <| .cons (.of_lk rfl) <| .nil) (.cons .here <| .cons .here <| .nil)
  · rintro _
    show Run _ _ _ [(0, (sl u8).slot p_b), (2, val (.pointer (some ⟨b1, 0, none⟩))), (3, val (.pointer (some ⟨b2, 0, none⟩))), (4, i64.slot y3)] [box b2 148 (vec 64 u32) y4, box b1 148 (vec 64 u32) (Vector.replicate 64 (0#32))]
    refine run_to (Γ' := [(2, val (.pointer (some ⟨b1, 0, none⟩))), (3, val (.pointer (some ⟨b2, 0, none⟩)))]) (H' := [box b2 148 (vec 64 u32) y4, box b1 148 (vec 64 u32) (Vector.replicate 64 (0#32))]) (.cons (.of_lk rfl) <| .cons (.of_lk rfl) <| .nil) (.cons .here <| .cons .here <| .nil) ?_
    refine rs ?_
    refine rs ?_
    refine rt ?_
    refine jp (pa has_i64) rfl rfl rfl ?_
    refine j_end ?_
    obtain ⟨⟨y7, y8⟩, e18, h⟩ := bind_some h
    refine run_loopS (Γi := fun (i : Unit) (s : Int × (Vector (BitVec 32) 64)) => [(2, val (.pointer (some ⟨b1, 0, none⟩))), (3, val (.pointer (some ⟨b2, 0, none⟩))), (5, i64.slot s.1)]) (Hi := fun (i : Unit) (s : Int × (Vector (BitVec 32) 64)) => [box b2 148 (vec 64 u32) s.2, box b1 148 (vec 64 u32) (Vector.replicate 64 (0#32))]) e18 () (fun a w hst => (hst.sub (.cons (.of_lk rfl) <| .cons (.of_lk rfl) <| .cons (.of_lk rfl) <| .nil)).keep (.cons .here <| .cons .here <| .nil)) ?_ ?_
    · clear h e18
      rintro _ ⟨y5, y6⟩ lr h
      change rolodexref02_words_L2 y5 y6 = some _ at h
      show Run _ _ _ [(2, val (.pointer (some ⟨b1, 0, none⟩))), (3, val (.pointer (some ⟨b2, 0, none⟩))), (5, i64.slot y5)] [box b2 148 (vec 64 u32) y6, box b1 148 (vec 64 u32) (Vector.replicate 64 (0#32))]
      unfold rolodexref02_words_L2 at h
      refine rs ?_
      refine rs ?_
      refine rt ?_
      refine jp (pm (ht rfl)) rfl rfl rfl ?_
      refine jp (pj_ilss (ht rfl) has_i64) rfl rfl rfl ?_
      refine j_end ?_
      refine run_cond (ht rfl) (fun e7 => ?_) (fun e7 => ?_)
      · replace h := bt e7 h
        refine run_skip ?_
        refine rs ?_
        refine run_block ?_
        refine rs ?_
        refine rt ?_
        refine jp (pm (ht rfl)) rfl rfl rfl ?_
        refine jp (pj_isub (ht rfl) has_i64) rfl rfl rfl ?_
        obtain ⟨x3, e8, h⟩ := bind_some h
        refine jp (pj_index_arr (n := 64) (sz := 1) (ht rfl) (ht rfl) isInt_i64 (vget_some e8).1 (vget_lt e8) (by kernel_rfl)) rfl rfl rfl ?_
        refine jp (PJ.eqv (pj_load_box (ht rfl) .here (Path.then (Path.all (vec 64 u32)) (Path.atI 64 u32 ((w64 (y5 - (15 : Int))).toNat) (vget_some e8).2.1)) (by kernel_rfl)) (vget_eq e8 (vget_some e8).2.1)) rfl rfl rfl ?_
        refine jp (pa (ht rfl)) rfl rfl rfl ?_
        refine j_end ?_
        refine rs ?_
        refine rt ?_
        refine jp (pm (ht rfl)) rfl rfl rfl ?_
        refine jp (pj_isub (ht rfl) has_i64) rfl rfl rfl ?_
        obtain ⟨x4, e9, h⟩ := bind_some h
        refine jp (pj_index_arr (n := 64) (sz := 1) (ht rfl) (ht rfl) isInt_i64 (vget_some e9).1 (vget_lt e9) (by kernel_rfl)) rfl rfl rfl ?_
        refine jp (PJ.eqv (pj_load_box (ht rfl) .here (Path.then (Path.all (vec 64 u32)) (Path.atI 64 u32 ((w64 (y5 - (2 : Int))).toNat) (vget_some e9).2.1)) (by kernel_rfl)) (vget_eq e9 (vget_some e9).2.1)) rfl rfl rfl ?_
        refine jp (pa (ht rfl)) rfl rfl rfl ?_
        refine j_end ?_
        obtain ⟨x5, e10, h⟩ := bind_some h
        obtain ⟨r2, e11, h⟩ := bind_some h
        obtain ⟨r3, e12, h⟩ := bind_some h
        obtain ⟨x6, e13, h⟩ := bind_some h
        obtain ⟨r4, e14, h⟩ := bind_some h
        obtain ⟨r5, e15, h⟩ := bind_some h
        refine run_draw (n := 28) (by kernel_rfl) (by kernel_rfl) (by kernel_rfl) (by kernel_rfl) (.read (.plain rfl (pm (ht rfl))) <| .read (.plain rfl (pm (ht rfl))) <| .read (.plain rfl (pj_isub (ht rfl) has_i64)) <| .read (.plain rfl (pj_index_arr (n := 64) (sz := 1) (ht rfl) (ht rfl) isInt_i64 (vget_some e10).1 (vget_lt e10) (by kernel_rfl))) <| .read (.plain rfl (PJ.eqv (pj_load_box (ht rfl) .here (Path.then (Path.all (vec 64 u32)) (Path.atI 64 u32 ((w64 (y5 - (16 : Int))).toNat) (vget_some e10).2.1)) (by kernel_rfl)) (vget_eq e10 (vget_some e10).2.1))) <| .read (.plain rfl (pm (ht rfl))) <| .read (.plain rfl (pj_call (hc (ht rfl) <| hc (has_un (x := 7#32) rfl) <| hasL_nil) (by kernel_rfl) (c_rolodexref02_turned e11))) <| .read (.plain rfl (pm (ht rfl))) <| .read (.plain rfl (pj_call (hc (ht rfl) <| hc (has_un (x := 18#32) rfl) <| hasL_nil) (by kernel_rfl) (c_rolodexref02_turned e12))) <| .read (.plain rfl (pj_uxor (k := .u32) (b := 32) rfl rfl (ht rfl) (ht rfl))) <| .read (.plain rfl (pm (ht rfl))) <| .read (.plain rfl (pj_uquo (k := .u32) (b := 32) rfl rfl (ht rfl) (has_un (x := 8#32) rfl) (by decide))) <| .read (.plain rfl (pj_uxor (k := .u32) (b := 32) rfl rfl (ht rfl) (ht rfl))) <| .read (.plain rfl (pj_uadd (k := .u32) (b := 32) rfl rfl (ht rfl) (ht rfl))) <| .read (.plain rfl (pm (ht rfl))) <| .read (.plain rfl (pj_isub (ht rfl) has_i64)) <| .read (.plain rfl (pj_index_arr (n := 64) (sz := 1) (ht rfl) (ht rfl) isInt_i64 (vget_some e13).1 (vget_lt e13) (by kernel_rfl))) <| .read (.plain rfl (PJ.eqv (pj_load_box (ht rfl) .here (Path.then (Path.all (vec 64 u32)) (Path.atI 64 u32 ((w64 (y5 - (7 : Int))).toNat) (vget_some e13).2.1)) (by kernel_rfl)) (vget_eq e13 (vget_some e13).2.1))) <| .read (.plain rfl (pj_uadd (k := .u32) (b := 32) rfl rfl (ht rfl) (ht rfl))) <| .read (.plain rfl (pm (ht rfl))) <| .read (.plain rfl (pj_call (hc (ht rfl) <| hc (has_un (x := 17#32) rfl) <| hasL_nil) (by kernel_rfl) (c_rolodexref02_turned e14))) <| .read (.plain rfl (pm (ht rfl))) <| .read (.plain rfl (pj_call (hc (ht rfl) <| hc (has_un (x := 19#32) rfl) <| hasL_nil) (by kernel_rfl) (c_rolodexref02_turned e15))) <| .read (.plain rfl (pj_uxor (k := .u32) (b := 32) rfl rfl (ht rfl) (ht rfl))) <| .read (.plain rfl (pm (ht rfl))) <| .read (.plain rfl (pj_uquo (k := .u32) (b := 32) rfl rfl (ht rfl) (has_un (x := 1024#32) rfl) (by decide))) <| .read (.plain rfl (pj_uxor (k := .u32) (b := 32) rfl rfl (ht rfl) (ht rfl))) <| .read (.plain rfl (pj_uadd (k := .u32) (b := 32) rfl rfl (ht rfl) (ht rfl))) <| .nil) (j_to (Γ' := [(2, val (.pointer (some ⟨b1, 0, none⟩))), (3, val (.pointer (some ⟨b2, 0, none⟩))), (5, i64.slot y5), (35, i64.slot y5), (62, u32.slot (((x5 + ((r2 ^^^ r3) ^^^ (x3 / (8#32)))) + x6) + ((r4 ^^^ r5) ^^^ (x4 / (1024#32)))))]) (H' := [box b2 148 (vec 64 u32) y6, box b1 148 (vec 64 u32) (Vector.replicate 64 (0#32))]) (.cons (.of_lk rfl) <| .cons (.of_lk rfl) <| .cons (.of_lk rfl) <| .cons (.of_lk rfl) <| .cons (.of_lk rfl) <| .nil) (.cons .here <| .cons .here <| .nil) ?_)
        obtain ⟨e16, h⟩ := grd_some h
        refine jp (pj_index_arr (n := 64) (sz := 1) (ht rfl) (ht rfl) isInt_i64 e16.1 e16.2 (by kernel_rfl)) rfl rfl rfl ?_
        obtain ⟨x7, e17, h⟩ := bind_some h
        refine j_store_boxx (r' := x7) (ht rfl) (ht rfl) .here (Path.then (Path.all (vec 64 u32)) (Path.atI 64 u32 y5.toNat (lt_nat e16))) (by kernel_rfl) (oi e17) ?_
        refine j_end ?_
        refine run_endblock ?_
        refine rt ?_
        refine jp (pm (ht rfl)) rfl rfl rfl ?_
        refine jp (pj_iadd (ht rfl) has_i64) rfl rfl rfl ?_
        refine jp (pa (ht rfl)) rfl rfl rfl ?_
        refine j_end ?_
        obtain rfl := oi h
        exact run_next () (.cons (.of_lk rfl) <| .cons (.of_lk rfl) <| .cons (.of_lk rfl) <| .nil) (.cons .here <| .cons .here <| .nil)
      · replace h := bf e7 h
        obtain rfl := oi h
        exact run_brk () (.cons (.of_lk rfl) <| .cons (.of_lk rfl) <| .cons (.of_lk rfl) <| .nil) (.cons .here <| .cons .here <| .nil)
    · rintro _
      show Run _ _ _ [(2, val (.pointer (some ⟨b1, 0, none⟩))), (3, val (.pointer (some ⟨b2, 0, none⟩))), (5, i64.slot y7)] [box b2 148 (vec 64 u32) y8, box b1 148 (vec 64 u32) (Vector.replicate 64 (0#32))]
      refine run_to (Γ' := [(2, val (.pointer (some ⟨b1, 0, none⟩))), (3, val (.pointer (some ⟨b2, 0, none⟩)))]) (H' := [box b2 148 (vec 64 u32) y8, box b1 148 (vec 64 u32) (Vector.replicate 64 (0#32))]) (.cons (.of_lk rfl) <| .cons (.of_lk rfl) <| .nil) (.cons .here <| .cons .here <| .nil) ?_
      refine rs ?_
      refine rt ?_
      refine jp (pj_load_box (ht rfl) .here (Path.all (vec 64 u32)) (by kernel_rfl)) rfl rfl rfl ?_
      refine j_store_boxx (r' := y8) (ht rfl) (ht rfl) (.next .here) (Path.all (vec 64 u32)) (by kernel_rfl) rfl ?_
      refine j_end ?_
      obtain rfl := oi h
      exact run_ret fun a w hst => q_ret1 hst rfl (.cell rfl .here (by kernel_rfl)) () (fun _ _ h => h) (.nil)
set_option maxRecDepth 100000 in
set_option maxHeartbeats 4000000 in
theorem c_rolodexref02_K {G : GP} {r : (Vector (BitVec 32) 64)} (h : rolodexref02_K = some r) : Ctr Tryd.prog G 116 [] [] (fun (_ : Unit) => (vec 64 u32).slot r) (fun (_ : Unit) => []) := by
  unfold rolodexref02_K at h
  refine ctr_of_run Tryd.func116 rfl 2 rfl rfl fun m0 w0 b0 => ?_
  show Run _ _ _ [] _
  refine rs ?_
  refine rt ?_
  refine j_alloc (x := (Vector.replicate 64 (0#32))) (R := (vec 64 u32)) (zero_vec 64 zero_un) (by kernel_rfl) rfl fun b1 => ?_
  refine j_end ?_
  refine rs ?_
  refine rt ?_
  obtain ⟨x1, e1, h⟩ := bind_some h
  refine jp (PJ.eqv (pj_buildArr (z0 := 0#32) (zero_vec 64 zero_un) (by kernel_rfl) (.cons (has_un (x := 1116352408#32) rfl) (.cons (has_un (x := 1899447441#32) rfl) (.cons (has_un (x := 3049323471#32) rfl) (.cons (has_un (x := 3921009573#32) rfl) (.cons (has_un (x := 961987163#32) rfl) (.cons (has_un (x := 1508970993#32) rfl) (.cons (has_un (x := 2453635748#32) rfl) (.cons (has_un (x := 2870763221#32) rfl) (.cons (has_un (x := 3624381080#32) rfl) (.cons (has_un (x := 310598401#32) rfl) (.cons (has_un (x := 607225278#32) rfl) (.cons (has_un (x := 1426881987#32) rfl) (.cons (has_un (x := 1925078388#32) rfl) (.cons (has_un (x := 2162078206#32) rfl) (.cons (has_un (x := 2614888103#32) rfl) (.cons (has_un (x := 3248222580#32) rfl) (.cons (has_un (x := 3835390401#32) rfl) (.cons (has_un (x := 4022224774#32) rfl) (.cons (has_un (x := 264347078#32) rfl) (.cons (has_un (x := 604807628#32) rfl) (.cons (has_un (x := 770255983#32) rfl) (.cons (has_un (x := 1249150122#32) rfl) (.cons (has_un (x := 1555081692#32) rfl) (.cons (has_un (x := 1996064986#32) rfl) (.cons (has_un (x := 2554220882#32) rfl) (.cons (has_un (x := 2821834349#32) rfl) (.cons (has_un (x := 2952996808#32) rfl) (.cons (has_un (x := 3210313671#32) rfl) (.cons (has_un (x := 3336571891#32) rfl) (.cons (has_un (x := 3584528711#32) rfl) (.cons (has_un (x := 113926993#32) rfl) (.cons (has_un (x := 338241895#32) rfl) (.cons (has_un (x := 666307205#32) rfl) (.cons (has_un (x := 773529912#32) rfl) (.cons (has_un (x := 1294757372#32) rfl) (.cons (has_un (x := 1396182291#32) rfl) (.cons (has_un (x := 1695183700#32) rfl) (.cons (has_un (x := 1986661051#32) rfl) (.cons (has_un (x := 2177026350#32) rfl) (.cons (has_un (x := 2456956037#32) rfl) (.cons (has_un (x := 2730485921#32) rfl) (.cons (has_un (x := 2820302411#32) rfl) (.cons (has_un (x := 3259730800#32) rfl) (.cons (has_un (x := 3345764771#32) rfl) (.cons (has_un (x := 3516065817#32) rfl) (.cons (has_un (x := 3600352804#32) rfl) (.cons (has_un (x := 4094571909#32) rfl) (.cons (has_un (x := 275423344#32) rfl) (.cons (has_un (x := 430227734#32) rfl) (.cons (has_un (x := 506948616#32) rfl) (.cons (has_un (x := 659060556#32) rfl) (.cons (has_un (x := 883997877#32) rfl) (.cons (has_un (x := 958139571#32) rfl) (.cons (has_un (x := 1322822218#32) rfl) (.cons (has_un (x := 1537002063#32) rfl) (.cons (has_un (x := 1747873779#32) rfl) (.cons (has_un (x := 1955562222#32) rfl) (.cons (has_un (x := 2024104815#32) rfl) (.cons (has_un (x := 2227730452#32) rfl) (.cons (has_un (x := 2361852424#32) rfl) (.cons (has_un (x := 2428436474#32) rfl) (.cons (has_un (x := 2756734187#32) rfl) (.cons (has_un (x := 3204031479#32) rfl) (.cons (has_un (x := 3329325298#32) rfl) .nil)))))))))))))))))))))))))))))))))))))))))))))))))))))))))))))))) (by kernel_rfl) rfl) (oi e1)) rfl rfl rfl ?_
  refine j_store_boxx (r' := x1) (ht rfl) (ht rfl) .here (Path.all (vec 64 u32)) (by kernel_rfl) rfl ?_
  refine j_end ?_
  obtain rfl := oi h
  exact run_ret fun a w hst => q_ret1 hst rfl (.cell rfl .here (by kernel_rfl)) () (fun _ _ h => h) (.nil)
set_option maxRecDepth 100000 in
set_option maxHeartbeats 4000000 in
theorem c_rolodexref02_take {G : GP} {p_h : Vector (BitVec 32) 8} {p_block : List (BitVec 8)} {r : (Vector (BitVec 32) 8)} (h : rolodexref02_take p_h p_block = some r) : Ctr Tryd.prog G 111 [(vec 8 u32).slot p_h, (sl u8).slot p_block] [] (fun (_ : Unit) => (vec 8 u32).slot r) (fun (_ : Unit) => []) := by
  unfold rolodexref02_take at h
  refine ctr_of_run Tryd.func111 rfl 121 rfl rfl fun m0 w0 b0 => ?_
  show Run _ _ _ [(0, (vec 8 u32).slot p_h), (1, (sl u8).slot p_block)] _
  refine rs ?_
  refine rt ?_
  refine j_box (ht rfl) rfl fun b1 => ?_
  refine j_alloc (x := (Vector.replicate 8 (0#32))) (R := (vec 8 u32)) (zero_vec 8 zero_un) (by kernel_rfl) rfl fun b2 => ?_
  refine j_end ?_
  refine rs ?_
  refine rt ?_
  refine jp (pm (ht rfl)) rfl rfl rfl ?_
  obtain ⟨r1, e1, h⟩ := bind_some h
  refine jp (pj_call (hc (ht rfl) <| hasL_nil) (by kernel_rfl) (c_rolodexref02_words e1)) rfl rfl rfl ?_
  refine j_alloc (x := (Vector.replicate 64 (0#32))) (R := (vec 64 u32)) (zero_vec 64 zero_un) (by kernel_rfl) rfl fun b3 => ?_
  refine j_store_boxx (r' := r1) (ht rfl) (ht rfl) .here (Path.all (vec 64 u32)) (by kernel_rfl) rfl ?_
  refine j_freezeTo (t := 5) .here (.of_lk rfl) ?_
  refine j_end ?_
  refine rs ?_
  refine rt ?_
  obtain ⟨r2, e2, h⟩ := bind_some h
  refine jp (pj_call (hasL_nil) (by kernel_rfl) (c_rolodexref02_K e2)) rfl rfl rfl ?_
  refine j_alloc (x := (Vector.replicate 64 (0#32))) (R := (vec 64 u32)) (zero_vec 64 zero_un) (by kernel_rfl) rfl fun b4 => ?_
  refine j_store_boxx (r' := r2) (ht rfl) (ht rfl) .here (Path.all (vec 64 u32)) (by kernel_rfl) rfl ?_
  refine j_freezeTo (t := 6) .here (.of_lk rfl) ?_
  refine j_end ?_
  refine rs ?_
  refine rt ?_
  refine jp (pj_load_box (ht rfl) (.next .here) (Path.all (vec 8 u32)) (by kernel_rfl)) rfl rfl rfl ?_
  refine j_alloc (x := (Vector.replicate 8 (0#32))) (R := (vec 8 u32)) (zero_vec 8 zero_un) (by kernel_rfl) rfl fun b5 => ?_
  refine j_store_boxx (r' := p_h) (ht rfl) (ht rfl) .here (Path.all (vec 8 u32)) (by kernel_rfl) rfl ?_
  refine j_end ?_
  refine rs ?_
  refine rs ?_
  refine rt ?_
  refine jp (pa has_i64) rfl rfl rfl ?_
  refine j_end ?_
  obtain ⟨⟨y3, y4⟩, e16, h⟩ := bind_some h
  refine run_loopS (Γi := fun (i : Unit) (s : Int × (Vector (BitVec 32) 8)) => [(2, val (.pointer (some ⟨b1, 0, none⟩))), (4, val (.pointer (some ⟨b2, 0, none⟩))), (5, ptrTo (vec 64 u32) r1), (6, ptrTo (vec 64 u32) r2), (7, val (.pointer (some ⟨b5, 0, none⟩))), (8, i64.slot s.1)]) (Hi := fun (i : Unit) (s : Int × (Vector (BitVec 32) 8)) => [box b5 142 (vec 8 u32) s.2, box b2 142 (vec 8 u32) (Vector.replicate 8 (0#32)), box b1 142 (vec 8 u32) p_h]) e16 () (fun a w hst => (hst.sub (.cons (.of_lk rfl) <| .cons (.of_lk rfl) <| .cons (.of_lk rfl) <| .cons (.of_lk rfl) <| .cons (.of_lk rfl) <| .cons (.of_lk rfl) <| .nil)).keep (.cons .here <| .cons .here <| .cons .here <| .nil)) ?_ ?_
  · clear h e16
    rintro _ ⟨y1, y2⟩ lr h
    change rolodexref02_take_L1 r2 r1 y1 y2 = some _ at h
    show Run _ _ _ [(2, val (.pointer (some ⟨b1, 0, none⟩))), (4, val (.pointer (some ⟨b2, 0, none⟩))), (5, ptrTo (vec 64 u32) r1), (6, ptrTo (vec 64 u32) r2), (7, val (.pointer (some ⟨b5, 0, none⟩))), (8, i64.slot y1)] [box b5 142 (vec 8 u32) y2, box b2 142 (vec 8 u32) (Vector.replicate 8 (0#32)), box b1 142 (vec 8 u32) p_h]
    unfold rolodexref02_take_L1 at h
    refine rs ?_
    refine rs ?_
    refine rt ?_
    refine jp (pm (ht rfl)) rfl rfl rfl ?_
    refine jp (pj_ilss (ht rfl) has_i64) rfl rfl rfl ?_
    refine j_end ?_
    refine run_cond (ht rfl) (fun e3 => ?_) (fun e3 => ?_)
    · replace h := bt e3 h
      refine run_skip ?_
      refine rs ?_
      refine run_block ?_
      refine rs ?_
      refine rt ?_
      refine jp (pj_index_arr (n := 8) (sz := 1) (ht rfl) has_i64 isInt_i64 (by decide) (by decide) (by kernel_rfl)) rfl rfl rfl ?_
      refine jp (pj_load_box (ht rfl) .here (Path.then (Path.all (vec 8 u32)) (Path.at 8 u32 4 (by decide))) (by kernel_rfl)) rfl rfl rfl ?_
      refine jp (pj_index_arr (n := 8) (sz := 1) (ht rfl) has_i64 isInt_i64 (by decide) (by decide) (by kernel_rfl)) rfl rfl rfl ?_
      refine jp (pj_load_box (ht rfl) .here (Path.then (Path.all (vec 8 u32)) (Path.at 8 u32 5 (by decide))) (by kernel_rfl)) rfl rfl rfl ?_
      refine jp (pj_uand (k := .u32) (b := 32) rfl rfl (ht rfl) (ht rfl)) rfl rfl rfl ?_
      refine jp (pj_index_arr (n := 8) (sz := 1) (ht rfl) has_i64 isInt_i64 (by decide) (by decide) (by kernel_rfl)) rfl rfl rfl ?_
      refine jp (pj_load_box (ht rfl) .here (Path.then (Path.all (vec 8 u32)) (Path.at 8 u32 4 (by decide))) (by kernel_rfl)) rfl rfl rfl ?_
      refine jp (pj_usub (k := .u32) (b := 32) rfl rfl (has_un (x := 4294967295#32) rfl) (ht rfl)) rfl rfl rfl ?_
      refine jp (pj_index_arr (n := 8) (sz := 1) (ht rfl) has_i64 isInt_i64 (by decide) (by decide) (by kernel_rfl)) rfl rfl rfl ?_
      refine jp (pj_load_box (ht rfl) .here (Path.then (Path.all (vec 8 u32)) (Path.at 8 u32 6 (by decide))) (by kernel_rfl)) rfl rfl rfl ?_
      refine jp (pj_uand (k := .u32) (b := 32) rfl rfl (ht rfl) (ht rfl)) rfl rfl rfl ?_
      refine jp (pj_uor (k := .u32) (b := 32) rfl rfl (ht rfl) (ht rfl)) rfl rfl rfl ?_
      obtain ⟨x1, e4, h⟩ := bind_some h
      refine jp (PJ.eqv (pa (ht rfl)) (oi e4)) rfl rfl rfl ?_
      refine j_end ?_
      refine rs ?_
      refine rt ?_
      refine jp (pj_index_arr (n := 8) (sz := 1) (ht rfl) has_i64 isInt_i64 (by decide) (by decide) (by kernel_rfl)) rfl rfl rfl ?_
      refine jp (pj_load_box (ht rfl) .here (Path.then (Path.all (vec 8 u32)) (Path.at 8 u32 0 (by decide))) (by kernel_rfl)) rfl rfl rfl ?_
      refine jp (pj_index_arr (n := 8) (sz := 1) (ht rfl) has_i64 isInt_i64 (by decide) (by decide) (by kernel_rfl)) rfl rfl rfl ?_
      refine jp (pj_load_box (ht rfl) .here (Path.then (Path.all (vec 8 u32)) (Path.at 8 u32 1 (by decide))) (by kernel_rfl)) rfl rfl rfl ?_
      refine jp (pj_uand (k := .u32) (b := 32) rfl rfl (ht rfl) (ht rfl)) rfl rfl rfl ?_
      refine jp (pj_index_arr (n := 8) (sz := 1) (ht rfl) has_i64 isInt_i64 (by decide) (by decide) (by kernel_rfl)) rfl rfl rfl ?_
      refine jp (pj_load_box (ht rfl) .here (Path.then (Path.all (vec 8 u32)) (Path.at 8 u32 0 (by decide))) (by kernel_rfl)) rfl rfl rfl ?_
      refine jp (pj_index_arr (n := 8) (sz := 1) (ht rfl) has_i64 isInt_i64 (by decide) (by decide) (by kernel_rfl)) rfl rfl rfl ?_
      refine jp (pj_load_box (ht rfl) .here (Path.then (Path.all (vec 8 u32)) (Path.at 8 u32 2 (by decide))) (by kernel_rfl)) rfl rfl rfl ?_
      refine jp (pj_uand (k := .u32) (b := 32) rfl rfl (ht rfl) (ht rfl)) rfl rfl rfl ?_
      refine jp (pj_uor (k := .u32) (b := 32) rfl rfl (ht rfl) (ht rfl)) rfl rfl rfl ?_
      refine jp (pj_index_arr (n := 8) (sz := 1) (ht rfl) has_i64 isInt_i64 (by decide) (by decide) (by kernel_rfl)) rfl rfl rfl ?_
      refine jp (pj_load_box (ht rfl) .here (Path.then (Path.all (vec 8 u32)) (Path.at 8 u32 1 (by decide))) (by kernel_rfl)) rfl rfl rfl ?_
      refine jp (pj_index_arr (n := 8) (sz := 1) (ht rfl) has_i64 isInt_i64 (by decide) (by decide) (by kernel_rfl)) rfl rfl rfl ?_
      refine jp (pj_load_box (ht rfl) .here (Path.then (Path.all (vec 8 u32)) (Path.at 8 u32 2 (by decide))) (by kernel_rfl)) rfl rfl rfl ?_
      refine jp (pj_uand (k := .u32) (b := 32) rfl rfl (ht rfl) (ht rfl)) rfl rfl rfl ?_
      refine jp (pj_uor (k := .u32) (b := 32) rfl rfl (ht rfl) (ht rfl)) rfl rfl rfl ?_
      obtain ⟨x2, e5, h⟩ := bind_some h
      refine jp (PJ.eqv (pa (ht rfl)) (oi e5)) rfl rfl rfl ?_
      refine j_end ?_
      refine rs ?_
      obtain ⟨r3, e6, h⟩ := bind_some h
      obtain ⟨r4, e7, h⟩ := bind_some h
      obtain ⟨r5, e8, h⟩ := bind_some h
      obtain ⟨x3, e9, h⟩ := bind_some h
      obtain ⟨x4, e10, h⟩ := bind_some h
      refine run_draw (n := 23) (by kernel_rfl) (by kernel_rfl) (by kernel_rfl) (by kernel_rfl) (.read (.plain rfl (pj_index_arr (n := 8) (sz := 1) (ht rfl) has_i64 isInt_i64 (by decide) (by decide) (by kernel_rfl))) <| .read (.plain rfl (pj_load_box (ht rfl) .here (Path.then (Path.all (vec 8 u32)) (Path.at 8 u32 7 (by decide))) (by kernel_rfl))) <| .read (.plain rfl (pj_index_arr (n := 8) (sz := 1) (ht rfl) has_i64 isInt_i64 (by decide) (by decide) (by kernel_rfl))) <| .read (.plain rfl (pj_load_box (ht rfl) .here (Path.then (Path.all (vec 8 u32)) (Path.at 8 u32 4 (by decide))) (by kernel_rfl))) <| .read (.plain rfl (pj_call (hc (ht rfl) <| hc (has_un (x := 6#32) rfl) <| hasL_nil) (by kernel_rfl) (c_rolodexref02_turned e6))) <| .read (.plain rfl (pj_index_arr (n := 8) (sz := 1) (ht rfl) has_i64 isInt_i64 (by decide) (by decide) (by kernel_rfl))) <| .read (.plain rfl (pj_load_box (ht rfl) .here (Path.then (Path.all (vec 8 u32)) (Path.at 8 u32 4 (by decide))) (by kernel_rfl))) <| .read (.plain rfl (pj_call (hc (ht rfl) <| hc (has_un (x := 11#32) rfl) <| hasL_nil) (by kernel_rfl) (c_rolodexref02_turned e7))) <| .read (.plain rfl (pj_uxor (k := .u32) (b := 32) rfl rfl (ht rfl) (ht rfl))) <| .read (.plain rfl (pj_index_arr (n := 8) (sz := 1) (ht rfl) has_i64 isInt_i64 (by decide) (by decide) (by kernel_rfl))) <| .read (.plain rfl (pj_load_box (ht rfl) .here (Path.then (Path.all (vec 8 u32)) (Path.at 8 u32 4 (by decide))) (by kernel_rfl))) <| .read (.plain rfl (pj_call (hc (ht rfl) <| hc (has_un (x := 25#32) rfl) <| hasL_nil) (by kernel_rfl) (c_rolodexref02_turned e8))) <| .read (.plain rfl (pj_uxor (k := .u32) (b := 32) rfl rfl (ht rfl) (ht rfl))) <| .read (.plain rfl (pj_uadd (k := .u32) (b := 32) rfl rfl (ht rfl) (ht rfl))) <| .read (.plain rfl (pm (ht rfl))) <| .read (.plain rfl (pj_uadd (k := .u32) (b := 32) rfl rfl (ht rfl) (ht rfl))) <| .read (.plain rfl (pm (ht rfl))) <| .read (.plain rfl (pj_index_tox (ht rfl) (ht rfl) isInt_i64 e9 (by kernel_rfl))) <| .read (.plain rfl (pl (ht rfl) (by kernel_rfl))) <| .read (.plain rfl (pj_uadd (k := .u32) (b := 32) rfl rfl (ht rfl) (ht rfl))) <| .read (.plain rfl (pm (ht rfl))) <| .read (.plain rfl (pj_index_tox (ht rfl) (ht rfl) isInt_i64 e10 (by kernel_rfl))) <| .read (.plain rfl (pl (ht rfl) (by kernel_rfl))) <| .nil) (j_to (Γ' := [(2, val (.pointer (some ⟨b1, 0, none⟩))), (4, val (.pointer (some ⟨b2, 0, none⟩))), (5, ptrTo (vec 64 u32) r1), (6, ptrTo (vec 64 u32) r2), (7, val (.pointer (some ⟨b5, 0, none⟩))), (8, i64.slot y1), (10, u32.slot x2), (70, u32.slot ((((y2[7]) + ((r3 ^^^ r4) ^^^ r5)) + x1) + x3)), (73, u32.slot x4)]) (H' := [box b5 142 (vec 8 u32) y2, box b2 142 (vec 8 u32) (Vector.replicate 8 (0#32)), box b1 142 (vec 8 u32) p_h]) (.cons (.of_lk rfl) <| .cons (.of_lk rfl) <| .cons (.of_lk rfl) <| .cons (.of_lk rfl) <| .cons (.of_lk rfl) <| .cons (.of_lk rfl) <| .cons (.of_lk rfl) <| .cons (.of_lk rfl) <| .cons (.of_lk rfl) <| .nil) (.cons .here <| .cons .here <| .cons .here <| .nil) ?_)
      refine jp (pj_uadd (k := .u32) (b := 32) rfl rfl (ht rfl) (ht rfl)) rfl rfl rfl ?_
      obtain ⟨x5, e11, h⟩ := bind_some h
      refine jp (PJ.eqv (pa (ht rfl)) (oi e11)) rfl rfl rfl ?_
      refine j_end ?_
      refine rs ?_
      obtain ⟨r6, e12, h⟩ := bind_some h
      obtain ⟨r7, e13, h⟩ := bind_some h
      obtain ⟨r8, e14, h⟩ := bind_some h
      refine run_draw (n := 12) (by kernel_rfl) (by kernel_rfl) (by kernel_rfl) (by kernel_rfl) (.read (.plain rfl (pj_index_arr (n := 8) (sz := 1) (ht rfl) has_i64 isInt_i64 (by decide) (by decide) (by kernel_rfl))) <| .read (.plain rfl (pj_load_box (ht rfl) .here (Path.then (Path.all (vec 8 u32)) (Path.at 8 u32 0 (by decide))) (by kernel_rfl))) <| .read (.plain rfl (pj_call (hc (ht rfl) <| hc (has_un (x := 2#32) rfl) <| hasL_nil) (by kernel_rfl) (c_rolodexref02_turned e12))) <| .read (.plain rfl (pj_index_arr (n := 8) (sz := 1) (ht rfl) has_i64 isInt_i64 (by decide) (by decide) (by kernel_rfl))) <| .read (.plain rfl (pj_load_box (ht rfl) .here (Path.then (Path.all (vec 8 u32)) (Path.at 8 u32 0 (by decide))) (by kernel_rfl))) <| .read (.plain rfl (pj_call (hc (ht rfl) <| hc (has_un (x := 13#32) rfl) <| hasL_nil) (by kernel_rfl) (c_rolodexref02_turned e13))) <| .read (.plain rfl (pj_uxor (k := .u32) (b := 32) rfl rfl (ht rfl) (ht rfl))) <| .read (.plain rfl (pj_index_arr (n := 8) (sz := 1) (ht rfl) has_i64 isInt_i64 (by decide) (by decide) (by kernel_rfl))) <| .read (.plain rfl (pj_load_box (ht rfl) .here (Path.then (Path.all (vec 8 u32)) (Path.at 8 u32 0 (by decide))) (by kernel_rfl))) <| .read (.plain rfl (pj_call (hc (ht rfl) <| hc (has_un (x := 22#32) rfl) <| hasL_nil) (by kernel_rfl) (c_rolodexref02_turned e14))) <| .read (.plain rfl (pj_uxor (k := .u32) (b := 32) rfl rfl (ht rfl) (ht rfl))) <| .read (.plain rfl (pm (ht rfl))) <| .nil) (j_to (Γ' := [(2, val (.pointer (some ⟨b1, 0, none⟩))), (4, val (.pointer (some ⟨b2, 0, none⟩))), (5, ptrTo (vec 64 u32) r1), (6, ptrTo (vec 64 u32) r2), (7, val (.pointer (some ⟨b5, 0, none⟩))), (8, i64.slot y1), (11, u32.slot x5), (85, u32.slot ((r6 ^^^ r7) ^^^ r8)), (86, u32.slot x2)]) (H' := [box b5 142 (vec 8 u32) y2, box b2 142 (vec 8 u32) (Vector.replicate 8 (0#32)), box b1 142 (vec 8 u32) p_h]) (.cons (.of_lk rfl) <| .cons (.of_lk rfl) <| .cons (.of_lk rfl) <| .cons (.of_lk rfl) <| .cons (.of_lk rfl) <| .cons (.of_lk rfl) <| .cons (.of_lk rfl) <| .cons (.of_lk rfl) <| .cons (.of_lk rfl) <| .nil) (.cons .here <| .cons .here <| .cons .here <| .nil) ?_)
      refine jp (pj_uadd (k := .u32) (b := 32) rfl rfl (ht rfl) (ht rfl)) rfl rfl rfl ?_
      refine jp (pa (ht rfl)) rfl rfl rfl ?_
      refine j_end ?_
      refine rt ?_
      refine jp (pm (ht rfl)) rfl rfl rfl ?_
      refine jp (pm (ht rfl)) rfl rfl rfl ?_
      refine jp (pj_uadd (k := .u32) (b := 32) rfl rfl (ht rfl) (ht rfl)) rfl rfl rfl ?_
      refine jp (pj_index_arr (n := 8) (sz := 1) (ht rfl) has_i64 isInt_i64 (by decide) (by decide) (by kernel_rfl)) rfl rfl rfl ?_
      refine jp (pj_load_box (ht rfl) .here (Path.then (Path.all (vec 8 u32)) (Path.at 8 u32 0 (by decide))) (by kernel_rfl)) rfl rfl rfl ?_
      refine jp (pj_index_arr (n := 8) (sz := 1) (ht rfl) has_i64 isInt_i64 (by decide) (by decide) (by kernel_rfl)) rfl rfl rfl ?_
      refine jp (pj_load_box (ht rfl) .here (Path.then (Path.all (vec 8 u32)) (Path.at 8 u32 1 (by decide))) (by kernel_rfl)) rfl rfl rfl ?_
      refine jp (pj_index_arr (n := 8) (sz := 1) (ht rfl) has_i64 isInt_i64 (by decide) (by decide) (by kernel_rfl)) rfl rfl rfl ?_
      refine jp (pj_load_box (ht rfl) .here (Path.then (Path.all (vec 8 u32)) (Path.at 8 u32 2 (by decide))) (by kernel_rfl)) rfl rfl rfl ?_
      refine jp (pj_index_arr (n := 8) (sz := 1) (ht rfl) has_i64 isInt_i64 (by decide) (by decide) (by kernel_rfl)) rfl rfl rfl ?_
      refine jp (pj_load_box (ht rfl) .here (Path.then (Path.all (vec 8 u32)) (Path.at 8 u32 3 (by decide))) (by kernel_rfl)) rfl rfl rfl ?_
      refine jp (pm (ht rfl)) rfl rfl rfl ?_
      refine jp (pj_uadd (k := .u32) (b := 32) rfl rfl (ht rfl) (ht rfl)) rfl rfl rfl ?_
      refine jp (pj_index_arr (n := 8) (sz := 1) (ht rfl) has_i64 isInt_i64 (by decide) (by decide) (by kernel_rfl)) rfl rfl rfl ?_
      refine jp (pj_load_box (ht rfl) .here (Path.then (Path.all (vec 8 u32)) (Path.at 8 u32 4 (by decide))) (by kernel_rfl)) rfl rfl rfl ?_
      refine jp (pj_index_arr (n := 8) (sz := 1) (ht rfl) has_i64 isInt_i64 (by decide) (by decide) (by kernel_rfl)) rfl rfl rfl ?_
      refine jp (pj_load_box (ht rfl) .here (Path.then (Path.all (vec 8 u32)) (Path.at 8 u32 5 (by decide))) (by kernel_rfl)) rfl rfl rfl ?_
      refine jp (pj_index_arr (n := 8) (sz := 1) (ht rfl) has_i64 isInt_i64 (by decide) (by decide) (by kernel_rfl)) rfl rfl rfl ?_
      refine jp (pj_load_box (ht rfl) .here (Path.then (Path.all (vec 8 u32)) (Path.at 8 u32 6 (by decide))) (by kernel_rfl)) rfl rfl rfl ?_
      obtain ⟨x6, e15, h⟩ := bind_some h
      refine jp (PJ.eqv (pj_buildArr (z0 := 0#32) (zero_vec 8 zero_un) (by kernel_rfl) (.cons (ht rfl) (.cons (ht rfl) (.cons (ht rfl) (.cons (ht rfl) (.cons (ht rfl) (.cons (ht rfl) (.cons (ht rfl) (.cons (ht rfl) .nil)))))))) (by kernel_rfl) rfl) (oi e15)) rfl rfl rfl ?_
      refine j_store_boxx (r' := x6) (ht rfl) (ht rfl) .here (Path.all (vec 8 u32)) (by kernel_rfl) rfl ?_
      refine j_end ?_
      refine run_endblock ?_
      refine rt ?_
      refine jp (pm (ht rfl)) rfl rfl rfl ?_
      refine jp (pj_iadd (ht rfl) has_i64) rfl rfl rfl ?_
      refine jp (pa (ht rfl)) rfl rfl rfl ?_
      refine j_end ?_
      obtain rfl := oi h
      exact run_next () (.cons (.of_lk rfl) <| .cons (.of_lk rfl) <| .cons (.of_lk rfl) <| .cons (.of_lk rfl) <| .cons (.of_lk rfl) <| .cons (.of_lk rfl) <| .nil) (.cons .here <| .cons .here <| .cons .here <| .nil)
    · replace h := bf e3 h
      obtain rfl := oi h
      exact run_brk () (.cons (.of_lk rfl) <| .cons (.of_lk rfl) <| .cons (.of_lk rfl) <| .cons (.of_lk rfl) <| .cons (.of_lk rfl) <| .cons (.of_lk rfl) <| .nil) (.cons .here <| .cons .here <| .cons .here <| .nil)
  · rintro _
    show Run _ _ _ [(2, val (.pointer (some ⟨b1, 0, none⟩))), (4, val (.pointer (some ⟨b2, 0, none⟩))), (5, ptrTo (vec 64 u32) r1), (6, ptrTo (vec 64 u32) r2), (7, val (.pointer (some ⟨b5, 0, none⟩))), (8, i64.slot y3)] [box b5 142 (vec 8 u32) y4, box b2 142 (vec 8 u32) (Vector.replicate 8 (0#32)), box b1 142 (vec 8 u32) p_h]
    refine run_to (Γ' := [(2, val (.pointer (some ⟨b1, 0, none⟩))), (4, val (.pointer (some ⟨b2, 0, none⟩))), (7, val (.pointer (some ⟨b5, 0, none⟩)))]) (H' := [box b5 142 (vec 8 u32) y4, box b2 142 (vec 8 u32) (Vector.replicate 8 (0#32)), box b1 142 (vec 8 u32) p_h]) (.cons (.of_lk rfl) <| .cons (.of_lk rfl) <| .cons (.of_lk rfl) <| .nil) (.cons .here <| .cons .here <| .cons .here <| .nil) ?_
    refine rs ?_
    refine rs ?_
    refine rt ?_
    refine jp (pa has_i64) rfl rfl rfl ?_
    refine j_end ?_
    obtain ⟨⟨y7, y8⟩, e21, h⟩ := bind_some h
    refine run_loopS (Γi := fun (i : Unit) (s : Int × (Vector (BitVec 32) 8)) => [(2, val (.pointer (some ⟨b1, 0, none⟩))), (4, val (.pointer (some ⟨b2, 0, none⟩))), (7, val (.pointer (some ⟨b5, 0, none⟩))), (13, i64.slot s.1)]) (Hi := fun (i : Unit) (s : Int × (Vector (BitVec 32) 8)) => [box b5 142 (vec 8 u32) y4, box b2 142 (vec 8 u32) (Vector.replicate 8 (0#32)), box b1 142 (vec 8 u32) s.2]) e21 () (fun a w hst => (hst.sub (.cons (.of_lk rfl) <| .cons (.of_lk rfl) <| .cons (.of_lk rfl) <| .cons (.of_lk rfl) <| .nil)).keep (.cons .here <| .cons .here <| .cons .here <| .nil)) ?_ ?_
    · clear h e21
      rintro _ ⟨y5, y6⟩ lr h
      change rolodexref02_take_L2 y4 y5 y6 = some _ at h
      show Run _ _ _ [(2, val (.pointer (some ⟨b1, 0, none⟩))), (4, val (.pointer (some ⟨b2, 0, none⟩))), (7, val (.pointer (some ⟨b5, 0, none⟩))), (13, i64.slot y5)] [box b5 142 (vec 8 u32) y4, box b2 142 (vec 8 u32) (Vector.replicate 8 (0#32)), box b1 142 (vec 8 u32) y6]
      unfold rolodexref02_take_L2 at h
      refine rs ?_
      refine rs ?_
      refine rt ?_
      refine jp (pm (ht rfl)) rfl rfl rfl ?_
      refine jp (pj_ilss (ht rfl) has_i64) rfl rfl rfl ?_
      refine j_end ?_
      refine run_cond (ht rfl) (fun e17 => ?_) (fun e17 => ?_)
      · replace h := bt e17 h
        refine run_skip ?_
        refine rs ?_
        refine run_block ?_
        obtain ⟨x7, e18, h⟩ := bind_some h
        obtain ⟨x8, e19, h⟩ := bind_some h
        refine run_draw (n := 6) (by kernel_rfl) (by kernel_rfl) (by kernel_rfl) (by kernel_rfl) (.read (.plain rfl (pm (ht rfl))) <| .read (.plain rfl (pj_index_arr (n := 8) (sz := 1) (ht rfl) (ht rfl) isInt_i64 (vget_some e18).1 (vget_lt e18) (by kernel_rfl))) <| .read (.plain rfl (PJ.eqv (pj_load_box (ht rfl) (.next (.next .here)) (Path.then (Path.all (vec 8 u32)) (Path.atI 8 u32 y5.toNat (vget_some e18).2.1)) (by kernel_rfl)) (vget_eq e18 (vget_some e18).2.1))) <| .read (.plain rfl (pm (ht rfl))) <| .read (.plain rfl (pj_index_arr (n := 8) (sz := 1) (ht rfl) (ht rfl) isInt_i64 (vget_some e19).1 (vget_lt e19) (by kernel_rfl))) <| .read (.plain rfl (PJ.eqv (pj_load_box (ht rfl) .here (Path.then (Path.all (vec 8 u32)) (Path.atI 8 u32 y5.toNat (vget_some e19).2.1)) (by kernel_rfl)) (vget_eq e19 (vget_some e19).2.1))) <| .nil) (j_to (Γ' := [(2, val (.pointer (some ⟨b1, 0, none⟩))), (4, val (.pointer (some ⟨b2, 0, none⟩))), (7, val (.pointer (some ⟨b5, 0, none⟩))), (13, i64.slot y5), (112, i64.slot y5), (114, u32.slot x7), (117, u32.slot x8)]) (H' := [box b5 142 (vec 8 u32) y4, box b2 142 (vec 8 u32) (Vector.replicate 8 (0#32)), box b1 142 (vec 8 u32) y6]) (.cons (.of_lk rfl) <| .cons (.of_lk rfl) <| .cons (.of_lk rfl) <| .cons (.of_lk rfl) <| .cons (.of_lk rfl) <| .cons (.of_lk rfl) <| .cons (.of_lk rfl) <| .nil) (.cons .here <| .cons .here <| .cons .here <| .nil) ?_)
        refine jp (pj_uadd (k := .u32) (b := 32) rfl rfl (ht rfl) (ht rfl)) rfl rfl rfl ?_
        obtain ⟨e20, h⟩ := grd_some h
        refine jp (pj_index_arr (n := 8) (sz := 1) (ht rfl) (ht rfl) isInt_i64 e20.1 e20.2 (by kernel_rfl)) rfl rfl rfl ?_
        refine j_store_boxx (r' := (y6.setIfInBounds y5.toNat (x7 + x8))) (ht rfl) (ht rfl) (.next (.next .here)) (Path.then (Path.all (vec 8 u32)) (Path.atI 8 u32 y5.toNat (lt_nat e20))) (by kernel_rfl) rfl ?_
        refine j_end ?_
        refine run_endblock ?_
        refine rt ?_
        refine jp (pm (ht rfl)) rfl rfl rfl ?_
        refine jp (pj_iadd (ht rfl) has_i64) rfl rfl rfl ?_
        refine jp (pa (ht rfl)) rfl rfl rfl ?_
        refine j_end ?_
        obtain rfl := oi h
        exact run_next () (.cons (.of_lk rfl) <| .cons (.of_lk rfl) <| .cons (.of_lk rfl) <| .cons (.of_lk rfl) <| .nil) (.cons (.next .here) <| .cons (.next .here) <| .cons .here <| .nil)
      · replace h := bf e17 h
        obtain rfl := oi h
        exact run_brk () (.cons (.of_lk rfl) <| .cons (.of_lk rfl) <| .cons (.of_lk rfl) <| .cons (.of_lk rfl) <| .nil) (.cons .here <| .cons .here <| .cons .here <| .nil)
    · rintro _
      show Run _ _ _ [(2, val (.pointer (some ⟨b1, 0, none⟩))), (4, val (.pointer (some ⟨b2, 0, none⟩))), (7, val (.pointer (some ⟨b5, 0, none⟩))), (13, i64.slot y7)] [box b5 142 (vec 8 u32) y4, box b2 142 (vec 8 u32) (Vector.replicate 8 (0#32)), box b1 142 (vec 8 u32) y8]
      refine run_to (Γ' := [(2, val (.pointer (some ⟨b1, 0, none⟩))), (4, val (.pointer (some ⟨b2, 0, none⟩)))]) (H' := [box b2 142 (vec 8 u32) (Vector.replicate 8 (0#32)), box b1 142 (vec 8 u32) y8]) (.cons (.of_lk rfl) <| .cons (.of_lk rfl) <| .nil) (.cons (.next .here) <| .cons (.next .here) <| .nil) ?_
      refine rs ?_
      refine rt ?_
      refine jp (pj_load_box (ht rfl) (.next .here) (Path.all (vec 8 u32)) (by kernel_rfl)) rfl rfl rfl ?_
      refine j_store_boxx (r' := y8) (ht rfl) (ht rfl) .here (Path.all (vec 8 u32)) (by kernel_rfl) rfl ?_
      refine j_end ?_
      obtain rfl := oi h
      exact run_ret fun a w hst => q_ret1 hst rfl (.cell rfl .here (by kernel_rfl)) () (fun _ _ h => h) (.nil)
set_option maxRecDepth 100000 in
set_option maxHeartbeats 4000000 in
theorem c_rolodexref02_Sum {G : GP} {p_b : List (BitVec 8)} {r : T_api_Hash} (h : rolodexref02_Sum p_b = some r) : Ctr Tryd.prog G 98 [(sl u8).slot p_b] [] (fun (_ : Unit) => R_api_Hash.slot r) (fun (_ : Unit) => []) := by
  unfold rolodexref02_Sum at h
  refine ctr_of_run Tryd.func98 rfl 42 rfl rfl fun m0 w0 b0 => ?_
  show Run _ _ _ [(0, (sl u8).slot p_b)] _
  refine rs ?_
  refine rt ?_
  refine j_alloc (x := (Vector.replicate 32 (0#8))) (R := R_api_Hash) (zero_vec 32 zero_un) (by kernel_rfl) rfl fun b1 => ?_
  refine j_end ?_
  refine rs ?_
  refine rt ?_
  obtain ⟨r1, e1, h⟩ := bind_some h
  refine jp (pj_call (hasL_nil) (by kernel_rfl) (c_rolodexref02_Start e1)) rfl rfl rfl ?_
  refine j_alloc (x := (Vector.replicate 8 (0#32))) (R := (vec 8 u32)) (zero_vec 8 zero_un) (by kernel_rfl) rfl fun b2 => ?_
  refine j_store_boxx (r' := r1) (ht rfl) (ht rfl) .here (Path.all (vec 8 u32)) (by kernel_rfl) rfl ?_
  refine j_end ?_
  refine rs ?_
  refine rt ?_
  refine jp (pm (ht rfl)) rfl rfl rfl ?_
  obtain ⟨r2, e2, h⟩ := bind_some h
  refine jp (pj_call (hc (ht rfl) <| hasL_nil) (by kernel_rfl) (Ctr.froze (c_rolodexref02_Padded e2))) rfl rfl rfl ?_
  refine jp (pa (ht rfl)) rfl rfl rfl ?_
  refine j_end ?_
  refine rs ?_
  refine rs ?_
  refine rt ?_
  refine jp (pa has_i64) rfl rfl rfl ?_
  refine j_end ?_
  obtain ⟨⟨y3, y4⟩, e6, h⟩ := bind_some h
  refine run_loopS (Γi := fun (i : Unit) (s : Int × (Vector (BitVec 32) 8)) => [(2, val (.pointer (some ⟨b1, 0, none⟩))), (3, val (.pointer (some ⟨b2, 0, none⟩))), (4, (sl u8).slot r2), (5, i64.slot s.1)]) (Hi := fun (i : Unit) (s : Int × (Vector (BitVec 32) 8)) => [box b2 142 (vec 8 u32) s.2, box b1 26 R_api_Hash (Vector.replicate 32 (0#8))]) e6 () (fun a w hst => (hst.sub (.cons (.of_lk rfl) <| .cons (.of_lk rfl) <| .cons (.of_lk rfl) <| .cons (.of_lk rfl) <| .nil)).keep (.cons .here <| .cons .here <| .nil)) ?_ ?_
  · clear h e6
    rintro _ ⟨y1, y2⟩ lr h
    change rolodexref02_Sum_L1 r2 y1 y2 = some _ at h
    show Run _ _ _ [(2, val (.pointer (some ⟨b1, 0, none⟩))), (3, val (.pointer (some ⟨b2, 0, none⟩))), (4, (sl u8).slot r2), (5, i64.slot y1)] [box b2 142 (vec 8 u32) y2, box b1 26 R_api_Hash (Vector.replicate 32 (0#8))]
    unfold rolodexref02_Sum_L1 at h
    refine rs ?_
    refine rs ?_
    refine rt ?_
    refine jp (pm (ht rfl)) rfl rfl rfl ?_
    refine jp (pm (ht rfl)) rfl rfl rfl ?_
    refine jp (pj_len_sl (sz := 1) (ht rfl) (by kernel_rfl)) rfl rfl rfl ?_
    refine jp (pj_ilss (ht rfl) (ht rfl)) rfl rfl rfl ?_
    refine j_end ?_
    refine run_cond (ht rfl) (fun e3 => ?_) (fun e3 => ?_)
    · replace h := bt e3 h
      refine run_skip ?_
      refine rs ?_
      refine run_block ?_
      obtain ⟨x1, e4, h⟩ := bind_some h
      refine run_draw (n := 6) (by kernel_rfl) (by kernel_rfl) (by kernel_rfl) (by kernel_rfl) (.read (.plain rfl (pj_load_box (ht rfl) .here (Path.all (vec 8 u32)) (by kernel_rfl))) <| .read (.plain rfl (pm (ht rfl))) <| .read (.plain rfl (pm (ht rfl))) <| .read (.plain rfl (pm (ht rfl))) <| .read (.plain rfl (pj_iadd (ht rfl) has_i64)) <| .read (.plain rfl (pj_slice_slx (ht rfl) (.yes (ht rfl) isInt_i64) (.yes (ht rfl) isInt_i64) e4 (by kernel_rfl))) <| .nil) (j_to (Γ' := [(2, val (.pointer (some ⟨b1, 0, none⟩))), (3, val (.pointer (some ⟨b2, 0, none⟩))), (4, (sl u8).slot r2), (5, i64.slot y1), (17, (vec 8 u32).slot y2), (22, (sl u8).slot x1)]) (H' := [box b2 142 (vec 8 u32) y2, box b1 26 R_api_Hash (Vector.replicate 32 (0#8))]) (.cons (.of_lk rfl) <| .cons (.of_lk rfl) <| .cons (.of_lk rfl) <| .cons (.of_lk rfl) <| .cons (.of_lk rfl) <| .cons (.of_lk rfl) <| .nil) (.cons .here <| .cons .here <| .nil) ?_)
      obtain ⟨r3, e5, h⟩ := bind_some h
      refine jp (pj_call (hc (ht rfl) <| hc (ht rfl) <| hasL_nil) (by kernel_rfl) (c_rolodexref02_take e5)) rfl rfl rfl ?_
      refine j_store_boxx (r' := r3) (ht rfl) (ht rfl) .here (Path.all (vec 8 u32)) (by kernel_rfl) rfl ?_
      refine j_end ?_
      refine run_endblock ?_
      refine rt ?_
      refine jp (pm (ht rfl)) rfl rfl rfl ?_
      refine jp (pj_iadd (ht rfl) has_i64) rfl rfl rfl ?_
      refine jp (pa (ht rfl)) rfl rfl rfl ?_
      refine j_end ?_
      obtain rfl := oi h
      exact run_next () (.cons (.of_lk rfl) <| .cons (.of_lk rfl) <| .cons (.of_lk rfl) <| .cons (.of_lk rfl) <| .nil) (.cons .here <| .cons .here <| .nil)
    · replace h := bf e3 h
      obtain rfl := oi h
      exact run_brk () (.cons (.of_lk rfl) <| .cons (.of_lk rfl) <| .cons (.of_lk rfl) <| .cons (.of_lk rfl) <| .nil) (.cons .here <| .cons .here <| .nil)
  · rintro _
    show Run _ _ _ [(2, val (.pointer (some ⟨b1, 0, none⟩))), (3, val (.pointer (some ⟨b2, 0, none⟩))), (4, (sl u8).slot r2), (5, i64.slot y3)] [box b2 142 (vec 8 u32) y4, box b1 26 R_api_Hash (Vector.replicate 32 (0#8))]
    refine run_to (Γ' := [(2, val (.pointer (some ⟨b1, 0, none⟩))), (3, val (.pointer (some ⟨b2, 0, none⟩)))]) (H' := [box b2 142 (vec 8 u32) y4, box b1 26 R_api_Hash (Vector.replicate 32 (0#8))]) (.cons (.of_lk rfl) <| .cons (.of_lk rfl) <| .nil) (.cons .here <| .cons .here <| .nil) ?_
    refine rs ?_
    refine rt ?_
    refine j_alloc (x := (Vector.replicate 32 (0#8))) (R := R_api_Hash) (zero_vec 32 zero_un) (by kernel_rfl) rfl fun b3 => ?_
    refine j_end ?_
    refine rs ?_
    refine rs ?_
    refine rt ?_
    refine jp (pa has_i64) rfl rfl rfl ?_
    refine j_end ?_
    obtain ⟨⟨y7, y8⟩, e11, h⟩ := bind_some h
    refine run_loopS (Γi := fun (i : Unit) (s : Int × T_api_Hash) => [(2, val (.pointer (some ⟨b1, 0, none⟩))), (3, val (.pointer (some ⟨b2, 0, none⟩))), (6, val (.pointer (some ⟨b3, 0, none⟩))), (7, i64.slot s.1)]) (Hi := fun (i : Unit) (s : Int × T_api_Hash) => [box b3 26 R_api_Hash s.2, box b2 142 (vec 8 u32) y4, box b1 26 R_api_Hash (Vector.replicate 32 (0#8))]) e11 () (fun a w hst => (hst.sub (.cons (.of_lk rfl) <| .cons (.of_lk rfl) <| .cons (.of_lk rfl) <| .cons (.of_lk rfl) <| .nil)).keep (.cons .here <| .cons .here <| .cons .here <| .nil)) ?_ ?_
    · clear h e11
      rintro _ ⟨y5, y6⟩ lr h
      change rolodexref02_Sum_L2 y4 y5 y6 = some _ at h
      show Run _ _ _ [(2, val (.pointer (some ⟨b1, 0, none⟩))), (3, val (.pointer (some ⟨b2, 0, none⟩))), (6, val (.pointer (some ⟨b3, 0, none⟩))), (7, i64.slot y5)] [box b3 26 R_api_Hash y6, box b2 142 (vec 8 u32) y4, box b1 26 R_api_Hash (Vector.replicate 32 (0#8))]
      unfold rolodexref02_Sum_L2 at h
      refine rs ?_
      refine rs ?_
      refine rt ?_
      refine jp (pm (ht rfl)) rfl rfl rfl ?_
      refine jp (pj_ilss (ht rfl) has_i64) rfl rfl rfl ?_
      refine j_end ?_
      refine run_cond (ht rfl) (fun e7 => ?_) (fun e7 => ?_)
      · replace h := bt e7 h
        refine run_skip ?_
        refine rs ?_
        refine run_block ?_
        refine rt ?_
        refine jp (pm (ht rfl)) rfl rfl rfl ?_
        refine jp (pm (ht rfl)) rfl rfl rfl ?_
        refine jp (pj_iquo (ht rfl) has_i64 (by decide)) rfl rfl rfl ?_
        obtain ⟨x2, e8, h⟩ := bind_some h
        refine jp (pj_index_arr (n := 8) (sz := 1) (ht rfl) (ht rfl) isInt_i64 (vget_some e8).1 (vget_lt e8) (by kernel_rfl)) rfl rfl rfl ?_
        refine jp (PJ.eqv (pj_load_box (ht rfl) (.next .here) (Path.then (Path.all (vec 8 u32)) (Path.atI 8 u32 ((w64 (Int.tdiv y5 (4 : Int))).toNat) (vget_some e8).2.1)) (by kernel_rfl)) (vget_eq e8 (vget_some e8).2.1)) rfl rfl rfl ?_
        refine jp (pm (ht rfl)) rfl rfl rfl ?_
        refine jp (pj_irem (ht rfl) has_i64 (by decide)) rfl rfl rfl ?_
        refine jp (pj_conv_un (k := .u32) (b := 32) rfl rfl (by kernel_rfl) (ht rfl) isInt_i64) rfl rfl rfl ?_
        refine jp (pj_umul (k := .u32) (b := 32) rfl rfl (has_un (x := 8#32) rfl) (ht rfl)) rfl rfl rfl ?_
        refine jp (pj_usub (k := .u32) (b := 32) rfl rfl (has_un (x := 24#32) rfl) (ht rfl)) rfl rfl rfl ?_
        refine jp (pj_ushr (k := .u32) (b := 32) rfl (ht rfl) (ht rfl) isInt_un (Int.natCast_nonneg _)) rfl rfl rfl ?_
        refine jp (pj_conv_uu (k := .u8) (b := 8) rfl rfl (by kernel_rfl) (ht rfl)) rfl rfl rfl ?_
        obtain ⟨e9, h⟩ := grd_some h
        refine jp (pj_index_arr (n := 32) (sz := 1) (ht rfl) (ht rfl) isInt_i64 e9.1 e9.2 (by kernel_rfl)) rfl rfl rfl ?_
        obtain ⟨x3, e10, h⟩ := bind_some h
        refine j_store_boxx (r' := x3) (ht rfl) (ht rfl) .here (Path.then (Path.all R_api_Hash) (Path.atI 32 u8 y5.toNat (lt_nat e9))) (by kernel_rfl) (oi e10) ?_
        refine j_end ?_
        refine run_endblock ?_
        refine rt ?_
        refine jp (pm (ht rfl)) rfl rfl rfl ?_
        refine jp (pj_iadd (ht rfl) has_i64) rfl rfl rfl ?_
        refine jp (pa (ht rfl)) rfl rfl rfl ?_
        refine j_end ?_
        obtain rfl := oi h
        exact run_next () (.cons (.of_lk rfl) <| .cons (.of_lk rfl) <| .cons (.of_lk rfl) <| .cons (.of_lk rfl) <| .nil) (.cons .here <| .cons .here <| .cons .here <| .nil)
      · replace h := bf e7 h
        obtain rfl := oi h
        exact run_brk () (.cons (.of_lk rfl) <| .cons (.of_lk rfl) <| .cons (.of_lk rfl) <| .cons (.of_lk rfl) <| .nil) (.cons .here <| .cons .here <| .cons .here <| .nil)
    · rintro _
      show Run _ _ _ [(2, val (.pointer (some ⟨b1, 0, none⟩))), (3, val (.pointer (some ⟨b2, 0, none⟩))), (6, val (.pointer (some ⟨b3, 0, none⟩))), (7, i64.slot y7)] [box b3 26 R_api_Hash y8, box b2 142 (vec 8 u32) y4, box b1 26 R_api_Hash (Vector.replicate 32 (0#8))]
      refine run_to (Γ' := [(2, val (.pointer (some ⟨b1, 0, none⟩))), (6, val (.pointer (some ⟨b3, 0, none⟩)))]) (H' := [box b3 26 R_api_Hash y8, box b1 26 R_api_Hash (Vector.replicate 32 (0#8))]) (.cons (.of_lk rfl) <| .cons (.of_lk rfl) <| .nil) (.cons .here <| .cons (.next .here) <| .nil) ?_
      refine rs ?_
      refine rt ?_
      refine jp (pj_load_box (ht rfl) .here (Path.all R_api_Hash) (by kernel_rfl)) rfl rfl rfl ?_
      refine j_store_boxx (r' := y8) (ht rfl) (ht rfl) (.next .here) (Path.all R_api_Hash) (by kernel_rfl) rfl ?_
      refine j_end ?_
      obtain rfl := oi h
      exact run_ret fun a w hst => q_ret1 hst rfl (.cell rfl .here (by kernel_rfl)) () (fun _ _ h => h) (.nil)
set_option maxRecDepth 100000 in
set_option maxHeartbeats 4000000 in
theorem c_rolodexref05_Node {G : GP} {p_id : T_api_ID} {p_r : Int} {p_under : Int} {p_b : List (BitVec 8)} {r : T_api_Hash} (h : rolodexref05_Node p_id p_r p_under p_b = some r) : Ctr Tryd.prog G 68 [R_api_ID.slot p_id, i64.slot p_r, i64.slot p_under, (sl u8).slot p_b] [] (fun (_ : Unit) => R_api_Hash.slot r) (fun (_ : Unit) => []) := by
  unfold rolodexref05_Node at h
  refine ctr_of_run Tryd.func68 rfl 28 rfl rfl fun m0 w0 b0 => ?_
  show Run _ _ _ [(0, R_api_ID.slot p_id), (1, i64.slot p_r), (2, i64.slot p_under), (3, (sl u8).slot p_b)] _
  refine rs ?_
  refine rt ?_
  refine jp (pj_box_to (ht rfl)) rfl rfl rfl ?_
  refine j_alloc (x := (Vector.replicate 32 (0#8))) (R := R_api_Hash) (zero_vec 32 zero_un) (by kernel_rfl) rfl fun b1 => ?_
  refine j_end ?_
  refine rs ?_
  refine rt ?_
  refine j_assign_nil (T := 5) u8 rfl fun v1 => ?_
  refine j_end ?_
  refine rs ?_
  refine rt ?_
  refine jp (pm (ht rfl)) rfl rfl rfl ?_
  refine jp (pj_slice_toF (ht rfl) (by decide) (by kernel_rfl)) rfl rfl rfl ?_
  obtain ⟨e1, h⟩ := grd_some h
  refine j_append (T := 5) (E := 5) (ht rfl) .here (src_data (ht rfl)) (by kernel_rfl) (by kernel_rfl) e1 rfl fun v2 => ?_
  refine jp (pa (ht rfl)) rfl rfl rfl ?_
  refine j_end ?_
  refine rs ?_
  refine rt ?_
  refine jp (pm (ht rfl)) rfl rfl rfl ?_
  refine jp (pm (ht rfl)) rfl rfl rfl ?_
  refine jp (pj_conv_un (k := .u64) (b := 64) rfl rfl (by kernel_rfl) (ht rfl) isInt_i64) rfl rfl rfl ?_
  obtain ⟨r1, e2, h⟩ := bind_some h
  refine jp (pj_call (hc (ht rfl) <| hc has_i64 <| hasL_nil) (by kernel_rfl) (Ctr.froze (c_rolodexref01_Number e2))) rfl rfl rfl ?_
  obtain ⟨e3, h⟩ := grd_some h
  refine j_append (T := 5) (E := 5) (ht rfl) .here (src_data (ht rfl)) (by kernel_rfl) (by kernel_rfl) e3 rfl fun v3 => ?_
  refine jp (pa (ht rfl)) rfl rfl rfl ?_
  refine j_end ?_
  refine rs ?_
  refine rt ?_
  refine jp (pm (ht rfl)) rfl rfl rfl ?_
  refine jp (pm (ht rfl)) rfl rfl rfl ?_
  refine jp (pj_conv_un (k := .u64) (b := 64) rfl rfl (by kernel_rfl) (ht rfl) isInt_i64) rfl rfl rfl ?_
  obtain ⟨r2, e4, h⟩ := bind_some h
  refine jp (pj_call (hc (ht rfl) <| hc has_i64 <| hasL_nil) (by kernel_rfl) (Ctr.froze (c_rolodexref01_Number e4))) rfl rfl rfl ?_
  obtain ⟨e5, h⟩ := grd_some h
  refine j_append (T := 5) (E := 5) (ht rfl) .here (src_data (ht rfl)) (by kernel_rfl) (by kernel_rfl) e5 rfl fun v4 => ?_
  refine jp (pa (ht rfl)) rfl rfl rfl ?_
  refine j_end ?_
  refine rs ?_
  refine rt ?_
  refine jp (pm (ht rfl)) rfl rfl rfl ?_
  refine jp (pm (ht rfl)) rfl rfl rfl ?_
  obtain ⟨e6, h⟩ := grd_some h
  refine j_append (T := 5) (E := 5) (ht rfl) .here (src_data (ht rfl)) (by kernel_rfl) (by kernel_rfl) e6 rfl fun v5 => ?_
  refine jp (pa (ht rfl)) rfl rfl rfl ?_
  refine j_end ?_
  refine rs ?_
  refine rt ?_
  refine jp (pm (ht rfl)) rfl rfl rfl ?_
  obtain ⟨r3, e7, h⟩ := bind_some h
  refine jp (pj_callB (hasBL_cons (hasB_own (ht rfl) .here) <| hasBL_nil) (by kernel_rfl) (c_rolodexref02_Sum e7) (Rep.flat_slot (flat_vec _ (flat_un _ _)) _)) rfl rfl rfl ?_
  refine j_store_boxx (r' := r3) (ht rfl) (ht rfl) (.next .here) (Path.all R_api_Hash) (by kernel_rfl) rfl ?_
  refine j_end ?_
  obtain rfl := oi h
  exact run_ret fun a w hst => q_ret1 hst rfl (.cell rfl .here (by kernel_rfl)) () (fun _ _ h => h) (.nil)
set_option maxRecDepth 100000 in
set_option maxHeartbeats 4000000 in
theorem c_rolodexref05_two {G : GP} {p_a : T_api_Hash} {p_b : T_api_Hash} {r : (List (BitVec 8))} (h : rolodexref05_two p_a p_b = some r) : Ctr Tryd.prog G 69 [R_api_Hash.slot p_a, R_api_Hash.slot p_b] [] (fun (u0 : Value) => ov u0) (fun (u0 : Value) => [own 5 u8 u0 r]) := by
  unfold rolodexref05_two at h
  refine ctr_of_run Tryd.func69 rfl 12 rfl rfl fun m0 w0 b0 => ?_
  show Run _ _ _ [(0, R_api_Hash.slot p_a), (1, R_api_Hash.slot p_b)] _
  refine rs ?_
  refine rt ?_
  refine jp (pj_box_to (ht rfl)) rfl rfl rfl ?_
  refine jp (pj_box_to (ht rfl)) rfl rfl rfl ?_
  refine j_assign_nil (T := 5) u8 rfl fun v1 => ?_
  refine j_end ?_
  refine rs ?_
  refine rt ?_
  refine j_assign_nil (T := 5) u8 rfl fun v2 => ?_
  refine j_end ?_
  refine rs ?_
  refine rt ?_
  refine jp (pm (ht rfl)) rfl rfl rfl ?_
  refine jp (pj_slice_toF (ht rfl) (by decide) (by kernel_rfl)) rfl rfl rfl ?_
  obtain ⟨e1, h⟩ := grd_some h
  refine j_append (T := 5) (E := 5) (ht rfl) .here (src_data (ht rfl)) (by kernel_rfl) (by kernel_rfl) e1 rfl fun v3 => ?_
  refine jp (pa (ht rfl)) rfl rfl rfl ?_
  refine j_end ?_
  refine rs ?_
  refine rt ?_
  refine jp (pm (ht rfl)) rfl rfl rfl ?_
  refine jp (pj_slice_toF (ht rfl) (by decide) (by kernel_rfl)) rfl rfl rfl ?_
  obtain ⟨e2, h⟩ := grd_some h
  refine j_append (T := 5) (E := 5) (ht rfl) .here (src_data (ht rfl)) (by kernel_rfl) (by kernel_rfl) e2 rfl fun v4 => ?_
  refine jp (pa (ht rfl)) rfl rfl rfl ?_
  refine j_end ?_
  obtain rfl := oi h
  exact run_ret fun a w hst => q_ret1 hst rfl (.tmp rfl) v4 (fun _ _ h => h) (.cons .here <| .nil)
set_option maxRecDepth 100000 in
set_option maxHeartbeats 4000000 in
theorem c_rolodexref04_Under {G : GP} {p_id : T_api_ID} {p_q : BitVec 32} {p_i : Int} {p_b : List (BitVec 8)} {r : T_api_Hash} (h : rolodexref04_Under p_id p_q p_i p_b = some r) : Ctr Tryd.prog G 97 [R_api_ID.slot p_id, u32.slot p_q, i64.slot p_i, (sl u8).slot p_b] [] (fun (_ : Unit) => R_api_Hash.slot r) (fun (_ : Unit) => []) := by
  unfold rolodexref04_Under at h
  refine ctr_of_run Tryd.func97 rfl 28 rfl rfl fun m0 w0 b0 => ?_
  show Run _ _ _ [(0, R_api_ID.slot p_id), (1, u32.slot p_q), (2, i64.slot p_i), (3, (sl u8).slot p_b)] _
  refine rs ?_
  refine rt ?_
  refine jp (pj_box_to (ht rfl)) rfl rfl rfl ?_
  refine j_alloc (x := (Vector.replicate 32 (0#8))) (R := R_api_Hash) (zero_vec 32 zero_un) (by kernel_rfl) rfl fun b1 => ?_
  refine j_end ?_
  refine rs ?_
  refine rt ?_
  refine j_assign_nil (T := 5) u8 rfl fun v1 => ?_
  refine j_end ?_
  refine rs ?_
  refine rt ?_
  refine jp (pm (ht rfl)) rfl rfl rfl ?_
  refine jp (pj_slice_toF (ht rfl) (by decide) (by kernel_rfl)) rfl rfl rfl ?_
  obtain ⟨e1, h⟩ := grd_some h
  refine j_append (T := 5) (E := 5) (ht rfl) .here (src_data (ht rfl)) (by kernel_rfl) (by kernel_rfl) e1 rfl fun v2 => ?_
  refine jp (pa (ht rfl)) rfl rfl rfl ?_
  refine j_end ?_
  refine rs ?_
  refine rt ?_
  refine jp (pm (ht rfl)) rfl rfl rfl ?_
  refine jp (pm (ht rfl)) rfl rfl rfl ?_
  refine jp (pj_conv_uu (k := .u64) (b := 64) rfl rfl (by kernel_rfl) (ht rfl)) rfl rfl rfl ?_
  obtain ⟨r1, e2, h⟩ := bind_some h
  refine jp (pj_call (hc (ht rfl) <| hc has_i64 <| hasL_nil) (by kernel_rfl) (Ctr.froze (c_rolodexref01_Number e2))) rfl rfl rfl ?_
  obtain ⟨e3, h⟩ := grd_some h
  refine j_append (T := 5) (E := 5) (ht rfl) .here (src_data (ht rfl)) (by kernel_rfl) (by kernel_rfl) e3 rfl fun v3 => ?_
  refine jp (pa (ht rfl)) rfl rfl rfl ?_
  refine j_end ?_
  refine rs ?_
  refine rt ?_
  refine jp (pm (ht rfl)) rfl rfl rfl ?_
  refine jp (pm (ht rfl)) rfl rfl rfl ?_
  refine jp (pj_conv_un (k := .u64) (b := 64) rfl rfl (by kernel_rfl) (ht rfl) isInt_i64) rfl rfl rfl ?_
  obtain ⟨r2, e4, h⟩ := bind_some h
  refine jp (pj_call (hc (ht rfl) <| hc has_i64 <| hasL_nil) (by kernel_rfl) (Ctr.froze (c_rolodexref01_Number e4))) rfl rfl rfl ?_
  obtain ⟨e5, h⟩ := grd_some h
  refine j_append (T := 5) (E := 5) (ht rfl) .here (src_data (ht rfl)) (by kernel_rfl) (by kernel_rfl) e5 rfl fun v4 => ?_
  refine jp (pa (ht rfl)) rfl rfl rfl ?_
  refine j_end ?_
  refine rs ?_
  refine rt ?_
  refine jp (pm (ht rfl)) rfl rfl rfl ?_
  refine jp (pm (ht rfl)) rfl rfl rfl ?_
  obtain ⟨e6, h⟩ := grd_some h
  refine j_append (T := 5) (E := 5) (ht rfl) .here (src_data (ht rfl)) (by kernel_rfl) (by kernel_rfl) e6 rfl fun v5 => ?_
  refine jp (pa (ht rfl)) rfl rfl rfl ?_
  refine j_end ?_
  refine rs ?_
  refine rt ?_
  refine jp (pm (ht rfl)) rfl rfl rfl ?_
  obtain ⟨r3, e7, h⟩ := bind_some h
  refine jp (pj_callB (hasBL_cons (hasB_own (ht rfl) .here) <| hasBL_nil) (by kernel_rfl) (c_rolodexref02_Sum e7) (Rep.flat_slot (flat_vec _ (flat_un _ _)) _)) rfl rfl rfl ?_
  refine j_store_boxx (r' := r3) (ht rfl) (ht rfl) (.next .here) (Path.all R_api_Hash) (by kernel_rfl) rfl ?_
  refine j_end ?_
  obtain rfl := oi h
  exact run_ret fun a w hst => q_ret1 hst rfl (.cell rfl .here (by kernel_rfl)) () (fun _ _ h => h) (.nil)
set_option maxRecDepth 100000 in
set_option maxHeartbeats 4000000 in
theorem c_rolodexref04_with {G : GP} {p_c : BitVec 8} {p_b : List (BitVec 8)} {r : (List (BitVec 8))} (h : rolodexref04_with p_c p_b = some r) : Ctr Tryd.prog G 104 [u8.slot p_c, (sl u8).slot p_b] [] (fun (u0 : Value) => ov u0) (fun (u0 : Value) => [own 5 u8 u0 r]) := by
  unfold rolodexref04_with at h
  refine ctr_of_run Tryd.func104 rfl 11 rfl rfl fun m0 w0 b0 => ?_
  show Run _ _ _ [(0, u8.slot p_c), (1, (sl u8).slot p_b)] _
  refine rs ?_
  refine rt ?_
  refine j_assign_nil (T := 5) u8 rfl fun v1 => ?_
  refine j_end ?_
  refine rs ?_
  refine rt ?_
  refine jp (pm (ht rfl)) rfl rfl rfl ?_
  refine j_buildSlice (T := 5) (R := u8) (.cons (ht rfl) .nil) rfl (by kernel_rfl) (by kernel_rfl) rfl fun v2 => ?_
  refine jp (pa (ht rfl)) rfl rfl rfl ?_
  refine j_end ?_
  refine rs ?_
  refine rt ?_
  refine jp (pm (ht rfl)) rfl rfl rfl ?_
  refine jp (pm (ht rfl)) rfl rfl rfl ?_
  obtain ⟨e1, h⟩ := grd_some h
  refine j_append (T := 5) (E := 5) (ht rfl) .here (src_data (ht rfl)) (by kernel_rfl) (by kernel_rfl) e1 rfl fun v3 => ?_
  refine jp (pa (ht rfl)) rfl rfl rfl ?_
  refine j_end ?_
  obtain rfl := oi h
  exact run_ret fun a w hst => q_ret1 hst rfl (.tmp rfl) v3 (fun _ _ h => h) (.cons .here <| .nil)
set_option maxRecDepth 100000 in
set_option maxHeartbeats 4000000 in
theorem c_rolodexref04_Begin {G : GP} {p_id : T_api_ID} {p_q : BitVec 32} {p_i : Int} {p_seed : T_api_Hash} {r : T_api_Hash} (h : rolodexref04_Begin p_id p_q p_i p_seed = some r) : Ctr Tryd.prog G 86 [R_api_ID.slot p_id, u32.slot p_q, i64.slot p_i, R_api_Hash.slot p_seed] [] (fun (_ : Unit) => R_api_Hash.slot r) (fun (_ : Unit) => []) := by
  unfold rolodexref04_Begin at h
  refine ctr_of_run Tryd.func86 rfl 15 rfl rfl fun m0 w0 b0 => ?_
  show Run _ _ _ [(0, R_api_ID.slot p_id), (1, u32.slot p_q), (2, i64.slot p_i), (3, R_api_Hash.slot p_seed)] _
  refine rs ?_
  refine rt ?_
  refine jp (pj_box_to (ht rfl)) rfl rfl rfl ?_
  refine jp (pj_box_to (ht rfl)) rfl rfl rfl ?_
  refine j_alloc (x := (Vector.replicate 32 (0#8))) (R := R_api_Hash) (zero_vec 32 zero_un) (by kernel_rfl) rfl fun b1 => ?_
  refine j_end ?_
  refine rs ?_
  obtain ⟨r1, e1, h⟩ := bind_some h
  refine run_draw (n := 5) (by kernel_rfl) (by kernel_rfl) (by kernel_rfl) (by kernel_rfl) (.read (.plain rfl (pl (ht rfl) (by kernel_rfl))) <| .read (.plain rfl (pm (ht rfl))) <| .read (.plain rfl (pm (ht rfl))) <| .read (.plain rfl (pj_slice_toF (ht rfl) (by decide) (by kernel_rfl))) <| .read (.plain rfl (pj_call (hc (has_un (x := 255#8) rfl) <| hc (ht rfl) <| hasL_nil) (by kernel_rfl) (Ctr.froze (c_rolodexref04_with e1)))) <| .nil) (j_to (Γ' := [(8, val (.pointer (some ⟨b1, 0, none⟩))), (9, R_api_ID.slot p_id), (10, u32.slot p_q), (11, i64.slot p_i), (13, (sl u8).slot r1)]) (H' := [box b1 26 R_api_Hash (Vector.replicate 32 (0#8))]) (.cons (.of_lk rfl) <| .cons (.of_lk rfl) <| .cons (.of_lk rfl) <| .cons (.of_lk rfl) <| .cons (.of_lk rfl) <| .nil) (.cons .here <| .nil) ?_)
  obtain ⟨r2, e2, h⟩ := bind_some h
  refine jp (pj_call (hc (ht rfl) <| hc (ht rfl) <| hc (ht rfl) <| hc (ht rfl) <| hasL_nil) (by kernel_rfl) (c_rolodexref04_Under e2)) rfl rfl rfl ?_
  refine j_store_boxx (r' := r2) (ht rfl) (ht rfl) .here (Path.all R_api_Hash) (by kernel_rfl) rfl ?_
  refine j_end ?_
  obtain rfl := oi h
  exact run_ret fun a w hst => q_ret1 hst rfl (.cell rfl .here (by kernel_rfl)) () (fun _ _ h => h) (.nil)
set_option maxRecDepth 100000 in
set_option maxHeartbeats 4000000 in
theorem c_rolodexref04_Steps {G : GP} {p_id : T_api_ID} {p_q : BitVec 32} {p_i : Int} {p_h : T_api_Hash} {p_from : Int} {p_to : Int} {r : T_api_Hash} (h : rolodexref04_Steps p_id p_q p_i p_h p_from p_to = some r) : Ctr Tryd.prog G 89 [R_api_ID.slot p_id, u32.slot p_q, i64.slot p_i, R_api_Hash.slot p_h, i64.slot p_from, i64.slot p_to] [] (fun (_ : Unit) => R_api_Hash.slot r) (fun (_ : Unit) => []) := by
  unfold rolodexref04_Steps at h
  refine ctr_of_run Tryd.func89 rfl 29 rfl rfl fun m0 w0 b0 => ?_
  show Run _ _ _ [(0, R_api_ID.slot p_id), (1, u32.slot p_q), (2, i64.slot p_i), (3, R_api_Hash.slot p_h), (4, i64.slot p_from), (5, i64.slot p_to)] _
  refine rs ?_
  refine rt ?_
  refine jp (pj_box_to (ht rfl)) rfl rfl rfl ?_
  refine j_box (ht rfl) rfl fun b1 => ?_
  refine j_alloc (x := (Vector.replicate 32 (0#8))) (R := R_api_Hash) (zero_vec 32 zero_un) (by kernel_rfl) rfl fun b2 => ?_
  refine j_end ?_
  refine rs ?_
  refine rs ?_
  refine rt ?_
  refine jp (pm (ht rfl)) rfl rfl rfl ?_
  refine jp (pa (ht rfl)) rfl rfl rfl ?_
  refine j_end ?_
  obtain ⟨⟨y3, y4⟩, e4, h⟩ := bind_some h
  refine run_loopS (Γi := fun (i : Unit) (s : Int × T_api_Hash) => [(1, u32.slot p_q), (2, i64.slot p_i), (5, i64.slot p_to), (6, ptrTo R_api_ID p_id), (9, val (.pointer (some ⟨b1, 0, none⟩))), (12, val (.pointer (some ⟨b2, 0, none⟩))), (13, i64.slot s.1)]) (Hi := fun (i : Unit) (s : Int × T_api_Hash) => [box b2 26 R_api_Hash (Vector.replicate 32 (0#8)), box b1 26 R_api_Hash s.2]) e4 () (fun a w hst => (hst.sub (.cons (.of_lk rfl) <| .cons (.of_lk rfl) <| .cons (.of_lk rfl) <| .cons (.of_lk rfl) <| .cons (.of_lk rfl) <| .cons (.of_lk rfl) <| .cons (.of_lk rfl) <| .nil)).keep (.cons .here <| .cons .here <| .nil)) ?_ ?_
  · clear h e4
    rintro _ ⟨y1, y2⟩ lr h
    change rolodexref04_Steps_L1 p_to p_id p_q p_i y1 y2 = some _ at h
    show Run _ _ _ [(1, u32.slot p_q), (2, i64.slot p_i), (5, i64.slot p_to), (6, ptrTo R_api_ID p_id), (9, val (.pointer (some ⟨b1, 0, none⟩))), (12, val (.pointer (some ⟨b2, 0, none⟩))), (13, i64.slot y1)] [box b2 26 R_api_Hash (Vector.replicate 32 (0#8)), box b1 26 R_api_Hash y2]
    unfold rolodexref04_Steps_L1 at h
    refine rs ?_
    refine rs ?_
    refine rt ?_
    refine jp (pm (ht rfl)) rfl rfl rfl ?_
    refine jp (pm (ht rfl)) rfl rfl rfl ?_
    refine jp (pj_ilss (ht rfl) (ht rfl)) rfl rfl rfl ?_
    refine j_end ?_
    refine run_cond (ht rfl) (fun e1 => ?_) (fun e1 => ?_)
    · replace h := bt e1 h
      refine run_skip ?_
      refine rs ?_
      refine run_block ?_
      obtain ⟨r1, e2, h⟩ := bind_some h
      refine run_draw (n := 7) (by kernel_rfl) (by kernel_rfl) (by kernel_rfl) (by kernel_rfl) (.read (.plain rfl (pl (ht rfl) (by kernel_rfl))) <| .read (.plain rfl (pm (ht rfl))) <| .read (.plain rfl (pm (ht rfl))) <| .read (.plain rfl (pm (ht rfl))) <| .read (.plain rfl (pj_conv_un (k := .u8) (b := 8) rfl rfl (by kernel_rfl) (ht rfl) isInt_i64)) <| .read (.plain rfl (pj_slice_arrc (lo := 0) (sz := 1) (n := 32) (ht rfl) .no .no 32 32 rfl (by kernel_rfl))) <| .read (.plain rfl (pj_callBF (hasBL_cons (hasB_of (ht rfl)) <| hasBL_cons (hasB_arrF (ht rfl) (.next .here) (by decide)) <| hasBL_nil) (by kernel_rfl) (c_rolodexref04_with e2) (flat_un _ _))) <| .nil) (j_to (Γ' := [(1, u32.slot p_q), (2, i64.slot p_i), (5, i64.slot p_to), (6, ptrTo R_api_ID p_id), (9, val (.pointer (some ⟨b1, 0, none⟩))), (12, val (.pointer (some ⟨b2, 0, none⟩))), (13, i64.slot y1), (20, R_api_ID.slot p_id), (21, u32.slot p_q), (22, i64.slot p_i), (26, (sl u8).slot r1)]) (H' := [box b2 26 R_api_Hash (Vector.replicate 32 (0#8)), box b1 26 R_api_Hash y2]) (.cons (.of_lk rfl) <| .cons (.of_lk rfl) <| .cons (.of_lk rfl) <| .cons (.of_lk rfl) <| .cons (.of_lk rfl) <| .cons (.of_lk rfl) <| .cons (.of_lk rfl) <| .cons (.of_lk rfl) <| .cons (.of_lk rfl) <| .cons (.of_lk rfl) <| .cons (.of_lk rfl) <| .nil) (.cons .here <| .cons .here <| .nil) ?_)
      obtain ⟨r2, e3, h⟩ := bind_some h
      refine jp (pj_call (hc (ht rfl) <| hc (ht rfl) <| hc (ht rfl) <| hc (ht rfl) <| hasL_nil) (by kernel_rfl) (c_rolodexref04_Under e3)) rfl rfl rfl ?_
      refine j_store_boxx (r' := r2) (ht rfl) (ht rfl) (.next .here) (Path.all R_api_Hash) (by kernel_rfl) rfl ?_
      refine j_end ?_
      refine run_endblock ?_
      refine rt ?_
      refine jp (pm (ht rfl)) rfl rfl rfl ?_
      refine jp (pj_iadd (ht rfl) has_i64) rfl rfl rfl ?_
      refine jp (pa (ht rfl)) rfl rfl rfl ?_
      refine j_end ?_
      obtain rfl := oi h
      exact run_next () (.cons (.of_lk rfl) <| .cons (.of_lk rfl) <| .cons (.of_lk rfl) <| .cons (.of_lk rfl) <| .cons (.of_lk rfl) <| .cons (.of_lk rfl) <| .cons (.of_lk rfl) <| .nil) (.cons (.next .here) <| .cons .here <| .nil)
    · replace h := bf e1 h
      obtain rfl := oi h
      exact run_brk () (.cons (.of_lk rfl) <| .cons (.of_lk rfl) <| .cons (.of_lk rfl) <| .cons (.of_lk rfl) <| .cons (.of_lk rfl) <| .cons (.of_lk rfl) <| .cons (.of_lk rfl) <| .nil) (.cons .here <| .cons .here <| .nil)
  · rintro _
    show Run _ _ _ [(1, u32.slot p_q), (2, i64.slot p_i), (5, i64.slot p_to), (6, ptrTo R_api_ID p_id), (9, val (.pointer (some ⟨b1, 0, none⟩))), (12, val (.pointer (some ⟨b2, 0, none⟩))), (13, i64.slot y3)] [box b2 26 R_api_Hash (Vector.replicate 32 (0#8)), box b1 26 R_api_Hash y4]
    refine run_to (Γ' := [(9, val (.pointer (some ⟨b1, 0, none⟩))), (12, val (.pointer (some ⟨b2, 0, none⟩)))]) (H' := [box b2 26 R_api_Hash (Vector.replicate 32 (0#8)), box b1 26 R_api_Hash y4]) (.cons (.of_lk rfl) <| .cons (.of_lk rfl) <| .nil) (.cons .here <| .cons .here <| .nil) ?_
    refine rs ?_
    refine rt ?_
    refine jp (pj_load_box (ht rfl) (.next .here) (Path.all R_api_Hash) (by kernel_rfl)) rfl rfl rfl ?_
    refine j_store_boxx (r' := y4) (ht rfl) (ht rfl) .here (Path.all R_api_Hash) (by kernel_rfl) rfl ?_
    refine j_end ?_
    obtain rfl := oi h
    exact run_ret fun a w hst => q_ret1 hst rfl (.cell rfl .here (by kernel_rfl)) () (fun _ _ h => h) (.nil)
set_option maxRecDepth 100000 in
set_option maxHeartbeats 4000000 in
theorem c_rolodexref04_Most {G : GP} {p_kind : Int} {r : Int} (h : rolodexref04_Most p_kind = some r) : Ctr Tryd.prog G 96 [i64.slot p_kind] [] (fun (_ : Unit) => i64.slot r) (fun (_ : Unit) => []) := by
  unfold rolodexref04_Most at h
  refine ctr_of_run Tryd.func96 rfl 15 rfl rfl fun m0 w0 b0 => ?_
  show Run _ _ _ [(0, i64.slot p_kind)] _
  refine rs ?_
  refine rt ?_
  refine jp (pa has_i64) rfl rfl rfl ?_
  refine j_end ?_
  refine rs ?_
  refine rt ?_
  refine jp (pa has_i64) rfl rfl rfl ?_
  refine j_end ?_
  refine rs ?_
  refine rs ?_
  refine rt ?_
  refine jp (pa has_i64) rfl rfl rfl ?_
  refine j_end ?_
  obtain ⟨⟨y3, y4⟩, e3, h⟩ := bind_some h
  refine run_loopS (Γi := fun (i : Unit) (s : Int × Int) => [(0, i64.slot p_kind), (3, i64.slot s.1), (4, i64.slot s.2)]) (Hi := fun (i : Unit) (s : Int × Int) => []) e3 () (fun a w hst => (hst.sub (.cons (.of_lk rfl) <| .cons (.of_lk rfl) <| .cons (.of_lk rfl) <| .nil)).keep (.nil)) ?_ ?_
  · clear h e3
    rintro _ ⟨y1, y2⟩ lr h
    change rolodexref04_Most_L1 p_kind y1 y2 = some _ at h
    show Run _ _ _ [(0, i64.slot p_kind), (3, i64.slot y1), (4, i64.slot y2)] []
    unfold rolodexref04_Most_L1 at h
    refine rs ?_
    refine rs ?_
    refine rt ?_
    refine jp (pm (ht rfl)) rfl rfl rfl ?_
    refine jp (pm (ht rfl)) rfl rfl rfl ?_
    obtain ⟨r1, e1, h⟩ := bind_some h
    refine jp (pj_call (hc (ht rfl) <| hasL_nil) (by kernel_rfl) (c_rolodexref04_Bits e1)) rfl rfl rfl ?_
    refine jp (pj_ilss (ht rfl) (ht rfl)) rfl rfl rfl ?_
    refine j_end ?_
    refine run_cond (ht rfl) (fun e2 => ?_) (fun e2 => ?_)
    · replace h := bt e2 h
      refine run_skip ?_
      refine rs ?_
      refine run_block ?_
      refine rt ?_
      refine jp (pm (ht rfl)) rfl rfl rfl ?_
      refine jp (pj_imul has_i64 (ht rfl)) rfl rfl rfl ?_
      refine jp (pa (ht rfl)) rfl rfl rfl ?_
      refine j_end ?_
      refine run_endblock ?_
      refine rt ?_
      refine jp (pm (ht rfl)) rfl rfl rfl ?_
      refine jp (pj_iadd (ht rfl) has_i64) rfl rfl rfl ?_
      refine jp (pa (ht rfl)) rfl rfl rfl ?_
      refine j_end ?_
      obtain rfl := oi h
      exact run_next () (.cons (.of_lk rfl) <| .cons (.of_lk rfl) <| .cons (.of_lk rfl) <| .nil) (.nil)
    · replace h := bf e2 h
      obtain rfl := oi h
      exact run_brk () (.cons (.of_lk rfl) <| .cons (.of_lk rfl) <| .cons (.of_lk rfl) <| .nil) (.nil)
  · rintro _
    show Run _ _ _ [(0, i64.slot p_kind), (3, i64.slot y3), (4, i64.slot y4)] []
    refine run_to (Γ' := [(3, i64.slot y3)]) (H' := []) (.cons (.of_lk rfl) <| .nil) (.nil) ?_
    refine rs ?_
    refine rt ?_
    refine jp (pm (ht rfl)) rfl rfl rfl ?_
    refine jp (pj_isub (ht rfl) has_i64) rfl rfl rfl ?_
    refine jp (pa (ht rfl)) rfl rfl rfl ?_
    refine j_end ?_
    obtain rfl := oi h
    exact run_ret fun a w hst => q_ret1 hst rfl (.tmp rfl) () (fun _ _ h => h) (.nil)
set_option maxRecDepth 100000 in
set_option maxHeartbeats 4000000 in
theorem c_rolodexref04_Public {G : GP} {p_kind : Int} {p_id : T_api_ID} {p_q : BitVec 32} {p_seed : T_api_Hash} {r : T_api_Hash × Int} (h : rolodexref04_Public p_kind p_id p_q p_seed = some r) : Ctr Tryd.prog G 83 [i64.slot p_kind, R_api_ID.slot p_id, u32.slot p_q, R_api_Hash.slot p_seed] [] (fun (_ : Unit) => tup [R_api_Hash.slot r.1, i64.slot r.2]) (fun (_ : Unit) => []) := by
  unfold rolodexref04_Public at h
  refine ctr_of_run Tryd.func83 rfl 41 rfl rfl fun m0 w0 b0 => ?_
  show Run _ _ _ [(0, i64.slot p_kind), (1, R_api_ID.slot p_id), (2, u32.slot p_q), (3, R_api_Hash.slot p_seed)] _
  refine rs ?_
  refine rt ?_
  refine jp (pj_box_to (ht rfl)) rfl rfl rfl ?_
  refine jp (pj_box_to (ht rfl)) rfl rfl rfl ?_
  refine j_alloc (x := (Vector.replicate 32 (0#8))) (R := R_api_Hash) (zero_vec 32 zero_un) (by kernel_rfl) rfl fun b1 => ?_
  refine jp (pa has_i64) rfl rfl rfl ?_
  refine j_end ?_
  refine rs ?_
  refine rs ?_
  refine rt ?_
  refine jp (pm (ht rfl)) rfl rfl rfl ?_
  obtain ⟨r1, e1, h⟩ := bind_some h
  refine jp (pj_call (hc (ht rfl) <| hasL_nil) (by kernel_rfl) (c_rolodexref04_Bits e1)) rfl rfl rfl ?_
  refine jp (pj_ieql (ht rfl) has_i64) rfl rfl rfl ?_
  refine j_end ?_
  refine run_cond (ht rfl) (fun e2 => ?_) (fun e2 => ?_)
  · replace h := bt e2 h
    refine rs ?_
    refine rt ?_
    refine jp (pj_build (R := R_api_Hash) (zero_vec 32 zero_un) (by kernel_rfl) (by kernel_rfl) rfl .nil) rfl rfl rfl ?_
    refine j_store_boxx (r' := (Vector.replicate 32 (0#8))) (ht rfl) (ht rfl) .here (Path.all R_api_Hash) (by kernel_rfl) rfl ?_
    refine jp (pa has_i64) rfl rfl rfl ?_
    refine j_end ?_
    obtain rfl := oi h
    exact run_ret fun a w hst => q_retN hst rfl (.cons (.cell rfl .here (by kernel_rfl)) <| .cons (.tmp rfl) <| .nil) rfl () (fun _ _ h => h) (.nil)
  · replace h := bf e2 h
    refine run_skip ?_
    refine rs ?_
    refine rt ?_
    refine j_assign_nil (T := 5) u8 rfl fun v1 => ?_
    refine j_end ?_
    refine rs ?_
    refine rs ?_
    refine rt ?_
    refine jp (pa has_i64) rfl rfl rfl ?_
    refine j_end ?_
    obtain ⟨⟨y3, y4⟩, e9, h⟩ := bind_some h
    refine run_loopS (Γi := fun (i : Value) (s : Int × (List (BitVec 8))) => [(0, i64.slot p_kind), (2, u32.slot p_q), (5, ptrTo R_api_ID p_id), (7, ptrTo R_api_Hash p_seed), (8, val (.pointer (some ⟨b1, 0, none⟩))), (10, ov i), (11, i64.slot s.1)]) (Hi := fun (i : Value) (s : Int × (List (BitVec 8))) => [own 5 u8 i s.2, box b1 26 R_api_Hash (Vector.replicate 32 (0#8))]) e9 v1 (fun a w hst => (hst.sub (.cons (.of_lk rfl) <| .cons (.of_lk rfl) <| .cons (.of_lk rfl) <| .cons (.of_lk rfl) <| .cons (.of_lk rfl) <| .cons (.of_lk rfl) <| .cons (.of_lk rfl) <| .nil)).keep (.cons .here <| .cons .here <| .nil)) ?_ ?_
    · clear h e9
      rintro v2 ⟨y1, y2⟩ lr h
      change rolodexref04_Public_L1 p_kind p_id p_q p_seed y1 y2 = some _ at h
      show Run _ _ _ [(0, i64.slot p_kind), (2, u32.slot p_q), (5, ptrTo R_api_ID p_id), (7, ptrTo R_api_Hash p_seed), (8, val (.pointer (some ⟨b1, 0, none⟩))), (10, ov v2), (11, i64.slot y1)] [own 5 u8 v2 y2, box b1 26 R_api_Hash (Vector.replicate 32 (0#8))]
      unfold rolodexref04_Public_L1 at h
      refine rs ?_
      refine rs ?_
      refine rt ?_
      refine jp (pm (ht rfl)) rfl rfl rfl ?_
      refine jp (pm (ht rfl)) rfl rfl rfl ?_
      obtain ⟨r2, e3, h⟩ := bind_some h
      refine jp (pj_call (hc (ht rfl) <| hasL_nil) (by kernel_rfl) (c_rolodexref04_Chains e3)) rfl rfl rfl ?_
      refine jp (pj_ilss (ht rfl) (ht rfl)) rfl rfl rfl ?_
      refine j_end ?_
      refine run_cond (ht rfl) (fun e4 => ?_) (fun e4 => ?_)
      · replace h := bt e4 h
        refine run_skip ?_
        refine rs ?_
        refine run_block ?_
        refine rs ?_
        obtain ⟨r3, e5, h⟩ := bind_some h
        obtain ⟨r4, e6, h⟩ := bind_some h
        obtain ⟨r5, e7, h⟩ := bind_some h
        refine run_keep (H' := [own 5 u8 v2 y2, box b1 26 R_api_Hash (Vector.replicate 32 (0#8))]) (.cons .here <| .cons .here <| .nil) ?_
        refine run_drawL (n := 12) (H := [own 5 u8 v2 y2, box b1 26 R_api_Hash (Vector.replicate 32 (0#8))]) (Ls := [⟨[], [(11, ⟨Nat, fun (b2 : Nat) => [box b2 26 R_api_Hash (Vector.replicate 32 (0#8))], fun (b2 : Nat) => [(12, val (.pointer (some ⟨b2, 0, none⟩)))]⟩)]⟩]) (by kernel_rfl) (by kernel_rfl) (by kernel_rfl) (by kernel_rfl) (by kernel_rfl) rfl (.read rfl (.plain rfl (pl (ht rfl) (by kernel_rfl))) <| .read rfl (.plain rfl (pm (ht rfl))) <| .read rfl (.plain rfl (pm (ht rfl))) <| .read rfl (.plain rfl (pl (ht rfl) (by kernel_rfl))) <| .read rfl (.plain rfl (pm (ht rfl))) <| .read rfl (.plain rfl (pm (ht rfl))) <| .read rfl (.plain rfl (pl (ht rfl) (by kernel_rfl))) <| .read rfl (.plain rfl (pj_call (hc (ht rfl) <| hc (ht rfl) <| hc (ht rfl) <| hc (ht rfl) <| hasL_nil) (by kernel_rfl) (c_rolodexref04_Begin e5))) <| .read rfl (.plain rfl (pm (ht rfl))) <| .read rfl (.plain rfl (pj_call (hc (ht rfl) <| hasL_nil) (by kernel_rfl) (c_rolodexref04_Most e6))) <| .read rfl (.plain rfl (pj_call (hc (ht rfl) <| hc (ht rfl) <| hc (ht rfl) <| hc (ht rfl) <| hc has_i64 <| hc (ht rfl) <| hasL_nil) (by kernel_rfl) (c_rolodexref04_Steps e7))) <| .step 0 rfl .here (.inl rfl) (fun i => ⟨_, _, fun j => j, (w_alloc (x := (Vector.replicate 32 (0#8))) (R := R_api_Hash) (zero_vec 32 zero_un) (by kernel_rfl) rfl), fun _ => rfl, slotAny, dst1⟩) <| .nil) ?_
        rintro b2
        refine j_to (Γ' := [(0, i64.slot p_kind), (2, u32.slot p_q), (5, ptrTo R_api_ID p_id), (7, ptrTo R_api_Hash p_seed), (8, val (.pointer (some ⟨b1, 0, none⟩))), (10, ov v2), (11, i64.slot y1), (12, val (.pointer (some ⟨b2, 0, none⟩))), (33, R_api_Hash.slot r5)]) (H' := [box b2 26 R_api_Hash (Vector.replicate 32 (0#8)), own 5 u8 v2 y2, box b1 26 R_api_Hash (Vector.replicate 32 (0#8))]) (.cons (.of_lk rfl) <| .cons (.of_lk rfl) <| .cons (.of_lk rfl) <| .cons (.of_lk rfl) <| .cons (.of_lk rfl) <| .cons (.of_lk rfl) <| .cons (.of_lk rfl) <| .cons (.of_lk rfl) <| .cons (.of_lk rfl) <| .nil) (.cons .here <| .cons .here <| .cons .here <| .nil) ?_
        refine j_store_boxx (r' := r5) (ht rfl) (ht rfl) .here (Path.all R_api_Hash) (by kernel_rfl) rfl ?_
        refine j_freezeTo (t := 12) .here (.of_lk rfl) ?_
        refine j_end ?_
        refine rt ?_
        refine jp (pm (ht rfl)) rfl rfl rfl ?_
        refine jp (pj_slice_toF (ht rfl) (by decide) (by kernel_rfl)) rfl rfl rfl ?_
        obtain ⟨e8, h⟩ := grd_some h
        refine j_append (T := 5) (E := 5) (ht rfl) .here (src_data (ht rfl)) (by kernel_rfl) (by kernel_rfl) e8 rfl fun v3 => ?_
        refine jp (pa (ht rfl)) rfl rfl rfl ?_
        refine j_end ?_
        refine run_endblock ?_
        refine rt ?_
        refine jp (pm (ht rfl)) rfl rfl rfl ?_
        refine jp (pj_iadd (ht rfl) has_i64) rfl rfl rfl ?_
        refine jp (pa (ht rfl)) rfl rfl rfl ?_
        refine j_end ?_
        obtain rfl := oi h
        exact run_next v3 (.cons (.of_lk rfl) <| .cons (.of_lk rfl) <| .cons (.of_lk rfl) <| .cons (.of_lk rfl) <| .cons (.of_lk rfl) <| .cons (.of_lk rfl) <| .cons (.of_lk rfl) <| .nil) (.cons .here <| .cons .here <| .nil)
      · replace h := bf e4 h
        obtain rfl := oi h
        exact run_brk v2 (.cons (.of_lk rfl) <| .cons (.of_lk rfl) <| .cons (.of_lk rfl) <| .cons (.of_lk rfl) <| .cons (.of_lk rfl) <| .cons (.of_lk rfl) <| .cons (.of_lk rfl) <| .nil) (.cons .here <| .cons .here <| .nil)
    · rintro v4
      show Run _ _ _ [(0, i64.slot p_kind), (2, u32.slot p_q), (5, ptrTo R_api_ID p_id), (7, ptrTo R_api_Hash p_seed), (8, val (.pointer (some ⟨b1, 0, none⟩))), (10, ov v4), (11, i64.slot y3)] [own 5 u8 v4 y4, box b1 26 R_api_Hash (Vector.replicate 32 (0#8))]
      refine run_to (Γ' := [(2, u32.slot p_q), (5, ptrTo R_api_ID p_id), (8, val (.pointer (some ⟨b1, 0, none⟩))), (10, ov v4)]) (H' := [own 5 u8 v4 y4, box b1 26 R_api_Hash (Vector.replicate 32 (0#8))]) (.cons (.of_lk rfl) <| .cons (.of_lk rfl) <| .cons (.of_lk rfl) <| .cons (.of_lk rfl) <| .nil) (.cons .here <| .cons .here <| .nil) ?_
      refine rs ?_
      refine rt ?_
      refine jp (pl (ht rfl) (by kernel_rfl)) rfl rfl rfl ?_
      refine jp (pm (ht rfl)) rfl rfl rfl ?_
      refine jp (pm (ht rfl)) rfl rfl rfl ?_
      obtain ⟨r6, e10, h⟩ := bind_some h
      refine jp (pj_callB (hasBL_cons (hasB_of (ht rfl)) <| hasBL_cons (hasB_of (ht rfl)) <| hasBL_cons (hasB_of has_i64) <| hasBL_cons (hasB_own (ht rfl) .here) <| hasBL_nil) (by kernel_rfl) (c_rolodexref04_Under e10) (Rep.flat_slot (flat_vec _ (flat_un _ _)) _)) rfl rfl rfl ?_
      refine j_store_boxx (r' := r6) (ht rfl) (ht rfl) (.next .here) (Path.all R_api_Hash) (by kernel_rfl) rfl ?_
      refine jp (pa has_i64) rfl rfl rfl ?_
      refine j_end ?_
      obtain rfl := oi h
      exact run_ret fun a w hst => q_retN hst rfl (.cons (.cell rfl .here (by kernel_rfl)) <| .cons (.tmp rfl) <| .nil) rfl () (fun _ _ h => h) (.nil)
set_option maxRecDepth 100000 in
set_option maxHeartbeats 4000000 in
theorem c_rolodexref05_At_B {G : GP} {rc : Int → Int → Int → T_api_ID → T_api_Hash → Option T_api_Hash} (hrc : ∀ {p_r : Int} {p_keys : Int} {p_kind : Int} {p_id : T_api_ID} {p_seed : T_api_Hash} {r : T_api_Hash}, rc p_r p_keys p_kind p_id p_seed = some r → Ctr Tryd.prog G 52 [i64.slot p_r, i64.slot p_keys, i64.slot p_kind, R_api_ID.slot p_id, R_api_Hash.slot p_seed] [] (fun (_ : Unit) => R_api_Hash.slot r) (fun (_ : Unit) => [])) {p_r : Int} {p_keys : Int} {p_kind : Int} {p_id : T_api_ID} {p_seed : T_api_Hash} {r : T_api_Hash} (h : rolodexref05_At_B rc p_r p_keys p_kind p_id p_seed = some r) : Ctr Tryd.prog G 52 [i64.slot p_r, i64.slot p_keys, i64.slot p_kind, R_api_ID.slot p_id, R_api_Hash.slot p_seed] [] (fun (_ : Unit) => R_api_Hash.slot r) (fun (_ : Unit) => []) := by
  unfold rolodexref05_At_B at h
  refine ctr_of_run Tryd.func52 rfl 50 rfl rfl fun m0 w0 b0 => ?_
  show Run _ _ _ [(0, i64.slot p_r), (1, i64.slot p_keys), (2, i64.slot p_kind), (3, R_api_ID.slot p_id), (4, R_api_Hash.slot p_seed)] _
  refine rs ?_
  refine rt ?_
  refine jp (pj_box_to (ht rfl)) rfl rfl rfl ?_
  refine jp (pj_box_to (ht rfl)) rfl rfl rfl ?_
  refine j_alloc (x := (Vector.replicate 32 (0#8))) (R := R_api_Hash) (zero_vec 32 zero_un) (by kernel_rfl) rfl fun b1 => ?_
  refine j_end ?_
  refine rs ?_
  refine rs ?_
  refine rt ?_
  refine jp (pm (ht rfl)) rfl rfl rfl ?_
  refine jp (pm (ht rfl)) rfl rfl rfl ?_
  refine jp (pj_igeq (ht rfl) (ht rfl)) rfl rfl rfl ?_
  refine j_end ?_
  refine run_cond (ht rfl) (fun e1 => ?_) (fun e1 => ?_)
  · replace h := bt e1 h
    refine rs ?_
    refine rt ?_
    refine jp (pm (ht rfl)) rfl rfl rfl ?_
    refine jp (pl (ht rfl) (by kernel_rfl)) rfl rfl rfl ?_
    refine jp (pm (ht rfl)) rfl rfl rfl ?_
    refine jp (pm (ht rfl)) rfl rfl rfl ?_
    refine jp (pj_isub (ht rfl) (ht rfl)) rfl rfl rfl ?_
    refine jp (pj_conv_un (k := .u32) (b := 32) rfl rfl (by kernel_rfl) (ht rfl) isInt_i64) rfl rfl rfl ?_
    refine jp (pl (ht rfl) (by kernel_rfl)) rfl rfl rfl ?_
    obtain ⟨r1, e2, h⟩ := bind_some h
    refine jp (pj_call (hc (ht rfl) <| hc (ht rfl) <| hc (ht rfl) <| hc (ht rfl) <| hasL_nil) (by kernel_rfl) (c_rolodexref04_Public e2)) rfl rfl rfl ?_
    refine jp (pm (ht rfl)) rfl rfl rfl ?_
    refine jp (pj_extract (ht rfl) rfl) rfl rfl rfl ?_
    refine jp (pj_extract (ht rfl) rfl) rfl rfl rfl ?_
    refine j_alloc (x := (Vector.replicate 32 (0#8))) (R := R_api_Hash) (zero_vec 32 zero_un) (by kernel_rfl) rfl fun b2 => ?_
    refine j_store_boxx (r' := r1.1) (ht rfl) (ht rfl) .here (Path.all R_api_Hash) (by kernel_rfl) rfl ?_
    refine j_freezeTo (t := 11) .here (.of_lk rfl) ?_
    refine jp (pa (ht rfl)) rfl rfl rfl ?_
    refine j_end ?_
    refine rs ?_
    refine run_draw (n := 3) (by kernel_rfl) (by kernel_rfl) (by kernel_rfl) (by kernel_rfl) (.read (.plain rfl (pl (ht rfl) (by kernel_rfl))) <| .read (.plain rfl (pm (ht rfl))) <| .read (.plain rfl (pj_slice_toF (ht rfl) (by decide) (by kernel_rfl))) <| .nil) (j_to (Γ' := [(10, val (.pointer (some ⟨b1, 0, none⟩))), (27, R_api_ID.slot p_id), (28, i64.slot p_r), (29, (sl u8).slot r1.1.toList)]) (H' := [box b1 26 R_api_Hash (Vector.replicate 32 (0#8))]) (.cons (.of_lk rfl) <| .cons (.of_lk rfl) <| .cons (.of_lk rfl) <| .cons (.of_lk rfl) <| .nil) (.cons .here <| .nil) ?_)
    obtain ⟨r2, e3, h⟩ := bind_some h
    refine jp (pj_call (hc (ht rfl) <| hc (ht rfl) <| hc has_i64 <| hc (ht rfl) <| hasL_nil) (by kernel_rfl) (c_rolodexref05_Node e3)) rfl rfl rfl ?_
    refine j_store_boxx (r' := r2) (ht rfl) (ht rfl) .here (Path.all R_api_Hash) (by kernel_rfl) rfl ?_
    refine j_end ?_
    obtain rfl := oi h
    exact run_ret fun a w hst => q_ret1 hst rfl (.cell rfl .here (by kernel_rfl)) () (fun _ _ h => h) (.nil)
  · replace h := bf e1 h
    refine run_skip ?_
    refine rs ?_
    obtain ⟨r3, e4, h⟩ := bind_some h
    obtain ⟨r4, e5, h⟩ := bind_some h
    obtain ⟨r5, e6, h⟩ := bind_some h
    refine run_draw (n := 18) (by kernel_rfl) (by kernel_rfl) (by kernel_rfl) (by kernel_rfl) (.read (.plain rfl (pl (ht rfl) (by kernel_rfl))) <| .read (.plain rfl (pm (ht rfl))) <| .read (.plain rfl (pm (ht rfl))) <| .read (.plain rfl (pj_imul has_i64 (ht rfl))) <| .read (.plain rfl (pm (ht rfl))) <| .read (.plain rfl (pm (ht rfl))) <| .read (.plain rfl (pl (ht rfl) (by kernel_rfl))) <| .read (.plain rfl (pl (ht rfl) (by kernel_rfl))) <| .read (.plain rfl (pj_call (hc (ht rfl) <| hc (ht rfl) <| hc (ht rfl) <| hc (ht rfl) <| hc (ht rfl) <| hasL_nil) (by kernel_rfl) (hrc e4))) <| .read (.plain rfl (pm (ht rfl))) <| .read (.plain rfl (pj_imul has_i64 (ht rfl))) <| .read (.plain rfl (pj_iadd (ht rfl) has_i64)) <| .read (.plain rfl (pm (ht rfl))) <| .read (.plain rfl (pm (ht rfl))) <| .read (.plain rfl (pl (ht rfl) (by kernel_rfl))) <| .read (.plain rfl (pl (ht rfl) (by kernel_rfl))) <| .read (.plain rfl (pj_call (hc (ht rfl) <| hc (ht rfl) <| hc (ht rfl) <| hc (ht rfl) <| hc (ht rfl) <| hasL_nil) (by kernel_rfl) (hrc e5))) <| .read (.plain rfl (pj_call (hc (ht rfl) <| hc (ht rfl) <| hasL_nil) (by kernel_rfl) (Ctr.froze (c_rolodexref05_two e6)))) <| .nil) (j_to (Γ' := [(10, val (.pointer (some ⟨b1, 0, none⟩))), (31, R_api_ID.slot p_id), (32, i64.slot p_r), (48, (sl u8).slot r5)]) (H' := [box b1 26 R_api_Hash (Vector.replicate 32 (0#8))]) (.cons (.of_lk rfl) <| .cons (.of_lk rfl) <| .cons (.of_lk rfl) <| .cons (.of_lk rfl) <| .nil) (.cons .here <| .nil) ?_)
    obtain ⟨r6, e7, h⟩ := bind_some h
    refine jp (pj_call (hc (ht rfl) <| hc (ht rfl) <| hc has_i64 <| hc (ht rfl) <| hasL_nil) (by kernel_rfl) (c_rolodexref05_Node e7)) rfl rfl rfl ?_
    refine j_store_boxx (r' := r6) (ht rfl) (ht rfl) .here (Path.all R_api_Hash) (by kernel_rfl) rfl ?_
    refine j_end ?_
    obtain rfl := oi h
    exact run_ret fun a w hst => q_ret1 hst rfl (.cell rfl .here (by kernel_rfl)) () (fun _ _ h => h) (.nil)
theorem c_rolodexref05_At_F {G : GP} : ∀ (n : Nat) {p_r : Int} {p_keys : Int} {p_kind : Int} {p_id : T_api_ID} {p_seed : T_api_Hash} {r : T_api_Hash}, rolodexref05_At_F n p_r p_keys p_kind p_id p_seed = some r → Ctr Tryd.prog G 52 [i64.slot p_r, i64.slot p_keys, i64.slot p_kind, R_api_ID.slot p_id, R_api_Hash.slot p_seed] [] (fun (_ : Unit) => R_api_Hash.slot r) (fun (_ : Unit) => []) := by
  intro n
  induction n with
  | zero => intro p_r p_keys p_kind p_id p_seed r h; cases h
  | succ n ih => intro p_r p_keys p_kind p_id p_seed r h; exact c_rolodexref05_At_B (fun h => ih h) h
theorem c_rolodexref05_At {G : GP} {p_r : Int} {p_keys : Int} {p_kind : Int} {p_id : T_api_ID} {p_seed : T_api_Hash} {r : T_api_Hash} (h : rolodexref05_At p_r p_keys p_kind p_id p_seed = some r) : Ctr Tryd.prog G 52 [i64.slot p_r, i64.slot p_keys, i64.slot p_kind, R_api_ID.slot p_id, R_api_Hash.slot p_seed] [] (fun (_ : Unit) => R_api_Hash.slot r) (fun (_ : Unit) => []) := c_rolodexref05_At_F FU h
set_option maxRecDepth 100000 in
set_option maxHeartbeats 4000000 in
theorem c_rolodexref05_Public {G : GP} {p_height : Int} {p_kind : Int} {p_id : T_api_ID} {p_seed : T_api_Hash} {r : (List (BitVec 8))} (h : rolodexref05_Public p_height p_kind p_id p_seed = some r) : Ctr Tryd.prog G 24 [i64.slot p_height, i64.slot p_kind, R_api_ID.slot p_id, R_api_Hash.slot p_seed] [] (fun (u0 : Value) => ov u0) (fun (u0 : Value) => [own 5 u8 u0 r]) := by
  unfold rolodexref05_Public at h
  refine ctr_of_run Tryd.func24 rfl 32 rfl rfl fun m0 w0 b0 => ?_
  show Run _ _ _ [(0, i64.slot p_height), (1, i64.slot p_kind), (2, R_api_ID.slot p_id), (3, R_api_Hash.slot p_seed)] _
  refine rs ?_
  refine rt ?_
  refine jp (pj_box_to (ht rfl)) rfl rfl rfl ?_
  refine jp (pj_box_to (ht rfl)) rfl rfl rfl ?_
  refine j_assign_nil (T := 5) u8 rfl fun v1 => ?_
  refine j_end ?_
  refine rs ?_
  obtain ⟨r1, e1, h⟩ := bind_some h
  obtain ⟨r2, e2, h⟩ := bind_some h
  refine run_keep (H' := [own 5 u8 v1 ([] : List (BitVec 8))]) (.cons .here <| .nil) ?_
  refine run_drawL (n := 8) (H := [own 5 u8 v1 ([] : List (BitVec 8))]) (Ls := [⟨[], [(7, ⟨Nat, fun (b1 : Nat) => [box b1 26 R_api_Hash (Vector.replicate 32 (0#8))], fun (b1 : Nat) => [(9, val (.pointer (some ⟨b1, 0, none⟩)))]⟩)]⟩]) (by kernel_rfl) (by kernel_rfl) (by kernel_rfl) (by kernel_rfl) (by kernel_rfl) rfl (.read rfl (.plain rfl (pm (ht rfl))) <| .read rfl (.plain rfl (pm (ht rfl))) <| .read rfl (.plain rfl (pj_call (hc (ht rfl) <| hc (ht rfl) <| hasL_nil) (by kernel_rfl) (c_rolodexref05_Keys e1))) <| .read rfl (.plain rfl (pm (ht rfl))) <| .read rfl (.plain rfl (pl (ht rfl) (by kernel_rfl))) <| .read rfl (.plain rfl (pl (ht rfl) (by kernel_rfl))) <| .read rfl (.plain rfl (pj_call (hc has_i64 <| hc (ht rfl) <| hc (ht rfl) <| hc (ht rfl) <| hc (ht rfl) <| hasL_nil) (by kernel_rfl) (c_rolodexref05_At e2))) <| .step 0 rfl .here (.inl rfl) (fun i => ⟨_, _, fun j => j, (w_alloc (x := (Vector.replicate 32 (0#8))) (R := R_api_Hash) (zero_vec 32 zero_un) (by kernel_rfl) rfl), fun _ => rfl, slotAny, dst1⟩) <| .nil) ?_
  rintro b1
  refine j_to (Γ' := [(0, i64.slot p_height), (1, i64.slot p_kind), (6, ptrTo R_api_ID p_id), (9, val (.pointer (some ⟨b1, 0, none⟩))), (17, R_api_Hash.slot r2)]) (H' := [box b1 26 R_api_Hash (Vector.replicate 32 (0#8))]) (.cons (.of_lk rfl) <| .cons (.of_lk rfl) <| .cons (.of_lk rfl) <| .cons (.of_lk rfl) <| .cons (.of_lk rfl) <| .nil) (.cons .here <| .nil) ?_
  refine j_store_boxx (r' := r2) (ht rfl) (ht rfl) .here (Path.all R_api_Hash) (by kernel_rfl) rfl ?_
  refine j_freezeTo (t := 9) .here (.of_lk rfl) ?_
  refine j_end ?_
  refine rs ?_
  refine rt ?_
  refine jp (pm (ht rfl)) rfl rfl rfl ?_
  refine jp (pj_conv_un (k := .u64) (b := 64) rfl rfl (by kernel_rfl) (ht rfl) isInt_i64) rfl rfl rfl ?_
  obtain ⟨r3, e3, h⟩ := bind_some h
  refine j_call (hc (ht rfl) <| hc has_i64 <| hasL_nil) (by kernel_rfl) (c_rolodexref01_Number e3) .nil rfl fun v2 => ?_
  refine jp (pa (ht rfl)) rfl rfl rfl ?_
  refine j_end ?_
  refine rs ?_
  refine rt ?_
  refine jp (pm (ht rfl)) rfl rfl rfl ?_
  refine jp (pm (ht rfl)) rfl rfl rfl ?_
  refine jp (pj_conv_un (k := .u64) (b := 64) rfl rfl (by kernel_rfl) (ht rfl) isInt_i64) rfl rfl rfl ?_
  obtain ⟨r4, e4, h⟩ := bind_some h
  refine jp (pj_call (hc (ht rfl) <| hc has_i64 <| hasL_nil) (by kernel_rfl) (Ctr.froze (c_rolodexref01_Number e4))) rfl rfl rfl ?_
  obtain ⟨e5, h⟩ := grd_some h
  refine j_append (T := 5) (E := 5) (ht rfl) .here (src_data (ht rfl)) (by kernel_rfl) (by kernel_rfl) e5 rfl fun v3 => ?_
  refine jp (pa (ht rfl)) rfl rfl rfl ?_
  refine j_end ?_
  refine rs ?_
  refine rt ?_
  refine jp (pm (ht rfl)) rfl rfl rfl ?_
  refine jp (pj_slice_toF (ht rfl) (by decide) (by kernel_rfl)) rfl rfl rfl ?_
  obtain ⟨e6, h⟩ := grd_some h
  refine j_append (T := 5) (E := 5) (ht rfl) .here (src_data (ht rfl)) (by kernel_rfl) (by kernel_rfl) e6 rfl fun v4 => ?_
  refine jp (pa (ht rfl)) rfl rfl rfl ?_
  refine j_end ?_
  refine rs ?_
  refine rt ?_
  refine jp (pm (ht rfl)) rfl rfl rfl ?_
  refine jp (pj_slice_toF (ht rfl) (by decide) (by kernel_rfl)) rfl rfl rfl ?_
  obtain ⟨e7, h⟩ := grd_some h
  refine j_append (T := 5) (E := 5) (ht rfl) .here (src_data (ht rfl)) (by kernel_rfl) (by kernel_rfl) e7 rfl fun v5 => ?_
  refine jp (pa (ht rfl)) rfl rfl rfl ?_
  refine j_end ?_
  obtain rfl := oi h
  exact run_ret fun a w hst => q_ret1 hst rfl (.tmp rfl) v5 (fun _ _ h => h) (.cons .here <| .nil)
set_option maxRecDepth 100000 in
set_option maxHeartbeats 4000000 in
theorem c_rolodexref02_Text {G : GP} {p_tag : BitVec 8} {p_parts : List (List (BitVec 8))} {r : (List (BitVec 8))} (h : rolodexref02_Text p_tag p_parts = some r) : Ctr Tryd.prog G 107 [u8.slot p_tag, (sl (sl u8)).slot p_parts] [] (fun (u0 : Value) => ov u0) (fun (u0 : Value) => [own 5 u8 u0 r]) := by
  unfold rolodexref02_Text at h
  refine ctr_of_run Tryd.func107 rfl 31 rfl rfl fun m0 w0 b0 => ?_
  show Run _ _ _ [(0, u8.slot p_tag), (1, (sl (sl u8)).slot p_parts)] _
  refine rs ?_
  refine rt ?_
  refine j_assign_nil (T := 5) u8 rfl fun v1 => ?_
  refine j_end ?_
  refine rs ?_
  refine rt ?_
  refine jp (pm (ht rfl)) rfl rfl rfl ?_
  refine j_buildSlice (T := 5) (R := u8) (.cons (ht rfl) .nil) rfl (by kernel_rfl) (by kernel_rfl) rfl fun v2 => ?_
  refine jp (pa (ht rfl)) rfl rfl rfl ?_
  refine j_end ?_
  refine rs ?_
  refine rs ?_
  refine rt ?_
  refine jp (pa has_i64) rfl rfl rfl ?_
  refine j_end ?_
  obtain ⟨⟨y3, y4⟩, e7, h⟩ := bind_some h
  refine run_loopS (Γi := fun (i : Value) (s : Int × (List (BitVec 8))) => [(1, (sl (sl u8)).slot p_parts), (5, ov i), (6, i64.slot s.1)]) (Hi := fun (i : Value) (s : Int × (List (BitVec 8))) => [own 5 u8 i s.2]) e7 v2 (fun a w hst => (hst.sub (.cons (.of_lk rfl) <| .cons (.of_lk rfl) <| .cons (.of_lk rfl) <| .nil)).keep (.cons .here <| .nil)) ?_ ?_
  · clear h e7
    rintro v3 ⟨y1, y2⟩ lr h
    change rolodexref02_Text_L1 p_parts y1 y2 = some _ at h
    show Run _ _ _ [(1, (sl (sl u8)).slot p_parts), (5, ov v3), (6, i64.slot y1)] [own 5 u8 v3 y2]
    unfold rolodexref02_Text_L1 at h
    refine rs ?_
    refine rs ?_
    refine rt ?_
    refine jp (pm (ht rfl)) rfl rfl rfl ?_
    refine jp (pm (ht rfl)) rfl rfl rfl ?_
    refine jp (pj_len_sl (sz := 1) (ht rfl) (by kernel_rfl)) rfl rfl rfl ?_
    refine jp (pj_ilss (ht rfl) (ht rfl)) rfl rfl rfl ?_
    refine j_end ?_
    refine run_cond (ht rfl) (fun e1 => ?_) (fun e1 => ?_)
    · replace h := bt e1 h
      refine run_skip ?_
      refine rs ?_
      refine run_block ?_
      refine rs ?_
      refine rt ?_
      refine jp (pm (ht rfl)) rfl rfl rfl ?_
      refine jp (pm (ht rfl)) rfl rfl rfl ?_
      refine jp (pm (ht rfl)) rfl rfl rfl ?_
      obtain ⟨x1, e2, h⟩ := bind_some h
      refine jp (pj_index_slx (ht rfl) (ht rfl) isInt_i64 e2 (by kernel_rfl)) rfl rfl rfl ?_
      refine jp (pl (ht rfl) (by kernel_rfl)) rfl rfl rfl ?_
      refine jp (pj_len_sl (sz := 1) (ht rfl) (by kernel_rfl)) rfl rfl rfl ?_
      refine jp (pj_conv_un (k := .u64) (b := 64) rfl rfl (by kernel_rfl) (ht rfl) isInt_i64) rfl rfl rfl ?_
      obtain ⟨r1, e3, h⟩ := bind_some h
      refine jp (pj_call (hc (ht rfl) <| hc has_i64 <| hasL_nil) (by kernel_rfl) (Ctr.froze (c_rolodexref01_Number e3))) rfl rfl rfl ?_
      obtain ⟨e4, h⟩ := grd_some h
      refine j_append (T := 5) (E := 5) (ht rfl) .here (src_data (ht rfl)) (by kernel_rfl) (by kernel_rfl) e4 rfl fun v4 => ?_
      refine jp (pa (ht rfl)) rfl rfl rfl ?_
      refine j_end ?_
      refine rt ?_
      refine jp (pm (ht rfl)) rfl rfl rfl ?_
      refine jp (pm (ht rfl)) rfl rfl rfl ?_
      refine jp (pm (ht rfl)) rfl rfl rfl ?_
      obtain ⟨x2, e5, h⟩ := bind_some h
      refine jp (pj_index_slx (ht rfl) (ht rfl) isInt_i64 e5 (by kernel_rfl)) rfl rfl rfl ?_
      refine jp (pl (ht rfl) (by kernel_rfl)) rfl rfl rfl ?_
      obtain ⟨e6, h⟩ := grd_some h
      refine j_append (T := 5) (E := 5) (ht rfl) .here (src_data (ht rfl)) (by kernel_rfl) (by kernel_rfl) e6 rfl fun v5 => ?_
      refine jp (pa (ht rfl)) rfl rfl rfl ?_
      refine j_end ?_
      refine run_endblock ?_
      refine rt ?_
      refine jp (pm (ht rfl)) rfl rfl rfl ?_
      refine jp (pj_iadd (ht rfl) has_i64) rfl rfl rfl ?_
      refine jp (pa (ht rfl)) rfl rfl rfl ?_
      refine j_end ?_
      obtain rfl := oi h
      exact run_next v5 (.cons (.of_lk rfl) <| .cons (.of_lk rfl) <| .cons (.of_lk rfl) <| .nil) (.cons .here <| .nil)
    · replace h := bf e1 h
      obtain rfl := oi h
      exact run_brk v3 (.cons (.of_lk rfl) <| .cons (.of_lk rfl) <| .cons (.of_lk rfl) <| .nil) (.cons .here <| .nil)
  · rintro v6
    show Run _ _ _ [(1, (sl (sl u8)).slot p_parts), (5, ov v6), (6, i64.slot y3)] [own 5 u8 v6 y4]
    refine run_to (Γ' := [(5, ov v6)]) (H' := [own 5 u8 v6 y4]) (.cons (.of_lk rfl) <| .nil) (.cons .here <| .nil) ?_
    refine rs ?_
    refine rt ?_
    refine jp (pm (ht rfl)) rfl rfl rfl ?_
    refine jp (pa (ht rfl)) rfl rfl rfl ?_
    refine j_end ?_
    obtain rfl := oi h
    exact run_ret fun a w hst => q_ret1 hst rfl (.tmp rfl) v6 (fun _ _ h => h) (.cons .here <| .nil)
set_option maxRecDepth 100000 in
set_option maxHeartbeats 4000000 in
theorem c_rolodexref02_Tagged {G : GP} {p_tag : BitVec 8} {p_parts : List (List (BitVec 8))} {r : T_api_Hash} (h : rolodexref02_Tagged p_tag p_parts = some r) : Ctr Tryd.prog G 92 [u8.slot p_tag, (sl (sl u8)).slot p_parts] [] (fun (_ : Unit) => R_api_Hash.slot r) (fun (_ : Unit) => []) := by
  unfold rolodexref02_Tagged at h
  refine ctr_of_run Tryd.func92 rfl 9 rfl rfl fun m0 w0 b0 => ?_
  show Run _ _ _ [(0, u8.slot p_tag), (1, (sl (sl u8)).slot p_parts)] _
  refine rs ?_
  refine rt ?_
  refine j_alloc (x := (Vector.replicate 32 (0#8))) (R := R_api_Hash) (zero_vec 32 zero_un) (by kernel_rfl) rfl fun b1 => ?_
  refine j_end ?_
  refine rs ?_
  refine rt ?_
  refine jp (pm (ht rfl)) rfl rfl rfl ?_
  refine jp (pm (ht rfl)) rfl rfl rfl ?_
  obtain ⟨r1, e1, h⟩ := bind_some h
  refine jp (pj_call (hc (ht rfl) <| hc (ht rfl) <| hasL_nil) (by kernel_rfl) (Ctr.froze (c_rolodexref02_Text e1))) rfl rfl rfl ?_
  obtain ⟨r2, e2, h⟩ := bind_some h
  refine jp (pj_call (hc (ht rfl) <| hasL_nil) (by kernel_rfl) (c_rolodexref02_Sum e2)) rfl rfl rfl ?_
  refine j_store_boxx (r' := r2) (ht rfl) (ht rfl) .here (Path.all R_api_Hash) (by kernel_rfl) rfl ?_
  refine j_end ?_
  obtain rfl := oi h
  exact run_ret fun a w hst => q_ret1 hst rfl (.cell rfl .here (by kernel_rfl)) () (fun _ _ h => h) (.nil)
set_option maxRecDepth 100000 in
set_option maxHeartbeats 4000000 in
theorem c_rolodexref06_Child {G : GP} {p_seed : T_api_Hash} {p_n : Int} {r : T_api_ID × T_api_Hash} (h : rolodexref06_Child p_seed p_n = some r) : Ctr Tryd.prog G 58 [R_api_Hash.slot p_seed, i64.slot p_n] [] (fun (_ : Unit) => tup [R_api_ID.slot r.1, R_api_Hash.slot r.2]) (fun (_ : Unit) => []) := by
  unfold rolodexref06_Child at h
  refine ctr_of_run Tryd.func58 rfl 25 rfl rfl fun m0 w0 b0 => ?_
  show Run _ _ _ [(0, R_api_Hash.slot p_seed), (1, i64.slot p_n)] _
  refine rs ?_
  refine rt ?_
  refine jp (pj_box_to (ht rfl)) rfl rfl rfl ?_
  refine j_alloc (x := (Vector.replicate 16 (0#8))) (R := R_api_ID) (zero_vec 16 zero_un) (by kernel_rfl) rfl fun b1 => ?_
  refine j_alloc (x := (Vector.replicate 32 (0#8))) (R := R_api_Hash) (zero_vec 32 zero_un) (by kernel_rfl) rfl fun b2 => ?_
  refine j_end ?_
  refine rs ?_
  refine rt ?_
  refine jp (pj_slice_toF (ht rfl) (by decide) (by kernel_rfl)) rfl rfl rfl ?_
  refine j_buildSlice (T := 38) (R := (sl u8)) (.cons (ht rfl) .nil) rfl (by kernel_rfl) (by kernel_rfl) rfl fun v1 => ?_
  refine jp (pa (ht rfl)) rfl rfl rfl ?_
  refine j_end ?_
  refine rs ?_
  refine rs ?_
  refine rt ?_
  refine jp (pm (ht rfl)) rfl rfl rfl ?_
  refine jp (pj_igeq (ht rfl) has_i64) rfl rfl rfl ?_
  refine j_end ?_
  obtain ⟨y1, e4, h⟩ := bind_some h
  refine run_joinx (ι := Value) (Γ' := fun (v2 : Value) => [(4, val (.pointer (some ⟨b1, 0, none⟩))), (5, val (.pointer (some ⟨b2, 0, none⟩))), (6, ov v2)]) (H' := fun (v2 : Value) => [own 38 (sl u8) v2 y1, box b2 26 R_api_Hash (Vector.replicate 32 (0#8)), box b1 23 R_api_ID (Vector.replicate 16 (0#8))]) ?_ fun J => ?_
  · intro v2
    clear e4
    show Run _ _ _ [(4, val (.pointer (some ⟨b1, 0, none⟩))), (5, val (.pointer (some ⟨b2, 0, none⟩))), (6, ov v2)] [own 38 (sl u8) v2 y1, box b2 26 R_api_Hash (Vector.replicate 32 (0#8)), box b1 23 R_api_ID (Vector.replicate 16 (0#8))]
    refine rs ?_
    refine rt ?_
    refine jp (pm (ht rfl)) rfl rfl rfl ?_
    obtain ⟨r2, e5, h⟩ := bind_some h
    refine jp (pj_callB (hasBL_cons (hasB_of (has_un (x := 105#8) rfl)) <| hasBL_cons (hasB_own (ht rfl) .here) <| hasBL_nil) (by kernel_rfl) (c_rolodexref02_Tagged e5) (Rep.flat_slot (flat_vec _ (flat_un _ _)) _)) rfl rfl rfl ?_
    refine j_alloc (x := (Vector.replicate 32 (0#8))) (R := R_api_Hash) (zero_vec 32 zero_un) (by kernel_rfl) rfl fun b3 => ?_
    refine j_store_boxx (r' := r2) (ht rfl) (ht rfl) .here (Path.all R_api_Hash) (by kernel_rfl) rfl ?_
    refine j_freezeTo (t := 7) .here (.of_lk rfl) ?_
    refine j_end ?_
    refine rs ?_
    obtain ⟨x1, e6, h⟩ := bind_some h
    obtain ⟨x2, e7, h⟩ := bind_some h
    obtain ⟨r3, e8, h⟩ := bind_some h
    refine run_draw (n := 5) (by kernel_rfl) (by kernel_rfl) (by kernel_rfl) (by kernel_rfl) (.read (.plain rfl (pj_slice_to (ht rfl) .no (.yes has_i64 isInt_i64) e6 (by decide) (by kernel_rfl))) <| .read (.plain rfl (pj_s2apx (e := 5) (ht rfl) e7 rfl (by kernel_rfl))) <| .read (.plain rfl (pl (ht rfl) (by kernel_rfl))) <| .read (.plain rfl (pm (ht rfl))) <| .read (.plain rfl (pj_callB (hasBL_cons (hasB_of (has_un (x := 115#8) rfl)) <| hasBL_cons (hasB_own (ht rfl) .here) <| hasBL_nil) (by kernel_rfl) (c_rolodexref02_Tagged e8) (Rep.flat_slot (flat_vec _ (flat_un _ _)) _))) <| .nil) (j_to (Γ' := [(4, val (.pointer (some ⟨b1, 0, none⟩))), (5, val (.pointer (some ⟨b2, 0, none⟩))), (22, R_api_ID.slot x2), (24, R_api_Hash.slot r3)]) (H' := [box b2 26 R_api_Hash (Vector.replicate 32 (0#8)), box b1 23 R_api_ID (Vector.replicate 16 (0#8))]) (.cons (.of_lk rfl) <| .cons (.of_lk rfl) <| .cons (.of_lk rfl) <| .cons (.of_lk rfl) <| .nil) (.cons (.next .here) <| .cons (.next .here) <| .nil) ?_)
    refine j_store_boxx (r' := x2) (ht rfl) (ht rfl) (.next .here) (Path.all R_api_ID) (by kernel_rfl) rfl ?_
    refine j_store_boxx (r' := r3) (ht rfl) (ht rfl) (.next .here) (Path.all R_api_Hash) (by kernel_rfl) rfl ?_
    refine j_end ?_
    obtain rfl := oi h
    exact run_ret fun a w hst => q_retN hst rfl (.cons (.cell rfl (.next .here) (by kernel_rfl)) <| .cons (.cell rfl .here (by kernel_rfl)) <| .nil) rfl () (fun _ _ h => h) (.nil)
  · refine run_cond (ht rfl) (fun e1 => ?_) (fun e1 => ?_)
    · replace h := bt e1 e4
      refine rt ?_
      refine jp (pm (ht rfl)) rfl rfl rfl ?_
      refine jp (pm (ht rfl)) rfl rfl rfl ?_
      refine jp (pj_conv_un (k := .u64) (b := 64) rfl rfl (by kernel_rfl) (ht rfl) isInt_i64) rfl rfl rfl ?_
      obtain ⟨r1, e2, h⟩ := bind_some h
      refine jp (pj_call (hc (ht rfl) <| hc has_i64 <| hasL_nil) (by kernel_rfl) (Ctr.froze (c_rolodexref01_Number e2))) rfl rfl rfl ?_
      refine jp (pj_buildSlice (T := 38) (R := (sl u8)) (.cons (ht rfl) .nil) rfl (by kernel_rfl) (by kernel_rfl)) rfl rfl rfl ?_
      obtain ⟨e3, h⟩ := grd_some h
      refine j_append (T := 38) (E := 38) (ht rfl) .here (src_data (ht rfl)) (by kernel_rfl) (by kernel_rfl) e3 rfl fun v3 => ?_
      refine jp (pa (ht rfl)) rfl rfl rfl ?_
      refine j_end ?_
      obtain rfl := oi h
      exact run_to (.cons (.of_lk rfl) <| .cons (.of_lk rfl) <| .cons (.of_lk rfl) <| .nil) (.cons .here <| .cons .here <| .cons .here <| .nil) (J v3)
    · replace h := bf e1 e4
      refine run_skip ?_
      obtain rfl := oi h
      exact run_to (.cons (.of_lk rfl) <| .cons (.of_lk rfl) <| .cons (.of_lk rfl) <| .nil) (.cons .here <| .cons .here <| .cons .here <| .nil) (J v1)
set_option maxRecDepth 100000 in
set_option maxHeartbeats 4000000 in
theorem c_rolodexref06_Public {G : GP} {p_top : Int} {p_kind : Int} {p_seed : T_api_Hash} {r : (List (BitVec 8))} (h : rolodexref06_Public p_top p_kind p_seed = some r) : Ctr Tryd.prog G 35 [i64.slot p_top, i64.slot p_kind, R_api_Hash.slot p_seed] [] (fun (u0 : Value) => ov u0) (fun (u0 : Value) => [own 5 u8 u0 r]) := by
  unfold rolodexref06_Public at h
  refine ctr_of_run Tryd.func35 rfl 23 rfl rfl fun m0 w0 b0 => ?_
  show Run _ _ _ [(0, i64.slot p_top), (1, i64.slot p_kind), (2, R_api_Hash.slot p_seed)] _
  refine rs ?_
  refine rt ?_
  refine jp (pj_box_to (ht rfl)) rfl rfl rfl ?_
  refine j_assign_nil (T := 5) u8 rfl fun v1 => ?_
  refine j_end ?_
  refine rs ?_
  refine rt ?_
  refine jp (pl (ht rfl) (by kernel_rfl)) rfl rfl rfl ?_
  obtain ⟨r1, e1, h⟩ := bind_some h
  refine jp (pj_call (hc (ht rfl) <| hc has_i64 <| hasL_nil) (by kernel_rfl) (c_rolodexref06_Child e1)) rfl rfl rfl ?_
  refine jp (pm (ht rfl)) rfl rfl rfl ?_
  refine jp (pj_extract (ht rfl) rfl) rfl rfl rfl ?_
  refine jp (pj_extract (ht rfl) rfl) rfl rfl rfl ?_
  refine j_alloc (x := (Vector.replicate 16 (0#8))) (R := R_api_ID) (zero_vec 16 zero_un) (by kernel_rfl) rfl fun b1 => ?_
  refine j_alloc (x := (Vector.replicate 32 (0#8))) (R := R_api_Hash) (zero_vec 32 zero_un) (by kernel_rfl) rfl fun b2 => ?_
  refine j_store_boxx (r' := r1.1) (ht rfl) (ht rfl) (.next .here) (Path.all R_api_ID) (by kernel_rfl) rfl ?_
  refine j_freezeTo (t := 7) .here (.of_lk rfl) ?_
  refine j_store_boxx (r' := r1.2) (ht rfl) (ht rfl) .here (Path.all R_api_Hash) (by kernel_rfl) rfl ?_
  refine j_freezeTo (t := 8) .here (.of_lk rfl) ?_
  refine j_end ?_
  refine rs ?_
  refine rt ?_
  refine j_buildSlice (T := 5) (R := u8) (.cons (has_un (x := 0#8) rfl) (.cons (has_un (x := 0#8) rfl) (.cons (has_un (x := 0#8) rfl) (.cons (has_un (x := 2#8) rfl) .nil)))) rfl (by kernel_rfl) (by kernel_rfl) rfl fun v2 => ?_
  refine jp (pa (ht rfl)) rfl rfl rfl ?_
  refine j_end ?_
  refine rs ?_
  refine rt ?_
  refine jp (pm (ht rfl)) rfl rfl rfl ?_
  refine jp (pm (ht rfl)) rfl rfl rfl ?_
  refine jp (pm (ht rfl)) rfl rfl rfl ?_
  refine jp (pl (ht rfl) (by kernel_rfl)) rfl rfl rfl ?_
  refine jp (pl (ht rfl) (by kernel_rfl)) rfl rfl rfl ?_
  obtain ⟨r2, e2, h⟩ := bind_some h
  refine jp (pj_call (hc (ht rfl) <| hc (ht rfl) <| hc (ht rfl) <| hc (ht rfl) <| hasL_nil) (by kernel_rfl) (Ctr.froze (c_rolodexref05_Public e2))) rfl rfl rfl ?_
  obtain ⟨e3, h⟩ := grd_some h
  refine j_append (T := 5) (E := 5) (ht rfl) .here (src_data (ht rfl)) (by kernel_rfl) (by kernel_rfl) e3 rfl fun v3 => ?_
  refine jp (pa (ht rfl)) rfl rfl rfl ?_
  refine j_end ?_
  obtain rfl := oi h
  exact run_ret fun a w hst => q_ret1 hst rfl (.tmp rfl) v3 (fun _ _ h => h) (.cons .here <| .nil)
set_option maxRecDepth 100000 in
set_option maxHeartbeats 4000000 in
theorem c_hss_Signer_Keys_nil {G : GP} {r : Int} (h : hss_Signer_Keys_nil = some r) : Ctr Tryd.prog G 33 [(ptr R_hss_Signer).slot (none : Option T_hss_Signer)] [] (fun (_ : Unit) => i64.slot r) (fun (_ : Unit) => []) := by
  unfold hss_Signer_Keys_nil at h
  refine ctr_of_run Tryd.func33 rfl 15 rfl rfl fun m0 w0 b0 => ?_
  show Run _ _ _ [(0, (ptr R_hss_Signer).slot (none : Option T_hss_Signer))] _
  refine rs ?_
  refine rt ?_
  refine jp (pa has_i64) rfl rfl rfl ?_
  refine j_end ?_
  refine rs ?_
  refine rs ?_
  refine rt ?_
  refine jp (pm (ht rfl)) rfl rfl rfl ?_
  refine jp (pj_eq_nil (E := 86) (by kernel_rfl) (ht rfl)) rfl rfl rfl ?_
  refine j_end ?_
  refine run_cond_t (ht rfl) rfl ?_
  refine rs ?_
  refine rt ?_
  refine jp (pa has_i64) rfl rfl rfl ?_
  refine j_end ?_
  obtain rfl := oi h
  exact run_ret fun a w hst => q_ret1 hst rfl (.tmp rfl) () (fun _ _ h => h) (.nil)
set_option maxRecDepth 100000 in
set_option maxHeartbeats 4000000 in
theorem c_hss_Signer_Public_nil {G : GP} {r : (List (BitVec 8))} (h : hss_Signer_Public_nil = some r) : Ctr Tryd.prog G 34 [(ptr R_hss_Signer).slot (none : Option T_hss_Signer)] [] (fun (u0 : Value) => ov u0) (fun (u0 : Value) => [own 5 u8 u0 r]) := by
  unfold hss_Signer_Public_nil at h
  refine ctr_of_run Tryd.func34 rfl 13 rfl rfl fun m0 w0 b0 => ?_
  show Run _ _ _ [(0, (ptr R_hss_Signer).slot (none : Option T_hss_Signer))] _
  refine rs ?_
  refine rt ?_
  refine j_assign_nil (T := 5) u8 rfl fun v1 => ?_
  refine j_end ?_
  refine rs ?_
  refine rs ?_
  refine rt ?_
  refine jp (pm (ht rfl)) rfl rfl rfl ?_
  refine jp (pj_eq_nil (E := 86) (by kernel_rfl) (ht rfl)) rfl rfl rfl ?_
  refine j_end ?_
  refine run_cond_t (ht rfl) rfl ?_
  refine rs ?_
  refine rt ?_
  refine j_assign_nil (T := 5) u8 rfl fun v2 => ?_
  refine j_end ?_
  obtain rfl := oi h
  exact run_ret fun a w hst => q_ret1 hst rfl (.tmp rfl) v2 (fun _ _ h => h) (.cons .here <| .nil)
set_option maxRecDepth 100000 in
set_option maxHeartbeats 4000000 in
theorem c_rolodexlaw06_HssKeys {G : GP} (hg0 : HG0 G) (hg1 : HG1 G) (hg2 : HG2 G) {p_f : T_rolodexlaw06_Form} {r : Bool} (h : rolodexlaw06_HssKeys p_f = some r) : Ctr Tryd.prog G 6 [R_rolodexlaw06_Form.slot p_f] [] (fun (_ : Unit) => bl.slot r) (fun (_ : Unit) => []) := by
  unfold rolodexlaw06_HssKeys at h
  refine ctr_of_run Tryd.func6 rfl 79 rfl rfl fun m0 w0 b0 => ?_
  show Run _ _ _ [(0, R_rolodexlaw06_Form.slot p_f)] _
  refine rs ?_
  refine rt ?_
  refine jp (pj_box_to (ht rfl)) rfl rfl rfl ?_
  refine jp (pa has_bl) rfl rfl rfl ?_
  refine j_end ?_
  refine rs ?_
  refine rs ?_
  obtain ⟨r1, e1, h⟩ := bind_some h
  obtain ⟨y1, e3, h⟩ := bind_some h
  refine (run_drawJ (n := 19) (Γ' := [(1, ptrTo R_rolodexlaw06_Form p_f), (24, bl.slot y1)]) (H' := []) ?_ fun J => ?_)
  · clear e3
    refine j_end ?_
    refine run_cond (ht rfl) (fun e6 => ?_) (fun e6 => ?_)
    · replace h := bt e6 h
      refine rs ?_
      refine rt ?_
      refine jp (pa has_bl) rfl rfl rfl ?_
      refine j_end ?_
      obtain rfl := oi h
      exact run_ret fun a w hst => q_ret1 hst rfl (.tmp rfl) () (fun _ _ h => h) (.nil)
    · replace h := bf e6 h
      refine run_skip ?_
      refine rs ?_
      refine rt ?_
      refine jp (pj_field_to (ht rfl) (Path.fst i64 (prod i64 (prod i64 R_api_Hash))) (by kernel_rfl)) rfl rfl rfl ?_
      refine jp (pl (ht rfl) (by kernel_rfl)) rfl rfl rfl ?_
      refine jp (pj_field_to (ht rfl) (Path.then (Path.snd i64 (prod i64 (prod i64 R_api_Hash))) (Path.fst i64 (prod i64 R_api_Hash))) (by kernel_rfl)) rfl rfl rfl ?_
      refine jp (pl (ht rfl) (by kernel_rfl)) rfl rfl rfl ?_
      refine jp (pj_field_to (ht rfl) (Path.then (Path.snd i64 (prod i64 (prod i64 R_api_Hash))) (Path.then (Path.snd i64 (prod i64 R_api_Hash)) (Path.fst i64 R_api_Hash))) (by kernel_rfl)) rfl rfl rfl ?_
      refine jp (pl (ht rfl) (by kernel_rfl)) rfl rfl rfl ?_
      obtain ⟨r4, e7, h⟩ := bind_some h
      refine jp (pj_call (hc (ht rfl) <| hc (ht rfl) <| hc (ht rfl) <| hasL_nil) (by kernel_rfl) (c_rolodexref06_Keys e7)) rfl rfl rfl ?_
      refine jp (pa (ht rfl)) rfl rfl rfl ?_
      refine j_end ?_
      refine rs ?_
      refine rs ?_
      refine rt ?_
      refine jp (pm (ht rfl)) rfl rfl rfl ?_
      refine jp (pj_igtr (ht rfl) has_i64) rfl rfl rfl ?_
      refine jp (pm (ht rfl)) rfl rfl rfl ?_
      obtain ⟨y2, e9, h⟩ := bind_some h
      refine j_joinx (ι := Unit) (Γ' := fun _ => [(1, ptrTo R_rolodexlaw06_Form p_f), (3, i64.slot r4), (38, bl.slot y2)]) (H' := fun _ => []) 4 ?_ fun J => ?_
      · intro _
        clear e9
        show OpsJ _ _ _ [(1, ptrTo R_rolodexlaw06_Form p_f), (3, i64.slot r4), (38, bl.slot y2)] [] _
        refine j_end ?_
        refine run_cond (ht rfl) (fun e11 => ?_) (fun e11 => ?_)
        · replace h := bt e11 h
          refine rs ?_
          refine rt ?_
          refine jp (pa has_bl) rfl rfl rfl ?_
          refine j_end ?_
          obtain rfl := oi h
          exact run_ret fun a w hst => q_ret1 hst rfl (.tmp rfl) () (fun _ _ h => h) (.nil)
        · replace h := bf e11 h
          refine run_skip ?_
          refine rs ?_
          refine rt ?_
          refine jp (pj_field_to (ht rfl) (Path.fst i64 (prod i64 (prod i64 R_api_Hash))) (by kernel_rfl)) rfl rfl rfl ?_
          refine jp (pl (ht rfl) (by kernel_rfl)) rfl rfl rfl ?_
          refine jp (pj_field_to (ht rfl) (Path.then (Path.snd i64 (prod i64 (prod i64 R_api_Hash))) (Path.fst i64 (prod i64 R_api_Hash))) (by kernel_rfl)) rfl rfl rfl ?_
          refine jp (pl (ht rfl) (by kernel_rfl)) rfl rfl rfl ?_
          refine jp (pj_field_to (ht rfl) (Path.then (Path.snd i64 (prod i64 (prod i64 R_api_Hash))) (Path.then (Path.snd i64 (prod i64 R_api_Hash)) (Path.fst i64 R_api_Hash))) (by kernel_rfl)) rfl rfl rfl ?_
          refine jp (pl (ht rfl) (by kernel_rfl)) rfl rfl rfl ?_
          refine jp (pj_field_to (ht rfl) (Path.then (Path.snd i64 (prod i64 (prod i64 R_api_Hash))) (Path.then (Path.snd i64 (prod i64 R_api_Hash)) (Path.snd i64 R_api_Hash))) (by kernel_rfl)) rfl rfl rfl ?_
          refine jp (pl (ht rfl) (by kernel_rfl)) rfl rfl rfl ?_
          obtain ⟨r6, e12, h⟩ := bind_some h
          rcases opt_tf r6.1 with e13 | ⟨x1, e13⟩
          · replace h := optE_none e13 h
            refine j_call (hc (ht rfl) <| hc (ht rfl) <| hc (ht rfl) <| hc (ht rfl) <| hasL_nil) (by kernel_rfl) (c_hss_New hg0 hg1 hg2 (e12.trans (congrArg some (show r6 = (none, r6.2) from Prod.ext e13 rfl)))) .nil rfl fun _ => ?_
            refine jp (pm (ht rfl)) rfl rfl rfl ?_
            refine jp (pj_extract (ht rfl) rfl) rfl rfl rfl ?_
            refine jp (pj_extract (ht rfl) rfl) rfl rfl rfl ?_
            refine jp (pa (ht rfl)) rfl rfl rfl ?_
            refine jp (pa (ht rfl)) rfl rfl rfl ?_
            refine j_end ?_
            refine rs ?_
            refine rs ?_
            refine rt ?_
            refine jp (pm (ht rfl)) rfl rfl rfl ?_
            refine jp (pj_ieql (ht rfl) has_i64) rfl rfl rfl ?_
            refine j_end ?_
            refine run_cond (ht rfl) (fun e25 => ?_) (fun e25 => ?_)
            · replace h := bt e25 h
              refine rs ?_
              refine rt ?_
              refine jp (pm (ht rfl)) rfl rfl rfl ?_
              refine jp (pj_ieql (ht rfl) has_i64) rfl rfl rfl ?_
              refine jp (pm (ht rfl)) rfl rfl rfl ?_
              obtain ⟨y6, e27, h⟩ := bind_some h
              refine j_joinx (ι := Unit) (Γ' := fun _ => [(58, bl.slot y6)]) (H' := fun _ => []) 3 ?_ fun J => ?_
              · intro _
                clear e27
                show OpsJ _ _ _ [(58, bl.slot y6)] [] _
                refine jp (pa (ht rfl)) rfl rfl rfl ?_
                refine j_end ?_
                obtain rfl := oi h
                exact run_ret fun a w hst => q_ret1 hst rfl (.tmp rfl) () (fun _ _ h => h) (.nil)
              · rcases bool_tf (decide (r6.2 = (1 : Int))) with e26 | e26
                · replace e27 := bt e26 e27
                  refine jy (pm (ht rfl)) rfl rfl rfl rfl (bl_isx e26) rfl rfl ?_
                  refine jy (pj_eq_nil (E := 86) (by kernel_rfl) (has_ptr_none (R := R_hss_Signer) (ht rfl))) rfl rfl rfl rfl (bl_isx e26) rfl rfl ?_
                  refine jp (PJ.eqv (R := bl) (pj_pick (t := any) (ht rfl) (fun _ => (ht rfl)) (fun he => absurd (e26.symm.trans he) (by decide))) (oi e27)) rfl rfl rfl ?_
                  exact j_to (.cons (.of_lk rfl) <| .nil) (.nil) (J ())
                · replace e27 := bf e26 e27
                  refine j_guard_no2 (j := 2) (want := true) rfl rfl rfl rfl (bl_isx e26) rfl rfl rfl ?_
                  refine j_guard_no2 (j := 2) (want := true) rfl rfl rfl rfl (bl_isx e26) rfl rfl rfl ?_
                  refine jp (PJ.eqv (R := bl) (pj_pick (t := any) (ht rfl) (fun he => absurd (e26.symm.trans he) (by decide)) (fun _ => has_bl)) (oi e27)) rfl rfl rfl ?_
                  exact j_to (.cons (.of_lk rfl) <| .nil) (.nil) (J ())
            · replace h := bf e25 h
              refine run_skip ?_
              refine rs ?_
              obtain ⟨y7, e29, h⟩ := bind_some h
              obtain ⟨y8, e32, h⟩ := bind_some h
              refine (run_drawJ (n := 20) (Γ' := [(78, bl.slot y8)]) (H' := []) ?_ fun J => ?_)
              · clear e29 e32
                refine jp (pa (ht rfl)) rfl rfl rfl ?_
                refine j_end ?_
                obtain rfl := oi h
                exact run_ret fun a w hst => q_ret1 hst rfl (.tmp rfl) () (fun _ _ h => h) (.nil)
              · rcases bool_tf (decide (r6.2 = (0 : Int))) with e28 | e28
                · replace e29 := bt e28 e29
                  obtain ⟨r11, e30, e29⟩ := bind_some e29
                  rcases bool_tf (y7) with e31 | e31
                  · replace e32 := bt e31 e32
                    obtain ⟨r12, e33, e32⟩ := bind_some e32
                    obtain ⟨r13, e34, e32⟩ := bind_some e32
                    obtain ⟨r14, e35, e32⟩ := bind_some e32
                    exact run_draw (n := 20) (by kernel_rfl) (by kernel_rfl) (by kernel_rfl) (by kernel_rfl) (.read (.plain rfl (pm (ht rfl))) <| .read (.plain rfl (pj_ieql (ht rfl) has_i64)) <| .read (.plain rfl (pm (ht rfl))) <| .read (.yes ⟨2, true, _, 61, _, rfl, rfl, rfl, fun _ _ => bl_p.1, gd_yes e28⟩ (pm (ht rfl))) <| .read (.yes ⟨2, true, _, 61, _, rfl, rfl, rfl, fun _ _ => bl_p.1, gd_yes e28⟩ (pj_call (hc (has_ptr_none (R := R_hss_Signer) (ht rfl)) <| hasL_nil) (by kernel_rfl) (c_hss_Signer_Keys_nil e30))) <| .read (.yes ⟨2, true, _, 61, _, rfl, rfl, rfl, fun _ _ => bl_p.1, gd_yes e28⟩ (pm (ht rfl))) <| .read (.yes ⟨2, true, _, 61, _, rfl, rfl, rfl, fun _ _ => bl_p.1, gd_yes e28⟩ (pj_ieql (ht rfl) (ht rfl))) <| .read (.plain rfl (PJ.eqv (R := bl) (pj_pick (t := any) (ht rfl) (fun _ => (ht rfl)) (fun he => absurd (e28.symm.trans he) (by decide))) (oi e29))) <| .read (.plain rfl (pm (ht rfl))) <| .read (.yes ⟨8, true, _, 67, _, rfl, rfl, rfl, fun _ _ => bl_p.1, gd_yes e31⟩ (pm (ht rfl))) <| .read (.yes ⟨8, true, _, 67, _, rfl, rfl, rfl, fun _ _ => bl_p.1, gd_yes e31⟩ (pj_call (hc (has_ptr_none (R := R_hss_Signer) (ht rfl)) <| hasL_nil) (by kernel_rfl) (Ctr.froze (c_hss_Signer_Public_nil e33)))) <| .read (.yes ⟨8, true, _, 67, _, rfl, rfl, rfl, fun _ _ => bl_p.1, gd_yes e31⟩ (pj_field_to (ht rfl) (Path.fst i64 (prod i64 (prod i64 R_api_Hash))) (by kernel_rfl))) <| .read (.yes ⟨8, true, _, 67, _, rfl, rfl, rfl, fun _ _ => bl_p.1, gd_yes e31⟩ (pl (ht rfl) (by kernel_rfl))) <| .read (.yes ⟨8, true, _, 67, _, rfl, rfl, rfl, fun _ _ => bl_p.1, gd_yes e31⟩ (pj_field_to (ht rfl) (Path.then (Path.snd i64 (prod i64 (prod i64 R_api_Hash))) (Path.then (Path.snd i64 (prod i64 R_api_Hash)) (Path.fst i64 R_api_Hash))) (by kernel_rfl))) <| .read (.yes ⟨8, true, _, 67, _, rfl, rfl, rfl, fun _ _ => bl_p.1, gd_yes e31⟩ (pl (ht rfl) (by kernel_rfl))) <| .read (.yes ⟨8, true, _, 67, _, rfl, rfl, rfl, fun _ _ => bl_p.1, gd_yes e31⟩ (pj_field_to (ht rfl) (Path.then (Path.snd i64 (prod i64 (prod i64 R_api_Hash))) (Path.then (Path.snd i64 (prod i64 R_api_Hash)) (Path.snd i64 R_api_Hash))) (by kernel_rfl))) <| .read (.yes ⟨8, true, _, 67, _, rfl, rfl, rfl, fun _ _ => bl_p.1, gd_yes e31⟩ (pl (ht rfl) (by kernel_rfl))) <| .read (.yes ⟨8, true, _, 67, _, rfl, rfl, rfl, fun _ _ => bl_p.1, gd_yes e31⟩ (pj_call (hc (ht rfl) <| hc (ht rfl) <| hc (ht rfl) <| hasL_nil) (by kernel_rfl) (Ctr.froze (c_rolodexref06_Public e34)))) <| .read (.yes ⟨8, true, _, 67, _, rfl, rfl, rfl, fun _ _ => bl_p.1, gd_yes e31⟩ (pj_call (hc (ht rfl) <| hc (ht rfl) <| hasL_nil) (by kernel_rfl) (c_rolodexref01_Same e35))) <| .read (.plain rfl (PJ.eqv (R := bl) (pj_pick (t := any) (ht rfl) (fun _ => (ht rfl)) (fun he => absurd (e31.symm.trans he) (by decide))) (oi e32))) <| .nil) (j_to (Γ' := [(78, bl.slot y8)]) (H' := []) (.cons (.of_lk rfl) <| .nil) (.nil) J)
                  · replace e32 := bf e31 e32
                    exact run_draw (n := 20) (by kernel_rfl) (by kernel_rfl) (by kernel_rfl) (by kernel_rfl) (.read (.plain rfl (pm (ht rfl))) <| .read (.plain rfl (pj_ieql (ht rfl) has_i64)) <| .read (.plain rfl (pm (ht rfl))) <| .read (.yes ⟨2, true, _, 61, _, rfl, rfl, rfl, fun _ _ => bl_p.1, gd_yes e28⟩ (pm (ht rfl))) <| .read (.yes ⟨2, true, _, 61, _, rfl, rfl, rfl, fun _ _ => bl_p.1, gd_yes e28⟩ (pj_call (hc (has_ptr_none (R := R_hss_Signer) (ht rfl)) <| hasL_nil) (by kernel_rfl) (c_hss_Signer_Keys_nil e30))) <| .read (.yes ⟨2, true, _, 61, _, rfl, rfl, rfl, fun _ _ => bl_p.1, gd_yes e28⟩ (pm (ht rfl))) <| .read (.yes ⟨2, true, _, 61, _, rfl, rfl, rfl, fun _ _ => bl_p.1, gd_yes e28⟩ (pj_ieql (ht rfl) (ht rfl))) <| .read (.plain rfl (PJ.eqv (R := bl) (pj_pick (t := any) (ht rfl) (fun _ => (ht rfl)) (fun he => absurd (e28.symm.trans he) (by decide))) (oi e29))) <| .read (.plain rfl (pm (ht rfl))) <| .read (.no ⟨8, true, _, 67, _, rfl, rfl, rfl, fun _ _ => bl_p.1, gd_no e31⟩) <| .read (.no ⟨8, true, _, 67, _, rfl, rfl, rfl, fun _ _ => bl_p.1, gd_no e31⟩) <| .read (.no ⟨8, true, _, 67, _, rfl, rfl, rfl, fun _ _ => bl_p.1, gd_no e31⟩) <| .read (.no ⟨8, true, _, 67, _, rfl, rfl, rfl, fun _ _ => bl_p.1, gd_no e31⟩) <| .read (.no ⟨8, true, _, 67, _, rfl, rfl, rfl, fun _ _ => bl_p.1, gd_no e31⟩) <| .read (.no ⟨8, true, _, 67, _, rfl, rfl, rfl, fun _ _ => bl_p.1, gd_no e31⟩) <| .read (.no ⟨8, true, _, 67, _, rfl, rfl, rfl, fun _ _ => bl_p.1, gd_no e31⟩) <| .read (.no ⟨8, true, _, 67, _, rfl, rfl, rfl, fun _ _ => bl_p.1, gd_no e31⟩) <| .read (.no ⟨8, true, _, 67, _, rfl, rfl, rfl, fun _ _ => bl_p.1, gd_no e31⟩) <| .read (.no ⟨8, true, _, 67, _, rfl, rfl, rfl, fun _ _ => bl_p.1, gd_no e31⟩) <| .read (.plain rfl (PJ.eqv (R := bl) (pj_pick (t := any) (ht rfl) (fun he => absurd (e31.symm.trans he) (by decide)) (fun _ => has_bl)) (oi e32))) <| .nil) (j_to (Γ' := [(78, bl.slot y8)]) (H' := []) (.cons (.of_lk rfl) <| .nil) (.nil) J)
                · replace e29 := bf e28 e29
                  rcases bool_tf (y7) with e31 | e31
                  · exact absurd ((oi e29).trans e31) (by decide)
                  · replace e32 := bf e31 e32
                    exact run_draw (n := 20) (by kernel_rfl) (by kernel_rfl) (by kernel_rfl) (by kernel_rfl) (.read (.plain rfl (pm (ht rfl))) <| .read (.plain rfl (pj_ieql (ht rfl) has_i64)) <| .read (.plain rfl (pm (ht rfl))) <| .read (.no ⟨2, true, _, 61, _, rfl, rfl, rfl, fun _ _ => bl_p.1, gd_no e28⟩) <| .read (.no ⟨2, true, _, 61, _, rfl, rfl, rfl, fun _ _ => bl_p.1, gd_no e28⟩) <| .read (.no ⟨2, true, _, 61, _, rfl, rfl, rfl, fun _ _ => bl_p.1, gd_no e28⟩) <| .read (.no ⟨2, true, _, 61, _, rfl, rfl, rfl, fun _ _ => bl_p.1, gd_no e28⟩) <| .read (.plain rfl (PJ.eqv (R := bl) (pj_pick (t := any) (ht rfl) (fun he => absurd (e28.symm.trans he) (by decide)) (fun _ => has_bl)) (oi e29))) <| .read (.plain rfl (pm (ht rfl))) <| .read (.no ⟨8, true, _, 67, _, rfl, rfl, rfl, fun _ _ => bl_p.1, gd_no e31⟩) <| .read (.no ⟨8, true, _, 67, _, rfl, rfl, rfl, fun _ _ => bl_p.1, gd_no e31⟩) <| .read (.no ⟨8, true, _, 67, _, rfl, rfl, rfl, fun _ _ => bl_p.1, gd_no e31⟩) <| .read (.no ⟨8, true, _, 67, _, rfl, rfl, rfl, fun _ _ => bl_p.1, gd_no e31⟩) <| .read (.no ⟨8, true, _, 67, _, rfl, rfl, rfl, fun _ _ => bl_p.1, gd_no e31⟩) <| .read (.no ⟨8, true, _, 67, _, rfl, rfl, rfl, fun _ _ => bl_p.1, gd_no e31⟩) <| .read (.no ⟨8, true, _, 67, _, rfl, rfl, rfl, fun _ _ => bl_p.1, gd_no e31⟩) <| .read (.no ⟨8, true, _, 67, _, rfl, rfl, rfl, fun _ _ => bl_p.1, gd_no e31⟩) <| .read (.no ⟨8, true, _, 67, _, rfl, rfl, rfl, fun _ _ => bl_p.1, gd_no e31⟩) <| .read (.no ⟨8, true, _, 67, _, rfl, rfl, rfl, fun _ _ => bl_p.1, gd_no e31⟩) <| .read (.plain rfl (PJ.eqv (R := bl) (pj_pick (t := any) (ht rfl) (fun he => absurd (e31.symm.trans he) (by decide)) (fun _ => has_bl)) (oi e32))) <| .nil) (j_to (Γ' := [(78, bl.slot y8)]) (H' := []) (.cons (.of_lk rfl) <| .nil) (.nil) J)
          · replace h := optE_some e13 h
            refine j_call (hc (ht rfl) <| hc (ht rfl) <| hc (ht rfl) <| hc (ht rfl) <| hasL_nil) (by kernel_rfl) (c_hss_New hg0 hg1 hg2 (e12.trans (congrArg some (show r6 = (some x1, r6.2) from Prod.ext e13 rfl)))) .nil rfl fun b1 => ?_
            refine jp (pm (ht rfl)) rfl rfl rfl ?_
            refine jp (pj_extract (ht rfl) rfl) rfl rfl rfl ?_
            refine jp (pj_extract (ht rfl) rfl) rfl rfl rfl ?_
            refine jp (pa (ht rfl)) rfl rfl rfl ?_
            refine jp (pa (ht rfl)) rfl rfl rfl ?_
            refine j_end ?_
            refine rs ?_
            refine rs ?_
            refine rt ?_
            refine jp (pm (ht rfl)) rfl rfl rfl ?_
            refine jp (pj_ieql (ht rfl) has_i64) rfl rfl rfl ?_
            refine j_end ?_
            refine run_cond (ht rfl) (fun e14 => ?_) (fun e14 => ?_)
            · replace h := bt e14 h
              refine rs ?_
              refine rt ?_
              refine jp (pm (ht rfl)) rfl rfl rfl ?_
              refine jp (pj_ieql (ht rfl) has_i64) rfl rfl rfl ?_
              refine jp (pm (ht rfl)) rfl rfl rfl ?_
              obtain ⟨y3, e16, h⟩ := bind_some h
              refine j_joinx (ι := Unit) (Γ' := fun _ => [(58, bl.slot y3)]) (H' := fun _ => []) 3 ?_ fun J => ?_
              · intro _
                clear e16
                show OpsJ _ _ _ [(58, bl.slot y3)] [] _
                refine jp (pa (ht rfl)) rfl rfl rfl ?_
                refine j_end ?_
                obtain rfl := oi h
                exact run_ret fun a w hst => q_ret1 hst rfl (.tmp rfl) () (fun _ _ h => h) (.nil)
              · rcases bool_tf (decide (r6.2 = (1 : Int))) with e15 | e15
                · replace e16 := bt e15 e16
                  refine jy (pm (ht rfl)) rfl rfl rfl rfl (bl_isx e15) rfl rfl ?_
                  refine jy (pj_eq_nil_val (E := 86) (by kernel_rfl) (ht rfl)) rfl rfl rfl rfl (bl_isx e15) rfl rfl ?_
                  refine jp (PJ.eqv (R := bl) (pj_pick (t := any) (ht rfl) (fun _ => (ht rfl)) (fun he => absurd (e15.symm.trans he) (by decide))) (oi e16)) rfl rfl rfl ?_
                  exact j_to (.cons (.of_lk rfl) <| .nil) (.nil) (J ())
                · replace e16 := bf e15 e16
                  refine j_guard_no2 (j := 2) (want := true) rfl rfl rfl rfl (bl_isx e15) rfl rfl rfl ?_
                  refine j_guard_no2 (j := 2) (want := true) rfl rfl rfl rfl (bl_isx e15) rfl rfl rfl ?_
                  refine jp (PJ.eqv (R := bl) (pj_pick (t := any) (ht rfl) (fun he => absurd (e15.symm.trans he) (by decide)) (fun _ => has_bl)) (oi e16)) rfl rfl rfl ?_
                  exact j_to (.cons (.of_lk rfl) <| .nil) (.nil) (J ())
            · replace h := bf e14 h
              refine run_skip ?_
              refine rs ?_
              obtain ⟨y4, e18, h⟩ := bind_some h
              obtain ⟨y5, e21, h⟩ := bind_some h
              refine (run_drawJ (n := 20) (Γ' := [(78, bl.slot y5)]) (H' := []) ?_ fun J => ?_)
              · clear e18 e21
                refine jp (pa (ht rfl)) rfl rfl rfl ?_
                refine j_end ?_
                obtain rfl := oi h
                exact run_ret fun a w hst => q_ret1 hst rfl (.tmp rfl) () (fun _ _ h => h) (.nil)
              · rcases bool_tf (decide (r6.2 = (0 : Int))) with e17 | e17
                · replace e18 := bt e17 e18
                  obtain ⟨r7, e19, e18⟩ := bind_some e18
                  rcases bool_tf (y4) with e20 | e20
                  · replace e21 := bt e20 e21
                    obtain ⟨r8, e22, e21⟩ := bind_some e21
                    obtain ⟨r9, e23, e21⟩ := bind_some e21
                    obtain ⟨r10, e24, e21⟩ := bind_some e21
                    exact run_draw (n := 20) (by kernel_rfl) (by kernel_rfl) (by kernel_rfl) (by kernel_rfl) (.read (.plain rfl (pm (ht rfl))) <| .read (.plain rfl (pj_ieql (ht rfl) has_i64)) <| .read (.plain rfl (pm (ht rfl))) <| .read (.yes ⟨2, true, _, 61, _, rfl, rfl, rfl, fun _ _ => bl_p.1, gd_yes e17⟩ (pm (ht rfl))) <| .read (.yes ⟨2, true, _, 61, _, rfl, rfl, rfl, fun _ _ => bl_p.1, gd_yes e17⟩ (pj_callR (hc (ht rfl) <| hasL_nil) .here (by kernel_rfl) (fun _ => (c_hss_Signer_Keys e19)))) <| .read (.yes ⟨2, true, _, 61, _, rfl, rfl, rfl, fun _ _ => bl_p.1, gd_yes e17⟩ (pm (ht rfl))) <| .read (.yes ⟨2, true, _, 61, _, rfl, rfl, rfl, fun _ _ => bl_p.1, gd_yes e17⟩ (pj_ieql (ht rfl) (ht rfl))) <| .read (.plain rfl (PJ.eqv (R := bl) (pj_pick (t := any) (ht rfl) (fun _ => (ht rfl)) (fun he => absurd (e17.symm.trans he) (by decide))) (oi e18))) <| .read (.plain rfl (pm (ht rfl))) <| .read (.yes ⟨8, true, _, 67, _, rfl, rfl, rfl, fun _ _ => bl_p.1, gd_yes e20⟩ (pm (ht rfl))) <| .read (.yes ⟨8, true, _, 67, _, rfl, rfl, rfl, fun _ _ => bl_p.1, gd_yes e20⟩ (pj_callR (hc (ht rfl) <| hasL_nil) .here (by kernel_rfl) (Ctr.frozeR (fun _ => (c_hss_Signer_Public e22))))) <| .read (.yes ⟨8, true, _, 67, _, rfl, rfl, rfl, fun _ _ => bl_p.1, gd_yes e20⟩ (pj_field_to (ht rfl) (Path.fst i64 (prod i64 (prod i64 R_api_Hash))) (by kernel_rfl))) <| .read (.yes ⟨8, true, _, 67, _, rfl, rfl, rfl, fun _ _ => bl_p.1, gd_yes e20⟩ (pl (ht rfl) (by kernel_rfl))) <| .read (.yes ⟨8, true, _, 67, _, rfl, rfl, rfl, fun _ _ => bl_p.1, gd_yes e20⟩ (pj_field_to (ht rfl) (Path.then (Path.snd i64 (prod i64 (prod i64 R_api_Hash))) (Path.then (Path.snd i64 (prod i64 R_api_Hash)) (Path.fst i64 R_api_Hash))) (by kernel_rfl))) <| .read (.yes ⟨8, true, _, 67, _, rfl, rfl, rfl, fun _ _ => bl_p.1, gd_yes e20⟩ (pl (ht rfl) (by kernel_rfl))) <| .read (.yes ⟨8, true, _, 67, _, rfl, rfl, rfl, fun _ _ => bl_p.1, gd_yes e20⟩ (pj_field_to (ht rfl) (Path.then (Path.snd i64 (prod i64 (prod i64 R_api_Hash))) (Path.then (Path.snd i64 (prod i64 R_api_Hash)) (Path.snd i64 R_api_Hash))) (by kernel_rfl))) <| .read (.yes ⟨8, true, _, 67, _, rfl, rfl, rfl, fun _ _ => bl_p.1, gd_yes e20⟩ (pl (ht rfl) (by kernel_rfl))) <| .read (.yes ⟨8, true, _, 67, _, rfl, rfl, rfl, fun _ _ => bl_p.1, gd_yes e20⟩ (pj_call (hc (ht rfl) <| hc (ht rfl) <| hc (ht rfl) <| hasL_nil) (by kernel_rfl) (Ctr.froze (c_rolodexref06_Public e23)))) <| .read (.yes ⟨8, true, _, 67, _, rfl, rfl, rfl, fun _ _ => bl_p.1, gd_yes e20⟩ (pj_call (hc (ht rfl) <| hc (ht rfl) <| hasL_nil) (by kernel_rfl) (c_rolodexref01_Same e24))) <| .read (.plain rfl (PJ.eqv (R := bl) (pj_pick (t := any) (ht rfl) (fun _ => (ht rfl)) (fun he => absurd (e20.symm.trans he) (by decide))) (oi e21))) <| .nil) (j_to (Γ' := [(78, bl.slot y5)]) (H' := []) (.cons (.of_lk rfl) <| .nil) (.nil) J)
                  · replace e21 := bf e20 e21
                    exact run_draw (n := 20) (by kernel_rfl) (by kernel_rfl) (by kernel_rfl) (by kernel_rfl) (.read (.plain rfl (pm (ht rfl))) <| .read (.plain rfl (pj_ieql (ht rfl) has_i64)) <| .read (.plain rfl (pm (ht rfl))) <| .read (.yes ⟨2, true, _, 61, _, rfl, rfl, rfl, fun _ _ => bl_p.1, gd_yes e17⟩ (pm (ht rfl))) <| .read (.yes ⟨2, true, _, 61, _, rfl, rfl, rfl, fun _ _ => bl_p.1, gd_yes e17⟩ (pj_callR (hc (ht rfl) <| hasL_nil) .here (by kernel_rfl) (fun _ => (c_hss_Signer_Keys e19)))) <| .read (.yes ⟨2, true, _, 61, _, rfl, rfl, rfl, fun _ _ => bl_p.1, gd_yes e17⟩ (pm (ht rfl))) <| .read (.yes ⟨2, true, _, 61, _, rfl, rfl, rfl, fun _ _ => bl_p.1, gd_yes e17⟩ (pj_ieql (ht rfl) (ht rfl))) <| .read (.plain rfl (PJ.eqv (R := bl) (pj_pick (t := any) (ht rfl) (fun _ => (ht rfl)) (fun he => absurd (e17.symm.trans he) (by decide))) (oi e18))) <| .read (.plain rfl (pm (ht rfl))) <| .read (.no ⟨8, true, _, 67, _, rfl, rfl, rfl, fun _ _ => bl_p.1, gd_no e20⟩) <| .read (.no ⟨8, true, _, 67, _, rfl, rfl, rfl, fun _ _ => bl_p.1, gd_no e20⟩) <| .read (.no ⟨8, true, _, 67, _, rfl, rfl, rfl, fun _ _ => bl_p.1, gd_no e20⟩) <| .read (.no ⟨8, true, _, 67, _, rfl, rfl, rfl, fun _ _ => bl_p.1, gd_no e20⟩) <| .read (.no ⟨8, true, _, 67, _, rfl, rfl, rfl, fun _ _ => bl_p.1, gd_no e20⟩) <| .read (.no ⟨8, true, _, 67, _, rfl, rfl, rfl, fun _ _ => bl_p.1, gd_no e20⟩) <| .read (.no ⟨8, true, _, 67, _, rfl, rfl, rfl, fun _ _ => bl_p.1, gd_no e20⟩) <| .read (.no ⟨8, true, _, 67, _, rfl, rfl, rfl, fun _ _ => bl_p.1, gd_no e20⟩) <| .read (.no ⟨8, true, _, 67, _, rfl, rfl, rfl, fun _ _ => bl_p.1, gd_no e20⟩) <| .read (.no ⟨8, true, _, 67, _, rfl, rfl, rfl, fun _ _ => bl_p.1, gd_no e20⟩) <| .read (.plain rfl (PJ.eqv (R := bl) (pj_pick (t := any) (ht rfl) (fun he => absurd (e20.symm.trans he) (by decide)) (fun _ => has_bl)) (oi e21))) <| .nil) (j_to (Γ' := [(78, bl.slot y5)]) (H' := []) (.cons (.of_lk rfl) <| .nil) (.nil) J)
                · replace e18 := bf e17 e18
                  rcases bool_tf (y4) with e20 | e20
                  · exact absurd ((oi e18).trans e20) (by decide)
                  · replace e21 := bf e20 e21
                    exact run_draw (n := 20) (by kernel_rfl) (by kernel_rfl) (by kernel_rfl) (by kernel_rfl) (.read (.plain rfl (pm (ht rfl))) <| .read (.plain rfl (pj_ieql (ht rfl) has_i64)) <| .read (.plain rfl (pm (ht rfl))) <| .read (.no ⟨2, true, _, 61, _, rfl, rfl, rfl, fun _ _ => bl_p.1, gd_no e17⟩) <| .read (.no ⟨2, true, _, 61, _, rfl, rfl, rfl, fun _ _ => bl_p.1, gd_no e17⟩) <| .read (.no ⟨2, true, _, 61, _, rfl, rfl, rfl, fun _ _ => bl_p.1, gd_no e17⟩) <| .read (.no ⟨2, true, _, 61, _, rfl, rfl, rfl, fun _ _ => bl_p.1, gd_no e17⟩) <| .read (.plain rfl (PJ.eqv (R := bl) (pj_pick (t := any) (ht rfl) (fun he => absurd (e17.symm.trans he) (by decide)) (fun _ => has_bl)) (oi e18))) <| .read (.plain rfl (pm (ht rfl))) <| .read (.no ⟨8, true, _, 67, _, rfl, rfl, rfl, fun _ _ => bl_p.1, gd_no e20⟩) <| .read (.no ⟨8, true, _, 67, _, rfl, rfl, rfl, fun _ _ => bl_p.1, gd_no e20⟩) <| .read (.no ⟨8, true, _, 67, _, rfl, rfl, rfl, fun _ _ => bl_p.1, gd_no e20⟩) <| .read (.no ⟨8, true, _, 67, _, rfl, rfl, rfl, fun _ _ => bl_p.1, gd_no e20⟩) <| .read (.no ⟨8, true, _, 67, _, rfl, rfl, rfl, fun _ _ => bl_p.1, gd_no e20⟩) <| .read (.no ⟨8, true, _, 67, _, rfl, rfl, rfl, fun _ _ => bl_p.1, gd_no e20⟩) <| .read (.no ⟨8, true, _, 67, _, rfl, rfl, rfl, fun _ _ => bl_p.1, gd_no e20⟩) <| .read (.no ⟨8, true, _, 67, _, rfl, rfl, rfl, fun _ _ => bl_p.1, gd_no e20⟩) <| .read (.no ⟨8, true, _, 67, _, rfl, rfl, rfl, fun _ _ => bl_p.1, gd_no e20⟩) <| .read (.no ⟨8, true, _, 67, _, rfl, rfl, rfl, fun _ _ => bl_p.1, gd_no e20⟩) <| .read (.plain rfl (PJ.eqv (R := bl) (pj_pick (t := any) (ht rfl) (fun he => absurd (e20.symm.trans he) (by decide)) (fun _ => has_bl)) (oi e21))) <| .nil) (j_to (Γ' := [(78, bl.slot y5)]) (H' := []) (.cons (.of_lk rfl) <| .nil) (.nil) J)
      · rcases bool_tf (decide ((0 : Int) < r4)) with e8 | e8
        · replace e9 := bt e8 e9
          refine jy (pl (ht rfl) (by kernel_rfl)) rfl rfl rfl rfl (bl_isx e8) rfl rfl ?_
          obtain ⟨r5, e10, e9⟩ := bind_some e9
          refine jy (pj_call (hc (ht rfl) <| hasL_nil) (by kernel_rfl) (c_rolodexlaw06_small e10)) rfl rfl rfl rfl (bl_isx e8) rfl rfl ?_
          refine jy (pj_not (ht rfl)) rfl rfl rfl rfl (bl_isx e8) rfl rfl ?_
          refine jp (PJ.eqv (R := bl) (pj_pick (t := any) (ht rfl) (fun _ => (ht rfl)) (fun he => absurd (e8.symm.trans he) (by decide))) (oi e9)) rfl rfl rfl ?_
          exact j_to (.cons (.of_lk rfl) <| .cons (.of_lk rfl) <| .cons (.of_lk rfl) <| .nil) (.nil) (J ())
        · replace e9 := bf e8 e9
          refine j_guard_no2 (j := 2) (want := true) rfl rfl rfl rfl (bl_isx e8) rfl rfl rfl ?_
          refine j_guard_no2 (j := 2) (want := true) rfl rfl rfl rfl (bl_isx e8) rfl rfl rfl ?_
          refine j_guard_no2 (j := 2) (want := true) rfl rfl rfl rfl (bl_isx e8) rfl rfl rfl ?_
          refine jp (PJ.eqv (R := bl) (pj_pick (t := any) (ht rfl) (fun he => absurd (e8.symm.trans he) (by decide)) (fun _ => has_bl)) (oi e9)) rfl rfl rfl ?_
          exact j_to (.cons (.of_lk rfl) <| .cons (.of_lk rfl) <| .cons (.of_lk rfl) <| .nil) (.nil) (J ())
  · rcases bool_tf (!r1) with e2 | e2
    · replace e3 := bt e2 e3
      exact run_draw (n := 19) (by kernel_rfl) (by kernel_rfl) (by kernel_rfl) (by kernel_rfl) (.read (.plain rfl (pj_call (hasL_nil) (by kernel_rfl) (c_rolodexlaw06_awake hg0 hg1 hg2 e1))) <| .read (.plain rfl (pj_not (ht rfl))) <| .read (.plain rfl (pm (ht rfl))) <| .read (.no ⟨2, false, _, 8, _, rfl, rfl, rfl, fun _ _ => bl_p.1, gd_no e2⟩) <| .read (.no ⟨2, false, _, 8, _, rfl, rfl, rfl, fun _ _ => bl_p.1, gd_no e2⟩) <| .read (.no ⟨2, false, _, 8, _, rfl, rfl, rfl, fun _ _ => bl_p.1, gd_no e2⟩) <| .read (.no ⟨2, false, _, 8, _, rfl, rfl, rfl, fun _ _ => bl_p.1, gd_no e2⟩) <| .read (.no ⟨2, false, _, 8, _, rfl, rfl, rfl, fun _ _ => bl_p.1, gd_no e2⟩) <| .read (.no ⟨2, false, _, 8, _, rfl, rfl, rfl, fun _ _ => bl_p.1, gd_no e2⟩) <| .read (.no ⟨2, false, _, 8, _, rfl, rfl, rfl, fun _ _ => bl_p.1, gd_no e2⟩) <| .read (.no ⟨2, false, _, 8, _, rfl, rfl, rfl, fun _ _ => bl_p.1, gd_no e2⟩) <| .read (.no ⟨2, false, _, 8, _, rfl, rfl, rfl, fun _ _ => bl_p.1, gd_no e2⟩) <| .read (.no ⟨2, false, _, 8, _, rfl, rfl, rfl, fun _ _ => bl_p.1, gd_no e2⟩) <| .read (.no ⟨2, false, _, 8, _, rfl, rfl, rfl, fun _ _ => bl_p.1, gd_no e2⟩) <| .read (.no ⟨2, false, _, 8, _, rfl, rfl, rfl, fun _ _ => bl_p.1, gd_no e2⟩) <| .read (.no ⟨2, false, _, 8, _, rfl, rfl, rfl, fun _ _ => bl_p.1, gd_no e2⟩) <| .read (.no ⟨2, false, _, 8, _, rfl, rfl, rfl, fun _ _ => bl_p.1, gd_no e2⟩) <| .read (.no ⟨2, false, _, 8, _, rfl, rfl, rfl, fun _ _ => bl_p.1, gd_no e2⟩) <| .read (.plain rfl (PJ.eqv (R := bl) (pj_pick (t := any) (ht rfl) (fun _ => has_bl) (fun he => absurd (e2.symm.trans he) (by decide))) (oi e3))) <| .nil) (j_to (Γ' := [(1, ptrTo R_rolodexlaw06_Form p_f), (24, bl.slot y1)]) (H' := []) (.cons (.of_lk rfl) <| .cons (.of_lk rfl) <| .nil) (.nil) J)
    · replace e3 := bf e2 e3
      obtain ⟨r2, e4, e3⟩ := bind_some e3
      obtain ⟨r3, e5, e3⟩ := bind_some e3
      exact run_draw (n := 19) (by kernel_rfl) (by kernel_rfl) (by kernel_rfl) (by kernel_rfl) (.read (.plain rfl (pj_call (hasL_nil) (by kernel_rfl) (c_rolodexlaw06_awake hg0 hg1 hg2 e1))) <| .read (.plain rfl (pj_not (ht rfl))) <| .read (.plain rfl (pm (ht rfl))) <| .read (.yes ⟨2, false, _, 8, _, rfl, rfl, rfl, fun _ _ => bl_p.1, gd_yes e2⟩ (pj_field_to (ht rfl) (Path.fst i64 (prod i64 (prod i64 R_api_Hash))) (by kernel_rfl))) <| .read (.yes ⟨2, false, _, 8, _, rfl, rfl, rfl, fun _ _ => bl_p.1, gd_yes e2⟩ (pl (ht rfl) (by kernel_rfl))) <| .read (.yes ⟨2, false, _, 8, _, rfl, rfl, rfl, fun _ _ => bl_p.1, gd_yes e2⟩ (pj_field_to (ht rfl) (Path.then (Path.snd i64 (prod i64 (prod i64 R_api_Hash))) (Path.fst i64 (prod i64 R_api_Hash))) (by kernel_rfl))) <| .read (.yes ⟨2, false, _, 8, _, rfl, rfl, rfl, fun _ _ => bl_p.1, gd_yes e2⟩ (pl (ht rfl) (by kernel_rfl))) <| .read (.yes ⟨2, false, _, 8, _, rfl, rfl, rfl, fun _ _ => bl_p.1, gd_yes e2⟩ (pj_field_to (ht rfl) (Path.then (Path.snd i64 (prod i64 (prod i64 R_api_Hash))) (Path.then (Path.snd i64 (prod i64 R_api_Hash)) (Path.fst i64 R_api_Hash))) (by kernel_rfl))) <| .read (.yes ⟨2, false, _, 8, _, rfl, rfl, rfl, fun _ _ => bl_p.1, gd_yes e2⟩ (pl (ht rfl) (by kernel_rfl))) <| .read (.yes ⟨2, false, _, 8, _, rfl, rfl, rfl, fun _ _ => bl_p.1, gd_yes e2⟩ (pj_call (hc (ht rfl) <| hc (ht rfl) <| hc (ht rfl) <| hasL_nil) (by kernel_rfl) (c_hss_Size hg0 e4))) <| .read (.yes ⟨2, false, _, 8, _, rfl, rfl, rfl, fun _ _ => bl_p.1, gd_yes e2⟩ (pj_field_to (ht rfl) (Path.fst i64 (prod i64 (prod i64 R_api_Hash))) (by kernel_rfl))) <| .read (.yes ⟨2, false, _, 8, _, rfl, rfl, rfl, fun _ _ => bl_p.1, gd_yes e2⟩ (pl (ht rfl) (by kernel_rfl))) <| .read (.yes ⟨2, false, _, 8, _, rfl, rfl, rfl, fun _ _ => bl_p.1, gd_yes e2⟩ (pj_field_to (ht rfl) (Path.then (Path.snd i64 (prod i64 (prod i64 R_api_Hash))) (Path.fst i64 (prod i64 R_api_Hash))) (by kernel_rfl))) <| .read (.yes ⟨2, false, _, 8, _, rfl, rfl, rfl, fun _ _ => bl_p.1, gd_yes e2⟩ (pl (ht rfl) (by kernel_rfl))) <| .read (.yes ⟨2, false, _, 8, _, rfl, rfl, rfl, fun _ _ => bl_p.1, gd_yes e2⟩ (pj_field_to (ht rfl) (Path.then (Path.snd i64 (prod i64 (prod i64 R_api_Hash))) (Path.then (Path.snd i64 (prod i64 R_api_Hash)) (Path.fst i64 R_api_Hash))) (by kernel_rfl))) <| .read (.yes ⟨2, false, _, 8, _, rfl, rfl, rfl, fun _ _ => bl_p.1, gd_yes e2⟩ (pl (ht rfl) (by kernel_rfl))) <| .read (.yes ⟨2, false, _, 8, _, rfl, rfl, rfl, fun _ _ => bl_p.1, gd_yes e2⟩ (pj_call (hc (ht rfl) <| hc (ht rfl) <| hc (ht rfl) <| hasL_nil) (by kernel_rfl) (c_rolodexref06_Size e5))) <| .read (.yes ⟨2, false, _, 8, _, rfl, rfl, rfl, fun _ _ => bl_p.1, gd_yes e2⟩ (pj_ineq (ht rfl) (ht rfl))) <| .read (.plain rfl (PJ.eqv (R := bl) (pj_pick (t := any) (ht rfl) (fun he => absurd (e2.symm.trans he) (by decide)) (fun _ => (ht rfl))) (oi e3))) <| .nil) (j_to (Γ' := [(1, ptrTo R_rolodexlaw06_Form p_f), (24, bl.slot y1)]) (H' := []) (.cons (.of_lk rfl) <| .cons (.of_lk rfl) <| .nil) (.nil) J)
end Go.Sl.W
