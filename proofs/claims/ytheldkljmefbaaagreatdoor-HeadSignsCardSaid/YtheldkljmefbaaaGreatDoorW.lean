import Derived.Test.YtheldkljmefbaaaGreatDoorWB
import Derived.Test.YtheldkljmefbaaaGreatDoorOp14
import Derived.Test.YtheldkljmefbaaaGreatDoorProg
set_option linter.unusedSimpArgs false
set_option linter.unusedVariables false
set_option linter.unusedSectionVars false
namespace Go.Sl.W
open Go.Proofs Go.Sl Go.Sl.M
set_option maxRecDepth 100000 in
set_option maxHeartbeats 4000000 in
theorem c_rolodexref06_Sign {G : GP} {p_top : Int} {p_bottom : Int} {p_kind : Int} {p_seed : T_api_Hash} {p_n : Int} {p_message : List (BitVec 8)} {r : (List (BitVec 8)) × Int} (h : rolodexref06_Sign p_top p_bottom p_kind p_seed p_n p_message = some r) : Ctr Tryz.prog G 12 [i64.slot p_top, i64.slot p_bottom, i64.slot p_kind, R_api_Hash.slot p_seed, i64.slot p_n, (sl u8).slot p_message] [] (fun (u0 : Value) => tup [ov u0, i64.slot r.2]) (fun (u0 : Value) => [own 5 u8 u0 r.1]) := by
  unfold rolodexref06_Sign at h
  refine ctr_of_run Tryz.func12 rfl 92 rfl rfl fun m0 w0 b0 => ?_
  show Run _ _ _ [(0, i64.slot p_top), (1, i64.slot p_bottom), (2, i64.slot p_kind), (3, R_api_Hash.slot p_seed), (4, i64.slot p_n), (5, (sl u8).slot p_message)] _
  refine rs ?_
  refine rt ?_
  refine jp (pj_box_to (ht rfl)) rfl rfl rfl ?_
  refine j_assign_nil (T := 5) u8 rfl fun v1 => ?_
  refine jp (pa has_i64) rfl rfl rfl ?_
  refine j_end ?_
  refine rs ?_
  refine rs ?_
  refine rt ?_
  refine jp (pm (ht rfl)) rfl rfl rfl ?_
  refine jp (pj_ilss (ht rfl) has_i64) rfl rfl rfl ?_
  refine jp (pm (ht rfl)) rfl rfl rfl ?_
  obtain ⟨y1, e2, h⟩ := bind_some h
  refine j_joinx (ι := Unit) (Γ' := fun _ => [(0, i64.slot p_top), (1, i64.slot p_bottom), (2, i64.slot p_kind), (4, i64.slot p_n), (5, (sl u8).slot p_message), (9, ptrTo R_api_Hash p_seed), (35, bl.slot y1)]) (H' := fun _ => []) 7 ?_ fun J => ?_
  · intro _
    clear e2
    show OpsJ _ _ _ [(0, i64.slot p_top), (1, i64.slot p_bottom), (2, i64.slot p_kind), (4, i64.slot p_n), (5, (sl u8).slot p_message), (9, ptrTo R_api_Hash p_seed), (35, bl.slot y1)] [] _
    refine j_end ?_
    refine run_cond (ht rfl) (fun e4 => ?_) (fun e4 => ?_)
    · replace h := bt e4 h
      refine rs ?_
      refine rt ?_
      refine j_assign_nil (T := 5) u8 rfl fun v2 => ?_
      refine jp (pa has_i64) rfl rfl rfl ?_
      refine j_end ?_
      obtain rfl := oi h
      exact run_ret fun a w hst => q_retN hst rfl (.cons (.tmp rfl) <| .cons (.tmp rfl) <| .nil) rfl v2 (fun _ _ h => h) (.cons .here <| .nil)
    · replace h := bf e4 h
      refine run_skip ?_
      refine rs ?_
      obtain ⟨r2, e5, h⟩ := bind_some h
      obtain ⟨e6, h⟩ := grd_some h
      obtain ⟨r3, e7, h⟩ := bind_some h
      obtain ⟨e8, h⟩ := grd_some h
      refine run_draw (n := 11) (by kernel_rfl) (by kernel_rfl) (by kernel_rfl) (by kernel_rfl) (.read (.plain rfl (pm (ht rfl))) <| .read (.plain rfl (pm (ht rfl))) <| .read (.plain rfl (pm (ht rfl))) <| .read (.plain rfl (pj_call (hc (ht rfl) <| hc (ht rfl) <| hasL_nil) (by kernel_rfl) (c_rolodexref05_Keys e5))) <| .read (.plain rfl (pj_iquo (ht rfl) (ht rfl) e6)) <| .read (.plain rfl (pm (ht rfl))) <| .read (.plain rfl (pm (ht rfl))) <| .read (.plain rfl (pm (ht rfl))) <| .read (.plain rfl (pj_call (hc (ht rfl) <| hc (ht rfl) <| hasL_nil) (by kernel_rfl) (c_rolodexref05_Keys e7))) <| .read (.plain rfl (pj_irem (ht rfl) (ht rfl) e8)) <| .read (.plain rfl (pa (ht rfl))) <| .nil) (j_to (Γ' := [(0, i64.slot p_top), (1, i64.slot p_bottom), (2, i64.slot p_kind), (5, (sl u8).slot p_message), (9, ptrTo R_api_Hash p_seed), (14, i64.slot (w64 (Int.tdiv p_n r2))), (45, i64.slot (Int.tmod p_n r3))]) (H' := []) (.cons (.of_lk rfl) <| .cons (.of_lk rfl) <| .cons (.of_lk rfl) <| .cons (.of_lk rfl) <| .cons (.of_lk rfl) <| .cons (.of_lk rfl) <| .cons (.of_lk rfl) <| .nil) (.nil) ?_)
      refine jp (pa (ht rfl)) rfl rfl rfl ?_
      refine j_end ?_
      refine rs ?_
      refine rt ?_
      refine jp (pl (ht rfl) (by kernel_rfl)) rfl rfl rfl ?_
      obtain ⟨r4, e9, h⟩ := bind_some h
      refine jp (pj_call (hc (ht rfl) <| hc has_i64 <| hasL_nil) (by kernel_rfl) (c_rolodexref06_Child e9)) rfl rfl rfl ?_
      refine jp (pm (ht rfl)) rfl rfl rfl ?_
      refine jp (pj_extract (ht rfl) rfl) rfl rfl rfl ?_
      refine jp (pj_extract (ht rfl) rfl) rfl rfl rfl ?_
      refine j_alloc (x := (Vector.replicate 16 (0#8))) (R := R_api_ID) (zero_vec 16 zero_un) (by kernel_rfl) rfl fun b1 => ?_
      refine j_alloc (x := (Vector.replicate 32 (0#8))) (R := R_api_Hash) (zero_vec 32 zero_un) (by kernel_rfl) rfl fun b2 => ?_
      refine j_store_boxx (r' := r4.1) (ht rfl) (ht rfl) (.next .here) (Path.all R_api_ID) (by kernel_rfl) rfl ?_
      refine j_freezeTo (t := 16) .here (.of_lk rfl) ?_
      refine j_store_boxx (r' := r4.2) (ht rfl) (ht rfl) .here (Path.all R_api_Hash) (by kernel_rfl) rfl ?_
      refine j_freezeTo (t := 17) .here (.of_lk rfl) ?_
      refine j_end ?_
      refine rs ?_
      refine rt ?_
      refine jp (pl (ht rfl) (by kernel_rfl)) rfl rfl rfl ?_
      refine jp (pm (ht rfl)) rfl rfl rfl ?_
      obtain ⟨r5, e10, h⟩ := bind_some h
      refine jp (pj_call (hc (ht rfl) <| hc (ht rfl) <| hasL_nil) (by kernel_rfl) (c_rolodexref06_Child e10)) rfl rfl rfl ?_
      refine jp (pm (ht rfl)) rfl rfl rfl ?_
      refine jp (pj_extract (ht rfl) rfl) rfl rfl rfl ?_
      refine jp (pj_extract (ht rfl) rfl) rfl rfl rfl ?_
      refine j_alloc (x := (Vector.replicate 16 (0#8))) (R := R_api_ID) (zero_vec 16 zero_un) (by kernel_rfl) rfl fun b3 => ?_
      refine j_alloc (x := (Vector.replicate 32 (0#8))) (R := R_api_Hash) (zero_vec 32 zero_un) (by kernel_rfl) rfl fun b4 => ?_
      refine j_store_boxx (r' := r5.1) (ht rfl) (ht rfl) (.next .here) (Path.all R_api_ID) (by kernel_rfl) rfl ?_
      refine j_freezeTo (t := 18) .here (.of_lk rfl) ?_
      refine j_store_boxx (r' := r5.2) (ht rfl) (ht rfl) .here (Path.all R_api_Hash) (by kernel_rfl) rfl ?_
      refine j_freezeTo (t := 19) .here (.of_lk rfl) ?_
      refine j_end ?_
      refine rs ?_
      refine rt ?_
      refine jp (pm (ht rfl)) rfl rfl rfl ?_
      refine jp (pm (ht rfl)) rfl rfl rfl ?_
      refine jp (pl (ht rfl) (by kernel_rfl)) rfl rfl rfl ?_
      refine jp (pl (ht rfl) (by kernel_rfl)) rfl rfl rfl ?_
      obtain ⟨r6, e11, h⟩ := bind_some h
      refine jp (pj_call (hc (ht rfl) <| hc (ht rfl) <| hc (ht rfl) <| hc (ht rfl) <| hasL_nil) (by kernel_rfl) (Ctr.froze (c_rolodexref05_Public e11))) rfl rfl rfl ?_
      refine jp (pa (ht rfl)) rfl rfl rfl ?_
      refine j_end ?_
      refine rs ?_
      refine rt ?_
      refine jp (pm (ht rfl)) rfl rfl rfl ?_
      refine jp (pm (ht rfl)) rfl rfl rfl ?_
      refine jp (pl (ht rfl) (by kernel_rfl)) rfl rfl rfl ?_
      refine jp (pl (ht rfl) (by kernel_rfl)) rfl rfl rfl ?_
      refine jp (pm (ht rfl)) rfl rfl rfl ?_
      refine jp (pm (ht rfl)) rfl rfl rfl ?_
      obtain ⟨r7, e12, h⟩ := bind_some h
      refine jp (pj_call (hc (ht rfl) <| hc (ht rfl) <| hc (ht rfl) <| hc (ht rfl) <| hc (ht rfl) <| hc (ht rfl) <| hasL_nil) (by kernel_rfl) (Ctr.froze2 (c_rolodexref05_Sign e12))) rfl rfl rfl ?_
      refine jp (pm (ht rfl)) rfl rfl rfl ?_
      refine jp (pj_extract (ht rfl) rfl) rfl rfl rfl ?_
      refine jp (pj_extract (ht rfl) rfl) rfl rfl rfl ?_
      refine jp (pa (ht rfl)) rfl rfl rfl ?_
      refine jp (pa (ht rfl)) rfl rfl rfl ?_
      refine j_end ?_
      refine rs ?_
      refine rt ?_
      refine jp (pm (ht rfl)) rfl rfl rfl ?_
      refine jp (pm (ht rfl)) rfl rfl rfl ?_
      refine jp (pl (ht rfl) (by kernel_rfl)) rfl rfl rfl ?_
      refine jp (pl (ht rfl) (by kernel_rfl)) rfl rfl rfl ?_
      refine jp (pm (ht rfl)) rfl rfl rfl ?_
      refine jp (pm (ht rfl)) rfl rfl rfl ?_
      obtain ⟨r8, e13, h⟩ := bind_some h
      refine jp (pj_call (hc (ht rfl) <| hc (ht rfl) <| hc (ht rfl) <| hc (ht rfl) <| hc (ht rfl) <| hc (ht rfl) <| hasL_nil) (by kernel_rfl) (Ctr.froze2 (c_rolodexref05_Sign e13))) rfl rfl rfl ?_
      refine jp (pm (ht rfl)) rfl rfl rfl ?_
      refine jp (pj_extract (ht rfl) rfl) rfl rfl rfl ?_
      refine jp (pj_extract (ht rfl) rfl) rfl rfl rfl ?_
      refine jp (pa (ht rfl)) rfl rfl rfl ?_
      refine jp (pa (ht rfl)) rfl rfl rfl ?_
      refine j_end ?_
      refine rs ?_
      refine rt ?_
      refine j_buildSlice (T := 5) (R := u8) (.cons (has_un (x := 0#8) rfl) (.cons (has_un (x := 0#8) rfl) (.cons (has_un (x := 0#8) rfl) (.cons (has_un (x := 1#8) rfl) .nil)))) rfl (by kernel_rfl) (by kernel_rfl) rfl fun v3 => ?_
      refine jp (pa (ht rfl)) rfl rfl rfl ?_
      refine j_end ?_
      refine rs ?_
      refine rt ?_
      refine jp (pm (ht rfl)) rfl rfl rfl ?_
      refine jp (pm (ht rfl)) rfl rfl rfl ?_
      obtain ⟨e14, h⟩ := grd_some h
      refine j_append (T := 5) (E := 5) (ht rfl) .here (src_data (ht rfl)) (by kernel_rfl) (by kernel_rfl) e14 rfl fun v4 => ?_
      refine jp (pa (ht rfl)) rfl rfl rfl ?_
      refine j_end ?_
      refine rs ?_
      refine rt ?_
      refine jp (pm (ht rfl)) rfl rfl rfl ?_
      refine jp (pm (ht rfl)) rfl rfl rfl ?_
      obtain ⟨e15, h⟩ := grd_some h
      refine j_append (T := 5) (E := 5) (ht rfl) .here (src_data (ht rfl)) (by kernel_rfl) (by kernel_rfl) e15 rfl fun v5 => ?_
      refine jp (pa (ht rfl)) rfl rfl rfl ?_
      refine j_end ?_
      refine rs ?_
      refine rt ?_
      refine jp (pm (ht rfl)) rfl rfl rfl ?_
      refine jp (pm (ht rfl)) rfl rfl rfl ?_
      obtain ⟨e16, h⟩ := grd_some h
      refine j_append (T := 5) (E := 5) (ht rfl) .here (src_data (ht rfl)) (by kernel_rfl) (by kernel_rfl) e16 rfl fun v6 => ?_
      refine jp (pa (ht rfl)) rfl rfl rfl ?_
      refine jp (pa has_i64) rfl rfl rfl ?_
      refine j_end ?_
      obtain rfl := oi h
      exact run_ret fun a w hst => q_retN hst rfl (.cons (.tmp rfl) <| .cons (.tmp rfl) <| .nil) rfl v6 (fun _ _ h => h) (.cons .here <| .nil)
  · rcases bool_tf (decide (p_n < (0 : Int))) with e1 | e1
    · replace e2 := bt e1 e2
      refine j_guard_no2 (j := 2) (want := false) rfl rfl rfl rfl (bl_isx e1) rfl rfl rfl ?_
      refine j_guard_no2 (j := 2) (want := false) rfl rfl rfl rfl (bl_isx e1) rfl rfl rfl ?_
      refine j_guard_no2 (j := 2) (want := false) rfl rfl rfl rfl (bl_isx e1) rfl rfl rfl ?_
      refine j_guard_no2 (j := 2) (want := false) rfl rfl rfl rfl (bl_isx e1) rfl rfl rfl ?_
      refine j_guard_no2 (j := 2) (want := false) rfl rfl rfl rfl (bl_isx e1) rfl rfl rfl ?_
      refine j_guard_no2 (j := 2) (want := false) rfl rfl rfl rfl (bl_isx e1) rfl rfl rfl ?_
      refine jp (PJ.eqv (R := bl) (pj_pick (t := any) (ht rfl) (fun _ => has_bl) (fun he => absurd (e1.symm.trans he) (by decide))) (oi e2)) rfl rfl rfl ?_
      exact j_to (.cons (.of_lk rfl) <| .cons (.of_lk rfl) <| .cons (.of_lk rfl) <| .cons (.of_lk rfl) <| .cons (.of_lk rfl) <| .cons (.of_lk rfl) <| .cons (.of_lk rfl) <| .nil) (.nil) (J ())
    · replace e2 := bf e1 e2
      refine jy (pm (ht rfl)) rfl rfl rfl rfl (bl_isx e1) rfl rfl ?_
      refine jy (pm (ht rfl)) rfl rfl rfl rfl (bl_isx e1) rfl rfl ?_
      refine jy (pm (ht rfl)) rfl rfl rfl rfl (bl_isx e1) rfl rfl ?_
      refine jy (pm (ht rfl)) rfl rfl rfl rfl (bl_isx e1) rfl rfl ?_
      obtain ⟨r1, e3, e2⟩ := bind_some e2
      refine jy (pj_call (hc (ht rfl) <| hc (ht rfl) <| hc (ht rfl) <| hasL_nil) (by kernel_rfl) (c_rolodexref06_Keys e3)) rfl rfl rfl rfl (bl_isx e1) rfl rfl ?_
      refine jy (pj_igeq (ht rfl) (ht rfl)) rfl rfl rfl rfl (bl_isx e1) rfl rfl ?_
      refine jp (PJ.eqv (R := bl) (pj_pick (t := any) (ht rfl) (fun he => absurd (e1.symm.trans he) (by decide)) (fun _ => (ht rfl))) (oi e2)) rfl rfl rfl ?_
      exact j_to (.cons (.of_lk rfl) <| .cons (.of_lk rfl) <| .cons (.of_lk rfl) <| .cons (.of_lk rfl) <| .cons (.of_lk rfl) <| .cons (.of_lk rfl) <| .cons (.of_lk rfl) <| .nil) (.nil) (J ())
set_option maxRecDepth 100000 in
set_option maxHeartbeats 4000000 in
theorem c_rolodexref01_Same {G : GP} {p_a : List (BitVec 8)} {p_b : List (BitVec 8)} {r : Bool} (h : rolodexref01_Same p_a p_b = some r) : Ctr Tryz.prog G 13 [(sl u8).slot p_a, (sl u8).slot p_b] [] (fun (_ : Unit) => bl.slot r) (fun (_ : Unit) => []) := by
  unfold rolodexref01_Same at h
  refine ctr_of_run Tryz.func13 rfl 26 rfl rfl fun m0 w0 b0 => ?_
  refine run_ret0 fun Qf hq1 hq2 => ?_
  show Run _ _ _ [(0, (sl u8).slot p_a), (1, (sl u8).slot p_b)] _
  refine rs ?_
  refine rt ?_
  refine jp (pa has_bl) rfl rfl rfl ?_
  refine j_end ?_
  refine rs ?_
  refine rs ?_
  refine rt ?_
  refine jp (pm (ht rfl)) rfl rfl rfl ?_
  refine jp (pj_len_sl (sz := 1) (ht rfl) (by kernel_rfl)) rfl rfl rfl ?_
  refine jp (pm (ht rfl)) rfl rfl rfl ?_
  refine jp (pj_len_sl (sz := 1) (ht rfl) (by kernel_rfl)) rfl rfl rfl ?_
  refine jp (pj_ineq (ht rfl) (ht rfl)) rfl rfl rfl ?_
  refine j_end ?_
  refine run_cond (ht rfl) (fun e1 => ?_) (fun e1 => ?_)
  · replace h := bt e1 h
    refine rs ?_
    refine rt ?_
    refine jp (pa has_bl) rfl rfl rfl ?_
    refine j_end ?_
    obtain rfl := oi h
    exact run_ret fun a w hst => q_ret1 hst rfl (.tmp rfl) () (fun _ _ h => h) (.nil)
  · replace h := bf e1 h
    refine run_skip ?_
    refine rs ?_
    refine rs ?_
    refine rt ?_
    refine jp (pa has_i64) rfl rfl rfl ?_
    refine j_end ?_
    obtain ⟨o, e6, h⟩ := bind_some h
    refine run_loop (Γi := fun (i : Unit) (s : Int) => [(0, (sl u8).slot p_a), (1, (sl u8).slot p_b), (5, i64.slot s)]) (Hi := fun (i : Unit) (s : Int) => []) (R := fun x a w => x = r → Qf a w) e6 () (fun a w hst => (hst.sub (.cons (.of_lk rfl) <| .cons (.of_lk rfl) <| .cons (.of_lk rfl) <| .nil)).keep (.nil)) ?_ ?_ ?_
    · clear h e6
      rintro _ y1 lr h
      change rolodexref01_Same_L1 p_a p_b y1 = some _ at h
      show Run _ _ _ [(0, (sl u8).slot p_a), (1, (sl u8).slot p_b), (5, i64.slot y1)] []
      unfold rolodexref01_Same_L1 at h
      refine rs ?_
      refine rs ?_
      refine rt ?_
      refine jp (pm (ht rfl)) rfl rfl rfl ?_
      refine jp (pm (ht rfl)) rfl rfl rfl ?_
      refine jp (pj_len_sl (sz := 1) (ht rfl) (by kernel_rfl)) rfl rfl rfl ?_
      refine jp (pj_ilss (ht rfl) (ht rfl)) rfl rfl rfl ?_
      refine j_end ?_
      refine run_cond (ht rfl) (fun e2 => ?_) (fun e2 => ?_)
      · replace h := bt e2 h
        refine run_skip ?_
        refine rs ?_
        refine run_block ?_
        refine rs ?_
        obtain ⟨x1, e3, h⟩ := bind_some h
        obtain ⟨x2, e4, h⟩ := bind_some h
        refine run_draw (n := 8) (by kernel_rfl) (by kernel_rfl) (by kernel_rfl) (by kernel_rfl) (.read (.plain rfl (pm (ht rfl))) <| .read (.plain rfl (pm (ht rfl))) <| .read (.plain rfl (pj_index_slx (ht rfl) (ht rfl) isInt_i64 e3 (by kernel_rfl))) <| .read (.plain rfl (pl (ht rfl) (by kernel_rfl))) <| .read (.plain rfl (pm (ht rfl))) <| .read (.plain rfl (pm (ht rfl))) <| .read (.plain rfl (pj_index_slx (ht rfl) (ht rfl) isInt_i64 e4 (by kernel_rfl))) <| .read (.plain rfl (pl (ht rfl) (by kernel_rfl))) <| .nil) (j_to (Γ' := [(0, (sl u8).slot p_a), (1, (sl u8).slot p_b), (5, i64.slot y1), (20, u8.slot x1), (24, u8.slot x2)]) (H' := []) (.cons (.of_lk rfl) <| .cons (.of_lk rfl) <| .cons (.of_lk rfl) <| .cons (.of_lk rfl) <| .cons (.of_lk rfl) <| .nil) (.nil) ?_)
        refine jp (pj_uneq (k := .u8) (b := 8) (ht rfl) (ht rfl)) rfl rfl rfl ?_
        refine j_end ?_
        refine run_cond (ht rfl) (fun e5 => ?_) (fun e5 => ?_)
        · replace h := bt e5 h
          refine rs ?_
          refine rt ?_
          refine jp (pa has_bl) rfl rfl rfl ?_
          refine j_end ?_
          obtain rfl := oi h
          refine run_ret fun a w hst => ⟨rfl, fun hr => ?_⟩
          subst hr
          exact hq2 a w (q_ret1 hst rfl (.tmp rfl) () (fun _ _ h => h) (.nil))
        · replace h := bf e5 h
          refine run_skip ?_
          refine run_endblock ?_
          refine rt ?_
          refine jp (pm (ht rfl)) rfl rfl rfl ?_
          refine jp (pj_iadd (ht rfl) has_i64) rfl rfl rfl ?_
          refine jp (pa (ht rfl)) rfl rfl rfl ?_
          refine j_end ?_
          obtain rfl := oi h
          exact run_next () (.cons (.of_lk rfl) <| .cons (.of_lk rfl) <| .cons (.of_lk rfl) <| .nil) (.nil)
      · replace h := bf e2 h
        obtain rfl := oi h
        exact run_brk () (.cons (.of_lk rfl) <| .cons (.of_lk rfl) <| .cons (.of_lk rfl) <| .nil) (.nil)
    · rintro _ y2 ho
      subst ho
      show Run _ _ _ [(0, (sl u8).slot p_a), (1, (sl u8).slot p_b), (5, i64.slot y2)] []
      refine run_to (Γ' := []) (H' := []) (.nil) (.nil) ?_
      refine rs ?_
      refine rt ?_
      refine jp (pa has_bl) rfl rfl rfl ?_
      refine j_end ?_
      obtain rfl := oi h
      exact run_ret fun a w hst => q_ret1 hst rfl (.tmp rfl) () (fun _ _ h => h) (.nil)
    · intro x a w ho hR
      subst ho
      exact hq1 a w (hR (oi h))
set_option maxRecDepth 100000 in
set_option maxHeartbeats 4000000 in
theorem c_wire_New {G : GP} {p_b : List (BitVec 8)} {r : ((List (BitVec 8)) × Bool)} (h : wire_New p_b = some r) : Ctr Tryz.prog G 94 [(sl u8).slot p_b] [] (fun (u0 : Nat) => val (.pointer (some ⟨u0, 0, none⟩))) (fun (u0 : Nat) => [box u0 208 (prod (sl u8) bl) (r.1, r.2)]) := by
  unfold wire_New at h
  refine ctr_of_run Tryz.func94 rfl 7 rfl rfl fun m0 w0 b0 => ?_
  show Run _ _ _ [(0, (sl u8).slot p_b)] _
  refine rs ?_
  refine rt ?_
  refine jp (pa (has_nilp (R := R_wire_Reader))) rfl rfl rfl ?_
  refine j_end ?_
  refine rs ?_
  refine rt ?_
  refine jp (pm (ht rfl)) rfl rfl rfl ?_
  obtain ⟨r1, e1, h⟩ := bind_some h
  refine jp (pj_call (hc (ht rfl) <| hasL_nil) (by kernel_rfl) (Ctr.froze (c_slices_Clone_byte_byte e1))) rfl rfl rfl ?_
  obtain ⟨x1, e2, h⟩ := bind_some h
  refine jp (PJ.eqv (pj_build (R := R_wire_Reader) (zero_prod zero_sl zero_bl) (by kernel_rfl) (by kernel_rfl) rfl (.cons (ht rfl) (Path.fst (sl u8) bl) (by kernel_rfl) .nil)) (oi e2)) rfl rfl rfl ?_
  refine j_box (ht rfl) rfl fun b1 => ?_
  refine jp (pa (ht rfl)) rfl rfl rfl ?_
  refine j_end ?_
  obtain rfl := oi h
  exact run_ret fun a w hst => q_ret1 hst rfl (.tmp rfl) b1 (fun _ _ h => h) (.cons .here <| .nil)
set_option maxRecDepth 100000 in
set_option maxHeartbeats 4000000 in
theorem c_wire_Reader_takes {G : GP} {p_r : (List (BitVec 8)) × Bool} {p_n : Int} {b_r : Nat} {r : ((List (BitVec 8)) × Bool) × (List (BitVec 8))} (h : wire_Reader_takes p_r p_n = some r) : Ctr Tryz.prog G 142 [val (.pointer (some ⟨b_r, 0, none⟩)), i64.slot p_n] [box b_r 208 (prod (sl u8) bl) (p_r.1, p_r.2)] (fun (_ : Unit) => (sl u8).slot r.2) (fun (_ : Unit) => [box b_r 208 (prod (sl u8) bl) (r.1.1, r.1.2)]) := by
  unfold wire_Reader_takes at h
  refine ctr_of_run Tryz.func142 rfl 45 rfl rfl fun m0 w0 b0 => ?_
  show Run _ _ _ [(0, val (.pointer (some ⟨b_r, 0, none⟩))), (1, i64.slot p_n)] _
  refine rs ?_
  refine rt ?_
  refine jp (pa (has_nil (R := u8))) rfl rfl rfl ?_
  refine j_end ?_
  refine rs ?_
  refine rs ?_
  refine rt ?_
  refine jp (pm (ht rfl)) rfl rfl rfl ?_
  refine jp (pj_eq_nil_val (E := 208) (by kernel_rfl) (ht rfl)) rfl rfl rfl ?_
  refine jp (pm (ht rfl)) rfl rfl rfl ?_
  obtain ⟨y1, e2, h⟩ := bind_some h
  refine j_joinx (ι := Unit) (Γ' := fun _ => [(0, val (.pointer (some ⟨b_r, 0, none⟩))), (1, i64.slot p_n), (13, bl.slot y1)]) (H' := fun _ => [box b_r 208 (prod (sl u8) bl) (p_r.1, p_r.2)]) 5 ?_ fun J => ?_
  · intro _
    clear e2
    show OpsJ _ _ _ [(0, val (.pointer (some ⟨b_r, 0, none⟩))), (1, i64.slot p_n), (13, bl.slot y1)] [box b_r 208 (prod (sl u8) bl) (p_r.1, p_r.2)] _
    refine j_end ?_
    refine run_cond (ht rfl) (fun e3 => ?_) (fun e3 => ?_)
    · replace h := bt e3 h
      refine rs ?_
      refine rt ?_
      refine jp (pa (has_nil (R := u8))) rfl rfl rfl ?_
      refine j_end ?_
      obtain rfl := oi h
      exact run_ret fun a w hst => q_ret1 hst rfl (.tmp rfl) () (fun _ _ h => h) (.cons .here <| .nil)
    · replace h := bf e3 h
      refine run_skip ?_
      refine rs ?_
      refine rs ?_
      refine rt ?_
      refine jp (pm (ht rfl)) rfl rfl rfl ?_
      refine jp (pj_ilss (ht rfl) has_i64) rfl rfl rfl ?_
      refine jp (pm (ht rfl)) rfl rfl rfl ?_
      obtain ⟨y2, e5, h⟩ := bind_some h
      refine j_joinx (ι := Unit) (Γ' := fun _ => [(0, val (.pointer (some ⟨b_r, 0, none⟩))), (1, i64.slot p_n), (24, bl.slot y2)]) (H' := fun _ => [box b_r 208 (prod (sl u8) bl) (p_r.1, p_r.2)]) 8 ?_ fun J => ?_
      · intro _
        clear e5
        show OpsJ _ _ _ [(0, val (.pointer (some ⟨b_r, 0, none⟩))), (1, i64.slot p_n), (24, bl.slot y2)] [box b_r 208 (prod (sl u8) bl) (p_r.1, p_r.2)] _
        refine j_end ?_
        refine run_cond (ht rfl) (fun e6 => ?_) (fun e6 => ?_)
        · replace h := bt e6 h
          refine rs ?_
          refine rt ?_
          refine jp (pm (ht rfl)) rfl rfl rfl ?_
          refine jp (pj_nilCheck_ptr (ht rfl)) rfl rfl rfl ?_
          refine jp (pj_field_ptr (off := 1) (ht rfl) (by kernel_rfl)) rfl rfl rfl ?_
          refine j_store_boxx (r' := (p_r.1, true)) (ht rfl) has_bl .here (Path.then (Path.all (prod (sl u8) bl)) (Path.snd (sl u8) bl)) (by kernel_rfl) rfl ?_
          refine j_end ?_
          refine rs ?_
          refine rt ?_
          refine jp (pa (has_nil (R := u8))) rfl rfl rfl ?_
          refine j_end ?_
          obtain rfl := oi h
          exact run_ret fun a w hst => q_ret1 hst rfl (.tmp rfl) () (fun _ _ h => h) (.cons .here <| .nil)
        · replace h := bf e6 h
          refine run_skip ?_
          refine rs ?_
          refine rt ?_
          refine jp (pm (ht rfl)) rfl rfl rfl ?_
          refine jp (pj_nilCheck_ptr (ht rfl)) rfl rfl rfl ?_
          refine jp (pj_field_ptr (off := 0) (ht rfl) (by kernel_rfl)) rfl rfl rfl ?_
          refine jp (pj_load_box (ht rfl) .here (Path.then (Path.all (prod (sl u8) bl)) (Path.fst (sl u8) bl)) (by kernel_rfl)) rfl rfl rfl ?_
          refine jp (pm (ht rfl)) rfl rfl rfl ?_
          refine jp (pm (ht rfl)) rfl rfl rfl ?_
          obtain ⟨x1, e7, h⟩ := bind_some h
          refine jp (pj_slice3 (ht rfl) (ht rfl) (ht rfl) e7 (by kernel_rfl)) rfl rfl rfl ?_
          refine jp (pa (ht rfl)) rfl rfl rfl ?_
          refine j_end ?_
          refine rs ?_
          refine rt ?_
          refine jp (pm (ht rfl)) rfl rfl rfl ?_
          refine jp (pm (ht rfl)) rfl rfl rfl ?_
          refine jp (pj_nilCheck_ptr (ht rfl)) rfl rfl rfl ?_
          refine jp (pj_field_ptr (off := 0) (ht rfl) (by kernel_rfl)) rfl rfl rfl ?_
          refine jp (pj_load_box (ht rfl) .here (Path.then (Path.all (prod (sl u8) bl)) (Path.fst (sl u8) bl)) (by kernel_rfl)) rfl rfl rfl ?_
          refine jp (pm (ht rfl)) rfl rfl rfl ?_
          obtain ⟨x2, e8, h⟩ := bind_some h
          refine jp (pj_slice_slx (ht rfl) (.yes (ht rfl) isInt_i64) .no e8 (by kernel_rfl)) rfl rfl rfl ?_
          refine jp (pj_nilCheck_ptr (ht rfl)) rfl rfl rfl ?_
          refine jp (pj_field_ptr (off := 0) (ht rfl) (by kernel_rfl)) rfl rfl rfl ?_
          refine j_store_boxx (r' := (x2, p_r.2)) (ht rfl) (ht rfl) .here (Path.then (Path.all (prod (sl u8) bl)) (Path.fst (sl u8) bl)) (by kernel_rfl) rfl ?_
          refine j_end ?_
          refine rs ?_
          refine rt ?_
          refine jp (pm (ht rfl)) rfl rfl rfl ?_
          refine jp (pa (ht rfl)) rfl rfl rfl ?_
          refine j_end ?_
          obtain rfl := oi h
          exact run_ret fun a w hst => q_ret1 hst rfl (.tmp rfl) () (fun _ _ h => h) (.cons .here <| .nil)
      · rcases bool_tf (decide (p_n < (0 : Int))) with e4 | e4
        · replace e5 := bt e4 e5
          refine j_guard_no2 (j := 2) (want := false) rfl rfl rfl rfl (bl_isx e4) rfl rfl rfl ?_
          refine j_guard_no2 (j := 2) (want := false) rfl rfl rfl rfl (bl_isx e4) rfl rfl rfl ?_
          refine j_guard_no2 (j := 2) (want := false) rfl rfl rfl rfl (bl_isx e4) rfl rfl rfl ?_
          refine j_guard_no2 (j := 2) (want := false) rfl rfl rfl rfl (bl_isx e4) rfl rfl rfl ?_
          refine j_guard_no2 (j := 2) (want := false) rfl rfl rfl rfl (bl_isx e4) rfl rfl rfl ?_
          refine j_guard_no2 (j := 2) (want := false) rfl rfl rfl rfl (bl_isx e4) rfl rfl rfl ?_
          refine j_guard_no2 (j := 2) (want := false) rfl rfl rfl rfl (bl_isx e4) rfl rfl rfl ?_
          refine jp (PJ.eqv (R := bl) (pj_pick (t := any) (ht rfl) (fun _ => has_bl) (fun he => absurd (e4.symm.trans he) (by decide))) (oi e5)) rfl rfl rfl ?_
          exact j_to (.cons (.of_lk rfl) <| .cons (.of_lk rfl) <| .cons (.of_lk rfl) <| .nil) (.cons .here <| .nil) (J ())
        · replace e5 := bf e4 e5
          refine jy (pm (ht rfl)) rfl rfl rfl rfl (bl_isx e4) rfl rfl ?_
          refine jy (pm (ht rfl)) rfl rfl rfl rfl (bl_isx e4) rfl rfl ?_
          refine jy (pj_nilCheck_ptr (ht rfl)) rfl rfl rfl rfl (bl_isx e4) rfl rfl ?_
          refine jy (pj_field_ptr (off := 0) (ht rfl) (by kernel_rfl)) rfl rfl rfl rfl (bl_isx e4) rfl rfl ?_
          refine jy (pj_load_box (ht rfl) .here (Path.then (Path.all (prod (sl u8) bl)) (Path.fst (sl u8) bl)) (by kernel_rfl)) rfl rfl rfl rfl (bl_isx e4) rfl rfl ?_
          refine jy (pj_len_sl (sz := 1) (ht rfl) (by kernel_rfl)) rfl rfl rfl rfl (bl_isx e4) rfl rfl ?_
          refine jy (pj_igtr (ht rfl) (ht rfl)) rfl rfl rfl rfl (bl_isx e4) rfl rfl ?_
          refine jp (PJ.eqv (R := bl) (pj_pick (t := any) (ht rfl) (fun he => absurd (e4.symm.trans he) (by decide)) (fun _ => (ht rfl))) (oi e5)) rfl rfl rfl ?_
          exact j_to (.cons (.of_lk rfl) <| .cons (.of_lk rfl) <| .cons (.of_lk rfl) <| .nil) (.cons .here <| .nil) (J ())
  · have e1 : (false) = false := rfl
    refine jy (pm (ht rfl)) rfl rfl rfl rfl (bl_isx e1) rfl rfl ?_
    refine jy (pj_nilCheck_ptr (ht rfl)) rfl rfl rfl rfl (bl_isx e1) rfl rfl ?_
    refine jy (pj_field_ptr (off := 1) (ht rfl) (by kernel_rfl)) rfl rfl rfl rfl (bl_isx e1) rfl rfl ?_
    refine jy (pj_load_box (ht rfl) .here (Path.then (Path.all (prod (sl u8) bl)) (Path.snd (sl u8) bl)) (by kernel_rfl)) rfl rfl rfl rfl (bl_isx e1) rfl rfl ?_
    refine jp (PJ.eqv (R := bl) (pj_pick (t := any) (ht rfl) (fun he => absurd (e1.symm.trans he) (by decide)) (fun _ => (ht rfl))) (oi e2)) rfl rfl rfl ?_
    exact j_to (.cons (.of_lk rfl) <| .cons (.of_lk rfl) <| .cons (.of_lk rfl) <| .nil) (.cons .here <| .nil) (J ())
set_option maxRecDepth 100000 in
set_option maxHeartbeats 4000000 in
theorem c_wire_Reader_peek {G : GP} {p_r : (List (BitVec 8)) × Bool} {p_bytes : Int} {b_r : Nat} {c_r : List Value} {r : (BitVec 64) × Bool} (h : wire_Reader_peek p_r p_bytes = some r) : Ctr Tryz.prog G 169 [val (.pointer (some ⟨b_r, 0, none⟩)), i64.slot p_bytes] [box b_r 208 (exr (prod (sl u8) bl) c_r) (p_r.1, p_r.2)] (fun (_ : Unit) => tup [u64.slot r.1, bl.slot r.2]) (fun (_ : Unit) => [box b_r 208 (exr (prod (sl u8) bl) c_r) (p_r.1, p_r.2)]) := by
  unfold wire_Reader_peek at h
  refine ctr_of_run Tryz.func169 rfl 44 rfl rfl fun m0 w0 b0 => ?_
  show Run _ _ _ [(0, val (.pointer (some ⟨b_r, 0, none⟩))), (1, i64.slot p_bytes)] _
  refine rs ?_
  refine rt ?_
  refine jp (PJ.xw (.ex .refl) (pa (has_un (x := 0#64) rfl))) rfl rfl rfl ?_
  refine jp (PJ.xw (.ex .refl) (pa has_bl)) rfl rfl rfl ?_
  refine j_end ?_
  refine rs ?_
  refine rs ?_
  refine rt ?_
  refine jp (PJ.xw (.ex .refl) (pm (ht rfl))) rfl rfl rfl ?_
  refine jp (PJ.xw (.ex .refl) (pj_eq_nil_val (E := 208) (by kernel_rfl) (ht rfl))) rfl rfl rfl ?_
  refine jp (PJ.xw (.ex .refl) (pm (ht rfl))) rfl rfl rfl ?_
  obtain ⟨y1, e2, h⟩ := bind_some h
  refine j_joinx (ι := Unit) (Γ' := fun _ => [(0, val (.pointer (some ⟨b_r, 0, none⟩))), (1, i64.slot p_bytes), (16, bl.slot y1)]) (H' := fun _ => [box b_r 208 (exr (prod (sl u8) bl) c_r) (p_r.1, p_r.2)]) 5 ?_ fun J => ?_
  · intro _
    clear e2
    show OpsJ _ _ _ [(0, val (.pointer (some ⟨b_r, 0, none⟩))), (1, i64.slot p_bytes), (16, bl.slot y1)] [box b_r 208 (exr (prod (sl u8) bl) c_r) (p_r.1, p_r.2)] _
    refine jp (PJ.xw (.ex .refl) (pm (ht rfl))) rfl rfl rfl ?_
    obtain ⟨y2, e4, h⟩ := bind_some h
    refine j_joinx (ι := Unit) (Γ' := fun _ => [(0, val (.pointer (some ⟨b_r, 0, none⟩))), (1, i64.slot p_bytes), (25, bl.slot y2)]) (H' := fun _ => [box b_r 208 (exr (prod (sl u8) bl) c_r) (p_r.1, p_r.2)]) 8 ?_ fun J => ?_
    · intro _
      clear e4
      show OpsJ _ _ _ [(0, val (.pointer (some ⟨b_r, 0, none⟩))), (1, i64.slot p_bytes), (25, bl.slot y2)] [box b_r 208 (exr (prod (sl u8) bl) c_r) (p_r.1, p_r.2)] _
      refine j_end ?_
      refine run_cond (ht rfl) (fun e5 => ?_) (fun e5 => ?_)
      · replace h := bt e5 h
        refine rs ?_
        refine rt ?_
        refine jp (PJ.xw (.ex .refl) (pa (has_un (x := 0#64) rfl))) rfl rfl rfl ?_
        refine jp (PJ.xw (.ex .refl) (pa has_bl)) rfl rfl rfl ?_
        refine j_end ?_
        obtain rfl := oi h
        exact run_ret fun a w hst => q_retN hst rfl (.cons (.tmp rfl) <| .cons (.tmp rfl) <| .nil) rfl () (fun _ _ h => h) (.cons .here <| .nil)
      · replace h := bf e5 h
        refine run_skip ?_
        refine rs ?_
        refine rt ?_
        refine jp (PJ.xw (.ex .refl) (pa (has_un (x := 0#64) rfl))) rfl rfl rfl ?_
        refine j_end ?_
        refine rs ?_
        refine rs ?_
        refine rt ?_
        refine jp (PJ.xw (.ex .refl) (pm (ht rfl))) rfl rfl rfl ?_
        refine jp (PJ.xw (.ex .refl) (pj_nilCheck_ptr (ht rfl))) rfl rfl rfl ?_
        refine jp (PJ.xw (.ex .refl) (pj_field_ptr (off := 0) (ht rfl) (by kernel_rfl))) rfl rfl rfl ?_
        refine jp (PJ.xw (.ex .refl) (pj_load_box (ht rfl) .here (Path.then (Path.all (prod (sl u8) bl)) (Path.fst (sl u8) bl)) (by kernel_rfl))) rfl rfl rfl ?_
        refine jp (PJ.xw (.ex .refl) (pm (ht rfl))) rfl rfl rfl ?_
        obtain ⟨x1, e6, h⟩ := bind_some h
        refine jp (PJ.xw (.ex .refl) (pj_slice_slx (ht rfl) .no (.yes (ht rfl) isInt_i64) e6 (by kernel_rfl))) rfl rfl rfl ?_
        refine jp (PJ.xw (.ex .refl) (pj_len_sl (sz := 1) (ht rfl) (by kernel_rfl))) rfl rfl rfl ?_
        refine jp (PJ.xw (.ex .refl) (pm has_i64)) rfl rfl rfl ?_
        refine j_end ?_
        obtain ⟨⟨y5, y6⟩, e9, h⟩ := bind_some h
        refine run_loopS (Γi := fun (i : Unit) (s : (BitVec 64) × Int) => [(6, u64.slot s.1), (31, (sl u8).slot x1), (32, i64.slot (x1.length : Int)), (33, i64.slot s.2)]) (Hi := fun (i : Unit) (s : (BitVec 64) × Int) => [box b_r 208 (exr (prod (sl u8) bl) c_r) (p_r.1, p_r.2)]) e9 () (fun a w hst => (hst.sub (.cons (.of_lk rfl) <| .cons (.of_lk rfl) <| .cons (.of_lk rfl) <| .cons (.of_lk rfl) <| .nil)).keep (.cons .here <| .nil)) ?_ ?_
        · clear h e9
          rintro _ ⟨y3, y4⟩ lr h
          change wire_Reader_peek_L1 x1 y3 y4 = some _ at h
          show Run _ _ _ [(6, u64.slot y3), (31, (sl u8).slot x1), (32, i64.slot (x1.length : Int)), (33, i64.slot y4)] [box b_r 208 (exr (prod (sl u8) bl) c_r) (p_r.1, p_r.2)]
          unfold wire_Reader_peek_L1 at h
          refine rs ?_
          refine rt ?_
          refine jp (PJ.xw (.ex .refl) (pj_ilss (ht rfl) (ht rfl))) rfl rfl rfl ?_
          refine j_end ?_
          refine rs ?_
          refine run_cond (ht rfl) (fun e7 => ?_) (fun e7 => ?_)
          · replace h := bt e7 h
            refine run_skip ?_
            refine rs ?_
            refine run_block ?_
            refine rs ?_
            refine rt ?_
            obtain ⟨x2, e8, h⟩ := bind_some h
            refine jp (PJ.xw (.ex .refl) (pj_index_slx (ht rfl) (ht rfl) isInt_i64 e8 (by kernel_rfl))) rfl rfl rfl ?_
            refine jp (PJ.xw (.ex .refl) (pl (ht rfl) (by kernel_rfl))) rfl rfl rfl ?_
            refine jp (PJ.xw (.ex .refl) (pa (ht rfl))) rfl rfl rfl ?_
            refine j_end ?_
            refine rt ?_
            refine jp (PJ.xw (.ex .refl) (pm (ht rfl))) rfl rfl rfl ?_
            refine jp (PJ.xw (.ex .refl) (pj_ushl (k := .u64) (b := 64) rfl rfl (ht rfl) (has_un (x := 8#64) rfl) isInt_un (Int.natCast_nonneg _))) rfl rfl rfl ?_
            refine jp (PJ.xw (.ex .refl) (pm (ht rfl))) rfl rfl rfl ?_
            refine jp (PJ.xw (.ex .refl) (pj_conv_uu (k := .u64) (b := 64) rfl rfl (by kernel_rfl) (ht rfl))) rfl rfl rfl ?_
            refine jp (PJ.xw (.ex .refl) (pj_uor (k := .u64) (b := 64) rfl rfl (ht rfl) (ht rfl))) rfl rfl rfl ?_
            refine jp (PJ.xw (.ex .refl) (pa (ht rfl))) rfl rfl rfl ?_
            refine j_end ?_
            refine run_endblock ?_
            refine rt ?_
            refine jp (PJ.xw (.ex .refl) (pj_iadd (ht rfl) has_i64)) rfl rfl rfl ?_
            refine jp (PJ.xw (.ex .refl) (pm (ht rfl))) rfl rfl rfl ?_
            refine j_end ?_
            obtain rfl := oi h
            exact run_next () (.cons (.of_lk rfl) <| .cons (.of_lk rfl) <| .cons (.of_lk rfl) <| .cons (.of_lk rfl) <| .nil) (.cons .here <| .nil)
          · replace h := bf e7 h
            obtain rfl := oi h
            exact run_brk () (.cons (.of_lk rfl) <| .cons (.of_lk rfl) <| .cons (.of_lk rfl) <| .cons (.of_lk rfl) <| .nil) (.cons .here <| .nil)
        · rintro _
          show Run _ _ _ [(6, u64.slot y5), (31, (sl u8).slot x1), (32, i64.slot (x1.length : Int)), (33, i64.slot y6)] [box b_r 208 (exr (prod (sl u8) bl) c_r) (p_r.1, p_r.2)]
          refine run_to (Γ' := [(6, u64.slot y5)]) (H' := [box b_r 208 (exr (prod (sl u8) bl) c_r) (p_r.1, p_r.2)]) (.cons (.of_lk rfl) <| .nil) (.cons .here <| .nil) ?_
          refine rs ?_
          refine rt ?_
          refine jp (PJ.xw (.ex .refl) (pm (ht rfl))) rfl rfl rfl ?_
          refine jp (PJ.xw (.ex .refl) (pa (ht rfl))) rfl rfl rfl ?_
          refine jp (PJ.xw (.ex .refl) (pa has_bl)) rfl rfl rfl ?_
          refine j_end ?_
          obtain rfl := oi h
          exact run_ret fun a w hst => q_retN hst rfl (.cons (.tmp rfl) <| .cons (.tmp rfl) <| .nil) rfl () (fun _ _ h => h) (.cons .here <| .nil)
    · rcases bool_tf (y1) with e3 | e3
      · replace e4 := bt e3 e4
        refine j_guard_no2 (j := 8) (want := false) rfl rfl rfl rfl (bl_isx e3) rfl rfl rfl ?_
        refine j_guard_no2 (j := 8) (want := false) rfl rfl rfl rfl (bl_isx e3) rfl rfl rfl ?_
        refine j_guard_no2 (j := 8) (want := false) rfl rfl rfl rfl (bl_isx e3) rfl rfl rfl ?_
        refine j_guard_no2 (j := 8) (want := false) rfl rfl rfl rfl (bl_isx e3) rfl rfl rfl ?_
        refine j_guard_no2 (j := 8) (want := false) rfl rfl rfl rfl (bl_isx e3) rfl rfl rfl ?_
        refine j_guard_no2 (j := 8) (want := false) rfl rfl rfl rfl (bl_isx e3) rfl rfl rfl ?_
        refine j_guard_no2 (j := 8) (want := false) rfl rfl rfl rfl (bl_isx e3) rfl rfl rfl ?_
        refine jp (PJ.eqv (R := bl) (pj_pick (t := any) (ht rfl) (fun _ => has_bl) (fun he => absurd (e3.symm.trans he) (by decide))) (oi e4)) rfl rfl rfl ?_
        exact j_to (.cons (.of_lk rfl) <| .cons (.of_lk rfl) <| .cons (.of_lk rfl) <| .nil) (.cons .here <| .nil) (J ())
      · replace e4 := bf e3 e4
        refine jy (PJ.xw (.ex .refl) (pm (ht rfl))) rfl rfl rfl rfl (bl_isx e3) rfl rfl ?_
        refine jy (PJ.xw (.ex .refl) (pj_nilCheck_ptr (ht rfl))) rfl rfl rfl rfl (bl_isx e3) rfl rfl ?_
        refine jy (PJ.xw (.ex .refl) (pj_field_ptr (off := 0) (ht rfl) (by kernel_rfl))) rfl rfl rfl rfl (bl_isx e3) rfl rfl ?_
        refine jy (PJ.xw (.ex .refl) (pj_load_box (ht rfl) .here (Path.then (Path.all (prod (sl u8) bl)) (Path.fst (sl u8) bl)) (by kernel_rfl))) rfl rfl rfl rfl (bl_isx e3) rfl rfl ?_
        refine jy (PJ.xw (.ex .refl) (pj_len_sl (sz := 1) (ht rfl) (by kernel_rfl))) rfl rfl rfl rfl (bl_isx e3) rfl rfl ?_
        refine jy (PJ.xw (.ex .refl) (pm (ht rfl))) rfl rfl rfl rfl (bl_isx e3) rfl rfl ?_
        refine jy (PJ.xw (.ex .refl) (pj_ilss (ht rfl) (ht rfl))) rfl rfl rfl rfl (bl_isx e3) rfl rfl ?_
        refine jp (PJ.eqv (R := bl) (pj_pick (t := any) (ht rfl) (fun he => absurd (e3.symm.trans he) (by decide)) (fun _ => (ht rfl))) (oi e4)) rfl rfl rfl ?_
        exact j_to (.cons (.of_lk rfl) <| .cons (.of_lk rfl) <| .cons (.of_lk rfl) <| .nil) (.cons .here <| .nil) (J ())
  · have e1 : (false) = false := rfl
    refine jy (PJ.xw (.ex .refl) (pm (ht rfl))) rfl rfl rfl rfl (bl_isx e1) rfl rfl ?_
    refine jy (PJ.xw (.ex .refl) (pj_nilCheck_ptr (ht rfl))) rfl rfl rfl rfl (bl_isx e1) rfl rfl ?_
    refine jy (PJ.xw (.ex .refl) (pj_field_ptr (off := 1) (ht rfl) (by kernel_rfl))) rfl rfl rfl rfl (bl_isx e1) rfl rfl ?_
    refine jy (PJ.xw (.ex .refl) (pj_load_box (ht rfl) .here (Path.then (Path.all (prod (sl u8) bl)) (Path.snd (sl u8) bl)) (by kernel_rfl))) rfl rfl rfl rfl (bl_isx e1) rfl rfl ?_
    refine jp (PJ.eqv (R := bl) (pj_pick (t := any) (ht rfl) (fun he => absurd (e1.symm.trans he) (by decide)) (fun _ => (ht rfl))) (oi e2)) rfl rfl rfl ?_
    exact j_to (.cons (.of_lk rfl) <| .cons (.of_lk rfl) <| .cons (.of_lk rfl) <| .nil) (.cons .here <| .nil) (J ())
set_option maxRecDepth 100000 in
set_option maxHeartbeats 4000000 in
theorem c_wire_Reader_number {G : GP} {p_r : (List (BitVec 8)) × Bool} {p_bytes : Int} {b_r : Nat} {r : ((List (BitVec 8)) × Bool) × (BitVec 64)} (h : wire_Reader_number p_r p_bytes = some r) : Ctr Tryz.prog G 141 [val (.pointer (some ⟨b_r, 0, none⟩)), i64.slot p_bytes] [box b_r 208 (prod (sl u8) bl) (p_r.1, p_r.2)] (fun (_ : Unit) => u64.slot r.2) (fun (_ : Unit) => [box b_r 208 (prod (sl u8) bl) (r.1.1, r.1.2)]) := by
  unfold wire_Reader_number at h
  refine ctr_of_run Tryz.func141 rfl 19 rfl rfl fun m0 w0 b0 => ?_
  show Run _ _ _ [(0, val (.pointer (some ⟨b_r, 0, none⟩))), (1, i64.slot p_bytes)] _
  refine rs ?_
  refine rt ?_
  refine jp (pa (has_un (x := 0#64) rfl)) rfl rfl rfl ?_
  refine j_end ?_
  refine rs ?_
  refine rt ?_
  refine jp (pm (ht rfl)) rfl rfl rfl ?_
  refine jp (pm (ht rfl)) rfl rfl rfl ?_
  obtain ⟨r1, e1, h⟩ := bind_some h
  refine jp (pj_callR (hc (ht rfl) <| hc (ht rfl) <| hasL_nil) .here (by kernel_rfl) (fun _ => (c_wire_Reader_peek e1))) rfl rfl rfl ?_
  refine jp (pm (ht rfl)) rfl rfl rfl ?_
  refine jp (pj_extract (ht rfl) rfl) rfl rfl rfl ?_
  refine jp (pj_extract (ht rfl) rfl) rfl rfl rfl ?_
  refine jp (pa (ht rfl)) rfl rfl rfl ?_
  refine jp (pa (ht rfl)) rfl rfl rfl ?_
  refine j_end ?_
  refine rs ?_
  refine rs ?_
  refine rt ?_
  refine jp (pm (ht rfl)) rfl rfl rfl ?_
  refine jp (pm (ht rfl)) rfl rfl rfl ?_
  obtain ⟨r2, e2, h⟩ := bind_some h
  refine j_call (hc (ht rfl) <| hc (ht rfl) <| hasL_nil) (by kernel_rfl) (c_wire_Reader_takes e2) (.cons .here <| .nil) rfl fun _ => ?_
  refine j_end ?_
  refine rs ?_
  refine rt ?_
  refine jp (pm (ht rfl)) rfl rfl rfl ?_
  refine jp (pj_not (ht rfl)) rfl rfl rfl ?_
  refine j_end ?_
  refine run_cond (ht rfl) (fun e3 => ?_) (fun e3 => ?_)
  · replace h := bt e3 h
    refine rs ?_
    refine rt ?_
    refine jp (pa (has_un (x := 0#64) rfl)) rfl rfl rfl ?_
    refine j_end ?_
    obtain rfl := oi h
    exact run_ret fun a w hst => q_ret1 hst rfl (.tmp rfl) () (fun _ _ h => h) (.cons .here <| .nil)
  · replace h := bf e3 h
    refine run_skip ?_
    refine rs ?_
    refine rt ?_
    refine jp (pm (ht rfl)) rfl rfl rfl ?_
    refine jp (pa (ht rfl)) rfl rfl rfl ?_
    refine j_end ?_
    obtain rfl := oi h
    exact run_ret fun a w hst => q_ret1 hst rfl (.tmp rfl) () (fun _ _ h => h) (.cons .here <| .nil)
set_option maxRecDepth 100000 in
set_option maxHeartbeats 4000000 in
theorem c_wire_Reader_U32 {G : GP} {p_r : (List (BitVec 8)) × Bool} {b_r : Nat} {r : ((List (BitVec 8)) × Bool) × (BitVec 32)} (h : wire_Reader_U32 p_r = some r) : Ctr Tryz.prog G 95 [val (.pointer (some ⟨b_r, 0, none⟩))] [box b_r 208 (prod (sl u8) bl) (p_r.1, p_r.2)] (fun (_ : Unit) => u32.slot r.2) (fun (_ : Unit) => [box b_r 208 (prod (sl u8) bl) (r.1.1, r.1.2)]) := by
  unfold wire_Reader_U32 at h
  refine ctr_of_run Tryz.func95 rfl 6 rfl rfl fun m0 w0 b0 => ?_
  show Run _ _ _ [(0, val (.pointer (some ⟨b_r, 0, none⟩)))] _
  refine rs ?_
  refine rt ?_
  refine jp (pa (has_un (x := 0#32) rfl)) rfl rfl rfl ?_
  refine j_end ?_
  refine rs ?_
  refine rt ?_
  refine jp (pm (ht rfl)) rfl rfl rfl ?_
  obtain ⟨r1, e1, h⟩ := bind_some h
  refine j_call (hc (ht rfl) <| hc has_i64 <| hasL_nil) (by kernel_rfl) (c_wire_Reader_number e1) (.cons .here <| .nil) rfl fun _ => ?_
  refine jp (pj_conv_uu (k := .u32) (b := 32) rfl rfl (by kernel_rfl) (ht rfl)) rfl rfl rfl ?_
  refine jp (pa (ht rfl)) rfl rfl rfl ?_
  refine j_end ?_
  obtain rfl := oi h
  exact run_ret fun a w hst => q_ret1 hst rfl (.tmp rfl) () (fun _ _ h => h) (.cons .here <| .nil)
set_option maxRecDepth 100000 in
set_option maxHeartbeats 4000000 in
theorem c_wire_Reader_Plain {G : GP} {p_r : (List (BitVec 8)) × Bool} {p_n : Int} {b_r : Nat} {r : ((List (BitVec 8)) × Bool) × (List (BitVec 8))} (h : wire_Reader_Plain p_r p_n = some r) : Ctr Tryz.prog G 96 [val (.pointer (some ⟨b_r, 0, none⟩)), i64.slot p_n] [box b_r 208 (prod (sl u8) bl) (p_r.1, p_r.2)] (fun (_ : Unit) => (sl u8).slot r.2) (fun (_ : Unit) => [box b_r 208 (prod (sl u8) bl) (r.1.1, r.1.2)]) := by
  unfold wire_Reader_Plain at h
  refine ctr_of_run Tryz.func96 rfl 8 rfl rfl fun m0 w0 b0 => ?_
  show Run _ _ _ [(0, val (.pointer (some ⟨b_r, 0, none⟩))), (1, i64.slot p_n)] _
  refine rs ?_
  refine rt ?_
  refine jp (pa (has_nil (R := u8))) rfl rfl rfl ?_
  refine j_end ?_
  refine rs ?_
  refine rt ?_
  refine jp (pm (ht rfl)) rfl rfl rfl ?_
  refine jp (pm (ht rfl)) rfl rfl rfl ?_
  obtain ⟨r1, e1, h⟩ := bind_some h
  refine j_call (hc (ht rfl) <| hc (ht rfl) <| hasL_nil) (by kernel_rfl) (c_wire_Reader_takes e1) (.cons .here <| .nil) rfl fun _ => ?_
  refine jp (pa (ht rfl)) rfl rfl rfl ?_
  refine j_end ?_
  obtain rfl := oi h
  exact run_ret fun a w hst => q_ret1 hst rfl (.tmp rfl) () (fun _ _ h => h) (.cons .here <| .nil)
set_option maxRecDepth 100000 in
set_option maxHeartbeats 4000000 in
theorem c_wire_Reader_Left {G : GP} {p_r : (List (BitVec 8)) × Bool} {b_r : Nat} {c_r : List Value} {r : Int} (h : wire_Reader_Left p_r = some r) : Ctr Tryz.prog G 97 [val (.pointer (some ⟨b_r, 0, none⟩))] [box b_r 208 (exr (prod (sl u8) bl) c_r) (p_r.1, p_r.2)] (fun (_ : Unit) => i64.slot r) (fun (_ : Unit) => [box b_r 208 (exr (prod (sl u8) bl) c_r) (p_r.1, p_r.2)]) := by
  unfold wire_Reader_Left at h
  refine ctr_of_run Tryz.func97 rfl 10 rfl rfl fun m0 w0 b0 => ?_
  show Run _ _ _ [(0, val (.pointer (some ⟨b_r, 0, none⟩)))] _
  refine rs ?_
  refine rt ?_
  refine jp (PJ.xw (.ex .refl) (pa has_i64)) rfl rfl rfl ?_
  refine j_end ?_
  refine rs ?_
  refine rs ?_
  refine rt ?_
  refine jp (PJ.xw (.ex .refl) (pm (ht rfl))) rfl rfl rfl ?_
  refine jp (PJ.xw (.ex .refl) (pj_eq_nil_val (E := 208) (by kernel_rfl) (ht rfl))) rfl rfl rfl ?_
  refine j_end ?_
  refine run_cond_f (ht rfl) rfl ?_
  refine run_skip ?_
  refine rs ?_
  refine rt ?_
  refine jp (PJ.xw (.ex .refl) (pm (ht rfl))) rfl rfl rfl ?_
  refine jp (PJ.xw (.ex .refl) (pj_nilCheck_ptr (ht rfl))) rfl rfl rfl ?_
  refine jp (PJ.xw (.ex .refl) (pj_field_ptr (off := 0) (ht rfl) (by kernel_rfl))) rfl rfl rfl ?_
  refine jp (PJ.xw (.ex .refl) (pj_load_box (ht rfl) .here (Path.then (Path.all (prod (sl u8) bl)) (Path.fst (sl u8) bl)) (by kernel_rfl))) rfl rfl rfl ?_
  refine jp (PJ.xw (.ex .refl) (pj_len_sl (sz := 1) (ht rfl) (by kernel_rfl))) rfl rfl rfl ?_
  refine jp (PJ.xw (.ex .refl) (pa (ht rfl))) rfl rfl rfl ?_
  refine j_end ?_
  obtain rfl := oi h
  exact run_ret fun a w hst => q_ret1 hst rfl (.tmp rfl) () (fun _ _ h => h) (.cons .here <| .nil)
set_option maxRecDepth 100000 in
set_option maxHeartbeats 4000000 in
theorem c_wire_Reader_Fails {G : GP} {p_r : (List (BitVec 8)) × Bool} {b_r : Nat} {c_r : List Value} {r : Bool} (h : wire_Reader_Fails p_r = some r) : Ctr Tryz.prog G 98 [val (.pointer (some ⟨b_r, 0, none⟩))] [box b_r 208 (exr (prod (sl u8) bl) c_r) (p_r.1, p_r.2)] (fun (_ : Unit) => bl.slot r) (fun (_ : Unit) => [box b_r 208 (exr (prod (sl u8) bl) c_r) (p_r.1, p_r.2)]) := by
  unfold wire_Reader_Fails at h
  refine ctr_of_run Tryz.func98 rfl 11 rfl rfl fun m0 w0 b0 => ?_
  show Run _ _ _ [(0, val (.pointer (some ⟨b_r, 0, none⟩)))] _
  refine rs ?_
  refine rt ?_
  refine jp (PJ.xw (.ex .refl) (pa has_bl)) rfl rfl rfl ?_
  refine j_end ?_
  refine rs ?_
  refine rt ?_
  refine jp (PJ.xw (.ex .refl) (pm (ht rfl))) rfl rfl rfl ?_
  refine jp (PJ.xw (.ex .refl) (pj_eq_nil_val (E := 208) (by kernel_rfl) (ht rfl))) rfl rfl rfl ?_
  refine jp (PJ.xw (.ex .refl) (pm (ht rfl))) rfl rfl rfl ?_
  obtain ⟨y1, e2, h⟩ := bind_some h
  refine j_joinx (ι := Unit) (Γ' := fun _ => [(10, bl.slot y1)]) (H' := fun _ => [box b_r 208 (exr (prod (sl u8) bl) c_r) (p_r.1, p_r.2)]) 5 ?_ fun J => ?_
  · intro _
    clear e2
    show OpsJ _ _ _ [(10, bl.slot y1)] [box b_r 208 (exr (prod (sl u8) bl) c_r) (p_r.1, p_r.2)] _
    refine jp (PJ.xw (.ex .refl) (pa (ht rfl))) rfl rfl rfl ?_
    refine j_end ?_
    obtain rfl := oi h
    exact run_ret fun a w hst => q_ret1 hst rfl (.tmp rfl) () (fun _ _ h => h) (.cons .here <| .nil)
  · have e1 : (false) = false := rfl
    refine jy (PJ.xw (.ex .refl) (pm (ht rfl))) rfl rfl rfl rfl (bl_isx e1) rfl rfl ?_
    refine jy (PJ.xw (.ex .refl) (pj_nilCheck_ptr (ht rfl))) rfl rfl rfl rfl (bl_isx e1) rfl rfl ?_
    refine jy (PJ.xw (.ex .refl) (pj_field_ptr (off := 1) (ht rfl) (by kernel_rfl))) rfl rfl rfl rfl (bl_isx e1) rfl rfl ?_
    refine jy (PJ.xw (.ex .refl) (pj_load_box (ht rfl) .here (Path.then (Path.all (prod (sl u8) bl)) (Path.snd (sl u8) bl)) (by kernel_rfl))) rfl rfl rfl rfl (bl_isx e1) rfl rfl ?_
    refine jp (PJ.eqv (R := bl) (pj_pick (t := any) (ht rfl) (fun he => absurd (e1.symm.trans he) (by decide)) (fun _ => (ht rfl))) (oi e2)) rfl rfl rfl ?_
    exact j_to (.cons (.of_lk rfl) <| .nil) (.cons .here <| .nil) (J ())
set_option maxRecDepth 100000 in
set_option maxHeartbeats 4000000 in
theorem c_wire_Reader_Done {G : GP} {p_r : (List (BitVec 8)) × Bool} {b_r : Nat} {c_r : List Value} {r : Bool} (h : wire_Reader_Done p_r = some r) : Ctr Tryz.prog G 170 [val (.pointer (some ⟨b_r, 0, none⟩))] [box b_r 208 (exr (prod (sl u8) bl) c_r) (p_r.1, p_r.2)] (fun (_ : Unit) => bl.slot r) (fun (_ : Unit) => [box b_r 208 (exr (prod (sl u8) bl) c_r) (p_r.1, p_r.2)]) := by
  unfold wire_Reader_Done at h
  refine ctr_of_run Tryz.func170 rfl 11 rfl rfl fun m0 w0 b0 => ?_
  show Run _ _ _ [(0, val (.pointer (some ⟨b_r, 0, none⟩)))] _
  refine rs ?_
  refine rt ?_
  refine jp (PJ.xw (.ex .refl) (pa has_bl)) rfl rfl rfl ?_
  refine j_end ?_
  refine rs ?_
  refine rt ?_
  refine jp (PJ.xw (.ex .refl) (pm (ht rfl))) rfl rfl rfl ?_
  obtain ⟨r1, e1, h⟩ := bind_some h
  refine jp (PJ.xw (.ex .refl) (pj_callR (hc (ht rfl) <| hasL_nil) .here (by kernel_rfl) (fun _ => (c_wire_Reader_Fails e1)))) rfl rfl rfl ?_
  refine jp (PJ.xw (.ex .refl) (pj_not (ht rfl))) rfl rfl rfl ?_
  refine jp (PJ.xw (.ex .refl) (pm (ht rfl))) rfl rfl rfl ?_
  obtain ⟨y1, e3, h⟩ := bind_some h
  refine j_joinx (ι := Unit) (Γ' := fun _ => [(10, bl.slot y1)]) (H' := fun _ => [box b_r 208 (exr (prod (sl u8) bl) c_r) (p_r.1, p_r.2)]) 4 ?_ fun J => ?_
  · intro _
    clear e3
    show OpsJ _ _ _ [(10, bl.slot y1)] [box b_r 208 (exr (prod (sl u8) bl) c_r) (p_r.1, p_r.2)] _
    refine jp (PJ.xw (.ex .refl) (pa (ht rfl))) rfl rfl rfl ?_
    refine j_end ?_
    obtain rfl := oi h
    exact run_ret fun a w hst => q_ret1 hst rfl (.tmp rfl) () (fun _ _ h => h) (.cons .here <| .nil)
  · rcases bool_tf (!r1) with e2 | e2
    · replace e3 := bt e2 e3
      refine jy (PJ.xw (.ex .refl) (pm (ht rfl))) rfl rfl rfl rfl (bl_isx e2) rfl rfl ?_
      obtain ⟨r2, e4, e3⟩ := bind_some e3
      refine jy (PJ.xw (.ex .refl) (pj_callR (hc (ht rfl) <| hasL_nil) .here (by kernel_rfl) (fun _ => (c_wire_Reader_Left e4)))) rfl rfl rfl rfl (bl_isx e2) rfl rfl ?_
      refine jy (PJ.xw (.ex .refl) (pj_ieql (ht rfl) has_i64)) rfl rfl rfl rfl (bl_isx e2) rfl rfl ?_
      refine jp (PJ.eqv (R := bl) (pj_pick (t := any) (ht rfl) (fun _ => (ht rfl)) (fun he => absurd (e2.symm.trans he) (by decide))) (oi e3)) rfl rfl rfl ?_
      exact j_to (.cons (.of_lk rfl) <| .nil) (.cons .here <| .nil) (J ())
    · replace e3 := bf e2 e3
      refine j_guard_no2 (j := 3) (want := true) rfl rfl rfl rfl (bl_isx e2) rfl rfl rfl ?_
      refine j_guard_no2 (j := 3) (want := true) rfl rfl rfl rfl (bl_isx e2) rfl rfl rfl ?_
      refine j_guard_no2 (j := 3) (want := true) rfl rfl rfl rfl (bl_isx e2) rfl rfl rfl ?_
      refine jp (PJ.eqv (R := bl) (pj_pick (t := any) (ht rfl) (fun he => absurd (e2.symm.trans he) (by decide)) (fun _ => has_bl)) (oi e3)) rfl rfl rfl ?_
      exact j_to (.cons (.of_lk rfl) <| .nil) (.cons .here <| .nil) (J ())
set_option maxRecDepth 100000 in
set_option maxHeartbeats 4000000 in
theorem c_lms_parted {G : GP} (hg0 : HG0 G) {p_b : List (BitVec 8)} {p_height : Int} {p_kind : Int} {r : T_lms_signature × Bool} (h : lms_parted p_b p_height p_kind = some r) : Ctr Tryz.prog G 143 [(sl u8).slot p_b, i64.slot p_height, i64.slot p_kind] [] (fun (_ : Unit) => tup [R_lms_signature.slot r.1, bl.slot r.2]) (fun (_ : Unit) => []) := by
  unfold lms_parted at h
  refine ctr_of_run Tryz.func143 rfl 68 rfl rfl fun m0 w0 b0 => ?_
  show Run _ _ _ [(0, (sl u8).slot p_b), (1, i64.slot p_height), (2, i64.slot p_kind)] _
  refine rs ?_
  refine rt ?_
  refine j_alloc (x := (0, ([] : List (BitVec 8)), ([] : List T_api_Hash))) (R := R_lms_signature) (zero_prod zero_i64 (zero_prod zero_sl zero_sl)) (by kernel_rfl) rfl fun b1 => ?_
  refine jp (pa has_bl) rfl rfl rfl ?_
  refine j_end ?_
  refine rs ?_
  refine rs ?_
  refine rt ?_
  refine jp (pm (ht rfl)) rfl rfl rfl ?_
  refine jp (pj_len_sl (sz := 1) (ht rfl) (by kernel_rfl)) rfl rfl rfl ?_
  refine jp (pm (ht rfl)) rfl rfl rfl ?_
  refine jp (pm (ht rfl)) rfl rfl rfl ?_
  obtain ⟨r1, e1, h⟩ := bind_some h
  refine jp (pj_call (hc (ht rfl) <| hc (ht rfl) <| hasL_nil) (by kernel_rfl) (c_lms_Size hg0 e1)) rfl rfl rfl ?_
  refine jp (pj_ineq (ht rfl) (ht rfl)) rfl rfl rfl ?_
  refine j_end ?_
  refine run_cond (ht rfl) (fun e2 => ?_) (fun e2 => ?_)
  · replace h := bt e2 h
    refine rs ?_
    refine rt ?_
    refine jp (pj_build (R := R_lms_signature) (zero_prod zero_i64 (zero_prod zero_sl zero_sl)) (by kernel_rfl) (by kernel_rfl) rfl .nil) rfl rfl rfl ?_
    obtain ⟨x1, e3, h⟩ := bind_some h
    refine j_store_boxx (r' := x1) (ht rfl) (ht rfl) .here (Path.all R_lms_signature) (by kernel_rfl) (oi e3) ?_
    refine jp (pa has_bl) rfl rfl rfl ?_
    refine j_end ?_
    obtain rfl := oi h
    exact run_ret fun a w hst => q_retN hst rfl (.cons (.cell rfl .here (by kernel_rfl)) <| .cons (.tmp rfl) <| .nil) rfl () (fun _ _ h => h) (.nil)
  · replace h := bf e2 h
    refine run_skip ?_
    refine rs ?_
    refine rt ?_
    refine jp (pm (ht rfl)) rfl rfl rfl ?_
    obtain ⟨r2, e4, h⟩ := bind_some h
    refine j_call (hc (ht rfl) <| hasL_nil) (by kernel_rfl) (c_wire_New e4) .nil rfl fun b2 => ?_
    refine jp (pa (ht rfl)) rfl rfl rfl ?_
    refine j_end ?_
    refine rs ?_
    refine rt ?_
    refine jp (pm (ht rfl)) rfl rfl rfl ?_
    obtain ⟨r3, e5, h⟩ := bind_some h
    refine j_call (hc (ht rfl) <| hasL_nil) (by kernel_rfl) (c_wire_Reader_U32 e5) (.cons .here <| .nil) rfl fun _ => ?_
    refine jp (pj_conv_ui (by decide) (by kernel_rfl) (ht rfl)) rfl rfl rfl ?_
    refine jp (pm (ht rfl)) rfl rfl rfl ?_
    refine jp (pm (ht rfl)) rfl rfl rfl ?_
    obtain ⟨r4, e6, h⟩ := bind_some h
    refine jp (pj_call (hc (ht rfl) <| hasL_nil) (by kernel_rfl) (c_lmots_Size hg0 e6)) rfl rfl rfl ?_
    obtain ⟨r5, e7, h⟩ := bind_some h
    refine j_call (hc (ht rfl) <| hc (ht rfl) <| hasL_nil) (by kernel_rfl) (c_wire_Reader_Plain e7) (.cons .here <| .nil) rfl fun _ => ?_
    refine j_own_nil 23 R_api_Hash none (jp (pj_buildX (R := (prod i64 (prod (sl u8) (exv (.slice none 0 0))))) (x := (0, ([] : List (BitVec 8)), ())) (zero_prod zero_i64 (zero_prod zero_sl zero_exv)) (by kernel_rfl) (by kernel_rfl) rfl (.cons (ht rfl) (sx_pathx (x1 := ((r3.2.toNat : Int), ([] : List (BitVec 8)), ())) (Path.fst i64 (prod (sl u8) (exv (.slice none 0 0)))) rfl) (by kernel_rfl) (.cons (ht rfl) (sx_pathx (x1 := ((r3.2.toNat : Int), r5.2, ())) (Path.then (Path.snd i64 (prod (sl u8) (exv (.slice none 0 0)))) (Path.fst (sl u8) (exv (.slice none 0 0)))) rfl) (by kernel_rfl) .nil))) rfl rfl rfl ?_)
    refine j_alloc (x := (0, ([] : List (BitVec 8)), ())) (R := (prod i64 (prod (sl u8) (exv (.slice none 0 0))))) (zero_prod zero_i64 (zero_prod zero_sl zero_exv)) (by kernel_rfl) rfl fun b3 => ?_
    refine j_store_all (ht rfl) (ht rfl) .here (by kernel_rfl) (by kernel_rfl) ?_
    refine j_end ?_
    refine rs ?_
    refine rt ?_
    refine jp (pm (ht rfl)) rfl rfl rfl ?_
    obtain ⟨r6, e8, h⟩ := bind_some h
    refine j_call (hc (ht rfl) <| hasL_nil) (by kernel_rfl) (c_wire_Reader_U32 e8) (.cons (.next (.next .here)) <| .nil) rfl fun _ => ?_
    refine jp (pj_conv_ui (by decide) (by kernel_rfl) (ht rfl)) rfl rfl rfl ?_
    refine jp (pa (ht rfl)) rfl rfl rfl ?_
    refine j_end ?_
    refine rs ?_
    refine rs ?_
    refine rt ?_
    refine jp (pm (ht rfl)) rfl rfl rfl ?_
    refine jp (pm has_i64) rfl rfl rfl ?_
    refine j_end ?_
    obtain ⟨⟨y5, y6, y7, y8⟩, e13, h⟩ := bind_some h
    refine run_loopS (Γi := fun (i : Value) (s : Int × (List (BitVec 8)) × Bool × (List T_api_Hash)) => [(1, i64.slot p_height), (2, i64.slot p_kind), (6, val (.pointer (some ⟨b1, 0, none⟩))), (8, val (.pointer (some ⟨b2, 0, none⟩))), (9, val (.pointer (some ⟨b3, 0, none⟩))), (10, i64.slot (r6.2.toNat : Int)), (31, i64.slot p_height), (32, i64.slot s.1)]) (Hi := fun (i : Value) (s : Int × (List (BitVec 8)) × Bool × (List T_api_Hash)) => [box b2 208 (prod (sl u8) bl) (s.2.1, s.2.2.1), box b3 211 (prod i64 (prod (sl u8) (exv i))) ((r3.2.toNat : Int), r5.2, ()), own 23 R_api_Hash i s.2.2.2, box b1 211 R_lms_signature (0, ([] : List (BitVec 8)), ([] : List T_api_Hash))]) e13 (.slice none 0 0) (fun a w hst => (hst.sub (.cons (.of_lk rfl) <| .cons (.of_lk rfl) <| .cons (.of_lk rfl) <| .cons (.of_lk rfl) <| .cons (.of_lk rfl) <| .cons (.of_lk rfl) <| .cons (.of_lk rfl) <| .cons (.of_lk rfl) <| .nil)).keep (.cons .here <| .cons .here <| .cons .here <| .cons .here <| .nil)) ?_ ?_
    · clear h e13
      rintro v1 ⟨y1, y2, y3, y4⟩ lr h
      change lms_parted_L1 p_height y1 y2 y3 y4 = some _ at h
      show Run _ _ _ [(1, i64.slot p_height), (2, i64.slot p_kind), (6, val (.pointer (some ⟨b1, 0, none⟩))), (8, val (.pointer (some ⟨b2, 0, none⟩))), (9, val (.pointer (some ⟨b3, 0, none⟩))), (10, i64.slot (r6.2.toNat : Int)), (31, i64.slot p_height), (32, i64.slot y1)] [box b2 208 (prod (sl u8) bl) (y2, y3), box b3 211 (prod i64 (prod (sl u8) (exv v1))) ((r3.2.toNat : Int), r5.2, ()), own 23 R_api_Hash v1 y4, box b1 211 R_lms_signature (0, ([] : List (BitVec 8)), ([] : List T_api_Hash))]
      unfold lms_parted_L1 at h
      refine rs ?_
      refine rt ?_
      refine jp (pj_ilss (ht rfl) (ht rfl)) rfl rfl rfl ?_
      refine j_end ?_
      refine rs ?_
      refine run_cond (ht rfl) (fun e9 => ?_) (fun e9 => ?_)
      · replace h := bt e9 h
        refine run_skip ?_
        refine rs ?_
        refine run_block ?_
        obtain ⟨r7, e10, h⟩ := bind_some h
        obtain ⟨x2, e11, h⟩ := bind_some h
        refine run_keep (H' := [box b2 208 (prod (sl u8) bl) (y2, y3), box b3 211 (prod i64 (prod (sl u8) (exv v1))) ((r3.2.toNat : Int), r5.2, ()), own 23 R_api_Hash v1 y4, box b1 211 R_lms_signature (0, ([] : List (BitVec 8)), ([] : List T_api_Hash))]) (.cons .here <| .cons .here <| .cons .here <| .cons .here <| .nil) ?_
        refine run_drawL (n := 7) (H := [box b3 211 (prod i64 (prod (sl u8) (exv v1))) ((r3.2.toNat : Int), r5.2, ()), own 23 R_api_Hash v1 y4, box b1 211 R_lms_signature (0, ([] : List (BitVec 8)), ([] : List T_api_Hash))]) (Ls := [⟨[box b2 208 (prod (sl u8) bl) (y2, y3)], [(3, ⟨Unit, fun (_ : Unit) => [box b2 208 (prod (sl u8) bl) (r7.1.1, r7.1.2)], fun (_ : Unit) => [(37, (sl u8).slot r7.2)]⟩)]⟩]) (by kernel_rfl) (by kernel_rfl) (by kernel_rfl) (by kernel_rfl) (by kernel_rfl) rfl (.read rfl (.plain rfl (pj_field_ptr (off := 2) (ht rfl) (by kernel_rfl))) <| .read rfl (.plain rfl (pj_load_box (ht rfl) .here (Path.then (Path.all (prod i64 (prod (sl u8) (exv v1)))) (Path.then (Path.snd i64 (prod (sl u8) (exv v1))) (Path.snd (sl u8) (exv v1)))) (by kernel_rfl))) <| .read rfl (.plain rfl (pm (ht rfl))) <| .step 0 rfl .here (.inl rfl) (fun i => ⟨_, _, fun _ => (), (w_call (hc (ht rfl) <| hc has_i64 <| hasL_nil) (by kernel_rfl) (c_wire_Reader_Plain e10) (.cons .here <| .nil) rfl), fun _ => rfl, slotIs, dst1⟩) <| .read rfl (.plain rfl (pj_s2apx (e := 5) (ht rfl) e11 rfl (by kernel_rfl))) <| .read rfl (.plain rfl (pl (ht rfl) (by kernel_rfl))) <| .read rfl (.plain rfl (pj_buildSlice (T := 23) (R := R_api_Hash) (.cons (ht rfl) .nil) rfl (by kernel_rfl) (by kernel_rfl))) <| .nil) ?_
        rintro _
        refine j_to (Γ' := [(1, i64.slot p_height), (2, i64.slot p_kind), (6, val (.pointer (some ⟨b1, 0, none⟩))), (8, val (.pointer (some ⟨b2, 0, none⟩))), (9, val (.pointer (some ⟨b3, 0, none⟩))), (10, i64.slot (r6.2.toNat : Int)), (31, i64.slot p_height), (32, i64.slot y1), (35, ov v1), (40, (sl R_api_Hash).slot ([x2]))]) (H' := [box b2 208 (prod (sl u8) bl) (r7.1.1, r7.1.2), box b3 211 (prod i64 (prod (sl u8) (exv v1))) ((r3.2.toNat : Int), r5.2, ()), own 23 R_api_Hash v1 y4, box b1 211 R_lms_signature (0, ([] : List (BitVec 8)), ([] : List T_api_Hash))]) (.cons (.of_lk rfl) <| .cons (.of_lk rfl) <| .cons (.of_lk rfl) <| .cons (.of_lk rfl) <| .cons (.of_lk rfl) <| .cons (.of_lk rfl) <| .cons (.of_lk rfl) <| .cons (.of_lk rfl) <| .cons (.of_lk rfl) <| .cons (.of_lk rfl) <| .nil) (.cons .here <| .cons .here <| .cons .here <| .cons .here <| .nil) ?_
        obtain ⟨e12, h⟩ := grd_some h
        refine j_append (T := 23) (E := 23) (ht rfl) (.next (.next .here)) (src_data (ht rfl)) (by kernel_rfl) (by kernel_rfl) e12 rfl fun v2 => ?_
        refine jp (pj_field_ptr (off := 2) (ht rfl) (by kernel_rfl)) rfl rfl rfl ?_
        refine j_store_se ((r3.2.toNat : Int), r5.2, ()) (ht rfl) (ht rfl) (.next (.next .here)) (se_snd i64 (r3.2.toNat : Int) (se_snd (sl u8) r5.2 se_here)) (by kernel_rfl) ?_
        refine j_end ?_
        refine run_endblock ?_
        refine rt ?_
        refine jp (pj_iadd (ht rfl) has_i64) rfl rfl rfl ?_
        refine jp (pm (ht rfl)) rfl rfl rfl ?_
        refine j_end ?_
        obtain rfl := oi h
        exact run_next v2 (.cons (.of_lk rfl) <| .cons (.of_lk rfl) <| .cons (.of_lk rfl) <| .cons (.of_lk rfl) <| .cons (.of_lk rfl) <| .cons (.of_lk rfl) <| .cons (.of_lk rfl) <| .cons (.of_lk rfl) <| .nil) (.cons (.next (.next .here)) <| .cons .here <| .cons .here <| .cons .here <| .nil)
      · replace h := bf e9 h
        obtain rfl := oi h
        exact run_brk v1 (.cons (.of_lk rfl) <| .cons (.of_lk rfl) <| .cons (.of_lk rfl) <| .cons (.of_lk rfl) <| .cons (.of_lk rfl) <| .cons (.of_lk rfl) <| .cons (.of_lk rfl) <| .cons (.of_lk rfl) <| .nil) (.cons .here <| .cons .here <| .cons .here <| .cons .here <| .nil)
    · rintro v3
      show Run _ _ _ [(1, i64.slot p_height), (2, i64.slot p_kind), (6, val (.pointer (some ⟨b1, 0, none⟩))), (8, val (.pointer (some ⟨b2, 0, none⟩))), (9, val (.pointer (some ⟨b3, 0, none⟩))), (10, i64.slot (r6.2.toNat : Int)), (31, i64.slot p_height), (32, i64.slot y5)] [box b2 208 (prod (sl u8) bl) (y6, y7), box b3 211 (prod i64 (prod (sl u8) (exv v3))) ((r3.2.toNat : Int), r5.2, ()), own 23 R_api_Hash v3 y8, box b1 211 R_lms_signature (0, ([] : List (BitVec 8)), ([] : List T_api_Hash))]
      refine run_to (Γ' := [(1, i64.slot p_height), (2, i64.slot p_kind), (6, val (.pointer (some ⟨b1, 0, none⟩))), (8, val (.pointer (some ⟨b2, 0, none⟩))), (9, val (.pointer (some ⟨b3, 0, none⟩))), (10, i64.slot (r6.2.toNat : Int))]) (H' := [box b2 208 (prod (sl u8) bl) (y6, y7), box b3 211 (prod i64 (prod (sl u8) (exv v3))) ((r3.2.toNat : Int), r5.2, ()), own 23 R_api_Hash v3 y8, box b1 211 R_lms_signature (0, ([] : List (BitVec 8)), ([] : List T_api_Hash))]) (.cons (.of_lk rfl) <| .cons (.of_lk rfl) <| .cons (.of_lk rfl) <| .cons (.of_lk rfl) <| .cons (.of_lk rfl) <| .cons (.of_lk rfl) <| .nil) (.cons .here <| .cons .here <| .cons .here <| .cons .here <| .nil) ?_
      refine rs ?_
      refine run_freezeIn ((r3.2.toNat : Int), r5.2, y8) (.next (.next .here)) (.next .here) (cv_snd i64 (r3.2.toNat : Int) (cv_snd (sl u8) r5.2 cv_at)) ?_
      obtain ⟨r8, e14, h⟩ := bind_some h
      obtain ⟨y9, e16, h⟩ := bind_some h
      obtain ⟨y10, e18, h⟩ := bind_some h
      obtain ⟨y11, e21, h⟩ := bind_some h
      refine run_keep (H' := [box b1 211 R_lms_signature (0, ([] : List (BitVec 8)), ([] : List T_api_Hash)), box b3 211 R_lms_signature ((r3.2.toNat : Int), r5.2, y8), box b2 208 (prod (sl u8) bl) (y6, y7)]) (.cons (.next (.next .here)) <| .cons .here <| .cons .here <| .nil) ?_
      refine (run_drawJ (n := 25) (Γ' := [(6, val (.pointer (some ⟨b1, 0, none⟩))), (67, bl.slot y11)]) (H' := [box b1 211 R_lms_signature ((r3.2.toNat : Int), r5.2, y8)]) ?_ fun J => ?_)
      · clear e16 e18 e21
        refine jp (pa (ht rfl)) rfl rfl rfl ?_
        refine j_end ?_
        obtain rfl := oi h
        exact run_ret fun a w hst => q_retN hst rfl (.cons (.cell rfl .here (by kernel_rfl)) <| .cons (.tmp rfl) <| .nil) rfl () (fun _ _ h => h) (.nil)
      · rcases bool_tf (r8) with e15 | e15
        · replace e16 := bt e15 e16
          rcases bool_tf (y9) with e17 | e17
          · replace e18 := bt e17 e18
            obtain ⟨e19, e18⟩ := grd_some e18
            rcases bool_tf (y10) with e20 | e20
            · replace e21 := bt e20 e21
              obtain ⟨r9, e22, e21⟩ := bind_some e21
              obtain ⟨r10, e23, e21⟩ := bind_some e21
              exact run_drawL (n := 25) (H := [box b3 211 R_lms_signature ((r3.2.toNat : Int), r5.2, y8), box b2 208 (prod (sl u8) bl) (y6, y7)]) (Ls := [⟨[box b1 211 R_lms_signature (0, ([] : List (BitVec 8)), ([] : List T_api_Hash))], [(24, ⟨Unit, fun (_ : Unit) => [box b1 211 R_lms_signature ((r3.2.toNat : Int), r5.2, y8)], fun (_ : Unit) => []⟩)]⟩, ⟨[], [(18, ⟨Nat, fun (b4 : Nat) => [box b4 208 (prod (sl u8) bl) (r9.1, r9.2)], fun (b4 : Nat) => [(62, val (.pointer (some ⟨b4, 0, none⟩)))]⟩), (19, ⟨Nat, fun (b4 : Nat) => [box b4 208 (prod (sl u8) bl) (r10.1.1, r10.1.2)], fun (b4 : Nat) => [(63, u32.slot r10.2), (62, val (.pointer (some ⟨b4, 0, none⟩)))]⟩)]⟩]) (by kernel_rfl) (by kernel_rfl) (by kernel_rfl) (by kernel_rfl) (by kernel_rfl) rfl (.read rfl (.plain rfl (pj_load_box (ht rfl) .here (Path.all R_lms_signature) (by kernel_rfl))) <| .read rfl (.plain rfl (pm (ht rfl))) <| .read rfl (.plain rfl (pj_callR (hc (ht rfl) <| hasL_nil) (.next .here) (by kernel_rfl) (fun _ => (c_wire_Reader_Done e14)))) <| .read rfl (.plain rfl (pm (ht rfl))) <| .read rfl (.yes ⟨3, true, _, 47, _, rfl, rfl, rfl, fun _ _ => bl_p.1, gd_yes e15⟩ (pm (ht rfl))) <| .read rfl (.yes ⟨3, true, _, 47, _, rfl, rfl, rfl, fun _ _ => bl_p.1, gd_yes e15⟩ (pm (ht rfl))) <| .read rfl (.yes ⟨3, true, _, 47, _, rfl, rfl, rfl, fun _ _ => bl_p.1, gd_yes e15⟩ (pj_ieql (ht rfl) (ht rfl))) <| .read rfl (.plain rfl (PJ.eqv (R := bl) (pj_pick (t := any) (ht rfl) (fun _ => (ht rfl)) (fun he => absurd (e15.symm.trans he) (by decide))) (oi e16))) <| .read rfl (.plain rfl (pm (ht rfl))) <| .read rfl (.yes ⟨8, true, _, 52, _, rfl, rfl, rfl, fun _ _ => bl_p.1, gd_yes e17⟩ (pj_field_ptr (off := 0) (ht rfl) (by kernel_rfl))) <| .read rfl (.yes ⟨8, true, _, 52, _, rfl, rfl, rfl, fun _ _ => bl_p.1, gd_yes e17⟩ (pj_load_box (ht rfl) .here (Path.then (Path.all R_lms_signature) (Path.fst i64 (prod (sl u8) (sl R_api_Hash)))) (by kernel_rfl))) <| .read rfl (.yes ⟨8, true, _, 52, _, rfl, rfl, rfl, fun _ _ => bl_p.1, gd_yes e17⟩ (pm (ht rfl))) <| .read rfl (.yes ⟨8, true, _, 52, _, rfl, rfl, rfl, fun _ _ => bl_p.1, gd_yes e17⟩ (pj_ishl has_i64 (ht rfl) isInt_i64 e19)) <| .read rfl (.yes ⟨8, true, _, 52, _, rfl, rfl, rfl, fun _ _ => bl_p.1, gd_yes e17⟩ (pj_ilss (ht rfl) (ht rfl))) <| .read rfl (.plain rfl (PJ.eqv (R := bl) (pj_pick (t := any) (ht rfl) (fun _ => (ht rfl)) (fun he => absurd (e17.symm.trans he) (by decide))) (oi e18))) <| .read rfl (.plain rfl (pm (ht rfl))) <| .read rfl (.yes ⟨15, true, _, 59, _, rfl, rfl, rfl, fun _ _ => bl_p.1, gd_yes e20⟩ (pj_field_ptr (off := 1) (ht rfl) (by kernel_rfl))) <| .read rfl (.yes ⟨15, true, _, 59, _, rfl, rfl, rfl, fun _ _ => bl_p.1, gd_yes e20⟩ (pj_load_box (ht rfl) .here (Path.then (Path.all R_lms_signature) (Path.then (Path.snd i64 (prod (sl u8) (sl R_api_Hash))) (Path.fst (sl u8) (sl R_api_Hash)))) (by kernel_rfl))) <| .step 1 rfl .here (.inr ⟨15, true, _, 59, _, rfl, rfl, rfl, fun _ _ => bl_p.1, gd_yes e20⟩) (fun i => ⟨_, _, fun j => j, (w_call (hc (ht rfl) <| hasL_nil) (by kernel_rfl) (c_wire_New e22) .nil rfl), fun _ => rfl, slotAny, dst1⟩) <| .step 1 rfl (.next .here) (.inr ⟨15, true, _, 59, _, rfl, rfl, rfl, fun _ _ => bl_p.1, gd_yes e20⟩) (fun i => ⟨_, _, fun _ => i, (w_call (hc (ht rfl) <| hasL_nil) (by kernel_rfl) (c_wire_Reader_U32 e23) (.cons .here <| .nil) rfl), fun _ => rfl, slotIs, dst1⟩) <| .read rfl (.yes ⟨15, true, _, 59, _, rfl, rfl, rfl, fun _ _ => bl_p.1, gd_yes e20⟩ (pj_conv_ui (by decide) (by kernel_rfl) (ht rfl))) <| .read rfl (.yes ⟨15, true, _, 59, _, rfl, rfl, rfl, fun _ _ => bl_p.1, gd_yes e20⟩ (pm (ht rfl))) <| .read rfl (.yes ⟨15, true, _, 59, _, rfl, rfl, rfl, fun _ _ => bl_p.1, gd_yes e20⟩ (pj_ieql (ht rfl) (ht rfl))) <| .read rfl (.plain rfl (PJ.eqv (R := bl) (pj_pick (t := any) (ht rfl) (fun _ => (ht rfl)) (fun he => absurd (e20.symm.trans he) (by decide))) (oi e21))) <| .step 0 rfl .here (.inl rfl) (fun i => ⟨_, _, fun _ => (), (w_store (r' := ((r3.2.toNat : Int), r5.2, y8)) (ht rfl) (ht rfl) .here (Path.all R_lms_signature) (by kernel_rfl) rfl), fun _ => rfl, (slotNo (s := any)), dst0⟩) <| .nil) (fun _ b4 => j_to (Γ' := [(6, val (.pointer (some ⟨b1, 0, none⟩))), (67, bl.slot y11)]) (H' := [box b1 211 R_lms_signature ((r3.2.toNat : Int), r5.2, y8)]) (.cons (.of_lk rfl) <| .cons (.of_lk rfl) <| .nil) (.cons .here <| .nil) J)
            · replace e21 := bf e20 e21
              exact run_drawL (n := 25) (H := [box b3 211 R_lms_signature ((r3.2.toNat : Int), r5.2, y8), box b2 208 (prod (sl u8) bl) (y6, y7)]) (Ls := [⟨[box b1 211 R_lms_signature (0, ([] : List (BitVec 8)), ([] : List T_api_Hash))], [(24, ⟨Unit, fun (_ : Unit) => [box b1 211 R_lms_signature ((r3.2.toNat : Int), r5.2, y8)], fun (_ : Unit) => []⟩)]⟩]) (by kernel_rfl) (by kernel_rfl) (by kernel_rfl) (by kernel_rfl) (by kernel_rfl) rfl (.read rfl (.plain rfl (pj_load_box (ht rfl) .here (Path.all R_lms_signature) (by kernel_rfl))) <| .read rfl (.plain rfl (pm (ht rfl))) <| .read rfl (.plain rfl (pj_callR (hc (ht rfl) <| hasL_nil) (.next .here) (by kernel_rfl) (fun _ => (c_wire_Reader_Done e14)))) <| .read rfl (.plain rfl (pm (ht rfl))) <| .read rfl (.yes ⟨3, true, _, 47, _, rfl, rfl, rfl, fun _ _ => bl_p.1, gd_yes e15⟩ (pm (ht rfl))) <| .read rfl (.yes ⟨3, true, _, 47, _, rfl, rfl, rfl, fun _ _ => bl_p.1, gd_yes e15⟩ (pm (ht rfl))) <| .read rfl (.yes ⟨3, true, _, 47, _, rfl, rfl, rfl, fun _ _ => bl_p.1, gd_yes e15⟩ (pj_ieql (ht rfl) (ht rfl))) <| .read rfl (.plain rfl (PJ.eqv (R := bl) (pj_pick (t := any) (ht rfl) (fun _ => (ht rfl)) (fun he => absurd (e15.symm.trans he) (by decide))) (oi e16))) <| .read rfl (.plain rfl (pm (ht rfl))) <| .read rfl (.yes ⟨8, true, _, 52, _, rfl, rfl, rfl, fun _ _ => bl_p.1, gd_yes e17⟩ (pj_field_ptr (off := 0) (ht rfl) (by kernel_rfl))) <| .read rfl (.yes ⟨8, true, _, 52, _, rfl, rfl, rfl, fun _ _ => bl_p.1, gd_yes e17⟩ (pj_load_box (ht rfl) .here (Path.then (Path.all R_lms_signature) (Path.fst i64 (prod (sl u8) (sl R_api_Hash)))) (by kernel_rfl))) <| .read rfl (.yes ⟨8, true, _, 52, _, rfl, rfl, rfl, fun _ _ => bl_p.1, gd_yes e17⟩ (pm (ht rfl))) <| .read rfl (.yes ⟨8, true, _, 52, _, rfl, rfl, rfl, fun _ _ => bl_p.1, gd_yes e17⟩ (pj_ishl has_i64 (ht rfl) isInt_i64 e19)) <| .read rfl (.yes ⟨8, true, _, 52, _, rfl, rfl, rfl, fun _ _ => bl_p.1, gd_yes e17⟩ (pj_ilss (ht rfl) (ht rfl))) <| .read rfl (.plain rfl (PJ.eqv (R := bl) (pj_pick (t := any) (ht rfl) (fun _ => (ht rfl)) (fun he => absurd (e17.symm.trans he) (by decide))) (oi e18))) <| .read rfl (.plain rfl (pm (ht rfl))) <| .read rfl (.no ⟨15, true, _, 59, _, rfl, rfl, rfl, fun _ _ => bl_p.1, gd_no e20⟩) <| .read rfl (.no ⟨15, true, _, 59, _, rfl, rfl, rfl, fun _ _ => bl_p.1, gd_no e20⟩) <| .read rfl (.no ⟨15, true, _, 59, _, rfl, rfl, rfl, fun _ _ => bl_p.1, gd_no e20⟩) <| .read rfl (.no ⟨15, true, _, 59, _, rfl, rfl, rfl, fun _ _ => bl_p.1, gd_no e20⟩) <| .read rfl (.no ⟨15, true, _, 59, _, rfl, rfl, rfl, fun _ _ => bl_p.1, gd_no e20⟩) <| .read rfl (.no ⟨15, true, _, 59, _, rfl, rfl, rfl, fun _ _ => bl_p.1, gd_no e20⟩) <| .read rfl (.no ⟨15, true, _, 59, _, rfl, rfl, rfl, fun _ _ => bl_p.1, gd_no e20⟩) <| .read rfl (.plain rfl (PJ.eqv (R := bl) (pj_pick (t := any) (ht rfl) (fun he => absurd (e20.symm.trans he) (by decide)) (fun _ => has_bl)) (oi e21))) <| .step 0 rfl .here (.inl rfl) (fun i => ⟨_, _, fun _ => (), (w_store (r' := ((r3.2.toNat : Int), r5.2, y8)) (ht rfl) (ht rfl) .here (Path.all R_lms_signature) (by kernel_rfl) rfl), fun _ => rfl, (slotNo (s := any)), dst0⟩) <| .nil) (fun _ => j_to (Γ' := [(6, val (.pointer (some ⟨b1, 0, none⟩))), (67, bl.slot y11)]) (H' := [box b1 211 R_lms_signature ((r3.2.toNat : Int), r5.2, y8)]) (.cons (.of_lk rfl) <| .cons (.of_lk rfl) <| .nil) (.cons .here <| .nil) J)
          · replace e18 := bf e17 e18
            rcases bool_tf (y10) with e20 | e20
            · exact absurd ((oi e18).trans e20) (by decide)
            · replace e21 := bf e20 e21
              exact run_drawL (n := 25) (H := [box b3 211 R_lms_signature ((r3.2.toNat : Int), r5.2, y8), box b2 208 (prod (sl u8) bl) (y6, y7)]) (Ls := [⟨[box b1 211 R_lms_signature (0, ([] : List (BitVec 8)), ([] : List T_api_Hash))], [(24, ⟨Unit, fun (_ : Unit) => [box b1 211 R_lms_signature ((r3.2.toNat : Int), r5.2, y8)], fun (_ : Unit) => []⟩)]⟩]) (by kernel_rfl) (by kernel_rfl) (by kernel_rfl) (by kernel_rfl) (by kernel_rfl) rfl (.read rfl (.plain rfl (pj_load_box (ht rfl) .here (Path.all R_lms_signature) (by kernel_rfl))) <| .read rfl (.plain rfl (pm (ht rfl))) <| .read rfl (.plain rfl (pj_callR (hc (ht rfl) <| hasL_nil) (.next .here) (by kernel_rfl) (fun _ => (c_wire_Reader_Done e14)))) <| .read rfl (.plain rfl (pm (ht rfl))) <| .read rfl (.yes ⟨3, true, _, 47, _, rfl, rfl, rfl, fun _ _ => bl_p.1, gd_yes e15⟩ (pm (ht rfl))) <| .read rfl (.yes ⟨3, true, _, 47, _, rfl, rfl, rfl, fun _ _ => bl_p.1, gd_yes e15⟩ (pm (ht rfl))) <| .read rfl (.yes ⟨3, true, _, 47, _, rfl, rfl, rfl, fun _ _ => bl_p.1, gd_yes e15⟩ (pj_ieql (ht rfl) (ht rfl))) <| .read rfl (.plain rfl (PJ.eqv (R := bl) (pj_pick (t := any) (ht rfl) (fun _ => (ht rfl)) (fun he => absurd (e15.symm.trans he) (by decide))) (oi e16))) <| .read rfl (.plain rfl (pm (ht rfl))) <| .read rfl (.no ⟨8, true, _, 52, _, rfl, rfl, rfl, fun _ _ => bl_p.1, gd_no e17⟩) <| .read rfl (.no ⟨8, true, _, 52, _, rfl, rfl, rfl, fun _ _ => bl_p.1, gd_no e17⟩) <| .read rfl (.no ⟨8, true, _, 52, _, rfl, rfl, rfl, fun _ _ => bl_p.1, gd_no e17⟩) <| .read rfl (.no ⟨8, true, _, 52, _, rfl, rfl, rfl, fun _ _ => bl_p.1, gd_no e17⟩) <| .read rfl (.no ⟨8, true, _, 52, _, rfl, rfl, rfl, fun _ _ => bl_p.1, gd_no e17⟩) <| .read rfl (.plain rfl (PJ.eqv (R := bl) (pj_pick (t := any) (ht rfl) (fun he => absurd (e17.symm.trans he) (by decide)) (fun _ => has_bl)) (oi e18))) <| .read rfl (.plain rfl (pm (ht rfl))) <| .read rfl (.no ⟨15, true, _, 59, _, rfl, rfl, rfl, fun _ _ => bl_p.1, gd_no e20⟩) <| .read rfl (.no ⟨15, true, _, 59, _, rfl, rfl, rfl, fun _ _ => bl_p.1, gd_no e20⟩) <| .read rfl (.no ⟨15, true, _, 59, _, rfl, rfl, rfl, fun _ _ => bl_p.1, gd_no e20⟩) <| .read rfl (.no ⟨15, true, _, 59, _, rfl, rfl, rfl, fun _ _ => bl_p.1, gd_no e20⟩) <| .read rfl (.no ⟨15, true, _, 59, _, rfl, rfl, rfl, fun _ _ => bl_p.1, gd_no e20⟩) <| .read rfl (.no ⟨15, true, _, 59, _, rfl, rfl, rfl, fun _ _ => bl_p.1, gd_no e20⟩) <| .read rfl (.no ⟨15, true, _, 59, _, rfl, rfl, rfl, fun _ _ => bl_p.1, gd_no e20⟩) <| .read rfl (.plain rfl (PJ.eqv (R := bl) (pj_pick (t := any) (ht rfl) (fun he => absurd (e20.symm.trans he) (by decide)) (fun _ => has_bl)) (oi e21))) <| .step 0 rfl .here (.inl rfl) (fun i => ⟨_, _, fun _ => (), (w_store (r' := ((r3.2.toNat : Int), r5.2, y8)) (ht rfl) (ht rfl) .here (Path.all R_lms_signature) (by kernel_rfl) rfl), fun _ => rfl, (slotNo (s := any)), dst0⟩) <| .nil) (fun _ => j_to (Γ' := [(6, val (.pointer (some ⟨b1, 0, none⟩))), (67, bl.slot y11)]) (H' := [box b1 211 R_lms_signature ((r3.2.toNat : Int), r5.2, y8)]) (.cons (.of_lk rfl) <| .cons (.of_lk rfl) <| .nil) (.cons .here <| .nil) J)
        · replace e16 := bf e15 e16
          rcases bool_tf (y9) with e17 | e17
          · exact absurd ((oi e16).trans e17) (by decide)
          · replace e18 := bf e17 e18
            rcases bool_tf (y10) with e20 | e20
            · exact absurd ((oi e18).trans e20) (by decide)
            · replace e21 := bf e20 e21
              exact run_drawL (n := 25) (H := [box b3 211 R_lms_signature ((r3.2.toNat : Int), r5.2, y8), box b2 208 (prod (sl u8) bl) (y6, y7)]) (Ls := [⟨[box b1 211 R_lms_signature (0, ([] : List (BitVec 8)), ([] : List T_api_Hash))], [(24, ⟨Unit, fun (_ : Unit) => [box b1 211 R_lms_signature ((r3.2.toNat : Int), r5.2, y8)], fun (_ : Unit) => []⟩)]⟩]) (by kernel_rfl) (by kernel_rfl) (by kernel_rfl) (by kernel_rfl) (by kernel_rfl) rfl (.read rfl (.plain rfl (pj_load_box (ht rfl) .here (Path.all R_lms_signature) (by kernel_rfl))) <| .read rfl (.plain rfl (pm (ht rfl))) <| .read rfl (.plain rfl (pj_callR (hc (ht rfl) <| hasL_nil) (.next .here) (by kernel_rfl) (fun _ => (c_wire_Reader_Done e14)))) <| .read rfl (.plain rfl (pm (ht rfl))) <| .read rfl (.no ⟨3, true, _, 47, _, rfl, rfl, rfl, fun _ _ => bl_p.1, gd_no e15⟩) <| .read rfl (.no ⟨3, true, _, 47, _, rfl, rfl, rfl, fun _ _ => bl_p.1, gd_no e15⟩) <| .read rfl (.no ⟨3, true, _, 47, _, rfl, rfl, rfl, fun _ _ => bl_p.1, gd_no e15⟩) <| .read rfl (.plain rfl (PJ.eqv (R := bl) (pj_pick (t := any) (ht rfl) (fun he => absurd (e15.symm.trans he) (by decide)) (fun _ => has_bl)) (oi e16))) <| .read rfl (.plain rfl (pm (ht rfl))) <| .read rfl (.no ⟨8, true, _, 52, _, rfl, rfl, rfl, fun _ _ => bl_p.1, gd_no e17⟩) <| .read rfl (.no ⟨8, true, _, 52, _, rfl, rfl, rfl, fun _ _ => bl_p.1, gd_no e17⟩) <| .read rfl (.no ⟨8, true, _, 52, _, rfl, rfl, rfl, fun _ _ => bl_p.1, gd_no e17⟩) <| .read rfl (.no ⟨8, true, _, 52, _, rfl, rfl, rfl, fun _ _ => bl_p.1, gd_no e17⟩) <| .read rfl (.no ⟨8, true, _, 52, _, rfl, rfl, rfl, fun _ _ => bl_p.1, gd_no e17⟩) <| .read rfl (.plain rfl (PJ.eqv (R := bl) (pj_pick (t := any) (ht rfl) (fun he => absurd (e17.symm.trans he) (by decide)) (fun _ => has_bl)) (oi e18))) <| .read rfl (.plain rfl (pm (ht rfl))) <| .read rfl (.no ⟨15, true, _, 59, _, rfl, rfl, rfl, fun _ _ => bl_p.1, gd_no e20⟩) <| .read rfl (.no ⟨15, true, _, 59, _, rfl, rfl, rfl, fun _ _ => bl_p.1, gd_no e20⟩) <| .read rfl (.no ⟨15, true, _, 59, _, rfl, rfl, rfl, fun _ _ => bl_p.1, gd_no e20⟩) <| .read rfl (.no ⟨15, true, _, 59, _, rfl, rfl, rfl, fun _ _ => bl_p.1, gd_no e20⟩) <| .read rfl (.no ⟨15, true, _, 59, _, rfl, rfl, rfl, fun _ _ => bl_p.1, gd_no e20⟩) <| .read rfl (.no ⟨15, true, _, 59, _, rfl, rfl, rfl, fun _ _ => bl_p.1, gd_no e20⟩) <| .read rfl (.no ⟨15, true, _, 59, _, rfl, rfl, rfl, fun _ _ => bl_p.1, gd_no e20⟩) <| .read rfl (.plain rfl (PJ.eqv (R := bl) (pj_pick (t := any) (ht rfl) (fun he => absurd (e20.symm.trans he) (by decide)) (fun _ => has_bl)) (oi e21))) <| .step 0 rfl .here (.inl rfl) (fun i => ⟨_, _, fun _ => (), (w_store (r' := ((r3.2.toNat : Int), r5.2, y8)) (ht rfl) (ht rfl) .here (Path.all R_lms_signature) (by kernel_rfl) rfl), fun _ => rfl, (slotNo (s := any)), dst0⟩) <| .nil) (fun _ => j_to (Γ' := [(6, val (.pointer (some ⟨b1, 0, none⟩))), (67, bl.slot y11)]) (H' := [box b1 211 R_lms_signature ((r3.2.toNat : Int), r5.2, y8)]) (.cons (.of_lk rfl) <| .cons (.of_lk rfl) <| .nil) (.cons .here <| .nil) J)
set_option maxRecDepth 100000 in
set_option maxHeartbeats 4000000 in
theorem c_lmots_Recover {G : GP} (hg0 : HG0 G) (hg1 : HG1 G) (hg2 : HG2 G) {p_id : T_api_ID} {p_q : BitVec 32} {p_message : List (BitVec 8)} {p_signature : List (BitVec 8)} {r : T_api_Hash × Bool} (h : lmots_Recover p_id p_q p_message p_signature = some r) : Ctr Tryz.prog G 144 [R_api_ID.slot p_id, u32.slot p_q, (sl u8).slot p_message, (sl u8).slot p_signature] [] (fun (_ : Unit) => tup [R_api_Hash.slot r.1, bl.slot r.2]) (fun (_ : Unit) => []) := by
  unfold lmots_Recover at h
  refine ctr_of_run Tryz.func144 rfl 77 rfl rfl fun m0 w0 b0 => ?_
  show Run _ _ _ [(0, R_api_ID.slot p_id), (1, u32.slot p_q), (2, (sl u8).slot p_message), (3, (sl u8).slot p_signature)] _
  refine rs ?_
  refine rt ?_
  refine jp (pj_box_to (ht rfl)) rfl rfl rfl ?_
  refine j_alloc (x := (Vector.replicate 32 (0#8))) (R := R_api_Hash) (zero_vec 32 zero_un) (by kernel_rfl) rfl fun b1 => ?_
  refine jp (pa has_bl) rfl rfl rfl ?_
  refine j_end ?_
  refine rs ?_
  refine rt ?_
  refine jp (pm (ht rfl)) rfl rfl rfl ?_
  obtain ⟨r1, e1, h⟩ := bind_some h
  refine j_call (hc (ht rfl) <| hasL_nil) (by kernel_rfl) (c_wire_New e1) .nil rfl fun b2 => ?_
  refine jp (pa (ht rfl)) rfl rfl rfl ?_
  refine j_end ?_
  refine rs ?_
  refine rt ?_
  refine jp (pm (ht rfl)) rfl rfl rfl ?_
  obtain ⟨r2, e2, h⟩ := bind_some h
  refine j_call (hc (ht rfl) <| hasL_nil) (by kernel_rfl) (c_wire_Reader_U32 e2) (.cons .here <| .nil) rfl fun _ => ?_
  refine jp (pa (ht rfl)) rfl rfl rfl ?_
  refine j_end ?_
  refine rs ?_
  refine rt ?_
  refine jp (pm (ht rfl)) rfl rfl rfl ?_
  refine jp (pj_conv_ui (by decide) (by kernel_rfl) (ht rfl)) rfl rfl rfl ?_
  obtain ⟨r3, e3, h⟩ := bind_some h
  refine jp (pj_call (hc (ht rfl) <| hasL_nil) (by kernel_rfl) (c_lmots_of hg0 e3)) rfl rfl rfl ?_
  refine jp (pm (ht rfl)) rfl rfl rfl ?_
  refine jp (pj_extract (ht rfl) rfl) rfl rfl rfl ?_
  refine jp (pj_extract (ht rfl) rfl) rfl rfl rfl ?_
  refine j_alloc (x := (0, 0, 0)) (R := R_lmots_form) (zero_prod zero_i64 (zero_prod zero_i64 zero_i64)) (by kernel_rfl) rfl fun b3 => ?_
  refine j_store_boxx (r' := r3.1) (ht rfl) (ht rfl) .here (Path.all R_lmots_form) (by kernel_rfl) rfl ?_
  refine j_freezeTo (t := 12) .here (.of_lk rfl) ?_
  refine jp (pa (ht rfl)) rfl rfl rfl ?_
  refine j_end ?_
  refine rs ?_
  refine rs ?_
  refine rt ?_
  refine jp (pm (ht rfl)) rfl rfl rfl ?_
  refine jp (pj_not (ht rfl)) rfl rfl rfl ?_
  refine jp (pm (ht rfl)) rfl rfl rfl ?_
  obtain ⟨y1, e5, h⟩ := bind_some h
  refine j_joinx (ι := Unit) (Γ' := fun _ => [(1, u32.slot p_q), (2, (sl u8).slot p_message), (4, ptrTo R_api_ID p_id), (8, val (.pointer (some ⟨b1, 0, none⟩))), (10, val (.pointer (some ⟨b2, 0, none⟩))), (12, ptrTo R_lmots_form r3.1), (37, bl.slot y1)]) (H' := fun _ => [box b2 208 (prod (sl u8) bl) (r2.1.1, r2.1.2), box b1 23 R_api_Hash (Vector.replicate 32 (0#8))]) 7 ?_ fun J => ?_
  · intro _
    clear e5
    show OpsJ _ _ _ [(1, u32.slot p_q), (2, (sl u8).slot p_message), (4, ptrTo R_api_ID p_id), (8, val (.pointer (some ⟨b1, 0, none⟩))), (10, val (.pointer (some ⟨b2, 0, none⟩))), (12, ptrTo R_lmots_form r3.1), (37, bl.slot y1)] [box b2 208 (prod (sl u8) bl) (r2.1.1, r2.1.2), box b1 23 R_api_Hash (Vector.replicate 32 (0#8))] _
    refine j_end ?_
    refine run_cond (ht rfl) (fun e7 => ?_) (fun e7 => ?_)
    · replace h := bt e7 h
      refine rs ?_
      refine rt ?_
      refine jp (pj_build (R := R_api_Hash) (zero_vec 32 zero_un) (by kernel_rfl) (by kernel_rfl) rfl .nil) rfl rfl rfl ?_
      refine j_store_boxx (r' := (Vector.replicate 32 (0#8))) (ht rfl) (ht rfl) (.next .here) (Path.all R_api_Hash) (by kernel_rfl) rfl ?_
      refine jp (pa has_bl) rfl rfl rfl ?_
      refine j_end ?_
      obtain rfl := oi h
      exact run_ret fun a w hst => q_retN hst rfl (.cons (.cell rfl .here (by kernel_rfl)) <| .cons (.tmp rfl) <| .nil) rfl () (fun _ _ h => h) (.nil)
    · replace h := bf e7 h
      refine run_skip ?_
      refine rs ?_
      refine rt ?_
      refine jp (pm (ht rfl)) rfl rfl rfl ?_
      obtain ⟨r5, e8, h⟩ := bind_some h
      refine j_call (hc (ht rfl) <| hc has_i64 <| hasL_nil) (by kernel_rfl) (c_wire_Reader_Plain e8) (.cons .here <| .nil) rfl fun _ => ?_
      refine jp (pa (ht rfl)) rfl rfl rfl ?_
      refine j_end ?_
      refine rs ?_
      refine rt ?_
      refine jp (pj_field_to (ht rfl) (Path.then (Path.snd i64 (prod i64 i64)) (Path.fst i64 i64)) (by kernel_rfl)) rfl rfl rfl ?_
      refine jp (pl (ht rfl) (by kernel_rfl)) rfl rfl rfl ?_
      obtain ⟨e9, h⟩ := grd_some h
      obtain ⟨x1, e10, h⟩ := bind_some h
      refine j_makeSlicex (T := 23) (R := R_api_Hash) (z := (Vector.replicate 32 (0#8))) (ht rfl) (ht rfl) e9.1 (Int.le_refl _) e9.2 (by kernel_rfl) (zero_vec 32 zero_un) (by kernel_rfl) (oi e10) rfl fun v1 => ?_
      refine jp (pa (ht rfl)) rfl rfl rfl ?_
      refine j_end ?_
      refine rs ?_
      refine rs ?_
      obtain ⟨r6, e11, h⟩ := bind_some h
      obtain ⟨r7, e12, h⟩ := bind_some h
      refine run_draw (n := 10) (by kernel_rfl) (by kernel_rfl) (by kernel_rfl) (by kernel_rfl) (.read (.plain rfl (pl (ht rfl) (by kernel_rfl))) <| .read (.plain rfl (pl (ht rfl) (by kernel_rfl))) <| .read (.plain rfl (pm (ht rfl))) <| .read (.plain rfl (pm (ht rfl))) <| .read (.plain rfl (pm (ht rfl))) <| .read (.plain rfl (pj_buildSlice (T := 31) (R := (sl u8)) (.cons (ht rfl) (.cons (ht rfl) .nil)) rfl (by kernel_rfl) (by kernel_rfl))) <| .read (.plain rfl (pj_call (hc (ht rfl) <| hc (ht rfl) <| hc has_i64 <| hc (ht rfl) <| hasL_nil) (by kernel_rfl) (c_lmots_under hg1 hg2 e11))) <| .read (.plain rfl (pj_call (hc (ht rfl) <| hc (ht rfl) <| hasL_nil) (by kernel_rfl) (Ctr.froze (c_lmots_form_digits e12)))) <| .read (.plain rfl (pj_len_sl (sz := 1) (ht rfl) (by kernel_rfl))) <| .read (.plain rfl (pm has_i64)) <| .nil) (j_to (Γ' := [(1, u32.slot p_q), (4, ptrTo R_api_ID p_id), (8, val (.pointer (some ⟨b1, 0, none⟩))), (10, val (.pointer (some ⟨b2, 0, none⟩))), (12, ptrTo R_lmots_form r3.1), (15, ov v1), (51, (sl i64).slot r7), (52, i64.slot (r7.length : Int)), (53, i64.slot (0 : Int))]) (H' := [own 23 R_api_Hash v1 x1, box b2 208 (prod (sl u8) bl) (r5.1.1, r5.1.2), box b1 23 R_api_Hash (Vector.replicate 32 (0#8))]) (.cons (.of_lk rfl) <| .cons (.of_lk rfl) <| .cons (.of_lk rfl) <| .cons (.of_lk rfl) <| .cons (.of_lk rfl) <| .cons (.of_lk rfl) <| .cons (.of_lk rfl) <| .cons (.of_lk rfl) <| .cons (.of_lk rfl) <| .nil) (.cons .here <| .cons .here <| .cons .here <| .nil) ?_)
      refine j_end ?_
      obtain ⟨⟨y6, y7, y8, y9⟩, e20, h⟩ := bind_some h
      refine run_loopS (Γi := fun (i : Unit) (s : Int × (List T_api_Hash) × (List (BitVec 8)) × Bool) => [(1, u32.slot p_q), (4, ptrTo R_api_ID p_id), (8, val (.pointer (some ⟨b1, 0, none⟩))), (10, val (.pointer (some ⟨b2, 0, none⟩))), (12, ptrTo R_lmots_form r3.1), (15, ov v1), (51, (sl i64).slot r7), (52, i64.slot (r7.length : Int)), (53, i64.slot s.1)]) (Hi := fun (i : Unit) (s : Int × (List T_api_Hash) × (List (BitVec 8)) × Bool) => [own 23 R_api_Hash v1 s.2.1, box b2 208 (prod (sl u8) bl) (s.2.2.1, s.2.2.2), box b1 23 R_api_Hash (Vector.replicate 32 (0#8))]) e20 () (fun a w hst => (hst.sub (.cons (.of_lk rfl) <| .cons (.of_lk rfl) <| .cons (.of_lk rfl) <| .cons (.of_lk rfl) <| .cons (.of_lk rfl) <| .cons (.of_lk rfl) <| .cons (.of_lk rfl) <| .cons (.of_lk rfl) <| .cons (.of_lk rfl) <| .nil)).keep (.cons .here <| .cons .here <| .cons .here <| .nil)) ?_ ?_
      · clear h e20
        rintro _ ⟨y2, y3, y4, y5⟩ lr h
        change lmots_Recover_L1 r7 r3 p_id p_q y2 y3 y4 y5 = some _ at h
        show Run _ _ _ [(1, u32.slot p_q), (4, ptrTo R_api_ID p_id), (8, val (.pointer (some ⟨b1, 0, none⟩))), (10, val (.pointer (some ⟨b2, 0, none⟩))), (12, ptrTo R_lmots_form r3.1), (15, ov v1), (51, (sl i64).slot r7), (52, i64.slot (r7.length : Int)), (53, i64.slot y2)] [own 23 R_api_Hash v1 y3, box b2 208 (prod (sl u8) bl) (y4, y5), box b1 23 R_api_Hash (Vector.replicate 32 (0#8))]
        unfold lmots_Recover_L1 at h
        refine rs ?_
        refine rt ?_
        refine jp (pj_ilss (ht rfl) (ht rfl)) rfl rfl rfl ?_
        refine j_end ?_
        refine rs ?_
        refine run_cond (ht rfl) (fun e13 => ?_) (fun e13 => ?_)
        · replace h := bt e13 h
          refine run_skip ?_
          refine rs ?_
          refine run_block ?_
          refine rs ?_
          refine rt ?_
          refine jp (pm (ht rfl)) rfl rfl rfl ?_
          obtain ⟨x2, e14, h⟩ := bind_some h
          refine jp (pj_index_slx (ht rfl) (ht rfl) isInt_i64 e14 (by kernel_rfl)) rfl rfl rfl ?_
          refine jp (pl (ht rfl) (by kernel_rfl)) rfl rfl rfl ?_
          refine jp (pa (ht rfl)) rfl rfl rfl ?_
          refine jp (pa (ht rfl)) rfl rfl rfl ?_
          refine j_end ?_
          obtain ⟨r8, e15, h⟩ := bind_some h
          obtain ⟨x3, e16, h⟩ := bind_some h
          obtain ⟨r9, e17, h⟩ := bind_some h
          obtain ⟨r10, e18, h⟩ := bind_some h
          refine run_keep (H' := [box b2 208 (prod (sl u8) bl) (y4, y5), own 23 R_api_Hash v1 y3, box b1 23 R_api_Hash (Vector.replicate 32 (0#8))]) (.cons (.next .here) <| .cons .here <| .cons .here <| .nil) ?_
          refine run_drawL (n := 13) (H := [own 23 R_api_Hash v1 y3, box b1 23 R_api_Hash (Vector.replicate 32 (0#8))]) (Ls := [⟨[box b2 208 (prod (sl u8) bl) (y4, y5)], [(6, ⟨Unit, fun (_ : Unit) => [box b2 208 (prod (sl u8) bl) (r8.1.1, r8.1.2)], fun (_ : Unit) => [(64, (sl u8).slot r8.2)]⟩)]⟩]) (by kernel_rfl) (by kernel_rfl) (by kernel_rfl) (by kernel_rfl) (by kernel_rfl) rfl (.read rfl (.plain rfl (pm (ht rfl))) <| .read rfl (.plain rfl (pm (ht rfl))) <| .read rfl (.plain rfl (pl (ht rfl) (by kernel_rfl))) <| .read rfl (.plain rfl (pm (ht rfl))) <| .read rfl (.plain rfl (pm (ht rfl))) <| .read rfl (.plain rfl (pm (ht rfl))) <| .step 0 rfl .here (.inl rfl) (fun i => ⟨_, _, fun _ => (), (w_call (hc (ht rfl) <| hc has_i64 <| hasL_nil) (by kernel_rfl) (c_wire_Reader_Plain e15) (.cons .here <| .nil) rfl), fun _ => rfl, slotIs, dst1⟩) <| .read rfl (.plain rfl (pj_s2apx (e := 5) (ht rfl) e16 rfl (by kernel_rfl))) <| .read rfl (.plain rfl (pl (ht rfl) (by kernel_rfl))) <| .read rfl (.plain rfl (pm (ht rfl))) <| .read rfl (.plain rfl (pl (ht rfl) (by kernel_rfl))) <| .read rfl (.plain rfl (pj_call (hc (ht rfl) <| hasL_nil) (by kernel_rfl) (c_lmots_form_most e17))) <| .read rfl (.plain rfl (pj_call (hc (ht rfl) <| hc (ht rfl) <| hc (ht rfl) <| hc (ht rfl) <| hc (ht rfl) <| hc (ht rfl) <| hasL_nil) (by kernel_rfl) (c_lmots_chain hg1 hg2 e18))) <| .nil) ?_
          rintro _
          refine j_to (Γ' := [(1, u32.slot p_q), (4, ptrTo R_api_ID p_id), (8, val (.pointer (some ⟨b1, 0, none⟩))), (10, val (.pointer (some ⟨b2, 0, none⟩))), (12, ptrTo R_lmots_form r3.1), (15, ov v1), (51, (sl i64).slot r7), (52, i64.slot (r7.length : Int)), (53, i64.slot y2), (58, ov v1), (59, i64.slot y2), (70, R_api_Hash.slot r10)]) (H' := [box b2 208 (prod (sl u8) bl) (r8.1.1, r8.1.2), own 23 R_api_Hash v1 y3, box b1 23 R_api_Hash (Vector.replicate 32 (0#8))]) (.cons (.of_lk rfl) <| .cons (.of_lk rfl) <| .cons (.of_lk rfl) <| .cons (.of_lk rfl) <| .cons (.of_lk rfl) <| .cons (.of_lk rfl) <| .cons (.of_lk rfl) <| .cons (.of_lk rfl) <| .cons (.of_lk rfl) <| .cons (.of_lk rfl) <| .cons (.of_lk rfl) <| .cons (.of_lk rfl) <| .nil) (.cons .here <| .cons .here <| .cons .here <| .nil) ?_
          obtain ⟨e19, h⟩ := grd_some h
          refine jp (pj_index_own (ht rfl) (.next .here) (ht rfl) isInt_i64 e19.1 (lt_nat e19) (by kernel_rfl)) rfl rfl rfl ?_
          refine j_store_own0 R_api_Hash (y2.toNat) (ht rfl) (ht rfl) (.next .here) (lt_nat e19) (by kernel_rfl) ?_
          refine j_end ?_
          refine run_endblock ?_
          refine rt ?_
          refine jp (pj_iadd (ht rfl) has_i64) rfl rfl rfl ?_
          refine jp (pm (ht rfl)) rfl rfl rfl ?_
          refine j_end ?_
          obtain rfl := oi h
          exact run_next () (.cons (.of_lk rfl) <| .cons (.of_lk rfl) <| .cons (.of_lk rfl) <| .cons (.of_lk rfl) <| .cons (.of_lk rfl) <| .cons (.of_lk rfl) <| .cons (.of_lk rfl) <| .cons (.of_lk rfl) <| .cons (.of_lk rfl) <| .nil) (.cons .here <| .cons .here <| .cons .here <| .nil)
        · replace h := bf e13 h
          obtain rfl := oi h
          exact run_brk () (.cons (.of_lk rfl) <| .cons (.of_lk rfl) <| .cons (.of_lk rfl) <| .cons (.of_lk rfl) <| .cons (.of_lk rfl) <| .cons (.of_lk rfl) <| .cons (.of_lk rfl) <| .cons (.of_lk rfl) <| .cons (.of_lk rfl) <| .nil) (.cons .here <| .cons .here <| .cons .here <| .nil)
      · rintro _
        show Run _ _ _ [(1, u32.slot p_q), (4, ptrTo R_api_ID p_id), (8, val (.pointer (some ⟨b1, 0, none⟩))), (10, val (.pointer (some ⟨b2, 0, none⟩))), (12, ptrTo R_lmots_form r3.1), (15, ov v1), (51, (sl i64).slot r7), (52, i64.slot (r7.length : Int)), (53, i64.slot y6)] [own 23 R_api_Hash v1 y7, box b2 208 (prod (sl u8) bl) (y8, y9), box b1 23 R_api_Hash (Vector.replicate 32 (0#8))]
        refine run_to (Γ' := [(1, u32.slot p_q), (4, ptrTo R_api_ID p_id), (8, val (.pointer (some ⟨b1, 0, none⟩))), (15, ov v1)]) (H' := [own 23 R_api_Hash v1 y7, box b1 23 R_api_Hash (Vector.replicate 32 (0#8))]) (.cons (.of_lk rfl) <| .cons (.of_lk rfl) <| .cons (.of_lk rfl) <| .cons (.of_lk rfl) <| .nil) (.cons .here <| .cons (.next .here) <| .nil) ?_
        refine rs ?_
        refine rt ?_
        refine jp (pl (ht rfl) (by kernel_rfl)) rfl rfl rfl ?_
        refine jp (pm (ht rfl)) rfl rfl rfl ?_
        refine jp (pm (ht rfl)) rfl rfl rfl ?_
        obtain ⟨r11, e21, h⟩ := bind_some h
        refine jp (pj_callB (hasBL_cons (hasB_of (ht rfl)) <| hasBL_cons (hasB_of (ht rfl)) <| hasBL_cons (hasB_own (ht rfl) .here) <| hasBL_nil) (by kernel_rfl) (c_lmots_folded hg1 hg2 e21) (Rep.flat_slot (flat_vec _ (flat_un _ _)) _)) rfl rfl rfl ?_
        refine j_store_boxx (r' := r11) (ht rfl) (ht rfl) (.next .here) (Path.all R_api_Hash) (by kernel_rfl) rfl ?_
        refine jp (pa has_bl) rfl rfl rfl ?_
        refine j_end ?_
        obtain rfl := oi h
        exact run_ret fun a w hst => q_retN hst rfl (.cons (.cell rfl .here (by kernel_rfl)) <| .cons (.tmp rfl) <| .nil) rfl () (fun _ _ h => h) (.nil)
  · rcases bool_tf (!r3.2) with e4 | e4
    · replace e5 := bt e4 e5
      refine j_guard_no2 (j := 2) (want := false) rfl rfl rfl rfl (bl_isx e4) rfl rfl rfl ?_
      refine j_guard_no2 (j := 2) (want := false) rfl rfl rfl rfl (bl_isx e4) rfl rfl rfl ?_
      refine j_guard_no2 (j := 2) (want := false) rfl rfl rfl rfl (bl_isx e4) rfl rfl rfl ?_
      refine j_guard_no2 (j := 2) (want := false) rfl rfl rfl rfl (bl_isx e4) rfl rfl rfl ?_
      refine j_guard_no2 (j := 2) (want := false) rfl rfl rfl rfl (bl_isx e4) rfl rfl rfl ?_
      refine j_guard_no2 (j := 2) (want := false) rfl rfl rfl rfl (bl_isx e4) rfl rfl rfl ?_
      refine jp (PJ.eqv (R := bl) (pj_pick (t := any) (ht rfl) (fun _ => has_bl) (fun he => absurd (e4.symm.trans he) (by decide))) (oi e5)) rfl rfl rfl ?_
      exact j_to (.cons (.of_lk rfl) <| .cons (.of_lk rfl) <| .cons (.of_lk rfl) <| .cons (.of_lk rfl) <| .cons (.of_lk rfl) <| .cons (.of_lk rfl) <| .cons (.of_lk rfl) <| .nil) (.cons .here <| .cons .here <| .nil) (J ())
    · replace e5 := bf e4 e5
      refine jy (pm (ht rfl)) rfl rfl rfl rfl (bl_isx e4) rfl rfl ?_
      refine jy (pj_len_sl (sz := 1) (ht rfl) (by kernel_rfl)) rfl rfl rfl rfl (bl_isx e4) rfl rfl ?_
      refine jy (pm (ht rfl)) rfl rfl rfl rfl (bl_isx e4) rfl rfl ?_
      refine jy (pj_conv_ui (by decide) (by kernel_rfl) (ht rfl)) rfl rfl rfl rfl (bl_isx e4) rfl rfl ?_
      obtain ⟨r4, e6, e5⟩ := bind_some e5
      refine jy (pj_call (hc (ht rfl) <| hasL_nil) (by kernel_rfl) (c_lmots_Size hg0 e6)) rfl rfl rfl rfl (bl_isx e4) rfl rfl ?_
      refine jy (pj_ineq (ht rfl) (ht rfl)) rfl rfl rfl rfl (bl_isx e4) rfl rfl ?_
      refine jp (PJ.eqv (R := bl) (pj_pick (t := any) (ht rfl) (fun he => absurd (e4.symm.trans he) (by decide)) (fun _ => (ht rfl))) (oi e5)) rfl rfl rfl ?_
      exact j_to (.cons (.of_lk rfl) <| .cons (.of_lk rfl) <| .cons (.of_lk rfl) <| .cons (.of_lk rfl) <| .cons (.of_lk rfl) <| .cons (.of_lk rfl) <| .cons (.of_lk rfl) <| .nil) (.cons .here <| .cons .here <| .nil) (J ())
set_option maxRecDepth 100000 in
set_option maxHeartbeats 4000000 in
theorem c_lms_climb {G : GP} (hg1 : HG1 G) (hg2 : HG2 G) {p_id : T_api_ID} {p_r : Int} {p_h : T_api_Hash} {p_path : List T_api_Hash} {r : T_api_Hash} (h : lms_climb p_id p_r p_h p_path = some r) : Ctr Tryz.prog G 145 [R_api_ID.slot p_id, i64.slot p_r, R_api_Hash.slot p_h, (sl R_api_Hash).slot p_path] [] (fun (_ : Unit) => R_api_Hash.slot r) (fun (_ : Unit) => []) := by
  unfold lms_climb at h
  refine ctr_of_run Tryz.func145 rfl 35 rfl rfl fun m0 w0 b0 => ?_
  show Run _ _ _ [(0, R_api_ID.slot p_id), (1, i64.slot p_r), (2, R_api_Hash.slot p_h), (3, (sl R_api_Hash).slot p_path)] _
  refine rs ?_
  refine rt ?_
  refine jp (pj_box_to (ht rfl)) rfl rfl rfl ?_
  refine j_box (ht rfl) rfl fun b1 => ?_
  refine j_alloc (x := (Vector.replicate 32 (0#8))) (R := R_api_Hash) (zero_vec 32 zero_un) (by kernel_rfl) rfl fun b2 => ?_
  refine j_end ?_
  refine rs ?_
  refine rs ?_
  refine rt ?_
  refine jp (pm (ht rfl)) rfl rfl rfl ?_
  refine jp (pj_len_sl (sz := 32) (ht rfl) (by kernel_rfl)) rfl rfl rfl ?_
  refine jp (pm has_i64) rfl rfl rfl ?_
  refine j_end ?_
  obtain ⟨⟨y6, y7, y8⟩, e6, h⟩ := bind_some h
  refine run_loopS (Γi := fun (i : Unit) (s : Int × Int × T_api_Hash) => [(1, i64.slot s.1), (4, ptrTo R_api_ID p_id), (6, val (.pointer (some ⟨b1, 0, none⟩))), (8, val (.pointer (some ⟨b2, 0, none⟩))), (13, (sl R_api_Hash).slot p_path), (14, i64.slot (p_path.length : Int)), (15, i64.slot s.2.1)]) (Hi := fun (i : Unit) (s : Int × Int × T_api_Hash) => [box b2 23 R_api_Hash (Vector.replicate 32 (0#8)), box b1 23 R_api_Hash s.2.2]) e6 () (fun a w hst => (hst.sub (.cons (.of_lk rfl) <| .cons (.of_lk rfl) <| .cons (.of_lk rfl) <| .cons (.of_lk rfl) <| .cons (.of_lk rfl) <| .cons (.of_lk rfl) <| .cons (.of_lk rfl) <| .nil)).keep (.cons .here <| .cons .here <| .nil)) ?_ ?_
  · clear h e6
    rintro _ ⟨y1, y2, y3⟩ lr h
    change lms_climb_L1 p_path p_id y1 y2 y3 = some _ at h
    show Run _ _ _ [(1, i64.slot y1), (4, ptrTo R_api_ID p_id), (6, val (.pointer (some ⟨b1, 0, none⟩))), (8, val (.pointer (some ⟨b2, 0, none⟩))), (13, (sl R_api_Hash).slot p_path), (14, i64.slot (p_path.length : Int)), (15, i64.slot y2)] [box b2 23 R_api_Hash (Vector.replicate 32 (0#8)), box b1 23 R_api_Hash y3]
    unfold lms_climb_L1 at h
    refine rs ?_
    refine rt ?_
    refine jp (pj_ilss (ht rfl) (ht rfl)) rfl rfl rfl ?_
    refine j_end ?_
    refine rs ?_
    refine run_cond (ht rfl) (fun e1 => ?_) (fun e1 => ?_)
    · replace h := bt e1 h
      refine run_skip ?_
      refine rs ?_
      refine run_block ?_
      refine rs ?_
      refine rt ?_
      obtain ⟨x1, e2, h⟩ := bind_some h
      refine jp (pj_index_slx (ht rfl) (ht rfl) isInt_i64 e2 (by kernel_rfl)) rfl rfl rfl ?_
      refine jp (pl (ht rfl) (by kernel_rfl)) rfl rfl rfl ?_
      refine j_alloc (x := (Vector.replicate 32 (0#8))) (R := R_api_Hash) (zero_vec 32 zero_un) (by kernel_rfl) rfl fun b3 => ?_
      refine j_store_boxx (r' := x1) (ht rfl) (ht rfl) .here (Path.all R_api_Hash) (by kernel_rfl) rfl ?_
      refine j_freezeTo (t := 10) .here (.of_lk rfl) ?_
      refine j_end ?_
      refine rs ?_
      refine run_keep (H' := [box b2 23 R_api_Hash (Vector.replicate 32 (0#8)), box b1 23 R_api_Hash y3]) (.cons .here <| .cons .here <| .nil) ?_
      refine run_drawL (n := 5) (H := [box b2 23 R_api_Hash (Vector.replicate 32 (0#8)), box b1 23 R_api_Hash y3]) (Ls := [⟨[], [(2, ⟨Nat, fun (b4 : Nat) => [box b4 23 R_api_Hash (Vector.replicate 32 (0#8))], fun (b4 : Nat) => [(11, val (.pointer (some ⟨b4, 0, none⟩)))]⟩), (4, ⟨Nat, fun (b4 : Nat) => [box b4 23 R_api_Hash y3], fun (b4 : Nat) => [(11, val (.pointer (some ⟨b4, 0, none⟩)))]⟩)]⟩, ⟨[], [(3, ⟨Nat, fun (b5 : Nat) => [box b5 23 R_api_Hash (Vector.replicate 32 (0#8))], fun (b5 : Nat) => [(12, val (.pointer (some ⟨b5, 0, none⟩)))]⟩)]⟩]) (by kernel_rfl) (by kernel_rfl) (by kernel_rfl) (by kernel_rfl) (by kernel_rfl) rfl (.read rfl (.plain rfl (pj_load_box (ht rfl) (.next .here) (Path.all R_api_Hash) (by kernel_rfl))) <| .read rfl (.plain rfl (pl (ht rfl) (by kernel_rfl))) <| .step 0 rfl .here (.inl rfl) (fun i => ⟨_, _, fun j => j, (w_alloc (x := (Vector.replicate 32 (0#8))) (R := R_api_Hash) (zero_vec 32 zero_un) (by kernel_rfl) rfl), fun _ => rfl, slotAny, dst1⟩) <| .step 1 rfl .here (.inl rfl) (fun i => ⟨_, _, fun j => j, (w_alloc (x := (Vector.replicate 32 (0#8))) (R := R_api_Hash) (zero_vec 32 zero_un) (by kernel_rfl) rfl), fun _ => rfl, slotAny, dst1⟩) <| .step 0 rfl (.next .here) (.inl rfl) (fun i => ⟨_, _, fun _ => i, (w_store (r' := y3) (ht rfl) (ht rfl) .here (Path.all R_api_Hash) (by kernel_rfl) rfl), fun _ => rfl, (slotNo (s := any)), dst0⟩) <| .nil) ?_
      rintro b4 b5
      refine j_to (Γ' := [(1, i64.slot y1), (4, ptrTo R_api_ID p_id), (6, val (.pointer (some ⟨b1, 0, none⟩))), (8, val (.pointer (some ⟨b2, 0, none⟩))), (10, ptrTo R_api_Hash x1), (11, val (.pointer (some ⟨b4, 0, none⟩))), (12, val (.pointer (some ⟨b5, 0, none⟩))), (13, (sl R_api_Hash).slot p_path), (14, i64.slot (p_path.length : Int)), (15, i64.slot y2), (20, R_api_Hash.slot x1)]) (H' := [box b4 23 R_api_Hash y3, box b5 23 R_api_Hash (Vector.replicate 32 (0#8)), box b2 23 R_api_Hash (Vector.replicate 32 (0#8)), box b1 23 R_api_Hash y3]) (.cons (.of_lk rfl) <| .cons (.of_lk rfl) <| .cons (.of_lk rfl) <| .cons (.of_lk rfl) <| .cons (.of_lk rfl) <| .cons (.of_lk rfl) <| .cons (.of_lk rfl) <| .cons (.of_lk rfl) <| .cons (.of_lk rfl) <| .cons (.of_lk rfl) <| .cons (.of_lk rfl) <| .nil) (.cons .here <| .cons .here <| .cons .here <| .cons .here <| .nil) ?_
      refine j_store_boxx (r' := x1) (ht rfl) (ht rfl) (.next .here) (Path.all R_api_Hash) (by kernel_rfl) rfl ?_
      refine j_end ?_
      refine rs ?_
      refine rs ?_
      refine rt ?_
      refine jp (pm (ht rfl)) rfl rfl rfl ?_
      refine jp (pj_irem (ht rfl) has_i64 (by decide)) rfl rfl rfl ?_
      refine jp (pj_ieql (ht rfl) has_i64) rfl rfl rfl ?_
      refine j_end ?_
      obtain ⟨⟨y4, y5⟩, e4, h⟩ := bind_some h
      refine run_joinx (ι := Unit) (Γ' := fun (_ : Unit) => [(1, i64.slot y1), (4, ptrTo R_api_ID p_id), (6, val (.pointer (some ⟨b1, 0, none⟩))), (8, val (.pointer (some ⟨b2, 0, none⟩))), (11, val (.pointer (some ⟨b4, 0, none⟩))), (12, val (.pointer (some ⟨b5, 0, none⟩))), (13, (sl R_api_Hash).slot p_path), (14, i64.slot (p_path.length : Int)), (15, i64.slot y2)]) (H' := fun (_ : Unit) => [box b5 23 R_api_Hash y4, box b4 23 R_api_Hash y5, box b2 23 R_api_Hash (Vector.replicate 32 (0#8)), box b1 23 R_api_Hash y3]) ?_ fun J => ?_
      · intro _
        clear e4
        show Run _ _ _ [(1, i64.slot y1), (4, ptrTo R_api_ID p_id), (6, val (.pointer (some ⟨b1, 0, none⟩))), (8, val (.pointer (some ⟨b2, 0, none⟩))), (11, val (.pointer (some ⟨b4, 0, none⟩))), (12, val (.pointer (some ⟨b5, 0, none⟩))), (13, (sl R_api_Hash).slot p_path), (14, i64.slot (p_path.length : Int)), (15, i64.slot y2)] [box b5 23 R_api_Hash y4, box b4 23 R_api_Hash y5, box b2 23 R_api_Hash (Vector.replicate 32 (0#8)), box b1 23 R_api_Hash y3]
        refine rs ?_
        refine rt ?_
        refine jp (pm (ht rfl)) rfl rfl rfl ?_
        refine jp (pj_iquo (ht rfl) has_i64 (by decide)) rfl rfl rfl ?_
        refine jp (pa (ht rfl)) rfl rfl rfl ?_
        refine j_end ?_
        refine rt ?_
        refine jp (pl (ht rfl) (by kernel_rfl)) rfl rfl rfl ?_
        refine jp (pm (ht rfl)) rfl rfl rfl ?_
        refine jp (pj_load_box (ht rfl) (.next .here) (Path.all R_api_Hash) (by kernel_rfl)) rfl rfl rfl ?_
        refine jp (pj_load_box (ht rfl) .here (Path.all R_api_Hash) (by kernel_rfl)) rfl rfl rfl ?_
        obtain ⟨r1, e5, h⟩ := bind_some h
        refine jp (pj_call (hc (ht rfl) <| hc (ht rfl) <| hc (ht rfl) <| hc (ht rfl) <| hasL_nil) (by kernel_rfl) (c_lms_inner hg1 hg2 e5)) rfl rfl rfl ?_
        refine j_store_boxx (r' := r1) (ht rfl) (ht rfl) (.next (.next (.next .here))) (Path.all R_api_Hash) (by kernel_rfl) rfl ?_
        refine j_end ?_
        refine run_endblock ?_
        refine rt ?_
        refine jp (pj_iadd (ht rfl) has_i64) rfl rfl rfl ?_
        refine jp (pm (ht rfl)) rfl rfl rfl ?_
        refine j_end ?_
        obtain rfl := oi h
        exact run_next () (.cons (.of_lk rfl) <| .cons (.of_lk rfl) <| .cons (.of_lk rfl) <| .cons (.of_lk rfl) <| .cons (.of_lk rfl) <| .cons (.of_lk rfl) <| .cons (.of_lk rfl) <| .nil) (.cons (.next (.next (.next .here))) <| .cons .here <| .nil)
      · refine run_cond (ht rfl) (fun e3 => ?_) (fun e3 => ?_)
        · replace h := bt e3 e4
          refine run_keep (H' := [box b4 23 R_api_Hash y3, box b5 23 R_api_Hash x1, box b2 23 R_api_Hash (Vector.replicate 32 (0#8)), box b1 23 R_api_Hash y3]) (.cons (.next .here) <| .cons .here <| .cons .here <| .cons .here <| .nil) ?_
          refine run_drawL (n := 3) (H := [box b5 23 R_api_Hash x1, box b2 23 R_api_Hash (Vector.replicate 32 (0#8)), box b1 23 R_api_Hash y3]) (Ls := [⟨[box b4 23 R_api_Hash y3], [(2, ⟨Unit, fun (_ : Unit) => [box b4 23 R_api_Hash x1], fun (_ : Unit) => []⟩)]⟩]) (by kernel_rfl) (by kernel_rfl) (by kernel_rfl) (by kernel_rfl) (by kernel_rfl) rfl (.read rfl (.plain rfl (pl (ht rfl) (by kernel_rfl))) <| .read rfl (.plain rfl (pj_load_box (ht rfl) (.next (.next .here)) (Path.all R_api_Hash) (by kernel_rfl))) <| .step 0 rfl .here (.inl rfl) (fun i => ⟨_, _, fun _ => (), (w_store (r' := x1) (ht rfl) (ht rfl) .here (Path.all R_api_Hash) (by kernel_rfl) rfl), fun _ => rfl, (slotNo (s := any)), dst0⟩) <| .nil) ?_
          rintro _
          refine j_to (Γ' := [(1, i64.slot y1), (4, ptrTo R_api_ID p_id), (6, val (.pointer (some ⟨b1, 0, none⟩))), (8, val (.pointer (some ⟨b2, 0, none⟩))), (11, val (.pointer (some ⟨b4, 0, none⟩))), (12, val (.pointer (some ⟨b5, 0, none⟩))), (13, (sl R_api_Hash).slot p_path), (14, i64.slot (p_path.length : Int)), (15, i64.slot y2), (25, R_api_Hash.slot y3)]) (H' := [box b4 23 R_api_Hash x1, box b5 23 R_api_Hash x1, box b2 23 R_api_Hash (Vector.replicate 32 (0#8)), box b1 23 R_api_Hash y3]) (.cons (.of_lk rfl) <| .cons (.of_lk rfl) <| .cons (.of_lk rfl) <| .cons (.of_lk rfl) <| .cons (.of_lk rfl) <| .cons (.of_lk rfl) <| .cons (.of_lk rfl) <| .cons (.of_lk rfl) <| .cons (.of_lk rfl) <| .cons (.of_lk rfl) <| .nil) (.cons .here <| .cons .here <| .cons .here <| .cons .here <| .nil) ?_
          refine j_store_boxx (r' := y3) (ht rfl) (ht rfl) (.next .here) (Path.all R_api_Hash) (by kernel_rfl) rfl ?_
          refine j_end ?_
          obtain ⟨rfl, rfl⟩ := Prod.mk.inj (oi h)
          exact run_to (.cons (.of_lk rfl) <| .cons (.of_lk rfl) <| .cons (.of_lk rfl) <| .cons (.of_lk rfl) <| .cons (.of_lk rfl) <| .cons (.of_lk rfl) <| .cons (.of_lk rfl) <| .cons (.of_lk rfl) <| .cons (.of_lk rfl) <| .nil) (.cons .here <| .cons .here <| .cons .here <| .cons .here <| .nil) (J ())
        · replace h := bf e3 e4
          refine run_skip ?_
          obtain ⟨rfl, rfl⟩ := Prod.mk.inj (oi h)
          exact run_to (.cons (.of_lk rfl) <| .cons (.of_lk rfl) <| .cons (.of_lk rfl) <| .cons (.of_lk rfl) <| .cons (.of_lk rfl) <| .cons (.of_lk rfl) <| .cons (.of_lk rfl) <| .cons (.of_lk rfl) <| .cons (.of_lk rfl) <| .nil) (.cons .here <| .cons .here <| .cons .here <| .cons .here <| .nil) (J ())
    · replace h := bf e1 h
      obtain rfl := oi h
      exact run_brk () (.cons (.of_lk rfl) <| .cons (.of_lk rfl) <| .cons (.of_lk rfl) <| .cons (.of_lk rfl) <| .cons (.of_lk rfl) <| .cons (.of_lk rfl) <| .cons (.of_lk rfl) <| .nil) (.cons .here <| .cons .here <| .nil)
  · rintro _
    show Run _ _ _ [(1, i64.slot y6), (4, ptrTo R_api_ID p_id), (6, val (.pointer (some ⟨b1, 0, none⟩))), (8, val (.pointer (some ⟨b2, 0, none⟩))), (13, (sl R_api_Hash).slot p_path), (14, i64.slot (p_path.length : Int)), (15, i64.slot y7)] [box b2 23 R_api_Hash (Vector.replicate 32 (0#8)), box b1 23 R_api_Hash y8]
    refine run_to (Γ' := [(6, val (.pointer (some ⟨b1, 0, none⟩))), (8, val (.pointer (some ⟨b2, 0, none⟩)))]) (H' := [box b2 23 R_api_Hash (Vector.replicate 32 (0#8)), box b1 23 R_api_Hash y8]) (.cons (.of_lk rfl) <| .cons (.of_lk rfl) <| .nil) (.cons .here <| .cons .here <| .nil) ?_
    refine rs ?_
    refine rt ?_
    refine jp (pj_load_box (ht rfl) (.next .here) (Path.all R_api_Hash) (by kernel_rfl)) rfl rfl rfl ?_
    refine j_store_boxx (r' := y8) (ht rfl) (ht rfl) .here (Path.all R_api_Hash) (by kernel_rfl) rfl ?_
    refine j_end ?_
    obtain rfl := oi h
    exact run_ret fun a w hst => q_ret1 hst rfl (.cell rfl .here (by kernel_rfl)) () (fun _ _ h => h) (.nil)
set_option maxRecDepth 100000 in
set_option maxHeartbeats 4000000 in
theorem c_slices_Equal_byte_byte {G : GP} {p_s1 : List (BitVec 8)} {p_s2 : List (BitVec 8)} {r : Bool} (h : slices_Equal_byte_byte p_s1 p_s2 = some r) : Ctr Tryz.prog G 146 [(sl u8).slot p_s1, (sl u8).slot p_s2] [] (fun (_ : Unit) => bl.slot r) (fun (_ : Unit) => []) := by
  unfold slices_Equal_byte_byte at h
  refine ctr_of_run Tryz.func146 rfl 26 rfl rfl fun m0 w0 b0 => ?_
  refine run_ret0 fun Qf hq1 hq2 => ?_
  show Run _ _ _ [(0, (sl u8).slot p_s1), (1, (sl u8).slot p_s2)] _
  refine rs ?_
  refine rt ?_
  refine jp (pa has_bl) rfl rfl rfl ?_
  refine j_end ?_
  refine rs ?_
  refine rs ?_
  refine rt ?_
  refine jp (pm (ht rfl)) rfl rfl rfl ?_
  refine jp (pj_len_sl (sz := 1) (ht rfl) (by kernel_rfl)) rfl rfl rfl ?_
  refine jp (pm (ht rfl)) rfl rfl rfl ?_
  refine jp (pj_len_sl (sz := 1) (ht rfl) (by kernel_rfl)) rfl rfl rfl ?_
  refine jp (pj_ineq (ht rfl) (ht rfl)) rfl rfl rfl ?_
  refine j_end ?_
  refine run_cond (ht rfl) (fun e1 => ?_) (fun e1 => ?_)
  · replace h := bt e1 h
    refine rs ?_
    refine rt ?_
    refine jp (pa has_bl) rfl rfl rfl ?_
    refine j_end ?_
    obtain rfl := oi h
    exact run_ret fun a w hst => q_ret1 hst rfl (.tmp rfl) () (fun _ _ h => h) (.nil)
  · replace h := bf e1 h
    refine run_skip ?_
    refine rs ?_
    refine rs ?_
    refine rt ?_
    refine jp (pm (ht rfl)) rfl rfl rfl ?_
    refine jp (pj_len_sl (sz := 1) (ht rfl) (by kernel_rfl)) rfl rfl rfl ?_
    refine jp (pm has_i64) rfl rfl rfl ?_
    refine j_end ?_
    obtain ⟨o, e6, h⟩ := bind_some h
    refine run_loop (Γi := fun (i : Unit) (s : Int) => [(0, (sl u8).slot p_s1), (1, (sl u8).slot p_s2), (12, i64.slot (p_s1.length : Int)), (13, i64.slot s)]) (Hi := fun (i : Unit) (s : Int) => []) (R := fun x a w => x = r → Qf a w) e6 () (fun a w hst => (hst.sub (.cons (.of_lk rfl) <| .cons (.of_lk rfl) <| .cons (.of_lk rfl) <| .cons (.of_lk rfl) <| .nil)).keep (.nil)) ?_ ?_ ?_
    · clear h e6
      rintro _ y1 lr h
      change slices_Equal_byte_byte_L1 p_s1 p_s2 y1 = some _ at h
      show Run _ _ _ [(0, (sl u8).slot p_s1), (1, (sl u8).slot p_s2), (12, i64.slot (p_s1.length : Int)), (13, i64.slot y1)] []
      unfold slices_Equal_byte_byte_L1 at h
      refine rs ?_
      refine rt ?_
      refine jp (pj_ilss (ht rfl) (ht rfl)) rfl rfl rfl ?_
      refine j_end ?_
      refine rs ?_
      refine run_cond (ht rfl) (fun e2 => ?_) (fun e2 => ?_)
      · replace h := bt e2 h
        refine run_skip ?_
        refine rs ?_
        refine run_block ?_
        refine rs ?_
        refine rt ?_
        refine jp (pm (ht rfl)) rfl rfl rfl ?_
        refine jp (pa (ht rfl)) rfl rfl rfl ?_
        refine j_end ?_
        refine rs ?_
        obtain ⟨x1, e3, h⟩ := bind_some h
        obtain ⟨x2, e4, h⟩ := bind_some h
        refine run_draw (n := 8) (by kernel_rfl) (by kernel_rfl) (by kernel_rfl) (by kernel_rfl) (.read (.plain rfl (pm (ht rfl))) <| .read (.plain rfl (pm (ht rfl))) <| .read (.plain rfl (pj_index_slx (ht rfl) (ht rfl) isInt_i64 e3 (by kernel_rfl))) <| .read (.plain rfl (pl (ht rfl) (by kernel_rfl))) <| .read (.plain rfl (pm (ht rfl))) <| .read (.plain rfl (pm (ht rfl))) <| .read (.plain rfl (pj_index_slx (ht rfl) (ht rfl) isInt_i64 e4 (by kernel_rfl))) <| .read (.plain rfl (pl (ht rfl) (by kernel_rfl))) <| .nil) (j_to (Γ' := [(0, (sl u8).slot p_s1), (1, (sl u8).slot p_s2), (12, i64.slot (p_s1.length : Int)), (13, i64.slot y1), (19, u8.slot x1), (23, u8.slot x2)]) (H' := []) (.cons (.of_lk rfl) <| .cons (.of_lk rfl) <| .cons (.of_lk rfl) <| .cons (.of_lk rfl) <| .cons (.of_lk rfl) <| .cons (.of_lk rfl) <| .nil) (.nil) ?_)
        refine jp (pj_uneq (k := .u8) (b := 8) (ht rfl) (ht rfl)) rfl rfl rfl ?_
        refine j_end ?_
        refine run_cond (ht rfl) (fun e5 => ?_) (fun e5 => ?_)
        · replace h := bt e5 h
          refine rs ?_
          refine rt ?_
          refine jp (pa has_bl) rfl rfl rfl ?_
          refine j_end ?_
          obtain rfl := oi h
          refine run_ret fun a w hst => ⟨rfl, fun hr => ?_⟩
          subst hr
          exact hq2 a w (q_ret1 hst rfl (.tmp rfl) () (fun _ _ h => h) (.nil))
        · replace h := bf e5 h
          refine run_skip ?_
          refine run_endblock ?_
          refine rt ?_
          refine jp (pj_iadd (ht rfl) has_i64) rfl rfl rfl ?_
          refine jp (pm (ht rfl)) rfl rfl rfl ?_
          refine j_end ?_
          obtain rfl := oi h
          exact run_next () (.cons (.of_lk rfl) <| .cons (.of_lk rfl) <| .cons (.of_lk rfl) <| .cons (.of_lk rfl) <| .nil) (.nil)
      · replace h := bf e2 h
        obtain rfl := oi h
        exact run_brk () (.cons (.of_lk rfl) <| .cons (.of_lk rfl) <| .cons (.of_lk rfl) <| .cons (.of_lk rfl) <| .nil) (.nil)
    · rintro _ y2 ho
      subst ho
      show Run _ _ _ [(0, (sl u8).slot p_s1), (1, (sl u8).slot p_s2), (12, i64.slot (p_s1.length : Int)), (13, i64.slot y2)] []
      refine run_to (Γ' := []) (H' := []) (.nil) (.nil) ?_
      refine rs ?_
      refine rt ?_
      refine jp (pa has_bl) rfl rfl rfl ?_
      refine j_end ?_
      obtain rfl := oi h
      exact run_ret fun a w hst => q_ret1 hst rfl (.tmp rfl) () (fun _ _ h => h) (.nil)
    · intro x a w ho hR
      subst ho
      exact hq1 a w (hR (oi h))
set_option maxRecDepth 100000 in
set_option maxHeartbeats 4000000 in
theorem c_lms_Verify {G : GP} (hg0 : HG0 G) (hg1 : HG1 G) (hg2 : HG2 G) {p_public : List (BitVec 8)} {p_message : List (BitVec 8)} {p_sig : List (BitVec 8)} {r : Bool} (h : lms_Verify p_public p_message p_sig = some r) : Ctr Tryz.prog G 99 [(sl u8).slot p_public, (sl u8).slot p_message, (sl u8).slot p_sig] [] (fun (_ : Unit) => bl.slot r) (fun (_ : Unit) => []) := by
  unfold lms_Verify at h
  refine ctr_of_run Tryz.func99 rfl 77 rfl rfl fun m0 w0 b0 => ?_
  show Run _ _ _ [(0, (sl u8).slot p_public), (1, (sl u8).slot p_message), (2, (sl u8).slot p_sig)] _
  refine rs ?_
  refine rt ?_
  refine jp (pa has_bl) rfl rfl rfl ?_
  refine j_end ?_
  refine rs ?_
  refine rs ?_
  refine rt ?_
  refine jp (pm (ht rfl)) rfl rfl rfl ?_
  refine jp (pj_len_sl (sz := 1) (ht rfl) (by kernel_rfl)) rfl rfl rfl ?_
  refine jp (pj_ineq (ht rfl) has_i64) rfl rfl rfl ?_
  refine j_end ?_
  refine run_cond (ht rfl) (fun e1 => ?_) (fun e1 => ?_)
  · replace h := bt e1 h
    refine rs ?_
    refine rt ?_
    refine jp (pa has_bl) rfl rfl rfl ?_
    refine j_end ?_
    obtain rfl := oi h
    exact run_ret fun a w hst => q_ret1 hst rfl (.tmp rfl) () (fun _ _ h => h) (.nil)
  · replace h := bf e1 h
    refine run_skip ?_
    refine rs ?_
    refine rt ?_
    refine jp (pm (ht rfl)) rfl rfl rfl ?_
    obtain ⟨r1, e2, h⟩ := bind_some h
    refine j_call (hc (ht rfl) <| hasL_nil) (by kernel_rfl) (c_wire_New e2) .nil rfl fun b1 => ?_
    refine jp (pa (ht rfl)) rfl rfl rfl ?_
    refine j_end ?_
    refine rs ?_
    refine rt ?_
    refine jp (pm (ht rfl)) rfl rfl rfl ?_
    obtain ⟨r2, e3, h⟩ := bind_some h
    refine j_call (hc (ht rfl) <| hasL_nil) (by kernel_rfl) (c_wire_Reader_U32 e3) (.cons .here <| .nil) rfl fun _ => ?_
    refine jp (pj_conv_ui (by decide) (by kernel_rfl) (ht rfl)) rfl rfl rfl ?_
    refine jp (pm (ht rfl)) rfl rfl rfl ?_
    obtain ⟨r3, e4, h⟩ := bind_some h
    refine j_call (hc (ht rfl) <| hasL_nil) (by kernel_rfl) (c_wire_Reader_U32 e4) (.cons .here <| .nil) rfl fun _ => ?_
    refine jp (pj_conv_ui (by decide) (by kernel_rfl) (ht rfl)) rfl rfl rfl ?_
    refine jp (pa (ht rfl)) rfl rfl rfl ?_
    refine jp (pa (ht rfl)) rfl rfl rfl ?_
    refine j_end ?_
    refine rs ?_
    obtain ⟨r4, e5, h⟩ := bind_some h
    obtain ⟨x1, e6, h⟩ := bind_some h
    obtain ⟨r5, e7, h⟩ := bind_some h
    refine run_keep (H' := [box b1 208 (prod (sl u8) bl) (r3.1.1, r3.1.2)]) (.cons .here <| .nil) ?_
    refine run_drawL (n := 7) (H := []) (Ls := [⟨[box b1 208 (prod (sl u8) bl) (r3.1.1, r3.1.2)], [(1, ⟨Unit, fun (_ : Unit) => [box b1 208 (prod (sl u8) bl) (r4.1.1, r4.1.2)], fun (_ : Unit) => [(29, (sl u8).slot r4.2)]⟩), (5, ⟨Unit, fun (_ : Unit) => [box b1 208 (prod (sl u8) bl) (r5.1.1, r5.1.2)], fun (_ : Unit) => [(33, (sl u8).slot r5.2), (29, (sl u8).slot r4.2)]⟩)]⟩, ⟨[], [(6, ⟨Nat, fun (b2 : Nat) => [box b2 95 R_api_ID (Vector.replicate 16 (0#8))], fun (b2 : Nat) => [(10, val (.pointer (some ⟨b2, 0, none⟩)))]⟩)]⟩]) (by kernel_rfl) (by kernel_rfl) (by kernel_rfl) (by kernel_rfl) (by kernel_rfl) rfl (.read rfl (.plain rfl (pm (ht rfl))) <| .step 0 rfl .here (.inl rfl) (fun i => ⟨_, _, fun _ => (), (w_call (hc (ht rfl) <| hc has_i64 <| hasL_nil) (by kernel_rfl) (c_wire_Reader_Plain e5) (.cons .here <| .nil) rfl), fun _ => rfl, slotIs, dst1⟩) <| .read rfl (.plain rfl (pj_s2apx (e := 5) (ht rfl) e6 rfl (by kernel_rfl))) <| .read rfl (.plain rfl (pl (ht rfl) (by kernel_rfl))) <| .read rfl (.plain rfl (pm (ht rfl))) <| .step 0 rfl (.next .here) (.inl rfl) (fun i => ⟨_, _, fun _ => (), (w_call (hc (ht rfl) <| hc has_i64 <| hasL_nil) (by kernel_rfl) (c_wire_Reader_Plain e7) (.cons .here <| .nil) rfl), fun _ => rfl, slotIs, dst1⟩) <| .step 1 rfl .here (.inl rfl) (fun i => ⟨_, _, fun j => j, (w_alloc (x := (Vector.replicate 16 (0#8))) (R := R_api_ID) (zero_vec 16 zero_un) (by kernel_rfl) rfl), fun _ => rfl, slotAny, dst1⟩) <| .nil) ?_
    rintro _ b2
    refine j_to (Γ' := [(1, (sl u8).slot p_message), (2, (sl u8).slot p_sig), (8, i64.slot (r2.2.toNat : Int)), (9, i64.slot (r3.2.toNat : Int)), (10, val (.pointer (some ⟨b2, 0, none⟩))), (31, R_api_ID.slot x1), (33, (sl u8).slot r5.2)]) (H' := [box b2 95 R_api_ID (Vector.replicate 16 (0#8))]) (.cons (.of_lk rfl) <| .cons (.of_lk rfl) <| .cons (.of_lk rfl) <| .cons (.of_lk rfl) <| .cons (.of_lk rfl) <| .cons (.of_lk rfl) <| .cons (.of_lk rfl) <| .nil) (.cons (.next .here) <| .nil) ?_
    refine j_store_boxx (r' := x1) (ht rfl) (ht rfl) .here (Path.all R_api_ID) (by kernel_rfl) rfl ?_
    refine j_freezeTo (t := 10) .here (.of_lk rfl) ?_
    refine jp (pa (ht rfl)) rfl rfl rfl ?_
    refine j_end ?_
    refine rs ?_
    refine rs ?_
    refine rt ?_
    refine jp (pm (ht rfl)) rfl rfl rfl ?_
    refine jp (pm (ht rfl)) rfl rfl rfl ?_
    obtain ⟨r6, e8, h⟩ := bind_some h
    refine jp (pj_call (hc (ht rfl) <| hc (ht rfl) <| hasL_nil) (by kernel_rfl) (c_lms_may hg0 e8)) rfl rfl rfl ?_
    refine jp (pj_not (ht rfl)) rfl rfl rfl ?_
    refine j_end ?_
    refine run_cond (ht rfl) (fun e9 => ?_) (fun e9 => ?_)
    · replace h := bt e9 h
      refine rs ?_
      refine rt ?_
      refine jp (pa has_bl) rfl rfl rfl ?_
      refine j_end ?_
      obtain rfl := oi h
      exact run_ret fun a w hst => q_ret1 hst rfl (.tmp rfl) () (fun _ _ h => h) (.nil)
    · replace h := bf e9 h
      refine run_skip ?_
      refine rs ?_
      refine rt ?_
      refine jp (pm (ht rfl)) rfl rfl rfl ?_
      refine jp (pm (ht rfl)) rfl rfl rfl ?_
      refine jp (pm (ht rfl)) rfl rfl rfl ?_
      obtain ⟨r7, e10, h⟩ := bind_some h
      refine jp (pj_call (hc (ht rfl) <| hc (ht rfl) <| hc (ht rfl) <| hasL_nil) (by kernel_rfl) (c_lms_parted hg0 e10)) rfl rfl rfl ?_
      refine jp (pm (ht rfl)) rfl rfl rfl ?_
      refine jp (pj_extract (ht rfl) rfl) rfl rfl rfl ?_
      refine jp (pj_extract (ht rfl) rfl) rfl rfl rfl ?_
      refine j_alloc (x := (0, ([] : List (BitVec 8)), ([] : List T_api_Hash))) (R := R_lms_signature) (zero_prod zero_i64 (zero_prod zero_sl zero_sl)) (by kernel_rfl) rfl fun b3 => ?_
      refine j_store_boxx (r' := r7.1) (ht rfl) (ht rfl) .here (Path.all R_lms_signature) (by kernel_rfl) rfl ?_
      refine j_freezeTo (t := 12) .here (.of_lk rfl) ?_
      refine jp (pa (ht rfl)) rfl rfl rfl ?_
      refine j_end ?_
      refine rs ?_
      refine rs ?_
      refine rt ?_
      refine jp (pm (ht rfl)) rfl rfl rfl ?_
      refine jp (pj_not (ht rfl)) rfl rfl rfl ?_
      refine j_end ?_
      refine run_cond (ht rfl) (fun e11 => ?_) (fun e11 => ?_)
      · replace h := bt e11 h
        refine rs ?_
        refine rt ?_
        refine jp (pa has_bl) rfl rfl rfl ?_
        refine j_end ?_
        obtain rfl := oi h
        exact run_ret fun a w hst => q_ret1 hst rfl (.tmp rfl) () (fun _ _ h => h) (.nil)
      · replace h := bf e11 h
        refine run_skip ?_
        refine rs ?_
        refine rt ?_
        refine jp (pl (ht rfl) (by kernel_rfl)) rfl rfl rfl ?_
        refine jp (pj_field_to (ht rfl) (Path.fst i64 (prod (sl u8) (sl R_api_Hash))) (by kernel_rfl)) rfl rfl rfl ?_
        refine jp (pl (ht rfl) (by kernel_rfl)) rfl rfl rfl ?_
        refine jp (pj_conv_un (k := .u32) (b := 32) rfl rfl (by kernel_rfl) (ht rfl) isInt_i64) rfl rfl rfl ?_
        refine jp (pm (ht rfl)) rfl rfl rfl ?_
        refine jp (pj_field_to (ht rfl) (Path.then (Path.snd i64 (prod (sl u8) (sl R_api_Hash))) (Path.fst (sl u8) (sl R_api_Hash))) (by kernel_rfl)) rfl rfl rfl ?_
        refine jp (pl (ht rfl) (by kernel_rfl)) rfl rfl rfl ?_
        obtain ⟨r8, e12, h⟩ := bind_some h
        refine jp (pj_call (hc (ht rfl) <| hc (ht rfl) <| hc (ht rfl) <| hc (ht rfl) <| hasL_nil) (by kernel_rfl) (c_lmots_Recover hg0 hg1 hg2 e12)) rfl rfl rfl ?_
        refine jp (pm (ht rfl)) rfl rfl rfl ?_
        refine jp (pj_extract (ht rfl) rfl) rfl rfl rfl ?_
        refine jp (pj_extract (ht rfl) rfl) rfl rfl rfl ?_
        refine j_alloc (x := (Vector.replicate 32 (0#8))) (R := R_api_Hash) (zero_vec 32 zero_un) (by kernel_rfl) rfl fun b4 => ?_
        refine j_store_boxx (r' := r8.1) (ht rfl) (ht rfl) .here (Path.all R_api_Hash) (by kernel_rfl) rfl ?_
        refine j_freezeTo (t := 14) .here (.of_lk rfl) ?_
        refine jp (pa (ht rfl)) rfl rfl rfl ?_
        refine j_end ?_
        refine rs ?_
        refine rs ?_
        refine rt ?_
        refine jp (pm (ht rfl)) rfl rfl rfl ?_
        refine jp (pj_not (ht rfl)) rfl rfl rfl ?_
        refine j_end ?_
        refine run_cond (ht rfl) (fun e13 => ?_) (fun e13 => ?_)
        · replace h := bt e13 h
          refine rs ?_
          refine rt ?_
          refine jp (pa has_bl) rfl rfl rfl ?_
          refine j_end ?_
          obtain rfl := oi h
          exact run_ret fun a w hst => q_ret1 hst rfl (.tmp rfl) () (fun _ _ h => h) (.nil)
        · replace h := bf e13 h
          refine run_skip ?_
          refine rs ?_
          obtain ⟨e14, h⟩ := grd_some h
          refine run_draw (n := 4) (by kernel_rfl) (by kernel_rfl) (by kernel_rfl) (by kernel_rfl) (.read (.plain rfl (pm (ht rfl))) <| .read (.plain rfl (pj_ishl has_i64 (ht rfl) isInt_i64 e14)) <| .read (.plain rfl (pj_field_to (ht rfl) (Path.fst i64 (prod (sl u8) (sl R_api_Hash))) (by kernel_rfl))) <| .read (.plain rfl (pl (ht rfl) (by kernel_rfl))) <| .nil) (j_to (Γ' := [(10, ptrTo R_api_ID x1), (11, (sl u8).slot r5.2), (12, ptrTo R_lms_signature r7.1), (14, ptrTo R_api_Hash r8.1), (61, i64.slot (ishl (1 : Int) (r2.2.toNat : Int))), (63, i64.slot r7.1.1)]) (H' := []) (.cons (.of_lk rfl) <| .cons (.of_lk rfl) <| .cons (.of_lk rfl) <| .cons (.of_lk rfl) <| .cons (.of_lk rfl) <| .cons (.of_lk rfl) <| .nil) (.nil) ?_)
          refine jp (pj_iadd (ht rfl) (ht rfl)) rfl rfl rfl ?_
          obtain ⟨x2, e15, h⟩ := bind_some h
          refine jp (PJ.eqv (pa (ht rfl)) (oi e15)) rfl rfl rfl ?_
          refine j_end ?_
          refine rs ?_
          obtain ⟨r9, e16, h⟩ := bind_some h
          obtain ⟨r10, e17, h⟩ := bind_some h
          refine run_keep (H' := []) (.nil) ?_
          refine run_drawL (n := 10) (H := []) (Ls := [⟨[], [(9, ⟨Nat, fun (b5 : Nat) => [box b5 23 R_api_Hash (Vector.replicate 32 (0#8))], fun (b5 : Nat) => [(16, val (.pointer (some ⟨b5, 0, none⟩)))]⟩)]⟩]) (by kernel_rfl) (by kernel_rfl) (by kernel_rfl) (by kernel_rfl) (by kernel_rfl) rfl (.read rfl (.plain rfl (pl (ht rfl) (by kernel_rfl))) <| .read rfl (.plain rfl (pm (ht rfl))) <| .read rfl (.plain rfl (pl (ht rfl) (by kernel_rfl))) <| .read rfl (.plain rfl (pm (ht rfl))) <| .read rfl (.plain rfl (pl (ht rfl) (by kernel_rfl))) <| .read rfl (.plain rfl (pj_call (hc (ht rfl) <| hc (ht rfl) <| hc (ht rfl) <| hasL_nil) (by kernel_rfl) (c_lms_leaf hg1 hg2 e16))) <| .read rfl (.plain rfl (pj_field_to (ht rfl) (Path.then (Path.snd i64 (prod (sl u8) (sl R_api_Hash))) (Path.snd (sl u8) (sl R_api_Hash))) (by kernel_rfl))) <| .read rfl (.plain rfl (pl (ht rfl) (by kernel_rfl))) <| .read rfl (.plain rfl (pj_call (hc (ht rfl) <| hc (ht rfl) <| hc (ht rfl) <| hc (ht rfl) <| hasL_nil) (by kernel_rfl) (c_lms_climb hg1 hg2 e17))) <| .step 0 rfl .here (.inl rfl) (fun i => ⟨_, _, fun j => j, (w_alloc (x := (Vector.replicate 32 (0#8))) (R := R_api_Hash) (zero_vec 32 zero_un) (by kernel_rfl) rfl), fun _ => rfl, slotAny, dst1⟩) <| .nil) ?_
          rintro b5
          refine j_to (Γ' := [(11, (sl u8).slot r5.2), (16, val (.pointer (some ⟨b5, 0, none⟩))), (73, R_api_Hash.slot r10)]) (H' := [box b5 23 R_api_Hash (Vector.replicate 32 (0#8))]) (.cons (.of_lk rfl) <| .cons (.of_lk rfl) <| .cons (.of_lk rfl) <| .nil) (.cons .here <| .nil) ?_
          refine j_store_boxx (r' := r10) (ht rfl) (ht rfl) .here (Path.all R_api_Hash) (by kernel_rfl) rfl ?_
          refine j_freezeTo (t := 16) .here (.of_lk rfl) ?_
          refine j_end ?_
          refine rs ?_
          refine rt ?_
          refine jp (pj_slice_toF (ht rfl) (by decide) (by kernel_rfl)) rfl rfl rfl ?_
          refine jp (pm (ht rfl)) rfl rfl rfl ?_
          obtain ⟨r11, e18, h⟩ := bind_some h
          refine jp (pj_call (hc (ht rfl) <| hc (ht rfl) <| hasL_nil) (by kernel_rfl) (c_slices_Equal_byte_byte e18)) rfl rfl rfl ?_
          refine jp (pa (ht rfl)) rfl rfl rfl ?_
          refine j_end ?_
          obtain rfl := oi h
          exact run_ret fun a w hst => q_ret1 hst rfl (.tmp rfl) () (fun _ _ h => h) (.nil)
set_option maxRecDepth 100000 in
set_option maxHeartbeats 4000000 in
theorem c_hss_Verify {G : GP} (hg0 : HG0 G) (hg1 : HG1 G) (hg2 : HG2 G) {p_public : List (BitVec 8)} {p_message : List (BitVec 8)} {p_signature : List (BitVec 8)} {r : Bool} (h : hss_Verify p_public p_message p_signature = some r) : Ctr Tryz.prog G 53 [(sl u8).slot p_public, (sl u8).slot p_message, (sl u8).slot p_signature] [] (fun (_ : Unit) => bl.slot r) (fun (_ : Unit) => []) := by
  unfold hss_Verify at h
  refine ctr_of_run Tryz.func53 rfl 60 rfl rfl fun m0 w0 b0 => ?_
  show Run _ _ _ [(0, (sl u8).slot p_public), (1, (sl u8).slot p_message), (2, (sl u8).slot p_signature)] _
  refine rs ?_
  refine rt ?_
  refine jp (pa has_bl) rfl rfl rfl ?_
  refine j_end ?_
  refine rs ?_
  refine rs ?_
  refine rt ?_
  refine jp (pm (ht rfl)) rfl rfl rfl ?_
  refine jp (pj_len_sl (sz := 1) (ht rfl) (by kernel_rfl)) rfl rfl rfl ?_
  refine jp (pj_ineq (ht rfl) has_i64) rfl rfl rfl ?_
  refine j_end ?_
  refine run_cond (ht rfl) (fun e1 => ?_) (fun e1 => ?_)
  · replace h := bt e1 h
    refine rs ?_
    refine rt ?_
    refine jp (pa has_bl) rfl rfl rfl ?_
    refine j_end ?_
    obtain rfl := oi h
    exact run_ret fun a w hst => q_ret1 hst rfl (.tmp rfl) () (fun _ _ h => h) (.nil)
  · replace h := bf e1 h
    refine run_skip ?_
    refine rs ?_
    refine rt ?_
    refine jp (pm (ht rfl)) rfl rfl rfl ?_
    obtain ⟨r1, e2, h⟩ := bind_some h
    refine j_call (hc (ht rfl) <| hasL_nil) (by kernel_rfl) (c_wire_New e2) .nil rfl fun b1 => ?_
    refine jp (pa (ht rfl)) rfl rfl rfl ?_
    refine j_end ?_
    refine rs ?_
    refine rs ?_
    refine rt ?_
    refine jp (pm (ht rfl)) rfl rfl rfl ?_
    obtain ⟨r2, e3, h⟩ := bind_some h
    refine j_call (hc (ht rfl) <| hasL_nil) (by kernel_rfl) (c_wire_Reader_U32 e3) (.cons .here <| .nil) rfl fun _ => ?_
    refine jp (pj_uneq (k := .u32) (b := 32) (ht rfl) (has_un (x := 2#32) rfl)) rfl rfl rfl ?_
    refine j_end ?_
    refine run_cond (ht rfl) (fun e4 => ?_) (fun e4 => ?_)
    · replace h := bt e4 h
      refine rs ?_
      refine rt ?_
      refine jp (pa has_bl) rfl rfl rfl ?_
      refine j_end ?_
      obtain rfl := oi h
      exact run_ret fun a w hst => q_ret1 hst rfl (.tmp rfl) () (fun _ _ h => h) (.nil)
    · replace h := bf e4 h
      refine run_skip ?_
      refine rs ?_
      refine rt ?_
      refine jp (pm (ht rfl)) rfl rfl rfl ?_
      obtain ⟨r3, e5, h⟩ := bind_some h
      refine j_call (hc (ht rfl) <| hasL_nil) (by kernel_rfl) (c_wire_Reader_U32 e5) (.cons .here <| .nil) rfl fun _ => ?_
      refine jp (pj_conv_ui (by decide) (by kernel_rfl) (ht rfl)) rfl rfl rfl ?_
      refine jp (pm (ht rfl)) rfl rfl rfl ?_
      obtain ⟨r4, e6, h⟩ := bind_some h
      refine j_call (hc (ht rfl) <| hasL_nil) (by kernel_rfl) (c_wire_Reader_U32 e6) (.cons .here <| .nil) rfl fun _ => ?_
      refine jp (pj_conv_ui (by decide) (by kernel_rfl) (ht rfl)) rfl rfl rfl ?_
      refine jp (pa (ht rfl)) rfl rfl rfl ?_
      refine jp (pa (ht rfl)) rfl rfl rfl ?_
      refine j_end ?_
      refine rs ?_
      refine rt ?_
      refine jp (pm (ht rfl)) rfl rfl rfl ?_
      obtain ⟨r5, e7, h⟩ := bind_some h
      refine j_call (hc (ht rfl) <| hasL_nil) (by kernel_rfl) (c_wire_New e7) .nil rfl fun b2 => ?_
      refine jp (pa (ht rfl)) rfl rfl rfl ?_
      refine j_end ?_
      refine rs ?_
      refine rs ?_
      refine rt ?_
      refine jp (pm (ht rfl)) rfl rfl rfl ?_
      obtain ⟨r6, e8, h⟩ := bind_some h
      refine j_call (hc (ht rfl) <| hasL_nil) (by kernel_rfl) (c_wire_Reader_U32 e8) (.cons .here <| .nil) rfl fun _ => ?_
      refine jp (pj_uneq (k := .u32) (b := 32) (ht rfl) (has_un (x := 1#32) rfl)) rfl rfl rfl ?_
      refine j_end ?_
      refine run_cond (ht rfl) (fun e9 => ?_) (fun e9 => ?_)
      · replace h := bt e9 h
        refine rs ?_
        refine rt ?_
        refine jp (pa has_bl) rfl rfl rfl ?_
        refine j_end ?_
        obtain rfl := oi h
        exact run_ret fun a w hst => q_ret1 hst rfl (.tmp rfl) () (fun _ _ h => h) (.nil)
      · replace h := bf e9 h
        refine run_skip ?_
        refine rs ?_
        refine rt ?_
        refine jp (pm (ht rfl)) rfl rfl rfl ?_
        refine jp (pm (ht rfl)) rfl rfl rfl ?_
        refine jp (pm (ht rfl)) rfl rfl rfl ?_
        obtain ⟨r7, e10, h⟩ := bind_some h
        refine jp (pj_call (hc (ht rfl) <| hc (ht rfl) <| hasL_nil) (by kernel_rfl) (c_lms_Size hg0 e10)) rfl rfl rfl ?_
        obtain ⟨r8, e11, h⟩ := bind_some h
        refine j_call (hc (ht rfl) <| hc (ht rfl) <| hasL_nil) (by kernel_rfl) (c_wire_Reader_Plain e11) (.cons .here <| .nil) rfl fun _ => ?_
        refine jp (pa (ht rfl)) rfl rfl rfl ?_
        refine j_end ?_
        refine rs ?_
        refine rt ?_
        refine jp (pm (ht rfl)) rfl rfl rfl ?_
        obtain ⟨r9, e12, h⟩ := bind_some h
        refine j_call (hc (ht rfl) <| hc has_i64 <| hasL_nil) (by kernel_rfl) (c_wire_Reader_Plain e12) (.cons .here <| .nil) rfl fun _ => ?_
        refine jp (pa (ht rfl)) rfl rfl rfl ?_
        refine j_end ?_
        refine rs ?_
        refine rt ?_
        refine jp (pm (ht rfl)) rfl rfl rfl ?_
        refine jp (pm (ht rfl)) rfl rfl rfl ?_
        obtain ⟨r10, e13, h⟩ := bind_some h
        refine jp (pj_callR (hc (ht rfl) <| hasL_nil) .here (by kernel_rfl) (fun _ => (c_wire_Reader_Left e13))) rfl rfl rfl ?_
        obtain ⟨r11, e14, h⟩ := bind_some h
        refine j_call (hc (ht rfl) <| hc (ht rfl) <| hasL_nil) (by kernel_rfl) (c_wire_Reader_Plain e14) (.cons .here <| .nil) rfl fun _ => ?_
        refine jp (pa (ht rfl)) rfl rfl rfl ?_
        refine j_end ?_
        refine rs ?_
        refine rt ?_
        refine jp (pm (ht rfl)) rfl rfl rfl ?_
        obtain ⟨r12, e15, h⟩ := bind_some h
        refine jp (pj_callR (hc (ht rfl) <| hasL_nil) .here (by kernel_rfl) (fun _ => (c_wire_Reader_Fails e15))) rfl rfl rfl ?_
        refine jp (pj_not (ht rfl)) rfl rfl rfl ?_
        refine jp (pm (ht rfl)) rfl rfl rfl ?_
        obtain ⟨y1, e17, h⟩ := bind_some h
        refine j_joinx (ι := Unit) (Γ' := fun _ => [(1, (sl u8).slot p_message), (12, (sl u8).slot r9.2), (13, (sl u8).slot r11.2), (53, bl.slot y1)]) (H' := fun _ => []) 6 ?_ fun J => ?_
        · intro _
          clear e17
          show OpsJ _ _ _ [(1, (sl u8).slot p_message), (12, (sl u8).slot r9.2), (13, (sl u8).slot r11.2), (53, bl.slot y1)] [] _
          refine jp (pm (ht rfl)) rfl rfl rfl ?_
          obtain ⟨y2, e21, h⟩ := bind_some h
          refine j_joinx (ι := Unit) (Γ' := fun _ => [(59, bl.slot y2)]) (H' := fun _ => []) 5 ?_ fun J => ?_
          · intro _
            clear e21
            show OpsJ _ _ _ [(59, bl.slot y2)] [] _
            refine jp (pa (ht rfl)) rfl rfl rfl ?_
            refine j_end ?_
            obtain rfl := oi h
            exact run_ret fun a w hst => q_ret1 hst rfl (.tmp rfl) () (fun _ _ h => h) (.nil)
          · rcases bool_tf (y1) with e20 | e20
            · replace e21 := bt e20 e21
              refine jy (pm (ht rfl)) rfl rfl rfl rfl (bl_isx e20) rfl rfl ?_
              refine jy (pm (ht rfl)) rfl rfl rfl rfl (bl_isx e20) rfl rfl ?_
              refine jy (pm (ht rfl)) rfl rfl rfl rfl (bl_isx e20) rfl rfl ?_
              obtain ⟨r14, e22, e21⟩ := bind_some e21
              refine jy (pj_call (hc (ht rfl) <| hc (ht rfl) <| hc (ht rfl) <| hasL_nil) (by kernel_rfl) (c_lms_Verify hg0 hg1 hg2 e22)) rfl rfl rfl rfl (bl_isx e20) rfl rfl ?_
              refine jp (PJ.eqv (R := bl) (pj_pick (t := any) (ht rfl) (fun _ => (ht rfl)) (fun he => absurd (e20.symm.trans he) (by decide))) (oi e21)) rfl rfl rfl ?_
              exact j_to (.cons (.of_lk rfl) <| .nil) (.nil) (J ())
            · replace e21 := bf e20 e21
              refine j_guard_no2 (j := 10) (want := true) rfl rfl rfl rfl (bl_isx e20) rfl rfl rfl ?_
              refine j_guard_no2 (j := 10) (want := true) rfl rfl rfl rfl (bl_isx e20) rfl rfl rfl ?_
              refine j_guard_no2 (j := 10) (want := true) rfl rfl rfl rfl (bl_isx e20) rfl rfl rfl ?_
              refine j_guard_no2 (j := 10) (want := true) rfl rfl rfl rfl (bl_isx e20) rfl rfl rfl ?_
              refine jp (PJ.eqv (R := bl) (pj_pick (t := any) (ht rfl) (fun he => absurd (e20.symm.trans he) (by decide)) (fun _ => has_bl)) (oi e21)) rfl rfl rfl ?_
              exact j_to (.cons (.of_lk rfl) <| .nil) (.nil) (J ())
        · rcases bool_tf (!r12) with e16 | e16
          · replace e17 := bt e16 e17
            refine jy (pm (ht rfl)) rfl rfl rfl rfl (bl_isx e16) rfl rfl ?_
            obtain ⟨x1, e18, e17⟩ := bind_some e17
            refine jy (pj_slice_slx (ht rfl) (.yes has_i64 isInt_i64) .no e18 (by kernel_rfl)) rfl rfl rfl rfl (bl_isx e16) rfl rfl ?_
            refine jy (pm (ht rfl)) rfl rfl rfl rfl (bl_isx e16) rfl rfl ?_
            refine jy (pm (ht rfl)) rfl rfl rfl rfl (bl_isx e16) rfl rfl ?_
            obtain ⟨r13, e19, e17⟩ := bind_some e17
            refine jy (pj_call (hc (ht rfl) <| hc (ht rfl) <| hc (ht rfl) <| hasL_nil) (by kernel_rfl) (c_lms_Verify hg0 hg1 hg2 e19)) rfl rfl rfl rfl (bl_isx e16) rfl rfl ?_
            refine jp (PJ.eqv (R := bl) (pj_pick (t := any) (ht rfl) (fun _ => (ht rfl)) (fun he => absurd (e16.symm.trans he) (by decide))) (oi e17)) rfl rfl rfl ?_
            exact j_to (.cons (.of_lk rfl) <| .cons (.of_lk rfl) <| .cons (.of_lk rfl) <| .cons (.of_lk rfl) <| .nil) (.nil) (J ())
          · replace e17 := bf e16 e17
            refine j_guard_no2 (j := 3) (want := true) rfl rfl rfl rfl (bl_isx e16) rfl rfl rfl ?_
            refine j_guard_no2 (j := 3) (want := true) rfl rfl rfl rfl (bl_isx e16) rfl rfl rfl ?_
            refine j_guard_no2 (j := 3) (want := true) rfl rfl rfl rfl (bl_isx e16) rfl rfl rfl ?_
            refine j_guard_no2 (j := 3) (want := true) rfl rfl rfl rfl (bl_isx e16) rfl rfl rfl ?_
            refine j_guard_no2 (j := 3) (want := true) rfl rfl rfl rfl (bl_isx e16) rfl rfl rfl ?_
            refine jp (PJ.eqv (R := bl) (pj_pick (t := any) (ht rfl) (fun he => absurd (e16.symm.trans he) (by decide)) (fun _ => has_bl)) (oi e17)) rfl rfl rfl ?_
            exact j_to (.cons (.of_lk rfl) <| .cons (.of_lk rfl) <| .cons (.of_lk rfl) <| .cons (.of_lk rfl) <| .nil) (.nil) (J ())
set_option maxRecDepth 100000 in
set_option maxHeartbeats 4000000 in
theorem c_head_Right {G : GP} (hg0 : HG0 G) (hg1 : HG1 G) (hg2 : HG2 G) {p_s : T_head_Signed} {p_public : List (BitVec 8)} {r : Bool} (h : head_Right p_s p_public = some r) : Ctr Tryz.prog G 14 [R_head_Signed.slot p_s, (sl u8).slot p_public] [] (fun (_ : Unit) => bl.slot r) (fun (_ : Unit) => []) := by
  unfold head_Right at h
  refine ctr_of_run Tryz.func14 rfl 22 rfl rfl fun m0 w0 b0 => ?_
  show Run _ _ _ [(0, R_head_Signed.slot p_s), (1, (sl u8).slot p_public)] _
  refine rs ?_
  refine rt ?_
  refine jp (pj_box_to (ht rfl)) rfl rfl rfl ?_
  refine jp (pa has_bl) rfl rfl rfl ?_
  refine j_end ?_
  refine rs ?_
  refine rt ?_
  refine jp (pj_field_to (ht rfl) (Path.fst R_head_Head (sl u8)) (by kernel_rfl)) rfl rfl rfl ?_
  refine jp (pl (ht rfl) (by kernel_rfl)) rfl rfl rfl ?_
  obtain ⟨r1, e1, h⟩ := bind_some h
  refine jp (pj_call (hc (ht rfl) <| hasL_nil) (by kernel_rfl) (Ctr.froze2 (c_head_Encode e1))) rfl rfl rfl ?_
  refine jp (pm (ht rfl)) rfl rfl rfl ?_
  refine jp (pj_extract (ht rfl) rfl) rfl rfl rfl ?_
  refine jp (pj_extract (ht rfl) rfl) rfl rfl rfl ?_
  refine jp (pa (ht rfl)) rfl rfl rfl ?_
  refine jp (pa (ht rfl)) rfl rfl rfl ?_
  refine j_end ?_
  refine rs ?_
  refine rt ?_
  refine jp (pm (ht rfl)) rfl rfl rfl ?_
  refine jp (pj_ieql (ht rfl) has_i64) rfl rfl rfl ?_
  refine jp (pm (ht rfl)) rfl rfl rfl ?_
  obtain ⟨y1, e3, h⟩ := bind_some h
  refine j_joinx (ι := Unit) (Γ' := fun _ => [(21, bl.slot y1)]) (H' := fun _ => []) 6 ?_ fun J => ?_
  · intro _
    clear e3
    show OpsJ _ _ _ [(21, bl.slot y1)] [] _
    refine jp (pa (ht rfl)) rfl rfl rfl ?_
    refine j_end ?_
    obtain rfl := oi h
    exact run_ret fun a w hst => q_ret1 hst rfl (.tmp rfl) () (fun _ _ h => h) (.nil)
  · rcases bool_tf (decide (r1.2 = (0 : Int))) with e2 | e2
    · replace e3 := bt e2 e3
      refine jy (pm (ht rfl)) rfl rfl rfl rfl (bl_isx e2) rfl rfl ?_
      refine jy (pm (ht rfl)) rfl rfl rfl rfl (bl_isx e2) rfl rfl ?_
      refine jy (pj_field_to (ht rfl) (Path.snd R_head_Head (sl u8)) (by kernel_rfl)) rfl rfl rfl rfl (bl_isx e2) rfl rfl ?_
      refine jy (pl (ht rfl) (by kernel_rfl)) rfl rfl rfl rfl (bl_isx e2) rfl rfl ?_
      obtain ⟨r2, e4, e3⟩ := bind_some e3
      refine jy (pj_call (hc (ht rfl) <| hc (ht rfl) <| hc (ht rfl) <| hasL_nil) (by kernel_rfl) (c_hss_Verify hg0 hg1 hg2 e4)) rfl rfl rfl rfl (bl_isx e2) rfl rfl ?_
      refine jp (PJ.eqv (R := bl) (pj_pick (t := any) (ht rfl) (fun _ => (ht rfl)) (fun he => absurd (e2.symm.trans he) (by decide))) (oi e3)) rfl rfl rfl ?_
      exact j_to (.cons (.of_lk rfl) <| .nil) (.nil) (J ())
    · replace e3 := bf e2 e3
      refine j_guard_no2 (j := 2) (want := true) rfl rfl rfl rfl (bl_isx e2) rfl rfl rfl ?_
      refine j_guard_no2 (j := 2) (want := true) rfl rfl rfl rfl (bl_isx e2) rfl rfl rfl ?_
      refine j_guard_no2 (j := 2) (want := true) rfl rfl rfl rfl (bl_isx e2) rfl rfl rfl ?_
      refine j_guard_no2 (j := 2) (want := true) rfl rfl rfl rfl (bl_isx e2) rfl rfl rfl ?_
      refine j_guard_no2 (j := 2) (want := true) rfl rfl rfl rfl (bl_isx e2) rfl rfl rfl ?_
      refine jp (PJ.eqv (R := bl) (pj_pick (t := any) (ht rfl) (fun he => absurd (e2.symm.trans he) (by decide)) (fun _ => has_bl)) (oi e3)) rfl rfl rfl ?_
      exact j_to (.cons (.of_lk rfl) <| .nil) (.nil) (J ())
set_option maxRecDepth 100000 in
set_option maxHeartbeats 4000000 in
theorem c_hss_Signer_Public {G : GP} {p_s : Int × Int × T_api_Hash × (Option T_lms_Tree) × (Option T_lms_Tree) × Int} {b_s : Nat} {c_s : List Value} {r : (List (BitVec 8))} (h : hss_Signer_Public p_s = some r) : Ctr Tryz.prog G 15 [val (.pointer (some ⟨b_s, 0, none⟩))] [box b_s 102 (exr (prod i64 (prod i64 (prod R_api_Hash (prod (ptr R_lms_Tree) (prod (ptr R_lms_Tree) i64))))) c_s) (p_s.1, p_s.2.1, p_s.2.2.1, p_s.2.2.2.1, p_s.2.2.2.2.1, p_s.2.2.2.2.2)] (fun (u0 : Value) => ov u0) (fun (u0 : Value) => [box b_s 102 (exr (prod i64 (prod i64 (prod R_api_Hash (prod (ptr R_lms_Tree) (prod (ptr R_lms_Tree) i64))))) c_s) (p_s.1, p_s.2.1, p_s.2.2.1, p_s.2.2.2.1, p_s.2.2.2.2.1, p_s.2.2.2.2.2), own 5 u8 u0 r]) := by
  unfold hss_Signer_Public at h
  refine ctr_of_run Tryz.func15 rfl 13 rfl rfl fun m0 w0 b0 => ?_
  show Run _ _ _ [(0, val (.pointer (some ⟨b_s, 0, none⟩)))] _
  refine rs ?_
  refine rt ?_
  refine j_assign_nil (T := 5) u8 rfl fun v1 => ?_
  refine j_end ?_
  refine rs ?_
  refine rs ?_
  refine rt ?_
  refine jp (PJ.xw (.keep (.ex .refl)) (pm (ht rfl))) rfl rfl rfl ?_
  refine jp (PJ.xw (.keep (.ex .refl)) (pj_eq_nil_val (E := 102) (by kernel_rfl) (ht rfl))) rfl rfl rfl ?_
  refine j_end ?_
  refine run_cond_f (ht rfl) rfl ?_
  refine run_skip ?_
  refine rs ?_
  refine rt ?_
  refine jp (PJ.xw (.keep (.ex .refl)) (pj_buildSlice (T := 5) (R := u8) (.cons (has_un (x := 0#8) rfl) (.cons (has_un (x := 0#8) rfl) (.cons (has_un (x := 0#8) rfl) (.cons (has_un (x := 2#8) rfl) .nil)))) rfl (by kernel_rfl) (by kernel_rfl))) rfl rfl rfl ?_
  refine jp (PJ.xw (.keep (.ex .refl)) (pm (ht rfl))) rfl rfl rfl ?_
  refine jp (PJ.xw (.keep (.ex .refl)) (pj_nilCheck_ptr (ht rfl))) rfl rfl rfl ?_
  refine jp (PJ.xw (.keep (.ex .refl)) (pj_field_ptr (off := 34) (ht rfl) (by kernel_rfl))) rfl rfl rfl ?_
  refine jp (PJ.xw (.keep (.ex .refl)) (pj_load_box (ht rfl) (.next .here) (Path.then (Path.all (prod i64 (prod i64 (prod R_api_Hash (prod (ptr R_lms_Tree) (prod (ptr R_lms_Tree) i64)))))) (Path.then (Path.snd i64 (prod i64 (prod R_api_Hash (prod (ptr R_lms_Tree) (prod (ptr R_lms_Tree) i64))))) (Path.then (Path.snd i64 (prod R_api_Hash (prod (ptr R_lms_Tree) (prod (ptr R_lms_Tree) i64)))) (Path.then (Path.snd R_api_Hash (prod (ptr R_lms_Tree) (prod (ptr R_lms_Tree) i64))) (Path.fst (ptr R_lms_Tree) (prod (ptr R_lms_Tree) i64)))))) (by kernel_rfl))) rfl rfl rfl ?_
  obtain ⟨r1, e2, h⟩ := bind_some h
  refine jp (PJ.xw (.keep (.ex .refl)) (pj_call (hc (ht rfl) <| hasL_nil) (by kernel_rfl) (Ctr.froze (c_lms_Tree_Public e2)))) rfl rfl rfl ?_
  refine jp (PJ.xw (.keep (.ex .refl)) (pj_buildSlice (T := 31) (R := (sl u8)) (.cons (ht rfl) (.cons (ht rfl) .nil)) rfl (by kernel_rfl) (by kernel_rfl))) rfl rfl rfl ?_
  obtain ⟨r2, e3, h⟩ := bind_some h
  refine j_call (hc (ht rfl) <| hasL_nil) (by kernel_rfl) (c_slices_Concat_byte_byte e3) .nil rfl fun v2 => ?_
  refine jp (PJ.xw (.keep (.keep (.ex .refl))) (pa (ht rfl))) rfl rfl rfl ?_
  refine j_end ?_
  obtain rfl := oi h
  exact run_ret fun a w hst => q_ret1 hst rfl (.tmp rfl) v2 (fun _ _ h => h) (.cons (.next (.next .here)) <| .cons .here <| .nil)
set_option maxRecDepth 100000 in
set_option maxHeartbeats 4000000 in
theorem c_rolodexlaw17_HeadSigns {G : GP} (hg0 : HG0 G) (hg1 : HG1 G) (hg2 : HG2 G) {p_seed : T_api_Hash} {p_n : Int} {p_h : T_rolodexref17_Head} {r : Bool} (h : rolodexlaw17_HeadSigns p_seed p_n p_h = some r) : Ctr Tryz.prog G 3 [R_api_Hash.slot p_seed, i64.slot p_n, R_rolodexref17_Head.slot p_h] [] (fun (_ : Unit) => bl.slot r) (fun (_ : Unit) => []) := by
  unfold rolodexlaw17_HeadSigns at h
  refine ctr_of_run Tryz.func3 rfl 80 rfl rfl fun m0 w0 b0 => ?_
  show Run _ _ _ [(0, R_api_Hash.slot p_seed), (1, i64.slot p_n), (2, R_rolodexref17_Head.slot p_h)] _
  refine rs ?_
  refine rt ?_
  refine jp (pj_box_to (ht rfl)) rfl rfl rfl ?_
  refine jp (pj_box_to (ht rfl)) rfl rfl rfl ?_
  refine jp (pa has_bl) rfl rfl rfl ?_
  refine j_end ?_
  refine rs ?_
  refine rt ?_
  refine jp (pl (ht rfl) (by kernel_rfl)) rfl rfl rfl ?_
  obtain ⟨r1, e1, h⟩ := bind_some h
  obtain ⟨x1, e2, h⟩ := bind_some h
  refine j_call (hc has_i64 <| hc has_i64 <| hc has_i64 <| hc (ht rfl) <| hasL_nil) (by kernel_rfl) (c_hss_New hg0 hg1 hg2 (e1.trans (congrArg some (show r1 = (some x1, r1.2) from Prod.ext e2 rfl)))) .nil rfl fun b1 => ?_
  refine jp (pm (ht rfl)) rfl rfl rfl ?_
  refine jp (pj_extract (ht rfl) rfl) rfl rfl rfl ?_
  refine jp (pj_extract (ht rfl) rfl) rfl rfl rfl ?_
  refine jp (pa (ht rfl)) rfl rfl rfl ?_
  refine jp (pa (ht rfl)) rfl rfl rfl ?_
  refine j_end ?_
  refine rs ?_
  refine rt ?_
  refine jp (pm (ht rfl)) rfl rfl rfl ?_
  refine jp (pm (ht rfl)) rfl rfl rfl ?_
  refine jp (pl (ht rfl) (by kernel_rfl)) rfl rfl rfl ?_
  obtain ⟨r2, e3, h⟩ := bind_some h
  refine j_call (hc (ht rfl) <| hc (ht rfl) <| hc (ht rfl) <| hasL_nil) (by kernel_rfl) (c_head_Sign hg0 hg1 hg2 e3) (.cons .here <| .nil) rfl fun _ => ?_
  refine jp (pm (ht rfl)) rfl rfl rfl ?_
  refine jp (pj_extract (ht rfl) rfl) rfl rfl rfl ?_
  refine jp (pj_extract (ht rfl) rfl) rfl rfl rfl ?_
  refine j_alloc (x := ((0, 0, (Vector.replicate 32 (0#8)), (Vector.replicate 32 (0#8))), ([] : List (BitVec 8)))) (R := R_head_Signed) (zero_prod (zero_prod zero_i64 (zero_prod zero_i64 (zero_prod (zero_vec 32 zero_un) (zero_vec 32 zero_un)))) zero_sl) (by kernel_rfl) rfl fun b2 => ?_
  refine j_store_boxx (r' := r2.2.1) (ht rfl) (ht rfl) .here (Path.all R_head_Signed) (by kernel_rfl) rfl ?_
  refine j_freezeTo (t := 9) .here (.of_lk rfl) ?_
  refine jp (pa (ht rfl)) rfl rfl rfl ?_
  refine j_end ?_
  refine rs ?_
  refine rs ?_
  refine rt ?_
  obtain ⟨r3, e4, h⟩ := bind_some h
  refine jp (pj_call (hasL_nil) (by kernel_rfl) (c_rolodexlaw17_awake e4)) rfl rfl rfl ?_
  refine jp (pj_not (ht rfl)) rfl rfl rfl ?_
  refine jp (pm (ht rfl)) rfl rfl rfl ?_
  obtain ⟨y1, e6, h⟩ := bind_some h
  refine j_joinx (ι := Unit) (Γ' := fun _ => [(1, i64.slot p_n), (3, ptrTo R_api_Hash p_seed), (5, ptrTo R_rolodexref17_Head p_h), (7, val (.pointer (some ⟨b1, 0, none⟩))), (9, ptrTo R_head_Signed r2.2.1), (10, i64.slot r2.2.2), (32, bl.slot y1)]) (H' := fun _ => [box b1 102 (prod i64 (prod i64 (prod R_api_Hash (prod (ptr R_lms_Tree) (prod (ptr R_lms_Tree) i64))))) (r2.1.1, r2.1.2.1, r2.1.2.2.1, r2.1.2.2.2.1, r2.1.2.2.2.2.1, r2.1.2.2.2.2.2)]) 3 ?_ fun J => ?_
  · intro _
    clear e6
    show OpsJ _ _ _ [(1, i64.slot p_n), (3, ptrTo R_api_Hash p_seed), (5, ptrTo R_rolodexref17_Head p_h), (7, val (.pointer (some ⟨b1, 0, none⟩))), (9, ptrTo R_head_Signed r2.2.1), (10, i64.slot r2.2.2), (32, bl.slot y1)] [box b1 102 (prod i64 (prod i64 (prod R_api_Hash (prod (ptr R_lms_Tree) (prod (ptr R_lms_Tree) i64))))) (r2.1.1, r2.1.2.1, r2.1.2.2.1, r2.1.2.2.2.1, r2.1.2.2.2.2.1, r2.1.2.2.2.2.2)] _
    refine j_end ?_
    refine run_cond (ht rfl) (fun e7 => ?_) (fun e7 => ?_)
    · replace h := bt e7 h
      refine rs ?_
      refine rt ?_
      refine jp (pa has_bl) rfl rfl rfl ?_
      refine j_end ?_
      obtain rfl := oi h
      exact run_ret fun a w hst => q_ret1 hst rfl (.tmp rfl) () (fun _ _ h => h) (.nil)
    · replace h := bf e7 h
      refine run_skip ?_
      refine rs ?_
      refine rt ?_
      refine jp (pl (ht rfl) (by kernel_rfl)) rfl rfl rfl ?_
      obtain ⟨r4, e8, h⟩ := bind_some h
      refine jp (pj_call (hc (ht rfl) <| hasL_nil) (by kernel_rfl) (Ctr.froze2 (c_rolodexref17_Encode e8))) rfl rfl rfl ?_
      refine jp (pm (ht rfl)) rfl rfl rfl ?_
      refine jp (pj_extract (ht rfl) rfl) rfl rfl rfl ?_
      refine jp (pj_extract (ht rfl) rfl) rfl rfl rfl ?_
      refine jp (pa (ht rfl)) rfl rfl rfl ?_
      refine jp (pa (ht rfl)) rfl rfl rfl ?_
      refine j_end ?_
      refine rs ?_
      refine rs ?_
      refine rt ?_
      refine jp (pm (ht rfl)) rfl rfl rfl ?_
      refine jp (pj_ineq (ht rfl) has_i64) rfl rfl rfl ?_
      refine j_end ?_
      refine run_cond (ht rfl) (fun e9 => ?_) (fun e9 => ?_)
      · replace h := bt e9 h
        refine rs ?_
        refine rt ?_
        refine jp (pm (ht rfl)) rfl rfl rfl ?_
        refine jp (pj_ieql (ht rfl) has_i64) rfl rfl rfl ?_
        refine jp (pm (ht rfl)) rfl rfl rfl ?_
        obtain ⟨y2, e11, h⟩ := bind_some h
        refine j_joinx (ι := Unit) (Γ' := fun _ => [(47, bl.slot y2)]) (H' := fun _ => []) 5 ?_ fun J => ?_
        · intro _
          clear e11
          show OpsJ _ _ _ [(47, bl.slot y2)] [] _
          refine jp (pa (ht rfl)) rfl rfl rfl ?_
          refine j_end ?_
          obtain rfl := oi h
          exact run_ret fun a w hst => q_ret1 hst rfl (.tmp rfl) () (fun _ _ h => h) (.nil)
        · rcases bool_tf (decide (r2.2.2 = (1 : Int))) with e10 | e10
          · replace e11 := bt e10 e11
            refine jy (pj_field_to (ht rfl) (Path.snd R_head_Head (sl u8)) (by kernel_rfl)) rfl rfl rfl rfl (bl_isx e10) rfl rfl ?_
            refine jy (pl (ht rfl) (by kernel_rfl)) rfl rfl rfl rfl (bl_isx e10) rfl rfl ?_
            refine jy (pj_len_sl (sz := 1) (ht rfl) (by kernel_rfl)) rfl rfl rfl rfl (bl_isx e10) rfl rfl ?_
            refine jy (pj_ieql (ht rfl) has_i64) rfl rfl rfl rfl (bl_isx e10) rfl rfl ?_
            refine jp (PJ.eqv (R := bl) (pj_pick (t := any) (ht rfl) (fun _ => (ht rfl)) (fun he => absurd (e10.symm.trans he) (by decide))) (oi e11)) rfl rfl rfl ?_
            exact j_to (.cons (.of_lk rfl) <| .nil) (.nil) (J ())
          · replace e11 := bf e10 e11
            refine j_guard_no2 (j := 2) (want := true) rfl rfl rfl rfl (bl_isx e10) rfl rfl rfl ?_
            refine j_guard_no2 (j := 2) (want := true) rfl rfl rfl rfl (bl_isx e10) rfl rfl rfl ?_
            refine j_guard_no2 (j := 2) (want := true) rfl rfl rfl rfl (bl_isx e10) rfl rfl rfl ?_
            refine j_guard_no2 (j := 2) (want := true) rfl rfl rfl rfl (bl_isx e10) rfl rfl rfl ?_
            refine jp (PJ.eqv (R := bl) (pj_pick (t := any) (ht rfl) (fun he => absurd (e10.symm.trans he) (by decide)) (fun _ => has_bl)) (oi e11)) rfl rfl rfl ?_
            exact j_to (.cons (.of_lk rfl) <| .nil) (.nil) (J ())
      · replace h := bf e9 h
        refine run_skip ?_
        refine rs ?_
        refine rt ?_
        refine jp (pl (ht rfl) (by kernel_rfl)) rfl rfl rfl ?_
        refine jp (pm (ht rfl)) rfl rfl rfl ?_
        refine jp (pm (ht rfl)) rfl rfl rfl ?_
        obtain ⟨r5, e12, h⟩ := bind_some h
        refine jp (pj_call (hc has_i64 <| hc has_i64 <| hc has_i64 <| hc (ht rfl) <| hc (ht rfl) <| hc (ht rfl) <| hasL_nil) (by kernel_rfl) (Ctr.froze2 (c_rolodexref06_Sign e12))) rfl rfl rfl ?_
        refine jp (pm (ht rfl)) rfl rfl rfl ?_
        refine jp (pj_extract (ht rfl) rfl) rfl rfl rfl ?_
        refine jp (pj_extract (ht rfl) rfl) rfl rfl rfl ?_
        refine jp (pa (ht rfl)) rfl rfl rfl ?_
        refine jp (pa (ht rfl)) rfl rfl rfl ?_
        refine j_end ?_
        refine rs ?_
        obtain ⟨y3, e14, h⟩ := bind_some h
        obtain ⟨y4, e17, h⟩ := bind_some h
        refine (run_drawJ (n := 25) (Γ' := [(79, bl.slot y4)]) (H' := []) ?_ fun J => ?_)
        · clear e14 e17
          refine jp (pa (ht rfl)) rfl rfl rfl ?_
          refine j_end ?_
          obtain rfl := oi h
          exact run_ret fun a w hst => q_ret1 hst rfl (.tmp rfl) () (fun _ _ h => h) (.nil)
        · rcases bool_tf (decide (r2.2.2 = r5.2)) with e13 | e13
          · replace e14 := bt e13 e14
            obtain ⟨r6, e15, e14⟩ := bind_some e14
            rcases bool_tf (y3) with e16 | e16
            · replace e17 := bt e16 e17
              obtain ⟨y5, e19, e17⟩ := bind_some e17
              rcases bool_tf (!decide (r2.2.2 = (0 : Int))) with e18 | e18
              · replace e19 := bt e18 e19
                exact run_draw (n := 25) (by kernel_rfl) (by kernel_rfl) (by kernel_rfl) (by kernel_rfl) (.read (.plain rfl (pm (ht rfl))) <| .read (.plain rfl (pm (ht rfl))) <| .read (.plain rfl (pj_ieql (ht rfl) (ht rfl))) <| .read (.plain rfl (pm (ht rfl))) <| .read (.yes ⟨3, true, _, 58, _, rfl, rfl, rfl, fun _ _ => bl_p.1, gd_yes e13⟩ (pj_field_to (ht rfl) (Path.snd R_head_Head (sl u8)) (by kernel_rfl))) <| .read (.yes ⟨3, true, _, 58, _, rfl, rfl, rfl, fun _ _ => bl_p.1, gd_yes e13⟩ (pl (ht rfl) (by kernel_rfl))) <| .read (.yes ⟨3, true, _, 58, _, rfl, rfl, rfl, fun _ _ => bl_p.1, gd_yes e13⟩ (pm (ht rfl))) <| .read (.yes ⟨3, true, _, 58, _, rfl, rfl, rfl, fun _ _ => bl_p.1, gd_yes e13⟩ (pj_call (hc (ht rfl) <| hc (ht rfl) <| hasL_nil) (by kernel_rfl) (c_rolodexref01_Same e15))) <| .read (.plain rfl (PJ.eqv (R := bl) (pj_pick (t := any) (ht rfl) (fun _ => (ht rfl)) (fun he => absurd (e13.symm.trans he) (by decide))) (oi e14))) <| .read (.plain rfl (pm (ht rfl))) <| .read (.yes ⟨9, true, _, 64, _, rfl, rfl, rfl, fun _ _ => bl_p.1, gd_yes e16⟩ (pm (ht rfl))) <| .read (.yes ⟨9, true, _, 64, _, rfl, rfl, rfl, fun _ _ => bl_p.1, gd_yes e16⟩ (pj_ineq (ht rfl) has_i64)) <| .read (.yes ⟨9, true, _, 64, _, rfl, rfl, rfl, fun _ _ => bl_p.1, gd_yes e16⟩ (pm (ht rfl))) <| .read (.no ⟨12, false, _, 67, _, rfl, rfl, rfl, fun _ _ => bl_p.1, gd_no e18⟩) <| .read (.no ⟨12, false, _, 67, _, rfl, rfl, rfl, fun _ _ => bl_p.1, gd_no e18⟩) <| .read (.no ⟨12, false, _, 67, _, rfl, rfl, rfl, fun _ _ => bl_p.1, gd_no e18⟩) <| .read (.no ⟨12, false, _, 67, _, rfl, rfl, rfl, fun _ _ => bl_p.1, gd_no e18⟩) <| .read (.no ⟨12, false, _, 67, _, rfl, rfl, rfl, fun _ _ => bl_p.1, gd_no e18⟩) <| .read (.undef ⟨17, true, 72, rfl, rfl, rfl⟩) <| .read (.undef ⟨17, true, 72, rfl, rfl, rfl⟩) <| .read (.undef ⟨17, true, 72, rfl, rfl, rfl⟩) <| .read (.undef ⟨17, true, 72, rfl, rfl, rfl⟩) <| .read (.no ⟨12, false, _, 67, _, rfl, rfl, rfl, fun _ _ => bl_p.1, gd_no e18⟩) <| .read (.yes ⟨9, true, _, 64, _, rfl, rfl, rfl, fun _ _ => bl_p.1, gd_yes e16⟩ (PJ.eqv (R := bl) (pj_pick (t := any) (ht rfl) (fun _ => has_bl) (fun he => absurd (e18.symm.trans he) (by decide))) (oi e19))) <| .read (.plain rfl (PJ.eqv (R := bl) (pj_pick (t := any) (ht rfl) (fun _ => (ht rfl)) (fun he => absurd (e16.symm.trans he) (by decide))) (oi e17))) <| .nil) (j_to (Γ' := [(79, bl.slot y4)]) (H' := []) (.cons (.of_lk rfl) <| .nil) (.nil) J)
              · replace e19 := bf e18 e19
                obtain ⟨y6, e21, e19⟩ := bind_some e19
                rcases bool_tf (decide (r2.2.1.1 = p_h)) with e20 | e20
                · replace e21 := bt e20 e21
                  obtain ⟨r7, e22, e21⟩ := bind_some e21
                  obtain ⟨r8, e23, e21⟩ := bind_some e21
                  exact run_draw (n := 25) (by kernel_rfl) (by kernel_rfl) (by kernel_rfl) (by kernel_rfl) (.read (.plain rfl (pm (ht rfl))) <| .read (.plain rfl (pm (ht rfl))) <| .read (.plain rfl (pj_ieql (ht rfl) (ht rfl))) <| .read (.plain rfl (pm (ht rfl))) <| .read (.yes ⟨3, true, _, 58, _, rfl, rfl, rfl, fun _ _ => bl_p.1, gd_yes e13⟩ (pj_field_to (ht rfl) (Path.snd R_head_Head (sl u8)) (by kernel_rfl))) <| .read (.yes ⟨3, true, _, 58, _, rfl, rfl, rfl, fun _ _ => bl_p.1, gd_yes e13⟩ (pl (ht rfl) (by kernel_rfl))) <| .read (.yes ⟨3, true, _, 58, _, rfl, rfl, rfl, fun _ _ => bl_p.1, gd_yes e13⟩ (pm (ht rfl))) <| .read (.yes ⟨3, true, _, 58, _, rfl, rfl, rfl, fun _ _ => bl_p.1, gd_yes e13⟩ (pj_call (hc (ht rfl) <| hc (ht rfl) <| hasL_nil) (by kernel_rfl) (c_rolodexref01_Same e15))) <| .read (.plain rfl (PJ.eqv (R := bl) (pj_pick (t := any) (ht rfl) (fun _ => (ht rfl)) (fun he => absurd (e13.symm.trans he) (by decide))) (oi e14))) <| .read (.plain rfl (pm (ht rfl))) <| .read (.yes ⟨9, true, _, 64, _, rfl, rfl, rfl, fun _ _ => bl_p.1, gd_yes e16⟩ (pm (ht rfl))) <| .read (.yes ⟨9, true, _, 64, _, rfl, rfl, rfl, fun _ _ => bl_p.1, gd_yes e16⟩ (pj_ineq (ht rfl) has_i64)) <| .read (.yes ⟨9, true, _, 64, _, rfl, rfl, rfl, fun _ _ => bl_p.1, gd_yes e16⟩ (pm (ht rfl))) <| .read (.yes ⟨12, false, _, 67, _, rfl, rfl, rfl, fun _ _ => bl_p.1, gd_yes e18⟩ (pj_field_to (ht rfl) (Path.fst R_head_Head (sl u8)) (by kernel_rfl))) <| .read (.yes ⟨12, false, _, 67, _, rfl, rfl, rfl, fun _ _ => bl_p.1, gd_yes e18⟩ (pl (ht rfl) (by kernel_rfl))) <| .read (.yes ⟨12, false, _, 67, _, rfl, rfl, rfl, fun _ _ => bl_p.1, gd_yes e18⟩ (pl (ht rfl) (by kernel_rfl))) <| .read (.yes ⟨12, false, _, 67, _, rfl, rfl, rfl, fun _ _ => bl_p.1, gd_yes e18⟩ (pj_eql (n := 3) (eq_struct (fs := #[Field.mk "Epoch" 3 0 false "" "" 0, Field.mk "Tick" 3 1 false "" "" 8, Field.mk "Tree" 23 2 false "" "" 16, Field.mk "Log" 23 34 false "" "" 48]) (by kernel_rfl) (by kernel_rfl) rfl (.cons rfl (by kernel_rfl) (by kernel_rfl) (EqOK.mono (by omega) (eq_i64 (by kernel_rfl))) (.cons rfl (by kernel_rfl) (by kernel_rfl) (EqOK.mono (by omega) (eq_i64 (by kernel_rfl))) (.cons rfl (by kernel_rfl) (by kernel_rfl) (eq_vec (e := 5) (by kernel_rfl) (by kernel_rfl) (eq_un (by kernel_rfl))) (.one rfl (by kernel_rfl) (by kernel_rfl) (eq_vec (e := 5) (by kernel_rfl) (by kernel_rfl) (eq_un (by kernel_rfl)))))))) (by decide) rfl (by kernel_rfl) (ht rfl) (ht rfl))) <| .read (.yes ⟨12, false, _, 67, _, rfl, rfl, rfl, fun _ _ => bl_p.1, gd_yes e18⟩ (pm (ht rfl))) <| .read (.yes ⟨17, true, _, 72, _, rfl, rfl, rfl, fun _ _ => bl_p.1, gd_yes e20⟩ (pl (ht rfl) (by kernel_rfl))) <| .read (.yes ⟨17, true, _, 72, _, rfl, rfl, rfl, fun _ _ => bl_p.1, gd_yes e20⟩ (pm (ht rfl))) <| .read (.yes ⟨17, true, _, 72, _, rfl, rfl, rfl, fun _ _ => bl_p.1, gd_yes e20⟩ (pj_callR (hc (ht rfl) <| hasL_nil) .here (by kernel_rfl) (Ctr.frozeR (fun _ => (c_hss_Signer_Public e22))))) <| .read (.yes ⟨17, true, _, 72, _, rfl, rfl, rfl, fun _ _ => bl_p.1, gd_yes e20⟩ (pj_call (hc (ht rfl) <| hc (ht rfl) <| hasL_nil) (by kernel_rfl) (c_head_Right hg0 hg1 hg2 e23))) <| .read (.yes ⟨12, false, _, 67, _, rfl, rfl, rfl, fun _ _ => bl_p.1, gd_yes e18⟩ (PJ.eqv (R := bl) (pj_pick (t := any) (ht rfl) (fun _ => (ht rfl)) (fun he => absurd (e20.symm.trans he) (by decide))) (oi e21))) <| .read (.yes ⟨9, true, _, 64, _, rfl, rfl, rfl, fun _ _ => bl_p.1, gd_yes e16⟩ (PJ.eqv (R := bl) (pj_pick (t := any) (ht rfl) (fun he => absurd (e18.symm.trans he) (by decide)) (fun _ => (ht rfl))) (oi e19))) <| .read (.plain rfl (PJ.eqv (R := bl) (pj_pick (t := any) (ht rfl) (fun _ => (ht rfl)) (fun he => absurd (e16.symm.trans he) (by decide))) (oi e17))) <| .nil) (j_to (Γ' := [(79, bl.slot y4)]) (H' := []) (.cons (.of_lk rfl) <| .nil) (.nil) J)
                · replace e21 := bf e20 e21
                  exact run_draw (n := 25) (by kernel_rfl) (by kernel_rfl) (by kernel_rfl) (by kernel_rfl) (.read (.plain rfl (pm (ht rfl))) <| .read (.plain rfl (pm (ht rfl))) <| .read (.plain rfl (pj_ieql (ht rfl) (ht rfl))) <| .read (.plain rfl (pm (ht rfl))) <| .read (.yes ⟨3, true, _, 58, _, rfl, rfl, rfl, fun _ _ => bl_p.1, gd_yes e13⟩ (pj_field_to (ht rfl) (Path.snd R_head_Head (sl u8)) (by kernel_rfl))) <| .read (.yes ⟨3, true, _, 58, _, rfl, rfl, rfl, fun _ _ => bl_p.1, gd_yes e13⟩ (pl (ht rfl) (by kernel_rfl))) <| .read (.yes ⟨3, true, _, 58, _, rfl, rfl, rfl, fun _ _ => bl_p.1, gd_yes e13⟩ (pm (ht rfl))) <| .read (.yes ⟨3, true, _, 58, _, rfl, rfl, rfl, fun _ _ => bl_p.1, gd_yes e13⟩ (pj_call (hc (ht rfl) <| hc (ht rfl) <| hasL_nil) (by kernel_rfl) (c_rolodexref01_Same e15))) <| .read (.plain rfl (PJ.eqv (R := bl) (pj_pick (t := any) (ht rfl) (fun _ => (ht rfl)) (fun he => absurd (e13.symm.trans he) (by decide))) (oi e14))) <| .read (.plain rfl (pm (ht rfl))) <| .read (.yes ⟨9, true, _, 64, _, rfl, rfl, rfl, fun _ _ => bl_p.1, gd_yes e16⟩ (pm (ht rfl))) <| .read (.yes ⟨9, true, _, 64, _, rfl, rfl, rfl, fun _ _ => bl_p.1, gd_yes e16⟩ (pj_ineq (ht rfl) has_i64)) <| .read (.yes ⟨9, true, _, 64, _, rfl, rfl, rfl, fun _ _ => bl_p.1, gd_yes e16⟩ (pm (ht rfl))) <| .read (.yes ⟨12, false, _, 67, _, rfl, rfl, rfl, fun _ _ => bl_p.1, gd_yes e18⟩ (pj_field_to (ht rfl) (Path.fst R_head_Head (sl u8)) (by kernel_rfl))) <| .read (.yes ⟨12, false, _, 67, _, rfl, rfl, rfl, fun _ _ => bl_p.1, gd_yes e18⟩ (pl (ht rfl) (by kernel_rfl))) <| .read (.yes ⟨12, false, _, 67, _, rfl, rfl, rfl, fun _ _ => bl_p.1, gd_yes e18⟩ (pl (ht rfl) (by kernel_rfl))) <| .read (.yes ⟨12, false, _, 67, _, rfl, rfl, rfl, fun _ _ => bl_p.1, gd_yes e18⟩ (pj_eql (n := 3) (eq_struct (fs := #[Field.mk "Epoch" 3 0 false "" "" 0, Field.mk "Tick" 3 1 false "" "" 8, Field.mk "Tree" 23 2 false "" "" 16, Field.mk "Log" 23 34 false "" "" 48]) (by kernel_rfl) (by kernel_rfl) rfl (.cons rfl (by kernel_rfl) (by kernel_rfl) (EqOK.mono (by omega) (eq_i64 (by kernel_rfl))) (.cons rfl (by kernel_rfl) (by kernel_rfl) (EqOK.mono (by omega) (eq_i64 (by kernel_rfl))) (.cons rfl (by kernel_rfl) (by kernel_rfl) (eq_vec (e := 5) (by kernel_rfl) (by kernel_rfl) (eq_un (by kernel_rfl))) (.one rfl (by kernel_rfl) (by kernel_rfl) (eq_vec (e := 5) (by kernel_rfl) (by kernel_rfl) (eq_un (by kernel_rfl)))))))) (by decide) rfl (by kernel_rfl) (ht rfl) (ht rfl))) <| .read (.yes ⟨12, false, _, 67, _, rfl, rfl, rfl, fun _ _ => bl_p.1, gd_yes e18⟩ (pm (ht rfl))) <| .read (.no ⟨17, true, _, 72, _, rfl, rfl, rfl, fun _ _ => bl_p.1, gd_no e20⟩) <| .read (.no ⟨17, true, _, 72, _, rfl, rfl, rfl, fun _ _ => bl_p.1, gd_no e20⟩) <| .read (.no ⟨17, true, _, 72, _, rfl, rfl, rfl, fun _ _ => bl_p.1, gd_no e20⟩) <| .read (.no ⟨17, true, _, 72, _, rfl, rfl, rfl, fun _ _ => bl_p.1, gd_no e20⟩) <| .read (.yes ⟨12, false, _, 67, _, rfl, rfl, rfl, fun _ _ => bl_p.1, gd_yes e18⟩ (PJ.eqv (R := bl) (pj_pick (t := any) (ht rfl) (fun he => absurd (e20.symm.trans he) (by decide)) (fun _ => has_bl)) (oi e21))) <| .read (.yes ⟨9, true, _, 64, _, rfl, rfl, rfl, fun _ _ => bl_p.1, gd_yes e16⟩ (PJ.eqv (R := bl) (pj_pick (t := any) (ht rfl) (fun he => absurd (e18.symm.trans he) (by decide)) (fun _ => (ht rfl))) (oi e19))) <| .read (.plain rfl (PJ.eqv (R := bl) (pj_pick (t := any) (ht rfl) (fun _ => (ht rfl)) (fun he => absurd (e16.symm.trans he) (by decide))) (oi e17))) <| .nil) (j_to (Γ' := [(79, bl.slot y4)]) (H' := []) (.cons (.of_lk rfl) <| .nil) (.nil) J)
            · replace e17 := bf e16 e17
              exact run_draw (n := 25) (by kernel_rfl) (by kernel_rfl) (by kernel_rfl) (by kernel_rfl) (.read (.plain rfl (pm (ht rfl))) <| .read (.plain rfl (pm (ht rfl))) <| .read (.plain rfl (pj_ieql (ht rfl) (ht rfl))) <| .read (.plain rfl (pm (ht rfl))) <| .read (.yes ⟨3, true, _, 58, _, rfl, rfl, rfl, fun _ _ => bl_p.1, gd_yes e13⟩ (pj_field_to (ht rfl) (Path.snd R_head_Head (sl u8)) (by kernel_rfl))) <| .read (.yes ⟨3, true, _, 58, _, rfl, rfl, rfl, fun _ _ => bl_p.1, gd_yes e13⟩ (pl (ht rfl) (by kernel_rfl))) <| .read (.yes ⟨3, true, _, 58, _, rfl, rfl, rfl, fun _ _ => bl_p.1, gd_yes e13⟩ (pm (ht rfl))) <| .read (.yes ⟨3, true, _, 58, _, rfl, rfl, rfl, fun _ _ => bl_p.1, gd_yes e13⟩ (pj_call (hc (ht rfl) <| hc (ht rfl) <| hasL_nil) (by kernel_rfl) (c_rolodexref01_Same e15))) <| .read (.plain rfl (PJ.eqv (R := bl) (pj_pick (t := any) (ht rfl) (fun _ => (ht rfl)) (fun he => absurd (e13.symm.trans he) (by decide))) (oi e14))) <| .read (.plain rfl (pm (ht rfl))) <| .read (.no ⟨9, true, _, 64, _, rfl, rfl, rfl, fun _ _ => bl_p.1, gd_no e16⟩) <| .read (.no ⟨9, true, _, 64, _, rfl, rfl, rfl, fun _ _ => bl_p.1, gd_no e16⟩) <| .read (.no ⟨9, true, _, 64, _, rfl, rfl, rfl, fun _ _ => bl_p.1, gd_no e16⟩) <| .read (.undef ⟨12, false, 67, rfl, rfl, rfl⟩) <| .read (.undef ⟨12, false, 67, rfl, rfl, rfl⟩) <| .read (.undef ⟨12, false, 67, rfl, rfl, rfl⟩) <| .read (.undef ⟨12, false, 67, rfl, rfl, rfl⟩) <| .read (.undef ⟨12, false, 67, rfl, rfl, rfl⟩) <| .read (.undef ⟨17, true, 72, rfl, rfl, rfl⟩) <| .read (.undef ⟨17, true, 72, rfl, rfl, rfl⟩) <| .read (.undef ⟨17, true, 72, rfl, rfl, rfl⟩) <| .read (.undef ⟨17, true, 72, rfl, rfl, rfl⟩) <| .read (.undef ⟨12, false, 67, rfl, rfl, rfl⟩) <| .read (.no ⟨9, true, _, 64, _, rfl, rfl, rfl, fun _ _ => bl_p.1, gd_no e16⟩) <| .read (.plain rfl (PJ.eqv (R := bl) (pj_pick (t := any) (ht rfl) (fun he => absurd (e16.symm.trans he) (by decide)) (fun _ => has_bl)) (oi e17))) <| .nil) (j_to (Γ' := [(79, bl.slot y4)]) (H' := []) (.cons (.of_lk rfl) <| .nil) (.nil) J)
          · replace e14 := bf e13 e14
            rcases bool_tf (y3) with e16 | e16
            · exact absurd ((oi e14).trans e16) (by decide)
            · replace e17 := bf e16 e17
              exact run_draw (n := 25) (by kernel_rfl) (by kernel_rfl) (by kernel_rfl) (by kernel_rfl) (.read (.plain rfl (pm (ht rfl))) <| .read (.plain rfl (pm (ht rfl))) <| .read (.plain rfl (pj_ieql (ht rfl) (ht rfl))) <| .read (.plain rfl (pm (ht rfl))) <| .read (.no ⟨3, true, _, 58, _, rfl, rfl, rfl, fun _ _ => bl_p.1, gd_no e13⟩) <| .read (.no ⟨3, true, _, 58, _, rfl, rfl, rfl, fun _ _ => bl_p.1, gd_no e13⟩) <| .read (.no ⟨3, true, _, 58, _, rfl, rfl, rfl, fun _ _ => bl_p.1, gd_no e13⟩) <| .read (.no ⟨3, true, _, 58, _, rfl, rfl, rfl, fun _ _ => bl_p.1, gd_no e13⟩) <| .read (.plain rfl (PJ.eqv (R := bl) (pj_pick (t := any) (ht rfl) (fun he => absurd (e13.symm.trans he) (by decide)) (fun _ => has_bl)) (oi e14))) <| .read (.plain rfl (pm (ht rfl))) <| .read (.no ⟨9, true, _, 64, _, rfl, rfl, rfl, fun _ _ => bl_p.1, gd_no e16⟩) <| .read (.no ⟨9, true, _, 64, _, rfl, rfl, rfl, fun _ _ => bl_p.1, gd_no e16⟩) <| .read (.no ⟨9, true, _, 64, _, rfl, rfl, rfl, fun _ _ => bl_p.1, gd_no e16⟩) <| .read (.undef ⟨12, false, 67, rfl, rfl, rfl⟩) <| .read (.undef ⟨12, false, 67, rfl, rfl, rfl⟩) <| .read (.undef ⟨12, false, 67, rfl, rfl, rfl⟩) <| .read (.undef ⟨12, false, 67, rfl, rfl, rfl⟩) <| .read (.undef ⟨12, false, 67, rfl, rfl, rfl⟩) <| .read (.undef ⟨17, true, 72, rfl, rfl, rfl⟩) <| .read (.undef ⟨17, true, 72, rfl, rfl, rfl⟩) <| .read (.undef ⟨17, true, 72, rfl, rfl, rfl⟩) <| .read (.undef ⟨17, true, 72, rfl, rfl, rfl⟩) <| .read (.undef ⟨12, false, 67, rfl, rfl, rfl⟩) <| .read (.no ⟨9, true, _, 64, _, rfl, rfl, rfl, fun _ _ => bl_p.1, gd_no e16⟩) <| .read (.plain rfl (PJ.eqv (R := bl) (pj_pick (t := any) (ht rfl) (fun he => absurd (e16.symm.trans he) (by decide)) (fun _ => has_bl)) (oi e17))) <| .nil) (j_to (Γ' := [(79, bl.slot y4)]) (H' := []) (.cons (.of_lk rfl) <| .nil) (.nil) J)
  · rcases bool_tf (!r3) with e5 | e5
    · replace e6 := bt e5 e6
      refine j_guard_no2 (j := 2) (want := false) rfl rfl rfl rfl (bl_isx e5) rfl rfl rfl ?_
      refine j_guard_no2 (j := 2) (want := false) rfl rfl rfl rfl (bl_isx e5) rfl rfl rfl ?_
      refine jp (PJ.eqv (R := bl) (pj_pick (t := any) (ht rfl) (fun _ => has_bl) (fun he => absurd (e5.symm.trans he) (by decide))) (oi e6)) rfl rfl rfl ?_
      exact j_to (.cons (.of_lk rfl) <| .cons (.of_lk rfl) <| .cons (.of_lk rfl) <| .cons (.of_lk rfl) <| .cons (.of_lk rfl) <| .cons (.of_lk rfl) <| .cons (.of_lk rfl) <| .nil) (.cons .here <| .nil) (J ())
    · replace e6 := bf e5 e6
      refine jy (pm (ht rfl)) rfl rfl rfl rfl (bl_isx e5) rfl rfl ?_
      refine jy (pj_ineq (ht rfl) has_i64) rfl rfl rfl rfl (bl_isx e5) rfl rfl ?_
      refine jp (PJ.eqv (R := bl) (pj_pick (t := any) (ht rfl) (fun he => absurd (e5.symm.trans he) (by decide)) (fun _ => (ht rfl))) (oi e6)) rfl rfl rfl ?_
      exact j_to (.cons (.of_lk rfl) <| .cons (.of_lk rfl) <| .cons (.of_lk rfl) <| .cons (.of_lk rfl) <| .cons (.of_lk rfl) <| .cons (.of_lk rfl) <| .cons (.of_lk rfl) <| .nil) (.cons .here <| .nil) (J ())
end Go.Sl.W
