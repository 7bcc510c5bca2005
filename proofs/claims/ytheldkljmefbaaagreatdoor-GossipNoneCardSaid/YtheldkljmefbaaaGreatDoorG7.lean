import Derived.Test.YtheldkljmefbaaaGreatDoorG6
import Derived.Test.YtheldkljmefbaaaGreatDoorG2
import Derived.Test.YtheldkljmefbaaaGreatDoorProg
set_option linter.unusedSimpArgs false
set_option linter.unusedVariables false
set_option linter.unusedSectionVars false
namespace Go.Sl.W
open Go.Proofs Go.Sl Go.Sl.M
set_option maxRecDepth 100000 in
set_option maxHeartbeats 4000000 in
theorem c_rolodexlaw27_Signed {G : GP} (hg0 : HG0 G) (hg1 : HG1 G) (hg2 : HG2 G) {p_s : Int × Int × T_api_Hash × (Option T_lms_Tree) × (Option T_lms_Tree) × Int} {p_h : T_rolodexref17_Head} {b_s : Nat} {r : (Int × Int × T_api_Hash × (Option T_lms_Tree) × (Option T_lms_Tree) × Int) × T_head_Signed} (h : rolodexlaw27_Signed p_s p_h = some r) : Ctr Tryz.prog G 22 [val (.pointer (some ⟨b_s, 0, none⟩)), R_rolodexref17_Head.slot p_h] [box b_s 102 (prod i64 (prod i64 (prod R_api_Hash (prod (ptr R_lms_Tree) (prod (ptr R_lms_Tree) i64))))) (p_s.1, p_s.2.1, p_s.2.2.1, p_s.2.2.2.1, p_s.2.2.2.2.1, p_s.2.2.2.2.2)] (fun (_ : Unit) => R_head_Signed.slot r.2) (fun (_ : Unit) => [box b_s 102 (prod i64 (prod i64 (prod R_api_Hash (prod (ptr R_lms_Tree) (prod (ptr R_lms_Tree) i64))))) (r.1.1, r.1.2.1, r.1.2.2.1, r.1.2.2.2.1, r.1.2.2.2.2.1, r.1.2.2.2.2.2)]) := by
  unfold rolodexlaw27_Signed at h
  refine ctr_of_run Tryz.func22 rfl 21 rfl rfl fun m0 w0 b0 => ?_
  show Run _ _ _ [(0, val (.pointer (some ⟨b_s, 0, none⟩))), (1, R_rolodexref17_Head.slot p_h)] _
  refine rs ?_
  refine rt ?_
  refine jp (pj_box_to (ht rfl)) rfl rfl rfl ?_
  refine j_alloc (x := ((0, 0, (Vector.replicate 32 (0#8)), (Vector.replicate 32 (0#8))), ([] : List (BitVec 8)))) (R := R_head_Signed) (zero_prod (zero_prod zero_i64 (zero_prod zero_i64 (zero_prod (zero_vec 32 zero_un) (zero_vec 32 zero_un)))) zero_sl) (by kernel_rfl) rfl fun b1 => ?_
  refine j_end ?_
  refine rs ?_
  refine rt ?_
  refine jp (pm (ht rfl)) rfl rfl rfl ?_
  refine jp (pj_field_to (ht rfl) (Path.fst i64 (prod i64 (prod R_api_Hash R_api_Hash))) (by kernel_rfl)) rfl rfl rfl ?_
  refine jp (pl (ht rfl) (by kernel_rfl)) rfl rfl rfl ?_
  refine jp (pj_conv_un (k := .u64) (b := 64) rfl rfl (by kernel_rfl) (ht rfl) isInt_i64) rfl rfl rfl ?_
  refine jp (pj_urem (k := .u64) (b := 64) (ht rfl) (has_un (x := 8#64) rfl) (by decide)) rfl rfl rfl ?_
  refine jp (pj_conv_i64 (by kernel_rfl) (ht rfl) isInt_un) rfl rfl rfl ?_
  refine jp (pl (ht rfl) (by kernel_rfl)) rfl rfl rfl ?_
  obtain ⟨r1, e1, h⟩ := bind_some h
  refine j_call (hc (ht rfl) <| hc (ht rfl) <| hc (ht rfl) <| hasL_nil) (by kernel_rfl) (c_head_Sign hg0 hg1 hg2 e1) (.cons (.next .here) <| .nil) rfl fun _ => ?_
  refine jp (pm (ht rfl)) rfl rfl rfl ?_
  refine jp (pj_extract (ht rfl) rfl) rfl rfl rfl ?_
  refine jp (pj_extract (ht rfl) rfl) rfl rfl rfl ?_
  refine j_alloc (x := ((0, 0, (Vector.replicate 32 (0#8)), (Vector.replicate 32 (0#8))), ([] : List (BitVec 8)))) (R := R_head_Signed) (zero_prod (zero_prod zero_i64 (zero_prod zero_i64 (zero_prod (zero_vec 32 zero_un) (zero_vec 32 zero_un)))) zero_sl) (by kernel_rfl) rfl fun b2 => ?_
  refine j_store_boxx (r' := r1.2.1) (ht rfl) (ht rfl) .here (Path.all R_head_Signed) (by kernel_rfl) rfl ?_
  refine jp (pa (ht rfl)) rfl rfl rfl ?_
  refine j_end ?_
  refine rs ?_
  refine rt ?_
  refine jp (pl (ht rfl) (by kernel_rfl)) rfl rfl rfl ?_
  refine jp (pj_field_ptr (off := 0) (ht rfl) (by kernel_rfl)) rfl rfl rfl ?_
  refine j_store_boxx (r' := (p_h, r1.2.1.2)) (ht rfl) (ht rfl) .here (Path.then (Path.all R_head_Signed) (Path.fst R_head_Head (sl u8))) (by kernel_rfl) rfl ?_
  refine j_end ?_
  refine rs ?_
  refine rt ?_
  refine jp (pj_load_box (ht rfl) .here (Path.all R_head_Signed) (by kernel_rfl)) rfl rfl rfl ?_
  refine j_store_boxx (r' := (p_h, r1.2.1.2)) (ht rfl) (ht rfl) (.next (.next .here)) (Path.all R_head_Signed) (by kernel_rfl) rfl ?_
  refine j_end ?_
  obtain rfl := oi h
  exact run_ret fun a w hst => q_ret1 hst rfl (.cell rfl .here (by kernel_rfl)) () (fun _ _ h => h) (.cons (.next (.next .here)) <| .nil)
set_option maxRecDepth 100000 in
set_option maxHeartbeats 4000000 in
theorem c_gossip_Pool_ahead {G : GP} {p_p : Option T_gossip_Pool} {p_e : Int} : Ctr Tryz.prog G 66 [(ptr R_gossip_Pool).slot p_p, i64.slot p_e] [] (fun (_ : Unit) => fnS 113 [ptrTo (ptr R_gossip_Pool) p_p, ptrTo i64 p_e]) (fun (_ : Unit) => []) := by
  refine ctr_of_run Tryz.func66 rfl 6 rfl rfl fun m0 w0 b0 => ?_
  show Run _ _ _ [(0, (ptr R_gossip_Pool).slot p_p), (1, i64.slot p_e)] _
  refine rs ?_
  refine rt ?_
  refine jp (pj_box_to (ht rfl)) rfl rfl rfl ?_
  refine jp (pj_box_to (ht rfl)) rfl rfl rfl ?_
  refine jp (pa (s := any) (fun _ _ _ => trivial)) rfl rfl rfl ?_
  refine j_end ?_
  refine rs ?_
  refine rt ?_
  refine jp (pj_makeFunc (hc (ht rfl) <| hc (ht rfl) <| hasL_nil)) rfl rfl rfl ?_
  refine jp (pa (ht rfl)) rfl rfl rfl ?_
  refine j_end ?_
  exact run_ret fun a w hst => q_ret1 hst rfl (.tmp rfl) () (fun _ _ h => h) .nil
set_option maxRecDepth 100000 in
set_option maxHeartbeats 4000000 in
theorem c_gossip_Pool_ahead_1 {G : GP} {Sy : Type} {yl : Sy → Int → Option Sy} {q_0 : Option T_gossip_Pool} {q_1 : Int} {s0 : Sy} {L : Nat} {rc : Loop} {E : Sy → Ent} {r : Sy} (hY : ∀ s d s', yl s d = some s' → YieldC Tryz.prog G L rc (i64.slot d) (E s) (E s')) (h : gossip_Pool_ahead_1 yl q_0 q_1 s0 = some r) : CtrY Tryz.prog G L rc 113 [val (yv L), ptrTo (ptr R_gossip_Pool) q_0, ptrTo i64 q_1] [E s0] (fun (_ : Unit) => tup []) (fun (_ : Unit) => [E r]) := by
  unfold gossip_Pool_ahead_1 at h
  refine ctrY_of_run Tryz.func113 rfl 27 rfl rfl fun m0 w0 b0 hl hb => ?_
  show Run _ _ _ [(0, val (yv L)), (1, ptrTo (ptr R_gossip_Pool) q_0), (2, ptrTo i64 q_1)] _
  refine rs ?_
  refine rt ?_
  refine jp (pl (ht rfl) (by kernel_rfl)) rfl rfl rfl ?_
  obtain ⟨x1, e1, h⟩ := bind_some h
  refine jp (pj_nilCheck_some (ht rfl) e1) rfl rfl rfl ?_
  refine jp (pj_field_to (ht rfl) (Path.then (Path.snd (sl u8) (prod (sl R_head_Signed) (prod (sl R_gossip_Fork) (sl R_gossip_link)))) (Path.then (Path.snd (sl R_head_Signed) (prod (sl R_gossip_Fork) (sl R_gossip_link))) (Path.snd (sl R_gossip_Fork) (sl R_gossip_link)))) (by kernel_rfl)) rfl rfl rfl ?_
  refine jp (pl (ht rfl) (by kernel_rfl)) rfl rfl rfl ?_
  refine jp (pj_len_sl (sz := 2) (ht rfl) (by kernel_rfl)) rfl rfl rfl ?_
  refine jp (pm has_i64) rfl rfl rfl ?_
  refine j_end ?_
  obtain ⟨⟨y4, y5⟩, e8, h⟩ := bind_some h
  refine run_loopS (Γi := fun (i : Unit) (s : Int × Sy) => [(0, val (yv L)), (2, ptrTo i64 q_1), (9, (sl R_gossip_link).slot x1.2.2.2), (10, i64.slot (x1.2.2.2.length : Int)), (11, i64.slot s.1)]) (Hi := fun (i : Unit) (s : Int × Sy) => [E s.2]) e8 () (fun a w hst => (hst.sub (.cons (.of_lk rfl) <| .cons (.of_lk rfl) <| .cons (.of_lk rfl) <| .cons (.of_lk rfl) <| .cons (.of_lk rfl) <| .nil)).keep (.cons .here <| .nil)) ?_ ?_
  · clear h e8
    rintro _ ⟨y1, y2⟩ lr h
    change gossip_Pool_ahead_1_L1 x1 q_1 yl y1 y2 = some _ at h
    show Run _ _ _ [(0, val (yv L)), (2, ptrTo i64 q_1), (9, (sl R_gossip_link).slot x1.2.2.2), (10, i64.slot (x1.2.2.2.length : Int)), (11, i64.slot y1)] [E y2]
    unfold gossip_Pool_ahead_1_L1 at h
    refine rs ?_
    refine rt ?_
    refine jp (pj_ilss (ht rfl) (ht rfl)) rfl rfl rfl ?_
    refine j_end ?_
    refine rs ?_
    refine run_cond (ht rfl) (fun e2 => ?_) (fun e2 => ?_)
    · replace h := bt e2 h
      refine run_skip ?_
      refine rs ?_
      refine run_block ?_
      refine rs ?_
      refine rt ?_
      obtain ⟨x2, e3, h⟩ := bind_some h
      refine jp (pj_index_slx (ht rfl) (ht rfl) isInt_i64 e3 (by kernel_rfl)) rfl rfl rfl ?_
      refine jp (pl (ht rfl) (by kernel_rfl)) rfl rfl rfl ?_
      refine j_alloc (x := (0, 0)) (R := R_gossip_link) (zero_prod zero_i64 zero_i64) (by kernel_rfl) rfl fun b1 => ?_
      refine j_store_boxx (r' := x2) (ht rfl) (ht rfl) .here (Path.all R_gossip_link) (by kernel_rfl) rfl ?_
      refine j_freezeTo (t := 5) .here (.of_lk rfl) ?_
      refine j_end ?_
      refine rs ?_
      refine rt ?_
      refine jp (pj_field_to (ht rfl) (Path.fst i64 i64) (by kernel_rfl)) rfl rfl rfl ?_
      refine jp (pl (ht rfl) (by kernel_rfl)) rfl rfl rfl ?_
      refine jp (pl (ht rfl) (by kernel_rfl)) rfl rfl rfl ?_
      refine jp (pj_ieql (ht rfl) (ht rfl)) rfl rfl rfl ?_
      refine jp (pm (ht rfl)) rfl rfl rfl ?_
      rcases bool_tf (decide (x2.1 = q_1)) with e4 | e4
      · replace h := bt e4 h
        refine jy (pm (ht rfl)) rfl rfl rfl rfl (bl_isx e4) rfl rfl ?_
        refine jy (pj_field_to (ht rfl) (Path.snd i64 i64) (by kernel_rfl)) rfl rfl rfl rfl (bl_isx e4) rfl rfl ?_
        refine jy (pl (ht rfl) (by kernel_rfl)) rfl rfl rfl rfl (bl_isx e4) rfl rfl ?_
        obtain ⟨y3, e5, h⟩ := bind_some h
        refine j_guard_yes rfl rfl rfl rfl (bl_isx e4) (j_yield (ht rfl) (ht rfl) hl hb (hY _ _ _ e5) rfl ?_)
        refine jy (pj_not (ht rfl)) rfl rfl rfl rfl (bl_isx e4) rfl rfl ?_
        refine jp (pj_pick (t := any) (ht rfl) (fun _ => (ht rfl)) (fun he => absurd (e4.symm.trans he) (by decide))) rfl rfl rfl ?_
        refine j_end ?_
        refine run_cond_f (ht rfl) rfl ?_
        refine run_skip ?_
        refine run_endblock ?_
        refine rt ?_
        refine jp (pj_iadd (ht rfl) has_i64) rfl rfl rfl ?_
        refine jp (pm (ht rfl)) rfl rfl rfl ?_
        refine j_end ?_
        obtain rfl := oi h
        exact run_next () (.cons (.of_lk rfl) <| .cons (.of_lk rfl) <| .cons (.of_lk rfl) <| .cons (.of_lk rfl) <| .cons (.of_lk rfl) <| .nil) (.cons .here <| .nil)
      · replace h := bf e4 h
        refine j_guard_no2 (j := 4) (want := true) rfl rfl rfl rfl (bl_isx e4) rfl rfl rfl ?_
        refine j_guard_no2 (j := 4) (want := true) rfl rfl rfl rfl (bl_isx e4) rfl rfl rfl ?_
        refine j_guard_no2 (j := 4) (want := true) rfl rfl rfl rfl (bl_isx e4) rfl rfl rfl ?_
        refine j_guard_no2 (j := 4) (want := true) rfl rfl rfl rfl (bl_isx e4) rfl rfl rfl ?_
        refine j_guard_no2 (j := 4) (want := true) rfl rfl rfl rfl (bl_isx e4) rfl rfl rfl ?_
        refine jp (pj_pick (t := any) (ht rfl) (fun he => absurd (e4.symm.trans he) (by decide)) (fun _ => has_bl)) rfl rfl rfl ?_
        refine j_end ?_
        refine run_cond_f (ht rfl) rfl ?_
        refine run_skip ?_
        refine run_endblock ?_
        refine rt ?_
        refine jp (pj_iadd (ht rfl) has_i64) rfl rfl rfl ?_
        refine jp (pm (ht rfl)) rfl rfl rfl ?_
        refine j_end ?_
        obtain rfl := oi h
        exact run_next () (.cons (.of_lk rfl) <| .cons (.of_lk rfl) <| .cons (.of_lk rfl) <| .cons (.of_lk rfl) <| .cons (.of_lk rfl) <| .nil) (.cons .here <| .nil)
    · replace h := bf e2 h
      obtain rfl := oi h
      exact run_brk () (.cons (.of_lk rfl) <| .cons (.of_lk rfl) <| .cons (.of_lk rfl) <| .cons (.of_lk rfl) <| .cons (.of_lk rfl) <| .nil) (.cons .here <| .nil)
  · rintro _
    show Run _ _ _ [(0, val (yv L)), (2, ptrTo i64 q_1), (9, (sl R_gossip_link).slot x1.2.2.2), (10, i64.slot (x1.2.2.2.length : Int)), (11, i64.slot y4)] [E y5]
    refine run_to (Γ' := []) (H' := [E y5]) (.nil) (.cons .here <| .nil) ?_
    obtain rfl := oi h
    exact run_nil fun a w hst => q_retN_n hst rfl (.nil) rfl () (fun _ _ h => h) (.cons .here <| .nil)
set_option maxRecDepth 100000 in
set_option maxHeartbeats 4000000 in
theorem c_gossip_Pool_Linked {G : GP} {p_p : Option T_gossip_Pool} {p_m : Int} {p_n : Int} {r : Bool} (h : gossip_Pool_Linked p_p p_m p_n = some r) : Ctr Tryz.prog G 25 [(ptr R_gossip_Pool).slot p_p, i64.slot p_m, i64.slot p_n] [] (fun (_ : Unit) => bl.slot r) (fun (_ : Unit) => []) := by
  unfold gossip_Pool_Linked at h
  refine ctr_of_runM Tryz.func25 rfl 71 rfl rfl fun m0 w0 b0 => ?_
  refine run_ret0 fun Qf hq1 hq2 => ?_
  show Run _ _ _ [(0, (ptr R_gossip_Pool).slot p_p), (1, i64.slot p_m), (2, i64.slot p_n)] _
  refine rs ?_
  refine rt ?_
  refine jp (pa has_bl) rfl rfl rfl ?_
  refine j_end ?_
  refine rs ?_
  refine rs ?_
  refine rt ?_
  refine jp (pm (ht rfl)) rfl rfl rfl ?_
  refine jp (pj_eq_nil (E := 116) (by kernel_rfl) (ht rfl)) rfl rfl rfl ?_
  refine j_end ?_
  refine run_cond (ht rfl) (fun e1 => ?_) (fun e1 => ?_)
  · replace h := bt e1 h
    refine rs ?_
    refine rt ?_
    refine jp (pa has_bl) rfl rfl rfl ?_
    refine j_end ?_
    obtain rfl := oi h
    exact run_ret fun a w hst => q_ret1M hst rfl (.tmp rfl) () (fun _ _ h => h) (.nil)
  · replace h := bf e1 h
    refine run_skip ?_
    refine rs ?_
    refine rt ?_
    refine jp (pm (ht rfl)) rfl rfl rfl ?_
    refine jp (pm (ht rfl)) rfl rfl rfl ?_
    obtain ⟨r1, e2, h⟩ := bind_some h
    refine jp (pj_call (hc (ht rfl) <| hc (ht rfl) <| hasL_nil) (by kernel_rfl) (c_gossip_Pool_place e2)) rfl rfl rfl ?_
    refine jp (pm (ht rfl)) rfl rfl rfl ?_
    refine jp (pj_extract (ht rfl) rfl) rfl rfl rfl ?_
    refine jp (pj_extract (ht rfl) rfl) rfl rfl rfl ?_
    refine jp (pa (ht rfl)) rfl rfl rfl ?_
    refine jp (pa (ht rfl)) rfl rfl rfl ?_
    refine j_end ?_
    refine rs ?_
    refine rt ?_
    refine jp (pm (ht rfl)) rfl rfl rfl ?_
    refine jp (pm (ht rfl)) rfl rfl rfl ?_
    obtain ⟨r2, e3, h⟩ := bind_some h
    refine jp (pj_call (hc (ht rfl) <| hc (ht rfl) <| hasL_nil) (by kernel_rfl) (c_gossip_Pool_place e3)) rfl rfl rfl ?_
    refine jp (pm (ht rfl)) rfl rfl rfl ?_
    refine jp (pj_extract (ht rfl) rfl) rfl rfl rfl ?_
    refine jp (pj_extract (ht rfl) rfl) rfl rfl rfl ?_
    refine jp (pa (ht rfl)) rfl rfl rfl ?_
    refine jp (pa (ht rfl)) rfl rfl rfl ?_
    refine j_end ?_
    refine rs ?_
    refine rs ?_
    refine rt ?_
    refine jp (pm (ht rfl)) rfl rfl rfl ?_
    refine jp (pj_not (ht rfl)) rfl rfl rfl ?_
    refine jp (pm (ht rfl)) rfl rfl rfl ?_
    obtain ⟨y1, e5, h⟩ := bind_some h
    refine j_joinx (ι := Unit) (Γ' := fun _ => [(0, (ptr R_gossip_Pool).slot p_p), (1, i64.slot p_m), (2, i64.slot p_n), (35, bl.slot y1)]) (H' := fun _ => []) 3 ?_ fun J => ?_
    · intro _
      clear e5
      show OpsJ _ _ _ [(0, (ptr R_gossip_Pool).slot p_p), (1, i64.slot p_m), (2, i64.slot p_n), (35, bl.slot y1)] [] _
      refine j_end ?_
      refine run_cond (ht rfl) (fun e6 => ?_) (fun e6 => ?_)
      · replace h := bt e6 h
        refine rs ?_
        refine rt ?_
        refine jp (pa has_bl) rfl rfl rfl ?_
        refine j_end ?_
        obtain rfl := oi h
        exact run_ret fun a w hst => q_ret1M hst rfl (.tmp rfl) () (fun _ _ h => h) (.nil)
      · replace h := bf e6 h
        refine run_skip ?_
        refine rs ?_
        refine rt ?_
        refine jp (pm (ht rfl)) rfl rfl rfl ?_
        refine j_buildSlice (T := 3) (R := i64) (.cons (ht rfl) .nil) rfl (by kernel_rfl) (by kernel_rfl) rfl fun v1 => ?_
        refine j_alloc (x := ([] : List Int)) (R := (sl i64)) zero_sl (by kernel_rfl) rfl fun b1 => ?_
        refine j_store_ow (ht rfl) (ht rfl) .here (by kernel_rfl) (by kernel_rfl) ?_
        refine j_end ?_
        refine rs ?_
        refine rs ?_
        refine rt ?_
        refine jp (pa has_i64) rfl rfl rfl ?_
        refine j_end ?_
        obtain ⟨o, e17, h⟩ := bind_some h
        refine run_loop (Γi := fun (i : Value) (s : Int × (List Int)) => [(0, (ptr R_gossip_Pool).slot p_p), (2, i64.slot p_n), (11, val (.pointer (some ⟨b1, 0, none⟩))), (12, i64.slot s.1)]) (Hi := fun (i : Value) (s : Int × (List Int)) => [box b1 132 (exv i) (), own 3 i64 i s.2]) (R := fun x a w => x = r → Qf a w) e17 v1 (fun a w hst => (hst.sub (.cons (.of_lk rfl) <| .cons (.of_lk rfl) <| .cons (.of_lk rfl) <| .cons (.of_lk rfl) <| .nil)).keep (.cons .here <| .cons .here <| .nil)) ?_ ?_ ?_
        · clear h e17
          rintro v2 ⟨y2, y3⟩ lr h
          change gossip_Pool_Linked_L1 p_n p_p y2 y3 = some _ at h
          show Run _ _ _ [(0, (ptr R_gossip_Pool).slot p_p), (2, i64.slot p_n), (11, val (.pointer (some ⟨b1, 0, none⟩))), (12, i64.slot y2)] [box b1 132 (exv v2) (), own 3 i64 v2 y3]
          unfold gossip_Pool_Linked_L1 at h
          refine rs ?_
          refine rs ?_
          refine rt ?_
          refine jp (pm (ht rfl)) rfl rfl rfl ?_
          refine jp (pj_load_box (ht rfl) .here (Path.all (exv v2)) (by kernel_rfl)) rfl rfl rfl ?_
          refine jp (pj_len_own (sz := 1) (ht rfl) (.next .here) (by kernel_rfl)) rfl rfl rfl ?_
          refine jp (pj_ilss (ht rfl) (ht rfl)) rfl rfl rfl ?_
          refine j_end ?_
          refine run_cond (ht rfl) (fun e7 => ?_) (fun e7 => ?_)
          · replace h := bt e7 h
            refine run_skip ?_
            refine rs ?_
            refine run_block ?_
            refine run_scope (ng_bq ng_lq) ?_
            refine rs ?_
            refine rs ?_
            refine rt ?_
            refine jp (pj_load_box (ht rfl) .here (Path.all (exv v2)) (by kernel_rfl)) rfl rfl rfl ?_
            refine jp (pm (ht rfl)) rfl rfl rfl ?_
            obtain ⟨x1, e8, h⟩ := bind_some h
            refine jp (pj_index_own (ht rfl) (.next .here) (ht rfl) isInt_i64 (lget_some e8).1 (lget_some e8).2.1 (by kernel_rfl)) rfl rfl rfl ?_
            refine jp (PJ.eqv (pj_load_own0 i64 (y2.toNat) (ht rfl) (.next .here) (lget_some e8).2.1 (by kernel_rfl)) (lget_eq e8 (lget_some e8).2.1)) rfl rfl rfl ?_
            refine jp (pm (ht rfl)) rfl rfl rfl ?_
            refine jp (pj_ieql (ht rfl) (ht rfl)) rfl rfl rfl ?_
            refine j_end ?_
            refine run_cond (ht rfl) (fun e9 => ?_) (fun e9 => ?_)
            · replace h := bt e9 h
              refine rs ?_
              refine rt ?_
              refine jp (pa has_bl) rfl rfl rfl ?_
              refine j_end ?_
              obtain rfl := oi h
              refine run_ret fun a w hst => ⟨rfl, fun hr => ?_⟩
              subst hr
              exact hq2 a w (q_ret1M hst rfl (.tmp rfl) () (fun _ _ h => h) (.nil))
            · replace h := bf e9 h
              refine run_skip ?_
              refine rs ?_
              refine run_label ?_
              refine rs ?_
              refine rt ?_
              refine jp (pm (ht rfl)) rfl rfl rfl ?_
              refine jp (pj_load_box (ht rfl) .here (Path.all (exv v2)) (by kernel_rfl)) rfl rfl rfl ?_
              refine jp (pm (ht rfl)) rfl rfl rfl ?_
              obtain ⟨x2, e10, h⟩ := bind_some h
              refine jp (pj_index_own (ht rfl) (.next .here) (ht rfl) isInt_i64 (lget_some e10).1 (lget_some e10).2.1 (by kernel_rfl)) rfl rfl rfl ?_
              refine jp (PJ.eqv (pj_load_own0 i64 (y2.toNat) (ht rfl) (.next .here) (lget_some e10).2.1 (by kernel_rfl)) (lget_eq e10 (lget_some e10).2.1)) rfl rfl rfl ?_
              refine jp (pj_call (hc (ht rfl) <| hc (ht rfl) <| hasL_nil) (by kernel_rfl) c_gossip_Pool_ahead) rfl rfl rfl ?_
              refine j_end ?_
              refine run_block ?_
              refine run_to (Γ' := [(0, (ptr R_gossip_Pool).slot p_p), (2, i64.slot p_n), (11, val (.pointer (some ⟨b1, 0, none⟩))), (12, i64.slot y2), (55, fnS 113 [ptrTo (ptr R_gossip_Pool) p_p, ptrTo i64 x2])]) (H' := [box b1 132 (exv v2) (), own 3 i64 v2 y3]) (.cons (.of_lk rfl) <| .cons (.of_lk rfl) <| .cons (.of_lk rfl) <| .cons (.of_lk rfl) <| .cons (.of_lk rfl) <| .nil) (.cons .here <| .cons .here <| .nil) ?_
              obtain ⟨y8, e16, h⟩ := bind_some h
              refine run_rangeFunc (σ := (List Int)) (α := Int) (κ := Value) (Es := fun (i : Value) (s : (List Int)) => [box b1 132 (exv i) (), own 3 i64 i s]) (y := (fun (s : (List Int)) (d : Int) => gossip_Pool_Linked_L2 s d)) (sd := fun d => i64.slot d) (Γ1 := fun d => [(11, val (.pointer (some ⟨b1, 0, none⟩))), (13, i64.slot d)]) v2 (ht rfl) (by kernel_rfl) rfl (.cons .here <| .cons .here <| .nil) (fun l rc G' hG hY => (c_gossip_Pool_ahead_1 (E := fun (s : (List Int)) => packE fun (i : Value) => [box b1 132 (exv i) (), own 3 i64 i s]) hY e16)) ?_ ?_ ?_
              · clear h e16
                rintro lz mz wz bz v3 y4 d s2 h
                show Run _ _ _ ((56, i64.slot d) :: [(0, (ptr R_gossip_Pool).slot p_p), (2, i64.slot p_n), (11, val (.pointer (some ⟨b1, 0, none⟩))), (12, i64.slot y2), (55, fnS 113 [ptrTo (ptr R_gossip_Pool) p_p, ptrTo i64 x2])]) [box b1 132 (exv v3) (), own 3 i64 v3 y4]
                refine rt ?_
                refine jp (pa (ht rfl)) rfl rfl rfl ?_
                refine j_end ?_
                exact run_nil fun a w hst => ⟨rfl, (hst.sub (.cons (.of_lk rfl) <| .cons (.of_lk rfl) <| .nil)).keep (.cons .here <| .cons .here <| .nil)⟩
              · clear h e16
                rintro lz mz wz bz v3 y4 d s2 h
                change gossip_Pool_Linked_L2 y4 d = some _ at h
                show Run _ _ _ [(11, val (.pointer (some ⟨b1, 0, none⟩))), (13, i64.slot d)] [box b1 132 (exv v3) (), own 3 i64 v3 y4]
                unfold gossip_Pool_Linked_L2 at h
                refine run_block ?_
                refine rs ?_
                refine rs ?_
                refine rt ?_
                refine jp (pj_load_box (ht rfl) .here (Path.all (exv v3)) (by kernel_rfl)) rfl rfl rfl ?_
                refine jp (pj_len_own (sz := 1) (ht rfl) (.next .here) (by kernel_rfl)) rfl rfl rfl ?_
                refine jp (pm has_i64) rfl rfl rfl ?_
                refine j_end ?_
                obtain ⟨o, e14, h⟩ := bind_some h
                refine run_loopX (id2 := 3) (Γi := fun (i : Unit) (s : Int) => [(11, val (.pointer (some ⟨b1, 0, none⟩))), (13, i64.slot d), (57, ov v3), (58, i64.slot (y4.length : Int)), (59, i64.slot s)]) (Hi := fun (i : Unit) (s : Int) => [box b1 132 (exv v3) (), own 3 i64 v3 y4]) e14 rfl () (fun a w hst => (hst.sub (.cons (.of_lk rfl) <| .cons (.of_lk rfl) <| .cons (.of_lk rfl) <| .cons (.of_lk rfl) <| .cons (.of_lk rfl) <| .nil)).keep (.cons .here <| .cons .here <| .nil)) ?_ ?_ ?_
                · clear h e14
                  rintro _ y5 lr h
                  change gossip_Pool_Linked_L3 y4 d y5 = some _ at h
                  show Run _ _ _ [(11, val (.pointer (some ⟨b1, 0, none⟩))), (13, i64.slot d), (57, ov v3), (58, i64.slot (y4.length : Int)), (59, i64.slot y5)] [box b1 132 (exv v3) (), own 3 i64 v3 y4]
                  unfold gossip_Pool_Linked_L3 at h
                  refine rs ?_
                  refine rt ?_
                  refine jp (pj_ilss (ht rfl) (ht rfl)) rfl rfl rfl ?_
                  refine j_end ?_
                  refine rs ?_
                  refine run_cond (ht rfl) (fun e11 => ?_) (fun e11 => ?_)
                  · replace h := bt e11 h
                    refine run_skip ?_
                    refine rs ?_
                    refine run_block ?_
                    refine rs ?_
                    refine rt ?_
                    obtain ⟨x3, e12, h⟩ := bind_some h
                    refine jp (pj_index_own (ht rfl) (.next .here) (ht rfl) isInt_i64 (lget_some e12).1 (lget_some e12).2.1 (by kernel_rfl)) rfl rfl rfl ?_
                    refine jp (PJ.eqv (pj_load_own0 i64 (y5.toNat) (ht rfl) (.next .here) (lget_some e12).2.1 (by kernel_rfl)) (lget_eq e12 (lget_some e12).2.1)) rfl rfl rfl ?_
                    refine jp (pa (ht rfl)) rfl rfl rfl ?_
                    refine j_end ?_
                    refine rs ?_
                    refine rt ?_
                    refine jp (pm (ht rfl)) rfl rfl rfl ?_
                    refine jp (pm (ht rfl)) rfl rfl rfl ?_
                    refine jp (pj_ieql (ht rfl) (ht rfl)) rfl rfl rfl ?_
                    refine j_end ?_
                    refine run_cond (ht rfl) (fun e13 => ?_) (fun e13 => ?_)
                    · replace h := bt e13 h
                      refine run_exit fun a w hst => ?_
                      refine bq_exit_ne rfl ?_
                      obtain rfl := oi h
                      exact lqx_out () (.cons (.of_lk rfl) <| .cons (.of_lk rfl) <| .cons (.of_lk rfl) <| .cons (.of_lk rfl) <| .cons (.of_lk rfl) <| .nil) (.cons .here <| .cons .here <| .nil) hst
                    · replace h := bf e13 h
                      refine run_skip ?_
                      refine run_endblock ?_
                      refine rt ?_
                      refine jp (pj_iadd (ht rfl) has_i64) rfl rfl rfl ?_
                      refine jp (pm (ht rfl)) rfl rfl rfl ?_
                      refine j_end ?_
                      obtain rfl := oi h
                      exact run_nextX () (.cons (.of_lk rfl) <| .cons (.of_lk rfl) <| .cons (.of_lk rfl) <| .cons (.of_lk rfl) <| .cons (.of_lk rfl) <| .nil) (.cons .here <| .cons .here <| .nil)
                  · replace h := bf e11 h
                    obtain rfl := oi h
                    exact run_brkX () (.cons (.of_lk rfl) <| .cons (.of_lk rfl) <| .cons (.of_lk rfl) <| .cons (.of_lk rfl) <| .cons (.of_lk rfl) <| .nil) (.cons .here <| .cons .here <| .nil)
                · rintro _ y6 ho
                  subst ho
                  show Run _ _ _ [(11, val (.pointer (some ⟨b1, 0, none⟩))), (13, i64.slot d), (57, ov v3), (58, i64.slot (y4.length : Int)), (59, i64.slot y6)] [box b1 132 (exv v3) (), own 3 i64 v3 y4]
                  refine run_to (Γ' := [(11, val (.pointer (some ⟨b1, 0, none⟩))), (13, i64.slot d)]) (H' := [box b1 132 (exv v3) (), own 3 i64 v3 y4]) (.cons (.of_lk rfl) <| .cons (.of_lk rfl) <| .nil) (.cons .here <| .cons .here <| .nil) ?_
                  refine rt ?_
                  refine jp (pj_load_box (ht rfl) .here (Path.all (exv v3)) (by kernel_rfl)) rfl rfl rfl ?_
                  refine jp (pm (ht rfl)) rfl rfl rfl ?_
                  refine jp (pj_buildSlice (T := 3) (R := i64) (.cons (ht rfl) .nil) rfl (by kernel_rfl) (by kernel_rfl)) rfl rfl rfl ?_
                  obtain ⟨e15, h⟩ := grd_some h
                  refine j_append (T := 3) (E := 3) (ht rfl) (.next .here) (src_data (ht rfl)) (by kernel_rfl) (by kernel_rfl) e15 rfl fun v4 => ?_
                  refine j_store_ow (ht rfl) (ht rfl) (.next .here) (by kernel_rfl) (by kernel_rfl) ?_
                  refine j_end ?_
                  refine run_endblock ?_
                  obtain rfl := oi h
                  exact run_nil fun a w hst => ⟨rfl, v4, (hst.sub .nil).keep (.cons .here <| .cons .here <| .nil)⟩
                · rintro _ y7 a w ho hst
                  subst ho
                  refine bq_exit ((?_ : Run _ _ _ _ _) a w hst)
                  clear hst
                  show Run _ _ _ [(11, val (.pointer (some ⟨b1, 0, none⟩))), (13, i64.slot d), (57, ov v3), (58, i64.slot (y4.length : Int)), (59, i64.slot y7)] [box b1 132 (exv v3) (), own 3 i64 v3 y4]
                  obtain rfl := oi h
                  exact run_nil fun a w hst => ⟨rfl, v3, (hst.sub .nil).keep (.cons .here <| .cons .here <| .nil)⟩
              · rintro v5
                show Run _ _ _ [(0, (ptr R_gossip_Pool).slot p_p), (2, i64.slot p_n), (11, val (.pointer (some ⟨b1, 0, none⟩))), (12, i64.slot y2), (55, fnS 113 [ptrTo (ptr R_gossip_Pool) p_p, ptrTo i64 x2])] [box b1 132 (exv v5) (), own 3 i64 v5 y8]
                refine run_to (Γ' := [(0, (ptr R_gossip_Pool).slot p_p), (2, i64.slot p_n), (11, val (.pointer (some ⟨b1, 0, none⟩))), (12, i64.slot y2)]) (H' := [box b1 132 (exv v5) (), own 3 i64 v5 y8]) (.cons (.of_lk rfl) <| .cons (.of_lk rfl) <| .cons (.of_lk rfl) <| .cons (.of_lk rfl) <| .nil) (.cons .here <| .cons .here <| .nil) ?_
                refine run_endblock ?_
                refine run_endblock ?_
                refine rt ?_
                refine jp (pm (ht rfl)) rfl rfl rfl ?_
                refine jp (pj_iadd (ht rfl) has_i64) rfl rfl rfl ?_
                refine jp (pa (ht rfl)) rfl rfl rfl ?_
                refine j_end ?_
                obtain rfl := oi h
                exact run_next v5 (.cons (.of_lk rfl) <| .cons (.of_lk rfl) <| .cons (.of_lk rfl) <| .cons (.of_lk rfl) <| .nil) (.cons .here <| .cons .here <| .nil)
          · replace h := bf e7 h
            obtain rfl := oi h
            exact run_brk v2 (.cons (.of_lk rfl) <| .cons (.of_lk rfl) <| .cons (.of_lk rfl) <| .cons (.of_lk rfl) <| .nil) (.cons .here <| .cons .here <| .nil)
        · rintro v6 ⟨y9, y10⟩ ho
          subst ho
          show Run _ _ _ [(0, (ptr R_gossip_Pool).slot p_p), (2, i64.slot p_n), (11, val (.pointer (some ⟨b1, 0, none⟩))), (12, i64.slot y9)] [box b1 132 (exv v6) (), own 3 i64 v6 y10]
          refine run_to (Γ' := []) (H' := []) (.nil) (.nil) ?_
          refine rs ?_
          refine rt ?_
          refine jp (pa has_bl) rfl rfl rfl ?_
          refine j_end ?_
          obtain rfl := oi h
          exact run_ret fun a w hst => q_ret1M hst rfl (.tmp rfl) () (fun _ _ h => h) (.nil)
        · intro x a w ho hR
          subst ho
          exact hq1 a w (hR (oi h))
    · rcases bool_tf (!r1.2) with e4 | e4
      · replace e5 := bt e4 e5
        refine j_guard_no2 (j := 2) (want := false) rfl rfl rfl rfl (bl_isx e4) rfl rfl rfl ?_
        refine j_guard_no2 (j := 2) (want := false) rfl rfl rfl rfl (bl_isx e4) rfl rfl rfl ?_
        refine jp (PJ.eqv (R := bl) (pj_pick (t := any) (ht rfl) (fun _ => has_bl) (fun he => absurd (e4.symm.trans he) (by decide))) (oi e5)) rfl rfl rfl ?_
        exact j_to (.cons (.of_lk rfl) <| .cons (.of_lk rfl) <| .cons (.of_lk rfl) <| .cons (.of_lk rfl) <| .nil) (.nil) (J ())
      · replace e5 := bf e4 e5
        refine jy (pm (ht rfl)) rfl rfl rfl rfl (bl_isx e4) rfl rfl ?_
        refine jy (pj_not (ht rfl)) rfl rfl rfl rfl (bl_isx e4) rfl rfl ?_
        refine jp (PJ.eqv (R := bl) (pj_pick (t := any) (ht rfl) (fun he => absurd (e4.symm.trans he) (by decide)) (fun _ => (ht rfl))) (oi e5)) rfl rfl rfl ?_
        exact j_to (.cons (.of_lk rfl) <| .cons (.of_lk rfl) <| .cons (.of_lk rfl) <| .cons (.of_lk rfl) <| .nil) (.nil) (J ())
set_option maxRecDepth 100000 in
set_option maxHeartbeats 4000000 in
theorem c_gossip_Pool_Heads {G : GP} {p_p : (List (BitVec 8)) × (List T_head_Signed) × (List T_gossip_Fork) × (List T_gossip_link)} {b_p : Nat} {v_p1 : Value} {v_p2 : Value} {v_p3 : Value} {hx0 : Hp} {hx1 : Hp} {hx2 : Hp} {hx3 : Hp} {r : (List T_head_Signed)} (h : gossip_Pool_Heads p_p = some r) : Ctr Tryz.prog G 41 [val (.pointer (some ⟨b_p, 0, none⟩))] [exE (box b_p 116 (prod (sl u8) (prod (exv v_p1) (prod (exv v_p2) (exv v_p3)))) (p_p.1, (), (), ())) hx0, exE (own 33 R_head_Signed v_p1 p_p.2.1) hx1, exE (own 123 R_gossip_Fork v_p2 p_p.2.2.1) hx2, exE (own 130 R_gossip_link v_p3 p_p.2.2.2) hx3] (fun (u0 : Value) => ov u0) (fun (u0 : Value) => [exE (box b_p 116 (prod (sl u8) (prod (exv v_p1) (prod (exv v_p2) (exv v_p3)))) (p_p.1, (), (), ())) hx0, exE (own 33 R_head_Signed v_p1 p_p.2.1) hx1, exE (own 123 R_gossip_Fork v_p2 p_p.2.2.1) hx2, exE (own 130 R_gossip_link v_p3 p_p.2.2.2) hx3, own 33 R_head_Signed u0 r]) := by
  unfold gossip_Pool_Heads at h
  refine ctr_of_run Tryz.func41 rfl 24 rfl rfl fun m0 w0 b0 => ?_
  show Run _ _ _ [(0, val (.pointer (some ⟨b_p, 0, none⟩)))] _
  refine rs ?_
  refine rt ?_
  refine j_assign_nil (T := 33) R_head_Signed rfl fun v1 => ?_
  refine j_end ?_
  refine rs ?_
  refine rs ?_
  refine rt ?_
  refine jp (PJ.xe (xe_keep (xe_ex (xe_ex (xe_ex (xe_ex xe_refl))))) (pm (ht rfl))) rfl rfl rfl ?_
  refine jp (PJ.xe (xe_keep (xe_ex (xe_ex (xe_ex (xe_ex xe_refl))))) (pj_eq_nil_val (E := 116) (by kernel_rfl) (ht rfl))) rfl rfl rfl ?_
  refine j_end ?_
  refine run_cond_f (ht rfl) rfl ?_
  refine run_skip ?_
  refine rs ?_
  refine rt ?_
  refine j_assign_nil (T := 33) R_head_Signed rfl fun v2 => ?_
  refine j_end ?_
  refine rs ?_
  refine rs ?_
  refine rt ?_
  refine jp (PJ.xe (xe_keep (xe_keep (xe_ex (xe_ex (xe_ex (xe_ex xe_refl)))))) (pm (ht rfl))) rfl rfl rfl ?_
  refine jp (PJ.xe (xe_keep (xe_keep (xe_ex (xe_ex (xe_ex (xe_ex xe_refl)))))) (pj_nilCheck_ptr (ht rfl))) rfl rfl rfl ?_
  refine jp (PJ.xe (xe_keep (xe_keep (xe_ex (xe_ex (xe_ex (xe_ex xe_refl)))))) (pj_field_ptr (off := 1) (ht rfl) (by kernel_rfl))) rfl rfl rfl ?_
  refine jp (PJ.xe (xe_keep (xe_keep (xe_ex (xe_ex (xe_ex (xe_ex xe_refl)))))) (pj_load_box (ht rfl) (.next (.next .here)) (Path.then (Path.all (prod (sl u8) (prod (exv v_p1) (prod (exv v_p2) (exv v_p3))))) (Path.then (Path.snd (sl u8) (prod (exv v_p1) (prod (exv v_p2) (exv v_p3)))) (Path.fst (exv v_p1) (prod (exv v_p2) (exv v_p3))))) (by kernel_rfl))) rfl rfl rfl ?_
  refine jp (PJ.xe (xe_keep (xe_keep (xe_ex (xe_ex (xe_ex (xe_ex xe_refl)))))) (pj_len_own (sz := 67) (ht rfl) (.next (.next (.next .here))) (by kernel_rfl))) rfl rfl rfl ?_
  refine jp (PJ.xe (xe_keep (xe_keep (xe_ex (xe_ex (xe_ex (xe_ex xe_refl)))))) (pm has_i64)) rfl rfl rfl ?_
  refine j_end ?_
  obtain ⟨⟨y3, y4⟩, e6, h⟩ := bind_some h
  refine run_loopS (Γi := fun (i : Value) (s : Int × (List T_head_Signed)) => [(3, ov i), (11, ov v_p1), (12, i64.slot (p_p.2.1.length : Int)), (13, i64.slot s.1)]) (Hi := fun (i : Value) (s : Int × (List T_head_Signed)) => [own 33 R_head_Signed i s.2, exE (box b_p 116 (prod (sl u8) (prod (exv v_p1) (prod (exv v_p2) (exv v_p3)))) (p_p.1, (), (), ())) hx0, exE (own 33 R_head_Signed v_p1 p_p.2.1) hx1, exE (own 123 R_gossip_Fork v_p2 p_p.2.2.1) hx2, exE (own 130 R_gossip_link v_p3 p_p.2.2.2) hx3]) e6 v2 (fun a w hst => (hst.sub (.cons (.of_lk rfl) <| .cons (.of_lk rfl) <| .cons (.of_lk rfl) <| .cons (.of_lk rfl) <| .nil)).keep (.cons .here <| .cons (.next .here) <| .cons (.next .here) <| .cons (.next .here) <| .cons (.next .here) <| .nil)) ?_ ?_
  · clear h e6
    rintro v3 ⟨y1, y2⟩ lr h
    change gossip_Pool_Heads_L1 p_p y1 y2 = some _ at h
    show Run _ _ _ [(3, ov v3), (11, ov v_p1), (12, i64.slot (p_p.2.1.length : Int)), (13, i64.slot y1)] [own 33 R_head_Signed v3 y2, exE (box b_p 116 (prod (sl u8) (prod (exv v_p1) (prod (exv v_p2) (exv v_p3)))) (p_p.1, (), (), ())) hx0, exE (own 33 R_head_Signed v_p1 p_p.2.1) hx1, exE (own 123 R_gossip_Fork v_p2 p_p.2.2.1) hx2, exE (own 130 R_gossip_link v_p3 p_p.2.2.2) hx3]
    unfold gossip_Pool_Heads_L1 at h
    refine rs ?_
    refine rt ?_
    refine jp (PJ.xe (xe_keep (xe_ex (xe_ex (xe_ex (xe_ex xe_refl))))) (pj_ilss (ht rfl) (ht rfl))) rfl rfl rfl ?_
    refine j_end ?_
    refine rs ?_
    refine run_cond (ht rfl) (fun e2 => ?_) (fun e2 => ?_)
    · replace h := bt e2 h
      refine run_skip ?_
      refine rs ?_
      refine run_block ?_
      refine rs ?_
      refine rt ?_
      obtain ⟨x1, e3, h⟩ := bind_some h
      refine jp (PJ.xe (xe_keep (xe_ex (xe_ex (xe_ex (xe_ex xe_refl))))) (pj_index_own (ht rfl) (.next (.next .here)) (ht rfl) isInt_i64 (lget_some e3).1 (lget_some e3).2.1 (by kernel_rfl))) rfl rfl rfl ?_
      refine jp (PJ.xe (xe_keep (xe_ex (xe_ex (xe_ex (xe_ex xe_refl))))) (PJ.eqv (pj_load_own0 R_head_Signed (y1.toNat) (ht rfl) (.next (.next .here)) (lget_some e3).2.1 (by kernel_rfl)) (lget_eq e3 (lget_some e3).2.1))) rfl rfl rfl ?_
      refine j_alloc (x := ((0, 0, (Vector.replicate 32 (0#8)), (Vector.replicate 32 (0#8))), ([] : List (BitVec 8)))) (R := R_head_Signed) (zero_prod (zero_prod zero_i64 (zero_prod zero_i64 (zero_prod (zero_vec 32 zero_un) (zero_vec 32 zero_un)))) zero_sl) (by kernel_rfl) rfl fun b1 => ?_
      refine j_store_boxx (r' := x1) (ht rfl) (ht rfl) .here (Path.all R_head_Signed) (by kernel_rfl) rfl ?_
      refine j_freezeTo (t := 5) .here (.of_lk rfl) ?_
      refine j_end ?_
      refine rt ?_
      refine jp (PJ.xe (xe_keep (xe_ex (xe_ex (xe_ex (xe_ex xe_refl))))) (pm (ht rfl))) rfl rfl rfl ?_
      refine jp (PJ.xe (xe_keep (xe_ex (xe_ex (xe_ex (xe_ex xe_refl))))) (pl (ht rfl) (by kernel_rfl))) rfl rfl rfl ?_
      obtain ⟨r1, e4, h⟩ := bind_some h
      refine jp (PJ.xe (xe_keep (xe_ex (xe_ex (xe_ex (xe_ex xe_refl))))) (pj_call (hc (ht rfl) <| hasL_nil) (by kernel_rfl) (c_gossip_copied e4))) rfl rfl rfl ?_
      refine jp (PJ.xe (xe_keep (xe_ex (xe_ex (xe_ex (xe_ex xe_refl))))) (pj_buildSlice (T := 33) (R := R_head_Signed) (.cons (ht rfl) .nil) rfl (by kernel_rfl) (by kernel_rfl))) rfl rfl rfl ?_
      obtain ⟨e5, h⟩ := grd_some h
      refine j_append (T := 33) (E := 33) (ht rfl) .here (src_data (ht rfl)) (by kernel_rfl) (by kernel_rfl) e5 rfl fun v4 => ?_
      refine jp (PJ.xe (xe_keep (xe_ex (xe_ex (xe_ex (xe_ex xe_refl))))) (pa (ht rfl))) rfl rfl rfl ?_
      refine j_end ?_
      refine run_endblock ?_
      refine rt ?_
      refine jp (PJ.xe (xe_keep (xe_ex (xe_ex (xe_ex (xe_ex xe_refl))))) (pj_iadd (ht rfl) has_i64)) rfl rfl rfl ?_
      refine jp (PJ.xe (xe_keep (xe_ex (xe_ex (xe_ex (xe_ex xe_refl))))) (pm (ht rfl))) rfl rfl rfl ?_
      refine j_end ?_
      obtain rfl := oi h
      exact run_next v4 (.cons (.of_lk rfl) <| .cons (.of_lk rfl) <| .cons (.of_lk rfl) <| .cons (.of_lk rfl) <| .nil) (.cons .here <| .cons .here <| .cons .here <| .cons .here <| .cons .here <| .nil)
    · replace h := bf e2 h
      obtain rfl := oi h
      exact run_brk v3 (.cons (.of_lk rfl) <| .cons (.of_lk rfl) <| .cons (.of_lk rfl) <| .cons (.of_lk rfl) <| .nil) (.cons .here <| .cons .here <| .cons .here <| .cons .here <| .cons .here <| .nil)
  · rintro v5
    show Run _ _ _ [(3, ov v5), (11, ov v_p1), (12, i64.slot (p_p.2.1.length : Int)), (13, i64.slot y3)] [own 33 R_head_Signed v5 y4, exE (box b_p 116 (prod (sl u8) (prod (exv v_p1) (prod (exv v_p2) (exv v_p3)))) (p_p.1, (), (), ())) hx0, exE (own 33 R_head_Signed v_p1 p_p.2.1) hx1, exE (own 123 R_gossip_Fork v_p2 p_p.2.2.1) hx2, exE (own 130 R_gossip_link v_p3 p_p.2.2.2) hx3]
    refine run_to (Γ' := [(3, ov v5)]) (H' := [own 33 R_head_Signed v5 y4, exE (box b_p 116 (prod (sl u8) (prod (exv v_p1) (prod (exv v_p2) (exv v_p3)))) (p_p.1, (), (), ())) hx0, exE (own 33 R_head_Signed v_p1 p_p.2.1) hx1, exE (own 123 R_gossip_Fork v_p2 p_p.2.2.1) hx2, exE (own 130 R_gossip_link v_p3 p_p.2.2.2) hx3]) (.cons (.of_lk rfl) <| .nil) (.cons .here <| .cons .here <| .cons .here <| .cons .here <| .cons .here <| .nil) ?_
    refine rs ?_
    refine rt ?_
    refine jp (PJ.xe (xe_keep (xe_ex (xe_ex (xe_ex (xe_ex xe_refl))))) (pm (ht rfl))) rfl rfl rfl ?_
    refine jp (PJ.xe (xe_keep (xe_ex (xe_ex (xe_ex (xe_ex xe_refl))))) (pa (ht rfl))) rfl rfl rfl ?_
    refine j_end ?_
    obtain rfl := oi h
    exact run_ret fun a w hst => q_ret1 hst rfl (.tmp rfl) v5 (fun _ _ h => h) (.cons (.next .here) <| .cons (.next .here) <| .cons (.next .here) <| .cons (.next .here) <| .cons .here <| .nil)
set_option maxRecDepth 100000 in
set_option maxHeartbeats 4000000 in
theorem c_rolodexlaw27_awake {G : GP} (hg0 : HG0 G) (hg1 : HG1 G) (hg2 : HG2 G) {r : Bool} (h : rolodexlaw27_awake = some r) : Ctr Tryz.prog G 16 [] [] (fun (_ : Unit) => bl.slot r) (fun (_ : Unit) => []) := by
  unfold rolodexlaw27_awake at h
  refine ctr_of_run Tryz.func16 rfl 23 rfl rfl fun m0 w0 b0 => ?_
  show Run _ _ _ [] _
  refine rs ?_
  refine rt ?_
  refine jp (pa has_bl) rfl rfl rfl ?_
  refine j_end ?_
  refine rs ?_
  refine rt ?_
  obtain ⟨r1, e1, h⟩ := bind_some h
  refine j_call (hasL_nil) (by kernel_rfl) (c_rolodexlaw27_Signer hg0 hg1 hg2 e1) .nil rfl fun b1 => ?_
  refine jp (pa (ht rfl)) rfl rfl rfl ?_
  refine j_end ?_
  refine rs ?_
  refine rt ?_
  refine jp (pm (ht rfl)) rfl rfl rfl ?_
  obtain ⟨r2, e2, h⟩ := bind_some h
  refine jp (pj_callR (hc (ht rfl) <| hasL_nil) .here (by kernel_rfl) (Ctr.frozeR (fun _ => (c_hss_Signer_Public e2)))) rfl rfl rfl ?_
  obtain ⟨r3, e3, h⟩ := bind_some h
  refine j_call (hc (ht rfl) <| hasL_nil) (by kernel_rfl) (c_gossip_New e3) .nil rfl fun ⟨b2, v1, v2, v3⟩ => ?_
  refine jp (pa (ht rfl)) rfl rfl rfl ?_
  refine j_end ?_
  refine rs ?_
  refine rt ?_
  refine jp (pm (ht rfl)) rfl rfl rfl ?_
  refine jp (pm (ht rfl)) rfl rfl rfl ?_
  obtain ⟨x1, e4, h⟩ := bind_some h
  refine jp (PJ.eqv (pj_build (R := R_rolodexref17_Head) (zero_prod zero_i64 (zero_prod zero_i64 (zero_prod (zero_vec 32 zero_un) (zero_vec 32 zero_un)))) (by kernel_rfl) (by kernel_rfl) rfl (.cons has_i64 (Path.fst i64 (prod i64 (prod R_api_Hash R_api_Hash))) (by kernel_rfl) (.cons has_i64 (Path.then (Path.snd i64 (prod i64 (prod R_api_Hash R_api_Hash))) (Path.fst i64 (prod R_api_Hash R_api_Hash))) (by kernel_rfl) .nil))) (oi e4)) rfl rfl rfl ?_
  obtain ⟨r4, e5, h⟩ := bind_some h
  refine j_call (hc (ht rfl) <| hc (ht rfl) <| hasL_nil) (by kernel_rfl) (c_rolodexlaw27_Signed hg0 hg1 hg2 e5) (.cons (.next (.next (.next (.next .here)))) <| .nil) rfl fun _ => ?_
  obtain ⟨r5, e6, h⟩ := bind_some h
  refine j_call (hc (ht rfl) <| hc (ht rfl) <| hasL_nil) (by kernel_rfl) (c_gossip_Pool_Put hg0 hg1 hg2 e6) (.cons (.next .here) <| .cons (.next .here) <| .cons (.next .here) <| .cons (.next .here) <| .nil) rfl fun ⟨v4, v5, v6⟩ => ?_
  refine jp (pj_ieql (ht rfl) has_i64) rfl rfl rfl ?_
  refine jp (pm (ht rfl)) rfl rfl rfl ?_
  obtain ⟨y1, e8, h⟩ := bind_some h
  refine j_joinx (ι := Unit) (Γ' := fun _ => [(2, val (.pointer (some ⟨b2, 0, none⟩))), (18, bl.slot y1)]) (H' := fun _ => [box b2 116 (prod (sl u8) (prod (exv v4) (prod (exv v5) (exv v6)))) (r5.1.1, (), (), ()), own 33 R_head_Signed v4 r5.1.2.1, own 123 R_gossip_Fork v5 r5.1.2.2.1, own 130 R_gossip_link v6 r5.1.2.2.2]) 5 ?_ fun J => ?_
  · intro _
    clear e8
    show OpsJ _ _ _ [(2, val (.pointer (some ⟨b2, 0, none⟩))), (18, bl.slot y1)] [box b2 116 (prod (sl u8) (prod (exv v4) (prod (exv v5) (exv v6)))) (r5.1.1, (), (), ()), own 33 R_head_Signed v4 r5.1.2.1, own 123 R_gossip_Fork v5 r5.1.2.2.1, own 130 R_gossip_link v6 r5.1.2.2.2] _
    refine jp (pm (ht rfl)) rfl rfl rfl ?_
    obtain ⟨y2, e11, h⟩ := bind_some h
    refine j_joinx (ι := Unit) (Γ' := fun _ => [(22, bl.slot y2)]) (H' := fun _ => []) 3 ?_ fun J => ?_
    · intro _
      clear e11
      show OpsJ _ _ _ [(22, bl.slot y2)] [] _
      refine jp (pa (ht rfl)) rfl rfl rfl ?_
      refine j_end ?_
      obtain rfl := oi h
      exact run_ret fun a w hst => q_ret1 hst rfl (.tmp rfl) () (fun _ _ h => h) (.nil)
    · rcases bool_tf (y1) with e10 | e10
      · replace e11 := bt e10 e11
        refine jy (pm (ht rfl)) rfl rfl rfl rfl (bl_isx e10) rfl rfl ?_
        obtain ⟨r7, e12, e11⟩ := bind_some e11
        refine jy (pj_callB (hasBL_cons (hasB_obj (ht rfl) .here (ocv_step (.next .here) (cv_snd (sl u8) r5.1.1 (cv_fst (prod (exv v5) (exv v6)) ((), ()) cv_at)) <| ocv_step (.next (.next .here)) (cv_snd (sl u8) r5.1.1 (cv_snd (sl R_head_Signed) r5.1.2.1 (cv_fst (exv v6) () cv_at))) <| ocv_step (.next (.next (.next .here))) (cv_snd (sl u8) r5.1.1 (cv_snd (sl R_head_Signed) r5.1.2.1 (cv_snd (sl R_gossip_Fork) r5.1.2.2.1 cv_at))) <| ocv_refl)) <| hasBL_cons (hasB_of has_i64) <| hasBL_cons (hasB_of has_i64) <| hasBL_nil) (by kernel_rfl) (c_gossip_Pool_Linked e12) (Rep.flat_slot flat_bl _)) rfl rfl rfl rfl (bl_isx e10) rfl rfl ?_
        refine jp (PJ.eqv (R := bl) (pj_pick (t := any) (ht rfl) (fun _ => (ht rfl)) (fun he => absurd (e10.symm.trans he) (by decide))) (oi e11)) rfl rfl rfl ?_
        exact j_to (.cons (.of_lk rfl) <| .nil) (.nil) (J ())
      · replace e11 := bf e10 e11
        refine j_guard_no2 (j := 12) (want := true) rfl rfl rfl rfl (bl_isx e10) rfl rfl rfl ?_
        refine j_guard_no2 (j := 12) (want := true) rfl rfl rfl rfl (bl_isx e10) rfl rfl rfl ?_
        refine jp (PJ.eqv (R := bl) (pj_pick (t := any) (ht rfl) (fun he => absurd (e10.symm.trans he) (by decide)) (fun _ => has_bl)) (oi e11)) rfl rfl rfl ?_
        exact j_to (.cons (.of_lk rfl) <| .nil) (.nil) (J ())
  · rcases bool_tf (decide (r5.2 = (0 : Int))) with e7 | e7
    · replace e8 := bt e7 e8
      refine jy (pm (ht rfl)) rfl rfl rfl rfl (bl_isx e7) rfl rfl ?_
      obtain ⟨r6, e9, e8⟩ := bind_some e8
      refine jy (pj_callXL (fun i : Hp × Hp × Hp × Hp => [exE (box b2 116 (prod (sl u8) (prod (exv v4) (prod (exv v5) (exv v6)))) (r5.1.1, (), (), ())) i.1, exE (own 33 R_head_Signed v4 r5.1.2.1) i.2.1, exE (own 123 R_gossip_Fork v5 r5.1.2.2.1) i.2.2.1, exE (own 130 R_gossip_link v6 r5.1.2.2.2) i.2.2.2]) (hc (ht rfl) <| hasL_nil) (.cons .here <| .cons .here <| .cons .here <| .cons .here <| .nil) x4_sat x4_exact (by kernel_rfl) (fun _ => Ctr.frozeL (c_gossip_Pool_Heads e9))) rfl rfl rfl rfl (bl_isx e7) rfl rfl ?_
      refine jy (pj_len_sl (sz := 67) (ht rfl) (by kernel_rfl)) rfl rfl rfl rfl (bl_isx e7) rfl rfl ?_
      refine jy (pj_ieql (ht rfl) has_i64) rfl rfl rfl rfl (bl_isx e7) rfl rfl ?_
      refine jp (PJ.eqv (R := bl) (pj_pick (t := any) (ht rfl) (fun _ => (ht rfl)) (fun he => absurd (e7.symm.trans he) (by decide))) (oi e8)) rfl rfl rfl ?_
      exact j_to (.cons (.of_lk rfl) <| .cons (.of_lk rfl) <| .nil) (.cons .here <| .cons .here <| .cons .here <| .cons .here <| .nil) (J ())
    · replace e8 := bf e7 e8
      refine j_guard_no2 (j := 6) (want := true) rfl rfl rfl rfl (bl_isx e7) rfl rfl rfl ?_
      refine j_guard_no2 (j := 6) (want := true) rfl rfl rfl rfl (bl_isx e7) rfl rfl rfl ?_
      refine j_guard_no2 (j := 6) (want := true) rfl rfl rfl rfl (bl_isx e7) rfl rfl rfl ?_
      refine j_guard_no2 (j := 6) (want := true) rfl rfl rfl rfl (bl_isx e7) rfl rfl rfl ?_
      refine jp (PJ.eqv (R := bl) (pj_pick (t := any) (ht rfl) (fun he => absurd (e7.symm.trans he) (by decide)) (fun _ => has_bl)) (oi e8)) rfl rfl rfl ?_
      exact j_to (.cons (.of_lk rfl) <| .cons (.of_lk rfl) <| .nil) (.cons .here <| .cons .here <| .cons .here <| .cons .here <| .nil) (J ())
set_option maxRecDepth 100000 in
set_option maxHeartbeats 4000000 in
theorem c_gossip_Pool_Gaps {G : GP} {p_p : Option T_gossip_Pool} {r : (List (Vector Int 2))} (h : gossip_Pool_Gaps p_p = some r) : Ctr Tryz.prog G 36 [(ptr R_gossip_Pool).slot p_p] [] (fun (u0 : Value) => ov u0) (fun (u0 : Value) => [own 81 (vec 2 i64) u0 r]) := by
  unfold gossip_Pool_Gaps at h
  refine ctr_of_run Tryz.func36 rfl 49 rfl rfl fun m0 w0 b0 => ?_
  show Run _ _ _ [(0, (ptr R_gossip_Pool).slot p_p)] _
  refine rs ?_
  refine rt ?_
  refine j_assign_nil (T := 81) (vec 2 i64) rfl fun v1 => ?_
  refine j_end ?_
  refine rs ?_
  refine rs ?_
  refine rt ?_
  refine jp (pm (ht rfl)) rfl rfl rfl ?_
  refine jp (pj_eq_nil (E := 116) (by kernel_rfl) (ht rfl)) rfl rfl rfl ?_
  refine j_end ?_
  refine run_cond (ht rfl) (fun e1 => ?_) (fun e1 => ?_)
  · replace h := bt e1 h
    refine rs ?_
    refine rt ?_
    refine j_assign_nil (T := 81) (vec 2 i64) rfl fun v2 => ?_
    refine j_end ?_
    obtain rfl := oi h
    exact run_ret fun a w hst => q_ret1 hst rfl (.tmp rfl) v2 (fun _ _ h => h) (.cons .here <| .nil)
  · replace h := bf e1 h
    refine run_skip ?_
    refine rs ?_
    refine rt ?_
    refine j_assign_nil (T := 81) (vec 2 i64) rfl fun v3 => ?_
    refine j_end ?_
    refine rs ?_
    refine rs ?_
    refine rt ?_
    refine jp (pa has_i64) rfl rfl rfl ?_
    refine j_end ?_
    obtain ⟨⟨y3, y4⟩, e12, h⟩ := bind_some h
    refine run_loopS (Γi := fun (i : Value) (s : Int × (List (Vector Int 2))) => [(0, (ptr R_gossip_Pool).slot p_p), (3, ov i), (4, i64.slot s.1)]) (Hi := fun (i : Value) (s : Int × (List (Vector Int 2))) => [own 81 (vec 2 i64) i s.2]) e12 v3 (fun a w hst => (hst.sub (.cons (.of_lk rfl) <| .cons (.of_lk rfl) <| .cons (.of_lk rfl) <| .nil)).keep (.cons .here <| .nil)) ?_ ?_
    · clear h e12
      rintro v4 ⟨y1, y2⟩ lr h
      change gossip_Pool_Gaps_L1 p_p y1 y2 = some _ at h
      show Run _ _ _ [(0, (ptr R_gossip_Pool).slot p_p), (3, ov v4), (4, i64.slot y1)] [own 81 (vec 2 i64) v4 y2]
      unfold gossip_Pool_Gaps_L1 at h
      refine rs ?_
      refine rs ?_
      refine rt ?_
      refine jp (pm (ht rfl)) rfl rfl rfl ?_
      refine jp (pm (ht rfl)) rfl rfl rfl ?_
      obtain ⟨x1, e2, h⟩ := bind_some h
      refine jp (pj_nilCheck_some (ht rfl) e2) rfl rfl rfl ?_
      refine jp (pj_field_to (ht rfl) (Path.then (Path.snd (sl u8) (prod (sl R_head_Signed) (prod (sl R_gossip_Fork) (sl R_gossip_link)))) (Path.fst (sl R_head_Signed) (prod (sl R_gossip_Fork) (sl R_gossip_link)))) (by kernel_rfl)) rfl rfl rfl ?_
      refine jp (pl (ht rfl) (by kernel_rfl)) rfl rfl rfl ?_
      refine jp (pj_len_sl (sz := 67) (ht rfl) (by kernel_rfl)) rfl rfl rfl ?_
      refine jp (pj_ilss (ht rfl) (ht rfl)) rfl rfl rfl ?_
      refine j_end ?_
      refine run_cond (ht rfl) (fun e3 => ?_) (fun e3 => ?_)
      · replace h := bt e3 h
        refine run_skip ?_
        refine rs ?_
        refine run_block ?_
        refine rs ?_
        obtain ⟨x2, e4, h⟩ := bind_some h
        obtain ⟨x3, e5, h⟩ := bind_some h
        obtain ⟨x4, e6, h⟩ := bind_some h
        obtain ⟨x5, e7, h⟩ := bind_some h
        refine run_draw (n := 20) (by kernel_rfl) (by kernel_rfl) (by kernel_rfl) (by kernel_rfl) (.read (.plain rfl (pm (ht rfl))) <| .read (.plain rfl (pj_nilCheck_some (ht rfl) e4)) <| .read (.plain rfl (pj_field_to (ht rfl) (Path.then (Path.snd (sl u8) (prod (sl R_head_Signed) (prod (sl R_gossip_Fork) (sl R_gossip_link)))) (Path.fst (sl R_head_Signed) (prod (sl R_gossip_Fork) (sl R_gossip_link)))) (by kernel_rfl))) <| .read (.plain rfl (pl (ht rfl) (by kernel_rfl))) <| .read (.plain rfl (pm (ht rfl))) <| .read (.plain rfl (pj_isub (ht rfl) has_i64)) <| .read (.plain rfl (pj_index_slx (ht rfl) (ht rfl) isInt_i64 e5 (by kernel_rfl))) <| .read (.plain rfl (pj_field_to (ht rfl) (Path.fst R_head_Head (sl u8)) (by kernel_rfl))) <| .read (.plain rfl (pj_field_to (ht rfl) (Path.fst i64 (prod i64 (prod R_api_Hash R_api_Hash))) (by kernel_rfl))) <| .read (.plain rfl (pl (ht rfl) (by kernel_rfl))) <| .read (.plain rfl (pm (ht rfl))) <| .read (.plain rfl (pj_nilCheck_some (ht rfl) e6)) <| .read (.plain rfl (pj_field_to (ht rfl) (Path.then (Path.snd (sl u8) (prod (sl R_head_Signed) (prod (sl R_gossip_Fork) (sl R_gossip_link)))) (Path.fst (sl R_head_Signed) (prod (sl R_gossip_Fork) (sl R_gossip_link)))) (by kernel_rfl))) <| .read (.plain rfl (pl (ht rfl) (by kernel_rfl))) <| .read (.plain rfl (pm (ht rfl))) <| .read (.plain rfl (pj_index_slx (ht rfl) (ht rfl) isInt_i64 e7 (by kernel_rfl))) <| .read (.plain rfl (pj_field_to (ht rfl) (Path.fst R_head_Head (sl u8)) (by kernel_rfl))) <| .read (.plain rfl (pj_field_to (ht rfl) (Path.fst i64 (prod i64 (prod R_api_Hash R_api_Hash))) (by kernel_rfl))) <| .read (.plain rfl (pl (ht rfl) (by kernel_rfl))) <| .read (.plain rfl (pa (ht rfl))) <| .nil) (j_to (Γ' := [(0, (ptr R_gossip_Pool).slot p_p), (3, ov v4), (4, i64.slot y1), (5, i64.slot x3.1.1), (36, i64.slot x5.1.1)]) (H' := [own 81 (vec 2 i64) v4 y2]) (.cons (.of_lk rfl) <| .cons (.of_lk rfl) <| .cons (.of_lk rfl) <| .cons (.of_lk rfl) <| .cons (.of_lk rfl) <| .nil) (.cons .here <| .nil) ?_)
        refine jp (pa (ht rfl)) rfl rfl rfl ?_
        refine j_end ?_
        refine rs ?_
        refine rt ?_
        refine jp (pm (ht rfl)) rfl rfl rfl ?_
        refine jp (pm (ht rfl)) rfl rfl rfl ?_
        refine jp (pm (ht rfl)) rfl rfl rfl ?_
        obtain ⟨r1, e8, h⟩ := bind_some h
        refine jp (pj_call (hc (ht rfl) <| hc (ht rfl) <| hc (ht rfl) <| hasL_nil) (by kernel_rfl) (c_gossip_Pool_Linked e8)) rfl rfl rfl ?_
        refine jp (pj_not (ht rfl)) rfl rfl rfl ?_
        refine j_end ?_
        refine run_cond (ht rfl) (fun e9 => ?_) (fun e9 => ?_)
        · replace h := bt e9 h
          refine rt ?_
          refine jp (pm (ht rfl)) rfl rfl rfl ?_
          refine jp (pm (ht rfl)) rfl rfl rfl ?_
          refine jp (pm (ht rfl)) rfl rfl rfl ?_
          obtain ⟨x6, e10, h⟩ := bind_some h
          refine jp (PJ.eqv (pj_buildArr (z0 := 0) (zero_vec 2 zero_i64) (by kernel_rfl) (.cons (ht rfl) (.cons (ht rfl) .nil)) (by kernel_rfl) rfl) (oi e10)) rfl rfl rfl ?_
          refine jp (pj_buildSlice (T := 81) (R := (vec 2 i64)) (.cons (ht rfl) .nil) rfl (by kernel_rfl) (by kernel_rfl)) rfl rfl rfl ?_
          obtain ⟨e11, h⟩ := grd_some h
          refine j_append (T := 81) (E := 81) (ht rfl) .here (src_data (ht rfl)) (by kernel_rfl) (by kernel_rfl) e11 rfl fun v5 => ?_
          refine jp (pa (ht rfl)) rfl rfl rfl ?_
          refine j_end ?_
          refine run_endblock ?_
          refine rt ?_
          refine jp (pm (ht rfl)) rfl rfl rfl ?_
          refine jp (pj_iadd (ht rfl) has_i64) rfl rfl rfl ?_
          refine jp (pa (ht rfl)) rfl rfl rfl ?_
          refine j_end ?_
          obtain rfl := oi h
          exact run_next v5 (.cons (.of_lk rfl) <| .cons (.of_lk rfl) <| .cons (.of_lk rfl) <| .nil) (.cons .here <| .nil)
        · replace h := bf e9 h
          refine run_skip ?_
          refine run_endblock ?_
          refine rt ?_
          refine jp (pm (ht rfl)) rfl rfl rfl ?_
          refine jp (pj_iadd (ht rfl) has_i64) rfl rfl rfl ?_
          refine jp (pa (ht rfl)) rfl rfl rfl ?_
          refine j_end ?_
          obtain rfl := oi h
          exact run_next v4 (.cons (.of_lk rfl) <| .cons (.of_lk rfl) <| .cons (.of_lk rfl) <| .nil) (.cons .here <| .nil)
      · replace h := bf e3 h
        obtain rfl := oi h
        exact run_brk v4 (.cons (.of_lk rfl) <| .cons (.of_lk rfl) <| .cons (.of_lk rfl) <| .nil) (.cons .here <| .nil)
    · rintro v6
      show Run _ _ _ [(0, (ptr R_gossip_Pool).slot p_p), (3, ov v6), (4, i64.slot y3)] [own 81 (vec 2 i64) v6 y4]
      refine run_to (Γ' := [(3, ov v6)]) (H' := [own 81 (vec 2 i64) v6 y4]) (.cons (.of_lk rfl) <| .nil) (.cons .here <| .nil) ?_
      refine rs ?_
      refine rt ?_
      refine jp (pm (ht rfl)) rfl rfl rfl ?_
      refine jp (pa (ht rfl)) rfl rfl rfl ?_
      refine j_end ?_
      obtain rfl := oi h
      exact run_ret fun a w hst => q_ret1 hst rfl (.tmp rfl) v6 (fun _ _ h => h) (.cons .here <| .nil)
set_option maxRecDepth 100000 in
set_option maxHeartbeats 4000000 in
theorem c_gossip_Pool_Put_nil {G : GP} (hg0 : HG0 G) (hg1 : HG1 G) (hg2 : HG2 G) {p_s : T_head_Signed} {r : Int} (h : gossip_Pool_Put_nil p_s = some r) : Ctr Tryz.prog G 21 [(ptr R_gossip_Pool).slot (none : Option T_gossip_Pool), R_head_Signed.slot p_s] [] (fun (_ : Unit) => i64.slot r) (fun (_ : Unit) => []) := by
  unfold gossip_Pool_Put_nil at h
  refine ctr_of_run Tryz.func21 rfl 88 rfl rfl fun m0 w0 b0 => ?_
  show Run _ _ _ [(0, (ptr R_gossip_Pool).slot (none : Option T_gossip_Pool)), (1, R_head_Signed.slot p_s)] _
  refine rs ?_
  refine rt ?_
  refine jp (pj_box_to (ht rfl)) rfl rfl rfl ?_
  refine jp (pa has_i64) rfl rfl rfl ?_
  refine j_end ?_
  refine rs ?_
  refine run_block ?_
  refine rs ?_
  refine rt ?_
  refine jp (pm (ht rfl)) rfl rfl rfl ?_
  refine jp (pj_eq_nil (E := 116) (by kernel_rfl) (ht rfl)) rfl rfl rfl ?_
  refine jp (pa (ht rfl)) rfl rfl rfl ?_
  refine j_end ?_
  refine run_cond_t (ht rfl) rfl ?_
  refine rs ?_
  refine rt ?_
  refine jp (pa has_i64) rfl rfl rfl ?_
  refine j_end ?_
  obtain rfl := oi h
  exact run_ret fun a w hst => q_ret1 hst rfl (.tmp rfl) () (fun _ _ h => h) (.nil)
set_option maxRecDepth 100000 in
set_option maxHeartbeats 4000000 in
theorem c_gossip_Pool_Link_nil {G : GP} (hg1 : HG1 G) (hg2 : HG2 G) (hg3 : HG3 G) (hg4 : HG4 G) {p_m : Int} {p_n : Int} {p_t : T_trail_Trail} {r : Int} (h : gossip_Pool_Link_nil p_m p_n p_t = some r) : Ctr Tryz.prog G 24 [(ptr R_gossip_Pool).slot (none : Option T_gossip_Pool), i64.slot p_m, i64.slot p_n, R_trail_Trail.slot p_t] [] (fun (_ : Unit) => i64.slot r) (fun (_ : Unit) => []) := by
  unfold gossip_Pool_Link_nil at h
  refine ctr_of_run Tryz.func24 rfl 88 rfl rfl fun m0 w0 b0 => ?_
  show Run _ _ _ [(0, (ptr R_gossip_Pool).slot (none : Option T_gossip_Pool)), (1, i64.slot p_m), (2, i64.slot p_n), (3, R_trail_Trail.slot p_t)] _
  refine rs ?_
  refine rt ?_
  refine jp (pj_box_to (ht rfl)) rfl rfl rfl ?_
  refine jp (pa has_i64) rfl rfl rfl ?_
  refine j_end ?_
  refine rs ?_
  refine rs ?_
  refine rt ?_
  refine jp (pm (ht rfl)) rfl rfl rfl ?_
  refine jp (pj_eq_nil (E := 116) (by kernel_rfl) (ht rfl)) rfl rfl rfl ?_
  refine jp (pm (ht rfl)) rfl rfl rfl ?_
  have e1 : (true) = true := rfl
  refine j_guard_no2 (j := 2) (want := false) rfl rfl rfl rfl (bl_isx e1) rfl rfl rfl ?_
  refine j_guard_no2 (j := 2) (want := false) rfl rfl rfl rfl (bl_isx e1) rfl rfl rfl ?_
  refine jp (pj_pick (t := any) (ht rfl) (fun _ => has_bl) (fun he => absurd (e1.symm.trans he) (by decide))) rfl rfl rfl ?_
  refine jp (pm (ht rfl)) rfl rfl rfl ?_
  have e2 : (true) = true := rfl
  refine j_guard_no2 (j := 6) (want := false) rfl rfl rfl rfl (bl_isx e2) rfl rfl rfl ?_
  refine j_guard_no2 (j := 6) (want := false) rfl rfl rfl rfl (bl_isx e2) rfl rfl rfl ?_
  refine j_guard_no2 (j := 6) (want := false) rfl rfl rfl rfl (bl_isx e2) rfl rfl rfl ?_
  refine jp (pj_pick (t := any) (ht rfl) (fun _ => has_bl) (fun he => absurd (e2.symm.trans he) (by decide))) rfl rfl rfl ?_
  refine j_end ?_
  refine run_cond_t (ht rfl) rfl ?_
  refine rs ?_
  refine rt ?_
  refine jp (pa has_i64) rfl rfl rfl ?_
  refine j_end ?_
  obtain rfl := oi h
  exact run_ret fun a w hst => q_ret1 hst rfl (.tmp rfl) () (fun _ _ h => h) (.nil)
set_option maxRecDepth 100000 in
set_option maxHeartbeats 4000000 in
theorem c_gossip_Pool_Heads_nil {G : GP} {r : (List T_head_Signed)} (h : gossip_Pool_Heads_nil = some r) : Ctr Tryz.prog G 41 [(ptr R_gossip_Pool).slot (none : Option T_gossip_Pool)] [] (fun (u0 : Value) => ov u0) (fun (u0 : Value) => [own 33 R_head_Signed u0 r]) := by
  unfold gossip_Pool_Heads_nil at h
  refine ctr_of_run Tryz.func41 rfl 24 rfl rfl fun m0 w0 b0 => ?_
  show Run _ _ _ [(0, (ptr R_gossip_Pool).slot (none : Option T_gossip_Pool))] _
  refine rs ?_
  refine rt ?_
  refine j_assign_nil (T := 33) R_head_Signed rfl fun v1 => ?_
  refine j_end ?_
  refine rs ?_
  refine rs ?_
  refine rt ?_
  refine jp (pm (ht rfl)) rfl rfl rfl ?_
  refine jp (pj_eq_nil (E := 116) (by kernel_rfl) (ht rfl)) rfl rfl rfl ?_
  refine j_end ?_
  refine run_cond_t (ht rfl) rfl ?_
  refine rs ?_
  refine rt ?_
  refine j_assign_nil (T := 33) R_head_Signed rfl fun v2 => ?_
  refine j_end ?_
  obtain rfl := oi h
  exact run_ret fun a w hst => q_ret1 hst rfl (.tmp rfl) v2 (fun _ _ h => h) (.cons .here <| .nil)
set_option maxRecDepth 100000 in
set_option maxHeartbeats 4000000 in
theorem c_gossip_Pool_Forks_nil {G : GP} {r : (List T_gossip_Fork)} (h : gossip_Pool_Forks_nil = some r) : Ctr Tryz.prog G 40 [(ptr R_gossip_Pool).slot (none : Option T_gossip_Pool)] [] (fun (u0 : Value) => ov u0) (fun (u0 : Value) => [own 123 R_gossip_Fork u0 r]) := by
  unfold gossip_Pool_Forks_nil at h
  refine ctr_of_run Tryz.func40 rfl 29 rfl rfl fun m0 w0 b0 => ?_
  show Run _ _ _ [(0, (ptr R_gossip_Pool).slot (none : Option T_gossip_Pool))] _
  refine rs ?_
  refine rt ?_
  refine j_assign_nil (T := 123) R_gossip_Fork rfl fun v1 => ?_
  refine j_end ?_
  refine rs ?_
  refine rs ?_
  refine rt ?_
  refine jp (pm (ht rfl)) rfl rfl rfl ?_
  refine jp (pj_eq_nil (E := 116) (by kernel_rfl) (ht rfl)) rfl rfl rfl ?_
  refine j_end ?_
  refine run_cond_t (ht rfl) rfl ?_
  refine rs ?_
  refine rt ?_
  refine j_assign_nil (T := 123) R_gossip_Fork rfl fun v2 => ?_
  refine j_end ?_
  obtain rfl := oi h
  exact run_ret fun a w hst => q_ret1 hst rfl (.tmp rfl) v2 (fun _ _ h => h) (.cons .here <| .nil)
set_option maxRecDepth 100000 in
set_option maxHeartbeats 4000000 in
theorem c_rolodexlaw27_GossipNone {G : GP} (hg0 : HG0 G) (hg1 : HG1 G) (hg2 : HG2 G) (hg3 : HG3 G) (hg4 : HG4 G) {p_m : Int} {p_n : Int} {p_h : T_rolodexref17_Head} {r : Bool} (h : rolodexlaw27_GossipNone p_m p_n p_h = some r) : Ctr Tryz.prog G 7 [i64.slot p_m, i64.slot p_n, R_rolodexref17_Head.slot p_h] [] (fun (_ : Unit) => bl.slot r) (fun (_ : Unit) => []) := by
  unfold rolodexlaw27_GossipNone at h
  refine ctr_of_run Tryz.func7 rfl 49 rfl rfl fun m0 w0 b0 => ?_
  show Run _ _ _ [(0, i64.slot p_m), (1, i64.slot p_n), (2, R_rolodexref17_Head.slot p_h)] _
  refine rs ?_
  refine rt ?_
  refine jp (pj_box_to (ht rfl)) rfl rfl rfl ?_
  refine jp (pa has_bl) rfl rfl rfl ?_
  refine j_end ?_
  refine rs ?_
  refine rt ?_
  refine jp (pa (has_nilp (R := R_gossip_Pool))) rfl rfl rfl ?_
  refine j_end ?_
  refine rs ?_
  refine rt ?_
  obtain ⟨r1, e1, h⟩ := bind_some h
  refine jp (pj_call (hasL_nil) (by kernel_rfl) (c_rolodexlaw27_awake hg0 hg1 hg2 e1)) rfl rfl rfl ?_
  refine jp (pm (ht rfl)) rfl rfl rfl ?_
  obtain ⟨y1, e3, h⟩ := bind_some h
  refine j_joinx (ι := Unit) (Γ' := fun _ => [(0, i64.slot p_m), (1, i64.slot p_n), (7, (ptr R_gossip_Pool).slot (none : Option T_gossip_Pool)), (15, bl.slot y1)]) (H' := fun _ => []) 6 ?_ fun J => ?_
  · intro _
    clear e3
    show OpsJ _ _ _ [(0, i64.slot p_m), (1, i64.slot p_n), (7, (ptr R_gossip_Pool).slot (none : Option T_gossip_Pool)), (15, bl.slot y1)] [] _
    refine jp (pm (ht rfl)) rfl rfl rfl ?_
    obtain ⟨y2, e7, h⟩ := bind_some h
    refine j_joinx (ι := Unit) (Γ' := fun _ => [(0, i64.slot p_m), (1, i64.slot p_n), (7, (ptr R_gossip_Pool).slot (none : Option T_gossip_Pool)), (23, bl.slot y2)]) (H' := fun _ => []) 7 ?_ fun J => ?_
    · intro _
      clear e7
      show OpsJ _ _ _ [(0, i64.slot p_m), (1, i64.slot p_n), (7, (ptr R_gossip_Pool).slot (none : Option T_gossip_Pool)), (23, bl.slot y2)] [] _
      refine jp (pm (ht rfl)) rfl rfl rfl ?_
      obtain ⟨y3, e10, h⟩ := bind_some h
      refine j_joinx (ι := Unit) (Γ' := fun _ => [(7, (ptr R_gossip_Pool).slot (none : Option T_gossip_Pool)), (30, bl.slot y3)]) (H' := fun _ => []) 6 ?_ fun J => ?_
      · intro _
        clear e10
        show OpsJ _ _ _ [(7, (ptr R_gossip_Pool).slot (none : Option T_gossip_Pool)), (30, bl.slot y3)] [] _
        refine jp (pm (ht rfl)) rfl rfl rfl ?_
        obtain ⟨y4, e13, h⟩ := bind_some h
        refine j_joinx (ι := Unit) (Γ' := fun _ => [(7, (ptr R_gossip_Pool).slot (none : Option T_gossip_Pool)), (36, bl.slot y4)]) (H' := fun _ => []) 5 ?_ fun J => ?_
        · intro _
          clear e13
          show OpsJ _ _ _ [(7, (ptr R_gossip_Pool).slot (none : Option T_gossip_Pool)), (36, bl.slot y4)] [] _
          refine jp (pm (ht rfl)) rfl rfl rfl ?_
          obtain ⟨y5, e16, h⟩ := bind_some h
          refine j_joinx (ι := Unit) (Γ' := fun _ => [(7, (ptr R_gossip_Pool).slot (none : Option T_gossip_Pool)), (42, bl.slot y5)]) (H' := fun _ => []) 5 ?_ fun J => ?_
          · intro _
            clear e16
            show OpsJ _ _ _ [(7, (ptr R_gossip_Pool).slot (none : Option T_gossip_Pool)), (42, bl.slot y5)] [] _
            refine jp (pm (ht rfl)) rfl rfl rfl ?_
            obtain ⟨y6, e19, h⟩ := bind_some h
            refine j_joinx (ι := Unit) (Γ' := fun _ => [(48, bl.slot y6)]) (H' := fun _ => []) 5 ?_ fun J => ?_
            · intro _
              clear e19
              show OpsJ _ _ _ [(48, bl.slot y6)] [] _
              refine jp (pa (ht rfl)) rfl rfl rfl ?_
              refine j_end ?_
              obtain rfl := oi h
              exact run_ret fun a w hst => q_ret1 hst rfl (.tmp rfl) () (fun _ _ h => h) (.nil)
            · rcases bool_tf (y5) with e18 | e18
              · replace e19 := bt e18 e19
                refine jy (pm (ht rfl)) rfl rfl rfl rfl (bl_isx e18) rfl rfl ?_
                obtain ⟨r7, e20, e19⟩ := bind_some e19
                refine jy (pj_call (hc (ht rfl) <| hasL_nil) (by kernel_rfl) (Ctr.froze (c_gossip_Pool_Gaps e20))) rfl rfl rfl rfl (bl_isx e18) rfl rfl ?_
                refine jy (pj_len_sl (sz := 2) (ht rfl) (by kernel_rfl)) rfl rfl rfl rfl (bl_isx e18) rfl rfl ?_
                refine jy (pj_ieql (ht rfl) has_i64) rfl rfl rfl rfl (bl_isx e18) rfl rfl ?_
                refine jp (PJ.eqv (R := bl) (pj_pick (t := any) (ht rfl) (fun _ => (ht rfl)) (fun he => absurd (e18.symm.trans he) (by decide))) (oi e19)) rfl rfl rfl ?_
                exact j_to (.cons (.of_lk rfl) <| .nil) (.nil) (J ())
              · replace e19 := bf e18 e19
                refine j_guard_no2 (j := 35) (want := true) rfl rfl rfl rfl (bl_isx e18) rfl rfl rfl ?_
                refine j_guard_no2 (j := 35) (want := true) rfl rfl rfl rfl (bl_isx e18) rfl rfl rfl ?_
                refine j_guard_no2 (j := 35) (want := true) rfl rfl rfl rfl (bl_isx e18) rfl rfl rfl ?_
                refine j_guard_no2 (j := 35) (want := true) rfl rfl rfl rfl (bl_isx e18) rfl rfl rfl ?_
                refine jp (PJ.eqv (R := bl) (pj_pick (t := any) (ht rfl) (fun he => absurd (e18.symm.trans he) (by decide)) (fun _ => has_bl)) (oi e19)) rfl rfl rfl ?_
                exact j_to (.cons (.of_lk rfl) <| .nil) (.nil) (J ())
          · rcases bool_tf (y4) with e15 | e15
            · replace e16 := bt e15 e16
              refine jy (pm (ht rfl)) rfl rfl rfl rfl (bl_isx e15) rfl rfl ?_
              obtain ⟨r6, e17, e16⟩ := bind_some e16
              refine jy (pj_call (hc (ht rfl) <| hasL_nil) (by kernel_rfl) (Ctr.froze (c_gossip_Pool_Forks_nil e17))) rfl rfl rfl rfl (bl_isx e15) rfl rfl ?_
              refine jy (pj_len_sl (sz := 134) (ht rfl) (by kernel_rfl)) rfl rfl rfl rfl (bl_isx e15) rfl rfl ?_
              refine jy (pj_ieql (ht rfl) has_i64) rfl rfl rfl rfl (bl_isx e15) rfl rfl ?_
              refine jp (PJ.eqv (R := bl) (pj_pick (t := any) (ht rfl) (fun _ => (ht rfl)) (fun he => absurd (e15.symm.trans he) (by decide))) (oi e16)) rfl rfl rfl ?_
              exact j_to (.cons (.of_lk rfl) <| .cons (.of_lk rfl) <| .nil) (.nil) (J ())
            · replace e16 := bf e15 e16
              refine j_guard_no2 (j := 29) (want := true) rfl rfl rfl rfl (bl_isx e15) rfl rfl rfl ?_
              refine j_guard_no2 (j := 29) (want := true) rfl rfl rfl rfl (bl_isx e15) rfl rfl rfl ?_
              refine j_guard_no2 (j := 29) (want := true) rfl rfl rfl rfl (bl_isx e15) rfl rfl rfl ?_
              refine j_guard_no2 (j := 29) (want := true) rfl rfl rfl rfl (bl_isx e15) rfl rfl rfl ?_
              refine jp (PJ.eqv (R := bl) (pj_pick (t := any) (ht rfl) (fun he => absurd (e15.symm.trans he) (by decide)) (fun _ => has_bl)) (oi e16)) rfl rfl rfl ?_
              exact j_to (.cons (.of_lk rfl) <| .cons (.of_lk rfl) <| .nil) (.nil) (J ())
        · rcases bool_tf (y3) with e12 | e12
          · replace e13 := bt e12 e13
            refine jy (pm (ht rfl)) rfl rfl rfl rfl (bl_isx e12) rfl rfl ?_
            obtain ⟨r5, e14, e13⟩ := bind_some e13
            refine jy (pj_call (hc (ht rfl) <| hasL_nil) (by kernel_rfl) (Ctr.froze (c_gossip_Pool_Heads_nil e14))) rfl rfl rfl rfl (bl_isx e12) rfl rfl ?_
            refine jy (pj_len_sl (sz := 67) (ht rfl) (by kernel_rfl)) rfl rfl rfl rfl (bl_isx e12) rfl rfl ?_
            refine jy (pj_ieql (ht rfl) has_i64) rfl rfl rfl rfl (bl_isx e12) rfl rfl ?_
            refine jp (PJ.eqv (R := bl) (pj_pick (t := any) (ht rfl) (fun _ => (ht rfl)) (fun he => absurd (e12.symm.trans he) (by decide))) (oi e13)) rfl rfl rfl ?_
            exact j_to (.cons (.of_lk rfl) <| .cons (.of_lk rfl) <| .nil) (.nil) (J ())
          · replace e13 := bf e12 e13
            refine j_guard_no2 (j := 23) (want := true) rfl rfl rfl rfl (bl_isx e12) rfl rfl rfl ?_
            refine j_guard_no2 (j := 23) (want := true) rfl rfl rfl rfl (bl_isx e12) rfl rfl rfl ?_
            refine j_guard_no2 (j := 23) (want := true) rfl rfl rfl rfl (bl_isx e12) rfl rfl rfl ?_
            refine j_guard_no2 (j := 23) (want := true) rfl rfl rfl rfl (bl_isx e12) rfl rfl rfl ?_
            refine jp (PJ.eqv (R := bl) (pj_pick (t := any) (ht rfl) (fun he => absurd (e12.symm.trans he) (by decide)) (fun _ => has_bl)) (oi e13)) rfl rfl rfl ?_
            exact j_to (.cons (.of_lk rfl) <| .cons (.of_lk rfl) <| .nil) (.nil) (J ())
      · rcases bool_tf (y2) with e9 | e9
        · replace e10 := bt e9 e10
          refine jy (pm (ht rfl)) rfl rfl rfl rfl (bl_isx e9) rfl rfl ?_
          refine jy (pm (ht rfl)) rfl rfl rfl rfl (bl_isx e9) rfl rfl ?_
          refine jy (pm (ht rfl)) rfl rfl rfl rfl (bl_isx e9) rfl rfl ?_
          obtain ⟨r4, e11, e10⟩ := bind_some e10
          refine jy (pj_call (hc (ht rfl) <| hc (ht rfl) <| hc (ht rfl) <| hasL_nil) (by kernel_rfl) (c_gossip_Pool_Linked e11)) rfl rfl rfl rfl (bl_isx e9) rfl rfl ?_
          refine jy (pj_not (ht rfl)) rfl rfl rfl rfl (bl_isx e9) rfl rfl ?_
          refine jp (PJ.eqv (R := bl) (pj_pick (t := any) (ht rfl) (fun _ => (ht rfl)) (fun he => absurd (e9.symm.trans he) (by decide))) (oi e10)) rfl rfl rfl ?_
          exact j_to (.cons (.of_lk rfl) <| .cons (.of_lk rfl) <| .nil) (.nil) (J ())
        · replace e10 := bf e9 e10
          refine j_guard_no2 (j := 16) (want := true) rfl rfl rfl rfl (bl_isx e9) rfl rfl rfl ?_
          refine j_guard_no2 (j := 16) (want := true) rfl rfl rfl rfl (bl_isx e9) rfl rfl rfl ?_
          refine j_guard_no2 (j := 16) (want := true) rfl rfl rfl rfl (bl_isx e9) rfl rfl rfl ?_
          refine j_guard_no2 (j := 16) (want := true) rfl rfl rfl rfl (bl_isx e9) rfl rfl rfl ?_
          refine j_guard_no2 (j := 16) (want := true) rfl rfl rfl rfl (bl_isx e9) rfl rfl rfl ?_
          refine jp (PJ.eqv (R := bl) (pj_pick (t := any) (ht rfl) (fun he => absurd (e9.symm.trans he) (by decide)) (fun _ => has_bl)) (oi e10)) rfl rfl rfl ?_
          exact j_to (.cons (.of_lk rfl) <| .cons (.of_lk rfl) <| .nil) (.nil) (J ())
    · rcases bool_tf (y1) with e6 | e6
      · replace e7 := bt e6 e7
        refine jy (pm (ht rfl)) rfl rfl rfl rfl (bl_isx e6) rfl rfl ?_
        refine jy (pm (ht rfl)) rfl rfl rfl rfl (bl_isx e6) rfl rfl ?_
        refine jy (pm (ht rfl)) rfl rfl rfl rfl (bl_isx e6) rfl rfl ?_
        refine jy (pj_build (R := R_trail_Trail) (zero_prod zero_sl zero_sl) (by kernel_rfl) (by kernel_rfl) rfl .nil) rfl rfl rfl rfl (bl_isx e6) rfl rfl ?_
        obtain ⟨r3, e8, e7⟩ := bind_some e7
        refine jy (pj_call (hc (ht rfl) <| hc (ht rfl) <| hc (ht rfl) <| hc (ht rfl) <| hasL_nil) (by kernel_rfl) (c_gossip_Pool_Link_nil hg1 hg2 hg3 hg4 e8)) rfl rfl rfl rfl (bl_isx e6) rfl rfl ?_
        refine jy (pj_ieql (ht rfl) has_i64) rfl rfl rfl rfl (bl_isx e6) rfl rfl ?_
        refine jp (PJ.eqv (R := bl) (pj_pick (t := any) (ht rfl) (fun _ => (ht rfl)) (fun he => absurd (e6.symm.trans he) (by decide))) (oi e7)) rfl rfl rfl ?_
        exact j_to (.cons (.of_lk rfl) <| .cons (.of_lk rfl) <| .cons (.of_lk rfl) <| .cons (.of_lk rfl) <| .nil) (.nil) (J ())
      · replace e7 := bf e6 e7
        refine j_guard_no2 (j := 8) (want := true) rfl rfl rfl rfl (bl_isx e6) rfl rfl rfl ?_
        refine j_guard_no2 (j := 8) (want := true) rfl rfl rfl rfl (bl_isx e6) rfl rfl rfl ?_
        refine j_guard_no2 (j := 8) (want := true) rfl rfl rfl rfl (bl_isx e6) rfl rfl rfl ?_
        refine j_guard_no2 (j := 8) (want := true) rfl rfl rfl rfl (bl_isx e6) rfl rfl rfl ?_
        refine j_guard_no2 (j := 8) (want := true) rfl rfl rfl rfl (bl_isx e6) rfl rfl rfl ?_
        refine j_guard_no2 (j := 8) (want := true) rfl rfl rfl rfl (bl_isx e6) rfl rfl rfl ?_
        refine jp (PJ.eqv (R := bl) (pj_pick (t := any) (ht rfl) (fun he => absurd (e6.symm.trans he) (by decide)) (fun _ => has_bl)) (oi e7)) rfl rfl rfl ?_
        exact j_to (.cons (.of_lk rfl) <| .cons (.of_lk rfl) <| .cons (.of_lk rfl) <| .cons (.of_lk rfl) <| .nil) (.nil) (J ())
  · rcases bool_tf (r1) with e2 | e2
    · replace e3 := bt e2 e3
      refine jy (pm (ht rfl)) rfl rfl rfl rfl (bl_isx e2) rfl rfl ?_
      refine jy (pl (ht rfl) (by kernel_rfl)) rfl rfl rfl rfl (bl_isx e2) rfl rfl ?_
      obtain ⟨x1, e4, e3⟩ := bind_some e3
      refine jy (PJ.eqv (pj_build (R := R_head_Signed) (zero_prod (zero_prod zero_i64 (zero_prod zero_i64 (zero_prod (zero_vec 32 zero_un) (zero_vec 32 zero_un)))) zero_sl) (by kernel_rfl) (by kernel_rfl) rfl (.cons (ht rfl) (Path.fst R_head_Head (sl u8)) (by kernel_rfl) .nil)) (oi e4)) rfl rfl rfl rfl (bl_isx e2) rfl rfl ?_
      obtain ⟨r2, e5, e3⟩ := bind_some e3
      refine jy (pj_call (hc (ht rfl) <| hc (ht rfl) <| hasL_nil) (by kernel_rfl) (c_gossip_Pool_Put_nil hg0 hg1 hg2 e5)) rfl rfl rfl rfl (bl_isx e2) rfl rfl ?_
      refine jy (pj_ieql (ht rfl) has_i64) rfl rfl rfl rfl (bl_isx e2) rfl rfl ?_
      refine jp (PJ.eqv (R := bl) (pj_pick (t := any) (ht rfl) (fun _ => (ht rfl)) (fun he => absurd (e2.symm.trans he) (by decide))) (oi e3)) rfl rfl rfl ?_
      exact j_to (.cons (.of_lk rfl) <| .cons (.of_lk rfl) <| .cons (.of_lk rfl) <| .cons (.of_lk rfl) <| .nil) (.nil) (J ())
    · replace e3 := bf e2 e3
      refine j_guard_no2 (j := 1) (want := true) rfl rfl rfl rfl (bl_isx e2) rfl rfl rfl ?_
      refine j_guard_no2 (j := 1) (want := true) rfl rfl rfl rfl (bl_isx e2) rfl rfl rfl ?_
      refine j_guard_no2 (j := 1) (want := true) rfl rfl rfl rfl (bl_isx e2) rfl rfl rfl ?_
      refine j_guard_no2 (j := 1) (want := true) rfl rfl rfl rfl (bl_isx e2) rfl rfl rfl ?_
      refine j_guard_no2 (j := 1) (want := true) rfl rfl rfl rfl (bl_isx e2) rfl rfl rfl ?_
      refine jp (PJ.eqv (R := bl) (pj_pick (t := any) (ht rfl) (fun he => absurd (e2.symm.trans he) (by decide)) (fun _ => has_bl)) (oi e3)) rfl rfl rfl ?_
      exact j_to (.cons (.of_lk rfl) <| .cons (.of_lk rfl) <| .cons (.of_lk rfl) <| .cons (.of_lk rfl) <| .nil) (.nil) (J ())
end Go.Sl.W
