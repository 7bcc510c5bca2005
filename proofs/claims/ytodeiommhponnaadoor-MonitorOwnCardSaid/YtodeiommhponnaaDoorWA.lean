import Derived.Test.YtodeiommhponnaaDoorM
import Derived.Test.YtodeiommhponnaaDoorOp16
import Derived.Test.YtodeiommhponnaaDoorProg
set_option linter.unusedSimpArgs false
set_option linter.unusedVariables false
set_option linter.unusedSectionVars false
namespace Go.Sl.W
open Go.Proofs Go.Sl Go.Sl.M
abbrev R_hash_state : Rep T_hash_state := vec 8 u32
abbrev R_api_Hash : Rep T_api_Hash := vec 32 u8
abbrev R_rolodexref14_Version : Rep T_rolodexref14_Version := (prod i64 (prod i64 (prod R_api_Hash (prod R_api_Hash (sl u8)))))
abbrev R_chain_Version : Rep T_chain_Version := (prod i64 (prod i64 (prod R_api_Hash (prod R_api_Hash (sl u8)))))
abbrev R_monitor_Monitor : Rep T_monitor_Monitor := (prod (sl u8) (prod i64 (sl R_chain_Version)))
abbrev R_head_Head : Rep T_head_Head := (prod i64 (prod i64 (prod R_api_Hash R_api_Hash)))
abbrev R_session_Found : Rep T_session_Found := (prod (sl u8) (prod i64 (prod R_head_Head (sl R_chain_Version))))
abbrev HG0 (G : GP) : Prop := ∀ m, G.p m → GAt 0 R_hash_state G_hash_begin m
abbrev HG1 (G : GP) : Prop := ∀ m, G.p m → GAt 1 (vec 64 u32) G_hash_rounds m
abbrev ht := @has_tmp
abbrev jp := @j_pure
abbrev pm := @pj_move
abbrev pa := @pj_assign
abbrev oi := @Option.some.inj
abbrev pl := @pj_load_to
abbrev hc := @hasL_cons
abbrev rt := @run_text
abbrev rs := @run_seq
abbrev jy := @j_pure_y
set_option maxRecDepth 100000 in
set_option maxHeartbeats 4000000 in
theorem c_rolodexref14_Few {G : GP} {p_l : List T_rolodexref14_Version} {p_n : Int} {r : Bool} (h : rolodexref14_Few p_l p_n = some r) : Ctr Tryd.prog G 14 [(sl R_rolodexref14_Version).slot p_l, i64.slot p_n] [] (fun (_ : Unit) => bl.slot r) (fun (_ : Unit) => []) := by
  unfold rolodexref14_Few at h
  refine ctr_of_run Tryd.func14 rfl 27 rfl rfl fun m0 w0 b0 => ?_
  refine run_ret0 fun Qf hq1 hq2 => ?_
  show Run _ _ _ [(0, (sl R_rolodexref14_Version).slot p_l), (1, i64.slot p_n)] _
  refine rs ?_
  refine rt ?_
  refine jp (pa has_bl) rfl rfl rfl ?_
  refine j_end ?_
  refine rs ?_
  refine rs ?_
  refine rt ?_
  refine jp (pa has_i64) rfl rfl rfl ?_
  refine j_end ?_
  obtain ⟨o, e6, h⟩ := bind_some h
  refine run_loop (Γi := fun (i : Unit) (s : Int) => [(0, (sl R_rolodexref14_Version).slot p_l), (1, i64.slot p_n), (5, i64.slot s)]) (Hi := fun (i : Unit) (s : Int) => []) (R := fun x a w => x = r → Qf a w) e6 () (fun a w hst => (hst.sub (.cons (.of_lk rfl) <| .cons (.of_lk rfl) <| .cons (.of_lk rfl) <| .nil)).keep (.nil)) ?_ ?_ ?_
  · clear h e6
    rintro _ y1 lr h
    change rolodexref14_Few_L1 p_l y1 = some _ at h
    show Run _ _ _ [(0, (sl R_rolodexref14_Version).slot p_l), (1, i64.slot p_n), (5, i64.slot y1)] []
    unfold rolodexref14_Few_L1 at h
    refine rs ?_
    refine rs ?_
    refine rt ?_
    refine jp (pm (ht rfl)) rfl rfl rfl ?_
    refine jp (pm (ht rfl)) rfl rfl rfl ?_
    refine jp (pj_len_sl (sz := 67) (ht rfl) (by kernel_rfl)) rfl rfl rfl ?_
    refine jp (pj_ilss (ht rfl) (ht rfl)) rfl rfl rfl ?_
    refine jp (pm (ht rfl)) rfl rfl rfl ?_
    obtain ⟨y2, e2, h⟩ := bind_some h
    refine j_joinx (ι := Unit) (Γ' := fun _ => [(0, (sl R_rolodexref14_Version).slot p_l), (1, i64.slot p_n), (5, i64.slot y1), (13, bl.slot y2)]) (H' := fun _ => []) 3 ?_ fun J => ?_
    · intro _
      clear e2
      show OpsJ _ _ _ [(0, (sl R_rolodexref14_Version).slot p_l), (1, i64.slot p_n), (5, i64.slot y1), (13, bl.slot y2)] [] _
      refine j_end ?_
      refine run_cond (ht rfl) (fun e3 => ?_) (fun e3 => ?_)
      · replace h := bt e3 h
        refine run_skip ?_
        refine rs ?_
        refine run_block ?_
        refine rs ?_
        refine rt ?_
        refine jp (pm (ht rfl)) rfl rfl rfl ?_
        refine jp (pm (ht rfl)) rfl rfl rfl ?_
        obtain ⟨x1, e4, h⟩ := bind_some h
        refine jp (pj_index_slx (ht rfl) (ht rfl) isInt_i64 e4 (by kernel_rfl)) rfl rfl rfl ?_
        refine jp (pj_field_to (ht rfl) (Path.then (Path.snd i64 (prod i64 (prod R_api_Hash (prod R_api_Hash (sl u8))))) (Path.then (Path.snd i64 (prod R_api_Hash (prod R_api_Hash (sl u8)))) (Path.then (Path.snd R_api_Hash (prod R_api_Hash (sl u8))) (Path.snd R_api_Hash (sl u8))))) (by kernel_rfl)) rfl rfl rfl ?_
        refine jp (pl (ht rfl) (by kernel_rfl)) rfl rfl rfl ?_
        refine jp (pj_len_sl (sz := 1) (ht rfl) (by kernel_rfl)) rfl rfl rfl ?_
        refine jp (pj_igtr (ht rfl) has_i64) rfl rfl rfl ?_
        refine j_end ?_
        refine run_cond (ht rfl) (fun e5 => ?_) (fun e5 => ?_)
        · replace h := bt e5 h
          refine rs ?_
          refine rt ?_
          refine jp (pa has_bl) rfl rfl rfl ?_
          refine j_end ?_
          obtain rfl := oi h
          refine run_ret fun a w hst => ⟨rfl, fun hr => ?_⟩
          subst hr
          exact hq2 a w (q_ret1 hst rfl (.tmp rfl) () (fun _ _ h => h) (.nil))
        · replace h := bf e5 h
          refine run_skip ?_
          refine run_endblock ?_
          refine rt ?_
          refine jp (pm (ht rfl)) rfl rfl rfl ?_
          refine jp (pj_iadd (ht rfl) has_i64) rfl rfl rfl ?_
          refine jp (pa (ht rfl)) rfl rfl rfl ?_
          refine j_end ?_
          obtain rfl := oi h
          exact run_next () (.cons (.of_lk rfl) <| .cons (.of_lk rfl) <| .cons (.of_lk rfl) <| .nil) (.nil)
      · replace h := bf e3 h
        obtain rfl := oi h
        exact run_brk () (.cons (.of_lk rfl) <| .cons (.of_lk rfl) <| .cons (.of_lk rfl) <| .nil) (.nil)
    · rcases bool_tf (decide (y1 < (p_l.length : Int))) with e1 | e1
      · replace e2 := bt e1 e2
        refine jy (pm (ht rfl)) rfl rfl rfl rfl (bl_isx e1) rfl rfl ?_
        refine jy (pj_ilss (ht rfl) has_i64) rfl rfl rfl rfl (bl_isx e1) rfl rfl ?_
        refine jp (PJ.eqv (R := bl) (pj_pick (t := any) (ht rfl) (fun _ => (ht rfl)) (fun he => absurd (e1.symm.trans he) (by decide))) (oi e2)) rfl rfl rfl ?_
        exact j_to (.cons (.of_lk rfl) <| .cons (.of_lk rfl) <| .cons (.of_lk rfl) <| .cons (.of_lk rfl) <| .nil) (.nil) (J ())
      · replace e2 := bf e1 e2
        refine j_guard_no2 (j := 4) (want := true) rfl rfl rfl rfl (bl_isx e1) rfl rfl rfl ?_
        refine j_guard_no2 (j := 4) (want := true) rfl rfl rfl rfl (bl_isx e1) rfl rfl rfl ?_
        refine jp (PJ.eqv (R := bl) (pj_pick (t := any) (ht rfl) (fun he => absurd (e1.symm.trans he) (by decide)) (fun _ => has_bl)) (oi e2)) rfl rfl rfl ?_
        exact j_to (.cons (.of_lk rfl) <| .cons (.of_lk rfl) <| .cons (.of_lk rfl) <| .cons (.of_lk rfl) <| .nil) (.nil) (J ())
  · rintro _ y3 ho
    subst ho
    show Run _ _ _ [(0, (sl R_rolodexref14_Version).slot p_l), (1, i64.slot p_n), (5, i64.slot y3)] []
    refine run_to (Γ' := [(0, (sl R_rolodexref14_Version).slot p_l), (1, i64.slot p_n)]) (H' := []) (.cons (.of_lk rfl) <| .cons (.of_lk rfl) <| .nil) (.nil) ?_
    refine rs ?_
    refine rt ?_
    refine jp (pm (ht rfl)) rfl rfl rfl ?_
    refine jp (pj_len_sl (sz := 67) (ht rfl) (by kernel_rfl)) rfl rfl rfl ?_
    refine jp (pm (ht rfl)) rfl rfl rfl ?_
    refine jp (pj_ileq (ht rfl) (ht rfl)) rfl rfl rfl ?_
    refine jp (pa (ht rfl)) rfl rfl rfl ?_
    refine j_end ?_
    obtain rfl := oi h
    exact run_ret fun a w hst => q_ret1 hst rfl (.tmp rfl) () (fun _ _ h => h) (.nil)
  · intro x a w ho hR
    subst ho
    exact hq1 a w (hR (oi h))
set_option maxRecDepth 100000 in
set_option maxHeartbeats 4000000 in
theorem c_rolodexlaw14_From {G : GP} {p_l : List T_rolodexref14_Version} {r : (List T_chain_Version)} (h : rolodexlaw14_From p_l = some r) : Ctr Tryd.prog G 15 [(sl R_rolodexref14_Version).slot p_l] [] (fun (u0 : Value) => ov u0) (fun (u0 : Value) => [own 45 R_chain_Version u0 r]) := by
  unfold rolodexlaw14_From at h
  refine ctr_of_run Tryd.func15 rfl 19 rfl rfl fun m0 w0 b0 => ?_
  show Run _ _ _ [(0, (sl R_rolodexref14_Version).slot p_l)] _
  refine rs ?_
  refine rt ?_
  refine j_assign_nil (T := 45) R_chain_Version rfl fun v1 => ?_
  refine j_end ?_
  refine rs ?_
  refine rt ?_
  refine j_assign_nil (T := 45) R_chain_Version rfl fun v2 => ?_
  refine j_end ?_
  refine rs ?_
  refine rs ?_
  refine rt ?_
  refine jp (pa has_i64) rfl rfl rfl ?_
  refine j_end ?_
  obtain ⟨⟨y3, y4⟩, e4, h⟩ := bind_some h
  refine run_loopS (Γi := fun (i : Value) (s : Int × (List T_chain_Version)) => [(0, (sl R_rolodexref14_Version).slot p_l), (3, ov i), (4, i64.slot s.1)]) (Hi := fun (i : Value) (s : Int × (List T_chain_Version)) => [own 45 R_chain_Version i s.2]) e4 v2 (fun a w hst => (hst.sub (.cons (.of_lk rfl) <| .cons (.of_lk rfl) <| .cons (.of_lk rfl) <| .nil)).keep (.cons .here <| .nil)) ?_ ?_
  · clear h e4
    rintro v3 ⟨y1, y2⟩ lr h
    change rolodexlaw14_From_L1 p_l y1 y2 = some _ at h
    show Run _ _ _ [(0, (sl R_rolodexref14_Version).slot p_l), (3, ov v3), (4, i64.slot y1)] [own 45 R_chain_Version v3 y2]
    unfold rolodexlaw14_From_L1 at h
    refine rs ?_
    refine rs ?_
    refine rt ?_
    refine jp (pm (ht rfl)) rfl rfl rfl ?_
    refine jp (pm (ht rfl)) rfl rfl rfl ?_
    refine jp (pj_len_sl (sz := 67) (ht rfl) (by kernel_rfl)) rfl rfl rfl ?_
    refine jp (pj_ilss (ht rfl) (ht rfl)) rfl rfl rfl ?_
    refine j_end ?_
    refine run_cond (ht rfl) (fun e1 => ?_) (fun e1 => ?_)
    · replace h := bt e1 h
      refine run_skip ?_
      refine rs ?_
      refine run_block ?_
      refine rt ?_
      refine jp (pm (ht rfl)) rfl rfl rfl ?_
      refine jp (pm (ht rfl)) rfl rfl rfl ?_
      refine jp (pm (ht rfl)) rfl rfl rfl ?_
      obtain ⟨x1, e2, h⟩ := bind_some h
      refine jp (pj_index_slx (ht rfl) (ht rfl) isInt_i64 e2 (by kernel_rfl)) rfl rfl rfl ?_
      refine jp (pl (ht rfl) (by kernel_rfl)) rfl rfl rfl ?_
      refine jp (pj_buildSlice (T := 45) (R := R_chain_Version) (.cons (ht rfl) .nil) rfl (by kernel_rfl) (by kernel_rfl)) rfl rfl rfl ?_
      obtain ⟨e3, h⟩ := grd_some h
      refine j_append (T := 45) (E := 45) (ht rfl) .here (src_data (ht rfl)) (by kernel_rfl) (by kernel_rfl) e3 rfl fun v4 => ?_
      refine jp (pa (ht rfl)) rfl rfl rfl ?_
      refine j_end ?_
      refine run_endblock ?_
      refine rt ?_
      refine jp (pm (ht rfl)) rfl rfl rfl ?_
      refine jp (pj_iadd (ht rfl) has_i64) rfl rfl rfl ?_
      refine jp (pa (ht rfl)) rfl rfl rfl ?_
      refine j_end ?_
      obtain rfl := oi h
      exact run_next v4 (.cons (.of_lk rfl) <| .cons (.of_lk rfl) <| .cons (.of_lk rfl) <| .nil) (.cons .here <| .nil)
    · replace h := bf e1 h
      obtain rfl := oi h
      exact run_brk v3 (.cons (.of_lk rfl) <| .cons (.of_lk rfl) <| .cons (.of_lk rfl) <| .nil) (.cons .here <| .nil)
  · rintro v5
    show Run _ _ _ [(0, (sl R_rolodexref14_Version).slot p_l), (3, ov v5), (4, i64.slot y3)] [own 45 R_chain_Version v5 y4]
    refine run_to (Γ' := [(3, ov v5)]) (H' := [own 45 R_chain_Version v5 y4]) (.cons (.of_lk rfl) <| .nil) (.cons .here <| .nil) ?_
    refine rs ?_
    refine rt ?_
    refine jp (pm (ht rfl)) rfl rfl rfl ?_
    refine jp (pa (ht rfl)) rfl rfl rfl ?_
    refine j_end ?_
    obtain rfl := oi h
    exact run_ret fun a w hst => q_ret1 hst rfl (.tmp rfl) v5 (fun _ _ h => h) (.cons .here <| .nil)
set_option maxRecDepth 100000 in
set_option maxHeartbeats 4000000 in
theorem c_rolodexref01_Same {G : GP} {p_a : List (BitVec 8)} {p_b : List (BitVec 8)} {r : Bool} (h : rolodexref01_Same p_a p_b = some r) : Ctr Tryd.prog G 26 [(sl u8).slot p_a, (sl u8).slot p_b] [] (fun (_ : Unit) => bl.slot r) (fun (_ : Unit) => []) := by
  unfold rolodexref01_Same at h
  refine ctr_of_run Tryd.func26 rfl 26 rfl rfl fun m0 w0 b0 => ?_
  refine run_ret0 fun Qf hq1 hq2 => ?_
  show Run _ _ _ [(0, (sl u8).slot p_a), (1, (sl u8).slot p_b)] _
  refine rs ?_
  refine rt ?_
  refine jp (pa has_bl) rfl rfl rfl ?_
  refine j_end ?_
  refine rs ?_
  refine rs ?_
  refine rt ?_
  refine jp (pm (ht rfl)) rfl rfl rfl ?_
  refine jp (pj_len_sl (sz := 1) (ht rfl) (by kernel_rfl)) rfl rfl rfl ?_
  refine jp (pm (ht rfl)) rfl rfl rfl ?_
  refine jp (pj_len_sl (sz := 1) (ht rfl) (by kernel_rfl)) rfl rfl rfl ?_
  refine jp (pj_ineq (ht rfl) (ht rfl)) rfl rfl rfl ?_
  refine j_end ?_
  refine run_cond (ht rfl) (fun e1 => ?_) (fun e1 => ?_)
  · replace h := bt e1 h
    refine rs ?_
    refine rt ?_
    refine jp (pa has_bl) rfl rfl rfl ?_
    refine j_end ?_
    obtain rfl := oi h
    exact run_ret fun a w hst => q_ret1 hst rfl (.tmp rfl) () (fun _ _ h => h) (.nil)
  · replace h := bf e1 h
    refine run_skip ?_
    refine rs ?_
    refine rs ?_
    refine rt ?_
    refine jp (pa has_i64) rfl rfl rfl ?_
    refine j_end ?_
    obtain ⟨o, e6, h⟩ := bind_some h
    refine run_loop (Γi := fun (i : Unit) (s : Int) => [(0, (sl u8).slot p_a), (1, (sl u8).slot p_b), (5, i64.slot s)]) (Hi := fun (i : Unit) (s : Int) => []) (R := fun x a w => x = r → Qf a w) e6 () (fun a w hst => (hst.sub (.cons (.of_lk rfl) <| .cons (.of_lk rfl) <| .cons (.of_lk rfl) <| .nil)).keep (.nil)) ?_ ?_ ?_
    · clear h e6
      rintro _ y1 lr h
      change rolodexref01_Same_L1 p_a p_b y1 = some _ at h
      show Run _ _ _ [(0, (sl u8).slot p_a), (1, (sl u8).slot p_b), (5, i64.slot y1)] []
      unfold rolodexref01_Same_L1 at h
      refine rs ?_
      refine rs ?_
      refine rt ?_
      refine jp (pm (ht rfl)) rfl rfl rfl ?_
      refine jp (pm (ht rfl)) rfl rfl rfl ?_
      refine jp (pj_len_sl (sz := 1) (ht rfl) (by kernel_rfl)) rfl rfl rfl ?_
      refine jp (pj_ilss (ht rfl) (ht rfl)) rfl rfl rfl ?_
      refine j_end ?_
      refine run_cond (ht rfl) (fun e2 => ?_) (fun e2 => ?_)
      · replace h := bt e2 h
        refine run_skip ?_
        refine rs ?_
        refine run_block ?_
        refine rs ?_
        obtain ⟨x1, e3, h⟩ := bind_some h
        obtain ⟨x2, e4, h⟩ := bind_some h
        refine run_draw (n := 8) (by kernel_rfl) (by kernel_rfl) (by kernel_rfl) (by kernel_rfl) (.read (.plain rfl (pm (ht rfl))) <| .read (.plain rfl (pm (ht rfl))) <| .read (.plain rfl (pj_index_slx (ht rfl) (ht rfl) isInt_i64 e3 (by kernel_rfl))) <| .read (.plain rfl (pl (ht rfl) (by kernel_rfl))) <| .read (.plain rfl (pm (ht rfl))) <| .read (.plain rfl (pm (ht rfl))) <| .read (.plain rfl (pj_index_slx (ht rfl) (ht rfl) isInt_i64 e4 (by kernel_rfl))) <| .read (.plain rfl (pl (ht rfl) (by kernel_rfl))) <| .nil) (j_to (Γ' := [(0, (sl u8).slot p_a), (1, (sl u8).slot p_b), (5, i64.slot y1), (20, u8.slot x1), (24, u8.slot x2)]) (H' := []) (.cons (.of_lk rfl) <| .cons (.of_lk rfl) <| .cons (.of_lk rfl) <| .cons (.of_lk rfl) <| .cons (.of_lk rfl) <| .nil) (.nil) ?_)
        refine jp (pj_uneq (k := .u8) (b := 8) (ht rfl) (ht rfl)) rfl rfl rfl ?_
        refine j_end ?_
        refine run_cond (ht rfl) (fun e5 => ?_) (fun e5 => ?_)
        · replace h := bt e5 h
          refine rs ?_
          refine rt ?_
          refine jp (pa has_bl) rfl rfl rfl ?_
          refine j_end ?_
          obtain rfl := oi h
          refine run_ret fun a w hst => ⟨rfl, fun hr => ?_⟩
          subst hr
          exact hq2 a w (q_ret1 hst rfl (.tmp rfl) () (fun _ _ h => h) (.nil))
        · replace h := bf e5 h
          refine run_skip ?_
          refine run_endblock ?_
          refine rt ?_
          refine jp (pm (ht rfl)) rfl rfl rfl ?_
          refine jp (pj_iadd (ht rfl) has_i64) rfl rfl rfl ?_
          refine jp (pa (ht rfl)) rfl rfl rfl ?_
          refine j_end ?_
          obtain rfl := oi h
          exact run_next () (.cons (.of_lk rfl) <| .cons (.of_lk rfl) <| .cons (.of_lk rfl) <| .nil) (.nil)
      · replace h := bf e2 h
        obtain rfl := oi h
        exact run_brk () (.cons (.of_lk rfl) <| .cons (.of_lk rfl) <| .cons (.of_lk rfl) <| .nil) (.nil)
    · rintro _ y2 ho
      subst ho
      show Run _ _ _ [(0, (sl u8).slot p_a), (1, (sl u8).slot p_b), (5, i64.slot y2)] []
      refine run_to (Γ' := []) (H' := []) (.nil) (.nil) ?_
      refine rs ?_
      refine rt ?_
      refine jp (pa has_bl) rfl rfl rfl ?_
      refine j_end ?_
      obtain rfl := oi h
      exact run_ret fun a w hst => q_ret1 hst rfl (.tmp rfl) () (fun _ _ h => h) (.nil)
    · intro x a w ho hR
      subst ho
      exact hq1 a w (hR (oi h))
set_option maxRecDepth 100000 in
set_option maxHeartbeats 4000000 in
theorem c_rolodexref14_One {G : GP} {p_a : T_rolodexref14_Version} {p_b : T_rolodexref14_Version} {r : Bool} (h : rolodexref14_One p_a p_b = some r) : Ctr Tryd.prog G 50 [R_rolodexref14_Version.slot p_a, R_rolodexref14_Version.slot p_b] [] (fun (_ : Unit) => bl.slot r) (fun (_ : Unit) => []) := by
  unfold rolodexref14_One at h
  refine ctr_of_run Tryd.func50 rfl 38 rfl rfl fun m0 w0 b0 => ?_
  show Run _ _ _ [(0, R_rolodexref14_Version.slot p_a), (1, R_rolodexref14_Version.slot p_b)] _
  refine rs ?_
  refine rt ?_
  refine jp (pj_box_to (ht rfl)) rfl rfl rfl ?_
  refine jp (pj_box_to (ht rfl)) rfl rfl rfl ?_
  refine jp (pa has_bl) rfl rfl rfl ?_
  refine j_end ?_
  refine rs ?_
  refine rt ?_
  refine jp (pj_field_to (ht rfl) (Path.fst i64 (prod i64 (prod R_api_Hash (prod R_api_Hash (sl u8))))) (by kernel_rfl)) rfl rfl rfl ?_
  refine jp (pl (ht rfl) (by kernel_rfl)) rfl rfl rfl ?_
  refine jp (pj_field_to (ht rfl) (Path.fst i64 (prod i64 (prod R_api_Hash (prod R_api_Hash (sl u8))))) (by kernel_rfl)) rfl rfl rfl ?_
  refine jp (pl (ht rfl) (by kernel_rfl)) rfl rfl rfl ?_
  refine jp (pj_ieql (ht rfl) (ht rfl)) rfl rfl rfl ?_
  refine jp (pm (ht rfl)) rfl rfl rfl ?_
  obtain ⟨y1, e2, h⟩ := bind_some h
  refine j_joinx (ι := Unit) (Γ' := fun _ => [(2, ptrTo R_rolodexref14_Version p_a), (3, ptrTo R_rolodexref14_Version p_b), (16, bl.slot y1)]) (H' := fun _ => []) 6 ?_ fun J => ?_
  · intro _
    clear e2
    show OpsJ _ _ _ [(2, ptrTo R_rolodexref14_Version p_a), (3, ptrTo R_rolodexref14_Version p_b), (16, bl.slot y1)] [] _
    refine jp (pm (ht rfl)) rfl rfl rfl ?_
    obtain ⟨y2, e4, h⟩ := bind_some h
    refine j_joinx (ι := Unit) (Γ' := fun _ => [(2, ptrTo R_rolodexref14_Version p_a), (3, ptrTo R_rolodexref14_Version p_b), (23, bl.slot y2)]) (H' := fun _ => []) 6 ?_ fun J => ?_
    · intro _
      clear e4
      show OpsJ _ _ _ [(2, ptrTo R_rolodexref14_Version p_a), (3, ptrTo R_rolodexref14_Version p_b), (23, bl.slot y2)] [] _
      refine jp (pm (ht rfl)) rfl rfl rfl ?_
      obtain ⟨y3, e6, h⟩ := bind_some h
      refine j_joinx (ι := Unit) (Γ' := fun _ => [(2, ptrTo R_rolodexref14_Version p_a), (3, ptrTo R_rolodexref14_Version p_b), (30, bl.slot y3)]) (H' := fun _ => []) 6 ?_ fun J => ?_
      · intro _
        clear e6
        show OpsJ _ _ _ [(2, ptrTo R_rolodexref14_Version p_a), (3, ptrTo R_rolodexref14_Version p_b), (30, bl.slot y3)] [] _
        refine jp (pm (ht rfl)) rfl rfl rfl ?_
        obtain ⟨y4, e8, h⟩ := bind_some h
        refine j_joinx (ι := Unit) (Γ' := fun _ => [(37, bl.slot y4)]) (H' := fun _ => []) 6 ?_ fun J => ?_
        · intro _
          clear e8
          show OpsJ _ _ _ [(37, bl.slot y4)] [] _
          refine jp (pa (ht rfl)) rfl rfl rfl ?_
          refine j_end ?_
          obtain rfl := oi h
          exact run_ret fun a w hst => q_ret1 hst rfl (.tmp rfl) () (fun _ _ h => h) (.nil)
        · rcases bool_tf (y3) with e7 | e7
          · replace e8 := bt e7 e8
            refine jy (pj_field_to (ht rfl) (Path.then (Path.snd i64 (prod i64 (prod R_api_Hash (prod R_api_Hash (sl u8))))) (Path.then (Path.snd i64 (prod R_api_Hash (prod R_api_Hash (sl u8)))) (Path.then (Path.snd R_api_Hash (prod R_api_Hash (sl u8))) (Path.snd R_api_Hash (sl u8))))) (by kernel_rfl)) rfl rfl rfl rfl (bl_isx e7) rfl rfl ?_
            refine jy (pl (ht rfl) (by kernel_rfl)) rfl rfl rfl rfl (bl_isx e7) rfl rfl ?_
            refine jy (pj_field_to (ht rfl) (Path.then (Path.snd i64 (prod i64 (prod R_api_Hash (prod R_api_Hash (sl u8))))) (Path.then (Path.snd i64 (prod R_api_Hash (prod R_api_Hash (sl u8)))) (Path.then (Path.snd R_api_Hash (prod R_api_Hash (sl u8))) (Path.snd R_api_Hash (sl u8))))) (by kernel_rfl)) rfl rfl rfl rfl (bl_isx e7) rfl rfl ?_
            refine jy (pl (ht rfl) (by kernel_rfl)) rfl rfl rfl rfl (bl_isx e7) rfl rfl ?_
            obtain ⟨r1, e9, e8⟩ := bind_some e8
            refine jy (pj_call (hc (ht rfl) <| hc (ht rfl) <| hasL_nil) (by kernel_rfl) (c_rolodexref01_Same e9)) rfl rfl rfl rfl (bl_isx e7) rfl rfl ?_
            refine jp (PJ.eqv (R := bl) (pj_pick (t := any) (ht rfl) (fun _ => (ht rfl)) (fun he => absurd (e7.symm.trans he) (by decide))) (oi e8)) rfl rfl rfl ?_
            exact j_to (.cons (.of_lk rfl) <| .nil) (.nil) (J ())
          · replace e8 := bf e7 e8
            refine j_guard_no2 (j := 26) (want := true) rfl rfl rfl rfl (bl_isx e7) rfl rfl rfl ?_
            refine j_guard_no2 (j := 26) (want := true) rfl rfl rfl rfl (bl_isx e7) rfl rfl rfl ?_
            refine j_guard_no2 (j := 26) (want := true) rfl rfl rfl rfl (bl_isx e7) rfl rfl rfl ?_
            refine j_guard_no2 (j := 26) (want := true) rfl rfl rfl rfl (bl_isx e7) rfl rfl rfl ?_
            refine j_guard_no2 (j := 26) (want := true) rfl rfl rfl rfl (bl_isx e7) rfl rfl rfl ?_
            refine jp (PJ.eqv (R := bl) (pj_pick (t := any) (ht rfl) (fun he => absurd (e7.symm.trans he) (by decide)) (fun _ => has_bl)) (oi e8)) rfl rfl rfl ?_
            exact j_to (.cons (.of_lk rfl) <| .nil) (.nil) (J ())
      · rcases bool_tf (y2) with e5 | e5
        · replace e6 := bt e5 e6
          refine jy (pj_field_to (ht rfl) (Path.then (Path.snd i64 (prod i64 (prod R_api_Hash (prod R_api_Hash (sl u8))))) (Path.then (Path.snd i64 (prod R_api_Hash (prod R_api_Hash (sl u8)))) (Path.then (Path.snd R_api_Hash (prod R_api_Hash (sl u8))) (Path.fst R_api_Hash (sl u8))))) (by kernel_rfl)) rfl rfl rfl rfl (bl_isx e5) rfl rfl ?_
          refine jy (pl (ht rfl) (by kernel_rfl)) rfl rfl rfl rfl (bl_isx e5) rfl rfl ?_
          refine jy (pj_field_to (ht rfl) (Path.then (Path.snd i64 (prod i64 (prod R_api_Hash (prod R_api_Hash (sl u8))))) (Path.then (Path.snd i64 (prod R_api_Hash (prod R_api_Hash (sl u8)))) (Path.then (Path.snd R_api_Hash (prod R_api_Hash (sl u8))) (Path.fst R_api_Hash (sl u8))))) (by kernel_rfl)) rfl rfl rfl rfl (bl_isx e5) rfl rfl ?_
          refine jy (pl (ht rfl) (by kernel_rfl)) rfl rfl rfl rfl (bl_isx e5) rfl rfl ?_
          refine jy (pj_eql (n := 2) (eq_vec (e := 5) (by kernel_rfl) (by kernel_rfl) (eq_un (by kernel_rfl))) (by decide) rfl (by kernel_rfl) (ht rfl) (ht rfl)) rfl rfl rfl rfl (bl_isx e5) rfl rfl ?_
          refine jp (PJ.eqv (R := bl) (pj_pick (t := any) (ht rfl) (fun _ => (ht rfl)) (fun he => absurd (e5.symm.trans he) (by decide))) (oi e6)) rfl rfl rfl ?_
          exact j_to (.cons (.of_lk rfl) <| .cons (.of_lk rfl) <| .cons (.of_lk rfl) <| .nil) (.nil) (J ())
        · replace e6 := bf e5 e6
          refine j_guard_no2 (j := 19) (want := true) rfl rfl rfl rfl (bl_isx e5) rfl rfl rfl ?_
          refine j_guard_no2 (j := 19) (want := true) rfl rfl rfl rfl (bl_isx e5) rfl rfl rfl ?_
          refine j_guard_no2 (j := 19) (want := true) rfl rfl rfl rfl (bl_isx e5) rfl rfl rfl ?_
          refine j_guard_no2 (j := 19) (want := true) rfl rfl rfl rfl (bl_isx e5) rfl rfl rfl ?_
          refine j_guard_no2 (j := 19) (want := true) rfl rfl rfl rfl (bl_isx e5) rfl rfl rfl ?_
          refine jp (PJ.eqv (R := bl) (pj_pick (t := any) (ht rfl) (fun he => absurd (e5.symm.trans he) (by decide)) (fun _ => has_bl)) (oi e6)) rfl rfl rfl ?_
          exact j_to (.cons (.of_lk rfl) <| .cons (.of_lk rfl) <| .cons (.of_lk rfl) <| .nil) (.nil) (J ())
    · rcases bool_tf (y1) with e3 | e3
      · replace e4 := bt e3 e4
        refine jy (pj_field_to (ht rfl) (Path.then (Path.snd i64 (prod i64 (prod R_api_Hash (prod R_api_Hash (sl u8))))) (Path.then (Path.snd i64 (prod R_api_Hash (prod R_api_Hash (sl u8)))) (Path.fst R_api_Hash (prod R_api_Hash (sl u8))))) (by kernel_rfl)) rfl rfl rfl rfl (bl_isx e3) rfl rfl ?_
        refine jy (pl (ht rfl) (by kernel_rfl)) rfl rfl rfl rfl (bl_isx e3) rfl rfl ?_
        refine jy (pj_field_to (ht rfl) (Path.then (Path.snd i64 (prod i64 (prod R_api_Hash (prod R_api_Hash (sl u8))))) (Path.then (Path.snd i64 (prod R_api_Hash (prod R_api_Hash (sl u8)))) (Path.fst R_api_Hash (prod R_api_Hash (sl u8))))) (by kernel_rfl)) rfl rfl rfl rfl (bl_isx e3) rfl rfl ?_
        refine jy (pl (ht rfl) (by kernel_rfl)) rfl rfl rfl rfl (bl_isx e3) rfl rfl ?_
        refine jy (pj_eql (n := 2) (eq_vec (e := 5) (by kernel_rfl) (by kernel_rfl) (eq_un (by kernel_rfl))) (by decide) rfl (by kernel_rfl) (ht rfl) (ht rfl)) rfl rfl rfl rfl (bl_isx e3) rfl rfl ?_
        refine jp (PJ.eqv (R := bl) (pj_pick (t := any) (ht rfl) (fun _ => (ht rfl)) (fun he => absurd (e3.symm.trans he) (by decide))) (oi e4)) rfl rfl rfl ?_
        exact j_to (.cons (.of_lk rfl) <| .cons (.of_lk rfl) <| .cons (.of_lk rfl) <| .nil) (.nil) (J ())
      · replace e4 := bf e3 e4
        refine j_guard_no2 (j := 12) (want := true) rfl rfl rfl rfl (bl_isx e3) rfl rfl rfl ?_
        refine j_guard_no2 (j := 12) (want := true) rfl rfl rfl rfl (bl_isx e3) rfl rfl rfl ?_
        refine j_guard_no2 (j := 12) (want := true) rfl rfl rfl rfl (bl_isx e3) rfl rfl rfl ?_
        refine j_guard_no2 (j := 12) (want := true) rfl rfl rfl rfl (bl_isx e3) rfl rfl rfl ?_
        refine j_guard_no2 (j := 12) (want := true) rfl rfl rfl rfl (bl_isx e3) rfl rfl rfl ?_
        refine jp (PJ.eqv (R := bl) (pj_pick (t := any) (ht rfl) (fun he => absurd (e3.symm.trans he) (by decide)) (fun _ => has_bl)) (oi e4)) rfl rfl rfl ?_
        exact j_to (.cons (.of_lk rfl) <| .cons (.of_lk rfl) <| .cons (.of_lk rfl) <| .nil) (.nil) (J ())
  · rcases bool_tf (decide (p_a.1 = p_b.1)) with e1 | e1
    · replace e2 := bt e1 e2
      refine jy (pj_field_to (ht rfl) (Path.then (Path.snd i64 (prod i64 (prod R_api_Hash (prod R_api_Hash (sl u8))))) (Path.fst i64 (prod R_api_Hash (prod R_api_Hash (sl u8))))) (by kernel_rfl)) rfl rfl rfl rfl (bl_isx e1) rfl rfl ?_
      refine jy (pl (ht rfl) (by kernel_rfl)) rfl rfl rfl rfl (bl_isx e1) rfl rfl ?_
      refine jy (pj_field_to (ht rfl) (Path.then (Path.snd i64 (prod i64 (prod R_api_Hash (prod R_api_Hash (sl u8))))) (Path.fst i64 (prod R_api_Hash (prod R_api_Hash (sl u8))))) (by kernel_rfl)) rfl rfl rfl rfl (bl_isx e1) rfl rfl ?_
      refine jy (pl (ht rfl) (by kernel_rfl)) rfl rfl rfl rfl (bl_isx e1) rfl rfl ?_
      refine jy (pj_ieql (ht rfl) (ht rfl)) rfl rfl rfl rfl (bl_isx e1) rfl rfl ?_
      refine jp (PJ.eqv (R := bl) (pj_pick (t := any) (ht rfl) (fun _ => (ht rfl)) (fun he => absurd (e1.symm.trans he) (by decide))) (oi e2)) rfl rfl rfl ?_
      exact j_to (.cons (.of_lk rfl) <| .cons (.of_lk rfl) <| .cons (.of_lk rfl) <| .nil) (.nil) (J ())
    · replace e2 := bf e1 e2
      refine j_guard_no2 (j := 5) (want := true) rfl rfl rfl rfl (bl_isx e1) rfl rfl rfl ?_
      refine j_guard_no2 (j := 5) (want := true) rfl rfl rfl rfl (bl_isx e1) rfl rfl rfl ?_
      refine j_guard_no2 (j := 5) (want := true) rfl rfl rfl rfl (bl_isx e1) rfl rfl rfl ?_
      refine j_guard_no2 (j := 5) (want := true) rfl rfl rfl rfl (bl_isx e1) rfl rfl rfl ?_
      refine j_guard_no2 (j := 5) (want := true) rfl rfl rfl rfl (bl_isx e1) rfl rfl rfl ?_
      refine jp (PJ.eqv (R := bl) (pj_pick (t := any) (ht rfl) (fun he => absurd (e1.symm.trans he) (by decide)) (fun _ => has_bl)) (oi e2)) rfl rfl rfl ?_
      exact j_to (.cons (.of_lk rfl) <| .cons (.of_lk rfl) <| .cons (.of_lk rfl) <| .nil) (.nil) (J ())
set_option maxRecDepth 100000 in
set_option maxHeartbeats 4000000 in
theorem c_rolodexref14_Same {G : GP} {p_a : List T_rolodexref14_Version} {p_b : List T_rolodexref14_Version} {r : Bool} (h : rolodexref14_Same p_a p_b = some r) : Ctr Tryd.prog G 18 [(sl R_rolodexref14_Version).slot p_a, (sl R_rolodexref14_Version).slot p_b] [] (fun (_ : Unit) => bl.slot r) (fun (_ : Unit) => []) := by
  unfold rolodexref14_Same at h
  refine ctr_of_run Tryd.func18 rfl 27 rfl rfl fun m0 w0 b0 => ?_
  refine run_ret0 fun Qf hq1 hq2 => ?_
  show Run _ _ _ [(0, (sl R_rolodexref14_Version).slot p_a), (1, (sl R_rolodexref14_Version).slot p_b)] _
  refine rs ?_
  refine rt ?_
  refine jp (pa has_bl) rfl rfl rfl ?_
  refine j_end ?_
  refine rs ?_
  refine rs ?_
  refine rt ?_
  refine jp (pm (ht rfl)) rfl rfl rfl ?_
  refine jp (pj_len_sl (sz := 67) (ht rfl) (by kernel_rfl)) rfl rfl rfl ?_
  refine jp (pm (ht rfl)) rfl rfl rfl ?_
  refine jp (pj_len_sl (sz := 67) (ht rfl) (by kernel_rfl)) rfl rfl rfl ?_
  refine jp (pj_ineq (ht rfl) (ht rfl)) rfl rfl rfl ?_
  refine j_end ?_
  refine run_cond (ht rfl) (fun e1 => ?_) (fun e1 => ?_)
  · replace h := bt e1 h
    refine rs ?_
    refine rt ?_
    refine jp (pa has_bl) rfl rfl rfl ?_
    refine j_end ?_
    obtain rfl := oi h
    exact run_ret fun a w hst => q_ret1 hst rfl (.tmp rfl) () (fun _ _ h => h) (.nil)
  · replace h := bf e1 h
    refine run_skip ?_
    refine rs ?_
    refine rs ?_
    refine rt ?_
    refine jp (pa has_i64) rfl rfl rfl ?_
    refine j_end ?_
    obtain ⟨o, e7, h⟩ := bind_some h
    refine run_loop (Γi := fun (i : Unit) (s : Int) => [(0, (sl R_rolodexref14_Version).slot p_a), (1, (sl R_rolodexref14_Version).slot p_b), (5, i64.slot s)]) (Hi := fun (i : Unit) (s : Int) => []) (R := fun x a w => x = r → Qf a w) e7 () (fun a w hst => (hst.sub (.cons (.of_lk rfl) <| .cons (.of_lk rfl) <| .cons (.of_lk rfl) <| .nil)).keep (.nil)) ?_ ?_ ?_
    · clear h e7
      rintro _ y1 lr h
      change rolodexref14_Same_L1 p_a p_b y1 = some _ at h
      show Run _ _ _ [(0, (sl R_rolodexref14_Version).slot p_a), (1, (sl R_rolodexref14_Version).slot p_b), (5, i64.slot y1)] []
      unfold rolodexref14_Same_L1 at h
      refine rs ?_
      refine rs ?_
      refine rt ?_
      refine jp (pm (ht rfl)) rfl rfl rfl ?_
      refine jp (pm (ht rfl)) rfl rfl rfl ?_
      refine jp (pj_len_sl (sz := 67) (ht rfl) (by kernel_rfl)) rfl rfl rfl ?_
      refine jp (pj_ilss (ht rfl) (ht rfl)) rfl rfl rfl ?_
      refine j_end ?_
      refine run_cond (ht rfl) (fun e2 => ?_) (fun e2 => ?_)
      · replace h := bt e2 h
        refine run_skip ?_
        refine rs ?_
        refine run_block ?_
        refine rs ?_
        obtain ⟨x1, e3, h⟩ := bind_some h
        obtain ⟨x2, e4, h⟩ := bind_some h
        refine run_draw (n := 8) (by kernel_rfl) (by kernel_rfl) (by kernel_rfl) (by kernel_rfl) (.read (.plain rfl (pm (ht rfl))) <| .read (.plain rfl (pm (ht rfl))) <| .read (.plain rfl (pj_index_slx (ht rfl) (ht rfl) isInt_i64 e3 (by kernel_rfl))) <| .read (.plain rfl (pl (ht rfl) (by kernel_rfl))) <| .read (.plain rfl (pm (ht rfl))) <| .read (.plain rfl (pm (ht rfl))) <| .read (.plain rfl (pj_index_slx (ht rfl) (ht rfl) isInt_i64 e4 (by kernel_rfl))) <| .read (.plain rfl (pl (ht rfl) (by kernel_rfl))) <| .nil) (j_to (Γ' := [(0, (sl R_rolodexref14_Version).slot p_a), (1, (sl R_rolodexref14_Version).slot p_b), (5, i64.slot y1), (20, R_rolodexref14_Version.slot x1), (24, R_rolodexref14_Version.slot x2)]) (H' := []) (.cons (.of_lk rfl) <| .cons (.of_lk rfl) <| .cons (.of_lk rfl) <| .cons (.of_lk rfl) <| .cons (.of_lk rfl) <| .nil) (.nil) ?_)
        obtain ⟨r1, e5, h⟩ := bind_some h
        refine jp (pj_call (hc (ht rfl) <| hc (ht rfl) <| hasL_nil) (by kernel_rfl) (c_rolodexref14_One e5)) rfl rfl rfl ?_
        refine jp (pj_not (ht rfl)) rfl rfl rfl ?_
        refine j_end ?_
        refine run_cond (ht rfl) (fun e6 => ?_) (fun e6 => ?_)
        · replace h := bt e6 h
          refine rs ?_
          refine rt ?_
          refine jp (pa has_bl) rfl rfl rfl ?_
          refine j_end ?_
          obtain rfl := oi h
          refine run_ret fun a w hst => ⟨rfl, fun hr => ?_⟩
          subst hr
          exact hq2 a w (q_ret1 hst rfl (.tmp rfl) () (fun _ _ h => h) (.nil))
        · replace h := bf e6 h
          refine run_skip ?_
          refine run_endblock ?_
          refine rt ?_
          refine jp (pm (ht rfl)) rfl rfl rfl ?_
          refine jp (pj_iadd (ht rfl) has_i64) rfl rfl rfl ?_
          refine jp (pa (ht rfl)) rfl rfl rfl ?_
          refine j_end ?_
          obtain rfl := oi h
          exact run_next () (.cons (.of_lk rfl) <| .cons (.of_lk rfl) <| .cons (.of_lk rfl) <| .nil) (.nil)
      · replace h := bf e2 h
        obtain rfl := oi h
        exact run_brk () (.cons (.of_lk rfl) <| .cons (.of_lk rfl) <| .cons (.of_lk rfl) <| .nil) (.nil)
    · rintro _ y2 ho
      subst ho
      show Run _ _ _ [(0, (sl R_rolodexref14_Version).slot p_a), (1, (sl R_rolodexref14_Version).slot p_b), (5, i64.slot y2)] []
      refine run_to (Γ' := []) (H' := []) (.nil) (.nil) ?_
      refine rs ?_
      refine rt ?_
      refine jp (pa has_bl) rfl rfl rfl ?_
      refine j_end ?_
      obtain rfl := oi h
      exact run_ret fun a w hst => q_ret1 hst rfl (.tmp rfl) () (fun _ _ h => h) (.nil)
    · intro x a w ho hR
      subst ho
      exact hq1 a w (hR (oi h))
set_option maxRecDepth 100000 in
set_option maxHeartbeats 4000000 in
theorem c_rolodexlaw14_To {G : GP} {p_l : List T_chain_Version} {r : (List T_rolodexref14_Version)} (h : rolodexlaw14_To p_l = some r) : Ctr Tryd.prog G 19 [(sl R_chain_Version).slot p_l] [] (fun (u0 : Value) => ov u0) (fun (u0 : Value) => [own 41 R_rolodexref14_Version u0 r]) := by
  unfold rolodexlaw14_To at h
  refine ctr_of_run Tryd.func19 rfl 19 rfl rfl fun m0 w0 b0 => ?_
  show Run _ _ _ [(0, (sl R_chain_Version).slot p_l)] _
  refine rs ?_
  refine rt ?_
  refine j_assign_nil (T := 41) R_rolodexref14_Version rfl fun v1 => ?_
  refine j_end ?_
  refine rs ?_
  refine rt ?_
  refine j_assign_nil (T := 41) R_rolodexref14_Version rfl fun v2 => ?_
  refine j_end ?_
  refine rs ?_
  refine rs ?_
  refine rt ?_
  refine jp (pa has_i64) rfl rfl rfl ?_
  refine j_end ?_
  obtain ⟨⟨y3, y4⟩, e4, h⟩ := bind_some h
  refine run_loopS (Γi := fun (i : Value) (s : Int × (List T_rolodexref14_Version)) => [(0, (sl R_chain_Version).slot p_l), (3, ov i), (4, i64.slot s.1)]) (Hi := fun (i : Value) (s : Int × (List T_rolodexref14_Version)) => [own 41 R_rolodexref14_Version i s.2]) e4 v2 (fun a w hst => (hst.sub (.cons (.of_lk rfl) <| .cons (.of_lk rfl) <| .cons (.of_lk rfl) <| .nil)).keep (.cons .here <| .nil)) ?_ ?_
  · clear h e4
    rintro v3 ⟨y1, y2⟩ lr h
    change rolodexlaw14_To_L1 p_l y1 y2 = some _ at h
    show Run _ _ _ [(0, (sl R_chain_Version).slot p_l), (3, ov v3), (4, i64.slot y1)] [own 41 R_rolodexref14_Version v3 y2]
    unfold rolodexlaw14_To_L1 at h
    refine rs ?_
    refine rs ?_
    refine rt ?_
    refine jp (pm (ht rfl)) rfl rfl rfl ?_
    refine jp (pm (ht rfl)) rfl rfl rfl ?_
    refine jp (pj_len_sl (sz := 67) (ht rfl) (by kernel_rfl)) rfl rfl rfl ?_
    refine jp (pj_ilss (ht rfl) (ht rfl)) rfl rfl rfl ?_
    refine j_end ?_
    refine run_cond (ht rfl) (fun e1 => ?_) (fun e1 => ?_)
    · replace h := bt e1 h
      refine run_skip ?_
      refine rs ?_
      refine run_block ?_
      refine rt ?_
      refine jp (pm (ht rfl)) rfl rfl rfl ?_
      refine jp (pm (ht rfl)) rfl rfl rfl ?_
      refine jp (pm (ht rfl)) rfl rfl rfl ?_
      obtain ⟨x1, e2, h⟩ := bind_some h
      refine jp (pj_index_slx (ht rfl) (ht rfl) isInt_i64 e2 (by kernel_rfl)) rfl rfl rfl ?_
      refine jp (pl (ht rfl) (by kernel_rfl)) rfl rfl rfl ?_
      refine jp (pj_buildSlice (T := 41) (R := R_rolodexref14_Version) (.cons (ht rfl) .nil) rfl (by kernel_rfl) (by kernel_rfl)) rfl rfl rfl ?_
      obtain ⟨e3, h⟩ := grd_some h
      refine j_append (T := 41) (E := 41) (ht rfl) .here (src_data (ht rfl)) (by kernel_rfl) (by kernel_rfl) e3 rfl fun v4 => ?_
      refine jp (pa (ht rfl)) rfl rfl rfl ?_
      refine j_end ?_
      refine run_endblock ?_
      refine rt ?_
      refine jp (pm (ht rfl)) rfl rfl rfl ?_
      refine jp (pj_iadd (ht rfl) has_i64) rfl rfl rfl ?_
      refine jp (pa (ht rfl)) rfl rfl rfl ?_
      refine j_end ?_
      obtain rfl := oi h
      exact run_next v4 (.cons (.of_lk rfl) <| .cons (.of_lk rfl) <| .cons (.of_lk rfl) <| .nil) (.cons .here <| .nil)
    · replace h := bf e1 h
      obtain rfl := oi h
      exact run_brk v3 (.cons (.of_lk rfl) <| .cons (.of_lk rfl) <| .cons (.of_lk rfl) <| .nil) (.cons .here <| .nil)
  · rintro v5
    show Run _ _ _ [(0, (sl R_chain_Version).slot p_l), (3, ov v5), (4, i64.slot y3)] [own 41 R_rolodexref14_Version v5 y4]
    refine run_to (Γ' := [(3, ov v5)]) (H' := [own 41 R_rolodexref14_Version v5 y4]) (.cons (.of_lk rfl) <| .nil) (.cons .here <| .nil) ?_
    refine rs ?_
    refine rt ?_
    refine jp (pm (ht rfl)) rfl rfl rfl ?_
    refine jp (pa (ht rfl)) rfl rfl rfl ?_
    refine j_end ?_
    obtain rfl := oi h
    exact run_ret fun a w hst => q_ret1 hst rfl (.tmp rfl) v5 (fun _ _ h => h) (.cons .here <| .nil)
set_option maxRecDepth 100000 in
set_option maxHeartbeats 4000000 in
theorem c_rolodexref01_Number {G : GP} {p_x : BitVec 64} {p_bytes : Int} {r : (List (BitVec 8))} (h : rolodexref01_Number p_x p_bytes = some r) : Ctr Tryd.prog G 64 [u64.slot p_x, i64.slot p_bytes] [] (fun (u0 : Value) => ov u0) (fun (u0 : Value) => [own 5 u8 u0 r]) := by
  unfold rolodexref01_Number at h
  refine ctr_of_run Tryd.func64 rfl 36 rfl rfl fun m0 w0 b0 => ?_
  show Run _ _ _ [(0, u64.slot p_x), (1, i64.slot p_bytes)] _
  refine rs ?_
  refine rt ?_
  refine j_assign_nil (T := 5) u8 rfl fun v1 => ?_
  refine j_end ?_
  refine rs ?_
  refine rt ?_
  refine j_assign_nil (T := 5) u8 rfl fun v2 => ?_
  refine j_assign_nil (T := 5) u8 rfl fun v3 => ?_
  refine j_end ?_
  refine rs ?_
  refine rs ?_
  refine rt ?_
  refine jp (pa has_i64) rfl rfl rfl ?_
  refine j_end ?_
  obtain ⟨⟨y4, y5, y6⟩, e3, h⟩ := bind_some h
  refine run_loopS (Γi := fun (i : Value) (s : (BitVec 64) × Int × (List (BitVec 8))) => [(0, u64.slot s.1), (1, i64.slot p_bytes), (5, ov i), (6, ov v3), (7, i64.slot s.2.1)]) (Hi := fun (i : Value) (s : (BitVec 64) × Int × (List (BitVec 8))) => [own 5 u8 v3 ([] : List (BitVec 8)), own 5 u8 i s.2.2]) e3 v2 (fun a w hst => (hst.sub (.cons (.of_lk rfl) <| .cons (.of_lk rfl) <| .cons (.of_lk rfl) <| .cons (.of_lk rfl) <| .cons (.of_lk rfl) <| .nil)).keep (.cons .here <| .cons .here <| .nil)) ?_ ?_
  · clear h e3
    rintro v4 ⟨y1, y2, y3⟩ lr h
    change rolodexref01_Number_L1 p_bytes y1 y2 y3 = some _ at h
    show Run _ _ _ [(0, u64.slot y1), (1, i64.slot p_bytes), (5, ov v4), (6, ov v3), (7, i64.slot y2)] [own 5 u8 v3 ([] : List (BitVec 8)), own 5 u8 v4 y3]
    unfold rolodexref01_Number_L1 at h
    refine rs ?_
    refine rs ?_
    refine rt ?_
    refine jp (pm (ht rfl)) rfl rfl rfl ?_
    refine jp (pm (ht rfl)) rfl rfl rfl ?_
    refine jp (pj_ilss (ht rfl) (ht rfl)) rfl rfl rfl ?_
    refine j_end ?_
    refine run_cond (ht rfl) (fun e1 => ?_) (fun e1 => ?_)
    · replace h := bt e1 h
      refine run_skip ?_
      refine rs ?_
      refine run_block ?_
      refine rs ?_
      refine rt ?_
      refine jp (pm (ht rfl)) rfl rfl rfl ?_
      refine jp (pm (ht rfl)) rfl rfl rfl ?_
      refine jp (pj_urem (k := .u64) (b := 64) (ht rfl) (has_un (x := 256#64) rfl) (by decide)) rfl rfl rfl ?_
      refine jp (pj_conv_uu (k := .u8) (b := 8) rfl rfl (by kernel_rfl) (ht rfl)) rfl rfl rfl ?_
      refine jp (pj_buildSlice (T := 5) (R := u8) (.cons (ht rfl) .nil) rfl (by kernel_rfl) (by kernel_rfl)) rfl rfl rfl ?_
      obtain ⟨e2, h⟩ := grd_some h
      refine j_append (T := 5) (E := 5) (ht rfl) (.next .here) (src_data (ht rfl)) (by kernel_rfl) (by kernel_rfl) e2 rfl fun v5 => ?_
      refine jp (pa (ht rfl)) rfl rfl rfl ?_
      refine j_end ?_
      refine rt ?_
      refine jp (pm (ht rfl)) rfl rfl rfl ?_
      refine jp (pj_uquo (k := .u64) (b := 64) rfl rfl (ht rfl) (has_un (x := 256#64) rfl) (by decide)) rfl rfl rfl ?_
      refine jp (pa (ht rfl)) rfl rfl rfl ?_
      refine j_end ?_
      refine run_endblock ?_
      refine rt ?_
      refine jp (pm (ht rfl)) rfl rfl rfl ?_
      refine jp (pj_iadd (ht rfl) has_i64) rfl rfl rfl ?_
      refine jp (pa (ht rfl)) rfl rfl rfl ?_
      refine j_end ?_
      obtain rfl := oi h
      exact run_next v5 (.cons (.of_lk rfl) <| .cons (.of_lk rfl) <| .cons (.of_lk rfl) <| .cons (.of_lk rfl) <| .cons (.of_lk rfl) <| .nil) (.cons (.next .here) <| .cons .here <| .nil)
    · replace h := bf e1 h
      obtain rfl := oi h
      exact run_brk v4 (.cons (.of_lk rfl) <| .cons (.of_lk rfl) <| .cons (.of_lk rfl) <| .cons (.of_lk rfl) <| .cons (.of_lk rfl) <| .nil) (.cons .here <| .cons .here <| .nil)
  · rintro v6
    show Run _ _ _ [(0, u64.slot y4), (1, i64.slot p_bytes), (5, ov v6), (6, ov v3), (7, i64.slot y5)] [own 5 u8 v3 ([] : List (BitVec 8)), own 5 u8 v6 y6]
    refine run_to (Γ' := [(1, i64.slot p_bytes), (5, ov v6), (6, ov v3)]) (H' := [own 5 u8 v3 ([] : List (BitVec 8)), own 5 u8 v6 y6]) (.cons (.of_lk rfl) <| .cons (.of_lk rfl) <| .cons (.of_lk rfl) <| .nil) (.cons .here <| .cons .here <| .nil) ?_
    refine rs ?_
    refine rs ?_
    refine rt ?_
    refine jp (pm (ht rfl)) rfl rfl rfl ?_
    refine jp (pj_isub (ht rfl) has_i64) rfl rfl rfl ?_
    refine jp (pa (ht rfl)) rfl rfl rfl ?_
    refine j_end ?_
    obtain ⟨⟨y9, y10⟩, e7, h⟩ := bind_some h
    refine run_loopS (Γi := fun (i : Value) (s : Int × (List (BitVec 8))) => [(5, ov v6), (6, ov i), (8, i64.slot s.1)]) (Hi := fun (i : Value) (s : Int × (List (BitVec 8))) => [own 5 u8 i s.2, own 5 u8 v6 y6]) e7 v3 (fun a w hst => (hst.sub (.cons (.of_lk rfl) <| .cons (.of_lk rfl) <| .cons (.of_lk rfl) <| .nil)).keep (.cons .here <| .cons .here <| .nil)) ?_ ?_
    · clear h e7
      rintro v7 ⟨y7, y8⟩ lr h
      change rolodexref01_Number_L2 y6 y7 y8 = some _ at h
      show Run _ _ _ [(5, ov v6), (6, ov v7), (8, i64.slot y7)] [own 5 u8 v7 y8, own 5 u8 v6 y6]
      unfold rolodexref01_Number_L2 at h
      refine rs ?_
      refine rs ?_
      refine rt ?_
      refine jp (pm (ht rfl)) rfl rfl rfl ?_
      refine jp (pj_igeq (ht rfl) has_i64) rfl rfl rfl ?_
      refine j_end ?_
      refine run_cond (ht rfl) (fun e4 => ?_) (fun e4 => ?_)
      · replace h := bt e4 h
        refine run_skip ?_
        refine rs ?_
        refine run_block ?_
        refine rt ?_
        refine jp (pm (ht rfl)) rfl rfl rfl ?_
        refine jp (pm (ht rfl)) rfl rfl rfl ?_
        refine jp (pm (ht rfl)) rfl rfl rfl ?_
        obtain ⟨x1, e5, h⟩ := bind_some h
        refine jp (pj_index_own (ht rfl) (.next .here) (ht rfl) isInt_i64 (lget_some e5).1 (lget_some e5).2.1 (by kernel_rfl)) rfl rfl rfl ?_
        refine jp (PJ.eqv (pj_load_own0 u8 (y7.toNat) (ht rfl) (.next .here) (lget_some e5).2.1 (by kernel_rfl)) (lget_eq e5 (lget_some e5).2.1)) rfl rfl rfl ?_
        refine jp (pj_buildSlice (T := 5) (R := u8) (.cons (ht rfl) .nil) rfl (by kernel_rfl) (by kernel_rfl)) rfl rfl rfl ?_
        obtain ⟨e6, h⟩ := grd_some h
        refine j_append (T := 5) (E := 5) (ht rfl) .here (src_data (ht rfl)) (by kernel_rfl) (by kernel_rfl) e6 rfl fun v8 => ?_
        refine jp (pa (ht rfl)) rfl rfl rfl ?_
        refine j_end ?_
        refine run_endblock ?_
        refine rt ?_
        refine jp (pm (ht rfl)) rfl rfl rfl ?_
        refine jp (pj_isub (ht rfl) has_i64) rfl rfl rfl ?_
        refine jp (pa (ht rfl)) rfl rfl rfl ?_
        refine j_end ?_
        obtain rfl := oi h
        exact run_next v8 (.cons (.of_lk rfl) <| .cons (.of_lk rfl) <| .cons (.of_lk rfl) <| .nil) (.cons .here <| .cons .here <| .nil)
      · replace h := bf e4 h
        obtain rfl := oi h
        exact run_brk v7 (.cons (.of_lk rfl) <| .cons (.of_lk rfl) <| .cons (.of_lk rfl) <| .nil) (.cons .here <| .cons .here <| .nil)
    · rintro v9
      show Run _ _ _ [(5, ov v6), (6, ov v9), (8, i64.slot y9)] [own 5 u8 v9 y10, own 5 u8 v6 y6]
      refine run_to (Γ' := [(6, ov v9)]) (H' := [own 5 u8 v9 y10]) (.cons (.of_lk rfl) <| .nil) (.cons .here <| .nil) ?_
      refine rs ?_
      refine rt ?_
      refine jp (pm (ht rfl)) rfl rfl rfl ?_
      refine jp (pa (ht rfl)) rfl rfl rfl ?_
      refine j_end ?_
      obtain rfl := oi h
      exact run_ret fun a w hst => q_ret1 hst rfl (.tmp rfl) v9 (fun _ _ h => h) (.cons .here <| .nil)
set_option maxRecDepth 100000 in
set_option maxHeartbeats 4000000 in
theorem c_rolodexref14_four {G : GP} {p_n : Int} {r : (List (BitVec 8))} (h : rolodexref14_four p_n = some r) : Ctr Tryd.prog G 54 [i64.slot p_n] [] (fun (u0 : Value) => ov u0) (fun (u0 : Value) => [own 5 u8 u0 r]) := by
  unfold rolodexref14_four at h
  refine ctr_of_run Tryd.func54 rfl 7 rfl rfl fun m0 w0 b0 => ?_
  show Run _ _ _ [(0, i64.slot p_n)] _
  refine rs ?_
  refine rt ?_
  refine j_assign_nil (T := 5) u8 rfl fun v1 => ?_
  refine j_end ?_
  refine rs ?_
  refine rt ?_
  refine jp (pm (ht rfl)) rfl rfl rfl ?_
  refine jp (pj_conv_un (k := .u64) (b := 64) rfl rfl (by kernel_rfl) (ht rfl) isInt_i64) rfl rfl rfl ?_
  refine jp (pj_urem (k := .u64) (b := 64) (ht rfl) (has_un (x := 4294967296#64) rfl) (by decide)) rfl rfl rfl ?_
  obtain ⟨r1, e1, h⟩ := bind_some h
  refine j_call (hc (ht rfl) <| hc has_i64 <| hasL_nil) (by kernel_rfl) (c_rolodexref01_Number e1) .nil rfl fun v2 => ?_
  refine jp (pa (ht rfl)) rfl rfl rfl ?_
  refine j_end ?_
  obtain rfl := oi h
  exact run_ret fun a w hst => q_ret1 hst rfl (.tmp rfl) v2 (fun _ _ h => h) (.cons .here <| .nil)
set_option maxRecDepth 100000 in
set_option maxHeartbeats 4000000 in
theorem c_rolodexref02_Text {G : GP} {p_tag : BitVec 8} {p_parts : List (List (BitVec 8))} {r : (List (BitVec 8))} (h : rolodexref02_Text p_tag p_parts = some r) : Ctr Tryd.prog G 58 [u8.slot p_tag, (sl (sl u8)).slot p_parts] [] (fun (u0 : Value) => ov u0) (fun (u0 : Value) => [own 5 u8 u0 r]) := by
  unfold rolodexref02_Text at h
  refine ctr_of_run Tryd.func58 rfl 31 rfl rfl fun m0 w0 b0 => ?_
  show Run _ _ _ [(0, u8.slot p_tag), (1, (sl (sl u8)).slot p_parts)] _
  refine rs ?_
  refine rt ?_
  refine j_assign_nil (T := 5) u8 rfl fun v1 => ?_
  refine j_end ?_
  refine rs ?_
  refine rt ?_
  refine jp (pm (ht rfl)) rfl rfl rfl ?_
  refine j_buildSlice (T := 5) (R := u8) (.cons (ht rfl) .nil) rfl (by kernel_rfl) (by kernel_rfl) rfl fun v2 => ?_
  refine jp (pa (ht rfl)) rfl rfl rfl ?_
  refine j_end ?_
  refine rs ?_
  refine rs ?_
  refine rt ?_
  refine jp (pa has_i64) rfl rfl rfl ?_
  refine j_end ?_
  obtain ⟨⟨y3, y4⟩, e7, h⟩ := bind_some h
  refine run_loopS (Γi := fun (i : Value) (s : Int × (List (BitVec 8))) => [(1, (sl (sl u8)).slot p_parts), (5, ov i), (6, i64.slot s.1)]) (Hi := fun (i : Value) (s : Int × (List (BitVec 8))) => [own 5 u8 i s.2]) e7 v2 (fun a w hst => (hst.sub (.cons (.of_lk rfl) <| .cons (.of_lk rfl) <| .cons (.of_lk rfl) <| .nil)).keep (.cons .here <| .nil)) ?_ ?_
  · clear h e7
    rintro v3 ⟨y1, y2⟩ lr h
    change rolodexref02_Text_L1 p_parts y1 y2 = some _ at h
    show Run _ _ _ [(1, (sl (sl u8)).slot p_parts), (5, ov v3), (6, i64.slot y1)] [own 5 u8 v3 y2]
    unfold rolodexref02_Text_L1 at h
    refine rs ?_
    refine rs ?_
    refine rt ?_
    refine jp (pm (ht rfl)) rfl rfl rfl ?_
    refine jp (pm (ht rfl)) rfl rfl rfl ?_
    refine jp (pj_len_sl (sz := 1) (ht rfl) (by kernel_rfl)) rfl rfl rfl ?_
    refine jp (pj_ilss (ht rfl) (ht rfl)) rfl rfl rfl ?_
    refine j_end ?_
    refine run_cond (ht rfl) (fun e1 => ?_) (fun e1 => ?_)
    · replace h := bt e1 h
      refine run_skip ?_
      refine rs ?_
      refine run_block ?_
      refine rs ?_
      refine rt ?_
      refine jp (pm (ht rfl)) rfl rfl rfl ?_
      refine jp (pm (ht rfl)) rfl rfl rfl ?_
      refine jp (pm (ht rfl)) rfl rfl rfl ?_
      obtain ⟨x1, e2, h⟩ := bind_some h
      refine jp (pj_index_slx (ht rfl) (ht rfl) isInt_i64 e2 (by kernel_rfl)) rfl rfl rfl ?_
      refine jp (pl (ht rfl) (by kernel_rfl)) rfl rfl rfl ?_
      refine jp (pj_len_sl (sz := 1) (ht rfl) (by kernel_rfl)) rfl rfl rfl ?_
      refine jp (pj_conv_un (k := .u64) (b := 64) rfl rfl (by kernel_rfl) (ht rfl) isInt_i64) rfl rfl rfl ?_
      obtain ⟨r1, e3, h⟩ := bind_some h
      refine jp (pj_call (hc (ht rfl) <| hc has_i64 <| hasL_nil) (by kernel_rfl) (Ctr.froze (c_rolodexref01_Number e3))) rfl rfl rfl ?_
      obtain ⟨e4, h⟩ := grd_some h
      refine j_append (T := 5) (E := 5) (ht rfl) .here (src_data (ht rfl)) (by kernel_rfl) (by kernel_rfl) e4 rfl fun v4 => ?_
      refine jp (pa (ht rfl)) rfl rfl rfl ?_
      refine j_end ?_
      refine rt ?_
      refine jp (pm (ht rfl)) rfl rfl rfl ?_
      refine jp (pm (ht rfl)) rfl rfl rfl ?_
      refine jp (pm (ht rfl)) rfl rfl rfl ?_
      obtain ⟨x2, e5, h⟩ := bind_some h
      refine jp (pj_index_slx (ht rfl) (ht rfl) isInt_i64 e5 (by kernel_rfl)) rfl rfl rfl ?_
      refine jp (pl (ht rfl) (by kernel_rfl)) rfl rfl rfl ?_
      obtain ⟨e6, h⟩ := grd_some h
      refine j_append (T := 5) (E := 5) (ht rfl) .here (src_data (ht rfl)) (by kernel_rfl) (by kernel_rfl) e6 rfl fun v5 => ?_
      refine jp (pa (ht rfl)) rfl rfl rfl ?_
      refine j_end ?_
      refine run_endblock ?_
      refine rt ?_
      refine jp (pm (ht rfl)) rfl rfl rfl ?_
      refine jp (pj_iadd (ht rfl) has_i64) rfl rfl rfl ?_
      refine jp (pa (ht rfl)) rfl rfl rfl ?_
      refine j_end ?_
      obtain rfl := oi h
      exact run_next v5 (.cons (.of_lk rfl) <| .cons (.of_lk rfl) <| .cons (.of_lk rfl) <| .nil) (.cons .here <| .nil)
    · replace h := bf e1 h
      obtain rfl := oi h
      exact run_brk v3 (.cons (.of_lk rfl) <| .cons (.of_lk rfl) <| .cons (.of_lk rfl) <| .nil) (.cons .here <| .nil)
  · rintro v6
    show Run _ _ _ [(1, (sl (sl u8)).slot p_parts), (5, ov v6), (6, i64.slot y3)] [own 5 u8 v6 y4]
    refine run_to (Γ' := [(5, ov v6)]) (H' := [own 5 u8 v6 y4]) (.cons (.of_lk rfl) <| .nil) (.cons .here <| .nil) ?_
    refine rs ?_
    refine rt ?_
    refine jp (pm (ht rfl)) rfl rfl rfl ?_
    refine jp (pa (ht rfl)) rfl rfl rfl ?_
    refine j_end ?_
    obtain rfl := oi h
    exact run_ret fun a w hst => q_ret1 hst rfl (.tmp rfl) v6 (fun _ _ h => h) (.cons .here <| .nil)
set_option maxRecDepth 100000 in
set_option maxHeartbeats 4000000 in
theorem c_rolodexref14_Text {G : GP} {p_label : List (BitVec 8)} {p_v : T_rolodexref14_Version} {r : (List (BitVec 8))} (h : rolodexref14_Text p_label p_v = some r) : Ctr Tryd.prog G 28 [(sl u8).slot p_label, R_rolodexref14_Version.slot p_v] [] (fun (u0 : Value) => ov u0) (fun (u0 : Value) => [own 5 u8 u0 r]) := by
  unfold rolodexref14_Text at h
  refine ctr_of_run Tryd.func28 rfl 20 rfl rfl fun m0 w0 b0 => ?_
  show Run _ _ _ [(0, (sl u8).slot p_label), (1, R_rolodexref14_Version.slot p_v)] _
  refine rs ?_
  refine rt ?_
  refine jp (pj_box_to (ht rfl)) rfl rfl rfl ?_
  refine j_assign_nil (T := 5) u8 rfl fun v1 => ?_
  refine j_end ?_
  refine rs ?_
  obtain ⟨r1, e1, h⟩ := bind_some h
  obtain ⟨r2, e2, h⟩ := bind_some h
  refine run_draw (n := 13) (by kernel_rfl) (by kernel_rfl) (by kernel_rfl) (by kernel_rfl) (.read (.plain rfl (pm (ht rfl))) <| .read (.plain rfl (pj_field_to (ht rfl) (Path.fst i64 (prod i64 (prod R_api_Hash (prod R_api_Hash (sl u8))))) (by kernel_rfl))) <| .read (.plain rfl (pl (ht rfl) (by kernel_rfl))) <| .read (.plain rfl (pj_call (hc (ht rfl) <| hasL_nil) (by kernel_rfl) (Ctr.froze (c_rolodexref14_four e1)))) <| .read (.plain rfl (pj_field_to (ht rfl) (Path.then (Path.snd i64 (prod i64 (prod R_api_Hash (prod R_api_Hash (sl u8))))) (Path.fst i64 (prod R_api_Hash (prod R_api_Hash (sl u8))))) (by kernel_rfl))) <| .read (.plain rfl (pl (ht rfl) (by kernel_rfl))) <| .read (.plain rfl (pj_call (hc (ht rfl) <| hasL_nil) (by kernel_rfl) (Ctr.froze (c_rolodexref14_four e2)))) <| .read (.plain rfl (pj_field_to (ht rfl) (Path.then (Path.snd i64 (prod i64 (prod R_api_Hash (prod R_api_Hash (sl u8))))) (Path.then (Path.snd i64 (prod R_api_Hash (prod R_api_Hash (sl u8)))) (Path.fst R_api_Hash (prod R_api_Hash (sl u8))))) (by kernel_rfl))) <| .read (.plain rfl (pj_slice_toF (ht rfl) (by decide) (by kernel_rfl))) <| .read (.plain rfl (pj_field_to (ht rfl) (Path.then (Path.snd i64 (prod i64 (prod R_api_Hash (prod R_api_Hash (sl u8))))) (Path.then (Path.snd i64 (prod R_api_Hash (prod R_api_Hash (sl u8)))) (Path.then (Path.snd R_api_Hash (prod R_api_Hash (sl u8))) (Path.fst R_api_Hash (sl u8))))) (by kernel_rfl))) <| .read (.plain rfl (pj_slice_toF (ht rfl) (by decide) (by kernel_rfl))) <| .read (.plain rfl (pj_field_to (ht rfl) (Path.then (Path.snd i64 (prod i64 (prod R_api_Hash (prod R_api_Hash (sl u8))))) (Path.then (Path.snd i64 (prod R_api_Hash (prod R_api_Hash (sl u8)))) (Path.then (Path.snd R_api_Hash (prod R_api_Hash (sl u8))) (Path.snd R_api_Hash (sl u8))))) (by kernel_rfl))) <| .read (.plain rfl (pl (ht rfl) (by kernel_rfl))) <| .nil) (j_to (Γ' := [(5, (sl u8).slot p_label), (8, (sl u8).slot r1), (11, (sl u8).slot r2), (13, (sl u8).slot p_v.2.2.1.toList), (15, (sl u8).slot p_v.2.2.2.1.toList), (17, (sl u8).slot p_v.2.2.2.2)]) (H' := []) (.cons (.of_lk rfl) <| .cons (.of_lk rfl) <| .cons (.of_lk rfl) <| .cons (.of_lk rfl) <| .cons (.of_lk rfl) <| .cons (.of_lk rfl) <| .nil) (.nil) ?_)
  refine jp (pj_buildSlice (T := 22) (R := (sl u8)) (.cons (ht rfl) (.cons (ht rfl) (.cons (ht rfl) (.cons (ht rfl) (.cons (ht rfl) (.cons (ht rfl) .nil)))))) rfl (by kernel_rfl) (by kernel_rfl)) rfl rfl rfl ?_
  obtain ⟨r3, e3, h⟩ := bind_some h
  refine j_call (hc (has_un (x := 99#8) rfl) <| hc (ht rfl) <| hasL_nil) (by kernel_rfl) (c_rolodexref02_Text e3) .nil rfl fun v2 => ?_
  refine jp (pa (ht rfl)) rfl rfl rfl ?_
  refine j_end ?_
  obtain rfl := oi h
  exact run_ret fun a w hst => q_ret1 hst rfl (.tmp rfl) v2 (fun _ _ h => h) (.cons .here <| .nil)
set_option maxRecDepth 100000 in
set_option maxHeartbeats 4000000 in
theorem c_rolodexref02_Start {G : GP} {r : (Vector (BitVec 32) 8)} (h : rolodexref02_Start = some r) : Ctr Tryd.prog G 66 [] [] (fun (_ : Unit) => (vec 8 u32).slot r) (fun (_ : Unit) => []) := by
  unfold rolodexref02_Start at h
  refine ctr_of_run Tryd.func66 rfl 2 rfl rfl fun m0 w0 b0 => ?_
  show Run _ _ _ [] _
  refine rs ?_
  refine rt ?_
  refine j_alloc (x := (Vector.replicate 8 (0#32))) (R := (vec 8 u32)) (zero_vec 8 zero_un) (by kernel_rfl) rfl fun b1 => ?_
  refine j_end ?_
  refine rs ?_
  refine rt ?_
  obtain ⟨x1, e1, h⟩ := bind_some h
  refine jp (PJ.eqv (pj_buildArr (z0 := 0#32) (zero_vec 8 zero_un) (by kernel_rfl) (.cons (has_un (x := 1779033703#32) rfl) (.cons (has_un (x := 3144134277#32) rfl) (.cons (has_un (x := 1013904242#32) rfl) (.cons (has_un (x := 2773480762#32) rfl) (.cons (has_un (x := 1359893119#32) rfl) (.cons (has_un (x := 2600822924#32) rfl) (.cons (has_un (x := 528734635#32) rfl) (.cons (has_un (x := 1541459225#32) rfl) .nil)))))))) (by kernel_rfl) rfl) (oi e1)) rfl rfl rfl ?_
  refine j_store_boxx (r' := x1) (ht rfl) (ht rfl) .here (Path.all (vec 8 u32)) (by kernel_rfl) rfl ?_
  refine j_end ?_
  obtain rfl := oi h
  exact run_ret fun a w hst => q_ret1 hst rfl (.cell rfl .here (by kernel_rfl)) () (fun _ _ h => h) (.nil)
set_option maxRecDepth 100000 in
set_option maxHeartbeats 4000000 in
theorem c_rolodexref02_Padded {G : GP} {p_b : List (BitVec 8)} {r : (List (BitVec 8))} (h : rolodexref02_Padded p_b = some r) : Ctr Tryd.prog G 67 [(sl u8).slot p_b] [] (fun (u0 : Value) => ov u0) (fun (u0 : Value) => [own 5 u8 u0 r]) := by
  unfold rolodexref02_Padded at h
  refine ctr_of_run Tryd.func67 rfl 24 rfl rfl fun m0 w0 b0 => ?_
  show Run _ _ _ [(0, (sl u8).slot p_b)] _
  refine rs ?_
  refine rt ?_
  refine j_assign_nil (T := 5) u8 rfl fun v1 => ?_
  refine j_end ?_
  refine rs ?_
  refine rt ?_
  refine j_assign_nil (T := 5) u8 rfl fun v2 => ?_
  refine j_end ?_
  refine rs ?_
  refine rt ?_
  refine jp (pm (ht rfl)) rfl rfl rfl ?_
  refine jp (pm (ht rfl)) rfl rfl rfl ?_
  obtain ⟨e1, h⟩ := grd_some h
  refine j_append (T := 5) (E := 5) (ht rfl) .here (src_data (ht rfl)) (by kernel_rfl) (by kernel_rfl) e1 rfl fun v3 => ?_
  refine jp (pa (ht rfl)) rfl rfl rfl ?_
  refine j_end ?_
  refine rs ?_
  refine rt ?_
  refine jp (pm (ht rfl)) rfl rfl rfl ?_
  refine jp (pj_buildSlice (T := 5) (R := u8) (.cons (has_un (x := 128#8) rfl) .nil) rfl (by kernel_rfl) (by kernel_rfl)) rfl rfl rfl ?_
  obtain ⟨e2, h⟩ := grd_some h
  refine j_append (T := 5) (E := 5) (ht rfl) .here (src_data (ht rfl)) (by kernel_rfl) (by kernel_rfl) e2 rfl fun v4 => ?_
  refine jp (pa (ht rfl)) rfl rfl rfl ?_
  refine j_end ?_
  refine rs ?_
  obtain ⟨y2, e5, h⟩ := bind_some h
  refine run_loopS (Γi := fun (i : Value) (s : (List (BitVec 8))) => [(0, (sl u8).slot p_b), (3, ov i)]) (Hi := fun (i : Value) (s : (List (BitVec 8))) => [own 5 u8 i s]) e5 v4 (fun a w hst => (hst.sub (.cons (.of_lk rfl) <| .cons (.of_lk rfl) <| .nil)).keep (.cons .here <| .nil)) ?_ ?_
  · clear h e5
    rintro v5 y1 lr h
    change rolodexref02_Padded_L1 y1 = some _ at h
    show Run _ _ _ [(0, (sl u8).slot p_b), (3, ov v5)] [own 5 u8 v5 y1]
    unfold rolodexref02_Padded_L1 at h
    refine rs ?_
    refine rs ?_
    refine rt ?_
    refine jp (pm (ht rfl)) rfl rfl rfl ?_
    refine jp (pj_len_own (sz := 1) (ht rfl) .here (by kernel_rfl)) rfl rfl rfl ?_
    refine jp (pj_irem (ht rfl) has_i64 (by decide)) rfl rfl rfl ?_
    refine jp (pj_ineq (ht rfl) has_i64) rfl rfl rfl ?_
    refine j_end ?_
    refine run_cond (ht rfl) (fun e3 => ?_) (fun e3 => ?_)
    · replace h := bt e3 h
      refine run_skip ?_
      refine run_block ?_
      refine rt ?_
      refine jp (pm (ht rfl)) rfl rfl rfl ?_
      refine jp (pj_buildSlice (T := 5) (R := u8) (.cons (has_un (x := 0#8) rfl) .nil) rfl (by kernel_rfl) (by kernel_rfl)) rfl rfl rfl ?_
      obtain ⟨e4, h⟩ := grd_some h
      refine j_append (T := 5) (E := 5) (ht rfl) .here (src_data (ht rfl)) (by kernel_rfl) (by kernel_rfl) e4 rfl fun v6 => ?_
      refine jp (pa (ht rfl)) rfl rfl rfl ?_
      refine j_end ?_
      refine run_endblock ?_
      obtain rfl := oi h
      exact run_next v6 (.cons (.of_lk rfl) <| .cons (.of_lk rfl) <| .nil) (.cons .here <| .nil)
    · replace h := bf e3 h
      obtain rfl := oi h
      exact run_brk v5 (.cons (.of_lk rfl) <| .cons (.of_lk rfl) <| .nil) (.cons .here <| .nil)
  · rintro v7
    show Run _ _ _ [(0, (sl u8).slot p_b), (3, ov v7)] [own 5 u8 v7 y2]
    refine run_to (Γ' := [(0, (sl u8).slot p_b), (3, ov v7)]) (H' := [own 5 u8 v7 y2]) (.cons (.of_lk rfl) <| .cons (.of_lk rfl) <| .nil) (.cons .here <| .nil) ?_
    refine rs ?_
    refine rt ?_
    refine jp (pm (ht rfl)) rfl rfl rfl ?_
    refine jp (pm (ht rfl)) rfl rfl rfl ?_
    refine jp (pj_len_sl (sz := 1) (ht rfl) (by kernel_rfl)) rfl rfl rfl ?_
    refine jp (pj_conv_un (k := .u64) (b := 64) rfl rfl (by kernel_rfl) (ht rfl) isInt_i64) rfl rfl rfl ?_
    refine jp (pj_umul (k := .u64) (b := 64) rfl rfl (has_un (x := 8#64) rfl) (ht rfl)) rfl rfl rfl ?_
    obtain ⟨r1, e6, h⟩ := bind_some h
    refine jp (pj_call (hc (ht rfl) <| hc has_i64 <| hasL_nil) (by kernel_rfl) (Ctr.froze (c_rolodexref01_Number e6))) rfl rfl rfl ?_
    obtain ⟨e7, h⟩ := grd_some h
    refine j_append (T := 5) (E := 5) (ht rfl) .here (src_data (ht rfl)) (by kernel_rfl) (by kernel_rfl) e7 rfl fun v8 => ?_
    refine jp (pa (ht rfl)) rfl rfl rfl ?_
    refine j_end ?_
    obtain rfl := oi h
    exact run_ret fun a w hst => q_ret1 hst rfl (.tmp rfl) v8 (fun _ _ h => h) (.cons .here <| .nil)
set_option maxRecDepth 100000 in
set_option maxHeartbeats 4000000 in
theorem c_rolodexref02_turned {G : GP} {p_x : BitVec 32} {p_n : BitVec 32} {r : (BitVec 32)} (h : rolodexref02_turned p_x p_n = some r) : Ctr Tryd.prog G 73 [u32.slot p_x, u32.slot p_n] [] (fun (_ : Unit) => u32.slot r) (fun (_ : Unit) => []) := by
  unfold rolodexref02_turned at h
  refine ctr_of_run Tryd.func73 rfl 13 rfl rfl fun m0 w0 b0 => ?_
  show Run _ _ _ [(0, u32.slot p_x), (1, u32.slot p_n)] _
  refine rs ?_
  refine rt ?_
  refine jp (pa (has_un (x := 0#32) rfl)) rfl rfl rfl ?_
  refine j_end ?_
  refine rs ?_
  refine rt ?_
  refine jp (pm (ht rfl)) rfl rfl rfl ?_
  refine jp (pm (ht rfl)) rfl rfl rfl ?_
  refine jp (pj_ushr (k := .u32) (b := 32) rfl (ht rfl) (ht rfl) isInt_un (Int.natCast_nonneg _)) rfl rfl rfl ?_
  refine jp (pm (ht rfl)) rfl rfl rfl ?_
  refine jp (pm (ht rfl)) rfl rfl rfl ?_
  refine jp (pj_usub (k := .u32) (b := 32) rfl rfl (has_un (x := 32#32) rfl) (ht rfl)) rfl rfl rfl ?_
  refine jp (pj_ushl (k := .u32) (b := 32) rfl rfl (ht rfl) (ht rfl) isInt_un (Int.natCast_nonneg _)) rfl rfl rfl ?_
  refine jp (pj_uor (k := .u32) (b := 32) rfl rfl (ht rfl) (ht rfl)) rfl rfl rfl ?_
  obtain ⟨x1, e1, h⟩ := bind_some h
  refine jp (PJ.eqv (pa (ht rfl)) (oi e1)) rfl rfl rfl ?_
  refine j_end ?_
  obtain rfl := oi h
  exact run_ret fun a w hst => q_ret1 hst rfl (.tmp rfl) () (fun _ _ h => h) (.nil)
set_option maxRecDepth 100000 in
set_option maxHeartbeats 4000000 in
theorem c_rolodexref01_Value {G : GP} {p_b : List (BitVec 8)} {r : (BitVec 64)} (h : rolodexref01_Value p_b = some r) : Ctr Tryd.prog G 74 [(sl u8).slot p_b] [] (fun (_ : Unit) => u64.slot r) (fun (_ : Unit) => []) := by
  unfold rolodexref01_Value at h
  refine ctr_of_run Tryd.func74 rfl 20 rfl rfl fun m0 w0 b0 => ?_
  show Run _ _ _ [(0, (sl u8).slot p_b)] _
  refine rs ?_
  refine rt ?_
  refine jp (pa (has_un (x := 0#64) rfl)) rfl rfl rfl ?_
  refine j_end ?_
  refine rs ?_
  refine rt ?_
  refine jp (pa (has_un (x := 0#64) rfl)) rfl rfl rfl ?_
  refine j_end ?_
  refine rs ?_
  refine rs ?_
  refine rt ?_
  refine jp (pa has_i64) rfl rfl rfl ?_
  refine j_end ?_
  obtain ⟨⟨y3, y4⟩, e3, h⟩ := bind_some h
  refine run_loopS (Γi := fun (i : Unit) (s : (BitVec 64) × Int) => [(0, (sl u8).slot p_b), (3, u64.slot s.1), (4, i64.slot s.2)]) (Hi := fun (i : Unit) (s : (BitVec 64) × Int) => []) e3 () (fun a w hst => (hst.sub (.cons (.of_lk rfl) <| .cons (.of_lk rfl) <| .cons (.of_lk rfl) <| .nil)).keep (.nil)) ?_ ?_
  · clear h e3
    rintro _ ⟨y1, y2⟩ lr h
    change rolodexref01_Value_L1 p_b y1 y2 = some _ at h
    show Run _ _ _ [(0, (sl u8).slot p_b), (3, u64.slot y1), (4, i64.slot y2)] []
    unfold rolodexref01_Value_L1 at h
    refine rs ?_
    refine rs ?_
    refine rt ?_
    refine jp (pm (ht rfl)) rfl rfl rfl ?_
    refine jp (pm (ht rfl)) rfl rfl rfl ?_
    refine jp (pj_len_sl (sz := 1) (ht rfl) (by kernel_rfl)) rfl rfl rfl ?_
    refine jp (pj_ilss (ht rfl) (ht rfl)) rfl rfl rfl ?_
    refine j_end ?_
    refine run_cond (ht rfl) (fun e1 => ?_) (fun e1 => ?_)
    · replace h := bt e1 h
      refine run_skip ?_
      refine rs ?_
      refine run_block ?_
      refine rt ?_
      refine jp (pm (ht rfl)) rfl rfl rfl ?_
      refine jp (pj_umul (k := .u64) (b := 64) rfl rfl (ht rfl) (has_un (x := 256#64) rfl)) rfl rfl rfl ?_
      refine jp (pm (ht rfl)) rfl rfl rfl ?_
      refine jp (pm (ht rfl)) rfl rfl rfl ?_
      obtain ⟨x1, e2, h⟩ := bind_some h
      refine jp (pj_index_slx (ht rfl) (ht rfl) isInt_i64 e2 (by kernel_rfl)) rfl rfl rfl ?_
      refine jp (pl (ht rfl) (by kernel_rfl)) rfl rfl rfl ?_
      refine jp (pj_conv_uu (k := .u64) (b := 64) rfl rfl (by kernel_rfl) (ht rfl)) rfl rfl rfl ?_
      refine jp (pj_uadd (k := .u64) (b := 64) rfl rfl (ht rfl) (ht rfl)) rfl rfl rfl ?_
      refine jp (pa (ht rfl)) rfl rfl rfl ?_
      refine j_end ?_
      refine run_endblock ?_
      refine rt ?_
      refine jp (pm (ht rfl)) rfl rfl rfl ?_
      refine jp (pj_iadd (ht rfl) has_i64) rfl rfl rfl ?_
      refine jp (pa (ht rfl)) rfl rfl rfl ?_
      refine j_end ?_
      obtain rfl := oi h
      exact run_next () (.cons (.of_lk rfl) <| .cons (.of_lk rfl) <| .cons (.of_lk rfl) <| .nil) (.nil)
    · replace h := bf e1 h
      obtain rfl := oi h
      exact run_brk () (.cons (.of_lk rfl) <| .cons (.of_lk rfl) <| .cons (.of_lk rfl) <| .nil) (.nil)
  · rintro _
    show Run _ _ _ [(0, (sl u8).slot p_b), (3, u64.slot y3), (4, i64.slot y4)] []
    refine run_to (Γ' := [(3, u64.slot y3)]) (H' := []) (.cons (.of_lk rfl) <| .nil) (.nil) ?_
    refine rs ?_
    refine rt ?_
    refine jp (pm (ht rfl)) rfl rfl rfl ?_
    refine jp (pa (ht rfl)) rfl rfl rfl ?_
    refine j_end ?_
    obtain rfl := oi h
    exact run_ret fun a w hst => q_ret1 hst rfl (.tmp rfl) () (fun _ _ h => h) (.nil)
set_option maxRecDepth 100000 in
set_option maxHeartbeats 4000000 in
theorem c_rolodexref02_words {G : GP} {p_b : List (BitVec 8)} {r : (Vector (BitVec 32) 64)} (h : rolodexref02_words p_b = some r) : Ctr Tryd.prog G 71 [(sl u8).slot p_b] [] (fun (_ : Unit) => (vec 64 u32).slot r) (fun (_ : Unit) => []) := by
  unfold rolodexref02_words at h
  refine ctr_of_run Tryd.func71 rfl 65 rfl rfl fun m0 w0 b0 => ?_
  show Run _ _ _ [(0, (sl u8).slot p_b)] _
  refine rs ?_
  refine rt ?_
  refine j_alloc (x := (Vector.replicate 64 (0#32))) (R := (vec 64 u32)) (zero_vec 64 zero_un) (by kernel_rfl) rfl fun b1 => ?_
  refine j_end ?_
  refine rs ?_
  refine rt ?_
  refine j_alloc (x := (Vector.replicate 64 (0#32))) (R := (vec 64 u32)) (zero_vec 64 zero_un) (by kernel_rfl) rfl fun b2 => ?_
  refine j_end ?_
  refine rs ?_
  refine rs ?_
  refine rt ?_
  refine jp (pa has_i64) rfl rfl rfl ?_
  refine j_end ?_
  obtain ⟨⟨y3, y4⟩, e6, h⟩ := bind_some h
  refine run_loopS (Γi := fun (i : Unit) (s : Int × (Vector (BitVec 32) 64)) => [(0, (sl u8).slot p_b), (2, val (.pointer (some ⟨b1, 0, none⟩))), (3, val (.pointer (some ⟨b2, 0, none⟩))), (4, i64.slot s.1)]) (Hi := fun (i : Unit) (s : Int × (Vector (BitVec 32) 64)) => [box b2 111 (vec 64 u32) s.2, box b1 111 (vec 64 u32) (Vector.replicate 64 (0#32))]) e6 () (fun a w hst => (hst.sub (.cons (.of_lk rfl) <| .cons (.of_lk rfl) <| .cons (.of_lk rfl) <| .cons (.of_lk rfl) <| .nil)).keep (.cons .here <| .cons .here <| .nil)) ?_ ?_
  · clear h e6
    rintro _ ⟨y1, y2⟩ lr h
    change rolodexref02_words_L1 p_b y1 y2 = some _ at h
    show Run _ _ _ [(0, (sl u8).slot p_b), (2, val (.pointer (some ⟨b1, 0, none⟩))), (3, val (.pointer (some ⟨b2, 0, none⟩))), (4, i64.slot y1)] [box b2 111 (vec 64 u32) y2, box b1 111 (vec 64 u32) (Vector.replicate 64 (0#32))]
    unfold rolodexref02_words_L1 at h
    refine rs ?_
    refine rs ?_
    refine rt ?_
    refine jp (pm (ht rfl)) rfl rfl rfl ?_
    refine jp (pj_ilss (ht rfl) has_i64) rfl rfl rfl ?_
    refine j_end ?_
    refine run_cond (ht rfl) (fun e1 => ?_) (fun e1 => ?_)
    · replace h := bt e1 h
      refine run_skip ?_
      refine rs ?_
      refine run_block ?_
      refine rt ?_
      refine jp (pm (ht rfl)) rfl rfl rfl ?_
      refine jp (pm (ht rfl)) rfl rfl rfl ?_
      refine jp (pm (ht rfl)) rfl rfl rfl ?_
      refine jp (pj_imul has_i64 (ht rfl)) rfl rfl rfl ?_
      refine jp (pm (ht rfl)) rfl rfl rfl ?_
      refine jp (pj_imul has_i64 (ht rfl)) rfl rfl rfl ?_
      refine jp (pj_iadd (ht rfl) has_i64) rfl rfl rfl ?_
      obtain ⟨x1, e2, h⟩ := bind_some h
      refine jp (pj_slice_slx (ht rfl) (.yes (ht rfl) isInt_i64) (.yes (ht rfl) isInt_i64) e2 (by kernel_rfl)) rfl rfl rfl ?_
      obtain ⟨r1, e3, h⟩ := bind_some h
      refine jp (pj_call (hc (ht rfl) <| hasL_nil) (by kernel_rfl) (c_rolodexref01_Value e3)) rfl rfl rfl ?_
      refine jp (pj_conv_uu (k := .u32) (b := 32) rfl rfl (by kernel_rfl) (ht rfl)) rfl rfl rfl ?_
      obtain ⟨e4, h⟩ := grd_some h
      refine jp (pj_index_arr (n := 64) (sz := 1) (ht rfl) (ht rfl) isInt_i64 e4.1 e4.2 (by kernel_rfl)) rfl rfl rfl ?_
      obtain ⟨x2, e5, h⟩ := bind_some h
      refine j_store_boxx (r' := x2) (ht rfl) (ht rfl) .here (Path.then (Path.all (vec 64 u32)) (Path.atI 64 u32 y1.toNat (lt_nat e4))) (by kernel_rfl) (oi e5) ?_
      refine j_end ?_
      refine run_endblock ?_
      refine rt ?_
      refine jp (pm (ht rfl)) rfl rfl rfl ?_
      refine jp (pj_iadd (ht rfl) has_i64) rfl rfl rfl ?_
      refine jp (pa (ht rfl)) rfl rfl rfl ?_
      refine j_end ?_
      obtain rfl := oi h
      exact run_next () (.cons (.of_lk rfl) <| .cons (.of_lk rfl) <| .cons (.of_lk rfl) <| .cons (.of_lk rfl) <| .nil) (.cons .here <| .cons .here <| .nil)
    · replace h := bf e1 h
      obtain rfl := oi h
      exact run_brk () (.cons (.of_lk rfl) <| .cons (.of_lk rfl) <| .cons (.of_lk rfl) <| .cons (.of_lk rfl) <| .nil) (.cons .here <| .cons .here <| .nil)
  · rintro _
    show Run _ _ _ [(0, (sl u8).slot p_b), (2, val (.pointer (some ⟨b1, 0, none⟩))), (3, val (.pointer (some ⟨b2, 0, none⟩))), (4, i64.slot y3)] [box b2 111 (vec 64 u32) y4, box b1 111 (vec 64 u32) (Vector.replicate 64 (0#32))]
    refine run_to (Γ' := [(2, val (.pointer (some ⟨b1, 0, none⟩))), (3, val (.pointer (some ⟨b2, 0, none⟩)))]) (H' := [box b2 111 (vec 64 u32) y4, box b1 111 (vec 64 u32) (Vector.replicate 64 (0#32))]) (.cons (.of_lk rfl) <| .cons (.of_lk rfl) <| .nil) (.cons .here <| .cons .here <| .nil) ?_
    refine rs ?_
    refine rs ?_
    refine rt ?_
    refine jp (pa has_i64) rfl rfl rfl ?_
    refine j_end ?_
    obtain ⟨⟨y7, y8⟩, e18, h⟩ := bind_some h
    refine run_loopS (Γi := fun (i : Unit) (s : Int × (Vector (BitVec 32) 64)) => [(2, val (.pointer (some ⟨b1, 0, none⟩))), (3, val (.pointer (some ⟨b2, 0, none⟩))), (5, i64.slot s.1)]) (Hi := fun (i : Unit) (s : Int × (Vector (BitVec 32) 64)) => [box b2 111 (vec 64 u32) s.2, box b1 111 (vec 64 u32) (Vector.replicate 64 (0#32))]) e18 () (fun a w hst => (hst.sub (.cons (.of_lk rfl) <| .cons (.of_lk rfl) <| .cons (.of_lk rfl) <| .nil)).keep (.cons .here <| .cons .here <| .nil)) ?_ ?_
    · clear h e18
      rintro _ ⟨y5, y6⟩ lr h
      change rolodexref02_words_L2 y5 y6 = some _ at h
      show Run _ _ _ [(2, val (.pointer (some ⟨b1, 0, none⟩))), (3, val (.pointer (some ⟨b2, 0, none⟩))), (5, i64.slot y5)] [box b2 111 (vec 64 u32) y6, box b1 111 (vec 64 u32) (Vector.replicate 64 (0#32))]
      unfold rolodexref02_words_L2 at h
      refine rs ?_
      refine rs ?_
      refine rt ?_
      refine jp (pm (ht rfl)) rfl rfl rfl ?_
      refine jp (pj_ilss (ht rfl) has_i64) rfl rfl rfl ?_
      refine j_end ?_
      refine run_cond (ht rfl) (fun e7 => ?_) (fun e7 => ?_)
      · replace h := bt e7 h
        refine run_skip ?_
        refine rs ?_
        refine run_block ?_
        refine rs ?_
        refine rt ?_
        refine jp (pm (ht rfl)) rfl rfl rfl ?_
        refine jp (pj_isub (ht rfl) has_i64) rfl rfl rfl ?_
        obtain ⟨x3, e8, h⟩ := bind_some h
        refine jp (pj_index_arr (n := 64) (sz := 1) (ht rfl) (ht rfl) isInt_i64 (vget_some e8).1 (vget_lt e8) (by kernel_rfl)) rfl rfl rfl ?_
        refine jp (PJ.eqv (pj_load_box (ht rfl) .here (Path.then (Path.all (vec 64 u32)) (Path.atI 64 u32 ((w64 (y5 - (15 : Int))).toNat) (vget_some e8).2.1)) (by kernel_rfl)) (vget_eq e8 (vget_some e8).2.1)) rfl rfl rfl ?_
        refine jp (pa (ht rfl)) rfl rfl rfl ?_
        refine j_end ?_
        refine rs ?_
        refine rt ?_
        refine jp (pm (ht rfl)) rfl rfl rfl ?_
        refine jp (pj_isub (ht rfl) has_i64) rfl rfl rfl ?_
        obtain ⟨x4, e9, h⟩ := bind_some h
        refine jp (pj_index_arr (n := 64) (sz := 1) (ht rfl) (ht rfl) isInt_i64 (vget_some e9).1 (vget_lt e9) (by kernel_rfl)) rfl rfl rfl ?_
        refine jp (PJ.eqv (pj_load_box (ht rfl) .here (Path.then (Path.all (vec 64 u32)) (Path.atI 64 u32 ((w64 (y5 - (2 : Int))).toNat) (vget_some e9).2.1)) (by kernel_rfl)) (vget_eq e9 (vget_some e9).2.1)) rfl rfl rfl ?_
        refine jp (pa (ht rfl)) rfl rfl rfl ?_
        refine j_end ?_
        obtain ⟨x5, e10, h⟩ := bind_some h
        obtain ⟨r2, e11, h⟩ := bind_some h
        obtain ⟨r3, e12, h⟩ := bind_some h
        obtain ⟨x6, e13, h⟩ := bind_some h
        obtain ⟨r4, e14, h⟩ := bind_some h
        obtain ⟨r5, e15, h⟩ := bind_some h
        refine run_draw (n := 28) (by kernel_rfl) (by kernel_rfl) (by kernel_rfl) (by kernel_rfl) (.read (.plain rfl (pm (ht rfl))) <| .read (.plain rfl (pm (ht rfl))) <| .read (.plain rfl (pj_isub (ht rfl) has_i64)) <| .read (.plain rfl (pj_index_arr (n := 64) (sz := 1) (ht rfl) (ht rfl) isInt_i64 (vget_some e10).1 (vget_lt e10) (by kernel_rfl))) <| .read (.plain rfl (PJ.eqv (pj_load_box (ht rfl) .here (Path.then (Path.all (vec 64 u32)) (Path.atI 64 u32 ((w64 (y5 - (16 : Int))).toNat) (vget_some e10).2.1)) (by kernel_rfl)) (vget_eq e10 (vget_some e10).2.1))) <| .read (.plain rfl (pm (ht rfl))) <| .read (.plain rfl (pj_call (hc (ht rfl) <| hc (has_un (x := 7#32) rfl) <| hasL_nil) (by kernel_rfl) (c_rolodexref02_turned e11))) <| .read (.plain rfl (pm (ht rfl))) <| .read (.plain rfl (pj_call (hc (ht rfl) <| hc (has_un (x := 18#32) rfl) <| hasL_nil) (by kernel_rfl) (c_rolodexref02_turned e12))) <| .read (.plain rfl (pj_uxor (k := .u32) (b := 32) rfl rfl (ht rfl) (ht rfl))) <| .read (.plain rfl (pm (ht rfl))) <| .read (.plain rfl (pj_uquo (k := .u32) (b := 32) rfl rfl (ht rfl) (has_un (x := 8#32) rfl) (by decide))) <| .read (.plain rfl (pj_uxor (k := .u32) (b := 32) rfl rfl (ht rfl) (ht rfl))) <| .read (.plain rfl (pj_uadd (k := .u32) (b := 32) rfl rfl (ht rfl) (ht rfl))) <| .read (.plain rfl (pm (ht rfl))) <| .read (.plain rfl (pj_isub (ht rfl) has_i64)) <| .read (.plain rfl (pj_index_arr (n := 64) (sz := 1) (ht rfl) (ht rfl) isInt_i64 (vget_some e13).1 (vget_lt e13) (by kernel_rfl))) <| .read (.plain rfl (PJ.eqv (pj_load_box (ht rfl) .here (Path.then (Path.all (vec 64 u32)) (Path.atI 64 u32 ((w64 (y5 - (7 : Int))).toNat) (vget_some e13).2.1)) (by kernel_rfl)) (vget_eq e13 (vget_some e13).2.1))) <| .read (.plain rfl (pj_uadd (k := .u32) (b := 32) rfl rfl (ht rfl) (ht rfl))) <| .read (.plain rfl (pm (ht rfl))) <| .read (.plain rfl (pj_call (hc (ht rfl) <| hc (has_un (x := 17#32) rfl) <| hasL_nil) (by kernel_rfl) (c_rolodexref02_turned e14))) <| .read (.plain rfl (pm (ht rfl))) <| .read (.plain rfl (pj_call (hc (ht rfl) <| hc (has_un (x := 19#32) rfl) <| hasL_nil) (by kernel_rfl) (c_rolodexref02_turned e15))) <| .read (.plain rfl (pj_uxor (k := .u32) (b := 32) rfl rfl (ht rfl) (ht rfl))) <| .read (.plain rfl (pm (ht rfl))) <| .read (.plain rfl (pj_uquo (k := .u32) (b := 32) rfl rfl (ht rfl) (has_un (x := 1024#32) rfl) (by decide))) <| .read (.plain rfl (pj_uxor (k := .u32) (b := 32) rfl rfl (ht rfl) (ht rfl))) <| .read (.plain rfl (pj_uadd (k := .u32) (b := 32) rfl rfl (ht rfl) (ht rfl))) <| .nil) (j_to (Γ' := [(2, val (.pointer (some ⟨b1, 0, none⟩))), (3, val (.pointer (some ⟨b2, 0, none⟩))), (5, i64.slot y5), (35, i64.slot y5), (62, u32.slot (((x5 + ((r2 ^^^ r3) ^^^ (x3 / (8#32)))) + x6) + ((r4 ^^^ r5) ^^^ (x4 / (1024#32)))))]) (H' := [box b2 111 (vec 64 u32) y6, box b1 111 (vec 64 u32) (Vector.replicate 64 (0#32))]) (.cons (.of_lk rfl) <| .cons (.of_lk rfl) <| .cons (.of_lk rfl) <| .cons (.of_lk rfl) <| .cons (.of_lk rfl) <| .nil) (.cons .here <| .cons .here <| .nil) ?_)
        obtain ⟨e16, h⟩ := grd_some h
        refine jp (pj_index_arr (n := 64) (sz := 1) (ht rfl) (ht rfl) isInt_i64 e16.1 e16.2 (by kernel_rfl)) rfl rfl rfl ?_
        obtain ⟨x7, e17, h⟩ := bind_some h
        refine j_store_boxx (r' := x7) (ht rfl) (ht rfl) .here (Path.then (Path.all (vec 64 u32)) (Path.atI 64 u32 y5.toNat (lt_nat e16))) (by kernel_rfl) (oi e17) ?_
        refine j_end ?_
        refine run_endblock ?_
        refine rt ?_
        refine jp (pm (ht rfl)) rfl rfl rfl ?_
        refine jp (pj_iadd (ht rfl) has_i64) rfl rfl rfl ?_
        refine jp (pa (ht rfl)) rfl rfl rfl ?_
        refine j_end ?_
        obtain rfl := oi h
        exact run_next () (.cons (.of_lk rfl) <| .cons (.of_lk rfl) <| .cons (.of_lk rfl) <| .nil) (.cons .here <| .cons .here <| .nil)
      · replace h := bf e7 h
        obtain rfl := oi h
        exact run_brk () (.cons (.of_lk rfl) <| .cons (.of_lk rfl) <| .cons (.of_lk rfl) <| .nil) (.cons .here <| .cons .here <| .nil)
    · rintro _
      show Run _ _ _ [(2, val (.pointer (some ⟨b1, 0, none⟩))), (3, val (.pointer (some ⟨b2, 0, none⟩))), (5, i64.slot y7)] [box b2 111 (vec 64 u32) y8, box b1 111 (vec 64 u32) (Vector.replicate 64 (0#32))]
      refine run_to (Γ' := [(2, val (.pointer (some ⟨b1, 0, none⟩))), (3, val (.pointer (some ⟨b2, 0, none⟩)))]) (H' := [box b2 111 (vec 64 u32) y8, box b1 111 (vec 64 u32) (Vector.replicate 64 (0#32))]) (.cons (.of_lk rfl) <| .cons (.of_lk rfl) <| .nil) (.cons .here <| .cons .here <| .nil) ?_
      refine rs ?_
      refine rt ?_
      refine jp (pj_load_box (ht rfl) .here (Path.all (vec 64 u32)) (by kernel_rfl)) rfl rfl rfl ?_
      refine j_store_boxx (r' := y8) (ht rfl) (ht rfl) (.next .here) (Path.all (vec 64 u32)) (by kernel_rfl) rfl ?_
      refine j_end ?_
      obtain rfl := oi h
      exact run_ret fun a w hst => q_ret1 hst rfl (.cell rfl .here (by kernel_rfl)) () (fun _ _ h => h) (.nil)
set_option maxRecDepth 100000 in
set_option maxHeartbeats 4000000 in
theorem c_rolodexref02_K {G : GP} {r : (Vector (BitVec 32) 64)} (h : rolodexref02_K = some r) : Ctr Tryd.prog G 72 [] [] (fun (_ : Unit) => (vec 64 u32).slot r) (fun (_ : Unit) => []) := by
  unfold rolodexref02_K at h
  refine ctr_of_run Tryd.func72 rfl 2 rfl rfl fun m0 w0 b0 => ?_
  show Run _ _ _ [] _
  refine rs ?_
  refine rt ?_
  refine j_alloc (x := (Vector.replicate 64 (0#32))) (R := (vec 64 u32)) (zero_vec 64 zero_un) (by kernel_rfl) rfl fun b1 => ?_
  refine j_end ?_
  refine rs ?_
  refine rt ?_
  obtain ⟨x1, e1, h⟩ := bind_some h
  refine jp (PJ.eqv (pj_buildArr (z0 := 0#32) (zero_vec 64 zero_un) (by kernel_rfl) (.cons (has_un (x := 1116352408#32) rfl) (.cons (has_un (x := 1899447441#32) rfl) (.cons (has_un (x := 3049323471#32) rfl) (.cons (has_un (x := 3921009573#32) rfl) (.cons (has_un (x := 961987163#32) rfl) (.cons (has_un (x := 1508970993#32) rfl) (.cons (has_un (x := 2453635748#32) rfl) (.cons (has_un (x := 2870763221#32) rfl) (.cons (has_un (x := 3624381080#32) rfl) (.cons (has_un (x := 310598401#32) rfl) (.cons (has_un (x := 607225278#32) rfl) (.cons (has_un (x := 1426881987#32) rfl) (.cons (has_un (x := 1925078388#32) rfl) (.cons (has_un (x := 2162078206#32) rfl) (.cons (has_un (x := 2614888103#32) rfl) (.cons (has_un (x := 3248222580#32) rfl) (.cons (has_un (x := 3835390401#32) rfl) (.cons (has_un (x := 4022224774#32) rfl) (.cons (has_un (x := 264347078#32) rfl) (.cons (has_un (x := 604807628#32) rfl) (.cons (has_un (x := 770255983#32) rfl) (.cons (has_un (x := 1249150122#32) rfl) (.cons (has_un (x := 1555081692#32) rfl) (.cons (has_un (x := 1996064986#32) rfl) (.cons (has_un (x := 2554220882#32) rfl) (.cons (has_un (x := 2821834349#32) rfl) (.cons (has_un (x := 2952996808#32) rfl) (.cons (has_un (x := 3210313671#32) rfl) (.cons (has_un (x := 3336571891#32) rfl) (.cons (has_un (x := 3584528711#32) rfl) (.cons (has_un (x := 113926993#32) rfl) (.cons (has_un (x := 338241895#32) rfl) (.cons (has_un (x := 666307205#32) rfl) (.cons (has_un (x := 773529912#32) rfl) (.cons (has_un (x := 1294757372#32) rfl) (.cons (has_un (x := 1396182291#32) rfl) (.cons (has_un (x := 1695183700#32) rfl) (.cons (has_un (x := 1986661051#32) rfl) (.cons (has_un (x := 2177026350#32) rfl) (.cons (has_un (x := 2456956037#32) rfl) (.cons (has_un (x := 2730485921#32) rfl) (.cons (has_un (x := 2820302411#32) rfl) (.cons (has_un (x := 3259730800#32) rfl) (.cons (has_un (x := 3345764771#32) rfl) (.cons (has_un (x := 3516065817#32) rfl) (.cons (has_un (x := 3600352804#32) rfl) (.cons (has_un (x := 4094571909#32) rfl) (.cons (has_un (x := 275423344#32) rfl) (.cons (has_un (x := 430227734#32) rfl) (.cons (has_un (x := 506948616#32) rfl) (.cons (has_un (x := 659060556#32) rfl) (.cons (has_un (x := 883997877#32) rfl) (.cons (has_un (x := 958139571#32) rfl) (.cons (has_un (x := 1322822218#32) rfl) (.cons (has_un (x := 1537002063#32) rfl) (.cons (has_un (x := 1747873779#32) rfl) (.cons (has_un (x := 1955562222#32) rfl) (.cons (has_un (x := 2024104815#32) rfl) (.cons (has_un (x := 2227730452#32) rfl) (.cons (has_un (x := 2361852424#32) rfl) (.cons (has_un (x := 2428436474#32) rfl) (.cons (has_un (x := 2756734187#32) rfl) (.cons (has_un (x := 3204031479#32) rfl) (.cons (has_un (x := 3329325298#32) rfl) .nil)))))))))))))))))))))))))))))))))))))))))))))))))))))))))))))))) (by kernel_rfl) rfl) (oi e1)) rfl rfl rfl ?_
  refine j_store_boxx (r' := x1) (ht rfl) (ht rfl) .here (Path.all (vec 64 u32)) (by kernel_rfl) rfl ?_
  refine j_end ?_
  obtain rfl := oi h
  exact run_ret fun a w hst => q_ret1 hst rfl (.cell rfl .here (by kernel_rfl)) () (fun _ _ h => h) (.nil)
set_option maxRecDepth 100000 in
set_option maxHeartbeats 4000000 in
theorem c_rolodexref02_take {G : GP} {p_h : Vector (BitVec 32) 8} {p_block : List (BitVec 8)} {r : (Vector (BitVec 32) 8)} (h : rolodexref02_take p_h p_block = some r) : Ctr Tryd.prog G 68 [(vec 8 u32).slot p_h, (sl u8).slot p_block] [] (fun (_ : Unit) => (vec 8 u32).slot r) (fun (_ : Unit) => []) := by
  unfold rolodexref02_take at h
  refine ctr_of_run Tryd.func68 rfl 121 rfl rfl fun m0 w0 b0 => ?_
  show Run _ _ _ [(0, (vec 8 u32).slot p_h), (1, (sl u8).slot p_block)] _
  refine rs ?_
  refine rt ?_
  refine j_box (ht rfl) rfl fun b1 => ?_
  refine j_alloc (x := (Vector.replicate 8 (0#32))) (R := (vec 8 u32)) (zero_vec 8 zero_un) (by kernel_rfl) rfl fun b2 => ?_
  refine j_end ?_
  refine rs ?_
  refine rt ?_
  refine jp (pm (ht rfl)) rfl rfl rfl ?_
  obtain ⟨r1, e1, h⟩ := bind_some h
  refine jp (pj_call (hc (ht rfl) <| hasL_nil) (by kernel_rfl) (c_rolodexref02_words e1)) rfl rfl rfl ?_
  refine j_alloc (x := (Vector.replicate 64 (0#32))) (R := (vec 64 u32)) (zero_vec 64 zero_un) (by kernel_rfl) rfl fun b3 => ?_
  refine j_store_boxx (r' := r1) (ht rfl) (ht rfl) .here (Path.all (vec 64 u32)) (by kernel_rfl) rfl ?_
  refine j_freezeTo (t := 5) .here (.of_lk rfl) ?_
  refine j_end ?_
  refine rs ?_
  refine rt ?_
  obtain ⟨r2, e2, h⟩ := bind_some h
  refine jp (pj_call (hasL_nil) (by kernel_rfl) (c_rolodexref02_K e2)) rfl rfl rfl ?_
  refine j_alloc (x := (Vector.replicate 64 (0#32))) (R := (vec 64 u32)) (zero_vec 64 zero_un) (by kernel_rfl) rfl fun b4 => ?_
  refine j_store_boxx (r' := r2) (ht rfl) (ht rfl) .here (Path.all (vec 64 u32)) (by kernel_rfl) rfl ?_
  refine j_freezeTo (t := 6) .here (.of_lk rfl) ?_
  refine j_end ?_
  refine rs ?_
  refine rt ?_
  refine jp (pj_load_box (ht rfl) (.next .here) (Path.all (vec 8 u32)) (by kernel_rfl)) rfl rfl rfl ?_
  refine j_alloc (x := (Vector.replicate 8 (0#32))) (R := (vec 8 u32)) (zero_vec 8 zero_un) (by kernel_rfl) rfl fun b5 => ?_
  refine j_store_boxx (r' := p_h) (ht rfl) (ht rfl) .here (Path.all (vec 8 u32)) (by kernel_rfl) rfl ?_
  refine j_end ?_
  refine rs ?_
  refine rs ?_
  refine rt ?_
  refine jp (pa has_i64) rfl rfl rfl ?_
  refine j_end ?_
  obtain ⟨⟨y3, y4⟩, e16, h⟩ := bind_some h
  refine run_loopS (Γi := fun (i : Unit) (s : Int × (Vector (BitVec 32) 8)) => [(2, val (.pointer (some ⟨b1, 0, none⟩))), (4, val (.pointer (some ⟨b2, 0, none⟩))), (5, ptrTo (vec 64 u32) r1), (6, ptrTo (vec 64 u32) r2), (7, val (.pointer (some ⟨b5, 0, none⟩))), (8, i64.slot s.1)]) (Hi := fun (i : Unit) (s : Int × (Vector (BitVec 32) 8)) => [box b5 105 (vec 8 u32) s.2, box b2 105 (vec 8 u32) (Vector.replicate 8 (0#32)), box b1 105 (vec 8 u32) p_h]) e16 () (fun a w hst => (hst.sub (.cons (.of_lk rfl) <| .cons (.of_lk rfl) <| .cons (.of_lk rfl) <| .cons (.of_lk rfl) <| .cons (.of_lk rfl) <| .cons (.of_lk rfl) <| .nil)).keep (.cons .here <| .cons .here <| .cons .here <| .nil)) ?_ ?_
  · clear h e16
    rintro _ ⟨y1, y2⟩ lr h
    change rolodexref02_take_L1 r2 r1 y1 y2 = some _ at h
    show Run _ _ _ [(2, val (.pointer (some ⟨b1, 0, none⟩))), (4, val (.pointer (some ⟨b2, 0, none⟩))), (5, ptrTo (vec 64 u32) r1), (6, ptrTo (vec 64 u32) r2), (7, val (.pointer (some ⟨b5, 0, none⟩))), (8, i64.slot y1)] [box b5 105 (vec 8 u32) y2, box b2 105 (vec 8 u32) (Vector.replicate 8 (0#32)), box b1 105 (vec 8 u32) p_h]
    unfold rolodexref02_take_L1 at h
    refine rs ?_
    refine rs ?_
    refine rt ?_
    refine jp (pm (ht rfl)) rfl rfl rfl ?_
    refine jp (pj_ilss (ht rfl) has_i64) rfl rfl rfl ?_
    refine j_end ?_
    refine run_cond (ht rfl) (fun e3 => ?_) (fun e3 => ?_)
    · replace h := bt e3 h
      refine run_skip ?_
      refine rs ?_
      refine run_block ?_
      refine rs ?_
      refine rt ?_
      refine jp (pj_index_arr (n := 8) (sz := 1) (ht rfl) has_i64 isInt_i64 (by decide) (by decide) (by kernel_rfl)) rfl rfl rfl ?_
      refine jp (pj_load_box (ht rfl) .here (Path.then (Path.all (vec 8 u32)) (Path.at 8 u32 4 (by decide))) (by kernel_rfl)) rfl rfl rfl ?_
      refine jp (pj_index_arr (n := 8) (sz := 1) (ht rfl) has_i64 isInt_i64 (by decide) (by decide) (by kernel_rfl)) rfl rfl rfl ?_
      refine jp (pj_load_box (ht rfl) .here (Path.then (Path.all (vec 8 u32)) (Path.at 8 u32 5 (by decide))) (by kernel_rfl)) rfl rfl rfl ?_
      refine jp (pj_uand (k := .u32) (b := 32) rfl rfl (ht rfl) (ht rfl)) rfl rfl rfl ?_
      refine jp (pj_index_arr (n := 8) (sz := 1) (ht rfl) has_i64 isInt_i64 (by decide) (by decide) (by kernel_rfl)) rfl rfl rfl ?_
      refine jp (pj_load_box (ht rfl) .here (Path.then (Path.all (vec 8 u32)) (Path.at 8 u32 4 (by decide))) (by kernel_rfl)) rfl rfl rfl ?_
      refine jp (pj_usub (k := .u32) (b := 32) rfl rfl (has_un (x := 4294967295#32) rfl) (ht rfl)) rfl rfl rfl ?_
      refine jp (pj_index_arr (n := 8) (sz := 1) (ht rfl) has_i64 isInt_i64 (by decide) (by decide) (by kernel_rfl)) rfl rfl rfl ?_
      refine jp (pj_load_box (ht rfl) .here (Path.then (Path.all (vec 8 u32)) (Path.at 8 u32 6 (by decide))) (by kernel_rfl)) rfl rfl rfl ?_
      refine jp (pj_uand (k := .u32) (b := 32) rfl rfl (ht rfl) (ht rfl)) rfl rfl rfl ?_
      refine jp (pj_uor (k := .u32) (b := 32) rfl rfl (ht rfl) (ht rfl)) rfl rfl rfl ?_
      obtain ⟨x1, e4, h⟩ := bind_some h
      refine jp (PJ.eqv (pa (ht rfl)) (oi e4)) rfl rfl rfl ?_
      refine j_end ?_
      refine rs ?_
      refine rt ?_
      refine jp (pj_index_arr (n := 8) (sz := 1) (ht rfl) has_i64 isInt_i64 (by decide) (by decide) (by kernel_rfl)) rfl rfl rfl ?_
      refine jp (pj_load_box (ht rfl) .here (Path.then (Path.all (vec 8 u32)) (Path.at 8 u32 0 (by decide))) (by kernel_rfl)) rfl rfl rfl ?_
      refine jp (pj_index_arr (n := 8) (sz := 1) (ht rfl) has_i64 isInt_i64 (by decide) (by decide) (by kernel_rfl)) rfl rfl rfl ?_
      refine jp (pj_load_box (ht rfl) .here (Path.then (Path.all (vec 8 u32)) (Path.at 8 u32 1 (by decide))) (by kernel_rfl)) rfl rfl rfl ?_
      refine jp (pj_uand (k := .u32) (b := 32) rfl rfl (ht rfl) (ht rfl)) rfl rfl rfl ?_
      refine jp (pj_index_arr (n := 8) (sz := 1) (ht rfl) has_i64 isInt_i64 (by decide) (by decide) (by kernel_rfl)) rfl rfl rfl ?_
      refine jp (pj_load_box (ht rfl) .here (Path.then (Path.all (vec 8 u32)) (Path.at 8 u32 0 (by decide))) (by kernel_rfl)) rfl rfl rfl ?_
      refine jp (pj_index_arr (n := 8) (sz := 1) (ht rfl) has_i64 isInt_i64 (by decide) (by decide) (by kernel_rfl)) rfl rfl rfl ?_
      refine jp (pj_load_box (ht rfl) .here (Path.then (Path.all (vec 8 u32)) (Path.at 8 u32 2 (by decide))) (by kernel_rfl)) rfl rfl rfl ?_
      refine jp (pj_uand (k := .u32) (b := 32) rfl rfl (ht rfl) (ht rfl)) rfl rfl rfl ?_
      refine jp (pj_uor (k := .u32) (b := 32) rfl rfl (ht rfl) (ht rfl)) rfl rfl rfl ?_
      refine jp (pj_index_arr (n := 8) (sz := 1) (ht rfl) has_i64 isInt_i64 (by decide) (by decide) (by kernel_rfl)) rfl rfl rfl ?_
      refine jp (pj_load_box (ht rfl) .here (Path.then (Path.all (vec 8 u32)) (Path.at 8 u32 1 (by decide))) (by kernel_rfl)) rfl rfl rfl ?_
      refine jp (pj_index_arr (n := 8) (sz := 1) (ht rfl) has_i64 isInt_i64 (by decide) (by decide) (by kernel_rfl)) rfl rfl rfl ?_
      refine jp (pj_load_box (ht rfl) .here (Path.then (Path.all (vec 8 u32)) (Path.at 8 u32 2 (by decide))) (by kernel_rfl)) rfl rfl rfl ?_
      refine jp (pj_uand (k := .u32) (b := 32) rfl rfl (ht rfl) (ht rfl)) rfl rfl rfl ?_
      refine jp (pj_uor (k := .u32) (b := 32) rfl rfl (ht rfl) (ht rfl)) rfl rfl rfl ?_
      obtain ⟨x2, e5, h⟩ := bind_some h
      refine jp (PJ.eqv (pa (ht rfl)) (oi e5)) rfl rfl rfl ?_
      refine j_end ?_
      refine rs ?_
      obtain ⟨r3, e6, h⟩ := bind_some h
      obtain ⟨r4, e7, h⟩ := bind_some h
      obtain ⟨r5, e8, h⟩ := bind_some h
      obtain ⟨x3, e9, h⟩ := bind_some h
      obtain ⟨x4, e10, h⟩ := bind_some h
      refine run_draw (n := 23) (by kernel_rfl) (by kernel_rfl) (by kernel_rfl) (by kernel_rfl) (.read (.plain rfl (pj_index_arr (n := 8) (sz := 1) (ht rfl) has_i64 isInt_i64 (by decide) (by decide) (by kernel_rfl))) <| .read (.plain rfl (pj_load_box (ht rfl) .here (Path.then (Path.all (vec 8 u32)) (Path.at 8 u32 7 (by decide))) (by kernel_rfl))) <| .read (.plain rfl (pj_index_arr (n := 8) (sz := 1) (ht rfl) has_i64 isInt_i64 (by decide) (by decide) (by kernel_rfl))) <| .read (.plain rfl (pj_load_box (ht rfl) .here (Path.then (Path.all (vec 8 u32)) (Path.at 8 u32 4 (by decide))) (by kernel_rfl))) <| .read (.plain rfl (pj_call (hc (ht rfl) <| hc (has_un (x := 6#32) rfl) <| hasL_nil) (by kernel_rfl) (c_rolodexref02_turned e6))) <| .read (.plain rfl (pj_index_arr (n := 8) (sz := 1) (ht rfl) has_i64 isInt_i64 (by decide) (by decide) (by kernel_rfl))) <| .read (.plain rfl (pj_load_box (ht rfl) .here (Path.then (Path.all (vec 8 u32)) (Path.at 8 u32 4 (by decide))) (by kernel_rfl))) <| .read (.plain rfl (pj_call (hc (ht rfl) <| hc (has_un (x := 11#32) rfl) <| hasL_nil) (by kernel_rfl) (c_rolodexref02_turned e7))) <| .read (.plain rfl (pj_uxor (k := .u32) (b := 32) rfl rfl (ht rfl) (ht rfl))) <| .read (.plain rfl (pj_index_arr (n := 8) (sz := 1) (ht rfl) has_i64 isInt_i64 (by decide) (by decide) (by kernel_rfl))) <| .read (.plain rfl (pj_load_box (ht rfl) .here (Path.then (Path.all (vec 8 u32)) (Path.at 8 u32 4 (by decide))) (by kernel_rfl))) <| .read (.plain rfl (pj_call (hc (ht rfl) <| hc (has_un (x := 25#32) rfl) <| hasL_nil) (by kernel_rfl) (c_rolodexref02_turned e8))) <| .read (.plain rfl (pj_uxor (k := .u32) (b := 32) rfl rfl (ht rfl) (ht rfl))) <| .read (.plain rfl (pj_uadd (k := .u32) (b := 32) rfl rfl (ht rfl) (ht rfl))) <| .read (.plain rfl (pm (ht rfl))) <| .read (.plain rfl (pj_uadd (k := .u32) (b := 32) rfl rfl (ht rfl) (ht rfl))) <| .read (.plain rfl (pm (ht rfl))) <| .read (.plain rfl (pj_index_tox (ht rfl) (ht rfl) isInt_i64 e9 (by kernel_rfl))) <| .read (.plain rfl (pl (ht rfl) (by kernel_rfl))) <| .read (.plain rfl (pj_uadd (k := .u32) (b := 32) rfl rfl (ht rfl) (ht rfl))) <| .read (.plain rfl (pm (ht rfl))) <| .read (.plain rfl (pj_index_tox (ht rfl) (ht rfl) isInt_i64 e10 (by kernel_rfl))) <| .read (.plain rfl (pl (ht rfl) (by kernel_rfl))) <| .nil) (j_to (Γ' := [(2, val (.pointer (some ⟨b1, 0, none⟩))), (4, val (.pointer (some ⟨b2, 0, none⟩))), (5, ptrTo (vec 64 u32) r1), (6, ptrTo (vec 64 u32) r2), (7, val (.pointer (some ⟨b5, 0, none⟩))), (8, i64.slot y1), (10, u32.slot x2), (70, u32.slot ((((y2[7]) + ((r3 ^^^ r4) ^^^ r5)) + x1) + x3)), (73, u32.slot x4)]) (H' := [box b5 105 (vec 8 u32) y2, box b2 105 (vec 8 u32) (Vector.replicate 8 (0#32)), box b1 105 (vec 8 u32) p_h]) (.cons (.of_lk rfl) <| .cons (.of_lk rfl) <| .cons (.of_lk rfl) <| .cons (.of_lk rfl) <| .cons (.of_lk rfl) <| .cons (.of_lk rfl) <| .cons (.of_lk rfl) <| .cons (.of_lk rfl) <| .cons (.of_lk rfl) <| .nil) (.cons .here <| .cons .here <| .cons .here <| .nil) ?_)
      refine jp (pj_uadd (k := .u32) (b := 32) rfl rfl (ht rfl) (ht rfl)) rfl rfl rfl ?_
      obtain ⟨x5, e11, h⟩ := bind_some h
      refine jp (PJ.eqv (pa (ht rfl)) (oi e11)) rfl rfl rfl ?_
      refine j_end ?_
      refine rs ?_
      obtain ⟨r6, e12, h⟩ := bind_some h
      obtain ⟨r7, e13, h⟩ := bind_some h
      obtain ⟨r8, e14, h⟩ := bind_some h
      refine run_draw (n := 12) (by kernel_rfl) (by kernel_rfl) (by kernel_rfl) (by kernel_rfl) (.read (.plain rfl (pj_index_arr (n := 8) (sz := 1) (ht rfl) has_i64 isInt_i64 (by decide) (by decide) (by kernel_rfl))) <| .read (.plain rfl (pj_load_box (ht rfl) .here (Path.then (Path.all (vec 8 u32)) (Path.at 8 u32 0 (by decide))) (by kernel_rfl))) <| .read (.plain rfl (pj_call (hc (ht rfl) <| hc (has_un (x := 2#32) rfl) <| hasL_nil) (by kernel_rfl) (c_rolodexref02_turned e12))) <| .read (.plain rfl (pj_index_arr (n := 8) (sz := 1) (ht rfl) has_i64 isInt_i64 (by decide) (by decide) (by kernel_rfl))) <| .read (.plain rfl (pj_load_box (ht rfl) .here (Path.then (Path.all (vec 8 u32)) (Path.at 8 u32 0 (by decide))) (by kernel_rfl))) <| .read (.plain rfl (pj_call (hc (ht rfl) <| hc (has_un (x := 13#32) rfl) <| hasL_nil) (by kernel_rfl) (c_rolodexref02_turned e13))) <| .read (.plain rfl (pj_uxor (k := .u32) (b := 32) rfl rfl (ht rfl) (ht rfl))) <| .read (.plain rfl (pj_index_arr (n := 8) (sz := 1) (ht rfl) has_i64 isInt_i64 (by decide) (by decide) (by kernel_rfl))) <| .read (.plain rfl (pj_load_box (ht rfl) .here (Path.then (Path.all (vec 8 u32)) (Path.at 8 u32 0 (by decide))) (by kernel_rfl))) <| .read (.plain rfl (pj_call (hc (ht rfl) <| hc (has_un (x := 22#32) rfl) <| hasL_nil) (by kernel_rfl) (c_rolodexref02_turned e14))) <| .read (.plain rfl (pj_uxor (k := .u32) (b := 32) rfl rfl (ht rfl) (ht rfl))) <| .read (.plain rfl (pm (ht rfl))) <| .nil) (j_to (Γ' := [(2, val (.pointer (some ⟨b1, 0, none⟩))), (4, val (.pointer (some ⟨b2, 0, none⟩))), (5, ptrTo (vec 64 u32) r1), (6, ptrTo (vec 64 u32) r2), (7, val (.pointer (some ⟨b5, 0, none⟩))), (8, i64.slot y1), (11, u32.slot x5), (85, u32.slot ((r6 ^^^ r7) ^^^ r8)), (86, u32.slot x2)]) (H' := [box b5 105 (vec 8 u32) y2, box b2 105 (vec 8 u32) (Vector.replicate 8 (0#32)), box b1 105 (vec 8 u32) p_h]) (.cons (.of_lk rfl) <| .cons (.of_lk rfl) <| .cons (.of_lk rfl) <| .cons (.of_lk rfl) <| .cons (.of_lk rfl) <| .cons (.of_lk rfl) <| .cons (.of_lk rfl) <| .cons (.of_lk rfl) <| .cons (.of_lk rfl) <| .nil) (.cons .here <| .cons .here <| .cons .here <| .nil) ?_)
      refine jp (pj_uadd (k := .u32) (b := 32) rfl rfl (ht rfl) (ht rfl)) rfl rfl rfl ?_
      refine jp (pa (ht rfl)) rfl rfl rfl ?_
      refine j_end ?_
      refine rt ?_
      refine jp (pm (ht rfl)) rfl rfl rfl ?_
      refine jp (pm (ht rfl)) rfl rfl rfl ?_
      refine jp (pj_uadd (k := .u32) (b := 32) rfl rfl (ht rfl) (ht rfl)) rfl rfl rfl ?_
      refine jp (pj_index_arr (n := 8) (sz := 1) (ht rfl) has_i64 isInt_i64 (by decide) (by decide) (by kernel_rfl)) rfl rfl rfl ?_
      refine jp (pj_load_box (ht rfl) .here (Path.then (Path.all (vec 8 u32)) (Path.at 8 u32 0 (by decide))) (by kernel_rfl)) rfl rfl rfl ?_
      refine jp (pj_index_arr (n := 8) (sz := 1) (ht rfl) has_i64 isInt_i64 (by decide) (by decide) (by kernel_rfl)) rfl rfl rfl ?_
      refine jp (pj_load_box (ht rfl) .here (Path.then (Path.all (vec 8 u32)) (Path.at 8 u32 1 (by decide))) (by kernel_rfl)) rfl rfl rfl ?_
      refine jp (pj_index_arr (n := 8) (sz := 1) (ht rfl) has_i64 isInt_i64 (by decide) (by decide) (by kernel_rfl)) rfl rfl rfl ?_
      refine jp (pj_load_box (ht rfl) .here (Path.then (Path.all (vec 8 u32)) (Path.at 8 u32 2 (by decide))) (by kernel_rfl)) rfl rfl rfl ?_
      refine jp (pj_index_arr (n := 8) (sz := 1) (ht rfl) has_i64 isInt_i64 (by decide) (by decide) (by kernel_rfl)) rfl rfl rfl ?_
      refine jp (pj_load_box (ht rfl) .here (Path.then (Path.all (vec 8 u32)) (Path.at 8 u32 3 (by decide))) (by kernel_rfl)) rfl rfl rfl ?_
      refine jp (pm (ht rfl)) rfl rfl rfl ?_
      refine jp (pj_uadd (k := .u32) (b := 32) rfl rfl (ht rfl) (ht rfl)) rfl rfl rfl ?_
      refine jp (pj_index_arr (n := 8) (sz := 1) (ht rfl) has_i64 isInt_i64 (by decide) (by decide) (by kernel_rfl)) rfl rfl rfl ?_
      refine jp (pj_load_box (ht rfl) .here (Path.then (Path.all (vec 8 u32)) (Path.at 8 u32 4 (by decide))) (by kernel_rfl)) rfl rfl rfl ?_
      refine jp (pj_index_arr (n := 8) (sz := 1) (ht rfl) has_i64 isInt_i64 (by decide) (by decide) (by kernel_rfl)) rfl rfl rfl ?_
      refine jp (pj_load_box (ht rfl) .here (Path.then (Path.all (vec 8 u32)) (Path.at 8 u32 5 (by decide))) (by kernel_rfl)) rfl rfl rfl ?_
      refine jp (pj_index_arr (n := 8) (sz := 1) (ht rfl) has_i64 isInt_i64 (by decide) (by decide) (by kernel_rfl)) rfl rfl rfl ?_
      refine jp (pj_load_box (ht rfl) .here (Path.then (Path.all (vec 8 u32)) (Path.at 8 u32 6 (by decide))) (by kernel_rfl)) rfl rfl rfl ?_
      obtain ⟨x6, e15, h⟩ := bind_some h
      refine jp (PJ.eqv (pj_buildArr (z0 := 0#32) (zero_vec 8 zero_un) (by kernel_rfl) (.cons (ht rfl) (.cons (ht rfl) (.cons (ht rfl) (.cons (ht rfl) (.cons (ht rfl) (.cons (ht rfl) (.cons (ht rfl) (.cons (ht rfl) .nil)))))))) (by kernel_rfl) rfl) (oi e15)) rfl rfl rfl ?_
      refine j_store_boxx (r' := x6) (ht rfl) (ht rfl) .here (Path.all (vec 8 u32)) (by kernel_rfl) rfl ?_
      refine j_end ?_
      refine run_endblock ?_
      refine rt ?_
      refine jp (pm (ht rfl)) rfl rfl rfl ?_
      refine jp (pj_iadd (ht rfl) has_i64) rfl rfl rfl ?_
      refine jp (pa (ht rfl)) rfl rfl rfl ?_
      refine j_end ?_
      obtain rfl := oi h
      exact run_next () (.cons (.of_lk rfl) <| .cons (.of_lk rfl) <| .cons (.of_lk rfl) <| .cons (.of_lk rfl) <| .cons (.of_lk rfl) <| .cons (.of_lk rfl) <| .nil) (.cons .here <| .cons .here <| .cons .here <| .nil)
    · replace h := bf e3 h
      obtain rfl := oi h
      exact run_brk () (.cons (.of_lk rfl) <| .cons (.of_lk rfl) <| .cons (.of_lk rfl) <| .cons (.of_lk rfl) <| .cons (.of_lk rfl) <| .cons (.of_lk rfl) <| .nil) (.cons .here <| .cons .here <| .cons .here <| .nil)
  · rintro _
    show Run _ _ _ [(2, val (.pointer (some ⟨b1, 0, none⟩))), (4, val (.pointer (some ⟨b2, 0, none⟩))), (5, ptrTo (vec 64 u32) r1), (6, ptrTo (vec 64 u32) r2), (7, val (.pointer (some ⟨b5, 0, none⟩))), (8, i64.slot y3)] [box b5 105 (vec 8 u32) y4, box b2 105 (vec 8 u32) (Vector.replicate 8 (0#32)), box b1 105 (vec 8 u32) p_h]
    refine run_to (Γ' := [(2, val (.pointer (some ⟨b1, 0, none⟩))), (4, val (.pointer (some ⟨b2, 0, none⟩))), (7, val (.pointer (some ⟨b5, 0, none⟩)))]) (H' := [box b5 105 (vec 8 u32) y4, box b2 105 (vec 8 u32) (Vector.replicate 8 (0#32)), box b1 105 (vec 8 u32) p_h]) (.cons (.of_lk rfl) <| .cons (.of_lk rfl) <| .cons (.of_lk rfl) <| .nil) (.cons .here <| .cons .here <| .cons .here <| .nil) ?_
    refine rs ?_
    refine rs ?_
    refine rt ?_
    refine jp (pa has_i64) rfl rfl rfl ?_
    refine j_end ?_
    obtain ⟨⟨y7, y8⟩, e21, h⟩ := bind_some h
    refine run_loopS (Γi := fun (i : Unit) (s : Int × (Vector (BitVec 32) 8)) => [(2, val (.pointer (some ⟨b1, 0, none⟩))), (4, val (.pointer (some ⟨b2, 0, none⟩))), (7, val (.pointer (some ⟨b5, 0, none⟩))), (13, i64.slot s.1)]) (Hi := fun (i : Unit) (s : Int × (Vector (BitVec 32) 8)) => [box b5 105 (vec 8 u32) y4, box b2 105 (vec 8 u32) (Vector.replicate 8 (0#32)), box b1 105 (vec 8 u32) s.2]) e21 () (fun a w hst => (hst.sub (.cons (.of_lk rfl) <| .cons (.of_lk rfl) <| .cons (.of_lk rfl) <| .cons (.of_lk rfl) <| .nil)).keep (.cons .here <| .cons .here <| .cons .here <| .nil)) ?_ ?_
    · clear h e21
      rintro _ ⟨y5, y6⟩ lr h
      change rolodexref02_take_L2 y4 y5 y6 = some _ at h
      show Run _ _ _ [(2, val (.pointer (some ⟨b1, 0, none⟩))), (4, val (.pointer (some ⟨b2, 0, none⟩))), (7, val (.pointer (some ⟨b5, 0, none⟩))), (13, i64.slot y5)] [box b5 105 (vec 8 u32) y4, box b2 105 (vec 8 u32) (Vector.replicate 8 (0#32)), box b1 105 (vec 8 u32) y6]
      unfold rolodexref02_take_L2 at h
      refine rs ?_
      refine rs ?_
      refine rt ?_
      refine jp (pm (ht rfl)) rfl rfl rfl ?_
      refine jp (pj_ilss (ht rfl) has_i64) rfl rfl rfl ?_
      refine j_end ?_
      refine run_cond (ht rfl) (fun e17 => ?_) (fun e17 => ?_)
      · replace h := bt e17 h
        refine run_skip ?_
        refine rs ?_
        refine run_block ?_
        obtain ⟨x7, e18, h⟩ := bind_some h
        obtain ⟨x8, e19, h⟩ := bind_some h
        refine run_draw (n := 6) (by kernel_rfl) (by kernel_rfl) (by kernel_rfl) (by kernel_rfl) (.read (.plain rfl (pm (ht rfl))) <| .read (.plain rfl (pj_index_arr (n := 8) (sz := 1) (ht rfl) (ht rfl) isInt_i64 (vget_some e18).1 (vget_lt e18) (by kernel_rfl))) <| .read (.plain rfl (PJ.eqv (pj_load_box (ht rfl) (.next (.next .here)) (Path.then (Path.all (vec 8 u32)) (Path.atI 8 u32 y5.toNat (vget_some e18).2.1)) (by kernel_rfl)) (vget_eq e18 (vget_some e18).2.1))) <| .read (.plain rfl (pm (ht rfl))) <| .read (.plain rfl (pj_index_arr (n := 8) (sz := 1) (ht rfl) (ht rfl) isInt_i64 (vget_some e19).1 (vget_lt e19) (by kernel_rfl))) <| .read (.plain rfl (PJ.eqv (pj_load_box (ht rfl) .here (Path.then (Path.all (vec 8 u32)) (Path.atI 8 u32 y5.toNat (vget_some e19).2.1)) (by kernel_rfl)) (vget_eq e19 (vget_some e19).2.1))) <| .nil) (j_to (Γ' := [(2, val (.pointer (some ⟨b1, 0, none⟩))), (4, val (.pointer (some ⟨b2, 0, none⟩))), (7, val (.pointer (some ⟨b5, 0, none⟩))), (13, i64.slot y5), (112, i64.slot y5), (114, u32.slot x7), (117, u32.slot x8)]) (H' := [box b5 105 (vec 8 u32) y4, box b2 105 (vec 8 u32) (Vector.replicate 8 (0#32)), box b1 105 (vec 8 u32) y6]) (.cons (.of_lk rfl) <| .cons (.of_lk rfl) <| .cons (.of_lk rfl) <| .cons (.of_lk rfl) <| .cons (.of_lk rfl) <| .cons (.of_lk rfl) <| .cons (.of_lk rfl) <| .nil) (.cons .here <| .cons .here <| .cons .here <| .nil) ?_)
        refine jp (pj_uadd (k := .u32) (b := 32) rfl rfl (ht rfl) (ht rfl)) rfl rfl rfl ?_
        obtain ⟨e20, h⟩ := grd_some h
        refine jp (pj_index_arr (n := 8) (sz := 1) (ht rfl) (ht rfl) isInt_i64 e20.1 e20.2 (by kernel_rfl)) rfl rfl rfl ?_
        refine j_store_boxx (r' := (y6.setIfInBounds y5.toNat (x7 + x8))) (ht rfl) (ht rfl) (.next (.next .here)) (Path.then (Path.all (vec 8 u32)) (Path.atI 8 u32 y5.toNat (lt_nat e20))) (by kernel_rfl) rfl ?_
        refine j_end ?_
        refine run_endblock ?_
        refine rt ?_
        refine jp (pm (ht rfl)) rfl rfl rfl ?_
        refine jp (pj_iadd (ht rfl) has_i64) rfl rfl rfl ?_
        refine jp (pa (ht rfl)) rfl rfl rfl ?_
        refine j_end ?_
        obtain rfl := oi h
        exact run_next () (.cons (.of_lk rfl) <| .cons (.of_lk rfl) <| .cons (.of_lk rfl) <| .cons (.of_lk rfl) <| .nil) (.cons (.next .here) <| .cons (.next .here) <| .cons .here <| .nil)
      · replace h := bf e17 h
        obtain rfl := oi h
        exact run_brk () (.cons (.of_lk rfl) <| .cons (.of_lk rfl) <| .cons (.of_lk rfl) <| .cons (.of_lk rfl) <| .nil) (.cons .here <| .cons .here <| .cons .here <| .nil)
    · rintro _
      show Run _ _ _ [(2, val (.pointer (some ⟨b1, 0, none⟩))), (4, val (.pointer (some ⟨b2, 0, none⟩))), (7, val (.pointer (some ⟨b5, 0, none⟩))), (13, i64.slot y7)] [box b5 105 (vec 8 u32) y4, box b2 105 (vec 8 u32) (Vector.replicate 8 (0#32)), box b1 105 (vec 8 u32) y8]
      refine run_to (Γ' := [(2, val (.pointer (some ⟨b1, 0, none⟩))), (4, val (.pointer (some ⟨b2, 0, none⟩)))]) (H' := [box b2 105 (vec 8 u32) (Vector.replicate 8 (0#32)), box b1 105 (vec 8 u32) y8]) (.cons (.of_lk rfl) <| .cons (.of_lk rfl) <| .nil) (.cons (.next .here) <| .cons (.next .here) <| .nil) ?_
      refine rs ?_
      refine rt ?_
      refine jp (pj_load_box (ht rfl) (.next .here) (Path.all (vec 8 u32)) (by kernel_rfl)) rfl rfl rfl ?_
      refine j_store_boxx (r' := y8) (ht rfl) (ht rfl) .here (Path.all (vec 8 u32)) (by kernel_rfl) rfl ?_
      refine j_end ?_
      obtain rfl := oi h
      exact run_ret fun a w hst => q_ret1 hst rfl (.cell rfl .here (by kernel_rfl)) () (fun _ _ h => h) (.nil)
set_option maxRecDepth 100000 in
set_option maxHeartbeats 4000000 in
theorem c_rolodexref02_Sum {G : GP} {p_b : List (BitVec 8)} {r : T_api_Hash} (h : rolodexref02_Sum p_b = some r) : Ctr Tryd.prog G 56 [(sl u8).slot p_b] [] (fun (_ : Unit) => R_api_Hash.slot r) (fun (_ : Unit) => []) := by
  unfold rolodexref02_Sum at h
  refine ctr_of_run Tryd.func56 rfl 42 rfl rfl fun m0 w0 b0 => ?_
  show Run _ _ _ [(0, (sl u8).slot p_b)] _
  refine rs ?_
  refine rt ?_
  refine j_alloc (x := (Vector.replicate 32 (0#8))) (R := R_api_Hash) (zero_vec 32 zero_un) (by kernel_rfl) rfl fun b1 => ?_
  refine j_end ?_
  refine rs ?_
  refine rt ?_
  obtain ⟨r1, e1, h⟩ := bind_some h
  refine jp (pj_call (hasL_nil) (by kernel_rfl) (c_rolodexref02_Start e1)) rfl rfl rfl ?_
  refine j_alloc (x := (Vector.replicate 8 (0#32))) (R := (vec 8 u32)) (zero_vec 8 zero_un) (by kernel_rfl) rfl fun b2 => ?_
  refine j_store_boxx (r' := r1) (ht rfl) (ht rfl) .here (Path.all (vec 8 u32)) (by kernel_rfl) rfl ?_
  refine j_end ?_
  refine rs ?_
  refine rt ?_
  refine jp (pm (ht rfl)) rfl rfl rfl ?_
  obtain ⟨r2, e2, h⟩ := bind_some h
  refine jp (pj_call (hc (ht rfl) <| hasL_nil) (by kernel_rfl) (Ctr.froze (c_rolodexref02_Padded e2))) rfl rfl rfl ?_
  refine jp (pa (ht rfl)) rfl rfl rfl ?_
  refine j_end ?_
  refine rs ?_
  refine rs ?_
  refine rt ?_
  refine jp (pa has_i64) rfl rfl rfl ?_
  refine j_end ?_
  obtain ⟨⟨y3, y4⟩, e6, h⟩ := bind_some h
  refine run_loopS (Γi := fun (i : Unit) (s : Int × (Vector (BitVec 32) 8)) => [(2, val (.pointer (some ⟨b1, 0, none⟩))), (3, val (.pointer (some ⟨b2, 0, none⟩))), (4, (sl u8).slot r2), (5, i64.slot s.1)]) (Hi := fun (i : Unit) (s : Int × (Vector (BitVec 32) 8)) => [box b2 105 (vec 8 u32) s.2, box b1 25 R_api_Hash (Vector.replicate 32 (0#8))]) e6 () (fun a w hst => (hst.sub (.cons (.of_lk rfl) <| .cons (.of_lk rfl) <| .cons (.of_lk rfl) <| .cons (.of_lk rfl) <| .nil)).keep (.cons .here <| .cons .here <| .nil)) ?_ ?_
  · clear h e6
    rintro _ ⟨y1, y2⟩ lr h
    change rolodexref02_Sum_L1 r2 y1 y2 = some _ at h
    show Run _ _ _ [(2, val (.pointer (some ⟨b1, 0, none⟩))), (3, val (.pointer (some ⟨b2, 0, none⟩))), (4, (sl u8).slot r2), (5, i64.slot y1)] [box b2 105 (vec 8 u32) y2, box b1 25 R_api_Hash (Vector.replicate 32 (0#8))]
    unfold rolodexref02_Sum_L1 at h
    refine rs ?_
    refine rs ?_
    refine rt ?_
    refine jp (pm (ht rfl)) rfl rfl rfl ?_
    refine jp (pm (ht rfl)) rfl rfl rfl ?_
    refine jp (pj_len_sl (sz := 1) (ht rfl) (by kernel_rfl)) rfl rfl rfl ?_
    refine jp (pj_ilss (ht rfl) (ht rfl)) rfl rfl rfl ?_
    refine j_end ?_
    refine run_cond (ht rfl) (fun e3 => ?_) (fun e3 => ?_)
    · replace h := bt e3 h
      refine run_skip ?_
      refine rs ?_
      refine run_block ?_
      obtain ⟨x1, e4, h⟩ := bind_some h
      refine run_draw (n := 6) (by kernel_rfl) (by kernel_rfl) (by kernel_rfl) (by kernel_rfl) (.read (.plain rfl (pj_load_box (ht rfl) .here (Path.all (vec 8 u32)) (by kernel_rfl))) <| .read (.plain rfl (pm (ht rfl))) <| .read (.plain rfl (pm (ht rfl))) <| .read (.plain rfl (pm (ht rfl))) <| .read (.plain rfl (pj_iadd (ht rfl) has_i64)) <| .read (.plain rfl (pj_slice_slx (ht rfl) (.yes (ht rfl) isInt_i64) (.yes (ht rfl) isInt_i64) e4 (by kernel_rfl))) <| .nil) (j_to (Γ' := [(2, val (.pointer (some ⟨b1, 0, none⟩))), (3, val (.pointer (some ⟨b2, 0, none⟩))), (4, (sl u8).slot r2), (5, i64.slot y1), (17, (vec 8 u32).slot y2), (22, (sl u8).slot x1)]) (H' := [box b2 105 (vec 8 u32) y2, box b1 25 R_api_Hash (Vector.replicate 32 (0#8))]) (.cons (.of_lk rfl) <| .cons (.of_lk rfl) <| .cons (.of_lk rfl) <| .cons (.of_lk rfl) <| .cons (.of_lk rfl) <| .cons (.of_lk rfl) <| .nil) (.cons .here <| .cons .here <| .nil) ?_)
      obtain ⟨r3, e5, h⟩ := bind_some h
      refine jp (pj_call (hc (ht rfl) <| hc (ht rfl) <| hasL_nil) (by kernel_rfl) (c_rolodexref02_take e5)) rfl rfl rfl ?_
      refine j_store_boxx (r' := r3) (ht rfl) (ht rfl) .here (Path.all (vec 8 u32)) (by kernel_rfl) rfl ?_
      refine j_end ?_
      refine run_endblock ?_
      refine rt ?_
      refine jp (pm (ht rfl)) rfl rfl rfl ?_
      refine jp (pj_iadd (ht rfl) has_i64) rfl rfl rfl ?_
      refine jp (pa (ht rfl)) rfl rfl rfl ?_
      refine j_end ?_
      obtain rfl := oi h
      exact run_next () (.cons (.of_lk rfl) <| .cons (.of_lk rfl) <| .cons (.of_lk rfl) <| .cons (.of_lk rfl) <| .nil) (.cons .here <| .cons .here <| .nil)
    · replace h := bf e3 h
      obtain rfl := oi h
      exact run_brk () (.cons (.of_lk rfl) <| .cons (.of_lk rfl) <| .cons (.of_lk rfl) <| .cons (.of_lk rfl) <| .nil) (.cons .here <| .cons .here <| .nil)
  · rintro _
    show Run _ _ _ [(2, val (.pointer (some ⟨b1, 0, none⟩))), (3, val (.pointer (some ⟨b2, 0, none⟩))), (4, (sl u8).slot r2), (5, i64.slot y3)] [box b2 105 (vec 8 u32) y4, box b1 25 R_api_Hash (Vector.replicate 32 (0#8))]
    refine run_to (Γ' := [(2, val (.pointer (some ⟨b1, 0, none⟩))), (3, val (.pointer (some ⟨b2, 0, none⟩)))]) (H' := [box b2 105 (vec 8 u32) y4, box b1 25 R_api_Hash (Vector.replicate 32 (0#8))]) (.cons (.of_lk rfl) <| .cons (.of_lk rfl) <| .nil) (.cons .here <| .cons .here <| .nil) ?_
    refine rs ?_
    refine rt ?_
    refine j_alloc (x := (Vector.replicate 32 (0#8))) (R := R_api_Hash) (zero_vec 32 zero_un) (by kernel_rfl) rfl fun b3 => ?_
    refine j_end ?_
    refine rs ?_
    refine rs ?_
    refine rt ?_
    refine jp (pa has_i64) rfl rfl rfl ?_
    refine j_end ?_
    obtain ⟨⟨y7, y8⟩, e11, h⟩ := bind_some h
    refine run_loopS (Γi := fun (i : Unit) (s : Int × T_api_Hash) => [(2, val (.pointer (some ⟨b1, 0, none⟩))), (3, val (.pointer (some ⟨b2, 0, none⟩))), (6, val (.pointer (some ⟨b3, 0, none⟩))), (7, i64.slot s.1)]) (Hi := fun (i : Unit) (s : Int × T_api_Hash) => [box b3 25 R_api_Hash s.2, box b2 105 (vec 8 u32) y4, box b1 25 R_api_Hash (Vector.replicate 32 (0#8))]) e11 () (fun a w hst => (hst.sub (.cons (.of_lk rfl) <| .cons (.of_lk rfl) <| .cons (.of_lk rfl) <| .cons (.of_lk rfl) <| .nil)).keep (.cons .here <| .cons .here <| .cons .here <| .nil)) ?_ ?_
    · clear h e11
      rintro _ ⟨y5, y6⟩ lr h
      change rolodexref02_Sum_L2 y4 y5 y6 = some _ at h
      show Run _ _ _ [(2, val (.pointer (some ⟨b1, 0, none⟩))), (3, val (.pointer (some ⟨b2, 0, none⟩))), (6, val (.pointer (some ⟨b3, 0, none⟩))), (7, i64.slot y5)] [box b3 25 R_api_Hash y6, box b2 105 (vec 8 u32) y4, box b1 25 R_api_Hash (Vector.replicate 32 (0#8))]
      unfold rolodexref02_Sum_L2 at h
      refine rs ?_
      refine rs ?_
      refine rt ?_
      refine jp (pm (ht rfl)) rfl rfl rfl ?_
      refine jp (pj_ilss (ht rfl) has_i64) rfl rfl rfl ?_
      refine j_end ?_
      refine run_cond (ht rfl) (fun e7 => ?_) (fun e7 => ?_)
      · replace h := bt e7 h
        refine run_skip ?_
        refine rs ?_
        refine run_block ?_
        refine rt ?_
        refine jp (pm (ht rfl)) rfl rfl rfl ?_
        refine jp (pm (ht rfl)) rfl rfl rfl ?_
        refine jp (pj_iquo (ht rfl) has_i64 (by decide)) rfl rfl rfl ?_
        obtain ⟨x2, e8, h⟩ := bind_some h
        refine jp (pj_index_arr (n := 8) (sz := 1) (ht rfl) (ht rfl) isInt_i64 (vget_some e8).1 (vget_lt e8) (by kernel_rfl)) rfl rfl rfl ?_
        refine jp (PJ.eqv (pj_load_box (ht rfl) (.next .here) (Path.then (Path.all (vec 8 u32)) (Path.atI 8 u32 ((w64 (Int.tdiv y5 (4 : Int))).toNat) (vget_some e8).2.1)) (by kernel_rfl)) (vget_eq e8 (vget_some e8).2.1)) rfl rfl rfl ?_
        refine jp (pm (ht rfl)) rfl rfl rfl ?_
        refine jp (pj_irem (ht rfl) has_i64 (by decide)) rfl rfl rfl ?_
        refine jp (pj_conv_un (k := .u32) (b := 32) rfl rfl (by kernel_rfl) (ht rfl) isInt_i64) rfl rfl rfl ?_
        refine jp (pj_umul (k := .u32) (b := 32) rfl rfl (has_un (x := 8#32) rfl) (ht rfl)) rfl rfl rfl ?_
        refine jp (pj_usub (k := .u32) (b := 32) rfl rfl (has_un (x := 24#32) rfl) (ht rfl)) rfl rfl rfl ?_
        refine jp (pj_ushr (k := .u32) (b := 32) rfl (ht rfl) (ht rfl) isInt_un (Int.natCast_nonneg _)) rfl rfl rfl ?_
        refine jp (pj_conv_uu (k := .u8) (b := 8) rfl rfl (by kernel_rfl) (ht rfl)) rfl rfl rfl ?_
        obtain ⟨e9, h⟩ := grd_some h
        refine jp (pj_index_arr (n := 32) (sz := 1) (ht rfl) (ht rfl) isInt_i64 e9.1 e9.2 (by kernel_rfl)) rfl rfl rfl ?_
        obtain ⟨x3, e10, h⟩ := bind_some h
        refine j_store_boxx (r' := x3) (ht rfl) (ht rfl) .here (Path.then (Path.all R_api_Hash) (Path.atI 32 u8 y5.toNat (lt_nat e9))) (by kernel_rfl) (oi e10) ?_
        refine j_end ?_
        refine run_endblock ?_
        refine rt ?_
        refine jp (pm (ht rfl)) rfl rfl rfl ?_
        refine jp (pj_iadd (ht rfl) has_i64) rfl rfl rfl ?_
        refine jp (pa (ht rfl)) rfl rfl rfl ?_
        refine j_end ?_
        obtain rfl := oi h
        exact run_next () (.cons (.of_lk rfl) <| .cons (.of_lk rfl) <| .cons (.of_lk rfl) <| .cons (.of_lk rfl) <| .nil) (.cons .here <| .cons .here <| .cons .here <| .nil)
      · replace h := bf e7 h
        obtain rfl := oi h
        exact run_brk () (.cons (.of_lk rfl) <| .cons (.of_lk rfl) <| .cons (.of_lk rfl) <| .cons (.of_lk rfl) <| .nil) (.cons .here <| .cons .here <| .cons .here <| .nil)
    · rintro _
      show Run _ _ _ [(2, val (.pointer (some ⟨b1, 0, none⟩))), (3, val (.pointer (some ⟨b2, 0, none⟩))), (6, val (.pointer (some ⟨b3, 0, none⟩))), (7, i64.slot y7)] [box b3 25 R_api_Hash y8, box b2 105 (vec 8 u32) y4, box b1 25 R_api_Hash (Vector.replicate 32 (0#8))]
      refine run_to (Γ' := [(2, val (.pointer (some ⟨b1, 0, none⟩))), (6, val (.pointer (some ⟨b3, 0, none⟩)))]) (H' := [box b3 25 R_api_Hash y8, box b1 25 R_api_Hash (Vector.replicate 32 (0#8))]) (.cons (.of_lk rfl) <| .cons (.of_lk rfl) <| .nil) (.cons .here <| .cons (.next .here) <| .nil) ?_
      refine rs ?_
      refine rt ?_
      refine jp (pj_load_box (ht rfl) .here (Path.all R_api_Hash) (by kernel_rfl)) rfl rfl rfl ?_
      refine j_store_boxx (r' := y8) (ht rfl) (ht rfl) (.next .here) (Path.all R_api_Hash) (by kernel_rfl) rfl ?_
      refine j_end ?_
      obtain rfl := oi h
      exact run_ret fun a w hst => q_ret1 hst rfl (.cell rfl .here (by kernel_rfl)) () (fun _ _ h => h) (.nil)
set_option maxRecDepth 100000 in
set_option maxHeartbeats 4000000 in
theorem c_rolodexref14_Commit {G : GP} {p_label : List (BitVec 8)} {p_v : T_rolodexref14_Version} {r : T_api_Hash} (h : rolodexref14_Commit p_label p_v = some r) : Ctr Tryd.prog G 25 [(sl u8).slot p_label, R_rolodexref14_Version.slot p_v] [] (fun (_ : Unit) => R_api_Hash.slot r) (fun (_ : Unit) => []) := by
  unfold rolodexref14_Commit at h
  refine ctr_of_run Tryd.func25 rfl 9 rfl rfl fun m0 w0 b0 => ?_
  show Run _ _ _ [(0, (sl u8).slot p_label), (1, R_rolodexref14_Version.slot p_v)] _
  refine rs ?_
  refine rt ?_
  refine jp (pj_box_to (ht rfl)) rfl rfl rfl ?_
  refine j_alloc (x := (Vector.replicate 32 (0#8))) (R := R_api_Hash) (zero_vec 32 zero_un) (by kernel_rfl) rfl fun b1 => ?_
  refine j_end ?_
  refine rs ?_
  refine rt ?_
  refine jp (pm (ht rfl)) rfl rfl rfl ?_
  refine jp (pl (ht rfl) (by kernel_rfl)) rfl rfl rfl ?_
  obtain ⟨r1, e1, h⟩ := bind_some h
  refine jp (pj_call (hc (ht rfl) <| hc (ht rfl) <| hasL_nil) (by kernel_rfl) (Ctr.froze (c_rolodexref14_Text e1))) rfl rfl rfl ?_
  obtain ⟨r2, e2, h⟩ := bind_some h
  refine jp (pj_call (hc (ht rfl) <| hasL_nil) (by kernel_rfl) (c_rolodexref02_Sum e2)) rfl rfl rfl ?_
  refine j_store_boxx (r' := r2) (ht rfl) (ht rfl) .here (Path.all R_api_Hash) (by kernel_rfl) rfl ?_
  refine j_end ?_
  obtain rfl := oi h
  exact run_ret fun a w hst => q_ret1 hst rfl (.cell rfl .here (by kernel_rfl)) () (fun _ _ h => h) (.nil)
set_option maxRecDepth 100000 in
set_option maxHeartbeats 4000000 in
theorem c_rolodexref14_Formed {G : GP} {p_label : List (BitVec 8)} {p_l : List T_rolodexref14_Version} {r : Bool} (h : rolodexref14_Formed p_label p_l = some r) : Ctr Tryd.prog G 33 [(sl u8).slot p_label, (sl R_rolodexref14_Version).slot p_l] [] (fun (_ : Unit) => bl.slot r) (fun (_ : Unit) => []) := by
  unfold rolodexref14_Formed at h
  refine ctr_of_run Tryd.func33 rfl 84 rfl rfl fun m0 w0 b0 => ?_
  refine run_ret0 fun Qf hq1 hq2 => ?_
  show Run _ _ _ [(0, (sl u8).slot p_label), (1, (sl R_rolodexref14_Version).slot p_l)] _
  refine rs ?_
  refine rt ?_
  refine jp (pa has_bl) rfl rfl rfl ?_
  refine j_end ?_
  refine rs ?_
  refine rs ?_
  refine rt ?_
  refine jp (pm (ht rfl)) rfl rfl rfl ?_
  refine jp (pj_len_sl (sz := 1) (ht rfl) (by kernel_rfl)) rfl rfl rfl ?_
  refine jp (pj_ieql (ht rfl) has_i64) rfl rfl rfl ?_
  refine jp (pm (ht rfl)) rfl rfl rfl ?_
  obtain ⟨y1, e2, h⟩ := bind_some h
  refine j_joinx (ι := Unit) (Γ' := fun _ => [(0, (sl u8).slot p_label), (1, (sl R_rolodexref14_Version).slot p_l), (14, bl.slot y1)]) (H' := fun _ => []) 4 ?_ fun J => ?_
  · intro _
    clear e2
    show OpsJ _ _ _ [(0, (sl u8).slot p_label), (1, (sl R_rolodexref14_Version).slot p_l), (14, bl.slot y1)] [] _
    refine jp (pm (ht rfl)) rfl rfl rfl ?_
    obtain ⟨y2, e4, h⟩ := bind_some h
    refine j_joinx (ι := Unit) (Γ' := fun _ => [(0, (sl u8).slot p_label), (1, (sl R_rolodexref14_Version).slot p_l), (19, bl.slot y2)]) (H' := fun _ => []) 4 ?_ fun J => ?_
    · intro _
      clear e4
      show OpsJ _ _ _ [(0, (sl u8).slot p_label), (1, (sl R_rolodexref14_Version).slot p_l), (19, bl.slot y2)] [] _
      refine j_end ?_
      refine run_cond (ht rfl) (fun e5 => ?_) (fun e5 => ?_)
      · replace h := bt e5 h
        refine rs ?_
        refine rt ?_
        refine jp (pa has_bl) rfl rfl rfl ?_
        refine j_end ?_
        obtain rfl := oi h
        exact run_ret fun a w hst => q_ret1 hst rfl (.tmp rfl) () (fun _ _ h => h) (.nil)
      · replace h := bf e5 h
        refine run_skip ?_
        refine rs ?_
        refine rs ?_
        refine rt ?_
        refine jp (pa has_i64) rfl rfl rfl ?_
        refine j_end ?_
        obtain ⟨o, e26, h⟩ := bind_some h
        refine run_loop (Γi := fun (i : Unit) (s : Int) => [(0, (sl u8).slot p_label), (1, (sl R_rolodexref14_Version).slot p_l), (5, i64.slot s)]) (Hi := fun (i : Unit) (s : Int) => []) (R := fun x a w => x = r → Qf a w) e26 () (fun a w hst => (hst.sub (.cons (.of_lk rfl) <| .cons (.of_lk rfl) <| .cons (.of_lk rfl) <| .nil)).keep (.nil)) ?_ ?_ ?_
        · clear h e26
          rintro _ y3 lr h
          change rolodexref14_Formed_L1 p_l p_label y3 = some _ at h
          show Run _ _ _ [(0, (sl u8).slot p_label), (1, (sl R_rolodexref14_Version).slot p_l), (5, i64.slot y3)] []
          unfold rolodexref14_Formed_L1 at h
          refine rs ?_
          refine rs ?_
          refine rt ?_
          refine jp (pm (ht rfl)) rfl rfl rfl ?_
          refine jp (pm (ht rfl)) rfl rfl rfl ?_
          refine jp (pj_len_sl (sz := 67) (ht rfl) (by kernel_rfl)) rfl rfl rfl ?_
          refine jp (pj_ilss (ht rfl) (ht rfl)) rfl rfl rfl ?_
          refine j_end ?_
          refine run_cond (ht rfl) (fun e6 => ?_) (fun e6 => ?_)
          · replace h := bt e6 h
            refine run_skip ?_
            refine rs ?_
            refine run_block ?_
            refine rs ?_
            refine rt ?_
            refine jp (pm (ht rfl)) rfl rfl rfl ?_
            refine jp (pm (ht rfl)) rfl rfl rfl ?_
            obtain ⟨x1, e7, h⟩ := bind_some h
            refine jp (pj_index_slx (ht rfl) (ht rfl) isInt_i64 e7 (by kernel_rfl)) rfl rfl rfl ?_
            refine jp (pl (ht rfl) (by kernel_rfl)) rfl rfl rfl ?_
            refine j_alloc (x := (0, 0, (Vector.replicate 32 (0#8)), (Vector.replicate 32 (0#8)), ([] : List (BitVec 8)))) (R := R_rolodexref14_Version) (zero_prod zero_i64 (zero_prod zero_i64 (zero_prod (zero_vec 32 zero_un) (zero_prod (zero_vec 32 zero_un) zero_sl)))) (by kernel_rfl) rfl fun b1 => ?_
            refine j_store_boxx (r' := x1) (ht rfl) (ht rfl) .here (Path.all R_rolodexref14_Version) (by kernel_rfl) rfl ?_
            refine j_freezeTo (t := 6) .here (.of_lk rfl) ?_
            refine j_end ?_
            refine rs ?_
            refine rs ?_
            refine rt ?_
            refine jp (pj_field_to (ht rfl) (Path.fst i64 (prod i64 (prod R_api_Hash (prod R_api_Hash (sl u8))))) (by kernel_rfl)) rfl rfl rfl ?_
            refine jp (pl (ht rfl) (by kernel_rfl)) rfl rfl rfl ?_
            refine jp (pm (ht rfl)) rfl rfl rfl ?_
            refine jp (pj_iadd (ht rfl) has_i64) rfl rfl rfl ?_
            refine jp (pj_ineq (ht rfl) (ht rfl)) rfl rfl rfl ?_
            refine jp (pm (ht rfl)) rfl rfl rfl ?_
            obtain ⟨y4, e9, h⟩ := bind_some h
            refine j_joinx (ι := Unit) (Γ' := fun _ => [(0, (sl u8).slot p_label), (1, (sl R_rolodexref14_Version).slot p_l), (5, i64.slot y3), (6, ptrTo R_rolodexref14_Version x1), (39, bl.slot y4)]) (H' := fun _ => []) 4 ?_ fun J => ?_
            · intro _
              clear e9
              show OpsJ _ _ _ [(0, (sl u8).slot p_label), (1, (sl R_rolodexref14_Version).slot p_l), (5, i64.slot y3), (6, ptrTo R_rolodexref14_Version x1), (39, bl.slot y4)] [] _
              refine jp (pm (ht rfl)) rfl rfl rfl ?_
              obtain ⟨y5, e11, h⟩ := bind_some h
              refine j_joinx (ι := Unit) (Γ' := fun _ => [(0, (sl u8).slot p_label), (1, (sl R_rolodexref14_Version).slot p_l), (5, i64.slot y3), (6, ptrTo R_rolodexref14_Version x1), (44, bl.slot y5)]) (H' := fun _ => []) 4 ?_ fun J => ?_
              · intro _
                clear e11
                show OpsJ _ _ _ [(0, (sl u8).slot p_label), (1, (sl R_rolodexref14_Version).slot p_l), (5, i64.slot y3), (6, ptrTo R_rolodexref14_Version x1), (44, bl.slot y5)] [] _
                refine jp (pm (ht rfl)) rfl rfl rfl ?_
                obtain ⟨y6, e13, h⟩ := bind_some h
                refine j_joinx (ι := Unit) (Γ' := fun _ => [(0, (sl u8).slot p_label), (1, (sl R_rolodexref14_Version).slot p_l), (5, i64.slot y3), (6, ptrTo R_rolodexref14_Version x1), (50, bl.slot y6)]) (H' := fun _ => []) 5 ?_ fun J => ?_
                · intro _
                  clear e13
                  show OpsJ _ _ _ [(0, (sl u8).slot p_label), (1, (sl R_rolodexref14_Version).slot p_l), (5, i64.slot y3), (6, ptrTo R_rolodexref14_Version x1), (50, bl.slot y6)] [] _
                  refine j_end ?_
                  refine run_cond (ht rfl) (fun e14 => ?_) (fun e14 => ?_)
                  · replace h := bt e14 h
                    refine rs ?_
                    refine rt ?_
                    refine jp (pa has_bl) rfl rfl rfl ?_
                    refine j_end ?_
                    obtain rfl := oi h
                    refine run_ret fun a w hst => ⟨rfl, fun hr => ?_⟩
                    subst hr
                    exact hq2 a w (q_ret1 hst rfl (.tmp rfl) () (fun _ _ h => h) (.nil))
                  · replace h := bf e14 h
                    refine run_skip ?_
                    refine rs ?_
                    refine rs ?_
                    refine rt ?_
                    refine jp (pm (ht rfl)) rfl rfl rfl ?_
                    refine jp (pj_ieql (ht rfl) has_i64) rfl rfl rfl ?_
                    refine jp (pm (ht rfl)) rfl rfl rfl ?_
                    obtain ⟨y7, e16, h⟩ := bind_some h
                    refine j_joinx (ι := Unit) (Γ' := fun _ => [(0, (sl u8).slot p_label), (1, (sl R_rolodexref14_Version).slot p_l), (5, i64.slot y3), (6, ptrTo R_rolodexref14_Version x1), (58, bl.slot y7)]) (H' := fun _ => []) 5 ?_ fun J => ?_
                    · intro _
                      clear e16
                      show OpsJ _ _ _ [(0, (sl u8).slot p_label), (1, (sl R_rolodexref14_Version).slot p_l), (5, i64.slot y3), (6, ptrTo R_rolodexref14_Version x1), (58, bl.slot y7)] [] _
                      refine j_end ?_
                      refine run_cond (ht rfl) (fun e17 => ?_) (fun e17 => ?_)
                      · replace h := bt e17 h
                        refine rs ?_
                        refine rt ?_
                        refine jp (pa has_bl) rfl rfl rfl ?_
                        refine j_end ?_
                        obtain rfl := oi h
                        refine run_ret fun a w hst => ⟨rfl, fun hr => ?_⟩
                        subst hr
                        exact hq2 a w (q_ret1 hst rfl (.tmp rfl) () (fun _ _ h => h) (.nil))
                      · replace h := bf e17 h
                        refine run_skip ?_
                        refine rs ?_
                        obtain ⟨y8, e19, h⟩ := bind_some h
                        refine (run_drawJ (n := 25) (Γ' := [(0, (sl u8).slot p_label), (1, (sl R_rolodexref14_Version).slot p_l), (5, i64.slot y3), (83, bl.slot y8)]) (H' := []) ?_ fun J => ?_)
                        · clear e19
                          refine j_end ?_
                          refine run_cond (ht rfl) (fun e25 => ?_) (fun e25 => ?_)
                          · replace h := bt e25 h
                            refine rs ?_
                            refine rt ?_
                            refine jp (pa has_bl) rfl rfl rfl ?_
                            refine j_end ?_
                            obtain rfl := oi h
                            refine run_ret fun a w hst => ⟨rfl, fun hr => ?_⟩
                            subst hr
                            exact hq2 a w (q_ret1 hst rfl (.tmp rfl) () (fun _ _ h => h) (.nil))
                          · replace h := bf e25 h
                            refine run_skip ?_
                            refine run_endblock ?_
                            refine rt ?_
                            refine jp (pm (ht rfl)) rfl rfl rfl ?_
                            refine jp (pj_iadd (ht rfl) has_i64) rfl rfl rfl ?_
                            refine jp (pa (ht rfl)) rfl rfl rfl ?_
                            refine j_end ?_
                            obtain rfl := oi h
                            exact run_next () (.cons (.of_lk rfl) <| .cons (.of_lk rfl) <| .cons (.of_lk rfl) <| .nil) (.nil)
                        · rcases bool_tf (decide ((0 : Int) < y3)) with e18 | e18
                          · replace e19 := bt e18 e19
                            obtain ⟨x2, e20, e19⟩ := bind_some e19
                            obtain ⟨y9, e22, e19⟩ := bind_some e19
                            rcases bool_tf (decide (x1.2.1 ≤ x2.2.1)) with e21 | e21
                            · replace e22 := bt e21 e22
                              exact run_draw (n := 25) (by kernel_rfl) (by kernel_rfl) (by kernel_rfl) (by kernel_rfl) (.read (.plain rfl (pm (ht rfl))) <| .read (.plain rfl (pj_igtr (ht rfl) has_i64)) <| .read (.plain rfl (pm (ht rfl))) <| .read (.yes ⟨2, true, _, 61, _, rfl, rfl, rfl, fun _ _ => bl_p.1, gd_yes e18⟩ (pj_field_to (ht rfl) (Path.then (Path.snd i64 (prod i64 (prod R_api_Hash (prod R_api_Hash (sl u8))))) (Path.fst i64 (prod R_api_Hash (prod R_api_Hash (sl u8))))) (by kernel_rfl))) <| .read (.yes ⟨2, true, _, 61, _, rfl, rfl, rfl, fun _ _ => bl_p.1, gd_yes e18⟩ (pl (ht rfl) (by kernel_rfl))) <| .read (.yes ⟨2, true, _, 61, _, rfl, rfl, rfl, fun _ _ => bl_p.1, gd_yes e18⟩ (pm (ht rfl))) <| .read (.yes ⟨2, true, _, 61, _, rfl, rfl, rfl, fun _ _ => bl_p.1, gd_yes e18⟩ (pm (ht rfl))) <| .read (.yes ⟨2, true, _, 61, _, rfl, rfl, rfl, fun _ _ => bl_p.1, gd_yes e18⟩ (pj_isub (ht rfl) has_i64)) <| .read (.yes ⟨2, true, _, 61, _, rfl, rfl, rfl, fun _ _ => bl_p.1, gd_yes e18⟩ (pj_index_slx (ht rfl) (ht rfl) isInt_i64 e20 (by kernel_rfl))) <| .read (.yes ⟨2, true, _, 61, _, rfl, rfl, rfl, fun _ _ => bl_p.1, gd_yes e18⟩ (pj_field_to (ht rfl) (Path.then (Path.snd i64 (prod i64 (prod R_api_Hash (prod R_api_Hash (sl u8))))) (Path.fst i64 (prod R_api_Hash (prod R_api_Hash (sl u8))))) (by kernel_rfl))) <| .read (.yes ⟨2, true, _, 61, _, rfl, rfl, rfl, fun _ _ => bl_p.1, gd_yes e18⟩ (pl (ht rfl) (by kernel_rfl))) <| .read (.yes ⟨2, true, _, 61, _, rfl, rfl, rfl, fun _ _ => bl_p.1, gd_yes e18⟩ (pj_ileq (ht rfl) (ht rfl))) <| .read (.yes ⟨2, true, _, 61, _, rfl, rfl, rfl, fun _ _ => bl_p.1, gd_yes e18⟩ (pm (ht rfl))) <| .read (.no ⟨12, false, _, 71, _, rfl, rfl, rfl, fun _ _ => bl_p.1, gd_no e21⟩) <| .read (.no ⟨12, false, _, 71, _, rfl, rfl, rfl, fun _ _ => bl_p.1, gd_no e21⟩) <| .read (.no ⟨12, false, _, 71, _, rfl, rfl, rfl, fun _ _ => bl_p.1, gd_no e21⟩) <| .read (.no ⟨12, false, _, 71, _, rfl, rfl, rfl, fun _ _ => bl_p.1, gd_no e21⟩) <| .read (.no ⟨12, false, _, 71, _, rfl, rfl, rfl, fun _ _ => bl_p.1, gd_no e21⟩) <| .read (.no ⟨12, false, _, 71, _, rfl, rfl, rfl, fun _ _ => bl_p.1, gd_no e21⟩) <| .read (.no ⟨12, false, _, 71, _, rfl, rfl, rfl, fun _ _ => bl_p.1, gd_no e21⟩) <| .read (.no ⟨12, false, _, 71, _, rfl, rfl, rfl, fun _ _ => bl_p.1, gd_no e21⟩) <| .read (.no ⟨12, false, _, 71, _, rfl, rfl, rfl, fun _ _ => bl_p.1, gd_no e21⟩) <| .read (.no ⟨12, false, _, 71, _, rfl, rfl, rfl, fun _ _ => bl_p.1, gd_no e21⟩) <| .read (.yes ⟨2, true, _, 61, _, rfl, rfl, rfl, fun _ _ => bl_p.1, gd_yes e18⟩ (PJ.eqv (R := bl) (pj_pick (t := any) (ht rfl) (fun _ => has_bl) (fun he => absurd (e21.symm.trans he) (by decide))) (oi e22))) <| .read (.plain rfl (PJ.eqv (R := bl) (pj_pick (t := any) (ht rfl) (fun _ => (ht rfl)) (fun he => absurd (e18.symm.trans he) (by decide))) (oi e19))) <| .nil) (j_to (Γ' := [(0, (sl u8).slot p_label), (1, (sl R_rolodexref14_Version).slot p_l), (5, i64.slot y3), (83, bl.slot y8)]) (H' := []) (.cons (.of_lk rfl) <| .cons (.of_lk rfl) <| .cons (.of_lk rfl) <| .cons (.of_lk rfl) <| .nil) (.nil) J)
                            · replace e22 := bf e21 e22
                              obtain ⟨x3, e23, e22⟩ := bind_some e22
                              obtain ⟨r1, e24, e22⟩ := bind_some e22
                              exact run_draw (n := 25) (by kernel_rfl) (by kernel_rfl) (by kernel_rfl) (by kernel_rfl) (.read (.plain rfl (pm (ht rfl))) <| .read (.plain rfl (pj_igtr (ht rfl) has_i64)) <| .read (.plain rfl (pm (ht rfl))) <| .read (.yes ⟨2, true, _, 61, _, rfl, rfl, rfl, fun _ _ => bl_p.1, gd_yes e18⟩ (pj_field_to (ht rfl) (Path.then (Path.snd i64 (prod i64 (prod R_api_Hash (prod R_api_Hash (sl u8))))) (Path.fst i64 (prod R_api_Hash (prod R_api_Hash (sl u8))))) (by kernel_rfl))) <| .read (.yes ⟨2, true, _, 61, _, rfl, rfl, rfl, fun _ _ => bl_p.1, gd_yes e18⟩ (pl (ht rfl) (by kernel_rfl))) <| .read (.yes ⟨2, true, _, 61, _, rfl, rfl, rfl, fun _ _ => bl_p.1, gd_yes e18⟩ (pm (ht rfl))) <| .read (.yes ⟨2, true, _, 61, _, rfl, rfl, rfl, fun _ _ => bl_p.1, gd_yes e18⟩ (pm (ht rfl))) <| .read (.yes ⟨2, true, _, 61, _, rfl, rfl, rfl, fun _ _ => bl_p.1, gd_yes e18⟩ (pj_isub (ht rfl) has_i64)) <| .read (.yes ⟨2, true, _, 61, _, rfl, rfl, rfl, fun _ _ => bl_p.1, gd_yes e18⟩ (pj_index_slx (ht rfl) (ht rfl) isInt_i64 e20 (by kernel_rfl))) <| .read (.yes ⟨2, true, _, 61, _, rfl, rfl, rfl, fun _ _ => bl_p.1, gd_yes e18⟩ (pj_field_to (ht rfl) (Path.then (Path.snd i64 (prod i64 (prod R_api_Hash (prod R_api_Hash (sl u8))))) (Path.fst i64 (prod R_api_Hash (prod R_api_Hash (sl u8))))) (by kernel_rfl))) <| .read (.yes ⟨2, true, _, 61, _, rfl, rfl, rfl, fun _ _ => bl_p.1, gd_yes e18⟩ (pl (ht rfl) (by kernel_rfl))) <| .read (.yes ⟨2, true, _, 61, _, rfl, rfl, rfl, fun _ _ => bl_p.1, gd_yes e18⟩ (pj_ileq (ht rfl) (ht rfl))) <| .read (.yes ⟨2, true, _, 61, _, rfl, rfl, rfl, fun _ _ => bl_p.1, gd_yes e18⟩ (pm (ht rfl))) <| .read (.yes ⟨12, false, _, 71, _, rfl, rfl, rfl, fun _ _ => bl_p.1, gd_yes e21⟩ (pj_field_to (ht rfl) (Path.then (Path.snd i64 (prod i64 (prod R_api_Hash (prod R_api_Hash (sl u8))))) (Path.then (Path.snd i64 (prod R_api_Hash (prod R_api_Hash (sl u8)))) (Path.then (Path.snd R_api_Hash (prod R_api_Hash (sl u8))) (Path.fst R_api_Hash (sl u8))))) (by kernel_rfl))) <| .read (.yes ⟨12, false, _, 71, _, rfl, rfl, rfl, fun _ _ => bl_p.1, gd_yes e21⟩ (pl (ht rfl) (by kernel_rfl))) <| .read (.yes ⟨12, false, _, 71, _, rfl, rfl, rfl, fun _ _ => bl_p.1, gd_yes e21⟩ (pm (ht rfl))) <| .read (.yes ⟨12, false, _, 71, _, rfl, rfl, rfl, fun _ _ => bl_p.1, gd_yes e21⟩ (pm (ht rfl))) <| .read (.yes ⟨12, false, _, 71, _, rfl, rfl, rfl, fun _ _ => bl_p.1, gd_yes e21⟩ (pm (ht rfl))) <| .read (.yes ⟨12, false, _, 71, _, rfl, rfl, rfl, fun _ _ => bl_p.1, gd_yes e21⟩ (pj_isub (ht rfl) has_i64)) <| .read (.yes ⟨12, false, _, 71, _, rfl, rfl, rfl, fun _ _ => bl_p.1, gd_yes e21⟩ (pj_index_slx (ht rfl) (ht rfl) isInt_i64 e23 (by kernel_rfl))) <| .read (.yes ⟨12, false, _, 71, _, rfl, rfl, rfl, fun _ _ => bl_p.1, gd_yes e21⟩ (pl (ht rfl) (by kernel_rfl))) <| .read (.yes ⟨12, false, _, 71, _, rfl, rfl, rfl, fun _ _ => bl_p.1, gd_yes e21⟩ (pj_call (hc (ht rfl) <| hc (ht rfl) <| hasL_nil) (by kernel_rfl) (c_rolodexref14_Commit e24))) <| .read (.yes ⟨12, false, _, 71, _, rfl, rfl, rfl, fun _ _ => bl_p.1, gd_yes e21⟩ (pj_neq (n := 2) (eq_vec (e := 5) (by kernel_rfl) (by kernel_rfl) (eq_un (by kernel_rfl))) (by decide) rfl (by kernel_rfl) (ht rfl) (ht rfl))) <| .read (.yes ⟨2, true, _, 61, _, rfl, rfl, rfl, fun _ _ => bl_p.1, gd_yes e18⟩ (PJ.eqv (R := bl) (pj_pick (t := any) (ht rfl) (fun he => absurd (e21.symm.trans he) (by decide)) (fun _ => (ht rfl))) (oi e22))) <| .read (.plain rfl (PJ.eqv (R := bl) (pj_pick (t := any) (ht rfl) (fun _ => (ht rfl)) (fun he => absurd (e18.symm.trans he) (by decide))) (oi e19))) <| .nil) (j_to (Γ' := [(0, (sl u8).slot p_label), (1, (sl R_rolodexref14_Version).slot p_l), (5, i64.slot y3), (83, bl.slot y8)]) (H' := []) (.cons (.of_lk rfl) <| .cons (.of_lk rfl) <| .cons (.of_lk rfl) <| .cons (.of_lk rfl) <| .nil) (.nil) J)
                          · replace e19 := bf e18 e19
                            exact run_draw (n := 25) (by kernel_rfl) (by kernel_rfl) (by kernel_rfl) (by kernel_rfl) (.read (.plain rfl (pm (ht rfl))) <| .read (.plain rfl (pj_igtr (ht rfl) has_i64)) <| .read (.plain rfl (pm (ht rfl))) <| .read (.no ⟨2, true, _, 61, _, rfl, rfl, rfl, fun _ _ => bl_p.1, gd_no e18⟩) <| .read (.no ⟨2, true, _, 61, _, rfl, rfl, rfl, fun _ _ => bl_p.1, gd_no e18⟩) <| .read (.no ⟨2, true, _, 61, _, rfl, rfl, rfl, fun _ _ => bl_p.1, gd_no e18⟩) <| .read (.no ⟨2, true, _, 61, _, rfl, rfl, rfl, fun _ _ => bl_p.1, gd_no e18⟩) <| .read (.no ⟨2, true, _, 61, _, rfl, rfl, rfl, fun _ _ => bl_p.1, gd_no e18⟩) <| .read (.no ⟨2, true, _, 61, _, rfl, rfl, rfl, fun _ _ => bl_p.1, gd_no e18⟩) <| .read (.no ⟨2, true, _, 61, _, rfl, rfl, rfl, fun _ _ => bl_p.1, gd_no e18⟩) <| .read (.no ⟨2, true, _, 61, _, rfl, rfl, rfl, fun _ _ => bl_p.1, gd_no e18⟩) <| .read (.no ⟨2, true, _, 61, _, rfl, rfl, rfl, fun _ _ => bl_p.1, gd_no e18⟩) <| .read (.no ⟨2, true, _, 61, _, rfl, rfl, rfl, fun _ _ => bl_p.1, gd_no e18⟩) <| .read (.undef ⟨12, false, 71, rfl, rfl, rfl⟩) <| .read (.undef ⟨12, false, 71, rfl, rfl, rfl⟩) <| .read (.undef ⟨12, false, 71, rfl, rfl, rfl⟩) <| .read (.undef ⟨12, false, 71, rfl, rfl, rfl⟩) <| .read (.undef ⟨12, false, 71, rfl, rfl, rfl⟩) <| .read (.undef ⟨12, false, 71, rfl, rfl, rfl⟩) <| .read (.undef ⟨12, false, 71, rfl, rfl, rfl⟩) <| .read (.undef ⟨12, false, 71, rfl, rfl, rfl⟩) <| .read (.undef ⟨12, false, 71, rfl, rfl, rfl⟩) <| .read (.undef ⟨12, false, 71, rfl, rfl, rfl⟩) <| .read (.no ⟨2, true, _, 61, _, rfl, rfl, rfl, fun _ _ => bl_p.1, gd_no e18⟩) <| .read (.plain rfl (PJ.eqv (R := bl) (pj_pick (t := any) (ht rfl) (fun he => absurd (e18.symm.trans he) (by decide)) (fun _ => has_bl)) (oi e19))) <| .nil) (j_to (Γ' := [(0, (sl u8).slot p_label), (1, (sl R_rolodexref14_Version).slot p_l), (5, i64.slot y3), (83, bl.slot y8)]) (H' := []) (.cons (.of_lk rfl) <| .cons (.of_lk rfl) <| .cons (.of_lk rfl) <| .cons (.of_lk rfl) <| .nil) (.nil) J)
                    · rcases bool_tf (decide (y3 = (0 : Int))) with e15 | e15
                      · replace e16 := bt e15 e16
                        refine jy (pj_field_to (ht rfl) (Path.then (Path.snd i64 (prod i64 (prod R_api_Hash (prod R_api_Hash (sl u8))))) (Path.then (Path.snd i64 (prod R_api_Hash (prod R_api_Hash (sl u8)))) (Path.then (Path.snd R_api_Hash (prod R_api_Hash (sl u8))) (Path.fst R_api_Hash (sl u8))))) (by kernel_rfl)) rfl rfl rfl rfl (bl_isx e15) rfl rfl ?_
                        refine jy (pl (ht rfl) (by kernel_rfl)) rfl rfl rfl rfl (bl_isx e15) rfl rfl ?_
                        refine jy (pj_build (R := R_api_Hash) (zero_vec 32 zero_un) (by kernel_rfl) (by kernel_rfl) rfl .nil) rfl rfl rfl rfl (bl_isx e15) rfl rfl ?_
                        refine jy (pj_neq (n := 2) (eq_vec (e := 5) (by kernel_rfl) (by kernel_rfl) (eq_un (by kernel_rfl))) (by decide) rfl (by kernel_rfl) (ht rfl) (ht rfl)) rfl rfl rfl rfl (bl_isx e15) rfl rfl ?_
                        refine jp (PJ.eqv (R := bl) (pj_pick (t := any) (ht rfl) (fun _ => (ht rfl)) (fun he => absurd (e15.symm.trans he) (by decide))) (oi e16)) rfl rfl rfl ?_
                        exact j_to (.cons (.of_lk rfl) <| .cons (.of_lk rfl) <| .cons (.of_lk rfl) <| .cons (.of_lk rfl) <| .cons (.of_lk rfl) <| .nil) (.nil) (J ())
                      · replace e16 := bf e15 e16
                        refine j_guard_no2 (j := 2) (want := true) rfl rfl rfl rfl (bl_isx e15) rfl rfl rfl ?_
                        refine j_guard_no2 (j := 2) (want := true) rfl rfl rfl rfl (bl_isx e15) rfl rfl rfl ?_
                        refine j_guard_no2 (j := 2) (want := true) rfl rfl rfl rfl (bl_isx e15) rfl rfl rfl ?_
                        refine j_guard_no2 (j := 2) (want := true) rfl rfl rfl rfl (bl_isx e15) rfl rfl rfl ?_
                        refine jp (PJ.eqv (R := bl) (pj_pick (t := any) (ht rfl) (fun he => absurd (e15.symm.trans he) (by decide)) (fun _ => has_bl)) (oi e16)) rfl rfl rfl ?_
                        exact j_to (.cons (.of_lk rfl) <| .cons (.of_lk rfl) <| .cons (.of_lk rfl) <| .cons (.of_lk rfl) <| .cons (.of_lk rfl) <| .nil) (.nil) (J ())
                · rcases bool_tf (y5) with e12 | e12
                  · replace e13 := bt e12 e13
                    refine j_guard_no2 (j := 15) (want := false) rfl rfl rfl rfl (bl_isx e12) rfl rfl rfl ?_
                    refine j_guard_no2 (j := 15) (want := false) rfl rfl rfl rfl (bl_isx e12) rfl rfl rfl ?_
                    refine j_guard_no2 (j := 15) (want := false) rfl rfl rfl rfl (bl_isx e12) rfl rfl rfl ?_
                    refine j_guard_no2 (j := 15) (want := false) rfl rfl rfl rfl (bl_isx e12) rfl rfl rfl ?_
                    refine jp (PJ.eqv (R := bl) (pj_pick (t := any) (ht rfl) (fun _ => has_bl) (fun he => absurd (e12.symm.trans he) (by decide))) (oi e13)) rfl rfl rfl ?_
                    exact j_to (.cons (.of_lk rfl) <| .cons (.of_lk rfl) <| .cons (.of_lk rfl) <| .cons (.of_lk rfl) <| .cons (.of_lk rfl) <| .nil) (.nil) (J ())
                  · replace e13 := bf e12 e13
                    refine jy (pj_field_to (ht rfl) (Path.then (Path.snd i64 (prod i64 (prod R_api_Hash (prod R_api_Hash (sl u8))))) (Path.then (Path.snd i64 (prod R_api_Hash (prod R_api_Hash (sl u8)))) (Path.then (Path.snd R_api_Hash (prod R_api_Hash (sl u8))) (Path.snd R_api_Hash (sl u8))))) (by kernel_rfl)) rfl rfl rfl rfl (bl_isx e12) rfl rfl ?_
                    refine jy (pl (ht rfl) (by kernel_rfl)) rfl rfl rfl rfl (bl_isx e12) rfl rfl ?_
                    refine jy (pj_len_sl (sz := 1) (ht rfl) (by kernel_rfl)) rfl rfl rfl rfl (bl_isx e12) rfl rfl ?_
                    refine jy (pj_igtr (ht rfl) has_i64) rfl rfl rfl rfl (bl_isx e12) rfl rfl ?_
                    refine jp (PJ.eqv (R := bl) (pj_pick (t := any) (ht rfl) (fun he => absurd (e12.symm.trans he) (by decide)) (fun _ => (ht rfl))) (oi e13)) rfl rfl rfl ?_
                    exact j_to (.cons (.of_lk rfl) <| .cons (.of_lk rfl) <| .cons (.of_lk rfl) <| .cons (.of_lk rfl) <| .cons (.of_lk rfl) <| .nil) (.nil) (J ())
              · rcases bool_tf (y4) with e10 | e10
                · replace e11 := bt e10 e11
                  refine j_guard_no2 (j := 10) (want := false) rfl rfl rfl rfl (bl_isx e10) rfl rfl rfl ?_
                  refine j_guard_no2 (j := 10) (want := false) rfl rfl rfl rfl (bl_isx e10) rfl rfl rfl ?_
                  refine j_guard_no2 (j := 10) (want := false) rfl rfl rfl rfl (bl_isx e10) rfl rfl rfl ?_
                  refine jp (PJ.eqv (R := bl) (pj_pick (t := any) (ht rfl) (fun _ => has_bl) (fun he => absurd (e10.symm.trans he) (by decide))) (oi e11)) rfl rfl rfl ?_
                  exact j_to (.cons (.of_lk rfl) <| .cons (.of_lk rfl) <| .cons (.of_lk rfl) <| .cons (.of_lk rfl) <| .cons (.of_lk rfl) <| .nil) (.nil) (J ())
                · replace e11 := bf e10 e11
                  refine jy (pj_field_to (ht rfl) (Path.then (Path.snd i64 (prod i64 (prod R_api_Hash (prod R_api_Hash (sl u8))))) (Path.fst i64 (prod R_api_Hash (prod R_api_Hash (sl u8))))) (by kernel_rfl)) rfl rfl rfl rfl (bl_isx e10) rfl rfl ?_
                  refine jy (pl (ht rfl) (by kernel_rfl)) rfl rfl rfl rfl (bl_isx e10) rfl rfl ?_
                  refine jy (pj_igtr (ht rfl) has_i64) rfl rfl rfl rfl (bl_isx e10) rfl rfl ?_
                  refine jp (PJ.eqv (R := bl) (pj_pick (t := any) (ht rfl) (fun he => absurd (e10.symm.trans he) (by decide)) (fun _ => (ht rfl))) (oi e11)) rfl rfl rfl ?_
                  exact j_to (.cons (.of_lk rfl) <| .cons (.of_lk rfl) <| .cons (.of_lk rfl) <| .cons (.of_lk rfl) <| .cons (.of_lk rfl) <| .nil) (.nil) (J ())
            · rcases bool_tf (!decide (x1.1 = (w64 (y3 + (1 : Int))))) with e8 | e8
              · replace e9 := bt e8 e9
                refine j_guard_no2 (j := 5) (want := false) rfl rfl rfl rfl (bl_isx e8) rfl rfl rfl ?_
                refine j_guard_no2 (j := 5) (want := false) rfl rfl rfl rfl (bl_isx e8) rfl rfl rfl ?_
                refine j_guard_no2 (j := 5) (want := false) rfl rfl rfl rfl (bl_isx e8) rfl rfl rfl ?_
                refine jp (PJ.eqv (R := bl) (pj_pick (t := any) (ht rfl) (fun _ => has_bl) (fun he => absurd (e8.symm.trans he) (by decide))) (oi e9)) rfl rfl rfl ?_
                exact j_to (.cons (.of_lk rfl) <| .cons (.of_lk rfl) <| .cons (.of_lk rfl) <| .cons (.of_lk rfl) <| .cons (.of_lk rfl) <| .nil) (.nil) (J ())
              · replace e9 := bf e8 e9
                refine jy (pj_field_to (ht rfl) (Path.then (Path.snd i64 (prod i64 (prod R_api_Hash (prod R_api_Hash (sl u8))))) (Path.fst i64 (prod R_api_Hash (prod R_api_Hash (sl u8))))) (by kernel_rfl)) rfl rfl rfl rfl (bl_isx e8) rfl rfl ?_
                refine jy (pl (ht rfl) (by kernel_rfl)) rfl rfl rfl rfl (bl_isx e8) rfl rfl ?_
                refine jy (pj_ilss (ht rfl) has_i64) rfl rfl rfl rfl (bl_isx e8) rfl rfl ?_
                refine jp (PJ.eqv (R := bl) (pj_pick (t := any) (ht rfl) (fun he => absurd (e8.symm.trans he) (by decide)) (fun _ => (ht rfl))) (oi e9)) rfl rfl rfl ?_
                exact j_to (.cons (.of_lk rfl) <| .cons (.of_lk rfl) <| .cons (.of_lk rfl) <| .cons (.of_lk rfl) <| .cons (.of_lk rfl) <| .nil) (.nil) (J ())
          · replace h := bf e6 h
            obtain rfl := oi h
            exact run_brk () (.cons (.of_lk rfl) <| .cons (.of_lk rfl) <| .cons (.of_lk rfl) <| .nil) (.nil)
        · rintro _ y10 ho
          subst ho
          show Run _ _ _ [(0, (sl u8).slot p_label), (1, (sl R_rolodexref14_Version).slot p_l), (5, i64.slot y10)] []
          refine run_to (Γ' := []) (H' := []) (.nil) (.nil) ?_
          refine rs ?_
          refine rt ?_
          refine jp (pa has_bl) rfl rfl rfl ?_
          refine j_end ?_
          obtain rfl := oi h
          exact run_ret fun a w hst => q_ret1 hst rfl (.tmp rfl) () (fun _ _ h => h) (.nil)
        · intro x a w ho hR
          subst ho
          exact hq1 a w (hR (oi h))
    · rcases bool_tf (y1) with e3 | e3
      · replace e4 := bt e3 e4
        refine j_guard_no2 (j := 8) (want := false) rfl rfl rfl rfl (bl_isx e3) rfl rfl rfl ?_
        refine j_guard_no2 (j := 8) (want := false) rfl rfl rfl rfl (bl_isx e3) rfl rfl rfl ?_
        refine j_guard_no2 (j := 8) (want := false) rfl rfl rfl rfl (bl_isx e3) rfl rfl rfl ?_
        refine jp (PJ.eqv (R := bl) (pj_pick (t := any) (ht rfl) (fun _ => has_bl) (fun he => absurd (e3.symm.trans he) (by decide))) (oi e4)) rfl rfl rfl ?_
        exact j_to (.cons (.of_lk rfl) <| .cons (.of_lk rfl) <| .cons (.of_lk rfl) <| .nil) (.nil) (J ())
      · replace e4 := bf e3 e4
        refine jy (pm (ht rfl)) rfl rfl rfl rfl (bl_isx e3) rfl rfl ?_
        refine jy (pj_len_sl (sz := 67) (ht rfl) (by kernel_rfl)) rfl rfl rfl rfl (bl_isx e3) rfl rfl ?_
        refine jy (pj_ieql (ht rfl) has_i64) rfl rfl rfl rfl (bl_isx e3) rfl rfl ?_
        refine jp (PJ.eqv (R := bl) (pj_pick (t := any) (ht rfl) (fun he => absurd (e3.symm.trans he) (by decide)) (fun _ => (ht rfl))) (oi e4)) rfl rfl rfl ?_
        exact j_to (.cons (.of_lk rfl) <| .cons (.of_lk rfl) <| .cons (.of_lk rfl) <| .nil) (.nil) (J ())
  · rcases bool_tf (decide ((p_label.length : Int) = (0 : Int))) with e1 | e1
    · replace e2 := bt e1 e2
      refine j_guard_no2 (j := 3) (want := false) rfl rfl rfl rfl (bl_isx e1) rfl rfl rfl ?_
      refine j_guard_no2 (j := 3) (want := false) rfl rfl rfl rfl (bl_isx e1) rfl rfl rfl ?_
      refine j_guard_no2 (j := 3) (want := false) rfl rfl rfl rfl (bl_isx e1) rfl rfl rfl ?_
      refine jp (PJ.eqv (R := bl) (pj_pick (t := any) (ht rfl) (fun _ => has_bl) (fun he => absurd (e1.symm.trans he) (by decide))) (oi e2)) rfl rfl rfl ?_
      exact j_to (.cons (.of_lk rfl) <| .cons (.of_lk rfl) <| .cons (.of_lk rfl) <| .nil) (.nil) (J ())
    · replace e2 := bf e1 e2
      refine jy (pm (ht rfl)) rfl rfl rfl rfl (bl_isx e1) rfl rfl ?_
      refine jy (pj_len_sl (sz := 1) (ht rfl) (by kernel_rfl)) rfl rfl rfl rfl (bl_isx e1) rfl rfl ?_
      refine jy (pj_igtr (ht rfl) has_i64) rfl rfl rfl rfl (bl_isx e1) rfl rfl ?_
      refine jp (PJ.eqv (R := bl) (pj_pick (t := any) (ht rfl) (fun he => absurd (e1.symm.trans he) (by decide)) (fun _ => (ht rfl))) (oi e2)) rfl rfl rfl ?_
      exact j_to (.cons (.of_lk rfl) <| .cons (.of_lk rfl) <| .cons (.of_lk rfl) <| .nil) (.nil) (J ())
set_option maxRecDepth 100000 in
set_option maxHeartbeats 4000000 in
theorem c_slices_Clone_byte_byte {G : GP} {p_s : List (BitVec 8)} {r : (List (BitVec 8))} (h : slices_Clone_byte_byte p_s = some r) : Ctr Tryd.prog G 48 [(sl u8).slot p_s] [] (fun (u0 : Value) => ov u0) (fun (u0 : Value) => [own 5 u8 u0 r]) := by
  unfold slices_Clone_byte_byte at h
  refine ctr_of_run Tryd.func48 rfl 8 rfl rfl fun m0 w0 b0 => ?_
  show Run _ _ _ [(0, (sl u8).slot p_s)] _
  refine rs ?_
  refine rt ?_
  refine j_assign_nil (T := 5) u8 rfl fun v1 => ?_
  refine j_end ?_
  refine rs ?_
  refine rs ?_
  refine rt ?_
  refine jp (pm (ht rfl)) rfl rfl rfl ?_
  refine jp (pj_isnil (E := 5) (by kernel_rfl) (ht rfl)) rfl rfl rfl ?_
  refine j_end ?_
  refine run_cond_nil (ht rfl) (fun e0 => ?_) ?_
  · subst e0
    obtain ⟨e1, h⟩ := grd_some h
    obtain rfl := oi h
    refine rs ?_
    refine rt ?_
    refine j_assign_nil (T := 5) u8 rfl fun v2 => ?_
    refine j_end ?_
    exact run_ret fun a w hst => q_ret1 hst rfl (.tmp rfl) v2 (fun _ _ h => h) (.cons .here <| .nil)
  refine run_skip ?_
  refine rs ?_
  refine rt ?_
  refine j_buildSlice (T := 5) (R := u8) .nil rfl (by kernel_rfl) (by kernel_rfl) rfl fun v2 => ?_
  refine jp (pm (ht rfl)) rfl rfl rfl ?_
  obtain ⟨e1, h⟩ := grd_some h
  refine j_append (T := 5) (E := 5) (ht rfl) .here (src_data (ht rfl)) (by kernel_rfl) (by kernel_rfl) e1 rfl fun v3 => ?_
  refine jp (pa (ht rfl)) rfl rfl rfl ?_
  refine j_end ?_
  obtain rfl := oi h
  exact run_ret fun a w hst => q_ret1 hst rfl (.tmp rfl) v3 (fun _ _ h => h) (.cons .here <| .nil)
set_option maxRecDepth 100000 in
set_option maxHeartbeats 4000000 in
theorem c_monitor_New {G : GP} {p_label : List (BitVec 8)} {r : ((List (BitVec 8)) × Int × (List T_chain_Version))} (h : monitor_New p_label = some r) : Ctr Tryd.prog G 38 [(sl u8).slot p_label] [] (fun (u0 : Nat) => val (.pointer (some ⟨u0, 0, none⟩))) (fun (u0 : Nat) => [box u0 97 (prod (sl u8) (prod i64 (sl R_chain_Version))) (r.1, r.2.1, r.2.2)]) := by
  unfold monitor_New at h
  refine ctr_of_run Tryd.func38 rfl 7 rfl rfl fun m0 w0 b0 => ?_
  show Run _ _ _ [(0, (sl u8).slot p_label)] _
  refine rs ?_
  refine rt ?_
  refine jp (pa (has_nilp (R := R_monitor_Monitor))) rfl rfl rfl ?_
  refine j_end ?_
  refine rs ?_
  refine rt ?_
  refine jp (pm (ht rfl)) rfl rfl rfl ?_
  obtain ⟨r1, e1, h⟩ := bind_some h
  refine jp (pj_call (hc (ht rfl) <| hasL_nil) (by kernel_rfl) (Ctr.froze (c_slices_Clone_byte_byte e1))) rfl rfl rfl ?_
  obtain ⟨x1, e2, h⟩ := bind_some h
  refine jp (PJ.eqv (pj_build (R := R_monitor_Monitor) (zero_prod zero_sl (zero_prod zero_i64 zero_sl)) (by kernel_rfl) (by kernel_rfl) rfl (.cons (ht rfl) (Path.fst (sl u8) (prod i64 (sl R_chain_Version))) (by kernel_rfl) .nil)) (oi e2)) rfl rfl rfl ?_
  refine j_box (ht rfl) rfl fun b1 => ?_
  refine jp (pa (ht rfl)) rfl rfl rfl ?_
  refine j_end ?_
  obtain rfl := oi h
  exact run_ret fun a w hst => q_ret1 hst rfl (.tmp rfl) b1 (fun _ _ h => h) (.cons .here <| .nil)
set_option maxRecDepth 100000 in
set_option maxHeartbeats 4000000 in
theorem c_slices_Clone_chain_Version_chain_Version {G : GP} {p_s : List T_chain_Version} {r : (List T_chain_Version)} (h : slices_Clone_chain_Version_chain_Version p_s = some r) : Ctr Tryd.prog G 49 [(sl R_chain_Version).slot p_s] [] (fun (u0 : Value) => ov u0) (fun (u0 : Value) => [own 45 R_chain_Version u0 r]) := by
  unfold slices_Clone_chain_Version_chain_Version at h
  refine ctr_of_run Tryd.func49 rfl 8 rfl rfl fun m0 w0 b0 => ?_
  show Run _ _ _ [(0, (sl R_chain_Version).slot p_s)] _
  refine rs ?_
  refine rt ?_
  refine j_assign_nil (T := 45) R_chain_Version rfl fun v1 => ?_
  refine j_end ?_
  refine rs ?_
  refine rs ?_
  refine rt ?_
  refine jp (pm (ht rfl)) rfl rfl rfl ?_
  refine jp (pj_isnil (E := 45) (by kernel_rfl) (ht rfl)) rfl rfl rfl ?_
  refine j_end ?_
  refine run_cond_nil (ht rfl) (fun e0 => ?_) ?_
  · subst e0
    obtain ⟨e1, h⟩ := grd_some h
    obtain rfl := oi h
    refine rs ?_
    refine rt ?_
    refine j_assign_nil (T := 45) R_chain_Version rfl fun v2 => ?_
    refine j_end ?_
    exact run_ret fun a w hst => q_ret1 hst rfl (.tmp rfl) v2 (fun _ _ h => h) (.cons .here <| .nil)
  refine run_skip ?_
  refine rs ?_
  refine rt ?_
  refine j_buildSlice (T := 45) (R := R_chain_Version) .nil rfl (by kernel_rfl) (by kernel_rfl) rfl fun v2 => ?_
  refine jp (pm (ht rfl)) rfl rfl rfl ?_
  obtain ⟨e1, h⟩ := grd_some h
  refine j_append (T := 45) (E := 45) (ht rfl) .here (src_data (ht rfl)) (by kernel_rfl) (by kernel_rfl) e1 rfl fun v3 => ?_
  refine jp (pa (ht rfl)) rfl rfl rfl ?_
  refine j_end ?_
  obtain rfl := oi h
  exact run_ret fun a w hst => q_ret1 hst rfl (.tmp rfl) v3 (fun _ _ h => h) (.cons .here <| .nil)
set_option maxRecDepth 100000 in
set_option maxHeartbeats 4000000 in
theorem c_chain_Upto {G : GP} {p_chain : List T_chain_Version} {p_epoch : Int} {r : (List T_chain_Version)} (h : chain_Upto p_chain p_epoch = some r) : Ctr Tryd.prog G 35 [(sl R_chain_Version).slot p_chain, i64.slot p_epoch] [] (fun (u0 : Value) => ov u0) (fun (u0 : Value) => [own 45 R_chain_Version u0 r]) := by
  unfold chain_Upto at h
  refine ctr_of_run Tryd.func35 rfl 25 rfl rfl fun m0 w0 b0 => ?_
  show Run _ _ _ [(0, (sl R_chain_Version).slot p_chain), (1, i64.slot p_epoch)] _
  refine rs ?_
  refine rt ?_
  refine j_assign_nil (T := 45) R_chain_Version rfl fun v1 => ?_
  refine j_end ?_
  refine rs ?_
  refine rt ?_
  refine jp (pa has_i64) rfl rfl rfl ?_
  refine j_end ?_
  refine rs ?_
  obtain ⟨y3, e5, h⟩ := bind_some h
  refine run_loopS (Γi := fun (i : Unit) (s : Int) => [(0, (sl R_chain_Version).slot p_chain), (1, i64.slot p_epoch), (5, i64.slot s)]) (Hi := fun (i : Unit) (s : Int) => []) e5 () (fun a w hst => (hst.sub (.cons (.of_lk rfl) <| .cons (.of_lk rfl) <| .cons (.of_lk rfl) <| .nil)).keep (.nil)) ?_ ?_
  · clear h e5
    rintro _ y1 lr h
    change chain_Upto_L1 p_chain p_epoch y1 = some _ at h
    show Run _ _ _ [(0, (sl R_chain_Version).slot p_chain), (1, i64.slot p_epoch), (5, i64.slot y1)] []
    unfold chain_Upto_L1 at h
    refine rs ?_
    refine rs ?_
    refine rt ?_
    refine jp (pm (ht rfl)) rfl rfl rfl ?_
    refine jp (pm (ht rfl)) rfl rfl rfl ?_
    refine jp (pj_len_sl (sz := 67) (ht rfl) (by kernel_rfl)) rfl rfl rfl ?_
    refine jp (pj_ilss (ht rfl) (ht rfl)) rfl rfl rfl ?_
    refine jp (pm (ht rfl)) rfl rfl rfl ?_
    obtain ⟨y2, e2, h⟩ := bind_some h
    refine j_joinx (ι := Unit) (Γ' := fun _ => [(0, (sl R_chain_Version).slot p_chain), (1, i64.slot p_epoch), (5, i64.slot y1), (18, bl.slot y2)]) (H' := fun _ => []) 8 ?_ fun J => ?_
    · intro _
      clear e2
      show OpsJ _ _ _ [(0, (sl R_chain_Version).slot p_chain), (1, i64.slot p_epoch), (5, i64.slot y1), (18, bl.slot y2)] [] _
      refine j_end ?_
      refine run_cond (ht rfl) (fun e4 => ?_) (fun e4 => ?_)
      · replace h := bt e4 h
        refine run_skip ?_
        refine run_block ?_
        refine rt ?_
        refine jp (pm (ht rfl)) rfl rfl rfl ?_
        refine jp (pj_iadd (ht rfl) has_i64) rfl rfl rfl ?_
        refine jp (pa (ht rfl)) rfl rfl rfl ?_
        refine j_end ?_
        refine run_endblock ?_
        obtain rfl := oi h
        exact run_next () (.cons (.of_lk rfl) <| .cons (.of_lk rfl) <| .cons (.of_lk rfl) <| .nil) (.nil)
      · replace h := bf e4 h
        obtain rfl := oi h
        exact run_brk () (.cons (.of_lk rfl) <| .cons (.of_lk rfl) <| .cons (.of_lk rfl) <| .nil) (.nil)
    · rcases bool_tf (decide (y1 < (p_chain.length : Int))) with e1 | e1
      · replace e2 := bt e1 e2
        refine jy (pm (ht rfl)) rfl rfl rfl rfl (bl_isx e1) rfl rfl ?_
        refine jy (pm (ht rfl)) rfl rfl rfl rfl (bl_isx e1) rfl rfl ?_
        obtain ⟨x1, e3, e2⟩ := bind_some e2
        refine jy (pj_index_slx (ht rfl) (ht rfl) isInt_i64 e3 (by kernel_rfl)) rfl rfl rfl rfl (bl_isx e1) rfl rfl ?_
        refine jy (pj_field_to (ht rfl) (Path.then (Path.snd i64 (prod i64 (prod R_api_Hash (prod R_api_Hash (sl u8))))) (Path.fst i64 (prod R_api_Hash (prod R_api_Hash (sl u8))))) (by kernel_rfl)) rfl rfl rfl rfl (bl_isx e1) rfl rfl ?_
        refine jy (pl (ht rfl) (by kernel_rfl)) rfl rfl rfl rfl (bl_isx e1) rfl rfl ?_
        refine jy (pm (ht rfl)) rfl rfl rfl rfl (bl_isx e1) rfl rfl ?_
        refine jy (pj_ileq (ht rfl) (ht rfl)) rfl rfl rfl rfl (bl_isx e1) rfl rfl ?_
        refine jp (PJ.eqv (R := bl) (pj_pick (t := any) (ht rfl) (fun _ => (ht rfl)) (fun he => absurd (e1.symm.trans he) (by decide))) (oi e2)) rfl rfl rfl ?_
        exact j_to (.cons (.of_lk rfl) <| .cons (.of_lk rfl) <| .cons (.of_lk rfl) <| .cons (.of_lk rfl) <| .nil) (.nil) (J ())
      · replace e2 := bf e1 e2
        refine j_guard_no2 (j := 4) (want := true) rfl rfl rfl rfl (bl_isx e1) rfl rfl rfl ?_
        refine j_guard_no2 (j := 4) (want := true) rfl rfl rfl rfl (bl_isx e1) rfl rfl rfl ?_
        refine j_guard_no2 (j := 4) (want := true) rfl rfl rfl rfl (bl_isx e1) rfl rfl rfl ?_
        refine j_guard_no2 (j := 4) (want := true) rfl rfl rfl rfl (bl_isx e1) rfl rfl rfl ?_
        refine j_guard_no2 (j := 4) (want := true) rfl rfl rfl rfl (bl_isx e1) rfl rfl rfl ?_
        refine j_guard_no2 (j := 4) (want := true) rfl rfl rfl rfl (bl_isx e1) rfl rfl rfl ?_
        refine j_guard_no2 (j := 4) (want := true) rfl rfl rfl rfl (bl_isx e1) rfl rfl rfl ?_
        refine jp (PJ.eqv (R := bl) (pj_pick (t := any) (ht rfl) (fun he => absurd (e1.symm.trans he) (by decide)) (fun _ => has_bl)) (oi e2)) rfl rfl rfl ?_
        exact j_to (.cons (.of_lk rfl) <| .cons (.of_lk rfl) <| .cons (.of_lk rfl) <| .cons (.of_lk rfl) <| .nil) (.nil) (J ())
  · rintro _
    show Run _ _ _ [(0, (sl R_chain_Version).slot p_chain), (1, i64.slot p_epoch), (5, i64.slot y3)] []
    refine run_to (Γ' := [(0, (sl R_chain_Version).slot p_chain), (5, i64.slot y3)]) (H' := []) (.cons (.of_lk rfl) <| .cons (.of_lk rfl) <| .nil) (.nil) ?_
    refine rs ?_
    refine rt ?_
    refine jp (pm (ht rfl)) rfl rfl rfl ?_
    refine jp (pm (ht rfl)) rfl rfl rfl ?_
    obtain ⟨x2, e6, h⟩ := bind_some h
    refine jp (pj_slice_slx (ht rfl) .no (.yes (ht rfl) isInt_i64) e6 (by kernel_rfl)) rfl rfl rfl ?_
    obtain ⟨r1, e7, h⟩ := bind_some h
    refine j_call (hc (ht rfl) <| hasL_nil) (by kernel_rfl) (c_slices_Clone_chain_Version_chain_Version e7) .nil rfl fun v2 => ?_
    refine jp (pa (ht rfl)) rfl rfl rfl ?_
    refine j_end ?_
    obtain rfl := oi h
    exact run_ret fun a w hst => q_ret1 hst rfl (.tmp rfl) v2 (fun _ _ h => h) (.cons .here <| .nil)
set_option maxRecDepth 100000 in
set_option maxHeartbeats 4000000 in
theorem c_bytes_Equal {G : GP} {p_a : List (BitVec 8)} {p_b : List (BitVec 8)} {r : Bool} (h : bytes_Equal p_a p_b = some r) : Ctr Tryd.prog G 59 [(sl u8).slot p_a, (sl u8).slot p_b] [] (fun (_ : Unit) => bl.slot r) (fun (_ : Unit) => []) := by
  unfold bytes_Equal at h
  refine ctr_of_run Tryd.func59 rfl 10 rfl rfl fun m0 w0 b0 => ?_
  show Run _ _ _ [(0, (sl u8).slot p_a), (1, (sl u8).slot p_b)] _
  refine rs ?_
  refine rt ?_
  refine jp (pa has_bl) rfl rfl rfl ?_
  refine j_end ?_
  refine rs ?_
  refine rt ?_
  refine jp (pm (ht rfl)) rfl rfl rfl ?_
  refine jp (pj_str (e := 5) (by kernel_rfl) (by kernel_rfl) (by kernel_rfl) (ht rfl)) rfl rfl rfl ?_
  refine jp (pm (ht rfl)) rfl rfl rfl ?_
  refine jp (pj_str (e := 5) (by kernel_rfl) (by kernel_rfl) (by kernel_rfl) (ht rfl)) rfl rfl rfl ?_
  refine jp (pj_streql (by kernel_rfl) (ht rfl) (ht rfl)) rfl rfl rfl ?_
  refine jp (pa (ht rfl)) rfl rfl rfl ?_
  refine j_end ?_
  obtain rfl := oi h
  exact run_ret fun a w hst => q_ret1 hst rfl (.tmp rfl) () (fun _ _ h => h) (.nil)
set_option maxRecDepth 100000 in
set_option maxHeartbeats 4000000 in
theorem c_chain_four {G : GP} {p_n : Int} {r : (List (BitVec 8))} (h : chain_four p_n = some r) : Ctr Tryd.prog G 53 [i64.slot p_n] [] (fun (u0 : Value) => ov u0) (fun (u0 : Value) => [own 5 u8 u0 r]) := by
  unfold chain_four at h
  refine ctr_of_run Tryd.func53 rfl 15 rfl rfl fun m0 w0 b0 => ?_
  show Run _ _ _ [(0, i64.slot p_n)] _
  refine rs ?_
  refine rt ?_
  refine j_assign_nil (T := 5) u8 rfl fun v1 => ?_
  refine j_end ?_
  refine rs ?_
  refine rt ?_
  refine jp (pm (ht rfl)) rfl rfl rfl ?_
  refine jp (pj_ishr (ht rfl) (has_un (x := 24#64) rfl) isInt_un (Int.natCast_nonneg _)) rfl rfl rfl ?_
  refine jp (pj_conv_un (k := .u8) (b := 8) rfl rfl (by kernel_rfl) (ht rfl) isInt_i64) rfl rfl rfl ?_
  refine jp (pm (ht rfl)) rfl rfl rfl ?_
  refine jp (pj_ishr (ht rfl) (has_un (x := 16#64) rfl) isInt_un (Int.natCast_nonneg _)) rfl rfl rfl ?_
  refine jp (pj_conv_un (k := .u8) (b := 8) rfl rfl (by kernel_rfl) (ht rfl) isInt_i64) rfl rfl rfl ?_
  refine jp (pm (ht rfl)) rfl rfl rfl ?_
  refine jp (pj_ishr (ht rfl) (has_un (x := 8#64) rfl) isInt_un (Int.natCast_nonneg _)) rfl rfl rfl ?_
  refine jp (pj_conv_un (k := .u8) (b := 8) rfl rfl (by kernel_rfl) (ht rfl) isInt_i64) rfl rfl rfl ?_
  refine jp (pm (ht rfl)) rfl rfl rfl ?_
  refine jp (pj_conv_un (k := .u8) (b := 8) rfl rfl (by kernel_rfl) (ht rfl) isInt_i64) rfl rfl rfl ?_
  refine j_buildSlice (T := 5) (R := u8) (.cons (ht rfl) (.cons (ht rfl) (.cons (ht rfl) (.cons (ht rfl) .nil)))) rfl (by kernel_rfl) (by kernel_rfl) rfl fun v2 => ?_
  refine jp (pa (ht rfl)) rfl rfl rfl ?_
  refine j_end ?_
  obtain rfl := oi h
  exact run_ret fun a w hst => q_ret1 hst rfl (.tmp rfl) v2 (fun _ _ h => h) (.cons .here <| .nil)
set_option maxRecDepth 100000 in
set_option maxHeartbeats 4000000 in
theorem c_hash_Text {G : GP} {p_tag : BitVec 8} {p_parts : List (List (BitVec 8))} {r : (List (BitVec 8))} (h : hash_Text p_tag p_parts = some r) : Ctr Tryd.prog G 57 [u8.slot p_tag, (sl (sl u8)).slot p_parts] [] (fun (u0 : Value) => ov u0) (fun (u0 : Value) => [own 5 u8 u0 r]) := by
  unfold hash_Text at h
  refine ctr_of_run Tryd.func57 rfl 58 rfl rfl fun m0 w0 b0 => ?_
  show Run _ _ _ [(0, u8.slot p_tag), (1, (sl (sl u8)).slot p_parts)] _
  refine rs ?_
  refine rt ?_
  refine j_assign_nil (T := 5) u8 rfl fun v1 => ?_
  refine j_end ?_
  refine rs ?_
  refine rt ?_
  refine jp (pa has_i64) rfl rfl rfl ?_
  refine j_end ?_
  refine rs ?_
  refine rs ?_
  refine rt ?_
  refine jp (pm (ht rfl)) rfl rfl rfl ?_
  refine jp (pj_len_sl (sz := 1) (ht rfl) (by kernel_rfl)) rfl rfl rfl ?_
  refine jp (pm has_i64) rfl rfl rfl ?_
  refine j_end ?_
  obtain ⟨⟨y3, y4⟩, e4, h⟩ := bind_some h
  refine run_loopS (Γi := fun (i : Unit) (s : Int × Int) => [(0, u8.slot p_tag), (1, (sl (sl u8)).slot p_parts), (5, i64.slot s.1), (12, (sl (sl u8)).slot p_parts), (13, i64.slot (p_parts.length : Int)), (14, i64.slot s.2)]) (Hi := fun (i : Unit) (s : Int × Int) => []) e4 () (fun a w hst => (hst.sub (.cons (.of_lk rfl) <| .cons (.of_lk rfl) <| .cons (.of_lk rfl) <| .cons (.of_lk rfl) <| .cons (.of_lk rfl) <| .cons (.of_lk rfl) <| .nil)).keep (.nil)) ?_ ?_
  · clear h e4
    rintro _ ⟨y1, y2⟩ lr h
    change hash_Text_L1 p_parts y1 y2 = some _ at h
    show Run _ _ _ [(0, u8.slot p_tag), (1, (sl (sl u8)).slot p_parts), (5, i64.slot y1), (12, (sl (sl u8)).slot p_parts), (13, i64.slot (p_parts.length : Int)), (14, i64.slot y2)] []
    unfold hash_Text_L1 at h
    refine rs ?_
    refine rt ?_
    refine jp (pj_ilss (ht rfl) (ht rfl)) rfl rfl rfl ?_
    refine j_end ?_
    refine rs ?_
    refine run_cond (ht rfl) (fun e1 => ?_) (fun e1 => ?_)
    · replace h := bt e1 h
      refine run_skip ?_
      refine rs ?_
      refine run_block ?_
      refine rs ?_
      refine rt ?_
      obtain ⟨x1, e2, h⟩ := bind_some h
      refine jp (pj_index_slx (ht rfl) (ht rfl) isInt_i64 e2 (by kernel_rfl)) rfl rfl rfl ?_
      refine jp (pl (ht rfl) (by kernel_rfl)) rfl rfl rfl ?_
      refine jp (pa (ht rfl)) rfl rfl rfl ?_
      refine j_end ?_
      refine rt ?_
      refine jp (pm (ht rfl)) rfl rfl rfl ?_
      refine jp (pm (ht rfl)) rfl rfl rfl ?_
      refine jp (pj_len_sl (sz := 1) (ht rfl) (by kernel_rfl)) rfl rfl rfl ?_
      refine jp (pj_iadd has_i64 (ht rfl)) rfl rfl rfl ?_
      refine jp (pj_iadd (ht rfl) (ht rfl)) rfl rfl rfl ?_
      obtain ⟨x2, e3, h⟩ := bind_some h
      refine jp (PJ.eqv (pa (ht rfl)) (oi e3)) rfl rfl rfl ?_
      refine j_end ?_
      refine run_endblock ?_
      refine rt ?_
      refine jp (pj_iadd (ht rfl) has_i64) rfl rfl rfl ?_
      refine jp (pm (ht rfl)) rfl rfl rfl ?_
      refine j_end ?_
      obtain rfl := oi h
      exact run_next () (.cons (.of_lk rfl) <| .cons (.of_lk rfl) <| .cons (.of_lk rfl) <| .cons (.of_lk rfl) <| .cons (.of_lk rfl) <| .cons (.of_lk rfl) <| .nil) (.nil)
    · replace h := bf e1 h
      obtain rfl := oi h
      exact run_brk () (.cons (.of_lk rfl) <| .cons (.of_lk rfl) <| .cons (.of_lk rfl) <| .cons (.of_lk rfl) <| .cons (.of_lk rfl) <| .cons (.of_lk rfl) <| .nil) (.nil)
  · rintro _
    show Run _ _ _ [(0, u8.slot p_tag), (1, (sl (sl u8)).slot p_parts), (5, i64.slot y3), (12, (sl (sl u8)).slot p_parts), (13, i64.slot (p_parts.length : Int)), (14, i64.slot y4)] []
    refine run_to (Γ' := [(0, u8.slot p_tag), (1, (sl (sl u8)).slot p_parts), (5, i64.slot y3)]) (H' := []) (.cons (.of_lk rfl) <| .cons (.of_lk rfl) <| .cons (.of_lk rfl) <| .nil) (.nil) ?_
    refine rs ?_
    refine rt ?_
    refine jp (pm (ht rfl)) rfl rfl rfl ?_
    obtain ⟨e5, h⟩ := grd_some h
    refine j_makeSlice (T := 5) (R := u8) (z := (0#8)) has_i64 (ht rfl) (by decide) e5.1 e5.2 (by kernel_rfl) zero_un (by kernel_rfl) rfl fun v2 => ?_
    refine jp (pa (ht rfl)) rfl rfl rfl ?_
    refine j_end ?_
    refine rs ?_
    refine rt ?_
    refine jp (pm (ht rfl)) rfl rfl rfl ?_
    refine jp (pm (ht rfl)) rfl rfl rfl ?_
    refine jp (pj_buildSlice (T := 5) (R := u8) (.cons (ht rfl) .nil) rfl (by kernel_rfl) (by kernel_rfl)) rfl rfl rfl ?_
    obtain ⟨e6, h⟩ := grd_some h
    refine j_append (T := 5) (E := 5) (ht rfl) .here (src_data (ht rfl)) (by kernel_rfl) (by kernel_rfl) e6 rfl fun v3 => ?_
    refine jp (pa (ht rfl)) rfl rfl rfl ?_
    refine j_end ?_
    refine rs ?_
    refine rs ?_
    refine rt ?_
    refine jp (pm (ht rfl)) rfl rfl rfl ?_
    refine jp (pj_len_sl (sz := 1) (ht rfl) (by kernel_rfl)) rfl rfl rfl ?_
    refine jp (pm has_i64) rfl rfl rfl ?_
    refine j_end ?_
    obtain ⟨⟨y7, y8⟩, e11, h⟩ := bind_some h
    refine run_loopS (Γi := fun (i : Value) (s : Int × (List (BitVec 8))) => [(8, ov i), (30, (sl (sl u8)).slot p_parts), (31, i64.slot (p_parts.length : Int)), (32, i64.slot s.1)]) (Hi := fun (i : Value) (s : Int × (List (BitVec 8))) => [own 5 u8 i s.2]) e11 v3 (fun a w hst => (hst.sub (.cons (.of_lk rfl) <| .cons (.of_lk rfl) <| .cons (.of_lk rfl) <| .cons (.of_lk rfl) <| .nil)).keep (.cons .here <| .nil)) ?_ ?_
    · clear h e11
      rintro v4 ⟨y5, y6⟩ lr h
      change hash_Text_L2 p_parts y5 y6 = some _ at h
      show Run _ _ _ [(8, ov v4), (30, (sl (sl u8)).slot p_parts), (31, i64.slot (p_parts.length : Int)), (32, i64.slot y5)] [own 5 u8 v4 y6]
      unfold hash_Text_L2 at h
      refine rs ?_
      refine rt ?_
      refine jp (pj_ilss (ht rfl) (ht rfl)) rfl rfl rfl ?_
      refine j_end ?_
      refine rs ?_
      refine run_cond (ht rfl) (fun e7 => ?_) (fun e7 => ?_)
      · replace h := bt e7 h
        refine run_skip ?_
        refine rs ?_
        refine run_block ?_
        refine rs ?_
        refine rt ?_
        obtain ⟨x3, e8, h⟩ := bind_some h
        refine jp (pj_index_slx (ht rfl) (ht rfl) isInt_i64 e8 (by kernel_rfl)) rfl rfl rfl ?_
        refine jp (pl (ht rfl) (by kernel_rfl)) rfl rfl rfl ?_
        refine jp (pa (ht rfl)) rfl rfl rfl ?_
        refine j_end ?_
        refine rs ?_
        refine rt ?_
        refine jp (pm (ht rfl)) rfl rfl rfl ?_
        refine jp (pj_len_sl (sz := 1) (ht rfl) (by kernel_rfl)) rfl rfl rfl ?_
        refine jp (pj_conv_un (k := .u32) (b := 32) rfl rfl (by kernel_rfl) (ht rfl) isInt_i64) rfl rfl rfl ?_
        refine jp (pa (ht rfl)) rfl rfl rfl ?_
        refine j_end ?_
        refine rs ?_
        refine rt ?_
        refine jp (pm (ht rfl)) rfl rfl rfl ?_
        refine jp (pm (ht rfl)) rfl rfl rfl ?_
        refine jp (pj_ushr (k := .u32) (b := 32) rfl (ht rfl) (has_un (x := 24#64) rfl) isInt_un (Int.natCast_nonneg _)) rfl rfl rfl ?_
        refine jp (pj_conv_uu (k := .u8) (b := 8) rfl rfl (by kernel_rfl) (ht rfl)) rfl rfl rfl ?_
        refine jp (pm (ht rfl)) rfl rfl rfl ?_
        refine jp (pj_ushr (k := .u32) (b := 32) rfl (ht rfl) (has_un (x := 16#64) rfl) isInt_un (Int.natCast_nonneg _)) rfl rfl rfl ?_
        refine jp (pj_conv_uu (k := .u8) (b := 8) rfl rfl (by kernel_rfl) (ht rfl)) rfl rfl rfl ?_
        refine jp (pm (ht rfl)) rfl rfl rfl ?_
        refine jp (pj_ushr (k := .u32) (b := 32) rfl (ht rfl) (has_un (x := 8#64) rfl) isInt_un (Int.natCast_nonneg _)) rfl rfl rfl ?_
        refine jp (pj_conv_uu (k := .u8) (b := 8) rfl rfl (by kernel_rfl) (ht rfl)) rfl rfl rfl ?_
        refine jp (pm (ht rfl)) rfl rfl rfl ?_
        refine jp (pj_conv_uu (k := .u8) (b := 8) rfl rfl (by kernel_rfl) (ht rfl)) rfl rfl rfl ?_
        refine jp (pj_buildSlice (T := 5) (R := u8) (.cons (ht rfl) (.cons (ht rfl) (.cons (ht rfl) (.cons (ht rfl) .nil)))) rfl (by kernel_rfl) (by kernel_rfl)) rfl rfl rfl ?_
        obtain ⟨e9, h⟩ := grd_some h
        refine j_append (T := 5) (E := 5) (ht rfl) .here (src_data (ht rfl)) (by kernel_rfl) (by kernel_rfl) e9 rfl fun v5 => ?_
        refine jp (pa (ht rfl)) rfl rfl rfl ?_
        refine j_end ?_
        refine rt ?_
        refine jp (pm (ht rfl)) rfl rfl rfl ?_
        refine jp (pm (ht rfl)) rfl rfl rfl ?_
        obtain ⟨e10, h⟩ := grd_some h
        refine j_append (T := 5) (E := 5) (ht rfl) .here (src_data (ht rfl)) (by kernel_rfl) (by kernel_rfl) e10 rfl fun v6 => ?_
        refine jp (pa (ht rfl)) rfl rfl rfl ?_
        refine j_end ?_
        refine run_endblock ?_
        refine rt ?_
        refine jp (pj_iadd (ht rfl) has_i64) rfl rfl rfl ?_
        refine jp (pm (ht rfl)) rfl rfl rfl ?_
        refine j_end ?_
        obtain rfl := oi h
        exact run_next v6 (.cons (.of_lk rfl) <| .cons (.of_lk rfl) <| .cons (.of_lk rfl) <| .cons (.of_lk rfl) <| .nil) (.cons .here <| .nil)
      · replace h := bf e7 h
        obtain rfl := oi h
        exact run_brk v4 (.cons (.of_lk rfl) <| .cons (.of_lk rfl) <| .cons (.of_lk rfl) <| .cons (.of_lk rfl) <| .nil) (.cons .here <| .nil)
    · rintro v7
      show Run _ _ _ [(8, ov v7), (30, (sl (sl u8)).slot p_parts), (31, i64.slot (p_parts.length : Int)), (32, i64.slot y7)] [own 5 u8 v7 y8]
      refine run_to (Γ' := [(8, ov v7)]) (H' := [own 5 u8 v7 y8]) (.cons (.of_lk rfl) <| .nil) (.cons .here <| .nil) ?_
      refine rs ?_
      refine rt ?_
      refine jp (pm (ht rfl)) rfl rfl rfl ?_
      refine jp (pa (ht rfl)) rfl rfl rfl ?_
      refine j_end ?_
      obtain rfl := oi h
      exact run_ret fun a w hst => q_ret1 hst rfl (.tmp rfl) v7 (fun _ _ h => h) (.cons .here <| .nil)
set_option maxRecDepth 100000 in
set_option maxHeartbeats 4000000 in
theorem c_chain_Text {G : GP} {p_label : List (BitVec 8)} {p_v : T_chain_Version} {r : (List (BitVec 8))} (h : chain_Text p_label p_v = some r) : Ctr Tryd.prog G 27 [(sl u8).slot p_label, R_chain_Version.slot p_v] [] (fun (u0 : Value) => ov u0) (fun (u0 : Value) => [own 5 u8 u0 r]) := by
  unfold chain_Text at h
  refine ctr_of_run Tryd.func27 rfl 20 rfl rfl fun m0 w0 b0 => ?_
  show Run _ _ _ [(0, (sl u8).slot p_label), (1, R_chain_Version.slot p_v)] _
  refine rs ?_
  refine rt ?_
  refine jp (pj_box_to (ht rfl)) rfl rfl rfl ?_
  refine j_assign_nil (T := 5) u8 rfl fun v1 => ?_
  refine j_end ?_
  refine rs ?_
  obtain ⟨r1, e1, h⟩ := bind_some h
  obtain ⟨r2, e2, h⟩ := bind_some h
  refine run_draw (n := 13) (by kernel_rfl) (by kernel_rfl) (by kernel_rfl) (by kernel_rfl) (.read (.plain rfl (pm (ht rfl))) <| .read (.plain rfl (pj_field_to (ht rfl) (Path.fst i64 (prod i64 (prod R_api_Hash (prod R_api_Hash (sl u8))))) (by kernel_rfl))) <| .read (.plain rfl (pl (ht rfl) (by kernel_rfl))) <| .read (.plain rfl (pj_call (hc (ht rfl) <| hasL_nil) (by kernel_rfl) (Ctr.froze (c_chain_four e1)))) <| .read (.plain rfl (pj_field_to (ht rfl) (Path.then (Path.snd i64 (prod i64 (prod R_api_Hash (prod R_api_Hash (sl u8))))) (Path.fst i64 (prod R_api_Hash (prod R_api_Hash (sl u8))))) (by kernel_rfl))) <| .read (.plain rfl (pl (ht rfl) (by kernel_rfl))) <| .read (.plain rfl (pj_call (hc (ht rfl) <| hasL_nil) (by kernel_rfl) (Ctr.froze (c_chain_four e2)))) <| .read (.plain rfl (pj_field_to (ht rfl) (Path.then (Path.snd i64 (prod i64 (prod R_api_Hash (prod R_api_Hash (sl u8))))) (Path.then (Path.snd i64 (prod R_api_Hash (prod R_api_Hash (sl u8)))) (Path.fst R_api_Hash (prod R_api_Hash (sl u8))))) (by kernel_rfl))) <| .read (.plain rfl (pj_slice_toF (ht rfl) (by decide) (by kernel_rfl))) <| .read (.plain rfl (pj_field_to (ht rfl) (Path.then (Path.snd i64 (prod i64 (prod R_api_Hash (prod R_api_Hash (sl u8))))) (Path.then (Path.snd i64 (prod R_api_Hash (prod R_api_Hash (sl u8)))) (Path.then (Path.snd R_api_Hash (prod R_api_Hash (sl u8))) (Path.fst R_api_Hash (sl u8))))) (by kernel_rfl))) <| .read (.plain rfl (pj_slice_toF (ht rfl) (by decide) (by kernel_rfl))) <| .read (.plain rfl (pj_field_to (ht rfl) (Path.then (Path.snd i64 (prod i64 (prod R_api_Hash (prod R_api_Hash (sl u8))))) (Path.then (Path.snd i64 (prod R_api_Hash (prod R_api_Hash (sl u8)))) (Path.then (Path.snd R_api_Hash (prod R_api_Hash (sl u8))) (Path.snd R_api_Hash (sl u8))))) (by kernel_rfl))) <| .read (.plain rfl (pl (ht rfl) (by kernel_rfl))) <| .nil) (j_to (Γ' := [(5, (sl u8).slot p_label), (8, (sl u8).slot r1), (11, (sl u8).slot r2), (13, (sl u8).slot p_v.2.2.1.toList), (15, (sl u8).slot p_v.2.2.2.1.toList), (17, (sl u8).slot p_v.2.2.2.2)]) (H' := []) (.cons (.of_lk rfl) <| .cons (.of_lk rfl) <| .cons (.of_lk rfl) <| .cons (.of_lk rfl) <| .cons (.of_lk rfl) <| .cons (.of_lk rfl) <| .nil) (.nil) ?_)
  refine jp (pj_buildSlice (T := 22) (R := (sl u8)) (.cons (ht rfl) (.cons (ht rfl) (.cons (ht rfl) (.cons (ht rfl) (.cons (ht rfl) (.cons (ht rfl) .nil)))))) rfl (by kernel_rfl) (by kernel_rfl)) rfl rfl rfl ?_
  obtain ⟨r3, e3, h⟩ := bind_some h
  refine j_call (hc (has_un (x := 99#8) rfl) <| hc (ht rfl) <| hasL_nil) (by kernel_rfl) (c_hash_Text e3) .nil rfl fun v2 => ?_
  refine jp (pa (ht rfl)) rfl rfl rfl ?_
  refine j_end ?_
  obtain rfl := oi h
  exact run_ret fun a w hst => q_ret1 hst rfl (.tmp rfl) v2 (fun _ _ h => h) (.cons .here <| .nil)
set_option maxRecDepth 100000 in
set_option maxHeartbeats 4000000 in
theorem c_math_bits_RotateLeft32 {G : GP} {p_x : BitVec 32} {p_k : Int} {r : (BitVec 32)} (h : math_bits_RotateLeft32 p_x p_k = some r) : Ctr Tryd.prog G 70 [u32.slot p_x, i64.slot p_k] [] (fun (_ : Unit) => u32.slot r) (fun (_ : Unit) => []) := by
  unfold math_bits_RotateLeft32 at h
  refine ctr_of_run Tryd.func70 rfl 17 rfl rfl fun m0 w0 b0 => ?_
  show Run _ _ _ [(0, u32.slot p_x), (1, i64.slot p_k)] _
  refine rs ?_
  refine rt ?_
  refine jp (pa (has_un (x := 0#32) rfl)) rfl rfl rfl ?_
  refine j_end ?_
  refine rs ?_
  refine rt ?_
  refine jp (pm (ht rfl)) rfl rfl rfl ?_
  refine jp (pj_conv_un (k := .u64) (b := 64) rfl rfl (by kernel_rfl) (ht rfl) isInt_i64) rfl rfl rfl ?_
  refine jp (pj_uand (k := .u64) (b := 64) rfl rfl (ht rfl) (has_un (x := 31#64) rfl)) rfl rfl rfl ?_
  refine jp (pa (ht rfl)) rfl rfl rfl ?_
  refine j_end ?_
  refine rs ?_
  refine rt ?_
  refine jp (pm (ht rfl)) rfl rfl rfl ?_
  refine jp (pm (ht rfl)) rfl rfl rfl ?_
  refine jp (pj_ushl (k := .u32) (b := 32) rfl rfl (ht rfl) (ht rfl) isInt_un (Int.natCast_nonneg _)) rfl rfl rfl ?_
  refine jp (pm (ht rfl)) rfl rfl rfl ?_
  refine jp (pm (ht rfl)) rfl rfl rfl ?_
  refine jp (pj_usub (k := .u64) (b := 64) rfl rfl (has_un (x := 32#64) rfl) (ht rfl)) rfl rfl rfl ?_
  refine jp (pj_ushr (k := .u32) (b := 32) rfl (ht rfl) (ht rfl) isInt_un (Int.natCast_nonneg _)) rfl rfl rfl ?_
  refine jp (pj_uor (k := .u32) (b := 32) rfl rfl (ht rfl) (ht rfl)) rfl rfl rfl ?_
  obtain ⟨x1, e1, h⟩ := bind_some h
  refine jp (PJ.eqv (pa (ht rfl)) (oi e1)) rfl rfl rfl ?_
  refine j_end ?_
  obtain rfl := oi h
  exact run_ret fun a w hst => q_ret1 hst rfl (.tmp rfl) () (fun _ _ h => h) (.nil)
set_option maxRecDepth 100000 in
set_option maxHeartbeats 4000000 in
theorem c_hash_schedule {G : GP} {p_block : List (BitVec 8)} {r : (Vector (BitVec 32) 64)} (h : hash_schedule p_block = some r) : Ctr Tryd.prog G 69 [(sl u8).slot p_block] [] (fun (_ : Unit) => (vec 64 u32).slot r) (fun (_ : Unit) => []) := by
  unfold hash_schedule at h
  refine ctr_of_run Tryd.func69 rfl 83 rfl rfl fun m0 w0 b0 => ?_
  show Run _ _ _ [(0, (sl u8).slot p_block)] _
  refine rs ?_
  refine rt ?_
  refine j_alloc (x := (Vector.replicate 64 (0#32))) (R := (vec 64 u32)) (zero_vec 64 zero_un) (by kernel_rfl) rfl fun b1 => ?_
  refine j_end ?_
  refine rs ?_
  refine rt ?_
  refine j_alloc (x := (Vector.replicate 64 (0#32))) (R := (vec 64 u32)) (zero_vec 64 zero_un) (by kernel_rfl) rfl fun b2 => ?_
  refine j_end ?_
  refine rs ?_
  refine rs ?_
  refine rt ?_
  refine jp (pm (ht rfl)) rfl rfl rfl ?_
  obtain ⟨x1, e1, h⟩ := bind_some h
  refine jp (pj_slice_slx (ht rfl) .no (.yes has_i64 isInt_i64) e1 (by kernel_rfl)) rfl rfl rfl ?_
  refine jp (pj_len_sl (sz := 1) (ht rfl) (by kernel_rfl)) rfl rfl rfl ?_
  refine jp (pm has_i64) rfl rfl rfl ?_
  refine j_end ?_
  obtain ⟨⟨y3, y4⟩, e7, h⟩ := bind_some h
  refine run_loopS (Γi := fun (i : Unit) (s : Int × (Vector (BitVec 32) 64)) => [(2, val (.pointer (some ⟨b1, 0, none⟩))), (3, val (.pointer (some ⟨b2, 0, none⟩))), (10, (sl u8).slot x1), (11, i64.slot (x1.length : Int)), (12, i64.slot s.1)]) (Hi := fun (i : Unit) (s : Int × (Vector (BitVec 32) 64)) => [box b2 111 (vec 64 u32) s.2, box b1 111 (vec 64 u32) (Vector.replicate 64 (0#32))]) e7 () (fun a w hst => (hst.sub (.cons (.of_lk rfl) <| .cons (.of_lk rfl) <| .cons (.of_lk rfl) <| .cons (.of_lk rfl) <| .cons (.of_lk rfl) <| .nil)).keep (.cons .here <| .cons .here <| .nil)) ?_ ?_
  · clear h e7
    rintro _ ⟨y1, y2⟩ lr h
    change hash_schedule_L1 x1 y1 y2 = some _ at h
    show Run _ _ _ [(2, val (.pointer (some ⟨b1, 0, none⟩))), (3, val (.pointer (some ⟨b2, 0, none⟩))), (10, (sl u8).slot x1), (11, i64.slot (x1.length : Int)), (12, i64.slot y1)] [box b2 111 (vec 64 u32) y2, box b1 111 (vec 64 u32) (Vector.replicate 64 (0#32))]
    unfold hash_schedule_L1 at h
    refine rs ?_
    refine rt ?_
    refine jp (pj_ilss (ht rfl) (ht rfl)) rfl rfl rfl ?_
    refine j_end ?_
    refine rs ?_
    refine run_cond (ht rfl) (fun e2 => ?_) (fun e2 => ?_)
    · replace h := bt e2 h
      refine run_skip ?_
      refine rs ?_
      refine run_block ?_
      refine rs ?_
      refine rt ?_
      refine jp (pm (ht rfl)) rfl rfl rfl ?_
      obtain ⟨x2, e3, h⟩ := bind_some h
      refine jp (pj_index_slx (ht rfl) (ht rfl) isInt_i64 e3 (by kernel_rfl)) rfl rfl rfl ?_
      refine jp (pl (ht rfl) (by kernel_rfl)) rfl rfl rfl ?_
      refine jp (pa (ht rfl)) rfl rfl rfl ?_
      refine jp (pa (ht rfl)) rfl rfl rfl ?_
      refine j_end ?_
      refine rt ?_
      refine jp (pm (ht rfl)) rfl rfl rfl ?_
      refine jp (pj_iquo (ht rfl) has_i64 (by decide)) rfl rfl rfl ?_
      refine jp (pm (ht rfl)) rfl rfl rfl ?_
      refine jp (pj_iquo (ht rfl) has_i64 (by decide)) rfl rfl rfl ?_
      obtain ⟨x3, e4, h⟩ := bind_some h
      refine jp (pj_index_arr (n := 64) (sz := 1) (ht rfl) (ht rfl) isInt_i64 (vget_some e4).1 (vget_lt e4) (by kernel_rfl)) rfl rfl rfl ?_
      refine jp (PJ.eqv (pj_load_box (ht rfl) .here (Path.then (Path.all (vec 64 u32)) (Path.atI 64 u32 ((w64 (Int.tdiv y1 (4 : Int))).toNat) (vget_some e4).2.1)) (by kernel_rfl)) (vget_eq e4 (vget_some e4).2.1)) rfl rfl rfl ?_
      refine jp (pj_ushl (k := .u32) (b := 32) rfl rfl (ht rfl) (has_un (x := 8#64) rfl) isInt_un (Int.natCast_nonneg _)) rfl rfl rfl ?_
      refine jp (pm (ht rfl)) rfl rfl rfl ?_
      refine jp (pj_conv_uu (k := .u32) (b := 32) rfl rfl (by kernel_rfl) (ht rfl)) rfl rfl rfl ?_
      refine jp (pj_uor (k := .u32) (b := 32) rfl rfl (ht rfl) (ht rfl)) rfl rfl rfl ?_
      obtain ⟨e5, h⟩ := grd_some h
      refine jp (pj_index_arr (n := 64) (sz := 1) (ht rfl) (ht rfl) isInt_i64 e5.1 e5.2 (by kernel_rfl)) rfl rfl rfl ?_
      obtain ⟨x4, e6, h⟩ := bind_some h
      refine j_store_boxx (r' := x4) (ht rfl) (ht rfl) .here (Path.then (Path.all (vec 64 u32)) (Path.atI 64 u32 ((w64 (Int.tdiv y1 (4 : Int))).toNat) (lt_nat e5))) (by kernel_rfl) (oi e6) ?_
      refine j_end ?_
      refine run_endblock ?_
      refine rt ?_
      refine jp (pj_iadd (ht rfl) has_i64) rfl rfl rfl ?_
      refine jp (pm (ht rfl)) rfl rfl rfl ?_
      refine j_end ?_
      obtain rfl := oi h
      exact run_next () (.cons (.of_lk rfl) <| .cons (.of_lk rfl) <| .cons (.of_lk rfl) <| .cons (.of_lk rfl) <| .cons (.of_lk rfl) <| .nil) (.cons .here <| .cons .here <| .nil)
    · replace h := bf e2 h
      obtain rfl := oi h
      exact run_brk () (.cons (.of_lk rfl) <| .cons (.of_lk rfl) <| .cons (.of_lk rfl) <| .cons (.of_lk rfl) <| .cons (.of_lk rfl) <| .nil) (.cons .here <| .cons .here <| .nil)
  · rintro _
    show Run _ _ _ [(2, val (.pointer (some ⟨b1, 0, none⟩))), (3, val (.pointer (some ⟨b2, 0, none⟩))), (10, (sl u8).slot x1), (11, i64.slot (x1.length : Int)), (12, i64.slot y3)] [box b2 111 (vec 64 u32) y4, box b1 111 (vec 64 u32) (Vector.replicate 64 (0#32))]
    refine run_to (Γ' := [(2, val (.pointer (some ⟨b1, 0, none⟩))), (3, val (.pointer (some ⟨b2, 0, none⟩)))]) (H' := [box b2 111 (vec 64 u32) y4, box b1 111 (vec 64 u32) (Vector.replicate 64 (0#32))]) (.cons (.of_lk rfl) <| .cons (.of_lk rfl) <| .nil) (.cons .here <| .cons .here <| .nil) ?_
    refine rs ?_
    refine rs ?_
    refine rt ?_
    refine jp (pa has_i64) rfl rfl rfl ?_
    refine j_end ?_
    obtain ⟨⟨y7, y8⟩, e23, h⟩ := bind_some h
    refine run_loopS (Γi := fun (i : Unit) (s : Int × (Vector (BitVec 32) 64)) => [(2, val (.pointer (some ⟨b1, 0, none⟩))), (3, val (.pointer (some ⟨b2, 0, none⟩))), (6, i64.slot s.1)]) (Hi := fun (i : Unit) (s : Int × (Vector (BitVec 32) 64)) => [box b2 111 (vec 64 u32) s.2, box b1 111 (vec 64 u32) (Vector.replicate 64 (0#32))]) e23 () (fun a w hst => (hst.sub (.cons (.of_lk rfl) <| .cons (.of_lk rfl) <| .cons (.of_lk rfl) <| .nil)).keep (.cons .here <| .cons .here <| .nil)) ?_ ?_
    · clear h e23
      rintro _ ⟨y5, y6⟩ lr h
      change hash_schedule_L2 y5 y6 = some _ at h
      show Run _ _ _ [(2, val (.pointer (some ⟨b1, 0, none⟩))), (3, val (.pointer (some ⟨b2, 0, none⟩))), (6, i64.slot y5)] [box b2 111 (vec 64 u32) y6, box b1 111 (vec 64 u32) (Vector.replicate 64 (0#32))]
      unfold hash_schedule_L2 at h
      refine rs ?_
      refine rs ?_
      refine rt ?_
      refine jp (pm (ht rfl)) rfl rfl rfl ?_
      refine jp (pj_ilss (ht rfl) has_i64) rfl rfl rfl ?_
      refine j_end ?_
      refine run_cond (ht rfl) (fun e8 => ?_) (fun e8 => ?_)
      · replace h := bt e8 h
        refine run_skip ?_
        refine rs ?_
        refine run_block ?_
        refine rs ?_
        obtain ⟨x5, e9, h⟩ := bind_some h
        obtain ⟨r1, e10, h⟩ := bind_some h
        obtain ⟨x6, e11, h⟩ := bind_some h
        obtain ⟨r2, e12, h⟩ := bind_some h
        obtain ⟨x7, e13, h⟩ := bind_some h
        refine run_draw (n := 16) (by kernel_rfl) (by kernel_rfl) (by kernel_rfl) (by kernel_rfl) (.read (.plain rfl (pm (ht rfl))) <| .read (.plain rfl (pj_isub (ht rfl) has_i64)) <| .read (.plain rfl (pj_index_arr (n := 64) (sz := 1) (ht rfl) (ht rfl) isInt_i64 (vget_some e9).1 (vget_lt e9) (by kernel_rfl))) <| .read (.plain rfl (PJ.eqv (pj_load_box (ht rfl) .here (Path.then (Path.all (vec 64 u32)) (Path.atI 64 u32 ((w64 (y5 - (15 : Int))).toNat) (vget_some e9).2.1)) (by kernel_rfl)) (vget_eq e9 (vget_some e9).2.1))) <| .read (.plain rfl (pj_call (hc (ht rfl) <| hc has_i64 <| hasL_nil) (by kernel_rfl) (c_math_bits_RotateLeft32 e10))) <| .read (.plain rfl (pm (ht rfl))) <| .read (.plain rfl (pj_isub (ht rfl) has_i64)) <| .read (.plain rfl (pj_index_arr (n := 64) (sz := 1) (ht rfl) (ht rfl) isInt_i64 (vget_some e11).1 (vget_lt e11) (by kernel_rfl))) <| .read (.plain rfl (PJ.eqv (pj_load_box (ht rfl) .here (Path.then (Path.all (vec 64 u32)) (Path.atI 64 u32 ((w64 (y5 - (15 : Int))).toNat) (vget_some e11).2.1)) (by kernel_rfl)) (vget_eq e11 (vget_some e11).2.1))) <| .read (.plain rfl (pj_call (hc (ht rfl) <| hc has_i64 <| hasL_nil) (by kernel_rfl) (c_math_bits_RotateLeft32 e12))) <| .read (.plain rfl (pj_uxor (k := .u32) (b := 32) rfl rfl (ht rfl) (ht rfl))) <| .read (.plain rfl (pm (ht rfl))) <| .read (.plain rfl (pj_isub (ht rfl) has_i64)) <| .read (.plain rfl (pj_index_arr (n := 64) (sz := 1) (ht rfl) (ht rfl) isInt_i64 (vget_some e13).1 (vget_lt e13) (by kernel_rfl))) <| .read (.plain rfl (PJ.eqv (pj_load_box (ht rfl) .here (Path.then (Path.all (vec 64 u32)) (Path.atI 64 u32 ((w64 (y5 - (15 : Int))).toNat) (vget_some e13).2.1)) (by kernel_rfl)) (vget_eq e13 (vget_some e13).2.1))) <| .read (.plain rfl (pj_ushr (k := .u32) (b := 32) rfl (ht rfl) (has_un (x := 3#64) rfl) isInt_un (Int.natCast_nonneg _))) <| .nil) (j_to (Γ' := [(2, val (.pointer (some ⟨b1, 0, none⟩))), (3, val (.pointer (some ⟨b2, 0, none⟩))), (6, i64.slot y5), (43, u32.slot (r1 ^^^ r2)), (48, u32.slot (x7 >>> 3))]) (H' := [box b2 111 (vec 64 u32) y6, box b1 111 (vec 64 u32) (Vector.replicate 64 (0#32))]) (.cons (.of_lk rfl) <| .cons (.of_lk rfl) <| .cons (.of_lk rfl) <| .cons (.of_lk rfl) <| .cons (.of_lk rfl) <| .nil) (.cons .here <| .cons .here <| .nil) ?_)
        refine jp (pj_uxor (k := .u32) (b := 32) rfl rfl (ht rfl) (ht rfl)) rfl rfl rfl ?_
        refine jp (pa (ht rfl)) rfl rfl rfl ?_
        refine j_end ?_
        refine rs ?_
        obtain ⟨x8, e14, h⟩ := bind_some h
        obtain ⟨r3, e15, h⟩ := bind_some h
        obtain ⟨x9, e16, h⟩ := bind_some h
        obtain ⟨r4, e17, h⟩ := bind_some h
        obtain ⟨x10, e18, h⟩ := bind_some h
        refine run_draw (n := 16) (by kernel_rfl) (by kernel_rfl) (by kernel_rfl) (by kernel_rfl) (.read (.plain rfl (pm (ht rfl))) <| .read (.plain rfl (pj_isub (ht rfl) has_i64)) <| .read (.plain rfl (pj_index_arr (n := 64) (sz := 1) (ht rfl) (ht rfl) isInt_i64 (vget_some e14).1 (vget_lt e14) (by kernel_rfl))) <| .read (.plain rfl (PJ.eqv (pj_load_box (ht rfl) .here (Path.then (Path.all (vec 64 u32)) (Path.atI 64 u32 ((w64 (y5 - (2 : Int))).toNat) (vget_some e14).2.1)) (by kernel_rfl)) (vget_eq e14 (vget_some e14).2.1))) <| .read (.plain rfl (pj_call (hc (ht rfl) <| hc has_i64 <| hasL_nil) (by kernel_rfl) (c_math_bits_RotateLeft32 e15))) <| .read (.plain rfl (pm (ht rfl))) <| .read (.plain rfl (pj_isub (ht rfl) has_i64)) <| .read (.plain rfl (pj_index_arr (n := 64) (sz := 1) (ht rfl) (ht rfl) isInt_i64 (vget_some e16).1 (vget_lt e16) (by kernel_rfl))) <| .read (.plain rfl (PJ.eqv (pj_load_box (ht rfl) .here (Path.then (Path.all (vec 64 u32)) (Path.atI 64 u32 ((w64 (y5 - (2 : Int))).toNat) (vget_some e16).2.1)) (by kernel_rfl)) (vget_eq e16 (vget_some e16).2.1))) <| .read (.plain rfl (pj_call (hc (ht rfl) <| hc has_i64 <| hasL_nil) (by kernel_rfl) (c_math_bits_RotateLeft32 e17))) <| .read (.plain rfl (pj_uxor (k := .u32) (b := 32) rfl rfl (ht rfl) (ht rfl))) <| .read (.plain rfl (pm (ht rfl))) <| .read (.plain rfl (pj_isub (ht rfl) has_i64)) <| .read (.plain rfl (pj_index_arr (n := 64) (sz := 1) (ht rfl) (ht rfl) isInt_i64 (vget_some e18).1 (vget_lt e18) (by kernel_rfl))) <| .read (.plain rfl (PJ.eqv (pj_load_box (ht rfl) .here (Path.then (Path.all (vec 64 u32)) (Path.atI 64 u32 ((w64 (y5 - (2 : Int))).toNat) (vget_some e18).2.1)) (by kernel_rfl)) (vget_eq e18 (vget_some e18).2.1))) <| .read (.plain rfl (pj_ushr (k := .u32) (b := 32) rfl (ht rfl) (has_un (x := 10#64) rfl) isInt_un (Int.natCast_nonneg _))) <| .nil) (j_to (Γ' := [(2, val (.pointer (some ⟨b1, 0, none⟩))), (3, val (.pointer (some ⟨b2, 0, none⟩))), (6, i64.slot y5), (7, u32.slot ((r1 ^^^ r2) ^^^ (x7 >>> 3))), (60, u32.slot (r3 ^^^ r4)), (65, u32.slot (x10 >>> 10))]) (H' := [box b2 111 (vec 64 u32) y6, box b1 111 (vec 64 u32) (Vector.replicate 64 (0#32))]) (.cons (.of_lk rfl) <| .cons (.of_lk rfl) <| .cons (.of_lk rfl) <| .cons (.of_lk rfl) <| .cons (.of_lk rfl) <| .cons (.of_lk rfl) <| .nil) (.cons .here <| .cons .here <| .nil) ?_)
        refine jp (pj_uxor (k := .u32) (b := 32) rfl rfl (ht rfl) (ht rfl)) rfl rfl rfl ?_
        refine jp (pa (ht rfl)) rfl rfl rfl ?_
        refine j_end ?_
        obtain ⟨x11, e19, h⟩ := bind_some h
        obtain ⟨x12, e20, h⟩ := bind_some h
        refine run_draw (n := 14) (by kernel_rfl) (by kernel_rfl) (by kernel_rfl) (by kernel_rfl) (.read (.plain rfl (pm (ht rfl))) <| .read (.plain rfl (pm (ht rfl))) <| .read (.plain rfl (pj_isub (ht rfl) has_i64)) <| .read (.plain rfl (pj_index_arr (n := 64) (sz := 1) (ht rfl) (ht rfl) isInt_i64 (vget_some e19).1 (vget_lt e19) (by kernel_rfl))) <| .read (.plain rfl (PJ.eqv (pj_load_box (ht rfl) .here (Path.then (Path.all (vec 64 u32)) (Path.atI 64 u32 ((w64 (y5 - (16 : Int))).toNat) (vget_some e19).2.1)) (by kernel_rfl)) (vget_eq e19 (vget_some e19).2.1))) <| .read (.plain rfl (pm (ht rfl))) <| .read (.plain rfl (pj_uadd (k := .u32) (b := 32) rfl rfl (ht rfl) (ht rfl))) <| .read (.plain rfl (pm (ht rfl))) <| .read (.plain rfl (pj_isub (ht rfl) has_i64)) <| .read (.plain rfl (pj_index_arr (n := 64) (sz := 1) (ht rfl) (ht rfl) isInt_i64 (vget_some e20).1 (vget_lt e20) (by kernel_rfl))) <| .read (.plain rfl (PJ.eqv (pj_load_box (ht rfl) .here (Path.then (Path.all (vec 64 u32)) (Path.atI 64 u32 ((w64 (y5 - (7 : Int))).toNat) (vget_some e20).2.1)) (by kernel_rfl)) (vget_eq e20 (vget_some e20).2.1))) <| .read (.plain rfl (pj_uadd (k := .u32) (b := 32) rfl rfl (ht rfl) (ht rfl))) <| .read (.plain rfl (pm (ht rfl))) <| .read (.plain rfl (pj_uadd (k := .u32) (b := 32) rfl rfl (ht rfl) (ht rfl))) <| .nil) (j_to (Γ' := [(2, val (.pointer (some ⟨b1, 0, none⟩))), (3, val (.pointer (some ⟨b2, 0, none⟩))), (6, i64.slot y5), (67, i64.slot y5), (80, u32.slot (((x11 + ((r1 ^^^ r2) ^^^ (x7 >>> 3))) + x12) + ((r3 ^^^ r4) ^^^ (x10 >>> 10))))]) (H' := [box b2 111 (vec 64 u32) y6, box b1 111 (vec 64 u32) (Vector.replicate 64 (0#32))]) (.cons (.of_lk rfl) <| .cons (.of_lk rfl) <| .cons (.of_lk rfl) <| .cons (.of_lk rfl) <| .cons (.of_lk rfl) <| .nil) (.cons .here <| .cons .here <| .nil) ?_)
        obtain ⟨e21, h⟩ := grd_some h
        refine jp (pj_index_arr (n := 64) (sz := 1) (ht rfl) (ht rfl) isInt_i64 e21.1 e21.2 (by kernel_rfl)) rfl rfl rfl ?_
        obtain ⟨x13, e22, h⟩ := bind_some h
        refine j_store_boxx (r' := x13) (ht rfl) (ht rfl) .here (Path.then (Path.all (vec 64 u32)) (Path.atI 64 u32 y5.toNat (lt_nat e21))) (by kernel_rfl) (oi e22) ?_
        refine j_end ?_
        refine run_endblock ?_
        refine rt ?_
        refine jp (pm (ht rfl)) rfl rfl rfl ?_
        refine jp (pj_iadd (ht rfl) has_i64) rfl rfl rfl ?_
        refine jp (pa (ht rfl)) rfl rfl rfl ?_
        refine j_end ?_
        obtain rfl := oi h
        exact run_next () (.cons (.of_lk rfl) <| .cons (.of_lk rfl) <| .cons (.of_lk rfl) <| .nil) (.cons .here <| .cons .here <| .nil)
      · replace h := bf e8 h
        obtain rfl := oi h
        exact run_brk () (.cons (.of_lk rfl) <| .cons (.of_lk rfl) <| .cons (.of_lk rfl) <| .nil) (.cons .here <| .cons .here <| .nil)
    · rintro _
      show Run _ _ _ [(2, val (.pointer (some ⟨b1, 0, none⟩))), (3, val (.pointer (some ⟨b2, 0, none⟩))), (6, i64.slot y7)] [box b2 111 (vec 64 u32) y8, box b1 111 (vec 64 u32) (Vector.replicate 64 (0#32))]
      refine run_to (Γ' := [(2, val (.pointer (some ⟨b1, 0, none⟩))), (3, val (.pointer (some ⟨b2, 0, none⟩)))]) (H' := [box b2 111 (vec 64 u32) y8, box b1 111 (vec 64 u32) (Vector.replicate 64 (0#32))]) (.cons (.of_lk rfl) <| .cons (.of_lk rfl) <| .nil) (.cons .here <| .cons .here <| .nil) ?_
      refine rs ?_
      refine rt ?_
      refine jp (pj_load_box (ht rfl) .here (Path.all (vec 64 u32)) (by kernel_rfl)) rfl rfl rfl ?_
      refine j_store_boxx (r' := y8) (ht rfl) (ht rfl) (.next .here) (Path.all (vec 64 u32)) (by kernel_rfl) rfl ?_
      refine j_end ?_
      obtain rfl := oi h
      exact run_ret fun a w hst => q_ret1 hst rfl (.cell rfl .here (by kernel_rfl)) () (fun _ _ h => h) (.nil)
set_option maxRecDepth 100000 in
set_option maxHeartbeats 4000000 in
theorem c_hash_state_block {G : GP} (hg1 : HG1 G) {p_s : T_hash_state} {p_b : List (BitVec 8)} {r : T_hash_state} (h : hash_state_block p_s p_b = some r) : Ctr Tryd.prog G 65 [R_hash_state.slot p_s, (sl u8).slot p_b] [] (fun (_ : Unit) => R_hash_state.slot r) (fun (_ : Unit) => []) := by
  unfold hash_state_block at h
  refine ctr_of_run Tryd.func65 rfl 115 rfl rfl fun m0 w0 b0 => ?_
  show Run _ _ _ [(0, R_hash_state.slot p_s), (1, (sl u8).slot p_b)] _
  refine rs ?_
  refine rt ?_
  refine j_box (ht rfl) rfl fun b1 => ?_
  refine j_alloc (x := (Vector.replicate 8 (0#32))) (R := R_hash_state) (zero_vec 8 zero_un) (by kernel_rfl) rfl fun b2 => ?_
  refine j_end ?_
  refine rs ?_
  refine rt ?_
  refine jp (pm (ht rfl)) rfl rfl rfl ?_
  obtain ⟨r1, e1, h⟩ := bind_some h
  refine jp (pj_call (hc (ht rfl) <| hasL_nil) (by kernel_rfl) (c_hash_schedule e1)) rfl rfl rfl ?_
  refine j_alloc (x := (Vector.replicate 64 (0#32))) (R := (vec 64 u32)) (zero_vec 64 zero_un) (by kernel_rfl) rfl fun b3 => ?_
  refine j_store_boxx (r' := r1) (ht rfl) (ht rfl) .here (Path.all (vec 64 u32)) (by kernel_rfl) rfl ?_
  refine j_freezeTo (t := 5) .here (.of_lk rfl) ?_
  refine j_end ?_
  refine rs ?_
  refine rt ?_
  refine jp (pj_load_box (ht rfl) (.next .here) (Path.all R_hash_state) (by kernel_rfl)) rfl rfl rfl ?_
  refine j_alloc (x := (Vector.replicate 8 (0#32))) (R := R_hash_state) (zero_vec 8 zero_un) (by kernel_rfl) rfl fun b4 => ?_
  refine j_store_boxx (r' := p_s) (ht rfl) (ht rfl) .here (Path.all R_hash_state) (by kernel_rfl) rfl ?_
  refine j_end ?_
  refine rs ?_
  refine rs ?_
  refine rt ?_
  refine jp (pm has_i64) rfl rfl rfl ?_
  refine j_end ?_
  obtain ⟨⟨y3, y4⟩, e14, h⟩ := bind_some h
  refine run_loopS (Γi := fun (i : Unit) (s : Int × T_hash_state) => [(2, val (.pointer (some ⟨b1, 0, none⟩))), (4, val (.pointer (some ⟨b2, 0, none⟩))), (5, ptrTo (vec 64 u32) r1), (6, val (.pointer (some ⟨b4, 0, none⟩))), (16, i64.slot s.1)]) (Hi := fun (i : Unit) (s : Int × T_hash_state) => [box b4 106 R_hash_state s.2, box b2 106 R_hash_state (Vector.replicate 8 (0#32)), box b1 106 R_hash_state p_s]) e14 () (fun a w hst => (hst.sub (.cons (.of_lk rfl) <| .cons (.of_lk rfl) <| .cons (.of_lk rfl) <| .cons (.of_lk rfl) <| .cons (.of_lk rfl) <| .nil)).keep (.cons .here <| .cons .here <| .cons .here <| .nil)) ?_ ?_
  · clear h e14
    rintro _ ⟨y1, y2⟩ lr h
    change hash_state_block_L1 r1 y1 y2 = some _ at h
    show Run _ _ _ [(2, val (.pointer (some ⟨b1, 0, none⟩))), (4, val (.pointer (some ⟨b2, 0, none⟩))), (5, ptrTo (vec 64 u32) r1), (6, val (.pointer (some ⟨b4, 0, none⟩))), (16, i64.slot y1)] [box b4 106 R_hash_state y2, box b2 106 R_hash_state (Vector.replicate 8 (0#32)), box b1 106 R_hash_state p_s]
    unfold hash_state_block_L1 at h
    refine rs ?_
    refine rt ?_
    refine jp (pj_ilss (ht rfl) has_i64) rfl rfl rfl ?_
    refine j_end ?_
    refine rs ?_
    refine run_cond (ht rfl) (fun e2 => ?_) (fun e2 => ?_)
    · replace h := bt e2 h
      refine run_skip ?_
      refine rs ?_
      refine run_block ?_
      refine rs ?_
      refine rt ?_
      refine jp (pm (ht rfl)) rfl rfl rfl ?_
      refine jp (pa (ht rfl)) rfl rfl rfl ?_
      refine j_end ?_
      refine rs ?_
      obtain ⟨r2, e3, h⟩ := bind_some h
      obtain ⟨r3, e4, h⟩ := bind_some h
      obtain ⟨r4, e5, h⟩ := bind_some h
      refine run_draw (n := 10) (by kernel_rfl) (by kernel_rfl) (by kernel_rfl) (by kernel_rfl) (.read (.plain rfl (pj_index_arr (n := 8) (sz := 1) (ht rfl) has_i64 isInt_i64 (by decide) (by decide) (by kernel_rfl))) <| .read (.plain rfl (pj_load_box (ht rfl) .here (Path.then (Path.all R_hash_state) (Path.at 8 u32 4 (by decide))) (by kernel_rfl))) <| .read (.plain rfl (pj_call (hc (ht rfl) <| hc has_i64 <| hasL_nil) (by kernel_rfl) (c_math_bits_RotateLeft32 e3))) <| .read (.plain rfl (pj_index_arr (n := 8) (sz := 1) (ht rfl) has_i64 isInt_i64 (by decide) (by decide) (by kernel_rfl))) <| .read (.plain rfl (pj_load_box (ht rfl) .here (Path.then (Path.all R_hash_state) (Path.at 8 u32 4 (by decide))) (by kernel_rfl))) <| .read (.plain rfl (pj_call (hc (ht rfl) <| hc has_i64 <| hasL_nil) (by kernel_rfl) (c_math_bits_RotateLeft32 e4))) <| .read (.plain rfl (pj_uxor (k := .u32) (b := 32) rfl rfl (ht rfl) (ht rfl))) <| .read (.plain rfl (pj_index_arr (n := 8) (sz := 1) (ht rfl) has_i64 isInt_i64 (by decide) (by decide) (by kernel_rfl))) <| .read (.plain rfl (pj_load_box (ht rfl) .here (Path.then (Path.all R_hash_state) (Path.at 8 u32 4 (by decide))) (by kernel_rfl))) <| .read (.plain rfl (pj_call (hc (ht rfl) <| hc has_i64 <| hasL_nil) (by kernel_rfl) (c_math_bits_RotateLeft32 e5))) <| .nil) (j_to (Γ' := [(2, val (.pointer (some ⟨b1, 0, none⟩))), (4, val (.pointer (some ⟨b2, 0, none⟩))), (5, ptrTo (vec 64 u32) r1), (6, val (.pointer (some ⟨b4, 0, none⟩))), (7, i64.slot y1), (16, i64.slot y1), (25, u32.slot (r2 ^^^ r3)), (28, u32.slot r4)]) (H' := [box b4 106 R_hash_state y2, box b2 106 R_hash_state (Vector.replicate 8 (0#32)), box b1 106 R_hash_state p_s]) (.cons (.of_lk rfl) <| .cons (.of_lk rfl) <| .cons (.of_lk rfl) <| .cons (.of_lk rfl) <| .cons (.of_lk rfl) <| .cons (.of_lk rfl) <| .cons (.of_lk rfl) <| .cons (.of_lk rfl) <| .nil) (.cons .here <| .cons .here <| .cons .here <| .nil) ?_)
      refine jp (pj_uxor (k := .u32) (b := 32) rfl rfl (ht rfl) (ht rfl)) rfl rfl rfl ?_
      refine jp (pa (ht rfl)) rfl rfl rfl ?_
      refine j_end ?_
      refine rs ?_
      obtain ⟨x1, e6, h⟩ := bind_some h
      obtain ⟨x2, e7, h⟩ := bind_some h
      refine run_draw (n := 23) (by kernel_rfl) (by kernel_rfl) (by kernel_rfl) (by kernel_rfl) (.read (.plain rfl (pj_index_arr (n := 8) (sz := 1) (ht rfl) has_i64 isInt_i64 (by decide) (by decide) (by kernel_rfl))) <| .read (.plain rfl (pj_load_box (ht rfl) .here (Path.then (Path.all R_hash_state) (Path.at 8 u32 7 (by decide))) (by kernel_rfl))) <| .read (.plain rfl (pm (ht rfl))) <| .read (.plain rfl (pj_uadd (k := .u32) (b := 32) rfl rfl (ht rfl) (ht rfl))) <| .read (.plain rfl (pj_index_arr (n := 8) (sz := 1) (ht rfl) has_i64 isInt_i64 (by decide) (by decide) (by kernel_rfl))) <| .read (.plain rfl (pj_load_box (ht rfl) .here (Path.then (Path.all R_hash_state) (Path.at 8 u32 6 (by decide))) (by kernel_rfl))) <| .read (.plain rfl (pj_index_arr (n := 8) (sz := 1) (ht rfl) has_i64 isInt_i64 (by decide) (by decide) (by kernel_rfl))) <| .read (.plain rfl (pj_load_box (ht rfl) .here (Path.then (Path.all R_hash_state) (Path.at 8 u32 4 (by decide))) (by kernel_rfl))) <| .read (.plain rfl (pj_index_arr (n := 8) (sz := 1) (ht rfl) has_i64 isInt_i64 (by decide) (by decide) (by kernel_rfl))) <| .read (.plain rfl (pj_load_box (ht rfl) .here (Path.then (Path.all R_hash_state) (Path.at 8 u32 5 (by decide))) (by kernel_rfl))) <| .read (.plain rfl (pj_index_arr (n := 8) (sz := 1) (ht rfl) has_i64 isInt_i64 (by decide) (by decide) (by kernel_rfl))) <| .read (.plain rfl (pj_load_box (ht rfl) .here (Path.then (Path.all R_hash_state) (Path.at 8 u32 6 (by decide))) (by kernel_rfl))) <| .read (.plain rfl (pj_uxor (k := .u32) (b := 32) rfl rfl (ht rfl) (ht rfl))) <| .read (.plain rfl (pj_uand (k := .u32) (b := 32) rfl rfl (ht rfl) (ht rfl))) <| .read (.plain rfl (pj_uxor (k := .u32) (b := 32) rfl rfl (ht rfl) (ht rfl))) <| .read (.plain rfl (pj_uadd (k := .u32) (b := 32) rfl rfl (ht rfl) (ht rfl))) <| .read (.plain rfl (pm (ht rfl))) <| .read (.plain rfl (pj_index_gx (v := G_hash_rounds) hg1 (ht rfl) isInt_i64 e6 (by kernel_rfl))) <| .read (.plain rfl (pl (ht rfl) (by kernel_rfl))) <| .read (.plain rfl (pj_uadd (k := .u32) (b := 32) rfl rfl (ht rfl) (ht rfl))) <| .read (.plain rfl (pm (ht rfl))) <| .read (.plain rfl (pj_index_tox (ht rfl) (ht rfl) isInt_i64 e7 (by kernel_rfl))) <| .read (.plain rfl (pl (ht rfl) (by kernel_rfl))) <| .nil) (j_to (Γ' := [(2, val (.pointer (some ⟨b1, 0, none⟩))), (4, val (.pointer (some ⟨b2, 0, none⟩))), (5, ptrTo (vec 64 u32) r1), (6, val (.pointer (some ⟨b4, 0, none⟩))), (16, i64.slot y1), (49, u32.slot ((((y2[7]) + ((r2 ^^^ r3) ^^^ r4)) + ((y2[6]) ^^^ ((y2[4]) &&& ((y2[5]) ^^^ (y2[6]))))) + x1)), (52, u32.slot x2)]) (H' := [box b4 106 R_hash_state y2, box b2 106 R_hash_state (Vector.replicate 8 (0#32)), box b1 106 R_hash_state p_s]) (.cons (.of_lk rfl) <| .cons (.of_lk rfl) <| .cons (.of_lk rfl) <| .cons (.of_lk rfl) <| .cons (.of_lk rfl) <| .cons (.of_lk rfl) <| .cons (.of_lk rfl) <| .nil) (.cons .here <| .cons .here <| .cons .here <| .nil) ?_)
      refine jp (pj_uadd (k := .u32) (b := 32) rfl rfl (ht rfl) (ht rfl)) rfl rfl rfl ?_
      obtain ⟨x3, e8, h⟩ := bind_some h
      refine jp (PJ.eqv (pa (ht rfl)) (oi e8)) rfl rfl rfl ?_
      refine j_end ?_
      refine rs ?_
      obtain ⟨r5, e9, h⟩ := bind_some h
      obtain ⟨r6, e10, h⟩ := bind_some h
      obtain ⟨r7, e11, h⟩ := bind_some h
      refine run_draw (n := 10) (by kernel_rfl) (by kernel_rfl) (by kernel_rfl) (by kernel_rfl) (.read (.plain rfl (pj_index_arr (n := 8) (sz := 1) (ht rfl) has_i64 isInt_i64 (by decide) (by decide) (by kernel_rfl))) <| .read (.plain rfl (pj_load_box (ht rfl) .here (Path.then (Path.all R_hash_state) (Path.at 8 u32 0 (by decide))) (by kernel_rfl))) <| .read (.plain rfl (pj_call (hc (ht rfl) <| hc has_i64 <| hasL_nil) (by kernel_rfl) (c_math_bits_RotateLeft32 e9))) <| .read (.plain rfl (pj_index_arr (n := 8) (sz := 1) (ht rfl) has_i64 isInt_i64 (by decide) (by decide) (by kernel_rfl))) <| .read (.plain rfl (pj_load_box (ht rfl) .here (Path.then (Path.all R_hash_state) (Path.at 8 u32 0 (by decide))) (by kernel_rfl))) <| .read (.plain rfl (pj_call (hc (ht rfl) <| hc has_i64 <| hasL_nil) (by kernel_rfl) (c_math_bits_RotateLeft32 e10))) <| .read (.plain rfl (pj_uxor (k := .u32) (b := 32) rfl rfl (ht rfl) (ht rfl))) <| .read (.plain rfl (pj_index_arr (n := 8) (sz := 1) (ht rfl) has_i64 isInt_i64 (by decide) (by decide) (by kernel_rfl))) <| .read (.plain rfl (pj_load_box (ht rfl) .here (Path.then (Path.all R_hash_state) (Path.at 8 u32 0 (by decide))) (by kernel_rfl))) <| .read (.plain rfl (pj_call (hc (ht rfl) <| hc has_i64 <| hasL_nil) (by kernel_rfl) (c_math_bits_RotateLeft32 e11))) <| .nil) (j_to (Γ' := [(2, val (.pointer (some ⟨b1, 0, none⟩))), (4, val (.pointer (some ⟨b2, 0, none⟩))), (5, ptrTo (vec 64 u32) r1), (6, val (.pointer (some ⟨b4, 0, none⟩))), (9, u32.slot x3), (16, i64.slot y1), (60, u32.slot (r5 ^^^ r6)), (63, u32.slot r7)]) (H' := [box b4 106 R_hash_state y2, box b2 106 R_hash_state (Vector.replicate 8 (0#32)), box b1 106 R_hash_state p_s]) (.cons (.of_lk rfl) <| .cons (.of_lk rfl) <| .cons (.of_lk rfl) <| .cons (.of_lk rfl) <| .cons (.of_lk rfl) <| .cons (.of_lk rfl) <| .cons (.of_lk rfl) <| .cons (.of_lk rfl) <| .nil) (.cons .here <| .cons .here <| .cons .here <| .nil) ?_)
      refine jp (pj_uxor (k := .u32) (b := 32) rfl rfl (ht rfl) (ht rfl)) rfl rfl rfl ?_
      refine jp (pa (ht rfl)) rfl rfl rfl ?_
      refine j_end ?_
      refine rs ?_
      refine rt ?_
      refine jp (pm (ht rfl)) rfl rfl rfl ?_
      refine jp (pj_index_arr (n := 8) (sz := 1) (ht rfl) has_i64 isInt_i64 (by decide) (by decide) (by kernel_rfl)) rfl rfl rfl ?_
      refine jp (pj_load_box (ht rfl) .here (Path.then (Path.all R_hash_state) (Path.at 8 u32 0 (by decide))) (by kernel_rfl)) rfl rfl rfl ?_
      refine jp (pj_index_arr (n := 8) (sz := 1) (ht rfl) has_i64 isInt_i64 (by decide) (by decide) (by kernel_rfl)) rfl rfl rfl ?_
      refine jp (pj_load_box (ht rfl) .here (Path.then (Path.all R_hash_state) (Path.at 8 u32 1 (by decide))) (by kernel_rfl)) rfl rfl rfl ?_
      refine jp (pj_uand (k := .u32) (b := 32) rfl rfl (ht rfl) (ht rfl)) rfl rfl rfl ?_
      refine jp (pj_index_arr (n := 8) (sz := 1) (ht rfl) has_i64 isInt_i64 (by decide) (by decide) (by kernel_rfl)) rfl rfl rfl ?_
      refine jp (pj_load_box (ht rfl) .here (Path.then (Path.all R_hash_state) (Path.at 8 u32 2 (by decide))) (by kernel_rfl)) rfl rfl rfl ?_
      refine jp (pj_index_arr (n := 8) (sz := 1) (ht rfl) has_i64 isInt_i64 (by decide) (by decide) (by kernel_rfl)) rfl rfl rfl ?_
      refine jp (pj_load_box (ht rfl) .here (Path.then (Path.all R_hash_state) (Path.at 8 u32 0 (by decide))) (by kernel_rfl)) rfl rfl rfl ?_
      refine jp (pj_index_arr (n := 8) (sz := 1) (ht rfl) has_i64 isInt_i64 (by decide) (by decide) (by kernel_rfl)) rfl rfl rfl ?_
      refine jp (pj_load_box (ht rfl) .here (Path.then (Path.all R_hash_state) (Path.at 8 u32 1 (by decide))) (by kernel_rfl)) rfl rfl rfl ?_
      refine jp (pj_uor (k := .u32) (b := 32) rfl rfl (ht rfl) (ht rfl)) rfl rfl rfl ?_
      refine jp (pj_uand (k := .u32) (b := 32) rfl rfl (ht rfl) (ht rfl)) rfl rfl rfl ?_
      refine jp (pj_uor (k := .u32) (b := 32) rfl rfl (ht rfl) (ht rfl)) rfl rfl rfl ?_
      refine jp (pj_uadd (k := .u32) (b := 32) rfl rfl (ht rfl) (ht rfl)) rfl rfl rfl ?_
      obtain ⟨x4, e12, h⟩ := bind_some h
      refine jp (PJ.eqv (pa (ht rfl)) (oi e12)) rfl rfl rfl ?_
      refine j_end ?_
      refine rt ?_
      refine jp (pm (ht rfl)) rfl rfl rfl ?_
      refine jp (pm (ht rfl)) rfl rfl rfl ?_
      refine jp (pj_uadd (k := .u32) (b := 32) rfl rfl (ht rfl) (ht rfl)) rfl rfl rfl ?_
      refine jp (pj_index_arr (n := 8) (sz := 1) (ht rfl) has_i64 isInt_i64 (by decide) (by decide) (by kernel_rfl)) rfl rfl rfl ?_
      refine jp (pj_load_box (ht rfl) .here (Path.then (Path.all R_hash_state) (Path.at 8 u32 0 (by decide))) (by kernel_rfl)) rfl rfl rfl ?_
      refine jp (pj_index_arr (n := 8) (sz := 1) (ht rfl) has_i64 isInt_i64 (by decide) (by decide) (by kernel_rfl)) rfl rfl rfl ?_
      refine jp (pj_load_box (ht rfl) .here (Path.then (Path.all R_hash_state) (Path.at 8 u32 1 (by decide))) (by kernel_rfl)) rfl rfl rfl ?_
      refine jp (pj_index_arr (n := 8) (sz := 1) (ht rfl) has_i64 isInt_i64 (by decide) (by decide) (by kernel_rfl)) rfl rfl rfl ?_
      refine jp (pj_load_box (ht rfl) .here (Path.then (Path.all R_hash_state) (Path.at 8 u32 2 (by decide))) (by kernel_rfl)) rfl rfl rfl ?_
      refine jp (pj_index_arr (n := 8) (sz := 1) (ht rfl) has_i64 isInt_i64 (by decide) (by decide) (by kernel_rfl)) rfl rfl rfl ?_
      refine jp (pj_load_box (ht rfl) .here (Path.then (Path.all R_hash_state) (Path.at 8 u32 3 (by decide))) (by kernel_rfl)) rfl rfl rfl ?_
      refine jp (pm (ht rfl)) rfl rfl rfl ?_
      refine jp (pj_uadd (k := .u32) (b := 32) rfl rfl (ht rfl) (ht rfl)) rfl rfl rfl ?_
      refine jp (pj_index_arr (n := 8) (sz := 1) (ht rfl) has_i64 isInt_i64 (by decide) (by decide) (by kernel_rfl)) rfl rfl rfl ?_
      refine jp (pj_load_box (ht rfl) .here (Path.then (Path.all R_hash_state) (Path.at 8 u32 4 (by decide))) (by kernel_rfl)) rfl rfl rfl ?_
      refine jp (pj_index_arr (n := 8) (sz := 1) (ht rfl) has_i64 isInt_i64 (by decide) (by decide) (by kernel_rfl)) rfl rfl rfl ?_
      refine jp (pj_load_box (ht rfl) .here (Path.then (Path.all R_hash_state) (Path.at 8 u32 5 (by decide))) (by kernel_rfl)) rfl rfl rfl ?_
      refine jp (pj_index_arr (n := 8) (sz := 1) (ht rfl) has_i64 isInt_i64 (by decide) (by decide) (by kernel_rfl)) rfl rfl rfl ?_
      refine jp (pj_load_box (ht rfl) .here (Path.then (Path.all R_hash_state) (Path.at 8 u32 6 (by decide))) (by kernel_rfl)) rfl rfl rfl ?_
      obtain ⟨x5, e13, h⟩ := bind_some h
      refine jp (PJ.eqv (pj_buildArr (z0 := 0#32) (zero_vec 8 zero_un) (by kernel_rfl) (.cons (ht rfl) (.cons (ht rfl) (.cons (ht rfl) (.cons (ht rfl) (.cons (ht rfl) (.cons (ht rfl) (.cons (ht rfl) (.cons (ht rfl) .nil)))))))) (by kernel_rfl) rfl) (oi e13)) rfl rfl rfl ?_
      refine j_store_boxx (r' := x5) (ht rfl) (ht rfl) .here (Path.all R_hash_state) (by kernel_rfl) rfl ?_
      refine j_end ?_
      refine run_endblock ?_
      refine rt ?_
      refine jp (pj_iadd (ht rfl) has_i64) rfl rfl rfl ?_
      refine jp (pm (ht rfl)) rfl rfl rfl ?_
      refine j_end ?_
      obtain rfl := oi h
      exact run_next () (.cons (.of_lk rfl) <| .cons (.of_lk rfl) <| .cons (.of_lk rfl) <| .cons (.of_lk rfl) <| .cons (.of_lk rfl) <| .nil) (.cons .here <| .cons .here <| .cons .here <| .nil)
    · replace h := bf e2 h
      obtain rfl := oi h
      exact run_brk () (.cons (.of_lk rfl) <| .cons (.of_lk rfl) <| .cons (.of_lk rfl) <| .cons (.of_lk rfl) <| .cons (.of_lk rfl) <| .nil) (.cons .here <| .cons .here <| .cons .here <| .nil)
  · rintro _
    show Run _ _ _ [(2, val (.pointer (some ⟨b1, 0, none⟩))), (4, val (.pointer (some ⟨b2, 0, none⟩))), (5, ptrTo (vec 64 u32) r1), (6, val (.pointer (some ⟨b4, 0, none⟩))), (16, i64.slot y3)] [box b4 106 R_hash_state y4, box b2 106 R_hash_state (Vector.replicate 8 (0#32)), box b1 106 R_hash_state p_s]
    refine run_to (Γ' := [(2, val (.pointer (some ⟨b1, 0, none⟩))), (4, val (.pointer (some ⟨b2, 0, none⟩))), (6, val (.pointer (some ⟨b4, 0, none⟩)))]) (H' := [box b4 106 R_hash_state y4, box b2 106 R_hash_state (Vector.replicate 8 (0#32)), box b1 106 R_hash_state p_s]) (.cons (.of_lk rfl) <| .cons (.of_lk rfl) <| .cons (.of_lk rfl) <| .nil) (.cons .here <| .cons .here <| .cons .here <| .nil) ?_
    refine rs ?_
    refine rs ?_
    refine rt ?_
    refine jp (pm has_i64) rfl rfl rfl ?_
    refine j_end ?_
    obtain ⟨⟨y7, y8⟩, e19, h⟩ := bind_some h
    refine run_loopS (Γi := fun (i : Unit) (s : Int × T_hash_state) => [(2, val (.pointer (some ⟨b1, 0, none⟩))), (4, val (.pointer (some ⟨b2, 0, none⟩))), (6, val (.pointer (some ⟨b4, 0, none⟩))), (102, i64.slot s.1)]) (Hi := fun (i : Unit) (s : Int × T_hash_state) => [box b4 106 R_hash_state y4, box b2 106 R_hash_state (Vector.replicate 8 (0#32)), box b1 106 R_hash_state s.2]) e19 () (fun a w hst => (hst.sub (.cons (.of_lk rfl) <| .cons (.of_lk rfl) <| .cons (.of_lk rfl) <| .cons (.of_lk rfl) <| .nil)).keep (.cons .here <| .cons .here <| .cons .here <| .nil)) ?_ ?_
    · clear h e19
      rintro _ ⟨y5, y6⟩ lr h
      change hash_state_block_L2 y4 y5 y6 = some _ at h
      show Run _ _ _ [(2, val (.pointer (some ⟨b1, 0, none⟩))), (4, val (.pointer (some ⟨b2, 0, none⟩))), (6, val (.pointer (some ⟨b4, 0, none⟩))), (102, i64.slot y5)] [box b4 106 R_hash_state y4, box b2 106 R_hash_state (Vector.replicate 8 (0#32)), box b1 106 R_hash_state y6]
      unfold hash_state_block_L2 at h
      refine rs ?_
      refine rt ?_
      refine jp (pj_ilss (ht rfl) has_i64) rfl rfl rfl ?_
      refine j_end ?_
      refine rs ?_
      refine run_cond (ht rfl) (fun e15 => ?_) (fun e15 => ?_)
      · replace h := bt e15 h
        refine run_skip ?_
        refine rs ?_
        refine run_block ?_
        refine rs ?_
        refine rt ?_
        refine jp (pm (ht rfl)) rfl rfl rfl ?_
        refine jp (pa (ht rfl)) rfl rfl rfl ?_
        refine j_end ?_
        obtain ⟨x6, e16, h⟩ := bind_some h
        obtain ⟨x7, e17, h⟩ := bind_some h
        refine run_draw (n := 6) (by kernel_rfl) (by kernel_rfl) (by kernel_rfl) (by kernel_rfl) (.read (.plain rfl (pm (ht rfl))) <| .read (.plain rfl (pj_index_arr (n := 8) (sz := 1) (ht rfl) (ht rfl) isInt_i64 (vget_some e16).1 (vget_lt e16) (by kernel_rfl))) <| .read (.plain rfl (PJ.eqv (pj_load_box (ht rfl) (.next (.next .here)) (Path.then (Path.all R_hash_state) (Path.atI 8 u32 y5.toNat (vget_some e16).2.1)) (by kernel_rfl)) (vget_eq e16 (vget_some e16).2.1))) <| .read (.plain rfl (pm (ht rfl))) <| .read (.plain rfl (pj_index_arr (n := 8) (sz := 1) (ht rfl) (ht rfl) isInt_i64 (vget_some e17).1 (vget_lt e17) (by kernel_rfl))) <| .read (.plain rfl (PJ.eqv (pj_load_box (ht rfl) .here (Path.then (Path.all R_hash_state) (Path.atI 8 u32 y5.toNat (vget_some e17).2.1)) (by kernel_rfl)) (vget_eq e17 (vget_some e17).2.1))) <| .nil) (j_to (Γ' := [(2, val (.pointer (some ⟨b1, 0, none⟩))), (4, val (.pointer (some ⟨b2, 0, none⟩))), (6, val (.pointer (some ⟨b4, 0, none⟩))), (102, i64.slot y5), (105, i64.slot y5), (107, u32.slot x6), (110, u32.slot x7)]) (H' := [box b4 106 R_hash_state y4, box b2 106 R_hash_state (Vector.replicate 8 (0#32)), box b1 106 R_hash_state y6]) (.cons (.of_lk rfl) <| .cons (.of_lk rfl) <| .cons (.of_lk rfl) <| .cons (.of_lk rfl) <| .cons (.of_lk rfl) <| .cons (.of_lk rfl) <| .cons (.of_lk rfl) <| .nil) (.cons .here <| .cons .here <| .cons .here <| .nil) ?_)
        refine jp (pj_uadd (k := .u32) (b := 32) rfl rfl (ht rfl) (ht rfl)) rfl rfl rfl ?_
        obtain ⟨e18, h⟩ := grd_some h
        refine jp (pj_index_arr (n := 8) (sz := 1) (ht rfl) (ht rfl) isInt_i64 e18.1 e18.2 (by kernel_rfl)) rfl rfl rfl ?_
        refine j_store_boxx (r' := (y6.setIfInBounds y5.toNat (x6 + x7))) (ht rfl) (ht rfl) (.next (.next .here)) (Path.then (Path.all R_hash_state) (Path.atI 8 u32 y5.toNat (lt_nat e18))) (by kernel_rfl) rfl ?_
        refine j_end ?_
        refine run_endblock ?_
        refine rt ?_
        refine jp (pj_iadd (ht rfl) has_i64) rfl rfl rfl ?_
        refine jp (pm (ht rfl)) rfl rfl rfl ?_
        refine j_end ?_
        obtain rfl := oi h
        exact run_next () (.cons (.of_lk rfl) <| .cons (.of_lk rfl) <| .cons (.of_lk rfl) <| .cons (.of_lk rfl) <| .nil) (.cons (.next .here) <| .cons (.next .here) <| .cons .here <| .nil)
      · replace h := bf e15 h
        obtain rfl := oi h
        exact run_brk () (.cons (.of_lk rfl) <| .cons (.of_lk rfl) <| .cons (.of_lk rfl) <| .cons (.of_lk rfl) <| .nil) (.cons .here <| .cons .here <| .cons .here <| .nil)
    · rintro _
      show Run _ _ _ [(2, val (.pointer (some ⟨b1, 0, none⟩))), (4, val (.pointer (some ⟨b2, 0, none⟩))), (6, val (.pointer (some ⟨b4, 0, none⟩))), (102, i64.slot y7)] [box b4 106 R_hash_state y4, box b2 106 R_hash_state (Vector.replicate 8 (0#32)), box b1 106 R_hash_state y8]
      refine run_to (Γ' := [(2, val (.pointer (some ⟨b1, 0, none⟩))), (4, val (.pointer (some ⟨b2, 0, none⟩)))]) (H' := [box b2 106 R_hash_state (Vector.replicate 8 (0#32)), box b1 106 R_hash_state y8]) (.cons (.of_lk rfl) <| .cons (.of_lk rfl) <| .nil) (.cons (.next .here) <| .cons (.next .here) <| .nil) ?_
      refine rs ?_
      refine rt ?_
      refine jp (pj_load_box (ht rfl) (.next .here) (Path.all R_hash_state) (by kernel_rfl)) rfl rfl rfl ?_
      refine j_store_boxx (r' := y8) (ht rfl) (ht rfl) .here (Path.all R_hash_state) (by kernel_rfl) rfl ?_
      refine j_end ?_
      obtain rfl := oi h
      exact run_ret fun a w hst => q_ret1 hst rfl (.cell rfl .here (by kernel_rfl)) () (fun _ _ h => h) (.nil)
set_option maxRecDepth 100000 in
set_option maxHeartbeats 4000000 in
theorem c_hash_Sum {G : GP} (hg0 : HG0 G) (hg1 : HG1 G) {p_b : List (BitVec 8)} {r : T_api_Hash} (h : hash_Sum p_b = some r) : Ctr Tryd.prog G 55 [(sl u8).slot p_b] [] (fun (_ : Unit) => R_api_Hash.slot r) (fun (_ : Unit) => []) := by
  unfold hash_Sum at h
  refine ctr_of_run Tryd.func55 rfl 71 rfl rfl fun m0 w0 b0 => ?_
  show Run _ _ _ [(0, (sl u8).slot p_b)] _
  refine rs ?_
  refine rt ?_
  refine j_alloc (x := (Vector.replicate 32 (0#8))) (R := R_api_Hash) (zero_vec 32 zero_un) (by kernel_rfl) rfl fun b1 => ?_
  refine j_end ?_
  refine rs ?_
  refine rt ?_
  refine jp (pj_load_gx (y := G_hash_begin) hg0 (by kernel_rfl)) rfl rfl rfl ?_
  refine j_alloc (x := (Vector.replicate 8 (0#32))) (R := R_hash_state) (zero_vec 8 zero_un) (by kernel_rfl) rfl fun b2 => ?_
  refine j_store_boxx (r' := G_hash_begin) (ht rfl) (ht rfl) .here (Path.all R_hash_state) (by kernel_rfl) rfl ?_
  refine j_end ?_
  refine rs ?_
  refine rt ?_
  refine jp (pm (ht rfl)) rfl rfl rfl ?_
  refine jp (pj_len_sl (sz := 1) (ht rfl) (by kernel_rfl)) rfl rfl rfl ?_
  refine jp (pj_conv_un (k := .u64) (b := 64) rfl rfl (by kernel_rfl) (ht rfl) isInt_i64) rfl rfl rfl ?_
  refine jp (pa (ht rfl)) rfl rfl rfl ?_
  refine j_end ?_
  refine rs ?_
  obtain ⟨⟨y3, y4⟩, e4, h⟩ := bind_some h
  refine run_loopS (Γi := fun (i : Unit) (s : (List (BitVec 8)) × T_hash_state) => [(0, (sl u8).slot s.1), (2, val (.pointer (some ⟨b1, 0, none⟩))), (3, val (.pointer (some ⟨b2, 0, none⟩))), (4, u64.slot (BitVec.ofInt 64 (p_b.length : Int)))]) (Hi := fun (i : Unit) (s : (List (BitVec 8)) × T_hash_state) => [box b2 106 R_hash_state s.2, box b1 25 R_api_Hash (Vector.replicate 32 (0#8))]) e4 () (fun a w hst => (hst.sub (.cons (.of_lk rfl) <| .cons (.of_lk rfl) <| .cons (.of_lk rfl) <| .cons (.of_lk rfl) <| .nil)).keep (.cons .here <| .cons .here <| .nil)) ?_ ?_
  · clear h e4
    rintro _ ⟨y1, y2⟩ lr h
    change hash_Sum_L1 y1 y2 = some _ at h
    show Run _ _ _ [(0, (sl u8).slot y1), (2, val (.pointer (some ⟨b1, 0, none⟩))), (3, val (.pointer (some ⟨b2, 0, none⟩))), (4, u64.slot (BitVec.ofInt 64 (p_b.length : Int)))] [box b2 106 R_hash_state y2, box b1 25 R_api_Hash (Vector.replicate 32 (0#8))]
    unfold hash_Sum_L1 at h
    refine rs ?_
    refine rs ?_
    refine rt ?_
    refine jp (pm (ht rfl)) rfl rfl rfl ?_
    refine jp (pj_len_sl (sz := 1) (ht rfl) (by kernel_rfl)) rfl rfl rfl ?_
    refine jp (pj_igeq (ht rfl) has_i64) rfl rfl rfl ?_
    refine j_end ?_
    refine run_cond (ht rfl) (fun e1 => ?_) (fun e1 => ?_)
    · replace h := bt e1 h
      refine run_skip ?_
      refine run_block ?_
      refine rs ?_
      refine rt ?_
      refine jp (pj_load_box (ht rfl) .here (Path.all R_hash_state) (by kernel_rfl)) rfl rfl rfl ?_
      refine jp (pm (ht rfl)) rfl rfl rfl ?_
      obtain ⟨r1, e2, h⟩ := bind_some h
      refine jp (pj_call (hc (ht rfl) <| hc (ht rfl) <| hasL_nil) (by kernel_rfl) (c_hash_state_block hg1 e2)) rfl rfl rfl ?_
      refine j_store_boxx (r' := r1) (ht rfl) (ht rfl) .here (Path.all R_hash_state) (by kernel_rfl) rfl ?_
      refine j_end ?_
      refine rt ?_
      refine jp (pm (ht rfl)) rfl rfl rfl ?_
      obtain ⟨x1, e3, h⟩ := bind_some h
      refine jp (pj_slice_slx (ht rfl) (.yes has_i64 isInt_i64) .no e3 (by kernel_rfl)) rfl rfl rfl ?_
      refine jp (pa (ht rfl)) rfl rfl rfl ?_
      refine j_end ?_
      refine run_endblock ?_
      obtain rfl := oi h
      exact run_next () (.cons (.of_lk rfl) <| .cons (.of_lk rfl) <| .cons (.of_lk rfl) <| .cons (.of_lk rfl) <| .nil) (.cons .here <| .cons .here <| .nil)
    · replace h := bf e1 h
      obtain rfl := oi h
      exact run_brk () (.cons (.of_lk rfl) <| .cons (.of_lk rfl) <| .cons (.of_lk rfl) <| .cons (.of_lk rfl) <| .nil) (.cons .here <| .cons .here <| .nil)
  · rintro _
    show Run _ _ _ [(0, (sl u8).slot y3), (2, val (.pointer (some ⟨b1, 0, none⟩))), (3, val (.pointer (some ⟨b2, 0, none⟩))), (4, u64.slot (BitVec.ofInt 64 (p_b.length : Int)))] [box b2 106 R_hash_state y4, box b1 25 R_api_Hash (Vector.replicate 32 (0#8))]
    refine run_to (Γ' := [(0, (sl u8).slot y3), (2, val (.pointer (some ⟨b1, 0, none⟩))), (3, val (.pointer (some ⟨b2, 0, none⟩))), (4, u64.slot (BitVec.ofInt 64 (p_b.length : Int)))]) (H' := [box b2 106 R_hash_state y4, box b1 25 R_api_Hash (Vector.replicate 32 (0#8))]) (.cons (.of_lk rfl) <| .cons (.of_lk rfl) <| .cons (.of_lk rfl) <| .cons (.of_lk rfl) <| .nil) (.cons .here <| .cons .here <| .nil) ?_
    refine rs ?_
    refine rt ?_
    refine j_alloc (x := (Vector.replicate 128 (0#8))) (R := (vec 128 u8)) (zero_vec 128 zero_un) (by kernel_rfl) rfl fun b3 => ?_
    refine j_end ?_
    refine rs ?_
    refine rt ?_
    refine jp (pa has_i64) rfl rfl rfl ?_
    refine j_end ?_
    refine rs ?_
    refine rs ?_
    refine rt ?_
    refine jp (pm (ht rfl)) rfl rfl rfl ?_
    refine jp (pj_len_sl (sz := 1) (ht rfl) (by kernel_rfl)) rfl rfl rfl ?_
    refine jp (pj_igeq (ht rfl) has_i64) rfl rfl rfl ?_
    refine j_end ?_
    obtain ⟨y5, e6, h⟩ := bind_some h
    refine run_joinx (ι := Unit) (Γ' := fun (_ : Unit) => [(0, (sl u8).slot y3), (2, val (.pointer (some ⟨b1, 0, none⟩))), (3, val (.pointer (some ⟨b2, 0, none⟩))), (4, u64.slot (BitVec.ofInt 64 (p_b.length : Int))), (5, val (.pointer (some ⟨b3, 0, none⟩))), (6, i64.slot y5)]) (H' := fun (_ : Unit) => [box b3 108 (vec 128 u8) (Vector.replicate 128 (0#8)), box b2 106 R_hash_state y4, box b1 25 R_api_Hash (Vector.replicate 32 (0#8))]) ?_ fun J => ?_
    · intro _
      clear e6
      show Run _ _ _ [(0, (sl u8).slot y3), (2, val (.pointer (some ⟨b1, 0, none⟩))), (3, val (.pointer (some ⟨b2, 0, none⟩))), (4, u64.slot (BitVec.ofInt 64 (p_b.length : Int))), (5, val (.pointer (some ⟨b3, 0, none⟩))), (6, i64.slot y5)] [box b3 108 (vec 128 u8) (Vector.replicate 128 (0#8)), box b2 106 R_hash_state y4, box b1 25 R_api_Hash (Vector.replicate 32 (0#8))]
      refine rs ?_
      refine rt ?_
      refine jp (pj_slice_arrc (lo := 0) (sz := 1) (n := 128) (ht rfl) .no .no 128 128 rfl (by kernel_rfl)) rfl rfl rfl ?_
      refine jp (pm (ht rfl)) rfl rfl rfl ?_
      refine j_copy_arr (lo := 0) (n := 128) (ht rfl) .here (src_data (ht rfl)) (by decide) (by kernel_rfl) rfl ?_
      refine j_end ?_
      refine rs ?_
      refine rt ?_
      refine jp (pm (ht rfl)) rfl rfl rfl ?_
      refine jp (pj_len_sl (sz := 1) (ht rfl) (by kernel_rfl)) rfl rfl rfl ?_
      obtain ⟨e7, h⟩ := grd_some h
      refine jp (pj_index_arr (n := 128) (sz := 1) (ht rfl) (ht rfl) isInt_i64 e7.1 e7.2 (by kernel_rfl)) rfl rfl rfl ?_
      obtain ⟨x2, e8, h⟩ := bind_some h
      refine j_store_boxx (r' := x2) (ht rfl) (has_un (x := 128#8) rfl) .here (Path.then (Path.all (vec 128 u8)) (Path.atI 128 u8 ((y3.length : Int).toNat) (lt_nat e7))) (by kernel_rfl) (oi e8) ?_
      refine j_end ?_
      refine rs ?_
      refine rs ?_
      refine rt ?_
      refine jp (pm has_i64) rfl rfl rfl ?_
      refine j_end ?_
      obtain ⟨⟨y8, y9⟩, e13, h⟩ := bind_some h
      refine run_loopS (Γi := fun (i : Unit) (s : Int × (Vector (BitVec 8) 128)) => [(2, val (.pointer (some ⟨b1, 0, none⟩))), (3, val (.pointer (some ⟨b2, 0, none⟩))), (4, u64.slot (BitVec.ofInt 64 (p_b.length : Int))), (5, val (.pointer (some ⟨b3, 0, none⟩))), (6, i64.slot y5), (31, i64.slot s.1)]) (Hi := fun (i : Unit) (s : Int × (Vector (BitVec 8) 128)) => [box b3 108 (vec 128 u8) s.2, box b2 106 R_hash_state y4, box b1 25 R_api_Hash (Vector.replicate 32 (0#8))]) e13 () (fun a w hst => (hst.sub (.cons (.of_lk rfl) <| .cons (.of_lk rfl) <| .cons (.of_lk rfl) <| .cons (.of_lk rfl) <| .cons (.of_lk rfl) <| .cons (.of_lk rfl) <| .nil)).keep (.cons .here <| .cons .here <| .cons .here <| .nil)) ?_ ?_
      · clear h e13
        rintro _ ⟨y6, y7⟩ lr h
        change hash_Sum_L2 y5 p_b y6 y7 = some _ at h
        show Run _ _ _ [(2, val (.pointer (some ⟨b1, 0, none⟩))), (3, val (.pointer (some ⟨b2, 0, none⟩))), (4, u64.slot (BitVec.ofInt 64 (p_b.length : Int))), (5, val (.pointer (some ⟨b3, 0, none⟩))), (6, i64.slot y5), (31, i64.slot y6)] [box b3 108 (vec 128 u8) y7, box b2 106 R_hash_state y4, box b1 25 R_api_Hash (Vector.replicate 32 (0#8))]
        unfold hash_Sum_L2 at h
        refine rs ?_
        refine rt ?_
        refine jp (pj_ilss (ht rfl) has_i64) rfl rfl rfl ?_
        refine j_end ?_
        refine rs ?_
        refine run_cond (ht rfl) (fun e9 => ?_) (fun e9 => ?_)
        · replace h := bt e9 h
          refine run_skip ?_
          refine rs ?_
          refine run_block ?_
          refine rs ?_
          refine rt ?_
          refine jp (pm (ht rfl)) rfl rfl rfl ?_
          refine jp (pa (ht rfl)) rfl rfl rfl ?_
          refine j_end ?_
          refine rt ?_
          refine jp (pm (ht rfl)) rfl rfl rfl ?_
          refine jp (pj_isub (ht rfl) has_i64) rfl rfl rfl ?_
          refine jp (pm (ht rfl)) rfl rfl rfl ?_
          refine jp (pj_isub (ht rfl) (ht rfl)) rfl rfl rfl ?_
          refine jp (pm (ht rfl)) rfl rfl rfl ?_
          refine jp (pj_ushl (k := .u64) (b := 64) rfl rfl (ht rfl) (has_un (x := 3#64) rfl) isInt_un (Int.natCast_nonneg _)) rfl rfl rfl ?_
          refine jp (pm (ht rfl)) rfl rfl rfl ?_
          refine jp (pj_imul has_i64 (ht rfl)) rfl rfl rfl ?_
          obtain ⟨e10, h⟩ := grd_some h
          refine jp (pj_ushr (k := .u64) (b := 64) rfl (ht rfl) (ht rfl) isInt_i64 e10) rfl rfl rfl ?_
          refine jp (pj_conv_uu (k := .u8) (b := 8) rfl rfl (by kernel_rfl) (ht rfl)) rfl rfl rfl ?_
          obtain ⟨e11, h⟩ := grd_some h
          refine jp (pj_index_arr (n := 128) (sz := 1) (ht rfl) (ht rfl) isInt_i64 e11.1 e11.2 (by kernel_rfl)) rfl rfl rfl ?_
          obtain ⟨x3, e12, h⟩ := bind_some h
          refine j_store_boxx (r' := x3) (ht rfl) (ht rfl) .here (Path.then (Path.all (vec 128 u8)) (Path.atI 128 u8 ((w64 ((w64 (y5 - (1 : Int))) - y6)).toNat) (lt_nat e11))) (by kernel_rfl) (oi e12) ?_
          refine j_end ?_
          refine run_endblock ?_
          refine rt ?_
          refine jp (pj_iadd (ht rfl) has_i64) rfl rfl rfl ?_
          refine jp (pm (ht rfl)) rfl rfl rfl ?_
          refine j_end ?_
          obtain rfl := oi h
          exact run_next () (.cons (.of_lk rfl) <| .cons (.of_lk rfl) <| .cons (.of_lk rfl) <| .cons (.of_lk rfl) <| .cons (.of_lk rfl) <| .cons (.of_lk rfl) <| .nil) (.cons .here <| .cons .here <| .cons .here <| .nil)
        · replace h := bf e9 h
          obtain rfl := oi h
          exact run_brk () (.cons (.of_lk rfl) <| .cons (.of_lk rfl) <| .cons (.of_lk rfl) <| .cons (.of_lk rfl) <| .cons (.of_lk rfl) <| .cons (.of_lk rfl) <| .nil) (.cons .here <| .cons .here <| .cons .here <| .nil)
      · rintro _
        show Run _ _ _ [(2, val (.pointer (some ⟨b1, 0, none⟩))), (3, val (.pointer (some ⟨b2, 0, none⟩))), (4, u64.slot (BitVec.ofInt 64 (p_b.length : Int))), (5, val (.pointer (some ⟨b3, 0, none⟩))), (6, i64.slot y5), (31, i64.slot y8)] [box b3 108 (vec 128 u8) y9, box b2 106 R_hash_state y4, box b1 25 R_api_Hash (Vector.replicate 32 (0#8))]
        refine run_to (Γ' := [(2, val (.pointer (some ⟨b1, 0, none⟩))), (3, val (.pointer (some ⟨b2, 0, none⟩))), (5, val (.pointer (some ⟨b3, 0, none⟩))), (6, i64.slot y5)]) (H' := [box b3 108 (vec 128 u8) y9, box b2 106 R_hash_state y4, box b1 25 R_api_Hash (Vector.replicate 32 (0#8))]) (.cons (.of_lk rfl) <| .cons (.of_lk rfl) <| .cons (.of_lk rfl) <| .cons (.of_lk rfl) <| .nil) (.cons .here <| .cons .here <| .cons .here <| .nil) ?_
        refine rs ?_
        refine run_draw (n := 2) (by kernel_rfl) (by kernel_rfl) (by kernel_rfl) (by kernel_rfl) (.read (.plain rfl (pj_load_box (ht rfl) (.next .here) (Path.all R_hash_state) (by kernel_rfl))) <| .read (.plain rfl (pj_slice_arrc (lo := 0) (sz := 1) (n := 128) (ht rfl) .no .no 128 128 rfl (by kernel_rfl))) <| .nil) (j_to (Γ' := [(2, val (.pointer (some ⟨b1, 0, none⟩))), (3, val (.pointer (some ⟨b2, 0, none⟩))), (5, val (.pointer (some ⟨b3, 0, none⟩))), (6, i64.slot y5), (46, R_hash_state.slot y4), (47, val (.slice (some ⟨b3, 0 * 1, none⟩) 128 128))]) (H' := [box b3 108 (vec 128 u8) y9, box b2 106 R_hash_state y4, box b1 25 R_api_Hash (Vector.replicate 32 (0#8))]) (.cons (.of_lk rfl) <| .cons (.of_lk rfl) <| .cons (.of_lk rfl) <| .cons (.of_lk rfl) <| .cons (.of_lk rfl) <| .cons (.of_lk rfl) <| .nil) (.cons .here <| .cons .here <| .cons .here <| .nil) ?_)
        obtain ⟨r2, e14, h⟩ := bind_some h
        refine jp (pj_callB (hasBL_cons (hasB_of (ht rfl)) <| hasBL_cons (hasB_arrF (ht rfl) .here (by decide)) <| hasBL_nil) (by kernel_rfl) (c_hash_state_block hg1 e14) (Rep.flat_slot (flat_vec _ (flat_un _ _)) _)) rfl rfl rfl ?_
        refine j_store_boxx (r' := r2) (ht rfl) (ht rfl) (.next .here) (Path.all R_hash_state) (by kernel_rfl) rfl ?_
        refine j_end ?_
        refine rs ?_
        refine rs ?_
        refine rt ?_
        refine jp (pm (ht rfl)) rfl rfl rfl ?_
        refine jp (pj_ieql (ht rfl) has_i64) rfl rfl rfl ?_
        refine j_end ?_
        obtain ⟨y10, e17, h⟩ := bind_some h
        refine run_joinx (ι := Unit) (Γ' := fun (_ : Unit) => [(2, val (.pointer (some ⟨b1, 0, none⟩))), (3, val (.pointer (some ⟨b2, 0, none⟩)))]) (H' := fun (_ : Unit) => [box b2 106 R_hash_state y10, box b1 25 R_api_Hash (Vector.replicate 32 (0#8))]) ?_ fun J => ?_
        · intro _
          clear e17
          show Run _ _ _ [(2, val (.pointer (some ⟨b1, 0, none⟩))), (3, val (.pointer (some ⟨b2, 0, none⟩)))] [box b2 106 R_hash_state y10, box b1 25 R_api_Hash (Vector.replicate 32 (0#8))]
          refine rs ?_
          refine rt ?_
          refine j_alloc (x := (Vector.replicate 32 (0#8))) (R := R_api_Hash) (zero_vec 32 zero_un) (by kernel_rfl) rfl fun b4 => ?_
          refine j_end ?_
          refine rs ?_
          refine rs ?_
          refine rt ?_
          refine jp (pm has_i64) rfl rfl rfl ?_
          refine j_end ?_
          obtain ⟨⟨y13, y14⟩, e23, h⟩ := bind_some h
          refine run_loopS (Γi := fun (i : Unit) (s : Int × T_api_Hash) => [(2, val (.pointer (some ⟨b1, 0, none⟩))), (3, val (.pointer (some ⟨b2, 0, none⟩))), (8, val (.pointer (some ⟨b4, 0, none⟩))), (54, i64.slot s.1)]) (Hi := fun (i : Unit) (s : Int × T_api_Hash) => [box b4 25 R_api_Hash s.2, box b2 106 R_hash_state y10, box b1 25 R_api_Hash (Vector.replicate 32 (0#8))]) e23 () (fun a w hst => (hst.sub (.cons (.of_lk rfl) <| .cons (.of_lk rfl) <| .cons (.of_lk rfl) <| .cons (.of_lk rfl) <| .nil)).keep (.cons .here <| .cons .here <| .cons .here <| .nil)) ?_ ?_
          · clear h e23
            rintro _ ⟨y11, y12⟩ lr h
            change hash_Sum_L3 y10 y11 y12 = some _ at h
            show Run _ _ _ [(2, val (.pointer (some ⟨b1, 0, none⟩))), (3, val (.pointer (some ⟨b2, 0, none⟩))), (8, val (.pointer (some ⟨b4, 0, none⟩))), (54, i64.slot y11)] [box b4 25 R_api_Hash y12, box b2 106 R_hash_state y10, box b1 25 R_api_Hash (Vector.replicate 32 (0#8))]
            unfold hash_Sum_L3 at h
            refine rs ?_
            refine rt ?_
            refine jp (pj_ilss (ht rfl) has_i64) rfl rfl rfl ?_
            refine j_end ?_
            refine rs ?_
            refine run_cond (ht rfl) (fun e18 => ?_) (fun e18 => ?_)
            · replace h := bt e18 h
              refine run_skip ?_
              refine rs ?_
              refine run_block ?_
              refine rs ?_
              refine rt ?_
              refine jp (pm (ht rfl)) rfl rfl rfl ?_
              refine jp (pa (ht rfl)) rfl rfl rfl ?_
              refine j_end ?_
              refine rt ?_
              refine jp (pm (ht rfl)) rfl rfl rfl ?_
              refine jp (pm (ht rfl)) rfl rfl rfl ?_
              refine jp (pj_iquo (ht rfl) has_i64 (by decide)) rfl rfl rfl ?_
              obtain ⟨x4, e19, h⟩ := bind_some h
              refine jp (pj_index_arr (n := 8) (sz := 1) (ht rfl) (ht rfl) isInt_i64 (vget_some e19).1 (vget_lt e19) (by kernel_rfl)) rfl rfl rfl ?_
              refine jp (PJ.eqv (pj_load_box (ht rfl) (.next .here) (Path.then (Path.all R_hash_state) (Path.atI 8 u32 ((w64 (Int.tdiv y11 (4 : Int))).toNat) (vget_some e19).2.1)) (by kernel_rfl)) (vget_eq e19 (vget_some e19).2.1)) rfl rfl rfl ?_
              refine jp (pm (ht rfl)) rfl rfl rfl ?_
              refine jp (pj_irem (ht rfl) has_i64 (by decide)) rfl rfl rfl ?_
              refine jp (pj_imul has_i64 (ht rfl)) rfl rfl rfl ?_
              refine jp (pj_isub has_i64 (ht rfl)) rfl rfl rfl ?_
              obtain ⟨e20, h⟩ := grd_some h
              refine jp (pj_ushr (k := .u32) (b := 32) rfl (ht rfl) (ht rfl) isInt_i64 e20) rfl rfl rfl ?_
              refine jp (pj_conv_uu (k := .u8) (b := 8) rfl rfl (by kernel_rfl) (ht rfl)) rfl rfl rfl ?_
              obtain ⟨e21, h⟩ := grd_some h
              refine jp (pj_index_arr (n := 32) (sz := 1) (ht rfl) (ht rfl) isInt_i64 e21.1 e21.2 (by kernel_rfl)) rfl rfl rfl ?_
              obtain ⟨x5, e22, h⟩ := bind_some h
              refine j_store_boxx (r' := x5) (ht rfl) (ht rfl) .here (Path.then (Path.all R_api_Hash) (Path.atI 32 u8 y11.toNat (lt_nat e21))) (by kernel_rfl) (oi e22) ?_
              refine j_end ?_
              refine run_endblock ?_
              refine rt ?_
              refine jp (pj_iadd (ht rfl) has_i64) rfl rfl rfl ?_
              refine jp (pm (ht rfl)) rfl rfl rfl ?_
              refine j_end ?_
              obtain rfl := oi h
              exact run_next () (.cons (.of_lk rfl) <| .cons (.of_lk rfl) <| .cons (.of_lk rfl) <| .cons (.of_lk rfl) <| .nil) (.cons .here <| .cons .here <| .cons .here <| .nil)
            · replace h := bf e18 h
              obtain rfl := oi h
              exact run_brk () (.cons (.of_lk rfl) <| .cons (.of_lk rfl) <| .cons (.of_lk rfl) <| .cons (.of_lk rfl) <| .nil) (.cons .here <| .cons .here <| .cons .here <| .nil)
          · rintro _
            show Run _ _ _ [(2, val (.pointer (some ⟨b1, 0, none⟩))), (3, val (.pointer (some ⟨b2, 0, none⟩))), (8, val (.pointer (some ⟨b4, 0, none⟩))), (54, i64.slot y13)] [box b4 25 R_api_Hash y14, box b2 106 R_hash_state y10, box b1 25 R_api_Hash (Vector.replicate 32 (0#8))]
            refine run_to (Γ' := [(2, val (.pointer (some ⟨b1, 0, none⟩))), (8, val (.pointer (some ⟨b4, 0, none⟩)))]) (H' := [box b4 25 R_api_Hash y14, box b1 25 R_api_Hash (Vector.replicate 32 (0#8))]) (.cons (.of_lk rfl) <| .cons (.of_lk rfl) <| .nil) (.cons .here <| .cons (.next .here) <| .nil) ?_
            refine rs ?_
            refine rt ?_
            refine jp (pj_load_box (ht rfl) .here (Path.all R_api_Hash) (by kernel_rfl)) rfl rfl rfl ?_
            refine j_store_boxx (r' := y14) (ht rfl) (ht rfl) (.next .here) (Path.all R_api_Hash) (by kernel_rfl) rfl ?_
            refine j_end ?_
            obtain rfl := oi h
            exact run_ret fun a w hst => q_ret1 hst rfl (.cell rfl .here (by kernel_rfl)) () (fun _ _ h => h) (.nil)
        · refine run_cond (ht rfl) (fun e15 => ?_) (fun e15 => ?_)
          · replace h := bt e15 e17
            refine run_draw (n := 2) (by kernel_rfl) (by kernel_rfl) (by kernel_rfl) (by kernel_rfl) (.read (.plain rfl (pj_load_box (ht rfl) .here (Path.all R_hash_state) (by kernel_rfl))) <| .read (.plain rfl (pj_slice_arrc (lo := 64) (sz := 1) (n := 128) (ht rfl) (.yes has_i64 isInt_i64) .no 64 64 rfl (by kernel_rfl))) <| .nil) (j_to (Γ' := [(2, val (.pointer (some ⟨b1, 0, none⟩))), (3, val (.pointer (some ⟨b2, 0, none⟩))), (51, R_hash_state.slot r2), (52, val (.slice (some ⟨b3, 64 * 1, none⟩) 64 64))]) (H' := [box b2 106 R_hash_state r2, box b3 108 (vec 128 u8) y9, box b1 25 R_api_Hash (Vector.replicate 32 (0#8))]) (.cons (.of_lk rfl) <| .cons (.of_lk rfl) <| .cons (.of_lk rfl) <| .cons (.of_lk rfl) <| .nil) (.cons .here <| .cons .here <| .cons .here <| .nil) ?_)
            obtain ⟨r3, e16, h⟩ := bind_some h
            refine jp (pj_callB (hasBL_cons (hasB_of (ht rfl)) <| hasBL_cons (hasB_arr (lo := 64) (ht rfl) (.next .here) (by decide) (by decide)) <| hasBL_nil) (by kernel_rfl) (c_hash_state_block hg1 e16) (Rep.flat_slot (flat_vec _ (flat_un _ _)) _)) rfl rfl rfl ?_
            refine j_store_boxx (r' := r3) (ht rfl) (ht rfl) .here (Path.all R_hash_state) (by kernel_rfl) rfl ?_
            refine j_end ?_
            obtain rfl := oi h
            exact run_to (.cons (.of_lk rfl) <| .cons (.of_lk rfl) <| .nil) (.cons .here <| .cons (.next .here) <| .nil) (J ())
          · replace h := bf e15 e17
            refine run_skip ?_
            obtain rfl := oi h
            exact run_to (.cons (.of_lk rfl) <| .cons (.of_lk rfl) <| .nil) (.cons .here <| .cons (.next .here) <| .nil) (J ())
    · refine run_cond (ht rfl) (fun e5 => ?_) (fun e5 => ?_)
      · replace h := bt e5 e6
        refine rt ?_
        refine jp (pa has_i64) rfl rfl rfl ?_
        refine j_end ?_
        obtain rfl := oi h
        exact run_to (.cons (.of_lk rfl) <| .cons (.of_lk rfl) <| .cons (.of_lk rfl) <| .cons (.of_lk rfl) <| .cons (.of_lk rfl) <| .cons (.of_lk rfl) <| .nil) (.cons .here <| .cons .here <| .cons .here <| .nil) (J ())
      · replace h := bf e5 e6
        refine run_skip ?_
        obtain rfl := oi h
        exact run_to (.cons (.of_lk rfl) <| .cons (.of_lk rfl) <| .cons (.of_lk rfl) <| .cons (.of_lk rfl) <| .cons (.of_lk rfl) <| .cons (.of_lk rfl) <| .nil) (.cons .here <| .cons .here <| .cons .here <| .nil) (J ())
set_option maxRecDepth 100000 in
set_option maxHeartbeats 4000000 in
theorem c_chain_Commit {G : GP} (hg0 : HG0 G) (hg1 : HG1 G) {p_label : List (BitVec 8)} {p_v : T_chain_Version} {r : T_api_Hash} (h : chain_Commit p_label p_v = some r) : Ctr Tryd.prog G 24 [(sl u8).slot p_label, R_chain_Version.slot p_v] [] (fun (_ : Unit) => R_api_Hash.slot r) (fun (_ : Unit) => []) := by
  unfold chain_Commit at h
  refine ctr_of_run Tryd.func24 rfl 9 rfl rfl fun m0 w0 b0 => ?_
  show Run _ _ _ [(0, (sl u8).slot p_label), (1, R_chain_Version.slot p_v)] _
  refine rs ?_
  refine rt ?_
  refine jp (pj_box_to (ht rfl)) rfl rfl rfl ?_
  refine j_alloc (x := (Vector.replicate 32 (0#8))) (R := R_api_Hash) (zero_vec 32 zero_un) (by kernel_rfl) rfl fun b1 => ?_
  refine j_end ?_
  refine rs ?_
  refine rt ?_
  refine jp (pm (ht rfl)) rfl rfl rfl ?_
  refine jp (pl (ht rfl) (by kernel_rfl)) rfl rfl rfl ?_
  obtain ⟨r1, e1, h⟩ := bind_some h
  refine jp (pj_call (hc (ht rfl) <| hc (ht rfl) <| hasL_nil) (by kernel_rfl) (Ctr.froze (c_chain_Text e1))) rfl rfl rfl ?_
  obtain ⟨r2, e2, h⟩ := bind_some h
  refine jp (pj_call (hc (ht rfl) <| hasL_nil) (by kernel_rfl) (c_hash_Sum hg0 hg1 e2)) rfl rfl rfl ?_
  refine j_store_boxx (r' := r2) (ht rfl) (ht rfl) .here (Path.all R_api_Hash) (by kernel_rfl) rfl ?_
  refine j_end ?_
  obtain rfl := oi h
  exact run_ret fun a w hst => q_ret1 hst rfl (.cell rfl .here (by kernel_rfl)) () (fun _ _ h => h) (.nil)
set_option maxRecDepth 100000 in
set_option maxHeartbeats 4000000 in
theorem c_chain_is {G : GP} {p_label : List (BitVec 8)} {r : Bool} (h : chain_is p_label = some r) : Ctr Tryd.prog G 47 [(sl u8).slot p_label] [] (fun (_ : Unit) => bl.slot r) (fun (_ : Unit) => []) := by
  unfold chain_is at h
  refine ctr_of_run Tryd.func47 rfl 11 rfl rfl fun m0 w0 b0 => ?_
  show Run _ _ _ [(0, (sl u8).slot p_label)] _
  refine rs ?_
  refine rt ?_
  refine jp (pa has_bl) rfl rfl rfl ?_
  refine j_end ?_
  refine rs ?_
  refine rt ?_
  refine jp (pm (ht rfl)) rfl rfl rfl ?_
  refine jp (pj_len_sl (sz := 1) (ht rfl) (by kernel_rfl)) rfl rfl rfl ?_
  refine jp (pj_igeq (ht rfl) has_i64) rfl rfl rfl ?_
  refine jp (pm (ht rfl)) rfl rfl rfl ?_
  obtain ⟨y1, e2, h⟩ := bind_some h
  refine j_joinx (ι := Unit) (Γ' := fun _ => [(10, bl.slot y1)]) (H' := fun _ => []) 4 ?_ fun J => ?_
  · intro _
    clear e2
    show OpsJ _ _ _ [(10, bl.slot y1)] [] _
    refine jp (pa (ht rfl)) rfl rfl rfl ?_
    refine j_end ?_
    obtain rfl := oi h
    exact run_ret fun a w hst => q_ret1 hst rfl (.tmp rfl) () (fun _ _ h => h) (.nil)
  · rcases bool_tf (decide ((1 : Int) ≤ (p_label.length : Int))) with e1 | e1
    · replace e2 := bt e1 e2
      refine jy (pm (ht rfl)) rfl rfl rfl rfl (bl_isx e1) rfl rfl ?_
      refine jy (pj_len_sl (sz := 1) (ht rfl) (by kernel_rfl)) rfl rfl rfl rfl (bl_isx e1) rfl rfl ?_
      refine jy (pj_ileq (ht rfl) has_i64) rfl rfl rfl rfl (bl_isx e1) rfl rfl ?_
      refine jp (PJ.eqv (R := bl) (pj_pick (t := any) (ht rfl) (fun _ => (ht rfl)) (fun he => absurd (e1.symm.trans he) (by decide))) (oi e2)) rfl rfl rfl ?_
      exact j_to (.cons (.of_lk rfl) <| .nil) (.nil) (J ())
    · replace e2 := bf e1 e2
      refine j_guard_no2 (j := 3) (want := true) rfl rfl rfl rfl (bl_isx e1) rfl rfl rfl ?_
      refine j_guard_no2 (j := 3) (want := true) rfl rfl rfl rfl (bl_isx e1) rfl rfl rfl ?_
      refine j_guard_no2 (j := 3) (want := true) rfl rfl rfl rfl (bl_isx e1) rfl rfl rfl ?_
      refine jp (PJ.eqv (R := bl) (pj_pick (t := any) (ht rfl) (fun he => absurd (e1.symm.trans he) (by decide)) (fun _ => has_bl)) (oi e2)) rfl rfl rfl ?_
      exact j_to (.cons (.of_lk rfl) <| .nil) (.nil) (J ())
end Go.Sl.W
