import Derived.Test.YtheldkljmefbaaaGreatDoorG3
import Derived.Test.YtheldkljmefbaaaGreatDoorG2
import Derived.Test.YtheldkljmefbaaaGreatDoorProg
import Derived.Test.YtheldkljmefbaaaGreatDoorG4
set_option linter.unusedSimpArgs false
set_option linter.unusedVariables false
set_option linter.unusedSectionVars false
namespace Go.Sl.W
open Go.Proofs Go.Sl Go.Sl.M
abbrev R_lmots_form : Rep T_lmots_form := (prod i64 (prod i64 i64))
abbrev R_hash_state : Rep T_hash_state := vec 8 u32
abbrev R_api_ID : Rep T_api_ID := vec 16 u8
abbrev R_api_Hash : Rep T_api_Hash := vec 32 u8
abbrev R_lms_Tree : Rep T_lms_Tree := (prod i64 (prod i64 (prod R_api_ID (prod R_api_Hash (sl R_api_Hash)))))
abbrev R_hss_Signer : Rep T_hss_Signer := (prod i64 (prod i64 (prod R_api_Hash (prod (ptr R_lms_Tree) (prod (ptr R_lms_Tree) i64)))))
abbrev R_head_Head : Rep T_head_Head := (prod i64 (prod i64 (prod R_api_Hash R_api_Hash)))
abbrev R_head_Signed : Rep T_head_Signed := (prod R_head_Head (sl u8))
abbrev R_gossip_Fork : Rep T_gossip_Fork := (prod R_head_Signed R_head_Signed)
abbrev R_gossip_link : Rep T_gossip_link := (prod i64 i64)
abbrev R_gossip_Pool : Rep T_gossip_Pool := (prod (sl u8) (prod (sl R_head_Signed) (prod (sl R_gossip_Fork) (sl R_gossip_link))))
abbrev R_wire_Reader : Rep T_wire_Reader := (prod (sl u8) bl)
abbrev R_lms_signature : Rep T_lms_signature := (prod i64 (prod (sl u8) (sl R_api_Hash)))
abbrev R_rolodexref17_Head : Rep T_rolodexref17_Head := (prod i64 (prod i64 (prod R_api_Hash R_api_Hash)))
abbrev R_trail_Trail : Rep T_trail_Trail := (prod (sl R_api_Hash) (sl R_api_Hash))
abbrev HG0 (G : GP) : Prop := ∀ m, G.p m → GAt 0 (vec 5 R_lmots_form) G_lmots_forms m
abbrev HG1 (G : GP) : Prop := ∀ m, G.p m → GAt 1 R_hash_state G_hash_begin m
abbrev HG2 (G : GP) : Prop := ∀ m, G.p m → GAt 2 (vec 64 u32) G_hash_rounds m
abbrev HG3 (G : GP) : Prop := ∀ m, G.p m → GAt 3 (vec 32 u8) G_math_bits_deBruijn32tab m
abbrev HG4 (G : GP) : Prop := ∀ m, G.p m → GAt 4 (vec 64 u8) G_math_bits_deBruijn64tab m
abbrev ht := @has_tmp
abbrev jp := @j_pure
abbrev pm := @pj_move
abbrev pa := @pj_assign
abbrev oi := @Option.some.inj
abbrev pl := @pj_load_to
abbrev hc := @hasL_cons
abbrev rt := @run_text
abbrev rs := @run_seq
abbrev jy := @j_pure_y
set_option maxRecDepth 100000 in
set_option maxHeartbeats 4000000 in
theorem c_slices_Grow_byte_byte_nilsl {G : GP} {p_n : Int} {r : (List (BitVec 8))} (h : slices_Grow_byte_byte_nilsl p_n = some r) : Ctr Tryz.prog G 100 [val (.slice none 0 0), i64.slot p_n] [] (fun (u0 : Value) => ov u0) (fun (u0 : Value) => [own 5 u8 u0 r]) := by
  unfold slices_Grow_byte_byte_nilsl at h
  refine ctr_of_run Tryz.func100 rfl 27 rfl rfl fun m0 w0 b0 => ?_
  show Run _ _ _ [(0, val (.slice none 0 0)), (1, i64.slot p_n)] _
  refine rs ?_
  refine rt ?_
  refine j_assign_nil (T := 5) u8 rfl fun v1 => ?_
  refine j_end ?_
  refine rs ?_
  refine rs ?_
  refine rt ?_
  refine jp (pm (ht rfl)) rfl rfl rfl ?_
  refine jp (pj_ilss (ht rfl) has_i64) rfl rfl rfl ?_
  refine j_end ?_
  refine run_cond (ht rfl) (fun e1 => ?_) (fun e1 => ?_)
  · replace h := bt e1 h
    cases h
  · replace h := bf e1 h
    refine run_skip ?_
    refine rs ?_
    refine rs ?_
    refine rt ?_
    refine jp (pm (ht rfl)) rfl rfl rfl ?_
    refine jp (pm (ht rfl)) rfl rfl rfl ?_
    refine jp (pj_cap_val (sz := 1) (ht rfl) (by kernel_rfl)) rfl rfl rfl ?_
    refine jp (pm (ht rfl)) rfl rfl rfl ?_
    refine jp (pj_len_val (sz := 1) (ht rfl) (by kernel_rfl)) rfl rfl rfl ?_
    refine jp (pj_isub (ht rfl) (ht rfl)) rfl rfl rfl ?_
    refine jp (pj_isub (ht rfl) (ht rfl)) rfl rfl rfl ?_
    obtain ⟨x1, e2, h⟩ := bind_some h
    refine jp (PJ.eqv (pa (ht rfl)) (oi e2)) rfl rfl rfl ?_
    refine j_end ?_
    refine rs ?_
    refine rt ?_
    refine jp (pm (ht rfl)) rfl rfl rfl ?_
    refine jp (pj_igtr (ht rfl) has_i64) rfl rfl rfl ?_
    refine j_end ?_
    refine run_cond (ht rfl) (fun e3 => ?_) (fun e3 => ?_)
    · replace h := bt e3 h
      refine rt ?_
      refine jp (pm (ht rfl)) rfl rfl rfl ?_
      refine jp (pm (ht rfl)) rfl rfl rfl ?_
      refine jp (pj_cap_val (sz := 1) (ht rfl) (by kernel_rfl)) rfl rfl rfl ?_
      refine jp (pj_slice_nil (sz := 1) (ht rfl) (ht rfl) isInt_i64 (by kernel_rfl)) rfl rfl rfl ?_
      refine jp (pm (ht rfl)) rfl rfl rfl ?_
      obtain ⟨e4, h⟩ := grd_some h
      refine j_appendMake (T := 5) (R := u8) (z := (0#8)) (ht rfl) (ht rfl) e4 (by kernel_rfl) (by kernel_rfl) zero_un (by kernel_rfl) (by kernel_rfl) rfl fun v2 => ?_
      refine jp (pm (ht rfl)) rfl rfl rfl ?_
      refine jp (pj_len_val (sz := 1) (ht rfl) (by kernel_rfl)) rfl rfl rfl ?_
      obtain ⟨e5, h⟩ := grd_some h
      refine j_slice_own (ht rfl) .here (ht rfl) isInt_i64 e5.1 e5.2 (by kernel_rfl) rfl fun v3 => ?_
      refine jp (pa (ht rfl)) rfl rfl rfl ?_
      refine j_end ?_
      refine rs ?_
      refine rt ?_
      refine jp (pm (ht rfl)) rfl rfl rfl ?_
      refine jp (pa (ht rfl)) rfl rfl rfl ?_
      refine j_end ?_
      obtain rfl := oi h
      exact run_ret fun a w hst => q_ret1 hst rfl (.tmp rfl) v3 (fun _ _ h => h) (.cons .here <| .nil)
    · replace h := bf e3 h
      refine run_skip ?_
      refine rs ?_
      refine rt ?_
      refine jp (pm (ht rfl)) rfl rfl rfl ?_
      refine j_own_nil 5 u8 none (jp (pa (has_ov_nil (ht rfl))) rfl rfl rfl ?_)
      refine j_end ?_
      obtain rfl := oi h
      exact run_ret fun a w hst => q_ret1 hst rfl (.tmp rfl) (.slice none 0 0) (fun _ _ h => h) (.cons .here <| .nil)
set_option maxRecDepth 100000 in
set_option maxHeartbeats 4000000 in
theorem c_slices_Concat_byte_byte {G : GP} {p_slices : List (List (BitVec 8))} {r : (List (BitVec 8))} (h : slices_Concat_byte_byte p_slices = some r) : Ctr Tryz.prog G 54 [(sl (sl u8)).slot p_slices] [] (fun (u0 : Value) => ov u0) (fun (u0 : Value) => [own 5 u8 u0 r]) := by
  unfold slices_Concat_byte_byte at h
  refine ctr_of_run Tryz.func54 rfl 36 rfl rfl fun m0 w0 b0 => ?_
  show Run _ _ _ [(0, (sl (sl u8)).slot p_slices)] _
  refine rs ?_
  refine rt ?_
  refine j_assign_nil (T := 5) u8 rfl fun v1 => ?_
  refine j_end ?_
  refine rs ?_
  refine rt ?_
  refine jp (pa has_i64) rfl rfl rfl ?_
  refine j_end ?_
  refine rs ?_
  refine rs ?_
  refine rt ?_
  refine jp (pm (ht rfl)) rfl rfl rfl ?_
  refine jp (pj_len_sl (sz := 1) (ht rfl) (by kernel_rfl)) rfl rfl rfl ?_
  refine jp (pm has_i64) rfl rfl rfl ?_
  refine j_end ?_
  obtain ⟨⟨y3, y4⟩, e4, h⟩ := bind_some h
  refine run_loopS (Γi := fun (i : Unit) (s : Int × Int) => [(0, (sl (sl u8)).slot p_slices), (3, i64.slot s.1), (9, (sl (sl u8)).slot p_slices), (10, i64.slot (p_slices.length : Int)), (11, i64.slot s.2)]) (Hi := fun (i : Unit) (s : Int × Int) => []) e4 () (fun a w hst => (hst.sub (.cons (.of_lk rfl) <| .cons (.of_lk rfl) <| .cons (.of_lk rfl) <| .cons (.of_lk rfl) <| .cons (.of_lk rfl) <| .nil)).keep (.nil)) ?_ ?_
  · clear h e4
    rintro _ ⟨y1, y2⟩ lr h
    change slices_Concat_byte_byte_L1 p_slices y1 y2 = some _ at h
    show Run _ _ _ [(0, (sl (sl u8)).slot p_slices), (3, i64.slot y1), (9, (sl (sl u8)).slot p_slices), (10, i64.slot (p_slices.length : Int)), (11, i64.slot y2)] []
    unfold slices_Concat_byte_byte_L1 at h
    refine rs ?_
    refine rt ?_
    refine jp (pj_ilss (ht rfl) (ht rfl)) rfl rfl rfl ?_
    refine j_end ?_
    refine rs ?_
    refine run_cond (ht rfl) (fun e1 => ?_) (fun e1 => ?_)
    · replace h := bt e1 h
      refine run_skip ?_
      refine rs ?_
      refine run_block ?_
      refine rs ?_
      refine rt ?_
      obtain ⟨x1, e2, h⟩ := bind_some h
      refine jp (pj_index_slx (ht rfl) (ht rfl) isInt_i64 e2 (by kernel_rfl)) rfl rfl rfl ?_
      refine jp (pl (ht rfl) (by kernel_rfl)) rfl rfl rfl ?_
      refine jp (pa (ht rfl)) rfl rfl rfl ?_
      refine j_end ?_
      refine rs ?_
      refine rt ?_
      refine jp (pm (ht rfl)) rfl rfl rfl ?_
      refine jp (pm (ht rfl)) rfl rfl rfl ?_
      refine jp (pj_len_sl (sz := 1) (ht rfl) (by kernel_rfl)) rfl rfl rfl ?_
      refine jp (pj_iadd (ht rfl) (ht rfl)) rfl rfl rfl ?_
      refine jp (pa (ht rfl)) rfl rfl rfl ?_
      refine j_end ?_
      refine rs ?_
      refine rt ?_
      refine jp (pm (ht rfl)) rfl rfl rfl ?_
      refine jp (pj_ilss (ht rfl) has_i64) rfl rfl rfl ?_
      refine j_end ?_
      refine run_cond (ht rfl) (fun e3 => ?_) (fun e3 => ?_)
      · replace h := bt e3 h
        cases h
      · replace h := bf e3 h
        refine run_skip ?_
        refine run_endblock ?_
        refine rt ?_
        refine jp (pj_iadd (ht rfl) has_i64) rfl rfl rfl ?_
        refine jp (pm (ht rfl)) rfl rfl rfl ?_
        refine j_end ?_
        obtain rfl := oi h
        exact run_next () (.cons (.of_lk rfl) <| .cons (.of_lk rfl) <| .cons (.of_lk rfl) <| .cons (.of_lk rfl) <| .cons (.of_lk rfl) <| .nil) (.nil)
    · replace h := bf e1 h
      obtain rfl := oi h
      exact run_brk () (.cons (.of_lk rfl) <| .cons (.of_lk rfl) <| .cons (.of_lk rfl) <| .cons (.of_lk rfl) <| .cons (.of_lk rfl) <| .nil) (.nil)
  · rintro _
    show Run _ _ _ [(0, (sl (sl u8)).slot p_slices), (3, i64.slot y3), (9, (sl (sl u8)).slot p_slices), (10, i64.slot (p_slices.length : Int)), (11, i64.slot y4)] []
    refine run_to (Γ' := [(0, (sl (sl u8)).slot p_slices), (3, i64.slot y3)]) (H' := []) (.cons (.of_lk rfl) <| .cons (.of_lk rfl) <| .nil) (.nil) ?_
    refine rs ?_
    refine rt ?_
    refine jp (pm (ht rfl)) rfl rfl rfl ?_
    obtain ⟨r1, e5, h⟩ := bind_some h
    refine j_call (hc has_nilS <| hc (ht rfl) <| hasL_nil) (by kernel_rfl) (c_slices_Grow_byte_byte_nilsl e5) .nil rfl fun v2 => ?_
    refine jp (pa (ht rfl)) rfl rfl rfl ?_
    refine j_end ?_
    refine rs ?_
    refine rs ?_
    refine rt ?_
    refine jp (pm (ht rfl)) rfl rfl rfl ?_
    refine jp (pj_len_sl (sz := 1) (ht rfl) (by kernel_rfl)) rfl rfl rfl ?_
    refine jp (pm has_i64) rfl rfl rfl ?_
    refine j_end ?_
    obtain ⟨⟨y7, y8⟩, e9, h⟩ := bind_some h
    refine run_loopS (Γi := fun (i : Value) (s : Int × (List (BitVec 8))) => [(6, ov i), (25, (sl (sl u8)).slot p_slices), (26, i64.slot (p_slices.length : Int)), (27, i64.slot s.1)]) (Hi := fun (i : Value) (s : Int × (List (BitVec 8))) => [own 5 u8 i s.2]) e9 v2 (fun a w hst => (hst.sub (.cons (.of_lk rfl) <| .cons (.of_lk rfl) <| .cons (.of_lk rfl) <| .cons (.of_lk rfl) <| .nil)).keep (.cons .here <| .nil)) ?_ ?_
    · clear h e9
      rintro v3 ⟨y5, y6⟩ lr h
      change slices_Concat_byte_byte_L2 p_slices y5 y6 = some _ at h
      show Run _ _ _ [(6, ov v3), (25, (sl (sl u8)).slot p_slices), (26, i64.slot (p_slices.length : Int)), (27, i64.slot y5)] [own 5 u8 v3 y6]
      unfold slices_Concat_byte_byte_L2 at h
      refine rs ?_
      refine rt ?_
      refine jp (pj_ilss (ht rfl) (ht rfl)) rfl rfl rfl ?_
      refine j_end ?_
      refine rs ?_
      refine run_cond (ht rfl) (fun e6 => ?_) (fun e6 => ?_)
      · replace h := bt e6 h
        refine run_skip ?_
        refine rs ?_
        refine run_block ?_
        refine rs ?_
        refine rt ?_
        obtain ⟨x2, e7, h⟩ := bind_some h
        refine jp (pj_index_slx (ht rfl) (ht rfl) isInt_i64 e7 (by kernel_rfl)) rfl rfl rfl ?_
        refine jp (pl (ht rfl) (by kernel_rfl)) rfl rfl rfl ?_
        refine jp (pa (ht rfl)) rfl rfl rfl ?_
        refine j_end ?_
        refine rt ?_
        refine jp (pm (ht rfl)) rfl rfl rfl ?_
        refine jp (pm (ht rfl)) rfl rfl rfl ?_
        obtain ⟨e8, h⟩ := grd_some h
        refine j_append (T := 5) (E := 5) (ht rfl) .here (src_data (ht rfl)) (by kernel_rfl) (by kernel_rfl) e8 rfl fun v4 => ?_
        refine jp (pa (ht rfl)) rfl rfl rfl ?_
        refine j_end ?_
        refine run_endblock ?_
        refine rt ?_
        refine jp (pj_iadd (ht rfl) has_i64) rfl rfl rfl ?_
        refine jp (pm (ht rfl)) rfl rfl rfl ?_
        refine j_end ?_
        obtain rfl := oi h
        exact run_next v4 (.cons (.of_lk rfl) <| .cons (.of_lk rfl) <| .cons (.of_lk rfl) <| .cons (.of_lk rfl) <| .nil) (.cons .here <| .nil)
      · replace h := bf e6 h
        obtain rfl := oi h
        exact run_brk v3 (.cons (.of_lk rfl) <| .cons (.of_lk rfl) <| .cons (.of_lk rfl) <| .cons (.of_lk rfl) <| .nil) (.cons .here <| .nil)
    · rintro v5
      show Run _ _ _ [(6, ov v5), (25, (sl (sl u8)).slot p_slices), (26, i64.slot (p_slices.length : Int)), (27, i64.slot y7)] [own 5 u8 v5 y8]
      refine run_to (Γ' := [(6, ov v5)]) (H' := [own 5 u8 v5 y8]) (.cons (.of_lk rfl) <| .nil) (.cons .here <| .nil) ?_
      refine rs ?_
      refine rt ?_
      refine jp (pm (ht rfl)) rfl rfl rfl ?_
      refine jp (pa (ht rfl)) rfl rfl rfl ?_
      refine j_end ?_
      obtain rfl := oi h
      exact run_ret fun a w hst => q_ret1 hst rfl (.tmp rfl) v5 (fun _ _ h => h) (.cons .here <| .nil)
set_option maxRecDepth 100000 in
set_option maxHeartbeats 4000000 in
theorem c_wire_Writer_number {G : GP} {p_w : (List (BitVec 8)) × Bool} {p_x : BitVec 64} {p_bytes : Int} {b_w : Nat} {v_w0 : Value} {r : ((List (BitVec 8)) × Bool)} (h : wire_Writer_number p_w p_x p_bytes = some r) : Ctr Tryz.prog G 130 [val (.pointer (some ⟨b_w, 0, none⟩)), u64.slot p_x, i64.slot p_bytes] [box b_w 161 (prod (exv v_w0) bl) ((), p_w.2), own 5 u8 v_w0 p_w.1] (fun (u0 : Value) => tup []) (fun (u0 : Value) => [box b_w 161 (prod (exv u0) bl) ((), r.2), own 5 u8 u0 r.1]) := by
  unfold wire_Writer_number at h
  refine ctr_of_run Tryz.func130 rfl 35 rfl rfl fun m0 w0 b0 => ?_
  show Run _ _ _ [(0, val (.pointer (some ⟨b_w, 0, none⟩))), (1, u64.slot p_x), (2, i64.slot p_bytes)] _
  refine rs ?_
  refine rs ?_
  refine rt ?_
  refine jp (pm (ht rfl)) rfl rfl rfl ?_
  refine jp (pj_eq_nil_val (E := 161) (by kernel_rfl) (ht rfl)) rfl rfl rfl ?_
  refine jp (pm (ht rfl)) rfl rfl rfl ?_
  obtain ⟨y1, e2, h⟩ := bind_some h
  refine j_joinx (ι := Unit) (Γ' := fun _ => [(0, val (.pointer (some ⟨b_w, 0, none⟩))), (1, u64.slot p_x), (2, i64.slot p_bytes), (14, bl.slot y1)]) (H' := fun _ => [box b_w 161 (prod (exv v_w0) bl) ((), p_w.2), own 5 u8 v_w0 p_w.1]) 5 ?_ fun J => ?_
  · intro _
    clear e2
    show OpsJ _ _ _ [(0, val (.pointer (some ⟨b_w, 0, none⟩))), (1, u64.slot p_x), (2, i64.slot p_bytes), (14, bl.slot y1)] [box b_w 161 (prod (exv v_w0) bl) ((), p_w.2), own 5 u8 v_w0 p_w.1] _
    refine j_end ?_
    refine run_cond (ht rfl) (fun e3 => ?_) (fun e3 => ?_)
    · replace h := bt e3 h
      obtain rfl := oi h
      exact run_ret fun a w hst => q_retN hst rfl (.nil) rfl v_w0 (fun _ _ h => h) (.cons .here <| .cons .here <| .nil)
    · replace h := bf e3 h
      refine run_skip ?_
      refine rs ?_
      refine rt ?_
      refine jp (pm (ht rfl)) rfl rfl rfl ?_
      refine jp (pj_isub (ht rfl) has_i64) rfl rfl rfl ?_
      refine jp (pa (ht rfl)) rfl rfl rfl ?_
      refine j_end ?_
      obtain ⟨⟨y4, y5⟩, e7, h⟩ := bind_some h
      refine run_loopS (Γi := fun (i : Value) (s : Int × (List (BitVec 8))) => [(0, val (.pointer (some ⟨b_w, 0, none⟩))), (1, u64.slot p_x), (6, i64.slot s.1)]) (Hi := fun (i : Value) (s : Int × (List (BitVec 8))) => [box b_w 161 (prod (exv i) bl) ((), p_w.2), own 5 u8 i s.2]) e7 v_w0 (fun a w hst => (hst.sub (.cons (.of_lk rfl) <| .cons (.of_lk rfl) <| .cons (.of_lk rfl) <| .nil)).keep (.cons .here <| .cons .here <| .nil)) ?_ ?_
      · clear h e7
        rintro v1 ⟨y2, y3⟩ lr h
        change wire_Writer_number_L1 p_x y2 y3 = some _ at h
        show Run _ _ _ [(0, val (.pointer (some ⟨b_w, 0, none⟩))), (1, u64.slot p_x), (6, i64.slot y2)] [box b_w 161 (prod (exv v1) bl) ((), p_w.2), own 5 u8 v1 y3]
        unfold wire_Writer_number_L1 at h
        refine rs ?_
        refine rs ?_
        refine rt ?_
        refine jp (pm (ht rfl)) rfl rfl rfl ?_
        refine jp (pj_igeq (ht rfl) has_i64) rfl rfl rfl ?_
        refine j_end ?_
        refine run_cond (ht rfl) (fun e4 => ?_) (fun e4 => ?_)
        · replace h := bt e4 h
          refine run_skip ?_
          refine rs ?_
          refine run_block ?_
          obtain ⟨e5, h⟩ := grd_some h
          obtain ⟨e6, h⟩ := grd_some h
          refine run_keep (H' := [own 5 u8 v1 y3, box b_w 161 (prod (exv v1) bl) ((), p_w.2)]) (.cons (.next .here) <| .cons .here <| .nil) ?_
          refine run_drawL (n := 12) (H := [box b_w 161 (prod (exv v1) bl) ((), p_w.2)]) (Ls := [⟨[own 5 u8 v1 y3], [(11, ⟨Value, fun (v2 : Value) => [own 5 u8 v2 (y3 ++ ([(p_x >>> ((w64 ((8 : Int) * y2)).toNat)).setWidth 8]))], fun (v2 : Value) => [(32, ov v2)]⟩)]⟩]) (by kernel_rfl) (by kernel_rfl) (by kernel_rfl) (by kernel_rfl) (by kernel_rfl) rfl (.read rfl (.plain rfl (pm (ht rfl))) <| .read rfl (.plain rfl (pm (ht rfl))) <| .read rfl (.plain rfl (pj_nilCheck_ptr (ht rfl))) <| .read rfl (.plain rfl (pj_field_ptr (off := 0) (ht rfl) (by kernel_rfl))) <| .read rfl (.plain rfl (pj_load_box (ht rfl) .here (Path.then (Path.all (prod (exv v1) bl)) (Path.fst (exv v1) bl)) (by kernel_rfl))) <| .read rfl (.plain rfl (pm (ht rfl))) <| .read rfl (.plain rfl (pm (ht rfl))) <| .read rfl (.plain rfl (pj_imul has_i64 (ht rfl))) <| .read rfl (.plain rfl (pj_ushr (k := .u64) (b := 64) rfl (ht rfl) (ht rfl) isInt_i64 e5)) <| .read rfl (.plain rfl (pj_conv_uu (k := .u8) (b := 8) rfl rfl (by kernel_rfl) (ht rfl))) <| .read rfl (.plain rfl (pj_buildSlice (T := 5) (R := u8) (.cons (ht rfl) .nil) rfl (by kernel_rfl) (by kernel_rfl))) <| .step 0 rfl .here (.inl rfl) (fun i => ⟨_, _, fun j => j, (w_append (T := 5) (E := 5) (ht rfl) .here (src_data (ht rfl)) (by kernel_rfl) (by kernel_rfl) e6 rfl), fun _ => rfl, slotAny, dst1⟩) <| .nil) ?_
          rintro v2
          refine j_to (Γ' := [(0, val (.pointer (some ⟨b_w, 0, none⟩))), (1, u64.slot p_x), (6, i64.slot y2), (21, val (.pointer (some ⟨b_w, 0, none⟩))), (32, ov v2)]) (H' := [own 5 u8 v2 (y3 ++ ([(p_x >>> ((w64 ((8 : Int) * y2)).toNat)).setWidth 8])), box b_w 161 (prod (exv v1) bl) ((), p_w.2)]) (.cons (.of_lk rfl) <| .cons (.of_lk rfl) <| .cons (.of_lk rfl) <| .cons (.of_lk rfl) <| .cons (.of_lk rfl) <| .nil) (.cons .here <| .cons .here <| .nil) ?_
          refine jp (pj_nilCheck_ptr (ht rfl)) rfl rfl rfl ?_
          refine jp (pj_field_ptr (off := 0) (ht rfl) (by kernel_rfl)) rfl rfl rfl ?_
          refine j_store_exv (ht rfl) (ht rfl) (.next .here) (by kernel_rfl) ?_
          refine j_end ?_
          refine run_endblock ?_
          refine rt ?_
          refine jp (pm (ht rfl)) rfl rfl rfl ?_
          refine jp (pj_isub (ht rfl) has_i64) rfl rfl rfl ?_
          refine jp (pa (ht rfl)) rfl rfl rfl ?_
          refine j_end ?_
          obtain rfl := oi h
          exact run_next v2 (.cons (.of_lk rfl) <| .cons (.of_lk rfl) <| .cons (.of_lk rfl) <| .nil) (.cons .here <| .cons .here <| .nil)
        · replace h := bf e4 h
          obtain rfl := oi h
          exact run_brk v1 (.cons (.of_lk rfl) <| .cons (.of_lk rfl) <| .cons (.of_lk rfl) <| .nil) (.cons .here <| .cons .here <| .nil)
      · rintro v3
        show Run _ _ _ [(0, val (.pointer (some ⟨b_w, 0, none⟩))), (1, u64.slot p_x), (6, i64.slot y4)] [box b_w 161 (prod (exv v3) bl) ((), p_w.2), own 5 u8 v3 y5]
        refine run_to (Γ' := []) (H' := [box b_w 161 (prod (exv v3) bl) ((), p_w.2), own 5 u8 v3 y5]) (.nil) (.cons .here <| .cons .here <| .nil) ?_
        obtain rfl := oi h
        exact run_nil fun a w hst => q_retN_n hst rfl (.nil) rfl v3 (fun _ _ h => h) (.cons .here <| .cons .here <| .nil)
  · have e1 : (false) = false := rfl
    refine jy (pm (ht rfl)) rfl rfl rfl rfl (bl_isx e1) rfl rfl ?_
    refine jy (pj_nilCheck_ptr (ht rfl)) rfl rfl rfl rfl (bl_isx e1) rfl rfl ?_
    refine jy (pj_field_ptr (off := 1) (ht rfl) (by kernel_rfl)) rfl rfl rfl rfl (bl_isx e1) rfl rfl ?_
    refine jy (pj_load_box (ht rfl) .here (Path.then (Path.all (prod (exv v_w0) bl)) (Path.snd (exv v_w0) bl)) (by kernel_rfl)) rfl rfl rfl rfl (bl_isx e1) rfl rfl ?_
    refine jp (PJ.eqv (R := bl) (pj_pick (t := any) (ht rfl) (fun he => absurd (e1.symm.trans he) (by decide)) (fun _ => (ht rfl))) (oi e2)) rfl rfl rfl ?_
    exact j_to (.cons (.of_lk rfl) <| .cons (.of_lk rfl) <| .cons (.of_lk rfl) <| .cons (.of_lk rfl) <| .nil) (.cons .here <| .cons .here <| .nil) (J ())
set_option maxRecDepth 100000 in
set_option maxHeartbeats 4000000 in
theorem c_wire_Writer_U32 {G : GP} {p_w : (List (BitVec 8)) × Bool} {p_x : BitVec 32} {b_w : Nat} {v_w0 : Value} {r : ((List (BitVec 8)) × Bool)} (h : wire_Writer_U32 p_w p_x = some r) : Ctr Tryz.prog G 84 [val (.pointer (some ⟨b_w, 0, none⟩)), u32.slot p_x] [box b_w 161 (prod (exv v_w0) bl) ((), p_w.2), own 5 u8 v_w0 p_w.1] (fun (u0 : Value) => tup []) (fun (u0 : Value) => [box b_w 161 (prod (exv u0) bl) ((), r.2), own 5 u8 u0 r.1]) := by
  unfold wire_Writer_U32 at h
  refine ctr_of_run Tryz.func84 rfl 8 rfl rfl fun m0 w0 b0 => ?_
  show Run _ _ _ [(0, val (.pointer (some ⟨b_w, 0, none⟩))), (1, u32.slot p_x)] _
  refine rt ?_
  refine jp (pm (ht rfl)) rfl rfl rfl ?_
  refine jp (pm (ht rfl)) rfl rfl rfl ?_
  refine jp (pj_conv_uu (k := .u64) (b := 64) rfl rfl (by kernel_rfl) (ht rfl)) rfl rfl rfl ?_
  obtain ⟨r1, e1, h⟩ := bind_some h
  refine j_call (hc (ht rfl) <| hc (ht rfl) <| hc has_i64 <| hasL_nil) (by kernel_rfl) (c_wire_Writer_number e1) (.cons .here <| .cons .here <| .nil) rfl fun v1 => ?_
  refine j_end ?_
  obtain rfl := oi h
  exact run_nil fun a w hst => q_retN_n hst rfl (.nil) rfl v1 (fun _ _ h => h) (.cons .here <| .cons .here <| .nil)
set_option maxRecDepth 100000 in
set_option maxHeartbeats 4000000 in
theorem c_wire_Writer_Plain {G : GP} {p_w : (List (BitVec 8)) × Bool} {p_b : List (BitVec 8)} {b_w : Nat} {v_w0 : Value} {r : ((List (BitVec 8)) × Bool)} (h : wire_Writer_Plain p_w p_b = some r) : Ctr Tryz.prog G 85 [val (.pointer (some ⟨b_w, 0, none⟩)), (sl u8).slot p_b] [box b_w 161 (prod (exv v_w0) bl) ((), p_w.2), own 5 u8 v_w0 p_w.1] (fun (u0 : Value) => tup []) (fun (u0 : Value) => [box b_w 161 (prod (exv u0) bl) ((), r.2), own 5 u8 u0 r.1]) := by
  unfold wire_Writer_Plain at h
  refine ctr_of_run Tryz.func85 rfl 22 rfl rfl fun m0 w0 b0 => ?_
  show Run _ _ _ [(0, val (.pointer (some ⟨b_w, 0, none⟩))), (1, (sl u8).slot p_b)] _
  refine rs ?_
  refine rt ?_
  refine jp (pm (ht rfl)) rfl rfl rfl ?_
  refine jp (pj_ne_nil_val (E := 161) (by kernel_rfl) (ht rfl)) rfl rfl rfl ?_
  refine jp (pm (ht rfl)) rfl rfl rfl ?_
  obtain ⟨y1, e2, h⟩ := bind_some h
  refine j_joinx (ι := Unit) (Γ' := fun _ => [(0, val (.pointer (some ⟨b_w, 0, none⟩))), (1, (sl u8).slot p_b), (12, bl.slot y1)]) (H' := fun _ => [box b_w 161 (prod (exv v_w0) bl) ((), p_w.2), own 5 u8 v_w0 p_w.1]) 6 ?_ fun J => ?_
  · intro _
    clear e2
    show OpsJ _ _ _ [(0, val (.pointer (some ⟨b_w, 0, none⟩))), (1, (sl u8).slot p_b), (12, bl.slot y1)] [box b_w 161 (prod (exv v_w0) bl) ((), p_w.2), own 5 u8 v_w0 p_w.1] _
    refine j_end ?_
    refine run_cond (ht rfl) (fun e3 => ?_) (fun e3 => ?_)
    · replace h := bt e3 h
      refine rt ?_
      refine jp (pm (ht rfl)) rfl rfl rfl ?_
      refine jp (pm (ht rfl)) rfl rfl rfl ?_
      refine jp (pj_nilCheck_ptr (ht rfl)) rfl rfl rfl ?_
      refine jp (pj_field_ptr (off := 0) (ht rfl) (by kernel_rfl)) rfl rfl rfl ?_
      refine jp (pj_load_box (ht rfl) .here (Path.then (Path.all (prod (exv v_w0) bl)) (Path.fst (exv v_w0) bl)) (by kernel_rfl)) rfl rfl rfl ?_
      refine jp (pm (ht rfl)) rfl rfl rfl ?_
      obtain ⟨e4, h⟩ := grd_some h
      refine j_append (T := 5) (E := 5) (ht rfl) (.next .here) (src_data (ht rfl)) (by kernel_rfl) (by kernel_rfl) e4 rfl fun v1 => ?_
      refine jp (pj_nilCheck_ptr (ht rfl)) rfl rfl rfl ?_
      refine jp (pj_field_ptr (off := 0) (ht rfl) (by kernel_rfl)) rfl rfl rfl ?_
      refine j_store_exv (ht rfl) (ht rfl) (.next .here) (by kernel_rfl) ?_
      refine j_end ?_
      obtain rfl := oi h
      exact run_nil fun a w hst => q_retN_n hst rfl (.nil) rfl v1 (fun _ _ h => h) (.cons .here <| .cons .here <| .nil)
    · replace h := bf e3 h
      refine run_skip ?_
      obtain rfl := oi h
      exact run_nil fun a w hst => q_retN_n hst rfl (.nil) rfl v_w0 (fun _ _ h => h) (.cons .here <| .cons .here <| .nil)
  · have e1 : (true) = true := rfl
    refine jy (pm (ht rfl)) rfl rfl rfl rfl (bl_isx e1) rfl rfl ?_
    refine jy (pj_nilCheck_ptr (ht rfl)) rfl rfl rfl rfl (bl_isx e1) rfl rfl ?_
    refine jy (pj_field_ptr (off := 1) (ht rfl) (by kernel_rfl)) rfl rfl rfl rfl (bl_isx e1) rfl rfl ?_
    refine jy (pj_load_box (ht rfl) .here (Path.then (Path.all (prod (exv v_w0) bl)) (Path.snd (exv v_w0) bl)) (by kernel_rfl)) rfl rfl rfl rfl (bl_isx e1) rfl rfl ?_
    refine jy (pj_not (ht rfl)) rfl rfl rfl rfl (bl_isx e1) rfl rfl ?_
    refine jp (PJ.eqv (R := bl) (pj_pick (t := any) (ht rfl) (fun _ => (ht rfl)) (fun he => absurd (e1.symm.trans he) (by decide))) (oi e2)) rfl rfl rfl ?_
    exact j_to (.cons (.of_lk rfl) <| .cons (.of_lk rfl) <| .cons (.of_lk rfl) <| .nil) (.cons .here <| .cons .here <| .nil) (J ())
set_option maxRecDepth 100000 in
set_option maxHeartbeats 4000000 in
theorem c_slices_Clone_byte_byte {G : GP} {p_s : List (BitVec 8)} {r : (List (BitVec 8))} (h : slices_Clone_byte_byte p_s = some r) : Ctr Tryz.prog G 56 [(sl u8).slot p_s] [] (fun (u0 : Value) => ov u0) (fun (u0 : Value) => [own 5 u8 u0 r]) := by
  unfold slices_Clone_byte_byte at h
  refine ctr_of_run Tryz.func56 rfl 8 rfl rfl fun m0 w0 b0 => ?_
  show Run _ _ _ [(0, (sl u8).slot p_s)] _
  refine rs ?_
  refine rt ?_
  refine j_assign_nil (T := 5) u8 rfl fun v1 => ?_
  refine j_end ?_
  refine rs ?_
  refine rs ?_
  refine rt ?_
  refine jp (pm (ht rfl)) rfl rfl rfl ?_
  refine jp (pj_isnil (E := 5) (by kernel_rfl) (ht rfl)) rfl rfl rfl ?_
  refine j_end ?_
  refine run_cond_nil (ht rfl) (fun e0 => ?_) ?_
  · subst e0
    obtain ⟨e1, h⟩ := grd_some h
    obtain rfl := oi h
    refine rs ?_
    refine rt ?_
    refine j_assign_nil (T := 5) u8 rfl fun v2 => ?_
    refine j_end ?_
    exact run_ret fun a w hst => q_ret1 hst rfl (.tmp rfl) v2 (fun _ _ h => h) (.cons .here <| .nil)
  refine run_skip ?_
  refine rs ?_
  refine rt ?_
  refine j_buildSlice (T := 5) (R := u8) .nil rfl (by kernel_rfl) (by kernel_rfl) rfl fun v2 => ?_
  refine jp (pm (ht rfl)) rfl rfl rfl ?_
  obtain ⟨e1, h⟩ := grd_some h
  refine j_append (T := 5) (E := 5) (ht rfl) .here (src_data (ht rfl)) (by kernel_rfl) (by kernel_rfl) e1 rfl fun v3 => ?_
  refine jp (pa (ht rfl)) rfl rfl rfl ?_
  refine j_end ?_
  obtain rfl := oi h
  exact run_ret fun a w hst => q_ret1 hst rfl (.tmp rfl) v3 (fun _ _ h => h) (.cons .here <| .nil)
set_option maxRecDepth 100000 in
set_option maxHeartbeats 4000000 in
theorem c_wire_Writer_Out {G : GP} {p_w : (List (BitVec 8)) × Bool} {b_w : Nat} {v_w0 : Value} {r : ((List (BitVec 8)) × Bool) × (List (BitVec 8)) × Int} (h : wire_Writer_Out p_w = some r) : Ctr Tryz.prog G 86 [val (.pointer (some ⟨b_w, 0, none⟩))] [box b_w 161 (prod (exv v_w0) bl) ((), p_w.2), own 5 u8 v_w0 p_w.1] (fun (i : Value × Value) => tup [ov i.2, i64.slot r.2.2]) (fun (i : Value × Value) => [box b_w 161 (prod (exv i.1) bl) ((), r.1.2), own 5 u8 i.1 r.1.1, own 5 u8 i.2 r.2.1]) := by
  unfold wire_Writer_Out at h
  refine ctr_of_run Tryz.func86 rfl 17 rfl rfl fun m0 w0 b0 => ?_
  show Run _ _ _ [(0, val (.pointer (some ⟨b_w, 0, none⟩)))] _
  refine rs ?_
  refine rt ?_
  refine j_assign_nil (T := 5) u8 rfl fun v1 => ?_
  refine jp (pa has_i64) rfl rfl rfl ?_
  refine j_end ?_
  refine rs ?_
  refine run_block ?_
  refine rs ?_
  refine rt ?_
  refine jp (pm (ht rfl)) rfl rfl rfl ?_
  refine jp (pj_eq_nil_val (E := 161) (by kernel_rfl) (ht rfl)) rfl rfl rfl ?_
  refine jp (pa (ht rfl)) rfl rfl rfl ?_
  refine j_end ?_
  refine run_cond_f (ht rfl) rfl ?_
  refine rs ?_
  refine rt ?_
  refine jp (pm (ht rfl)) rfl rfl rfl ?_
  refine jp (pj_nilCheck_ptr (ht rfl)) rfl rfl rfl ?_
  refine jp (pj_field_ptr (off := 1) (ht rfl) (by kernel_rfl)) rfl rfl rfl ?_
  refine jp (pj_load_box (ht rfl) (.next .here) (Path.then (Path.all (prod (exv v_w0) bl)) (Path.snd (exv v_w0) bl)) (by kernel_rfl)) rfl rfl rfl ?_
  refine jp (pa (ht rfl)) rfl rfl rfl ?_
  refine j_end ?_
  refine run_cond (ht rfl) (fun e2 => ?_) (fun e2 => ?_)
  · replace h := bt e2 h
    refine rs ?_
    refine rt ?_
    refine j_assign_nil (T := 5) u8 rfl fun v2 => ?_
    refine jp (pa has_i64) rfl rfl rfl ?_
    refine j_end ?_
    obtain rfl := oi h
    exact run_ret fun a w hst => q_retN hst rfl (.cons (.tmp rfl) <| .cons (.tmp rfl) <| .nil) rfl (v_w0, v2) (fun _ _ h => h) (.cons (.next (.next .here)) <| .cons (.next (.next .here)) <| .cons .here <| .nil)
  · replace h := bf e2 h
    refine run_skip ?_
    refine run_endblock ?_
    refine rs ?_
    refine rt ?_
    refine jp (pm (ht rfl)) rfl rfl rfl ?_
    refine jp (pj_nilCheck_ptr (ht rfl)) rfl rfl rfl ?_
    refine jp (pj_field_ptr (off := 0) (ht rfl) (by kernel_rfl)) rfl rfl rfl ?_
    refine jp (pj_load_box (ht rfl) (.next .here) (Path.then (Path.all (prod (exv v_w0) bl)) (Path.fst (exv v_w0) bl)) (by kernel_rfl)) rfl rfl rfl ?_
    obtain ⟨r1, e3, h⟩ := bind_some h
    refine j_callB (hasBL_cons (hasB_own (ht rfl) (.next (.next .here))) <| hasBL_nil) (by kernel_rfl) (c_slices_Clone_byte_byte e3) (fun i => Rep.flat_slot (flat_exv i) _) (fun i e he => by rw [List.mem_singleton.1 he]; exact own_flat (flat_un _ _) _ _) rfl fun v3 => ?_
    refine jp (pa (ht rfl)) rfl rfl rfl ?_
    refine jp (pa has_i64) rfl rfl rfl ?_
    refine j_end ?_
    obtain rfl := oi h
    exact run_ret fun a w hst => q_retN hst rfl (.cons (.tmp rfl) <| .cons (.tmp rfl) <| .nil) rfl (v_w0, v3) (fun _ _ h => h) (.cons (.next (.next .here)) <| .cons (.next (.next .here)) <| .cons .here <| .nil)
set_option maxRecDepth 100000 in
set_option maxHeartbeats 4000000 in
theorem c_lms_Tree_Public {G : GP} {p_t : Option T_lms_Tree} {r : (List (BitVec 8))} (h : lms_Tree_Public p_t = some r) : Ctr Tryz.prog G 55 [(ptr R_lms_Tree).slot p_t] [] (fun (u0 : Value) => ov u0) (fun (u0 : Value) => [own 5 u8 u0 r]) := by
  unfold lms_Tree_Public at h
  refine ctr_of_run Tryz.func55 rfl 44 rfl rfl fun m0 w0 b0 => ?_
  show Run _ _ _ [(0, (ptr R_lms_Tree).slot p_t)] _
  refine rs ?_
  refine rt ?_
  refine j_assign_nil (T := 5) u8 rfl fun v1 => ?_
  refine j_end ?_
  refine rs ?_
  refine rs ?_
  refine rt ?_
  refine jp (pm (ht rfl)) rfl rfl rfl ?_
  refine jp (pj_eq_nil (E := 153) (by kernel_rfl) (ht rfl)) rfl rfl rfl ?_
  refine j_end ?_
  refine run_cond (ht rfl) (fun e1 => ?_) (fun e1 => ?_)
  · replace h := bt e1 h
    refine rs ?_
    refine rt ?_
    refine j_assign_nil (T := 5) u8 rfl fun v2 => ?_
    refine j_end ?_
    obtain rfl := oi h
    exact run_ret fun a w hst => q_ret1 hst rfl (.tmp rfl) v2 (fun _ _ h => h) (.cons .here <| .nil)
  · replace h := bf e1 h
    refine run_skip ?_
    refine rs ?_
    refine rt ?_
    refine jp (pj_build (R := prod (exv (.slice none 0 0)) bl) (zero_prod zero_exv zero_bl) (by kernel_rfl) (by kernel_rfl) rfl .nil) rfl rfl rfl ?_
    refine j_box_w (T1 := 5) u8 (ht rfl) rfl fun b1 v3 => ?_
    refine jp (pa (ht rfl)) rfl rfl rfl ?_
    refine j_end ?_
    refine rs ?_
    refine rt ?_
    refine jp (pm (ht rfl)) rfl rfl rfl ?_
    refine jp (pm (ht rfl)) rfl rfl rfl ?_
    obtain ⟨x1, e2, h⟩ := bind_some h
    refine jp (pj_nilCheck_some (ht rfl) e2) rfl rfl rfl ?_
    refine jp (pj_field_to (ht rfl) (Path.fst i64 (prod i64 (prod R_api_ID (prod R_api_Hash (sl R_api_Hash))))) (by kernel_rfl)) rfl rfl rfl ?_
    refine jp (pl (ht rfl) (by kernel_rfl)) rfl rfl rfl ?_
    refine jp (pj_conv_un (k := .u32) (b := 32) rfl rfl (by kernel_rfl) (ht rfl) isInt_i64) rfl rfl rfl ?_
    obtain ⟨r1, e3, h⟩ := bind_some h
    refine j_call (hc (ht rfl) <| hc (ht rfl) <| hasL_nil) (by kernel_rfl) (c_wire_Writer_U32 e3) (.cons (.next .here) <| .cons .here <| .nil) rfl fun v4 => ?_
    refine j_end ?_
    refine rs ?_
    refine rt ?_
    refine jp (pm (ht rfl)) rfl rfl rfl ?_
    refine jp (pm (ht rfl)) rfl rfl rfl ?_
    obtain ⟨x2, e4, h⟩ := bind_some h
    refine jp (pj_nilCheck_some (ht rfl) e4) rfl rfl rfl ?_
    refine jp (pj_field_to (ht rfl) (Path.then (Path.snd i64 (prod i64 (prod R_api_ID (prod R_api_Hash (sl R_api_Hash))))) (Path.fst i64 (prod R_api_ID (prod R_api_Hash (sl R_api_Hash))))) (by kernel_rfl)) rfl rfl rfl ?_
    refine jp (pl (ht rfl) (by kernel_rfl)) rfl rfl rfl ?_
    refine jp (pj_conv_un (k := .u32) (b := 32) rfl rfl (by kernel_rfl) (ht rfl) isInt_i64) rfl rfl rfl ?_
    obtain ⟨r2, e5, h⟩ := bind_some h
    refine j_call (hc (ht rfl) <| hc (ht rfl) <| hasL_nil) (by kernel_rfl) (c_wire_Writer_U32 e5) (.cons .here <| .cons .here <| .nil) rfl fun v5 => ?_
    refine j_end ?_
    refine rs ?_
    refine rt ?_
    refine jp (pm (ht rfl)) rfl rfl rfl ?_
    refine jp (pm (ht rfl)) rfl rfl rfl ?_
    obtain ⟨x3, e6, h⟩ := bind_some h
    refine jp (pj_nilCheck_some (ht rfl) e6) rfl rfl rfl ?_
    refine jp (pj_field_to (ht rfl) (Path.then (Path.snd i64 (prod i64 (prod R_api_ID (prod R_api_Hash (sl R_api_Hash))))) (Path.then (Path.snd i64 (prod R_api_ID (prod R_api_Hash (sl R_api_Hash)))) (Path.fst R_api_ID (prod R_api_Hash (sl R_api_Hash))))) (by kernel_rfl)) rfl rfl rfl ?_
    refine jp (pj_slice_toF (ht rfl) (by decide) (by kernel_rfl)) rfl rfl rfl ?_
    obtain ⟨r3, e7, h⟩ := bind_some h
    refine j_call (hc (ht rfl) <| hc (ht rfl) <| hasL_nil) (by kernel_rfl) (c_wire_Writer_Plain e7) (.cons .here <| .cons .here <| .nil) rfl fun v6 => ?_
    refine j_end ?_
    refine rs ?_
    refine rt ?_
    refine jp (pm (ht rfl)) rfl rfl rfl ?_
    refine jp (pm (ht rfl)) rfl rfl rfl ?_
    obtain ⟨x4, e8, h⟩ := bind_some h
    refine jp (pj_nilCheck_some (ht rfl) e8) rfl rfl rfl ?_
    refine jp (pj_field_to (ht rfl) (Path.then (Path.snd i64 (prod i64 (prod R_api_ID (prod R_api_Hash (sl R_api_Hash))))) (Path.then (Path.snd i64 (prod R_api_ID (prod R_api_Hash (sl R_api_Hash)))) (Path.then (Path.snd R_api_ID (prod R_api_Hash (sl R_api_Hash))) (Path.snd R_api_Hash (sl R_api_Hash))))) (by kernel_rfl)) rfl rfl rfl ?_
    refine jp (pl (ht rfl) (by kernel_rfl)) rfl rfl rfl ?_
    obtain ⟨x5, e9, h⟩ := bind_some h
    refine jp (pj_index_slx (ht rfl) has_i64 isInt_i64 e9 (by kernel_rfl)) rfl rfl rfl ?_
    refine jp (pj_slice_toF (ht rfl) (by decide) (by kernel_rfl)) rfl rfl rfl ?_
    obtain ⟨r4, e10, h⟩ := bind_some h
    refine j_call (hc (ht rfl) <| hc (ht rfl) <| hasL_nil) (by kernel_rfl) (c_wire_Writer_Plain e10) (.cons .here <| .cons .here <| .nil) rfl fun v7 => ?_
    refine j_end ?_
    refine rs ?_
    refine rt ?_
    refine jp (pm (ht rfl)) rfl rfl rfl ?_
    obtain ⟨r5, e11, h⟩ := bind_some h
    refine j_call (hc (ht rfl) <| hasL_nil) (by kernel_rfl) (c_wire_Writer_Out e11) (.cons .here <| .cons .here <| .nil) rfl fun ⟨v8, v9⟩ => ?_
    refine jp (pm (ht rfl)) rfl rfl rfl ?_
    refine jp (pj_extract (ht rfl) rfl) rfl rfl rfl ?_
    refine jp (pj_extract (ht rfl) rfl) rfl rfl rfl ?_
    refine jp (pa (ht rfl)) rfl rfl rfl ?_
    refine jp (pa (ht rfl)) rfl rfl rfl ?_
    refine j_end ?_
    refine rs ?_
    refine rt ?_
    refine jp (pm (ht rfl)) rfl rfl rfl ?_
    refine jp (pa (ht rfl)) rfl rfl rfl ?_
    refine j_end ?_
    obtain rfl := oi h
    exact run_ret fun a w hst => q_ret1 hst rfl (.tmp rfl) v9 (fun _ _ h => h) (.cons (.next (.next .here)) <| .nil)
set_option maxRecDepth 100000 in
set_option maxHeartbeats 4000000 in
theorem c_hss_Signer_Public {G : GP} {p_s : Int × Int × T_api_Hash × (Option T_lms_Tree) × (Option T_lms_Tree) × Int} {b_s : Nat} {c_s : List Value} {r : (List (BitVec 8))} (h : hss_Signer_Public p_s = some r) : Ctr Tryz.prog G 15 [val (.pointer (some ⟨b_s, 0, none⟩))] [box b_s 102 (exr (prod i64 (prod i64 (prod R_api_Hash (prod (ptr R_lms_Tree) (prod (ptr R_lms_Tree) i64))))) c_s) (p_s.1, p_s.2.1, p_s.2.2.1, p_s.2.2.2.1, p_s.2.2.2.2.1, p_s.2.2.2.2.2)] (fun (u0 : Value) => ov u0) (fun (u0 : Value) => [box b_s 102 (exr (prod i64 (prod i64 (prod R_api_Hash (prod (ptr R_lms_Tree) (prod (ptr R_lms_Tree) i64))))) c_s) (p_s.1, p_s.2.1, p_s.2.2.1, p_s.2.2.2.1, p_s.2.2.2.2.1, p_s.2.2.2.2.2), own 5 u8 u0 r]) := by
  unfold hss_Signer_Public at h
  refine ctr_of_run Tryz.func15 rfl 13 rfl rfl fun m0 w0 b0 => ?_
  show Run _ _ _ [(0, val (.pointer (some ⟨b_s, 0, none⟩)))] _
  refine rs ?_
  refine rt ?_
  refine j_assign_nil (T := 5) u8 rfl fun v1 => ?_
  refine j_end ?_
  refine rs ?_
  refine rs ?_
  refine rt ?_
  refine jp (PJ.xw (.keep (.ex .refl)) (pm (ht rfl))) rfl rfl rfl ?_
  refine jp (PJ.xw (.keep (.ex .refl)) (pj_eq_nil_val (E := 102) (by kernel_rfl) (ht rfl))) rfl rfl rfl ?_
  refine j_end ?_
  refine run_cond_f (ht rfl) rfl ?_
  refine run_skip ?_
  refine rs ?_
  refine rt ?_
  refine jp (PJ.xw (.keep (.ex .refl)) (pj_buildSlice (T := 5) (R := u8) (.cons (has_un (x := 0#8) rfl) (.cons (has_un (x := 0#8) rfl) (.cons (has_un (x := 0#8) rfl) (.cons (has_un (x := 2#8) rfl) .nil)))) rfl (by kernel_rfl) (by kernel_rfl))) rfl rfl rfl ?_
  refine jp (PJ.xw (.keep (.ex .refl)) (pm (ht rfl))) rfl rfl rfl ?_
  refine jp (PJ.xw (.keep (.ex .refl)) (pj_nilCheck_ptr (ht rfl))) rfl rfl rfl ?_
  refine jp (PJ.xw (.keep (.ex .refl)) (pj_field_ptr (off := 34) (ht rfl) (by kernel_rfl))) rfl rfl rfl ?_
  refine jp (PJ.xw (.keep (.ex .refl)) (pj_load_box (ht rfl) (.next .here) (Path.then (Path.all (prod i64 (prod i64 (prod R_api_Hash (prod (ptr R_lms_Tree) (prod (ptr R_lms_Tree) i64)))))) (Path.then (Path.snd i64 (prod i64 (prod R_api_Hash (prod (ptr R_lms_Tree) (prod (ptr R_lms_Tree) i64))))) (Path.then (Path.snd i64 (prod R_api_Hash (prod (ptr R_lms_Tree) (prod (ptr R_lms_Tree) i64)))) (Path.then (Path.snd R_api_Hash (prod (ptr R_lms_Tree) (prod (ptr R_lms_Tree) i64))) (Path.fst (ptr R_lms_Tree) (prod (ptr R_lms_Tree) i64)))))) (by kernel_rfl))) rfl rfl rfl ?_
  obtain ⟨r1, e2, h⟩ := bind_some h
  refine jp (PJ.xw (.keep (.ex .refl)) (pj_call (hc (ht rfl) <| hasL_nil) (by kernel_rfl) (Ctr.froze (c_lms_Tree_Public e2)))) rfl rfl rfl ?_
  refine jp (PJ.xw (.keep (.ex .refl)) (pj_buildSlice (T := 31) (R := (sl u8)) (.cons (ht rfl) (.cons (ht rfl) .nil)) rfl (by kernel_rfl) (by kernel_rfl))) rfl rfl rfl ?_
  obtain ⟨r2, e3, h⟩ := bind_some h
  refine j_call (hc (ht rfl) <| hasL_nil) (by kernel_rfl) (c_slices_Concat_byte_byte e3) .nil rfl fun v2 => ?_
  refine jp (PJ.xw (.keep (.keep (.ex .refl))) (pa (ht rfl))) rfl rfl rfl ?_
  refine j_end ?_
  obtain rfl := oi h
  exact run_ret fun a w hst => q_ret1 hst rfl (.tmp rfl) v2 (fun _ _ h => h) (.cons (.next (.next .here)) <| .cons .here <| .nil)
set_option maxRecDepth 100000 in
set_option maxHeartbeats 4000000 in
theorem c_lmots_of {G : GP} (hg0 : HG0 G) {p_kind : Int} {r : T_lmots_form × Bool} (h : lmots_of p_kind = some r) : Ctr Tryz.prog G 122 [i64.slot p_kind] [] (fun (_ : Unit) => tup [R_lmots_form.slot r.1, bl.slot r.2]) (fun (_ : Unit) => []) := by
  unfold lmots_of at h
  refine ctr_of_run Tryz.func122 rfl 14 rfl rfl fun m0 w0 b0 => ?_
  show Run _ _ _ [(0, i64.slot p_kind)] _
  refine rs ?_
  refine rt ?_
  refine j_alloc (x := (0, 0, 0)) (R := R_lmots_form) (zero_prod zero_i64 (zero_prod zero_i64 zero_i64)) (by kernel_rfl) rfl fun b1 => ?_
  refine jp (pa has_bl) rfl rfl rfl ?_
  refine j_end ?_
  refine rs ?_
  refine rs ?_
  refine rt ?_
  refine jp (pm (ht rfl)) rfl rfl rfl ?_
  refine jp (pj_ilss (ht rfl) has_i64) rfl rfl rfl ?_
  refine jp (pm (ht rfl)) rfl rfl rfl ?_
  obtain ⟨y1, e2, h⟩ := bind_some h
  refine j_joinx (ι := Unit) (Γ' := fun _ => [(0, i64.slot p_kind), (2, val (.pointer (some ⟨b1, 0, none⟩))), (9, bl.slot y1)]) (H' := fun _ => [box b1 194 R_lmots_form (0, 0, 0)]) 3 ?_ fun J => ?_
  · intro _
    clear e2
    show OpsJ _ _ _ [(0, i64.slot p_kind), (2, val (.pointer (some ⟨b1, 0, none⟩))), (9, bl.slot y1)] [box b1 194 R_lmots_form (0, 0, 0)] _
    refine j_end ?_
    refine run_cond (ht rfl) (fun e3 => ?_) (fun e3 => ?_)
    · replace h := bt e3 h
      refine rs ?_
      refine rt ?_
      refine jp (pj_build (R := R_lmots_form) (zero_prod zero_i64 (zero_prod zero_i64 zero_i64)) (by kernel_rfl) (by kernel_rfl) rfl .nil) rfl rfl rfl ?_
      refine j_store_boxx (r' := (0, 0, 0)) (ht rfl) (ht rfl) .here (Path.all R_lmots_form) (by kernel_rfl) rfl ?_
      refine jp (pa has_bl) rfl rfl rfl ?_
      refine j_end ?_
      obtain rfl := oi h
      exact run_ret fun a w hst => q_retN hst rfl (.cons (.cell rfl .here (by kernel_rfl)) <| .cons (.tmp rfl) <| .nil) rfl () (fun _ _ h => h) (.nil)
    · replace h := bf e3 h
      refine run_skip ?_
      refine rs ?_
      refine rt ?_
      refine jp (pm (ht rfl)) rfl rfl rfl ?_
      obtain ⟨x1, e4, h⟩ := bind_some h
      refine jp (pj_index_gx (v := G_lmots_forms) hg0 (ht rfl) isInt_i64 e4 (by kernel_rfl)) rfl rfl rfl ?_
      refine jp (pl (ht rfl) (by kernel_rfl)) rfl rfl rfl ?_
      refine j_store_boxx (r' := x1) (ht rfl) (ht rfl) .here (Path.all R_lmots_form) (by kernel_rfl) rfl ?_
      refine jp (pa has_bl) rfl rfl rfl ?_
      refine j_end ?_
      obtain rfl := oi h
      exact run_ret fun a w hst => q_retN hst rfl (.cons (.cell rfl .here (by kernel_rfl)) <| .cons (.tmp rfl) <| .nil) rfl () (fun _ _ h => h) (.nil)
  · rcases bool_tf (decide (p_kind < (1 : Int))) with e1 | e1
    · replace e2 := bt e1 e2
      refine j_guard_no2 (j := 2) (want := false) rfl rfl rfl rfl (bl_isx e1) rfl rfl rfl ?_
      refine j_guard_no2 (j := 2) (want := false) rfl rfl rfl rfl (bl_isx e1) rfl rfl rfl ?_
      refine jp (PJ.eqv (R := bl) (pj_pick (t := any) (ht rfl) (fun _ => has_bl) (fun he => absurd (e1.symm.trans he) (by decide))) (oi e2)) rfl rfl rfl ?_
      exact j_to (.cons (.of_lk rfl) <| .cons (.of_lk rfl) <| .cons (.of_lk rfl) <| .nil) (.cons .here <| .nil) (J ())
    · replace e2 := bf e1 e2
      refine jy (pm (ht rfl)) rfl rfl rfl rfl (bl_isx e1) rfl rfl ?_
      refine jy (pj_igtr (ht rfl) has_i64) rfl rfl rfl rfl (bl_isx e1) rfl rfl ?_
      refine jp (PJ.eqv (R := bl) (pj_pick (t := any) (ht rfl) (fun he => absurd (e1.symm.trans he) (by decide)) (fun _ => (ht rfl))) (oi e2)) rfl rfl rfl ?_
      exact j_to (.cons (.of_lk rfl) <| .cons (.of_lk rfl) <| .cons (.of_lk rfl) <| .nil) (.cons .here <| .nil) (J ())
set_option maxRecDepth 100000 in
set_option maxHeartbeats 4000000 in
theorem c_lmots_Chains {G : GP} (hg0 : HG0 G) {p_kind : Int} {r : Int} (h : lmots_Chains p_kind = some r) : Ctr Tryz.prog G 121 [i64.slot p_kind] [] (fun (_ : Unit) => i64.slot r) (fun (_ : Unit) => []) := by
  unfold lmots_Chains at h
  refine ctr_of_run Tryz.func121 rfl 12 rfl rfl fun m0 w0 b0 => ?_
  show Run _ _ _ [(0, i64.slot p_kind)] _
  refine rs ?_
  refine rt ?_
  refine jp (pa has_i64) rfl rfl rfl ?_
  refine j_end ?_
  refine rs ?_
  refine rt ?_
  refine jp (pm (ht rfl)) rfl rfl rfl ?_
  obtain ⟨r1, e1, h⟩ := bind_some h
  refine jp (pj_call (hc (ht rfl) <| hasL_nil) (by kernel_rfl) (c_lmots_of hg0 e1)) rfl rfl rfl ?_
  refine jp (pm (ht rfl)) rfl rfl rfl ?_
  refine jp (pj_extract (ht rfl) rfl) rfl rfl rfl ?_
  refine jp (pj_extract (ht rfl) rfl) rfl rfl rfl ?_
  refine j_alloc (x := (0, 0, 0)) (R := R_lmots_form) (zero_prod zero_i64 (zero_prod zero_i64 zero_i64)) (by kernel_rfl) rfl fun b1 => ?_
  refine j_store_boxx (r' := r1.1) (ht rfl) (ht rfl) .here (Path.all R_lmots_form) (by kernel_rfl) rfl ?_
  refine j_freezeTo (t := 3) .here (.of_lk rfl) ?_
  refine jp (pa (ht rfl)) rfl rfl rfl ?_
  refine j_end ?_
  refine rs ?_
  refine rt ?_
  refine jp (pj_field_to (ht rfl) (Path.then (Path.snd i64 (prod i64 i64)) (Path.fst i64 i64)) (by kernel_rfl)) rfl rfl rfl ?_
  refine jp (pl (ht rfl) (by kernel_rfl)) rfl rfl rfl ?_
  refine jp (pa (ht rfl)) rfl rfl rfl ?_
  refine j_end ?_
  obtain rfl := oi h
  exact run_ret fun a w hst => q_ret1 hst rfl (.tmp rfl) () (fun _ _ h => h) (.nil)
set_option maxRecDepth 100000 in
set_option maxHeartbeats 4000000 in
theorem c_lms_may {G : GP} (hg0 : HG0 G) {p_height : Int} {p_kind : Int} {r : Bool} (h : lms_may p_height p_kind = some r) : Ctr Tryz.prog G 77 [i64.slot p_height, i64.slot p_kind] [] (fun (_ : Unit) => bl.slot r) (fun (_ : Unit) => []) := by
  unfold lms_may at h
  refine ctr_of_run Tryz.func77 rfl 16 rfl rfl fun m0 w0 b0 => ?_
  show Run _ _ _ [(0, i64.slot p_height), (1, i64.slot p_kind)] _
  refine rs ?_
  refine rt ?_
  refine jp (pa has_bl) rfl rfl rfl ?_
  refine j_end ?_
  refine rs ?_
  refine rt ?_
  refine jp (pm (ht rfl)) rfl rfl rfl ?_
  refine jp (pj_igeq (ht rfl) has_i64) rfl rfl rfl ?_
  refine jp (pm (ht rfl)) rfl rfl rfl ?_
  obtain ⟨y1, e2, h⟩ := bind_some h
  refine j_joinx (ι := Unit) (Γ' := fun _ => [(1, i64.slot p_kind), (10, bl.slot y1)]) (H' := fun _ => []) 3 ?_ fun J => ?_
  · intro _
    clear e2
    show OpsJ _ _ _ [(1, i64.slot p_kind), (10, bl.slot y1)] [] _
    refine jp (pm (ht rfl)) rfl rfl rfl ?_
    obtain ⟨y2, e4, h⟩ := bind_some h
    refine j_joinx (ι := Unit) (Γ' := fun _ => [(15, bl.slot y2)]) (H' := fun _ => []) 4 ?_ fun J => ?_
    · intro _
      clear e4
      show OpsJ _ _ _ [(15, bl.slot y2)] [] _
      refine jp (pa (ht rfl)) rfl rfl rfl ?_
      refine j_end ?_
      obtain rfl := oi h
      exact run_ret fun a w hst => q_ret1 hst rfl (.tmp rfl) () (fun _ _ h => h) (.nil)
    · rcases bool_tf (y1) with e3 | e3
      · replace e4 := bt e3 e4
        refine jy (pm (ht rfl)) rfl rfl rfl rfl (bl_isx e3) rfl rfl ?_
        obtain ⟨r1, e5, e4⟩ := bind_some e4
        refine jy (pj_call (hc (ht rfl) <| hasL_nil) (by kernel_rfl) (c_lmots_Chains hg0 e5)) rfl rfl rfl rfl (bl_isx e3) rfl rfl ?_
        refine jy (pj_igtr (ht rfl) has_i64) rfl rfl rfl rfl (bl_isx e3) rfl rfl ?_
        refine jp (PJ.eqv (R := bl) (pj_pick (t := any) (ht rfl) (fun _ => (ht rfl)) (fun he => absurd (e3.symm.trans he) (by decide))) (oi e4)) rfl rfl rfl ?_
        exact j_to (.cons (.of_lk rfl) <| .nil) (.nil) (J ())
      · replace e4 := bf e3 e4
        refine j_guard_no2 (j := 6) (want := true) rfl rfl rfl rfl (bl_isx e3) rfl rfl rfl ?_
        refine j_guard_no2 (j := 6) (want := true) rfl rfl rfl rfl (bl_isx e3) rfl rfl rfl ?_
        refine j_guard_no2 (j := 6) (want := true) rfl rfl rfl rfl (bl_isx e3) rfl rfl rfl ?_
        refine jp (PJ.eqv (R := bl) (pj_pick (t := any) (ht rfl) (fun he => absurd (e3.symm.trans he) (by decide)) (fun _ => has_bl)) (oi e4)) rfl rfl rfl ?_
        exact j_to (.cons (.of_lk rfl) <| .nil) (.nil) (J ())
  · rcases bool_tf (decide ((1 : Int) ≤ p_height)) with e1 | e1
    · replace e2 := bt e1 e2
      refine jy (pm (ht rfl)) rfl rfl rfl rfl (bl_isx e1) rfl rfl ?_
      refine jy (pj_ileq (ht rfl) has_i64) rfl rfl rfl rfl (bl_isx e1) rfl rfl ?_
      refine jp (PJ.eqv (R := bl) (pj_pick (t := any) (ht rfl) (fun _ => (ht rfl)) (fun he => absurd (e1.symm.trans he) (by decide))) (oi e2)) rfl rfl rfl ?_
      exact j_to (.cons (.of_lk rfl) <| .cons (.of_lk rfl) <| .nil) (.nil) (J ())
    · replace e2 := bf e1 e2
      refine j_guard_no2 (j := 2) (want := true) rfl rfl rfl rfl (bl_isx e1) rfl rfl rfl ?_
      refine j_guard_no2 (j := 2) (want := true) rfl rfl rfl rfl (bl_isx e1) rfl rfl rfl ?_
      refine jp (PJ.eqv (R := bl) (pj_pick (t := any) (ht rfl) (fun he => absurd (e1.symm.trans he) (by decide)) (fun _ => has_bl)) (oi e2)) rfl rfl rfl ?_
      exact j_to (.cons (.of_lk rfl) <| .cons (.of_lk rfl) <| .nil) (.nil) (J ())
set_option maxRecDepth 100000 in
set_option maxHeartbeats 4000000 in
theorem c_lmots_Size {G : GP} (hg0 : HG0 G) {p_kind : Int} {r : Int} (h : lmots_Size p_kind = some r) : Ctr Tryz.prog G 78 [i64.slot p_kind] [] (fun (_ : Unit) => i64.slot r) (fun (_ : Unit) => []) := by
  unfold lmots_Size at h
  refine ctr_of_run Tryz.func78 rfl 17 rfl rfl fun m0 w0 b0 => ?_
  show Run _ _ _ [(0, i64.slot p_kind)] _
  refine rs ?_
  refine rt ?_
  refine jp (pa has_i64) rfl rfl rfl ?_
  refine j_end ?_
  refine rs ?_
  refine rt ?_
  refine jp (pm (ht rfl)) rfl rfl rfl ?_
  obtain ⟨r1, e1, h⟩ := bind_some h
  refine jp (pj_call (hc (ht rfl) <| hasL_nil) (by kernel_rfl) (c_lmots_of hg0 e1)) rfl rfl rfl ?_
  refine jp (pm (ht rfl)) rfl rfl rfl ?_
  refine jp (pj_extract (ht rfl) rfl) rfl rfl rfl ?_
  refine jp (pj_extract (ht rfl) rfl) rfl rfl rfl ?_
  refine j_alloc (x := (0, 0, 0)) (R := R_lmots_form) (zero_prod zero_i64 (zero_prod zero_i64 zero_i64)) (by kernel_rfl) rfl fun b1 => ?_
  refine j_store_boxx (r' := r1.1) (ht rfl) (ht rfl) .here (Path.all R_lmots_form) (by kernel_rfl) rfl ?_
  refine j_freezeTo (t := 3) .here (.of_lk rfl) ?_
  refine jp (pa (ht rfl)) rfl rfl rfl ?_
  refine j_end ?_
  refine rs ?_
  refine rs ?_
  refine rt ?_
  refine jp (pm (ht rfl)) rfl rfl rfl ?_
  refine jp (pj_not (ht rfl)) rfl rfl rfl ?_
  refine j_end ?_
  refine run_cond (ht rfl) (fun e2 => ?_) (fun e2 => ?_)
  · replace h := bt e2 h
    refine rs ?_
    refine rt ?_
    refine jp (pa has_i64) rfl rfl rfl ?_
    refine j_end ?_
    obtain rfl := oi h
    exact run_ret fun a w hst => q_ret1 hst rfl (.tmp rfl) () (fun _ _ h => h) (.nil)
  · replace h := bf e2 h
    refine run_skip ?_
    refine rs ?_
    refine rt ?_
    refine jp (pj_field_to (ht rfl) (Path.then (Path.snd i64 (prod i64 i64)) (Path.fst i64 i64)) (by kernel_rfl)) rfl rfl rfl ?_
    refine jp (pl (ht rfl) (by kernel_rfl)) rfl rfl rfl ?_
    refine jp (pj_iadd has_i64 (ht rfl)) rfl rfl rfl ?_
    refine jp (pj_imul has_i64 (ht rfl)) rfl rfl rfl ?_
    refine jp (pj_iadd has_i64 (ht rfl)) rfl rfl rfl ?_
    obtain ⟨x1, e3, h⟩ := bind_some h
    refine jp (PJ.eqv (pa (ht rfl)) (oi e3)) rfl rfl rfl ?_
    refine j_end ?_
    obtain rfl := oi h
    exact run_ret fun a w hst => q_ret1 hst rfl (.tmp rfl) () (fun _ _ h => h) (.nil)
set_option maxRecDepth 100000 in
set_option maxHeartbeats 4000000 in
theorem c_lms_Size {G : GP} (hg0 : HG0 G) {p_height : Int} {p_kind : Int} {r : Int} (h : lms_Size p_height p_kind = some r) : Ctr Tryz.prog G 42 [i64.slot p_height, i64.slot p_kind] [] (fun (_ : Unit) => i64.slot r) (fun (_ : Unit) => []) := by
  unfold lms_Size at h
  refine ctr_of_run Tryz.func42 rfl 15 rfl rfl fun m0 w0 b0 => ?_
  show Run _ _ _ [(0, i64.slot p_height), (1, i64.slot p_kind)] _
  refine rs ?_
  refine rt ?_
  refine jp (pa has_i64) rfl rfl rfl ?_
  refine j_end ?_
  refine rs ?_
  refine rs ?_
  refine rt ?_
  refine jp (pm (ht rfl)) rfl rfl rfl ?_
  refine jp (pm (ht rfl)) rfl rfl rfl ?_
  obtain ⟨r1, e1, h⟩ := bind_some h
  refine jp (pj_call (hc (ht rfl) <| hc (ht rfl) <| hasL_nil) (by kernel_rfl) (c_lms_may hg0 e1)) rfl rfl rfl ?_
  refine jp (pj_not (ht rfl)) rfl rfl rfl ?_
  refine j_end ?_
  refine run_cond (ht rfl) (fun e2 => ?_) (fun e2 => ?_)
  · replace h := bt e2 h
    refine rs ?_
    refine rt ?_
    refine jp (pa has_i64) rfl rfl rfl ?_
    refine j_end ?_
    obtain rfl := oi h
    exact run_ret fun a w hst => q_ret1 hst rfl (.tmp rfl) () (fun _ _ h => h) (.nil)
  · replace h := bf e2 h
    refine run_skip ?_
    refine rs ?_
    refine rt ?_
    refine jp (pm (ht rfl)) rfl rfl rfl ?_
    obtain ⟨r2, e3, h⟩ := bind_some h
    refine jp (pj_call (hc (ht rfl) <| hasL_nil) (by kernel_rfl) (c_lmots_Size hg0 e3)) rfl rfl rfl ?_
    refine jp (pj_iadd has_i64 (ht rfl)) rfl rfl rfl ?_
    refine jp (pm (ht rfl)) rfl rfl rfl ?_
    refine jp (pj_imul has_i64 (ht rfl)) rfl rfl rfl ?_
    refine jp (pj_iadd (ht rfl) (ht rfl)) rfl rfl rfl ?_
    obtain ⟨x1, e4, h⟩ := bind_some h
    refine jp (PJ.eqv (pa (ht rfl)) (oi e4)) rfl rfl rfl ?_
    refine j_end ?_
    obtain rfl := oi h
    exact run_ret fun a w hst => q_ret1 hst rfl (.tmp rfl) () (fun _ _ h => h) (.nil)
set_option maxRecDepth 100000 in
set_option maxHeartbeats 4000000 in
theorem c_math_bits_RotateLeft32 {G : GP} {p_x : BitVec 32} {p_k : Int} {r : (BitVec 32)} (h : math_bits_RotateLeft32 p_x p_k = some r) : Ctr Tryz.prog G 180 [u32.slot p_x, i64.slot p_k] [] (fun (_ : Unit) => u32.slot r) (fun (_ : Unit) => []) := by
  unfold math_bits_RotateLeft32 at h
  refine ctr_of_run Tryz.func180 rfl 17 rfl rfl fun m0 w0 b0 => ?_
  show Run _ _ _ [(0, u32.slot p_x), (1, i64.slot p_k)] _
  refine rs ?_
  refine rt ?_
  refine jp (pa (has_un (x := 0#32) rfl)) rfl rfl rfl ?_
  refine j_end ?_
  refine rs ?_
  refine rt ?_
  refine jp (pm (ht rfl)) rfl rfl rfl ?_
  refine jp (pj_conv_un (k := .u64) (b := 64) rfl rfl (by kernel_rfl) (ht rfl) isInt_i64) rfl rfl rfl ?_
  refine jp (pj_uand (k := .u64) (b := 64) rfl rfl (ht rfl) (has_un (x := 31#64) rfl)) rfl rfl rfl ?_
  refine jp (pa (ht rfl)) rfl rfl rfl ?_
  refine j_end ?_
  refine rs ?_
  refine rt ?_
  refine jp (pm (ht rfl)) rfl rfl rfl ?_
  refine jp (pm (ht rfl)) rfl rfl rfl ?_
  refine jp (pj_ushl (k := .u32) (b := 32) rfl rfl (ht rfl) (ht rfl) isInt_un (Int.natCast_nonneg _)) rfl rfl rfl ?_
  refine jp (pm (ht rfl)) rfl rfl rfl ?_
  refine jp (pm (ht rfl)) rfl rfl rfl ?_
  refine jp (pj_usub (k := .u64) (b := 64) rfl rfl (has_un (x := 32#64) rfl) (ht rfl)) rfl rfl rfl ?_
  refine jp (pj_ushr (k := .u32) (b := 32) rfl (ht rfl) (ht rfl) isInt_un (Int.natCast_nonneg _)) rfl rfl rfl ?_
  refine jp (pj_uor (k := .u32) (b := 32) rfl rfl (ht rfl) (ht rfl)) rfl rfl rfl ?_
  obtain ⟨x1, e1, h⟩ := bind_some h
  refine jp (PJ.eqv (pa (ht rfl)) (oi e1)) rfl rfl rfl ?_
  refine j_end ?_
  obtain rfl := oi h
  exact run_ret fun a w hst => q_ret1 hst rfl (.tmp rfl) () (fun _ _ h => h) (.nil)
set_option maxRecDepth 100000 in
set_option maxHeartbeats 4000000 in
theorem c_hash_schedule {G : GP} {p_block : List (BitVec 8)} {r : (Vector (BitVec 32) 64)} (h : hash_schedule p_block = some r) : Ctr Tryz.prog G 179 [(sl u8).slot p_block] [] (fun (_ : Unit) => (vec 64 u32).slot r) (fun (_ : Unit) => []) := by
  unfold hash_schedule at h
  refine ctr_of_run Tryz.func179 rfl 83 rfl rfl fun m0 w0 b0 => ?_
  show Run _ _ _ [(0, (sl u8).slot p_block)] _
  refine rs ?_
  refine rt ?_
  refine j_alloc (x := (Vector.replicate 64 (0#32))) (R := (vec 64 u32)) (zero_vec 64 zero_un) (by kernel_rfl) rfl fun b1 => ?_
  refine j_end ?_
  refine rs ?_
  refine rt ?_
  refine j_alloc (x := (Vector.replicate 64 (0#32))) (R := (vec 64 u32)) (zero_vec 64 zero_un) (by kernel_rfl) rfl fun b2 => ?_
  refine j_end ?_
  refine rs ?_
  refine rs ?_
  refine rt ?_
  refine jp (pm (ht rfl)) rfl rfl rfl ?_
  obtain ⟨x1, e1, h⟩ := bind_some h
  refine jp (pj_slice_slx (ht rfl) .no (.yes has_i64 isInt_i64) e1 (by kernel_rfl)) rfl rfl rfl ?_
  refine jp (pj_len_sl (sz := 1) (ht rfl) (by kernel_rfl)) rfl rfl rfl ?_
  refine jp (pm has_i64) rfl rfl rfl ?_
  refine j_end ?_
  obtain ⟨⟨y3, y4⟩, e7, h⟩ := bind_some h
  refine run_loopS (Γi := fun (i : Unit) (s : Int × (Vector (BitVec 32) 64)) => [(2, val (.pointer (some ⟨b1, 0, none⟩))), (3, val (.pointer (some ⟨b2, 0, none⟩))), (10, (sl u8).slot x1), (11, i64.slot (x1.length : Int)), (12, i64.slot s.1)]) (Hi := fun (i : Unit) (s : Int × (Vector (BitVec 32) 64)) => [box b2 217 (vec 64 u32) s.2, box b1 217 (vec 64 u32) (Vector.replicate 64 (0#32))]) e7 () (fun a w hst => (hst.sub (.cons (.of_lk rfl) <| .cons (.of_lk rfl) <| .cons (.of_lk rfl) <| .cons (.of_lk rfl) <| .cons (.of_lk rfl) <| .nil)).keep (.cons .here <| .cons .here <| .nil)) ?_ ?_
  · clear h e7
    rintro _ ⟨y1, y2⟩ lr h
    change hash_schedule_L1 x1 y1 y2 = some _ at h
    show Run _ _ _ [(2, val (.pointer (some ⟨b1, 0, none⟩))), (3, val (.pointer (some ⟨b2, 0, none⟩))), (10, (sl u8).slot x1), (11, i64.slot (x1.length : Int)), (12, i64.slot y1)] [box b2 217 (vec 64 u32) y2, box b1 217 (vec 64 u32) (Vector.replicate 64 (0#32))]
    unfold hash_schedule_L1 at h
    refine rs ?_
    refine rt ?_
    refine jp (pj_ilss (ht rfl) (ht rfl)) rfl rfl rfl ?_
    refine j_end ?_
    refine rs ?_
    refine run_cond (ht rfl) (fun e2 => ?_) (fun e2 => ?_)
    · replace h := bt e2 h
      refine run_skip ?_
      refine rs ?_
      refine run_block ?_
      refine rs ?_
      refine rt ?_
      refine jp (pm (ht rfl)) rfl rfl rfl ?_
      obtain ⟨x2, e3, h⟩ := bind_some h
      refine jp (pj_index_slx (ht rfl) (ht rfl) isInt_i64 e3 (by kernel_rfl)) rfl rfl rfl ?_
      refine jp (pl (ht rfl) (by kernel_rfl)) rfl rfl rfl ?_
      refine jp (pa (ht rfl)) rfl rfl rfl ?_
      refine jp (pa (ht rfl)) rfl rfl rfl ?_
      refine j_end ?_
      refine rt ?_
      refine jp (pm (ht rfl)) rfl rfl rfl ?_
      refine jp (pj_iquo (ht rfl) has_i64 (by decide)) rfl rfl rfl ?_
      refine jp (pm (ht rfl)) rfl rfl rfl ?_
      refine jp (pj_iquo (ht rfl) has_i64 (by decide)) rfl rfl rfl ?_
      obtain ⟨x3, e4, h⟩ := bind_some h
      refine jp (pj_index_arr (n := 64) (sz := 1) (ht rfl) (ht rfl) isInt_i64 (vget_some e4).1 (vget_lt e4) (by kernel_rfl)) rfl rfl rfl ?_
      refine jp (PJ.eqv (pj_load_box (ht rfl) .here (Path.then (Path.all (vec 64 u32)) (Path.atI 64 u32 ((w64 (Int.tdiv y1 (4 : Int))).toNat) (vget_some e4).2.1)) (by kernel_rfl)) (vget_eq e4 (vget_some e4).2.1)) rfl rfl rfl ?_
      refine jp (pj_ushl (k := .u32) (b := 32) rfl rfl (ht rfl) (has_un (x := 8#64) rfl) isInt_un (Int.natCast_nonneg _)) rfl rfl rfl ?_
      refine jp (pm (ht rfl)) rfl rfl rfl ?_
      refine jp (pj_conv_uu (k := .u32) (b := 32) rfl rfl (by kernel_rfl) (ht rfl)) rfl rfl rfl ?_
      refine jp (pj_uor (k := .u32) (b := 32) rfl rfl (ht rfl) (ht rfl)) rfl rfl rfl ?_
      obtain ⟨e5, h⟩ := grd_some h
      refine jp (pj_index_arr (n := 64) (sz := 1) (ht rfl) (ht rfl) isInt_i64 e5.1 e5.2 (by kernel_rfl)) rfl rfl rfl ?_
      obtain ⟨x4, e6, h⟩ := bind_some h
      refine j_store_boxx (r' := x4) (ht rfl) (ht rfl) .here (Path.then (Path.all (vec 64 u32)) (Path.atI 64 u32 ((w64 (Int.tdiv y1 (4 : Int))).toNat) (lt_nat e5))) (by kernel_rfl) (oi e6) ?_
      refine j_end ?_
      refine run_endblock ?_
      refine rt ?_
      refine jp (pj_iadd (ht rfl) has_i64) rfl rfl rfl ?_
      refine jp (pm (ht rfl)) rfl rfl rfl ?_
      refine j_end ?_
      obtain rfl := oi h
      exact run_next () (.cons (.of_lk rfl) <| .cons (.of_lk rfl) <| .cons (.of_lk rfl) <| .cons (.of_lk rfl) <| .cons (.of_lk rfl) <| .nil) (.cons .here <| .cons .here <| .nil)
    · replace h := bf e2 h
      obtain rfl := oi h
      exact run_brk () (.cons (.of_lk rfl) <| .cons (.of_lk rfl) <| .cons (.of_lk rfl) <| .cons (.of_lk rfl) <| .cons (.of_lk rfl) <| .nil) (.cons .here <| .cons .here <| .nil)
  · rintro _
    show Run _ _ _ [(2, val (.pointer (some ⟨b1, 0, none⟩))), (3, val (.pointer (some ⟨b2, 0, none⟩))), (10, (sl u8).slot x1), (11, i64.slot (x1.length : Int)), (12, i64.slot y3)] [box b2 217 (vec 64 u32) y4, box b1 217 (vec 64 u32) (Vector.replicate 64 (0#32))]
    refine run_to (Γ' := [(2, val (.pointer (some ⟨b1, 0, none⟩))), (3, val (.pointer (some ⟨b2, 0, none⟩)))]) (H' := [box b2 217 (vec 64 u32) y4, box b1 217 (vec 64 u32) (Vector.replicate 64 (0#32))]) (.cons (.of_lk rfl) <| .cons (.of_lk rfl) <| .nil) (.cons .here <| .cons .here <| .nil) ?_
    refine rs ?_
    refine rs ?_
    refine rt ?_
    refine jp (pa has_i64) rfl rfl rfl ?_
    refine j_end ?_
    obtain ⟨⟨y7, y8⟩, e23, h⟩ := bind_some h
    refine run_loopS (Γi := fun (i : Unit) (s : Int × (Vector (BitVec 32) 64)) => [(2, val (.pointer (some ⟨b1, 0, none⟩))), (3, val (.pointer (some ⟨b2, 0, none⟩))), (6, i64.slot s.1)]) (Hi := fun (i : Unit) (s : Int × (Vector (BitVec 32) 64)) => [box b2 217 (vec 64 u32) s.2, box b1 217 (vec 64 u32) (Vector.replicate 64 (0#32))]) e23 () (fun a w hst => (hst.sub (.cons (.of_lk rfl) <| .cons (.of_lk rfl) <| .cons (.of_lk rfl) <| .nil)).keep (.cons .here <| .cons .here <| .nil)) ?_ ?_
    · clear h e23
      rintro _ ⟨y5, y6⟩ lr h
      change hash_schedule_L2 y5 y6 = some _ at h
      show Run _ _ _ [(2, val (.pointer (some ⟨b1, 0, none⟩))), (3, val (.pointer (some ⟨b2, 0, none⟩))), (6, i64.slot y5)] [box b2 217 (vec 64 u32) y6, box b1 217 (vec 64 u32) (Vector.replicate 64 (0#32))]
      unfold hash_schedule_L2 at h
      refine rs ?_
      refine rs ?_
      refine rt ?_
      refine jp (pm (ht rfl)) rfl rfl rfl ?_
      refine jp (pj_ilss (ht rfl) has_i64) rfl rfl rfl ?_
      refine j_end ?_
      refine run_cond (ht rfl) (fun e8 => ?_) (fun e8 => ?_)
      · replace h := bt e8 h
        refine run_skip ?_
        refine rs ?_
        refine run_block ?_
        refine rs ?_
        obtain ⟨x5, e9, h⟩ := bind_some h
        obtain ⟨r1, e10, h⟩ := bind_some h
        obtain ⟨x6, e11, h⟩ := bind_some h
        obtain ⟨r2, e12, h⟩ := bind_some h
        obtain ⟨x7, e13, h⟩ := bind_some h
        refine run_draw (n := 16) (by kernel_rfl) (by kernel_rfl) (by kernel_rfl) (by kernel_rfl) (.read (.plain rfl (pm (ht rfl))) <| .read (.plain rfl (pj_isub (ht rfl) has_i64)) <| .read (.plain rfl (pj_index_arr (n := 64) (sz := 1) (ht rfl) (ht rfl) isInt_i64 (vget_some e9).1 (vget_lt e9) (by kernel_rfl))) <| .read (.plain rfl (PJ.eqv (pj_load_box (ht rfl) .here (Path.then (Path.all (vec 64 u32)) (Path.atI 64 u32 ((w64 (y5 - (15 : Int))).toNat) (vget_some e9).2.1)) (by kernel_rfl)) (vget_eq e9 (vget_some e9).2.1))) <| .read (.plain rfl (pj_call (hc (ht rfl) <| hc has_i64 <| hasL_nil) (by kernel_rfl) (c_math_bits_RotateLeft32 e10))) <| .read (.plain rfl (pm (ht rfl))) <| .read (.plain rfl (pj_isub (ht rfl) has_i64)) <| .read (.plain rfl (pj_index_arr (n := 64) (sz := 1) (ht rfl) (ht rfl) isInt_i64 (vget_some e11).1 (vget_lt e11) (by kernel_rfl))) <| .read (.plain rfl (PJ.eqv (pj_load_box (ht rfl) .here (Path.then (Path.all (vec 64 u32)) (Path.atI 64 u32 ((w64 (y5 - (15 : Int))).toNat) (vget_some e11).2.1)) (by kernel_rfl)) (vget_eq e11 (vget_some e11).2.1))) <| .read (.plain rfl (pj_call (hc (ht rfl) <| hc has_i64 <| hasL_nil) (by kernel_rfl) (c_math_bits_RotateLeft32 e12))) <| .read (.plain rfl (pj_uxor (k := .u32) (b := 32) rfl rfl (ht rfl) (ht rfl))) <| .read (.plain rfl (pm (ht rfl))) <| .read (.plain rfl (pj_isub (ht rfl) has_i64)) <| .read (.plain rfl (pj_index_arr (n := 64) (sz := 1) (ht rfl) (ht rfl) isInt_i64 (vget_some e13).1 (vget_lt e13) (by kernel_rfl))) <| .read (.plain rfl (PJ.eqv (pj_load_box (ht rfl) .here (Path.then (Path.all (vec 64 u32)) (Path.atI 64 u32 ((w64 (y5 - (15 : Int))).toNat) (vget_some e13).2.1)) (by kernel_rfl)) (vget_eq e13 (vget_some e13).2.1))) <| .read (.plain rfl (pj_ushr (k := .u32) (b := 32) rfl (ht rfl) (has_un (x := 3#64) rfl) isInt_un (Int.natCast_nonneg _))) <| .nil) (j_to (Γ' := [(2, val (.pointer (some ⟨b1, 0, none⟩))), (3, val (.pointer (some ⟨b2, 0, none⟩))), (6, i64.slot y5), (43, u32.slot (r1 ^^^ r2)), (48, u32.slot (x7 >>> 3))]) (H' := [box b2 217 (vec 64 u32) y6, box b1 217 (vec 64 u32) (Vector.replicate 64 (0#32))]) (.cons (.of_lk rfl) <| .cons (.of_lk rfl) <| .cons (.of_lk rfl) <| .cons (.of_lk rfl) <| .cons (.of_lk rfl) <| .nil) (.cons .here <| .cons .here <| .nil) ?_)
        refine jp (pj_uxor (k := .u32) (b := 32) rfl rfl (ht rfl) (ht rfl)) rfl rfl rfl ?_
        refine jp (pa (ht rfl)) rfl rfl rfl ?_
        refine j_end ?_
        refine rs ?_
        obtain ⟨x8, e14, h⟩ := bind_some h
        obtain ⟨r3, e15, h⟩ := bind_some h
        obtain ⟨x9, e16, h⟩ := bind_some h
        obtain ⟨r4, e17, h⟩ := bind_some h
        obtain ⟨x10, e18, h⟩ := bind_some h
        refine run_draw (n := 16) (by kernel_rfl) (by kernel_rfl) (by kernel_rfl) (by kernel_rfl) (.read (.plain rfl (pm (ht rfl))) <| .read (.plain rfl (pj_isub (ht rfl) has_i64)) <| .read (.plain rfl (pj_index_arr (n := 64) (sz := 1) (ht rfl) (ht rfl) isInt_i64 (vget_some e14).1 (vget_lt e14) (by kernel_rfl))) <| .read (.plain rfl (PJ.eqv (pj_load_box (ht rfl) .here (Path.then (Path.all (vec 64 u32)) (Path.atI 64 u32 ((w64 (y5 - (2 : Int))).toNat) (vget_some e14).2.1)) (by kernel_rfl)) (vget_eq e14 (vget_some e14).2.1))) <| .read (.plain rfl (pj_call (hc (ht rfl) <| hc has_i64 <| hasL_nil) (by kernel_rfl) (c_math_bits_RotateLeft32 e15))) <| .read (.plain rfl (pm (ht rfl))) <| .read (.plain rfl (pj_isub (ht rfl) has_i64)) <| .read (.plain rfl (pj_index_arr (n := 64) (sz := 1) (ht rfl) (ht rfl) isInt_i64 (vget_some e16).1 (vget_lt e16) (by kernel_rfl))) <| .read (.plain rfl (PJ.eqv (pj_load_box (ht rfl) .here (Path.then (Path.all (vec 64 u32)) (Path.atI 64 u32 ((w64 (y5 - (2 : Int))).toNat) (vget_some e16).2.1)) (by kernel_rfl)) (vget_eq e16 (vget_some e16).2.1))) <| .read (.plain rfl (pj_call (hc (ht rfl) <| hc has_i64 <| hasL_nil) (by kernel_rfl) (c_math_bits_RotateLeft32 e17))) <| .read (.plain rfl (pj_uxor (k := .u32) (b := 32) rfl rfl (ht rfl) (ht rfl))) <| .read (.plain rfl (pm (ht rfl))) <| .read (.plain rfl (pj_isub (ht rfl) has_i64)) <| .read (.plain rfl (pj_index_arr (n := 64) (sz := 1) (ht rfl) (ht rfl) isInt_i64 (vget_some e18).1 (vget_lt e18) (by kernel_rfl))) <| .read (.plain rfl (PJ.eqv (pj_load_box (ht rfl) .here (Path.then (Path.all (vec 64 u32)) (Path.atI 64 u32 ((w64 (y5 - (2 : Int))).toNat) (vget_some e18).2.1)) (by kernel_rfl)) (vget_eq e18 (vget_some e18).2.1))) <| .read (.plain rfl (pj_ushr (k := .u32) (b := 32) rfl (ht rfl) (has_un (x := 10#64) rfl) isInt_un (Int.natCast_nonneg _))) <| .nil) (j_to (Γ' := [(2, val (.pointer (some ⟨b1, 0, none⟩))), (3, val (.pointer (some ⟨b2, 0, none⟩))), (6, i64.slot y5), (7, u32.slot ((r1 ^^^ r2) ^^^ (x7 >>> 3))), (60, u32.slot (r3 ^^^ r4)), (65, u32.slot (x10 >>> 10))]) (H' := [box b2 217 (vec 64 u32) y6, box b1 217 (vec 64 u32) (Vector.replicate 64 (0#32))]) (.cons (.of_lk rfl) <| .cons (.of_lk rfl) <| .cons (.of_lk rfl) <| .cons (.of_lk rfl) <| .cons (.of_lk rfl) <| .cons (.of_lk rfl) <| .nil) (.cons .here <| .cons .here <| .nil) ?_)
        refine jp (pj_uxor (k := .u32) (b := 32) rfl rfl (ht rfl) (ht rfl)) rfl rfl rfl ?_
        refine jp (pa (ht rfl)) rfl rfl rfl ?_
        refine j_end ?_
        obtain ⟨x11, e19, h⟩ := bind_some h
        obtain ⟨x12, e20, h⟩ := bind_some h
        refine run_draw (n := 14) (by kernel_rfl) (by kernel_rfl) (by kernel_rfl) (by kernel_rfl) (.read (.plain rfl (pm (ht rfl))) <| .read (.plain rfl (pm (ht rfl))) <| .read (.plain rfl (pj_isub (ht rfl) has_i64)) <| .read (.plain rfl (pj_index_arr (n := 64) (sz := 1) (ht rfl) (ht rfl) isInt_i64 (vget_some e19).1 (vget_lt e19) (by kernel_rfl))) <| .read (.plain rfl (PJ.eqv (pj_load_box (ht rfl) .here (Path.then (Path.all (vec 64 u32)) (Path.atI 64 u32 ((w64 (y5 - (16 : Int))).toNat) (vget_some e19).2.1)) (by kernel_rfl)) (vget_eq e19 (vget_some e19).2.1))) <| .read (.plain rfl (pm (ht rfl))) <| .read (.plain rfl (pj_uadd (k := .u32) (b := 32) rfl rfl (ht rfl) (ht rfl))) <| .read (.plain rfl (pm (ht rfl))) <| .read (.plain rfl (pj_isub (ht rfl) has_i64)) <| .read (.plain rfl (pj_index_arr (n := 64) (sz := 1) (ht rfl) (ht rfl) isInt_i64 (vget_some e20).1 (vget_lt e20) (by kernel_rfl))) <| .read (.plain rfl (PJ.eqv (pj_load_box (ht rfl) .here (Path.then (Path.all (vec 64 u32)) (Path.atI 64 u32 ((w64 (y5 - (7 : Int))).toNat) (vget_some e20).2.1)) (by kernel_rfl)) (vget_eq e20 (vget_some e20).2.1))) <| .read (.plain rfl (pj_uadd (k := .u32) (b := 32) rfl rfl (ht rfl) (ht rfl))) <| .read (.plain rfl (pm (ht rfl))) <| .read (.plain rfl (pj_uadd (k := .u32) (b := 32) rfl rfl (ht rfl) (ht rfl))) <| .nil) (j_to (Γ' := [(2, val (.pointer (some ⟨b1, 0, none⟩))), (3, val (.pointer (some ⟨b2, 0, none⟩))), (6, i64.slot y5), (67, i64.slot y5), (80, u32.slot (((x11 + ((r1 ^^^ r2) ^^^ (x7 >>> 3))) + x12) + ((r3 ^^^ r4) ^^^ (x10 >>> 10))))]) (H' := [box b2 217 (vec 64 u32) y6, box b1 217 (vec 64 u32) (Vector.replicate 64 (0#32))]) (.cons (.of_lk rfl) <| .cons (.of_lk rfl) <| .cons (.of_lk rfl) <| .cons (.of_lk rfl) <| .cons (.of_lk rfl) <| .nil) (.cons .here <| .cons .here <| .nil) ?_)
        obtain ⟨e21, h⟩ := grd_some h
        refine jp (pj_index_arr (n := 64) (sz := 1) (ht rfl) (ht rfl) isInt_i64 e21.1 e21.2 (by kernel_rfl)) rfl rfl rfl ?_
        obtain ⟨x13, e22, h⟩ := bind_some h
        refine j_store_boxx (r' := x13) (ht rfl) (ht rfl) .here (Path.then (Path.all (vec 64 u32)) (Path.atI 64 u32 y5.toNat (lt_nat e21))) (by kernel_rfl) (oi e22) ?_
        refine j_end ?_
        refine run_endblock ?_
        refine rt ?_
        refine jp (pm (ht rfl)) rfl rfl rfl ?_
        refine jp (pj_iadd (ht rfl) has_i64) rfl rfl rfl ?_
        refine jp (pa (ht rfl)) rfl rfl rfl ?_
        refine j_end ?_
        obtain rfl := oi h
        exact run_next () (.cons (.of_lk rfl) <| .cons (.of_lk rfl) <| .cons (.of_lk rfl) <| .nil) (.cons .here <| .cons .here <| .nil)
      · replace h := bf e8 h
        obtain rfl := oi h
        exact run_brk () (.cons (.of_lk rfl) <| .cons (.of_lk rfl) <| .cons (.of_lk rfl) <| .nil) (.cons .here <| .cons .here <| .nil)
    · rintro _
      show Run _ _ _ [(2, val (.pointer (some ⟨b1, 0, none⟩))), (3, val (.pointer (some ⟨b2, 0, none⟩))), (6, i64.slot y7)] [box b2 217 (vec 64 u32) y8, box b1 217 (vec 64 u32) (Vector.replicate 64 (0#32))]
      refine run_to (Γ' := [(2, val (.pointer (some ⟨b1, 0, none⟩))), (3, val (.pointer (some ⟨b2, 0, none⟩)))]) (H' := [box b2 217 (vec 64 u32) y8, box b1 217 (vec 64 u32) (Vector.replicate 64 (0#32))]) (.cons (.of_lk rfl) <| .cons (.of_lk rfl) <| .nil) (.cons .here <| .cons .here <| .nil) ?_
      refine rs ?_
      refine rt ?_
      refine jp (pj_load_box (ht rfl) .here (Path.all (vec 64 u32)) (by kernel_rfl)) rfl rfl rfl ?_
      refine j_store_boxx (r' := y8) (ht rfl) (ht rfl) (.next .here) (Path.all (vec 64 u32)) (by kernel_rfl) rfl ?_
      refine j_end ?_
      obtain rfl := oi h
      exact run_ret fun a w hst => q_ret1 hst rfl (.cell rfl .here (by kernel_rfl)) () (fun _ _ h => h) (.nil)
set_option maxRecDepth 100000 in
set_option maxHeartbeats 4000000 in
theorem c_hash_state_block {G : GP} (hg2 : HG2 G) {p_s : T_hash_state} {p_b : List (BitVec 8)} {r : T_hash_state} (h : hash_state_block p_s p_b = some r) : Ctr Tryz.prog G 160 [R_hash_state.slot p_s, (sl u8).slot p_b] [] (fun (_ : Unit) => R_hash_state.slot r) (fun (_ : Unit) => []) := by
  unfold hash_state_block at h
  refine ctr_of_run Tryz.func160 rfl 115 rfl rfl fun m0 w0 b0 => ?_
  show Run _ _ _ [(0, R_hash_state.slot p_s), (1, (sl u8).slot p_b)] _
  refine rs ?_
  refine rt ?_
  refine j_box (ht rfl) rfl fun b1 => ?_
  refine j_alloc (x := (Vector.replicate 8 (0#32))) (R := R_hash_state) (zero_vec 8 zero_un) (by kernel_rfl) rfl fun b2 => ?_
  refine j_end ?_
  refine rs ?_
  refine rt ?_
  refine jp (pm (ht rfl)) rfl rfl rfl ?_
  obtain ⟨r1, e1, h⟩ := bind_some h
  refine jp (pj_call (hc (ht rfl) <| hasL_nil) (by kernel_rfl) (c_hash_schedule e1)) rfl rfl rfl ?_
  refine j_alloc (x := (Vector.replicate 64 (0#32))) (R := (vec 64 u32)) (zero_vec 64 zero_un) (by kernel_rfl) rfl fun b3 => ?_
  refine j_store_boxx (r' := r1) (ht rfl) (ht rfl) .here (Path.all (vec 64 u32)) (by kernel_rfl) rfl ?_
  refine j_freezeTo (t := 5) .here (.of_lk rfl) ?_
  refine j_end ?_
  refine rs ?_
  refine rt ?_
  refine jp (pj_load_box (ht rfl) (.next .here) (Path.all R_hash_state) (by kernel_rfl)) rfl rfl rfl ?_
  refine j_alloc (x := (Vector.replicate 8 (0#32))) (R := R_hash_state) (zero_vec 8 zero_un) (by kernel_rfl) rfl fun b4 => ?_
  refine j_store_boxx (r' := p_s) (ht rfl) (ht rfl) .here (Path.all R_hash_state) (by kernel_rfl) rfl ?_
  refine j_end ?_
  refine rs ?_
  refine rs ?_
  refine rt ?_
  refine jp (pm has_i64) rfl rfl rfl ?_
  refine j_end ?_
  obtain ⟨⟨y3, y4⟩, e14, h⟩ := bind_some h
  refine run_loopS (Γi := fun (i : Unit) (s : Int × T_hash_state) => [(2, val (.pointer (some ⟨b1, 0, none⟩))), (4, val (.pointer (some ⟨b2, 0, none⟩))), (5, ptrTo (vec 64 u32) r1), (6, val (.pointer (some ⟨b4, 0, none⟩))), (16, i64.slot s.1)]) (Hi := fun (i : Unit) (s : Int × T_hash_state) => [box b4 229 R_hash_state s.2, box b2 229 R_hash_state (Vector.replicate 8 (0#32)), box b1 229 R_hash_state p_s]) e14 () (fun a w hst => (hst.sub (.cons (.of_lk rfl) <| .cons (.of_lk rfl) <| .cons (.of_lk rfl) <| .cons (.of_lk rfl) <| .cons (.of_lk rfl) <| .nil)).keep (.cons .here <| .cons .here <| .cons .here <| .nil)) ?_ ?_
  · clear h e14
    rintro _ ⟨y1, y2⟩ lr h
    change hash_state_block_L1 r1 y1 y2 = some _ at h
    show Run _ _ _ [(2, val (.pointer (some ⟨b1, 0, none⟩))), (4, val (.pointer (some ⟨b2, 0, none⟩))), (5, ptrTo (vec 64 u32) r1), (6, val (.pointer (some ⟨b4, 0, none⟩))), (16, i64.slot y1)] [box b4 229 R_hash_state y2, box b2 229 R_hash_state (Vector.replicate 8 (0#32)), box b1 229 R_hash_state p_s]
    unfold hash_state_block_L1 at h
    refine rs ?_
    refine rt ?_
    refine jp (pj_ilss (ht rfl) has_i64) rfl rfl rfl ?_
    refine j_end ?_
    refine rs ?_
    refine run_cond (ht rfl) (fun e2 => ?_) (fun e2 => ?_)
    · replace h := bt e2 h
      refine run_skip ?_
      refine rs ?_
      refine run_block ?_
      refine rs ?_
      refine rt ?_
      refine jp (pm (ht rfl)) rfl rfl rfl ?_
      refine jp (pa (ht rfl)) rfl rfl rfl ?_
      refine j_end ?_
      refine rs ?_
      obtain ⟨r2, e3, h⟩ := bind_some h
      obtain ⟨r3, e4, h⟩ := bind_some h
      obtain ⟨r4, e5, h⟩ := bind_some h
      refine run_draw (n := 10) (by kernel_rfl) (by kernel_rfl) (by kernel_rfl) (by kernel_rfl) (.read (.plain rfl (pj_index_arr (n := 8) (sz := 1) (ht rfl) has_i64 isInt_i64 (by decide) (by decide) (by kernel_rfl))) <| .read (.plain rfl (pj_load_box (ht rfl) .here (Path.then (Path.all R_hash_state) (Path.at 8 u32 4 (by decide))) (by kernel_rfl))) <| .read (.plain rfl (pj_call (hc (ht rfl) <| hc has_i64 <| hasL_nil) (by kernel_rfl) (c_math_bits_RotateLeft32 e3))) <| .read (.plain rfl (pj_index_arr (n := 8) (sz := 1) (ht rfl) has_i64 isInt_i64 (by decide) (by decide) (by kernel_rfl))) <| .read (.plain rfl (pj_load_box (ht rfl) .here (Path.then (Path.all R_hash_state) (Path.at 8 u32 4 (by decide))) (by kernel_rfl))) <| .read (.plain rfl (pj_call (hc (ht rfl) <| hc has_i64 <| hasL_nil) (by kernel_rfl) (c_math_bits_RotateLeft32 e4))) <| .read (.plain rfl (pj_uxor (k := .u32) (b := 32) rfl rfl (ht rfl) (ht rfl))) <| .read (.plain rfl (pj_index_arr (n := 8) (sz := 1) (ht rfl) has_i64 isInt_i64 (by decide) (by decide) (by kernel_rfl))) <| .read (.plain rfl (pj_load_box (ht rfl) .here (Path.then (Path.all R_hash_state) (Path.at 8 u32 4 (by decide))) (by kernel_rfl))) <| .read (.plain rfl (pj_call (hc (ht rfl) <| hc has_i64 <| hasL_nil) (by kernel_rfl) (c_math_bits_RotateLeft32 e5))) <| .nil) (j_to (Γ' := [(2, val (.pointer (some ⟨b1, 0, none⟩))), (4, val (.pointer (some ⟨b2, 0, none⟩))), (5, ptrTo (vec 64 u32) r1), (6, val (.pointer (some ⟨b4, 0, none⟩))), (7, i64.slot y1), (16, i64.slot y1), (25, u32.slot (r2 ^^^ r3)), (28, u32.slot r4)]) (H' := [box b4 229 R_hash_state y2, box b2 229 R_hash_state (Vector.replicate 8 (0#32)), box b1 229 R_hash_state p_s]) (.cons (.of_lk rfl) <| .cons (.of_lk rfl) <| .cons (.of_lk rfl) <| .cons (.of_lk rfl) <| .cons (.of_lk rfl) <| .cons (.of_lk rfl) <| .cons (.of_lk rfl) <| .cons (.of_lk rfl) <| .nil) (.cons .here <| .cons .here <| .cons .here <| .nil) ?_)
      refine jp (pj_uxor (k := .u32) (b := 32) rfl rfl (ht rfl) (ht rfl)) rfl rfl rfl ?_
      refine jp (pa (ht rfl)) rfl rfl rfl ?_
      refine j_end ?_
      refine rs ?_
      obtain ⟨x1, e6, h⟩ := bind_some h
      obtain ⟨x2, e7, h⟩ := bind_some h
      refine run_draw (n := 23) (by kernel_rfl) (by kernel_rfl) (by kernel_rfl) (by kernel_rfl) (.read (.plain rfl (pj_index_arr (n := 8) (sz := 1) (ht rfl) has_i64 isInt_i64 (by decide) (by decide) (by kernel_rfl))) <| .read (.plain rfl (pj_load_box (ht rfl) .here (Path.then (Path.all R_hash_state) (Path.at 8 u32 7 (by decide))) (by kernel_rfl))) <| .read (.plain rfl (pm (ht rfl))) <| .read (.plain rfl (pj_uadd (k := .u32) (b := 32) rfl rfl (ht rfl) (ht rfl))) <| .read (.plain rfl (pj_index_arr (n := 8) (sz := 1) (ht rfl) has_i64 isInt_i64 (by decide) (by decide) (by kernel_rfl))) <| .read (.plain rfl (pj_load_box (ht rfl) .here (Path.then (Path.all R_hash_state) (Path.at 8 u32 6 (by decide))) (by kernel_rfl))) <| .read (.plain rfl (pj_index_arr (n := 8) (sz := 1) (ht rfl) has_i64 isInt_i64 (by decide) (by decide) (by kernel_rfl))) <| .read (.plain rfl (pj_load_box (ht rfl) .here (Path.then (Path.all R_hash_state) (Path.at 8 u32 4 (by decide))) (by kernel_rfl))) <| .read (.plain rfl (pj_index_arr (n := 8) (sz := 1) (ht rfl) has_i64 isInt_i64 (by decide) (by decide) (by kernel_rfl))) <| .read (.plain rfl (pj_load_box (ht rfl) .here (Path.then (Path.all R_hash_state) (Path.at 8 u32 5 (by decide))) (by kernel_rfl))) <| .read (.plain rfl (pj_index_arr (n := 8) (sz := 1) (ht rfl) has_i64 isInt_i64 (by decide) (by decide) (by kernel_rfl))) <| .read (.plain rfl (pj_load_box (ht rfl) .here (Path.then (Path.all R_hash_state) (Path.at 8 u32 6 (by decide))) (by kernel_rfl))) <| .read (.plain rfl (pj_uxor (k := .u32) (b := 32) rfl rfl (ht rfl) (ht rfl))) <| .read (.plain rfl (pj_uand (k := .u32) (b := 32) rfl rfl (ht rfl) (ht rfl))) <| .read (.plain rfl (pj_uxor (k := .u32) (b := 32) rfl rfl (ht rfl) (ht rfl))) <| .read (.plain rfl (pj_uadd (k := .u32) (b := 32) rfl rfl (ht rfl) (ht rfl))) <| .read (.plain rfl (pm (ht rfl))) <| .read (.plain rfl (pj_index_gx (v := G_hash_rounds) hg2 (ht rfl) isInt_i64 e6 (by kernel_rfl))) <| .read (.plain rfl (pl (ht rfl) (by kernel_rfl))) <| .read (.plain rfl (pj_uadd (k := .u32) (b := 32) rfl rfl (ht rfl) (ht rfl))) <| .read (.plain rfl (pm (ht rfl))) <| .read (.plain rfl (pj_index_tox (ht rfl) (ht rfl) isInt_i64 e7 (by kernel_rfl))) <| .read (.plain rfl (pl (ht rfl) (by kernel_rfl))) <| .nil) (j_to (Γ' := [(2, val (.pointer (some ⟨b1, 0, none⟩))), (4, val (.pointer (some ⟨b2, 0, none⟩))), (5, ptrTo (vec 64 u32) r1), (6, val (.pointer (some ⟨b4, 0, none⟩))), (16, i64.slot y1), (49, u32.slot ((((y2[7]) + ((r2 ^^^ r3) ^^^ r4)) + ((y2[6]) ^^^ ((y2[4]) &&& ((y2[5]) ^^^ (y2[6]))))) + x1)), (52, u32.slot x2)]) (H' := [box b4 229 R_hash_state y2, box b2 229 R_hash_state (Vector.replicate 8 (0#32)), box b1 229 R_hash_state p_s]) (.cons (.of_lk rfl) <| .cons (.of_lk rfl) <| .cons (.of_lk rfl) <| .cons (.of_lk rfl) <| .cons (.of_lk rfl) <| .cons (.of_lk rfl) <| .cons (.of_lk rfl) <| .nil) (.cons .here <| .cons .here <| .cons .here <| .nil) ?_)
      refine jp (pj_uadd (k := .u32) (b := 32) rfl rfl (ht rfl) (ht rfl)) rfl rfl rfl ?_
      obtain ⟨x3, e8, h⟩ := bind_some h
      refine jp (PJ.eqv (pa (ht rfl)) (oi e8)) rfl rfl rfl ?_
      refine j_end ?_
      refine rs ?_
      obtain ⟨r5, e9, h⟩ := bind_some h
      obtain ⟨r6, e10, h⟩ := bind_some h
      obtain ⟨r7, e11, h⟩ := bind_some h
      refine run_draw (n := 10) (by kernel_rfl) (by kernel_rfl) (by kernel_rfl) (by kernel_rfl) (.read (.plain rfl (pj_index_arr (n := 8) (sz := 1) (ht rfl) has_i64 isInt_i64 (by decide) (by decide) (by kernel_rfl))) <| .read (.plain rfl (pj_load_box (ht rfl) .here (Path.then (Path.all R_hash_state) (Path.at 8 u32 0 (by decide))) (by kernel_rfl))) <| .read (.plain rfl (pj_call (hc (ht rfl) <| hc has_i64 <| hasL_nil) (by kernel_rfl) (c_math_bits_RotateLeft32 e9))) <| .read (.plain rfl (pj_index_arr (n := 8) (sz := 1) (ht rfl) has_i64 isInt_i64 (by decide) (by decide) (by kernel_rfl))) <| .read (.plain rfl (pj_load_box (ht rfl) .here (Path.then (Path.all R_hash_state) (Path.at 8 u32 0 (by decide))) (by kernel_rfl))) <| .read (.plain rfl (pj_call (hc (ht rfl) <| hc has_i64 <| hasL_nil) (by kernel_rfl) (c_math_bits_RotateLeft32 e10))) <| .read (.plain rfl (pj_uxor (k := .u32) (b := 32) rfl rfl (ht rfl) (ht rfl))) <| .read (.plain rfl (pj_index_arr (n := 8) (sz := 1) (ht rfl) has_i64 isInt_i64 (by decide) (by decide) (by kernel_rfl))) <| .read (.plain rfl (pj_load_box (ht rfl) .here (Path.then (Path.all R_hash_state) (Path.at 8 u32 0 (by decide))) (by kernel_rfl))) <| .read (.plain rfl (pj_call (hc (ht rfl) <| hc has_i64 <| hasL_nil) (by kernel_rfl) (c_math_bits_RotateLeft32 e11))) <| .nil) (j_to (Γ' := [(2, val (.pointer (some ⟨b1, 0, none⟩))), (4, val (.pointer (some ⟨b2, 0, none⟩))), (5, ptrTo (vec 64 u32) r1), (6, val (.pointer (some ⟨b4, 0, none⟩))), (9, u32.slot x3), (16, i64.slot y1), (60, u32.slot (r5 ^^^ r6)), (63, u32.slot r7)]) (H' := [box b4 229 R_hash_state y2, box b2 229 R_hash_state (Vector.replicate 8 (0#32)), box b1 229 R_hash_state p_s]) (.cons (.of_lk rfl) <| .cons (.of_lk rfl) <| .cons (.of_lk rfl) <| .cons (.of_lk rfl) <| .cons (.of_lk rfl) <| .cons (.of_lk rfl) <| .cons (.of_lk rfl) <| .cons (.of_lk rfl) <| .nil) (.cons .here <| .cons .here <| .cons .here <| .nil) ?_)
      refine jp (pj_uxor (k := .u32) (b := 32) rfl rfl (ht rfl) (ht rfl)) rfl rfl rfl ?_
      refine jp (pa (ht rfl)) rfl rfl rfl ?_
      refine j_end ?_
      refine rs ?_
      refine rt ?_
      refine jp (pm (ht rfl)) rfl rfl rfl ?_
      refine jp (pj_index_arr (n := 8) (sz := 1) (ht rfl) has_i64 isInt_i64 (by decide) (by decide) (by kernel_rfl)) rfl rfl rfl ?_
      refine jp (pj_load_box (ht rfl) .here (Path.then (Path.all R_hash_state) (Path.at 8 u32 0 (by decide))) (by kernel_rfl)) rfl rfl rfl ?_
      refine jp (pj_index_arr (n := 8) (sz := 1) (ht rfl) has_i64 isInt_i64 (by decide) (by decide) (by kernel_rfl)) rfl rfl rfl ?_
      refine jp (pj_load_box (ht rfl) .here (Path.then (Path.all R_hash_state) (Path.at 8 u32 1 (by decide))) (by kernel_rfl)) rfl rfl rfl ?_
      refine jp (pj_uand (k := .u32) (b := 32) rfl rfl (ht rfl) (ht rfl)) rfl rfl rfl ?_
      refine jp (pj_index_arr (n := 8) (sz := 1) (ht rfl) has_i64 isInt_i64 (by decide) (by decide) (by kernel_rfl)) rfl rfl rfl ?_
      refine jp (pj_load_box (ht rfl) .here (Path.then (Path.all R_hash_state) (Path.at 8 u32 2 (by decide))) (by kernel_rfl)) rfl rfl rfl ?_
      refine jp (pj_index_arr (n := 8) (sz := 1) (ht rfl) has_i64 isInt_i64 (by decide) (by decide) (by kernel_rfl)) rfl rfl rfl ?_
      refine jp (pj_load_box (ht rfl) .here (Path.then (Path.all R_hash_state) (Path.at 8 u32 0 (by decide))) (by kernel_rfl)) rfl rfl rfl ?_
      refine jp (pj_index_arr (n := 8) (sz := 1) (ht rfl) has_i64 isInt_i64 (by decide) (by decide) (by kernel_rfl)) rfl rfl rfl ?_
      refine jp (pj_load_box (ht rfl) .here (Path.then (Path.all R_hash_state) (Path.at 8 u32 1 (by decide))) (by kernel_rfl)) rfl rfl rfl ?_
      refine jp (pj_uor (k := .u32) (b := 32) rfl rfl (ht rfl) (ht rfl)) rfl rfl rfl ?_
      refine jp (pj_uand (k := .u32) (b := 32) rfl rfl (ht rfl) (ht rfl)) rfl rfl rfl ?_
      refine jp (pj_uor (k := .u32) (b := 32) rfl rfl (ht rfl) (ht rfl)) rfl rfl rfl ?_
      refine jp (pj_uadd (k := .u32) (b := 32) rfl rfl (ht rfl) (ht rfl)) rfl rfl rfl ?_
      obtain ⟨x4, e12, h⟩ := bind_some h
      refine jp (PJ.eqv (pa (ht rfl)) (oi e12)) rfl rfl rfl ?_
      refine j_end ?_
      refine rt ?_
      refine jp (pm (ht rfl)) rfl rfl rfl ?_
      refine jp (pm (ht rfl)) rfl rfl rfl ?_
      refine jp (pj_uadd (k := .u32) (b := 32) rfl rfl (ht rfl) (ht rfl)) rfl rfl rfl ?_
      refine jp (pj_index_arr (n := 8) (sz := 1) (ht rfl) has_i64 isInt_i64 (by decide) (by decide) (by kernel_rfl)) rfl rfl rfl ?_
      refine jp (pj_load_box (ht rfl) .here (Path.then (Path.all R_hash_state) (Path.at 8 u32 0 (by decide))) (by kernel_rfl)) rfl rfl rfl ?_
      refine jp (pj_index_arr (n := 8) (sz := 1) (ht rfl) has_i64 isInt_i64 (by decide) (by decide) (by kernel_rfl)) rfl rfl rfl ?_
      refine jp (pj_load_box (ht rfl) .here (Path.then (Path.all R_hash_state) (Path.at 8 u32 1 (by decide))) (by kernel_rfl)) rfl rfl rfl ?_
      refine jp (pj_index_arr (n := 8) (sz := 1) (ht rfl) has_i64 isInt_i64 (by decide) (by decide) (by kernel_rfl)) rfl rfl rfl ?_
      refine jp (pj_load_box (ht rfl) .here (Path.then (Path.all R_hash_state) (Path.at 8 u32 2 (by decide))) (by kernel_rfl)) rfl rfl rfl ?_
      refine jp (pj_index_arr (n := 8) (sz := 1) (ht rfl) has_i64 isInt_i64 (by decide) (by decide) (by kernel_rfl)) rfl rfl rfl ?_
      refine jp (pj_load_box (ht rfl) .here (Path.then (Path.all R_hash_state) (Path.at 8 u32 3 (by decide))) (by kernel_rfl)) rfl rfl rfl ?_
      refine jp (pm (ht rfl)) rfl rfl rfl ?_
      refine jp (pj_uadd (k := .u32) (b := 32) rfl rfl (ht rfl) (ht rfl)) rfl rfl rfl ?_
      refine jp (pj_index_arr (n := 8) (sz := 1) (ht rfl) has_i64 isInt_i64 (by decide) (by decide) (by kernel_rfl)) rfl rfl rfl ?_
      refine jp (pj_load_box (ht rfl) .here (Path.then (Path.all R_hash_state) (Path.at 8 u32 4 (by decide))) (by kernel_rfl)) rfl rfl rfl ?_
      refine jp (pj_index_arr (n := 8) (sz := 1) (ht rfl) has_i64 isInt_i64 (by decide) (by decide) (by kernel_rfl)) rfl rfl rfl ?_
      refine jp (pj_load_box (ht rfl) .here (Path.then (Path.all R_hash_state) (Path.at 8 u32 5 (by decide))) (by kernel_rfl)) rfl rfl rfl ?_
      refine jp (pj_index_arr (n := 8) (sz := 1) (ht rfl) has_i64 isInt_i64 (by decide) (by decide) (by kernel_rfl)) rfl rfl rfl ?_
      refine jp (pj_load_box (ht rfl) .here (Path.then (Path.all R_hash_state) (Path.at 8 u32 6 (by decide))) (by kernel_rfl)) rfl rfl rfl ?_
      obtain ⟨x5, e13, h⟩ := bind_some h
      refine jp (PJ.eqv (pj_buildArr (z0 := 0#32) (zero_vec 8 zero_un) (by kernel_rfl) (.cons (ht rfl) (.cons (ht rfl) (.cons (ht rfl) (.cons (ht rfl) (.cons (ht rfl) (.cons (ht rfl) (.cons (ht rfl) (.cons (ht rfl) .nil)))))))) (by kernel_rfl) rfl) (oi e13)) rfl rfl rfl ?_
      refine j_store_boxx (r' := x5) (ht rfl) (ht rfl) .here (Path.all R_hash_state) (by kernel_rfl) rfl ?_
      refine j_end ?_
      refine run_endblock ?_
      refine rt ?_
      refine jp (pj_iadd (ht rfl) has_i64) rfl rfl rfl ?_
      refine jp (pm (ht rfl)) rfl rfl rfl ?_
      refine j_end ?_
      obtain rfl := oi h
      exact run_next () (.cons (.of_lk rfl) <| .cons (.of_lk rfl) <| .cons (.of_lk rfl) <| .cons (.of_lk rfl) <| .cons (.of_lk rfl) <| .nil) (.cons .here <| .cons .here <| .cons .here <| .nil)
    · replace h := bf e2 h
      obtain rfl := oi h
      exact run_brk () (.cons (.of_lk rfl) <| .cons (.of_lk rfl) <| .cons (.of_lk rfl) <| .cons (.of_lk rfl) <| .cons (.of_lk rfl) <| .nil) (.cons .here <| .cons .here <| .cons .here <| .nil)
  · rintro _
    show Run _ _ _ [(2, val (.pointer (some ⟨b1, 0, none⟩))), (4, val (.pointer (some ⟨b2, 0, none⟩))), (5, ptrTo (vec 64 u32) r1), (6, val (.pointer (some ⟨b4, 0, none⟩))), (16, i64.slot y3)] [box b4 229 R_hash_state y4, box b2 229 R_hash_state (Vector.replicate 8 (0#32)), box b1 229 R_hash_state p_s]
    refine run_to (Γ' := [(2, val (.pointer (some ⟨b1, 0, none⟩))), (4, val (.pointer (some ⟨b2, 0, none⟩))), (6, val (.pointer (some ⟨b4, 0, none⟩)))]) (H' := [box b4 229 R_hash_state y4, box b2 229 R_hash_state (Vector.replicate 8 (0#32)), box b1 229 R_hash_state p_s]) (.cons (.of_lk rfl) <| .cons (.of_lk rfl) <| .cons (.of_lk rfl) <| .nil) (.cons .here <| .cons .here <| .cons .here <| .nil) ?_
    refine rs ?_
    refine rs ?_
    refine rt ?_
    refine jp (pm has_i64) rfl rfl rfl ?_
    refine j_end ?_
    obtain ⟨⟨y7, y8⟩, e19, h⟩ := bind_some h
    refine run_loopS (Γi := fun (i : Unit) (s : Int × T_hash_state) => [(2, val (.pointer (some ⟨b1, 0, none⟩))), (4, val (.pointer (some ⟨b2, 0, none⟩))), (6, val (.pointer (some ⟨b4, 0, none⟩))), (102, i64.slot s.1)]) (Hi := fun (i : Unit) (s : Int × T_hash_state) => [box b4 229 R_hash_state y4, box b2 229 R_hash_state (Vector.replicate 8 (0#32)), box b1 229 R_hash_state s.2]) e19 () (fun a w hst => (hst.sub (.cons (.of_lk rfl) <| .cons (.of_lk rfl) <| .cons (.of_lk rfl) <| .cons (.of_lk rfl) <| .nil)).keep (.cons .here <| .cons .here <| .cons .here <| .nil)) ?_ ?_
    · clear h e19
      rintro _ ⟨y5, y6⟩ lr h
      change hash_state_block_L2 y4 y5 y6 = some _ at h
      show Run _ _ _ [(2, val (.pointer (some ⟨b1, 0, none⟩))), (4, val (.pointer (some ⟨b2, 0, none⟩))), (6, val (.pointer (some ⟨b4, 0, none⟩))), (102, i64.slot y5)] [box b4 229 R_hash_state y4, box b2 229 R_hash_state (Vector.replicate 8 (0#32)), box b1 229 R_hash_state y6]
      unfold hash_state_block_L2 at h
      refine rs ?_
      refine rt ?_
      refine jp (pj_ilss (ht rfl) has_i64) rfl rfl rfl ?_
      refine j_end ?_
      refine rs ?_
      refine run_cond (ht rfl) (fun e15 => ?_) (fun e15 => ?_)
      · replace h := bt e15 h
        refine run_skip ?_
        refine rs ?_
        refine run_block ?_
        refine rs ?_
        refine rt ?_
        refine jp (pm (ht rfl)) rfl rfl rfl ?_
        refine jp (pa (ht rfl)) rfl rfl rfl ?_
        refine j_end ?_
        obtain ⟨x6, e16, h⟩ := bind_some h
        obtain ⟨x7, e17, h⟩ := bind_some h
        refine run_draw (n := 6) (by kernel_rfl) (by kernel_rfl) (by kernel_rfl) (by kernel_rfl) (.read (.plain rfl (pm (ht rfl))) <| .read (.plain rfl (pj_index_arr (n := 8) (sz := 1) (ht rfl) (ht rfl) isInt_i64 (vget_some e16).1 (vget_lt e16) (by kernel_rfl))) <| .read (.plain rfl (PJ.eqv (pj_load_box (ht rfl) (.next (.next .here)) (Path.then (Path.all R_hash_state) (Path.atI 8 u32 y5.toNat (vget_some e16).2.1)) (by kernel_rfl)) (vget_eq e16 (vget_some e16).2.1))) <| .read (.plain rfl (pm (ht rfl))) <| .read (.plain rfl (pj_index_arr (n := 8) (sz := 1) (ht rfl) (ht rfl) isInt_i64 (vget_some e17).1 (vget_lt e17) (by kernel_rfl))) <| .read (.plain rfl (PJ.eqv (pj_load_box (ht rfl) .here (Path.then (Path.all R_hash_state) (Path.atI 8 u32 y5.toNat (vget_some e17).2.1)) (by kernel_rfl)) (vget_eq e17 (vget_some e17).2.1))) <| .nil) (j_to (Γ' := [(2, val (.pointer (some ⟨b1, 0, none⟩))), (4, val (.pointer (some ⟨b2, 0, none⟩))), (6, val (.pointer (some ⟨b4, 0, none⟩))), (102, i64.slot y5), (105, i64.slot y5), (107, u32.slot x6), (110, u32.slot x7)]) (H' := [box b4 229 R_hash_state y4, box b2 229 R_hash_state (Vector.replicate 8 (0#32)), box b1 229 R_hash_state y6]) (.cons (.of_lk rfl) <| .cons (.of_lk rfl) <| .cons (.of_lk rfl) <| .cons (.of_lk rfl) <| .cons (.of_lk rfl) <| .cons (.of_lk rfl) <| .cons (.of_lk rfl) <| .nil) (.cons .here <| .cons .here <| .cons .here <| .nil) ?_)
        refine jp (pj_uadd (k := .u32) (b := 32) rfl rfl (ht rfl) (ht rfl)) rfl rfl rfl ?_
        obtain ⟨e18, h⟩ := grd_some h
        refine jp (pj_index_arr (n := 8) (sz := 1) (ht rfl) (ht rfl) isInt_i64 e18.1 e18.2 (by kernel_rfl)) rfl rfl rfl ?_
        refine j_store_boxx (r' := (y6.setIfInBounds y5.toNat (x6 + x7))) (ht rfl) (ht rfl) (.next (.next .here)) (Path.then (Path.all R_hash_state) (Path.atI 8 u32 y5.toNat (lt_nat e18))) (by kernel_rfl) rfl ?_
        refine j_end ?_
        refine run_endblock ?_
        refine rt ?_
        refine jp (pj_iadd (ht rfl) has_i64) rfl rfl rfl ?_
        refine jp (pm (ht rfl)) rfl rfl rfl ?_
        refine j_end ?_
        obtain rfl := oi h
        exact run_next () (.cons (.of_lk rfl) <| .cons (.of_lk rfl) <| .cons (.of_lk rfl) <| .cons (.of_lk rfl) <| .nil) (.cons (.next .here) <| .cons (.next .here) <| .cons .here <| .nil)
      · replace h := bf e15 h
        obtain rfl := oi h
        exact run_brk () (.cons (.of_lk rfl) <| .cons (.of_lk rfl) <| .cons (.of_lk rfl) <| .cons (.of_lk rfl) <| .nil) (.cons .here <| .cons .here <| .cons .here <| .nil)
    · rintro _
      show Run _ _ _ [(2, val (.pointer (some ⟨b1, 0, none⟩))), (4, val (.pointer (some ⟨b2, 0, none⟩))), (6, val (.pointer (some ⟨b4, 0, none⟩))), (102, i64.slot y7)] [box b4 229 R_hash_state y4, box b2 229 R_hash_state (Vector.replicate 8 (0#32)), box b1 229 R_hash_state y8]
      refine run_to (Γ' := [(2, val (.pointer (some ⟨b1, 0, none⟩))), (4, val (.pointer (some ⟨b2, 0, none⟩)))]) (H' := [box b2 229 R_hash_state (Vector.replicate 8 (0#32)), box b1 229 R_hash_state y8]) (.cons (.of_lk rfl) <| .cons (.of_lk rfl) <| .nil) (.cons (.next .here) <| .cons (.next .here) <| .nil) ?_
      refine rs ?_
      refine rt ?_
      refine jp (pj_load_box (ht rfl) (.next .here) (Path.all R_hash_state) (by kernel_rfl)) rfl rfl rfl ?_
      refine j_store_boxx (r' := y8) (ht rfl) (ht rfl) .here (Path.all R_hash_state) (by kernel_rfl) rfl ?_
      refine j_end ?_
      obtain rfl := oi h
      exact run_ret fun a w hst => q_ret1 hst rfl (.cell rfl .here (by kernel_rfl)) () (fun _ _ h => h) (.nil)
set_option maxRecDepth 100000 in
set_option maxHeartbeats 4000000 in
theorem c_hash_Sum {G : GP} (hg1 : HG1 G) (hg2 : HG2 G) {p_b : List (BitVec 8)} {r : T_api_Hash} (h : hash_Sum p_b = some r) : Ctr Tryz.prog G 123 [(sl u8).slot p_b] [] (fun (_ : Unit) => R_api_Hash.slot r) (fun (_ : Unit) => []) := by
  unfold hash_Sum at h
  refine ctr_of_run Tryz.func123 rfl 71 rfl rfl fun m0 w0 b0 => ?_
  show Run _ _ _ [(0, (sl u8).slot p_b)] _
  refine rs ?_
  refine rt ?_
  refine j_alloc (x := (Vector.replicate 32 (0#8))) (R := R_api_Hash) (zero_vec 32 zero_un) (by kernel_rfl) rfl fun b1 => ?_
  refine j_end ?_
  refine rs ?_
  refine rt ?_
  refine jp (pj_load_gx (y := G_hash_begin) hg1 (by kernel_rfl)) rfl rfl rfl ?_
  refine j_alloc (x := (Vector.replicate 8 (0#32))) (R := R_hash_state) (zero_vec 8 zero_un) (by kernel_rfl) rfl fun b2 => ?_
  refine j_store_boxx (r' := G_hash_begin) (ht rfl) (ht rfl) .here (Path.all R_hash_state) (by kernel_rfl) rfl ?_
  refine j_end ?_
  refine rs ?_
  refine rt ?_
  refine jp (pm (ht rfl)) rfl rfl rfl ?_
  refine jp (pj_len_sl (sz := 1) (ht rfl) (by kernel_rfl)) rfl rfl rfl ?_
  refine jp (pj_conv_un (k := .u64) (b := 64) rfl rfl (by kernel_rfl) (ht rfl) isInt_i64) rfl rfl rfl ?_
  refine jp (pa (ht rfl)) rfl rfl rfl ?_
  refine j_end ?_
  refine rs ?_
  obtain ⟨⟨y3, y4⟩, e4, h⟩ := bind_some h
  refine run_loopS (Γi := fun (i : Unit) (s : (List (BitVec 8)) × T_hash_state) => [(0, (sl u8).slot s.1), (2, val (.pointer (some ⟨b1, 0, none⟩))), (3, val (.pointer (some ⟨b2, 0, none⟩))), (4, u64.slot (BitVec.ofInt 64 (p_b.length : Int)))]) (Hi := fun (i : Unit) (s : (List (BitVec 8)) × T_hash_state) => [box b2 229 R_hash_state s.2, box b1 23 R_api_Hash (Vector.replicate 32 (0#8))]) e4 () (fun a w hst => (hst.sub (.cons (.of_lk rfl) <| .cons (.of_lk rfl) <| .cons (.of_lk rfl) <| .cons (.of_lk rfl) <| .nil)).keep (.cons .here <| .cons .here <| .nil)) ?_ ?_
  · clear h e4
    rintro _ ⟨y1, y2⟩ lr h
    change hash_Sum_L1 y1 y2 = some _ at h
    show Run _ _ _ [(0, (sl u8).slot y1), (2, val (.pointer (some ⟨b1, 0, none⟩))), (3, val (.pointer (some ⟨b2, 0, none⟩))), (4, u64.slot (BitVec.ofInt 64 (p_b.length : Int)))] [box b2 229 R_hash_state y2, box b1 23 R_api_Hash (Vector.replicate 32 (0#8))]
    unfold hash_Sum_L1 at h
    refine rs ?_
    refine rs ?_
    refine rt ?_
    refine jp (pm (ht rfl)) rfl rfl rfl ?_
    refine jp (pj_len_sl (sz := 1) (ht rfl) (by kernel_rfl)) rfl rfl rfl ?_
    refine jp (pj_igeq (ht rfl) has_i64) rfl rfl rfl ?_
    refine j_end ?_
    refine run_cond (ht rfl) (fun e1 => ?_) (fun e1 => ?_)
    · replace h := bt e1 h
      refine run_skip ?_
      refine run_block ?_
      refine rs ?_
      refine rt ?_
      refine jp (pj_load_box (ht rfl) .here (Path.all R_hash_state) (by kernel_rfl)) rfl rfl rfl ?_
      refine jp (pm (ht rfl)) rfl rfl rfl ?_
      obtain ⟨r1, e2, h⟩ := bind_some h
      refine jp (pj_call (hc (ht rfl) <| hc (ht rfl) <| hasL_nil) (by kernel_rfl) (c_hash_state_block hg2 e2)) rfl rfl rfl ?_
      refine j_store_boxx (r' := r1) (ht rfl) (ht rfl) .here (Path.all R_hash_state) (by kernel_rfl) rfl ?_
      refine j_end ?_
      refine rt ?_
      refine jp (pm (ht rfl)) rfl rfl rfl ?_
      obtain ⟨x1, e3, h⟩ := bind_some h
      refine jp (pj_slice_slx (ht rfl) (.yes has_i64 isInt_i64) .no e3 (by kernel_rfl)) rfl rfl rfl ?_
      refine jp (pa (ht rfl)) rfl rfl rfl ?_
      refine j_end ?_
      refine run_endblock ?_
      obtain rfl := oi h
      exact run_next () (.cons (.of_lk rfl) <| .cons (.of_lk rfl) <| .cons (.of_lk rfl) <| .cons (.of_lk rfl) <| .nil) (.cons .here <| .cons .here <| .nil)
    · replace h := bf e1 h
      obtain rfl := oi h
      exact run_brk () (.cons (.of_lk rfl) <| .cons (.of_lk rfl) <| .cons (.of_lk rfl) <| .cons (.of_lk rfl) <| .nil) (.cons .here <| .cons .here <| .nil)
  · rintro _
    show Run _ _ _ [(0, (sl u8).slot y3), (2, val (.pointer (some ⟨b1, 0, none⟩))), (3, val (.pointer (some ⟨b2, 0, none⟩))), (4, u64.slot (BitVec.ofInt 64 (p_b.length : Int)))] [box b2 229 R_hash_state y4, box b1 23 R_api_Hash (Vector.replicate 32 (0#8))]
    refine run_to (Γ' := [(0, (sl u8).slot y3), (2, val (.pointer (some ⟨b1, 0, none⟩))), (3, val (.pointer (some ⟨b2, 0, none⟩))), (4, u64.slot (BitVec.ofInt 64 (p_b.length : Int)))]) (H' := [box b2 229 R_hash_state y4, box b1 23 R_api_Hash (Vector.replicate 32 (0#8))]) (.cons (.of_lk rfl) <| .cons (.of_lk rfl) <| .cons (.of_lk rfl) <| .cons (.of_lk rfl) <| .nil) (.cons .here <| .cons .here <| .nil) ?_
    refine rs ?_
    refine rt ?_
    refine j_alloc (x := (Vector.replicate 128 (0#8))) (R := (vec 128 u8)) (zero_vec 128 zero_un) (by kernel_rfl) rfl fun b3 => ?_
    refine j_end ?_
    refine rs ?_
    refine rt ?_
    refine jp (pa has_i64) rfl rfl rfl ?_
    refine j_end ?_
    refine rs ?_
    refine rs ?_
    refine rt ?_
    refine jp (pm (ht rfl)) rfl rfl rfl ?_
    refine jp (pj_len_sl (sz := 1) (ht rfl) (by kernel_rfl)) rfl rfl rfl ?_
    refine jp (pj_igeq (ht rfl) has_i64) rfl rfl rfl ?_
    refine j_end ?_
    obtain ⟨y5, e6, h⟩ := bind_some h
    refine run_joinx (ι := Unit) (Γ' := fun (_ : Unit) => [(0, (sl u8).slot y3), (2, val (.pointer (some ⟨b1, 0, none⟩))), (3, val (.pointer (some ⟨b2, 0, none⟩))), (4, u64.slot (BitVec.ofInt 64 (p_b.length : Int))), (5, val (.pointer (some ⟨b3, 0, none⟩))), (6, i64.slot y5)]) (H' := fun (_ : Unit) => [box b3 231 (vec 128 u8) (Vector.replicate 128 (0#8)), box b2 229 R_hash_state y4, box b1 23 R_api_Hash (Vector.replicate 32 (0#8))]) ?_ fun J => ?_
    · intro _
      clear e6
      show Run _ _ _ [(0, (sl u8).slot y3), (2, val (.pointer (some ⟨b1, 0, none⟩))), (3, val (.pointer (some ⟨b2, 0, none⟩))), (4, u64.slot (BitVec.ofInt 64 (p_b.length : Int))), (5, val (.pointer (some ⟨b3, 0, none⟩))), (6, i64.slot y5)] [box b3 231 (vec 128 u8) (Vector.replicate 128 (0#8)), box b2 229 R_hash_state y4, box b1 23 R_api_Hash (Vector.replicate 32 (0#8))]
      refine rs ?_
      refine rt ?_
      refine jp (pj_slice_arrc (lo := 0) (sz := 1) (n := 128) (ht rfl) .no .no 128 128 rfl (by kernel_rfl)) rfl rfl rfl ?_
      refine jp (pm (ht rfl)) rfl rfl rfl ?_
      refine j_copy_arr (lo := 0) (n := 128) (ht rfl) .here (src_data (ht rfl)) (by decide) (by kernel_rfl) rfl ?_
      refine j_end ?_
      refine rs ?_
      refine rt ?_
      refine jp (pm (ht rfl)) rfl rfl rfl ?_
      refine jp (pj_len_sl (sz := 1) (ht rfl) (by kernel_rfl)) rfl rfl rfl ?_
      obtain ⟨e7, h⟩ := grd_some h
      refine jp (pj_index_arr (n := 128) (sz := 1) (ht rfl) (ht rfl) isInt_i64 e7.1 e7.2 (by kernel_rfl)) rfl rfl rfl ?_
      obtain ⟨x2, e8, h⟩ := bind_some h
      refine j_store_boxx (r' := x2) (ht rfl) (has_un (x := 128#8) rfl) .here (Path.then (Path.all (vec 128 u8)) (Path.atI 128 u8 ((y3.length : Int).toNat) (lt_nat e7))) (by kernel_rfl) (oi e8) ?_
      refine j_end ?_
      refine rs ?_
      refine rs ?_
      refine rt ?_
      refine jp (pm has_i64) rfl rfl rfl ?_
      refine j_end ?_
      obtain ⟨⟨y8, y9⟩, e13, h⟩ := bind_some h
      refine run_loopS (Γi := fun (i : Unit) (s : Int × (Vector (BitVec 8) 128)) => [(2, val (.pointer (some ⟨b1, 0, none⟩))), (3, val (.pointer (some ⟨b2, 0, none⟩))), (4, u64.slot (BitVec.ofInt 64 (p_b.length : Int))), (5, val (.pointer (some ⟨b3, 0, none⟩))), (6, i64.slot y5), (31, i64.slot s.1)]) (Hi := fun (i : Unit) (s : Int × (Vector (BitVec 8) 128)) => [box b3 231 (vec 128 u8) s.2, box b2 229 R_hash_state y4, box b1 23 R_api_Hash (Vector.replicate 32 (0#8))]) e13 () (fun a w hst => (hst.sub (.cons (.of_lk rfl) <| .cons (.of_lk rfl) <| .cons (.of_lk rfl) <| .cons (.of_lk rfl) <| .cons (.of_lk rfl) <| .cons (.of_lk rfl) <| .nil)).keep (.cons .here <| .cons .here <| .cons .here <| .nil)) ?_ ?_
      · clear h e13
        rintro _ ⟨y6, y7⟩ lr h
        change hash_Sum_L2 y5 p_b y6 y7 = some _ at h
        show Run _ _ _ [(2, val (.pointer (some ⟨b1, 0, none⟩))), (3, val (.pointer (some ⟨b2, 0, none⟩))), (4, u64.slot (BitVec.ofInt 64 (p_b.length : Int))), (5, val (.pointer (some ⟨b3, 0, none⟩))), (6, i64.slot y5), (31, i64.slot y6)] [box b3 231 (vec 128 u8) y7, box b2 229 R_hash_state y4, box b1 23 R_api_Hash (Vector.replicate 32 (0#8))]
        unfold hash_Sum_L2 at h
        refine rs ?_
        refine rt ?_
        refine jp (pj_ilss (ht rfl) has_i64) rfl rfl rfl ?_
        refine j_end ?_
        refine rs ?_
        refine run_cond (ht rfl) (fun e9 => ?_) (fun e9 => ?_)
        · replace h := bt e9 h
          refine run_skip ?_
          refine rs ?_
          refine run_block ?_
          refine rs ?_
          refine rt ?_
          refine jp (pm (ht rfl)) rfl rfl rfl ?_
          refine jp (pa (ht rfl)) rfl rfl rfl ?_
          refine j_end ?_
          refine rt ?_
          refine jp (pm (ht rfl)) rfl rfl rfl ?_
          refine jp (pj_isub (ht rfl) has_i64) rfl rfl rfl ?_
          refine jp (pm (ht rfl)) rfl rfl rfl ?_
          refine jp (pj_isub (ht rfl) (ht rfl)) rfl rfl rfl ?_
          refine jp (pm (ht rfl)) rfl rfl rfl ?_
          refine jp (pj_ushl (k := .u64) (b := 64) rfl rfl (ht rfl) (has_un (x := 3#64) rfl) isInt_un (Int.natCast_nonneg _)) rfl rfl rfl ?_
          refine jp (pm (ht rfl)) rfl rfl rfl ?_
          refine jp (pj_imul has_i64 (ht rfl)) rfl rfl rfl ?_
          obtain ⟨e10, h⟩ := grd_some h
          refine jp (pj_ushr (k := .u64) (b := 64) rfl (ht rfl) (ht rfl) isInt_i64 e10) rfl rfl rfl ?_
          refine jp (pj_conv_uu (k := .u8) (b := 8) rfl rfl (by kernel_rfl) (ht rfl)) rfl rfl rfl ?_
          obtain ⟨e11, h⟩ := grd_some h
          refine jp (pj_index_arr (n := 128) (sz := 1) (ht rfl) (ht rfl) isInt_i64 e11.1 e11.2 (by kernel_rfl)) rfl rfl rfl ?_
          obtain ⟨x3, e12, h⟩ := bind_some h
          refine j_store_boxx (r' := x3) (ht rfl) (ht rfl) .here (Path.then (Path.all (vec 128 u8)) (Path.atI 128 u8 ((w64 ((w64 (y5 - (1 : Int))) - y6)).toNat) (lt_nat e11))) (by kernel_rfl) (oi e12) ?_
          refine j_end ?_
          refine run_endblock ?_
          refine rt ?_
          refine jp (pj_iadd (ht rfl) has_i64) rfl rfl rfl ?_
          refine jp (pm (ht rfl)) rfl rfl rfl ?_
          refine j_end ?_
          obtain rfl := oi h
          exact run_next () (.cons (.of_lk rfl) <| .cons (.of_lk rfl) <| .cons (.of_lk rfl) <| .cons (.of_lk rfl) <| .cons (.of_lk rfl) <| .cons (.of_lk rfl) <| .nil) (.cons .here <| .cons .here <| .cons .here <| .nil)
        · replace h := bf e9 h
          obtain rfl := oi h
          exact run_brk () (.cons (.of_lk rfl) <| .cons (.of_lk rfl) <| .cons (.of_lk rfl) <| .cons (.of_lk rfl) <| .cons (.of_lk rfl) <| .cons (.of_lk rfl) <| .nil) (.cons .here <| .cons .here <| .cons .here <| .nil)
      · rintro _
        show Run _ _ _ [(2, val (.pointer (some ⟨b1, 0, none⟩))), (3, val (.pointer (some ⟨b2, 0, none⟩))), (4, u64.slot (BitVec.ofInt 64 (p_b.length : Int))), (5, val (.pointer (some ⟨b3, 0, none⟩))), (6, i64.slot y5), (31, i64.slot y8)] [box b3 231 (vec 128 u8) y9, box b2 229 R_hash_state y4, box b1 23 R_api_Hash (Vector.replicate 32 (0#8))]
        refine run_to (Γ' := [(2, val (.pointer (some ⟨b1, 0, none⟩))), (3, val (.pointer (some ⟨b2, 0, none⟩))), (5, val (.pointer (some ⟨b3, 0, none⟩))), (6, i64.slot y5)]) (H' := [box b3 231 (vec 128 u8) y9, box b2 229 R_hash_state y4, box b1 23 R_api_Hash (Vector.replicate 32 (0#8))]) (.cons (.of_lk rfl) <| .cons (.of_lk rfl) <| .cons (.of_lk rfl) <| .cons (.of_lk rfl) <| .nil) (.cons .here <| .cons .here <| .cons .here <| .nil) ?_
        refine rs ?_
        refine run_draw (n := 2) (by kernel_rfl) (by kernel_rfl) (by kernel_rfl) (by kernel_rfl) (.read (.plain rfl (pj_load_box (ht rfl) (.next .here) (Path.all R_hash_state) (by kernel_rfl))) <| .read (.plain rfl (pj_slice_arrc (lo := 0) (sz := 1) (n := 128) (ht rfl) .no .no 128 128 rfl (by kernel_rfl))) <| .nil) (j_to (Γ' := [(2, val (.pointer (some ⟨b1, 0, none⟩))), (3, val (.pointer (some ⟨b2, 0, none⟩))), (5, val (.pointer (some ⟨b3, 0, none⟩))), (6, i64.slot y5), (46, R_hash_state.slot y4), (47, val (.slice (some ⟨b3, 0 * 1, none⟩) 128 128))]) (H' := [box b3 231 (vec 128 u8) y9, box b2 229 R_hash_state y4, box b1 23 R_api_Hash (Vector.replicate 32 (0#8))]) (.cons (.of_lk rfl) <| .cons (.of_lk rfl) <| .cons (.of_lk rfl) <| .cons (.of_lk rfl) <| .cons (.of_lk rfl) <| .cons (.of_lk rfl) <| .nil) (.cons .here <| .cons .here <| .cons .here <| .nil) ?_)
        obtain ⟨r2, e14, h⟩ := bind_some h
        refine jp (pj_callB (hasBL_cons (hasB_of (ht rfl)) <| hasBL_cons (hasB_arrF (ht rfl) .here (by decide)) <| hasBL_nil) (by kernel_rfl) (c_hash_state_block hg2 e14) (Rep.flat_slot (flat_vec _ (flat_un _ _)) _)) rfl rfl rfl ?_
        refine j_store_boxx (r' := r2) (ht rfl) (ht rfl) (.next .here) (Path.all R_hash_state) (by kernel_rfl) rfl ?_
        refine j_end ?_
        refine rs ?_
        refine rs ?_
        refine rt ?_
        refine jp (pm (ht rfl)) rfl rfl rfl ?_
        refine jp (pj_ieql (ht rfl) has_i64) rfl rfl rfl ?_
        refine j_end ?_
        obtain ⟨y10, e17, h⟩ := bind_some h
        refine run_joinx (ι := Unit) (Γ' := fun (_ : Unit) => [(2, val (.pointer (some ⟨b1, 0, none⟩))), (3, val (.pointer (some ⟨b2, 0, none⟩)))]) (H' := fun (_ : Unit) => [box b2 229 R_hash_state y10, box b1 23 R_api_Hash (Vector.replicate 32 (0#8))]) ?_ fun J => ?_
        · intro _
          clear e17
          show Run _ _ _ [(2, val (.pointer (some ⟨b1, 0, none⟩))), (3, val (.pointer (some ⟨b2, 0, none⟩)))] [box b2 229 R_hash_state y10, box b1 23 R_api_Hash (Vector.replicate 32 (0#8))]
          refine rs ?_
          refine rt ?_
          refine j_alloc (x := (Vector.replicate 32 (0#8))) (R := R_api_Hash) (zero_vec 32 zero_un) (by kernel_rfl) rfl fun b4 => ?_
          refine j_end ?_
          refine rs ?_
          refine rs ?_
          refine rt ?_
          refine jp (pm has_i64) rfl rfl rfl ?_
          refine j_end ?_
          obtain ⟨⟨y13, y14⟩, e23, h⟩ := bind_some h
          refine run_loopS (Γi := fun (i : Unit) (s : Int × T_api_Hash) => [(2, val (.pointer (some ⟨b1, 0, none⟩))), (3, val (.pointer (some ⟨b2, 0, none⟩))), (8, val (.pointer (some ⟨b4, 0, none⟩))), (54, i64.slot s.1)]) (Hi := fun (i : Unit) (s : Int × T_api_Hash) => [box b4 23 R_api_Hash s.2, box b2 229 R_hash_state y10, box b1 23 R_api_Hash (Vector.replicate 32 (0#8))]) e23 () (fun a w hst => (hst.sub (.cons (.of_lk rfl) <| .cons (.of_lk rfl) <| .cons (.of_lk rfl) <| .cons (.of_lk rfl) <| .nil)).keep (.cons .here <| .cons .here <| .cons .here <| .nil)) ?_ ?_
          · clear h e23
            rintro _ ⟨y11, y12⟩ lr h
            change hash_Sum_L3 y10 y11 y12 = some _ at h
            show Run _ _ _ [(2, val (.pointer (some ⟨b1, 0, none⟩))), (3, val (.pointer (some ⟨b2, 0, none⟩))), (8, val (.pointer (some ⟨b4, 0, none⟩))), (54, i64.slot y11)] [box b4 23 R_api_Hash y12, box b2 229 R_hash_state y10, box b1 23 R_api_Hash (Vector.replicate 32 (0#8))]
            unfold hash_Sum_L3 at h
            refine rs ?_
            refine rt ?_
            refine jp (pj_ilss (ht rfl) has_i64) rfl rfl rfl ?_
            refine j_end ?_
            refine rs ?_
            refine run_cond (ht rfl) (fun e18 => ?_) (fun e18 => ?_)
            · replace h := bt e18 h
              refine run_skip ?_
              refine rs ?_
              refine run_block ?_
              refine rs ?_
              refine rt ?_
              refine jp (pm (ht rfl)) rfl rfl rfl ?_
              refine jp (pa (ht rfl)) rfl rfl rfl ?_
              refine j_end ?_
              refine rt ?_
              refine jp (pm (ht rfl)) rfl rfl rfl ?_
              refine jp (pm (ht rfl)) rfl rfl rfl ?_
              refine jp (pj_iquo (ht rfl) has_i64 (by decide)) rfl rfl rfl ?_
              obtain ⟨x4, e19, h⟩ := bind_some h
              refine jp (pj_index_arr (n := 8) (sz := 1) (ht rfl) (ht rfl) isInt_i64 (vget_some e19).1 (vget_lt e19) (by kernel_rfl)) rfl rfl rfl ?_
              refine jp (PJ.eqv (pj_load_box (ht rfl) (.next .here) (Path.then (Path.all R_hash_state) (Path.atI 8 u32 ((w64 (Int.tdiv y11 (4 : Int))).toNat) (vget_some e19).2.1)) (by kernel_rfl)) (vget_eq e19 (vget_some e19).2.1)) rfl rfl rfl ?_
              refine jp (pm (ht rfl)) rfl rfl rfl ?_
              refine jp (pj_irem (ht rfl) has_i64 (by decide)) rfl rfl rfl ?_
              refine jp (pj_imul has_i64 (ht rfl)) rfl rfl rfl ?_
              refine jp (pj_isub has_i64 (ht rfl)) rfl rfl rfl ?_
              obtain ⟨e20, h⟩ := grd_some h
              refine jp (pj_ushr (k := .u32) (b := 32) rfl (ht rfl) (ht rfl) isInt_i64 e20) rfl rfl rfl ?_
              refine jp (pj_conv_uu (k := .u8) (b := 8) rfl rfl (by kernel_rfl) (ht rfl)) rfl rfl rfl ?_
              obtain ⟨e21, h⟩ := grd_some h
              refine jp (pj_index_arr (n := 32) (sz := 1) (ht rfl) (ht rfl) isInt_i64 e21.1 e21.2 (by kernel_rfl)) rfl rfl rfl ?_
              obtain ⟨x5, e22, h⟩ := bind_some h
              refine j_store_boxx (r' := x5) (ht rfl) (ht rfl) .here (Path.then (Path.all R_api_Hash) (Path.atI 32 u8 y11.toNat (lt_nat e21))) (by kernel_rfl) (oi e22) ?_
              refine j_end ?_
              refine run_endblock ?_
              refine rt ?_
              refine jp (pj_iadd (ht rfl) has_i64) rfl rfl rfl ?_
              refine jp (pm (ht rfl)) rfl rfl rfl ?_
              refine j_end ?_
              obtain rfl := oi h
              exact run_next () (.cons (.of_lk rfl) <| .cons (.of_lk rfl) <| .cons (.of_lk rfl) <| .cons (.of_lk rfl) <| .nil) (.cons .here <| .cons .here <| .cons .here <| .nil)
            · replace h := bf e18 h
              obtain rfl := oi h
              exact run_brk () (.cons (.of_lk rfl) <| .cons (.of_lk rfl) <| .cons (.of_lk rfl) <| .cons (.of_lk rfl) <| .nil) (.cons .here <| .cons .here <| .cons .here <| .nil)
          · rintro _
            show Run _ _ _ [(2, val (.pointer (some ⟨b1, 0, none⟩))), (3, val (.pointer (some ⟨b2, 0, none⟩))), (8, val (.pointer (some ⟨b4, 0, none⟩))), (54, i64.slot y13)] [box b4 23 R_api_Hash y14, box b2 229 R_hash_state y10, box b1 23 R_api_Hash (Vector.replicate 32 (0#8))]
            refine run_to (Γ' := [(2, val (.pointer (some ⟨b1, 0, none⟩))), (8, val (.pointer (some ⟨b4, 0, none⟩)))]) (H' := [box b4 23 R_api_Hash y14, box b1 23 R_api_Hash (Vector.replicate 32 (0#8))]) (.cons (.of_lk rfl) <| .cons (.of_lk rfl) <| .nil) (.cons .here <| .cons (.next .here) <| .nil) ?_
            refine rs ?_
            refine rt ?_
            refine jp (pj_load_box (ht rfl) .here (Path.all R_api_Hash) (by kernel_rfl)) rfl rfl rfl ?_
            refine j_store_boxx (r' := y14) (ht rfl) (ht rfl) (.next .here) (Path.all R_api_Hash) (by kernel_rfl) rfl ?_
            refine j_end ?_
            obtain rfl := oi h
            exact run_ret fun a w hst => q_ret1 hst rfl (.cell rfl .here (by kernel_rfl)) () (fun _ _ h => h) (.nil)
        · refine run_cond (ht rfl) (fun e15 => ?_) (fun e15 => ?_)
          · replace h := bt e15 e17
            refine run_draw (n := 2) (by kernel_rfl) (by kernel_rfl) (by kernel_rfl) (by kernel_rfl) (.read (.plain rfl (pj_load_box (ht rfl) .here (Path.all R_hash_state) (by kernel_rfl))) <| .read (.plain rfl (pj_slice_arrc (lo := 64) (sz := 1) (n := 128) (ht rfl) (.yes has_i64 isInt_i64) .no 64 64 rfl (by kernel_rfl))) <| .nil) (j_to (Γ' := [(2, val (.pointer (some ⟨b1, 0, none⟩))), (3, val (.pointer (some ⟨b2, 0, none⟩))), (51, R_hash_state.slot r2), (52, val (.slice (some ⟨b3, 64 * 1, none⟩) 64 64))]) (H' := [box b2 229 R_hash_state r2, box b3 231 (vec 128 u8) y9, box b1 23 R_api_Hash (Vector.replicate 32 (0#8))]) (.cons (.of_lk rfl) <| .cons (.of_lk rfl) <| .cons (.of_lk rfl) <| .cons (.of_lk rfl) <| .nil) (.cons .here <| .cons .here <| .cons .here <| .nil) ?_)
            obtain ⟨r3, e16, h⟩ := bind_some h
            refine jp (pj_callB (hasBL_cons (hasB_of (ht rfl)) <| hasBL_cons (hasB_arr (lo := 64) (ht rfl) (.next .here) (by decide) (by decide)) <| hasBL_nil) (by kernel_rfl) (c_hash_state_block hg2 e16) (Rep.flat_slot (flat_vec _ (flat_un _ _)) _)) rfl rfl rfl ?_
            refine j_store_boxx (r' := r3) (ht rfl) (ht rfl) .here (Path.all R_hash_state) (by kernel_rfl) rfl ?_
            refine j_end ?_
            obtain rfl := oi h
            exact run_to (.cons (.of_lk rfl) <| .cons (.of_lk rfl) <| .nil) (.cons .here <| .cons (.next .here) <| .nil) (J ())
          · replace h := bf e15 e17
            refine run_skip ?_
            obtain rfl := oi h
            exact run_to (.cons (.of_lk rfl) <| .cons (.of_lk rfl) <| .nil) (.cons .here <| .cons (.next .here) <| .nil) (J ())
    · refine run_cond (ht rfl) (fun e5 => ?_) (fun e5 => ?_)
      · replace h := bt e5 e6
        refine rt ?_
        refine jp (pa has_i64) rfl rfl rfl ?_
        refine j_end ?_
        obtain rfl := oi h
        exact run_to (.cons (.of_lk rfl) <| .cons (.of_lk rfl) <| .cons (.of_lk rfl) <| .cons (.of_lk rfl) <| .cons (.of_lk rfl) <| .cons (.of_lk rfl) <| .nil) (.cons .here <| .cons .here <| .cons .here <| .nil) (J ())
      · replace h := bf e5 e6
        refine run_skip ?_
        obtain rfl := oi h
        exact run_to (.cons (.of_lk rfl) <| .cons (.of_lk rfl) <| .cons (.of_lk rfl) <| .cons (.of_lk rfl) <| .cons (.of_lk rfl) <| .cons (.of_lk rfl) <| .nil) (.cons .here <| .cons .here <| .cons .here <| .nil) (J ())
set_option maxRecDepth 100000 in
set_option maxHeartbeats 4000000 in
theorem c_hash_Text {G : GP} {p_tag : BitVec 8} {p_parts : List (List (BitVec 8))} {r : (List (BitVec 8))} (h : hash_Text p_tag p_parts = some r) : Ctr Tryz.prog G 124 [u8.slot p_tag, (sl (sl u8)).slot p_parts] [] (fun (u0 : Value) => ov u0) (fun (u0 : Value) => [own 5 u8 u0 r]) := by
  unfold hash_Text at h
  refine ctr_of_run Tryz.func124 rfl 58 rfl rfl fun m0 w0 b0 => ?_
  show Run _ _ _ [(0, u8.slot p_tag), (1, (sl (sl u8)).slot p_parts)] _
  refine rs ?_
  refine rt ?_
  refine j_assign_nil (T := 5) u8 rfl fun v1 => ?_
  refine j_end ?_
  refine rs ?_
  refine rt ?_
  refine jp (pa has_i64) rfl rfl rfl ?_
  refine j_end ?_
  refine rs ?_
  refine rs ?_
  refine rt ?_
  refine jp (pm (ht rfl)) rfl rfl rfl ?_
  refine jp (pj_len_sl (sz := 1) (ht rfl) (by kernel_rfl)) rfl rfl rfl ?_
  refine jp (pm has_i64) rfl rfl rfl ?_
  refine j_end ?_
  obtain ⟨⟨y3, y4⟩, e4, h⟩ := bind_some h
  refine run_loopS (Γi := fun (i : Unit) (s : Int × Int) => [(0, u8.slot p_tag), (1, (sl (sl u8)).slot p_parts), (5, i64.slot s.1), (12, (sl (sl u8)).slot p_parts), (13, i64.slot (p_parts.length : Int)), (14, i64.slot s.2)]) (Hi := fun (i : Unit) (s : Int × Int) => []) e4 () (fun a w hst => (hst.sub (.cons (.of_lk rfl) <| .cons (.of_lk rfl) <| .cons (.of_lk rfl) <| .cons (.of_lk rfl) <| .cons (.of_lk rfl) <| .cons (.of_lk rfl) <| .nil)).keep (.nil)) ?_ ?_
  · clear h e4
    rintro _ ⟨y1, y2⟩ lr h
    change hash_Text_L1 p_parts y1 y2 = some _ at h
    show Run _ _ _ [(0, u8.slot p_tag), (1, (sl (sl u8)).slot p_parts), (5, i64.slot y1), (12, (sl (sl u8)).slot p_parts), (13, i64.slot (p_parts.length : Int)), (14, i64.slot y2)] []
    unfold hash_Text_L1 at h
    refine rs ?_
    refine rt ?_
    refine jp (pj_ilss (ht rfl) (ht rfl)) rfl rfl rfl ?_
    refine j_end ?_
    refine rs ?_
    refine run_cond (ht rfl) (fun e1 => ?_) (fun e1 => ?_)
    · replace h := bt e1 h
      refine run_skip ?_
      refine rs ?_
      refine run_block ?_
      refine rs ?_
      refine rt ?_
      obtain ⟨x1, e2, h⟩ := bind_some h
      refine jp (pj_index_slx (ht rfl) (ht rfl) isInt_i64 e2 (by kernel_rfl)) rfl rfl rfl ?_
      refine jp (pl (ht rfl) (by kernel_rfl)) rfl rfl rfl ?_
      refine jp (pa (ht rfl)) rfl rfl rfl ?_
      refine j_end ?_
      refine rt ?_
      refine jp (pm (ht rfl)) rfl rfl rfl ?_
      refine jp (pm (ht rfl)) rfl rfl rfl ?_
      refine jp (pj_len_sl (sz := 1) (ht rfl) (by kernel_rfl)) rfl rfl rfl ?_
      refine jp (pj_iadd has_i64 (ht rfl)) rfl rfl rfl ?_
      refine jp (pj_iadd (ht rfl) (ht rfl)) rfl rfl rfl ?_
      obtain ⟨x2, e3, h⟩ := bind_some h
      refine jp (PJ.eqv (pa (ht rfl)) (oi e3)) rfl rfl rfl ?_
      refine j_end ?_
      refine run_endblock ?_
      refine rt ?_
      refine jp (pj_iadd (ht rfl) has_i64) rfl rfl rfl ?_
      refine jp (pm (ht rfl)) rfl rfl rfl ?_
      refine j_end ?_
      obtain rfl := oi h
      exact run_next () (.cons (.of_lk rfl) <| .cons (.of_lk rfl) <| .cons (.of_lk rfl) <| .cons (.of_lk rfl) <| .cons (.of_lk rfl) <| .cons (.of_lk rfl) <| .nil) (.nil)
    · replace h := bf e1 h
      obtain rfl := oi h
      exact run_brk () (.cons (.of_lk rfl) <| .cons (.of_lk rfl) <| .cons (.of_lk rfl) <| .cons (.of_lk rfl) <| .cons (.of_lk rfl) <| .cons (.of_lk rfl) <| .nil) (.nil)
  · rintro _
    show Run _ _ _ [(0, u8.slot p_tag), (1, (sl (sl u8)).slot p_parts), (5, i64.slot y3), (12, (sl (sl u8)).slot p_parts), (13, i64.slot (p_parts.length : Int)), (14, i64.slot y4)] []
    refine run_to (Γ' := [(0, u8.slot p_tag), (1, (sl (sl u8)).slot p_parts), (5, i64.slot y3)]) (H' := []) (.cons (.of_lk rfl) <| .cons (.of_lk rfl) <| .cons (.of_lk rfl) <| .nil) (.nil) ?_
    refine rs ?_
    refine rt ?_
    refine jp (pm (ht rfl)) rfl rfl rfl ?_
    obtain ⟨e5, h⟩ := grd_some h
    refine j_makeSlice (T := 5) (R := u8) (z := (0#8)) has_i64 (ht rfl) (by decide) e5.1 e5.2 (by kernel_rfl) zero_un (by kernel_rfl) rfl fun v2 => ?_
    refine jp (pa (ht rfl)) rfl rfl rfl ?_
    refine j_end ?_
    refine rs ?_
    refine rt ?_
    refine jp (pm (ht rfl)) rfl rfl rfl ?_
    refine jp (pm (ht rfl)) rfl rfl rfl ?_
    refine jp (pj_buildSlice (T := 5) (R := u8) (.cons (ht rfl) .nil) rfl (by kernel_rfl) (by kernel_rfl)) rfl rfl rfl ?_
    obtain ⟨e6, h⟩ := grd_some h
    refine j_append (T := 5) (E := 5) (ht rfl) .here (src_data (ht rfl)) (by kernel_rfl) (by kernel_rfl) e6 rfl fun v3 => ?_
    refine jp (pa (ht rfl)) rfl rfl rfl ?_
    refine j_end ?_
    refine rs ?_
    refine rs ?_
    refine rt ?_
    refine jp (pm (ht rfl)) rfl rfl rfl ?_
    refine jp (pj_len_sl (sz := 1) (ht rfl) (by kernel_rfl)) rfl rfl rfl ?_
    refine jp (pm has_i64) rfl rfl rfl ?_
    refine j_end ?_
    obtain ⟨⟨y7, y8⟩, e11, h⟩ := bind_some h
    refine run_loopS (Γi := fun (i : Value) (s : Int × (List (BitVec 8))) => [(8, ov i), (30, (sl (sl u8)).slot p_parts), (31, i64.slot (p_parts.length : Int)), (32, i64.slot s.1)]) (Hi := fun (i : Value) (s : Int × (List (BitVec 8))) => [own 5 u8 i s.2]) e11 v3 (fun a w hst => (hst.sub (.cons (.of_lk rfl) <| .cons (.of_lk rfl) <| .cons (.of_lk rfl) <| .cons (.of_lk rfl) <| .nil)).keep (.cons .here <| .nil)) ?_ ?_
    · clear h e11
      rintro v4 ⟨y5, y6⟩ lr h
      change hash_Text_L2 p_parts y5 y6 = some _ at h
      show Run _ _ _ [(8, ov v4), (30, (sl (sl u8)).slot p_parts), (31, i64.slot (p_parts.length : Int)), (32, i64.slot y5)] [own 5 u8 v4 y6]
      unfold hash_Text_L2 at h
      refine rs ?_
      refine rt ?_
      refine jp (pj_ilss (ht rfl) (ht rfl)) rfl rfl rfl ?_
      refine j_end ?_
      refine rs ?_
      refine run_cond (ht rfl) (fun e7 => ?_) (fun e7 => ?_)
      · replace h := bt e7 h
        refine run_skip ?_
        refine rs ?_
        refine run_block ?_
        refine rs ?_
        refine rt ?_
        obtain ⟨x3, e8, h⟩ := bind_some h
        refine jp (pj_index_slx (ht rfl) (ht rfl) isInt_i64 e8 (by kernel_rfl)) rfl rfl rfl ?_
        refine jp (pl (ht rfl) (by kernel_rfl)) rfl rfl rfl ?_
        refine jp (pa (ht rfl)) rfl rfl rfl ?_
        refine j_end ?_
        refine rs ?_
        refine rt ?_
        refine jp (pm (ht rfl)) rfl rfl rfl ?_
        refine jp (pj_len_sl (sz := 1) (ht rfl) (by kernel_rfl)) rfl rfl rfl ?_
        refine jp (pj_conv_un (k := .u32) (b := 32) rfl rfl (by kernel_rfl) (ht rfl) isInt_i64) rfl rfl rfl ?_
        refine jp (pa (ht rfl)) rfl rfl rfl ?_
        refine j_end ?_
        refine rs ?_
        refine rt ?_
        refine jp (pm (ht rfl)) rfl rfl rfl ?_
        refine jp (pm (ht rfl)) rfl rfl rfl ?_
        refine jp (pj_ushr (k := .u32) (b := 32) rfl (ht rfl) (has_un (x := 24#64) rfl) isInt_un (Int.natCast_nonneg _)) rfl rfl rfl ?_
        refine jp (pj_conv_uu (k := .u8) (b := 8) rfl rfl (by kernel_rfl) (ht rfl)) rfl rfl rfl ?_
        refine jp (pm (ht rfl)) rfl rfl rfl ?_
        refine jp (pj_ushr (k := .u32) (b := 32) rfl (ht rfl) (has_un (x := 16#64) rfl) isInt_un (Int.natCast_nonneg _)) rfl rfl rfl ?_
        refine jp (pj_conv_uu (k := .u8) (b := 8) rfl rfl (by kernel_rfl) (ht rfl)) rfl rfl rfl ?_
        refine jp (pm (ht rfl)) rfl rfl rfl ?_
        refine jp (pj_ushr (k := .u32) (b := 32) rfl (ht rfl) (has_un (x := 8#64) rfl) isInt_un (Int.natCast_nonneg _)) rfl rfl rfl ?_
        refine jp (pj_conv_uu (k := .u8) (b := 8) rfl rfl (by kernel_rfl) (ht rfl)) rfl rfl rfl ?_
        refine jp (pm (ht rfl)) rfl rfl rfl ?_
        refine jp (pj_conv_uu (k := .u8) (b := 8) rfl rfl (by kernel_rfl) (ht rfl)) rfl rfl rfl ?_
        refine jp (pj_buildSlice (T := 5) (R := u8) (.cons (ht rfl) (.cons (ht rfl) (.cons (ht rfl) (.cons (ht rfl) .nil)))) rfl (by kernel_rfl) (by kernel_rfl)) rfl rfl rfl ?_
        obtain ⟨e9, h⟩ := grd_some h
        refine j_append (T := 5) (E := 5) (ht rfl) .here (src_data (ht rfl)) (by kernel_rfl) (by kernel_rfl) e9 rfl fun v5 => ?_
        refine jp (pa (ht rfl)) rfl rfl rfl ?_
        refine j_end ?_
        refine rt ?_
        refine jp (pm (ht rfl)) rfl rfl rfl ?_
        refine jp (pm (ht rfl)) rfl rfl rfl ?_
        obtain ⟨e10, h⟩ := grd_some h
        refine j_append (T := 5) (E := 5) (ht rfl) .here (src_data (ht rfl)) (by kernel_rfl) (by kernel_rfl) e10 rfl fun v6 => ?_
        refine jp (pa (ht rfl)) rfl rfl rfl ?_
        refine j_end ?_
        refine run_endblock ?_
        refine rt ?_
        refine jp (pj_iadd (ht rfl) has_i64) rfl rfl rfl ?_
        refine jp (pm (ht rfl)) rfl rfl rfl ?_
        refine j_end ?_
        obtain rfl := oi h
        exact run_next v6 (.cons (.of_lk rfl) <| .cons (.of_lk rfl) <| .cons (.of_lk rfl) <| .cons (.of_lk rfl) <| .nil) (.cons .here <| .nil)
      · replace h := bf e7 h
        obtain rfl := oi h
        exact run_brk v4 (.cons (.of_lk rfl) <| .cons (.of_lk rfl) <| .cons (.of_lk rfl) <| .cons (.of_lk rfl) <| .nil) (.cons .here <| .nil)
    · rintro v7
      show Run _ _ _ [(8, ov v7), (30, (sl (sl u8)).slot p_parts), (31, i64.slot (p_parts.length : Int)), (32, i64.slot y7)] [own 5 u8 v7 y8]
      refine run_to (Γ' := [(8, ov v7)]) (H' := [own 5 u8 v7 y8]) (.cons (.of_lk rfl) <| .nil) (.cons .here <| .nil) ?_
      refine rs ?_
      refine rt ?_
      refine jp (pm (ht rfl)) rfl rfl rfl ?_
      refine jp (pa (ht rfl)) rfl rfl rfl ?_
      refine j_end ?_
      obtain rfl := oi h
      exact run_ret fun a w hst => q_ret1 hst rfl (.tmp rfl) v7 (fun _ _ h => h) (.cons .here <| .nil)
set_option maxRecDepth 100000 in
set_option maxHeartbeats 4000000 in
theorem c_hash_Tagged {G : GP} (hg1 : HG1 G) (hg2 : HG2 G) {p_tag : BitVec 8} {p_parts : List (List (BitVec 8))} {r : T_api_Hash} (h : hash_Tagged p_tag p_parts = some r) : Ctr Tryz.prog G 79 [u8.slot p_tag, (sl (sl u8)).slot p_parts] [] (fun (_ : Unit) => R_api_Hash.slot r) (fun (_ : Unit) => []) := by
  unfold hash_Tagged at h
  refine ctr_of_run Tryz.func79 rfl 9 rfl rfl fun m0 w0 b0 => ?_
  show Run _ _ _ [(0, u8.slot p_tag), (1, (sl (sl u8)).slot p_parts)] _
  refine rs ?_
  refine rt ?_
  refine j_alloc (x := (Vector.replicate 32 (0#8))) (R := R_api_Hash) (zero_vec 32 zero_un) (by kernel_rfl) rfl fun b1 => ?_
  refine j_end ?_
  refine rs ?_
  refine rt ?_
  refine jp (pm (ht rfl)) rfl rfl rfl ?_
  refine jp (pm (ht rfl)) rfl rfl rfl ?_
  obtain ⟨r1, e1, h⟩ := bind_some h
  refine jp (pj_call (hc (ht rfl) <| hc (ht rfl) <| hasL_nil) (by kernel_rfl) (Ctr.froze (c_hash_Text e1))) rfl rfl rfl ?_
  obtain ⟨r2, e2, h⟩ := bind_some h
  refine jp (pj_call (hc (ht rfl) <| hasL_nil) (by kernel_rfl) (c_hash_Sum hg1 hg2 e2)) rfl rfl rfl ?_
  refine j_store_boxx (r' := r2) (ht rfl) (ht rfl) .here (Path.all R_api_Hash) (by kernel_rfl) rfl ?_
  refine j_end ?_
  obtain rfl := oi h
  exact run_ret fun a w hst => q_ret1 hst rfl (.cell rfl .here (by kernel_rfl)) () (fun _ _ h => h) (.nil)
set_option maxRecDepth 100000 in
set_option maxHeartbeats 4000000 in
theorem c_hss_child {G : GP} (hg1 : HG1 G) (hg2 : HG2 G) {p_seed : T_api_Hash} {p_number : List (BitVec 8)} {r : T_api_ID × T_api_Hash} (h : hss_child p_seed p_number = some r) : Ctr Tryz.prog G 43 [R_api_Hash.slot p_seed, (sl u8).slot p_number] [] (fun (_ : Unit) => tup [R_api_ID.slot r.1, R_api_Hash.slot r.2]) (fun (_ : Unit) => []) := by
  unfold hss_child at h
  refine ctr_of_run Tryz.func43 rfl 24 rfl rfl fun m0 w0 b0 => ?_
  show Run _ _ _ [(0, R_api_Hash.slot p_seed), (1, (sl u8).slot p_number)] _
  refine rs ?_
  refine rt ?_
  refine jp (pj_box_to (ht rfl)) rfl rfl rfl ?_
  refine j_alloc (x := (Vector.replicate 16 (0#8))) (R := R_api_ID) (zero_vec 16 zero_un) (by kernel_rfl) rfl fun b1 => ?_
  refine j_alloc (x := (Vector.replicate 32 (0#8))) (R := R_api_Hash) (zero_vec 32 zero_un) (by kernel_rfl) rfl fun b2 => ?_
  refine j_end ?_
  refine rs ?_
  refine rt ?_
  refine jp (pj_slice_toF (ht rfl) (by decide) (by kernel_rfl)) rfl rfl rfl ?_
  refine j_buildSlice (T := 31) (R := (sl u8)) (.cons (ht rfl) .nil) rfl (by kernel_rfl) (by kernel_rfl) rfl fun v1 => ?_
  refine jp (pa (ht rfl)) rfl rfl rfl ?_
  refine j_end ?_
  refine rs ?_
  refine rs ?_
  refine rt ?_
  refine jp (pm (ht rfl)) rfl rfl rfl ?_
  refine jp (pj_len_sl (sz := 1) (ht rfl) (by kernel_rfl)) rfl rfl rfl ?_
  refine jp (pj_igtr (ht rfl) has_i64) rfl rfl rfl ?_
  refine j_end ?_
  obtain ⟨y1, e3, h⟩ := bind_some h
  refine run_joinx (ι := Value) (Γ' := fun (v2 : Value) => [(4, val (.pointer (some ⟨b1, 0, none⟩))), (5, val (.pointer (some ⟨b2, 0, none⟩))), (6, ov v2)]) (H' := fun (v2 : Value) => [own 31 (sl u8) v2 y1, box b2 23 R_api_Hash (Vector.replicate 32 (0#8)), box b1 95 R_api_ID (Vector.replicate 16 (0#8))]) ?_ fun J => ?_
  · intro v2
    clear e3
    show Run _ _ _ [(4, val (.pointer (some ⟨b1, 0, none⟩))), (5, val (.pointer (some ⟨b2, 0, none⟩))), (6, ov v2)] [own 31 (sl u8) v2 y1, box b2 23 R_api_Hash (Vector.replicate 32 (0#8)), box b1 95 R_api_ID (Vector.replicate 16 (0#8))]
    refine rs ?_
    refine rt ?_
    refine jp (pm (ht rfl)) rfl rfl rfl ?_
    obtain ⟨r1, e4, h⟩ := bind_some h
    refine jp (pj_callB (hasBL_cons (hasB_of (has_un (x := 105#8) rfl)) <| hasBL_cons (hasB_own (ht rfl) .here) <| hasBL_nil) (by kernel_rfl) (c_hash_Tagged hg1 hg2 e4) (Rep.flat_slot (flat_vec _ (flat_un _ _)) _)) rfl rfl rfl ?_
    refine j_alloc (x := (Vector.replicate 32 (0#8))) (R := R_api_Hash) (zero_vec 32 zero_un) (by kernel_rfl) rfl fun b3 => ?_
    refine j_store_boxx (r' := r1) (ht rfl) (ht rfl) .here (Path.all R_api_Hash) (by kernel_rfl) rfl ?_
    refine j_freezeTo (t := 7) .here (.of_lk rfl) ?_
    refine j_end ?_
    refine rs ?_
    obtain ⟨x1, e5, h⟩ := bind_some h
    obtain ⟨x2, e6, h⟩ := bind_some h
    obtain ⟨r2, e7, h⟩ := bind_some h
    refine run_draw (n := 5) (by kernel_rfl) (by kernel_rfl) (by kernel_rfl) (by kernel_rfl) (.read (.plain rfl (pj_slice_to (ht rfl) .no (.yes has_i64 isInt_i64) e5 (by decide) (by kernel_rfl))) <| .read (.plain rfl (pj_s2apx (e := 5) (ht rfl) e6 rfl (by kernel_rfl))) <| .read (.plain rfl (pl (ht rfl) (by kernel_rfl))) <| .read (.plain rfl (pm (ht rfl))) <| .read (.plain rfl (pj_callB (hasBL_cons (hasB_of (has_un (x := 115#8) rfl)) <| hasBL_cons (hasB_own (ht rfl) .here) <| hasBL_nil) (by kernel_rfl) (c_hash_Tagged hg1 hg2 e7) (Rep.flat_slot (flat_vec _ (flat_un _ _)) _))) <| .nil) (j_to (Γ' := [(4, val (.pointer (some ⟨b1, 0, none⟩))), (5, val (.pointer (some ⟨b2, 0, none⟩))), (21, R_api_ID.slot x2), (23, R_api_Hash.slot r2)]) (H' := [box b2 23 R_api_Hash (Vector.replicate 32 (0#8)), box b1 95 R_api_ID (Vector.replicate 16 (0#8))]) (.cons (.of_lk rfl) <| .cons (.of_lk rfl) <| .cons (.of_lk rfl) <| .cons (.of_lk rfl) <| .nil) (.cons (.next .here) <| .cons (.next .here) <| .nil) ?_)
    refine j_store_boxx (r' := x2) (ht rfl) (ht rfl) (.next .here) (Path.all R_api_ID) (by kernel_rfl) rfl ?_
    refine j_store_boxx (r' := r2) (ht rfl) (ht rfl) (.next .here) (Path.all R_api_Hash) (by kernel_rfl) rfl ?_
    refine j_end ?_
    obtain rfl := oi h
    exact run_ret fun a w hst => q_retN hst rfl (.cons (.cell rfl (.next .here) (by kernel_rfl)) <| .cons (.cell rfl .here (by kernel_rfl)) <| .nil) rfl () (fun _ _ h => h) (.nil)
  · refine run_cond (ht rfl) (fun e1 => ?_) (fun e1 => ?_)
    · replace h := bt e1 e3
      refine rt ?_
      refine jp (pm (ht rfl)) rfl rfl rfl ?_
      refine jp (pm (ht rfl)) rfl rfl rfl ?_
      refine jp (pj_buildSlice (T := 31) (R := (sl u8)) (.cons (ht rfl) .nil) rfl (by kernel_rfl) (by kernel_rfl)) rfl rfl rfl ?_
      obtain ⟨e2, h⟩ := grd_some h
      refine j_append (T := 31) (E := 31) (ht rfl) .here (src_data (ht rfl)) (by kernel_rfl) (by kernel_rfl) e2 rfl fun v3 => ?_
      refine jp (pa (ht rfl)) rfl rfl rfl ?_
      refine j_end ?_
      obtain rfl := oi h
      exact run_to (.cons (.of_lk rfl) <| .cons (.of_lk rfl) <| .cons (.of_lk rfl) <| .nil) (.cons .here <| .cons .here <| .cons .here <| .nil) (J v3)
    · replace h := bf e1 e3
      refine run_skip ?_
      obtain rfl := oi h
      exact run_to (.cons (.of_lk rfl) <| .cons (.of_lk rfl) <| .cons (.of_lk rfl) <| .nil) (.cons .here <| .cons .here <| .cons .here <| .nil) (J v1)
set_option maxRecDepth 100000 in
set_option maxHeartbeats 4000000 in
theorem c_lmots_under {G : GP} (hg1 : HG1 G) (hg2 : HG2 G) {p_id : T_api_ID} {p_q : BitVec 32} {p_i : Int} {p_parts : List (List (BitVec 8))} {r : T_api_Hash} (h : lmots_under p_id p_q p_i p_parts = some r) : Ctr Tryz.prog G 161 [R_api_ID.slot p_id, u32.slot p_q, i64.slot p_i, (sl (sl u8)).slot p_parts] [] (fun (_ : Unit) => R_api_Hash.slot r) (fun (_ : Unit) => []) := by
  unfold lmots_under at h
  refine ctr_of_run Tryz.func161 rfl 47 rfl rfl fun m0 w0 b0 => ?_
  show Run _ _ _ [(0, R_api_ID.slot p_id), (1, u32.slot p_q), (2, i64.slot p_i), (3, (sl (sl u8)).slot p_parts)] _
  refine rs ?_
  refine rt ?_
  refine jp (pj_box_to (ht rfl)) rfl rfl rfl ?_
  refine j_alloc (x := (Vector.replicate 32 (0#8))) (R := R_api_Hash) (zero_vec 32 zero_un) (by kernel_rfl) rfl fun b1 => ?_
  refine j_end ?_
  refine rs ?_
  refine rt ?_
  obtain ⟨e1, h⟩ := grd_some h
  refine j_makeSlice (T := 5) (R := u8) (z := (0#8)) has_i64 has_i64 (by decide) e1.1 e1.2 (by kernel_rfl) zero_un (by kernel_rfl) rfl fun v1 => ?_
  refine jp (pa (ht rfl)) rfl rfl rfl ?_
  refine j_end ?_
  refine rs ?_
  refine rt ?_
  refine jp (pm (ht rfl)) rfl rfl rfl ?_
  refine jp (pj_slice_toF (ht rfl) (by decide) (by kernel_rfl)) rfl rfl rfl ?_
  obtain ⟨e2, h⟩ := grd_some h
  refine j_append (T := 5) (E := 5) (ht rfl) .here (src_data (ht rfl)) (by kernel_rfl) (by kernel_rfl) e2 rfl fun v2 => ?_
  refine jp (pa (ht rfl)) rfl rfl rfl ?_
  refine j_end ?_
  refine rs ?_
  refine rt ?_
  refine jp (pm (ht rfl)) rfl rfl rfl ?_
  refine jp (pm (ht rfl)) rfl rfl rfl ?_
  refine jp (pj_ushr (k := .u32) (b := 32) rfl (ht rfl) (has_un (x := 24#64) rfl) isInt_un (Int.natCast_nonneg _)) rfl rfl rfl ?_
  refine jp (pj_conv_uu (k := .u8) (b := 8) rfl rfl (by kernel_rfl) (ht rfl)) rfl rfl rfl ?_
  refine jp (pm (ht rfl)) rfl rfl rfl ?_
  refine jp (pj_ushr (k := .u32) (b := 32) rfl (ht rfl) (has_un (x := 16#64) rfl) isInt_un (Int.natCast_nonneg _)) rfl rfl rfl ?_
  refine jp (pj_conv_uu (k := .u8) (b := 8) rfl rfl (by kernel_rfl) (ht rfl)) rfl rfl rfl ?_
  refine jp (pm (ht rfl)) rfl rfl rfl ?_
  refine jp (pj_ushr (k := .u32) (b := 32) rfl (ht rfl) (has_un (x := 8#64) rfl) isInt_un (Int.natCast_nonneg _)) rfl rfl rfl ?_
  refine jp (pj_conv_uu (k := .u8) (b := 8) rfl rfl (by kernel_rfl) (ht rfl)) rfl rfl rfl ?_
  refine jp (pm (ht rfl)) rfl rfl rfl ?_
  refine jp (pj_conv_uu (k := .u8) (b := 8) rfl rfl (by kernel_rfl) (ht rfl)) rfl rfl rfl ?_
  refine jp (pm (ht rfl)) rfl rfl rfl ?_
  refine jp (pj_ishr (ht rfl) (has_un (x := 8#64) rfl) isInt_un (Int.natCast_nonneg _)) rfl rfl rfl ?_
  refine jp (pj_conv_un (k := .u8) (b := 8) rfl rfl (by kernel_rfl) (ht rfl) isInt_i64) rfl rfl rfl ?_
  refine jp (pm (ht rfl)) rfl rfl rfl ?_
  refine jp (pj_conv_un (k := .u8) (b := 8) rfl rfl (by kernel_rfl) (ht rfl) isInt_i64) rfl rfl rfl ?_
  refine jp (pj_buildSlice (T := 5) (R := u8) (.cons (ht rfl) (.cons (ht rfl) (.cons (ht rfl) (.cons (ht rfl) (.cons (ht rfl) (.cons (ht rfl) .nil)))))) rfl (by kernel_rfl) (by kernel_rfl)) rfl rfl rfl ?_
  obtain ⟨e3, h⟩ := grd_some h
  refine j_append (T := 5) (E := 5) (ht rfl) .here (src_data (ht rfl)) (by kernel_rfl) (by kernel_rfl) e3 rfl fun v3 => ?_
  refine jp (pa (ht rfl)) rfl rfl rfl ?_
  refine j_end ?_
  refine rs ?_
  refine rs ?_
  refine rt ?_
  refine jp (pm (ht rfl)) rfl rfl rfl ?_
  refine jp (pj_len_sl (sz := 1) (ht rfl) (by kernel_rfl)) rfl rfl rfl ?_
  refine jp (pm has_i64) rfl rfl rfl ?_
  refine j_end ?_
  obtain ⟨⟨y3, y4⟩, e7, h⟩ := bind_some h
  refine run_loopS (Γi := fun (i : Value) (s : Int × (List (BitVec 8))) => [(8, val (.pointer (some ⟨b1, 0, none⟩))), (9, ov i), (35, (sl (sl u8)).slot p_parts), (36, i64.slot (p_parts.length : Int)), (37, i64.slot s.1)]) (Hi := fun (i : Value) (s : Int × (List (BitVec 8))) => [own 5 u8 i s.2, box b1 23 R_api_Hash (Vector.replicate 32 (0#8))]) e7 v3 (fun a w hst => (hst.sub (.cons (.of_lk rfl) <| .cons (.of_lk rfl) <| .cons (.of_lk rfl) <| .cons (.of_lk rfl) <| .cons (.of_lk rfl) <| .nil)).keep (.cons .here <| .cons .here <| .nil)) ?_ ?_
  · clear h e7
    rintro v4 ⟨y1, y2⟩ lr h
    change lmots_under_L1 p_parts y1 y2 = some _ at h
    show Run _ _ _ [(8, val (.pointer (some ⟨b1, 0, none⟩))), (9, ov v4), (35, (sl (sl u8)).slot p_parts), (36, i64.slot (p_parts.length : Int)), (37, i64.slot y1)] [own 5 u8 v4 y2, box b1 23 R_api_Hash (Vector.replicate 32 (0#8))]
    unfold lmots_under_L1 at h
    refine rs ?_
    refine rt ?_
    refine jp (pj_ilss (ht rfl) (ht rfl)) rfl rfl rfl ?_
    refine j_end ?_
    refine rs ?_
    refine run_cond (ht rfl) (fun e4 => ?_) (fun e4 => ?_)
    · replace h := bt e4 h
      refine run_skip ?_
      refine rs ?_
      refine run_block ?_
      refine rs ?_
      refine rt ?_
      obtain ⟨x1, e5, h⟩ := bind_some h
      refine jp (pj_index_slx (ht rfl) (ht rfl) isInt_i64 e5 (by kernel_rfl)) rfl rfl rfl ?_
      refine jp (pl (ht rfl) (by kernel_rfl)) rfl rfl rfl ?_
      refine jp (pa (ht rfl)) rfl rfl rfl ?_
      refine j_end ?_
      refine rt ?_
      refine jp (pm (ht rfl)) rfl rfl rfl ?_
      refine jp (pm (ht rfl)) rfl rfl rfl ?_
      obtain ⟨e6, h⟩ := grd_some h
      refine j_append (T := 5) (E := 5) (ht rfl) .here (src_data (ht rfl)) (by kernel_rfl) (by kernel_rfl) e6 rfl fun v5 => ?_
      refine jp (pa (ht rfl)) rfl rfl rfl ?_
      refine j_end ?_
      refine run_endblock ?_
      refine rt ?_
      refine jp (pj_iadd (ht rfl) has_i64) rfl rfl rfl ?_
      refine jp (pm (ht rfl)) rfl rfl rfl ?_
      refine j_end ?_
      obtain rfl := oi h
      exact run_next v5 (.cons (.of_lk rfl) <| .cons (.of_lk rfl) <| .cons (.of_lk rfl) <| .cons (.of_lk rfl) <| .cons (.of_lk rfl) <| .nil) (.cons .here <| .cons .here <| .nil)
    · replace h := bf e4 h
      obtain rfl := oi h
      exact run_brk v4 (.cons (.of_lk rfl) <| .cons (.of_lk rfl) <| .cons (.of_lk rfl) <| .cons (.of_lk rfl) <| .cons (.of_lk rfl) <| .nil) (.cons .here <| .cons .here <| .nil)
  · rintro v6
    show Run _ _ _ [(8, val (.pointer (some ⟨b1, 0, none⟩))), (9, ov v6), (35, (sl (sl u8)).slot p_parts), (36, i64.slot (p_parts.length : Int)), (37, i64.slot y3)] [own 5 u8 v6 y4, box b1 23 R_api_Hash (Vector.replicate 32 (0#8))]
    refine run_to (Γ' := [(8, val (.pointer (some ⟨b1, 0, none⟩))), (9, ov v6)]) (H' := [own 5 u8 v6 y4, box b1 23 R_api_Hash (Vector.replicate 32 (0#8))]) (.cons (.of_lk rfl) <| .cons (.of_lk rfl) <| .nil) (.cons .here <| .cons .here <| .nil) ?_
    refine rs ?_
    refine rt ?_
    refine jp (pm (ht rfl)) rfl rfl rfl ?_
    obtain ⟨r1, e8, h⟩ := bind_some h
    refine jp (pj_callB (hasBL_cons (hasB_own (ht rfl) .here) <| hasBL_nil) (by kernel_rfl) (c_hash_Sum hg1 hg2 e8) (Rep.flat_slot (flat_vec _ (flat_un _ _)) _)) rfl rfl rfl ?_
    refine j_store_boxx (r' := r1) (ht rfl) (ht rfl) (.next .here) (Path.all R_api_Hash) (by kernel_rfl) rfl ?_
    refine j_end ?_
    obtain rfl := oi h
    exact run_ret fun a w hst => q_ret1 hst rfl (.cell rfl .here (by kernel_rfl)) () (fun _ _ h => h) (.nil)
set_option maxRecDepth 100000 in
set_option maxHeartbeats 4000000 in
theorem c_lmots_chain {G : GP} (hg1 : HG1 G) (hg2 : HG2 G) {p_id : T_api_ID} {p_q : BitVec 32} {p_i : Int} {p_h : T_api_Hash} {p_from : Int} {p_to : Int} {r : T_api_Hash} (h : lmots_chain p_id p_q p_i p_h p_from p_to = some r) : Ctr Tryz.prog G 125 [R_api_ID.slot p_id, u32.slot p_q, i64.slot p_i, R_api_Hash.slot p_h, i64.slot p_from, i64.slot p_to] [] (fun (_ : Unit) => R_api_Hash.slot r) (fun (_ : Unit) => []) := by
  unfold lmots_chain at h
  refine ctr_of_run Tryz.func125 rfl 30 rfl rfl fun m0 w0 b0 => ?_
  show Run _ _ _ [(0, R_api_ID.slot p_id), (1, u32.slot p_q), (2, i64.slot p_i), (3, R_api_Hash.slot p_h), (4, i64.slot p_from), (5, i64.slot p_to)] _
  refine rs ?_
  refine rt ?_
  refine jp (pj_box_to (ht rfl)) rfl rfl rfl ?_
  refine j_box (ht rfl) rfl fun b1 => ?_
  refine j_alloc (x := (Vector.replicate 32 (0#8))) (R := R_api_Hash) (zero_vec 32 zero_un) (by kernel_rfl) rfl fun b2 => ?_
  refine j_end ?_
  refine rs ?_
  refine rs ?_
  refine rt ?_
  refine jp (pm (ht rfl)) rfl rfl rfl ?_
  refine jp (pa (ht rfl)) rfl rfl rfl ?_
  refine j_end ?_
  obtain ⟨⟨y3, y4⟩, e3, h⟩ := bind_some h
  refine run_loopS (Γi := fun (i : Unit) (s : Int × T_api_Hash) => [(1, u32.slot p_q), (2, i64.slot p_i), (5, i64.slot p_to), (6, ptrTo R_api_ID p_id), (9, val (.pointer (some ⟨b1, 0, none⟩))), (12, val (.pointer (some ⟨b2, 0, none⟩))), (13, i64.slot s.1)]) (Hi := fun (i : Unit) (s : Int × T_api_Hash) => [box b2 23 R_api_Hash (Vector.replicate 32 (0#8)), box b1 23 R_api_Hash s.2]) e3 () (fun a w hst => (hst.sub (.cons (.of_lk rfl) <| .cons (.of_lk rfl) <| .cons (.of_lk rfl) <| .cons (.of_lk rfl) <| .cons (.of_lk rfl) <| .cons (.of_lk rfl) <| .cons (.of_lk rfl) <| .nil)).keep (.cons .here <| .cons .here <| .nil)) ?_ ?_
  · clear h e3
    rintro _ ⟨y1, y2⟩ lr h
    change lmots_chain_L1 p_to p_id p_q p_i y1 y2 = some _ at h
    show Run _ _ _ [(1, u32.slot p_q), (2, i64.slot p_i), (5, i64.slot p_to), (6, ptrTo R_api_ID p_id), (9, val (.pointer (some ⟨b1, 0, none⟩))), (12, val (.pointer (some ⟨b2, 0, none⟩))), (13, i64.slot y1)] [box b2 23 R_api_Hash (Vector.replicate 32 (0#8)), box b1 23 R_api_Hash y2]
    unfold lmots_chain_L1 at h
    refine rs ?_
    refine rs ?_
    refine rt ?_
    refine jp (pm (ht rfl)) rfl rfl rfl ?_
    refine jp (pm (ht rfl)) rfl rfl rfl ?_
    refine jp (pj_ilss (ht rfl) (ht rfl)) rfl rfl rfl ?_
    refine j_end ?_
    refine run_cond (ht rfl) (fun e1 => ?_) (fun e1 => ?_)
    · replace h := bt e1 h
      refine run_skip ?_
      refine rs ?_
      refine run_block ?_
      refine run_draw (n := 8) (by kernel_rfl) (by kernel_rfl) (by kernel_rfl) (by kernel_rfl) (.read (.plain rfl (pl (ht rfl) (by kernel_rfl))) <| .read (.plain rfl (pm (ht rfl))) <| .read (.plain rfl (pm (ht rfl))) <| .read (.plain rfl (pm (ht rfl))) <| .read (.plain rfl (pj_conv_un (k := .u8) (b := 8) rfl rfl (by kernel_rfl) (ht rfl) isInt_i64)) <| .read (.plain rfl (pj_buildSlice (T := 5) (R := u8) (.cons (ht rfl) .nil) rfl (by kernel_rfl) (by kernel_rfl))) <| .read (.plain rfl (pj_slice_arrc (lo := 0) (sz := 1) (n := 32) (ht rfl) .no .no 32 32 rfl (by kernel_rfl))) <| .read (.plain rfl (pj_buildSlice_lnt (T := 31) (E := [box b1 23 R_api_Hash y2]) (R := (sl u8)) (.cons (has_lnt (ht rfl)) (.cons (has_lnt_arrF (ht rfl) .here (by decide)) .nil)) (.cons (.next .here) <| .nil) rfl rfl (by kernel_rfl) (by kernel_rfl))) <| .nil) (j_to (Γ' := [(1, u32.slot p_q), (2, i64.slot p_i), (5, i64.slot p_to), (6, ptrTo R_api_ID p_id), (9, val (.pointer (some ⟨b1, 0, none⟩))), (12, val (.pointer (some ⟨b2, 0, none⟩))), (13, i64.slot y1), (20, R_api_ID.slot p_id), (21, u32.slot p_q), (22, i64.slot p_i), (27, lnt [box b1 23 R_api_Hash y2] ((sl (sl u8)).slot ([[BitVec.ofInt 8 y1], y2.toList])))]) (H' := [box b2 23 R_api_Hash (Vector.replicate 32 (0#8)), box b1 23 R_api_Hash y2]) (.cons (.of_lk rfl) <| .cons (.of_lk rfl) <| .cons (.of_lk rfl) <| .cons (.of_lk rfl) <| .cons (.of_lk rfl) <| .cons (.of_lk rfl) <| .cons (.of_lk rfl) <| .cons (.of_lk rfl) <| .cons (.of_lk rfl) <| .cons (.of_lk rfl) <| .cons (.of_lk rfl) <| .nil) (.cons .here <| .cons .here <| .nil) ?_)
      obtain ⟨r1, e2, h⟩ := bind_some h
      refine jp (pj_callB (hasBL_cons (hasB_of (ht rfl)) <| hasBL_cons (hasB_of (ht rfl)) <| hasBL_cons (hasB_of (ht rfl)) <| hasBL_cons (hasB_lnt (ht rfl) (.cons (.next .here) <| .nil)) <| hasBL_nil) (by kernel_rfl) (c_lmots_under hg1 hg2 e2) (Rep.flat_slot (flat_vec _ (flat_un _ _)) _)) rfl rfl rfl ?_
      refine j_store_boxx (r' := r1) (ht rfl) (ht rfl) (.next .here) (Path.all R_api_Hash) (by kernel_rfl) rfl ?_
      refine j_end ?_
      refine run_endblock ?_
      refine rt ?_
      refine jp (pm (ht rfl)) rfl rfl rfl ?_
      refine jp (pj_iadd (ht rfl) has_i64) rfl rfl rfl ?_
      refine jp (pa (ht rfl)) rfl rfl rfl ?_
      refine j_end ?_
      obtain rfl := oi h
      exact run_next () (.cons (.of_lk rfl) <| .cons (.of_lk rfl) <| .cons (.of_lk rfl) <| .cons (.of_lk rfl) <| .cons (.of_lk rfl) <| .cons (.of_lk rfl) <| .cons (.of_lk rfl) <| .nil) (.cons (.next .here) <| .cons .here <| .nil)
    · replace h := bf e1 h
      obtain rfl := oi h
      exact run_brk () (.cons (.of_lk rfl) <| .cons (.of_lk rfl) <| .cons (.of_lk rfl) <| .cons (.of_lk rfl) <| .cons (.of_lk rfl) <| .cons (.of_lk rfl) <| .cons (.of_lk rfl) <| .nil) (.cons .here <| .cons .here <| .nil)
  · rintro _
    show Run _ _ _ [(1, u32.slot p_q), (2, i64.slot p_i), (5, i64.slot p_to), (6, ptrTo R_api_ID p_id), (9, val (.pointer (some ⟨b1, 0, none⟩))), (12, val (.pointer (some ⟨b2, 0, none⟩))), (13, i64.slot y3)] [box b2 23 R_api_Hash (Vector.replicate 32 (0#8)), box b1 23 R_api_Hash y4]
    refine run_to (Γ' := [(9, val (.pointer (some ⟨b1, 0, none⟩))), (12, val (.pointer (some ⟨b2, 0, none⟩)))]) (H' := [box b2 23 R_api_Hash (Vector.replicate 32 (0#8)), box b1 23 R_api_Hash y4]) (.cons (.of_lk rfl) <| .cons (.of_lk rfl) <| .nil) (.cons .here <| .cons .here <| .nil) ?_
    refine rs ?_
    refine rt ?_
    refine jp (pj_load_box (ht rfl) (.next .here) (Path.all R_api_Hash) (by kernel_rfl)) rfl rfl rfl ?_
    refine j_store_boxx (r' := y4) (ht rfl) (ht rfl) .here (Path.all R_api_Hash) (by kernel_rfl) rfl ?_
    refine j_end ?_
    obtain rfl := oi h
    exact run_ret fun a w hst => q_ret1 hst rfl (.cell rfl .here (by kernel_rfl)) () (fun _ _ h => h) (.nil)
set_option maxRecDepth 100000 in
set_option maxHeartbeats 4000000 in
theorem c_lmots_secret {G : GP} (hg1 : HG1 G) (hg2 : HG2 G) {p_id : T_api_ID} {p_q : BitVec 32} {p_i : Int} {p_seed : T_api_Hash} {r : T_api_Hash} (h : lmots_secret p_id p_q p_i p_seed = some r) : Ctr Tryz.prog G 126 [R_api_ID.slot p_id, u32.slot p_q, i64.slot p_i, R_api_Hash.slot p_seed] [] (fun (_ : Unit) => R_api_Hash.slot r) (fun (_ : Unit) => []) := by
  unfold lmots_secret at h
  refine ctr_of_run Tryz.func126 rfl 16 rfl rfl fun m0 w0 b0 => ?_
  show Run _ _ _ [(0, R_api_ID.slot p_id), (1, u32.slot p_q), (2, i64.slot p_i), (3, R_api_Hash.slot p_seed)] _
  refine rs ?_
  refine rt ?_
  refine jp (pj_box_to (ht rfl)) rfl rfl rfl ?_
  refine jp (pj_box_to (ht rfl)) rfl rfl rfl ?_
  refine j_alloc (x := (Vector.replicate 32 (0#8))) (R := R_api_Hash) (zero_vec 32 zero_un) (by kernel_rfl) rfl fun b1 => ?_
  refine j_end ?_
  refine rs ?_
  refine run_draw (n := 6) (by kernel_rfl) (by kernel_rfl) (by kernel_rfl) (by kernel_rfl) (.read (.plain rfl (pl (ht rfl) (by kernel_rfl))) <| .read (.plain rfl (pm (ht rfl))) <| .read (.plain rfl (pm (ht rfl))) <| .read (.plain rfl (pj_buildSlice (T := 5) (R := u8) (.cons (has_un (x := 255#8) rfl) .nil) rfl (by kernel_rfl) (by kernel_rfl))) <| .read (.plain rfl (pj_slice_toF (ht rfl) (by decide) (by kernel_rfl))) <| .read (.plain rfl (pj_buildSlice (T := 31) (R := (sl u8)) (.cons (ht rfl) (.cons (ht rfl) .nil)) rfl (by kernel_rfl) (by kernel_rfl))) <| .nil) (j_to (Γ' := [(8, val (.pointer (some ⟨b1, 0, none⟩))), (9, R_api_ID.slot p_id), (10, u32.slot p_q), (11, i64.slot p_i), (14, (sl (sl u8)).slot ([[255#8], p_seed.toList]))]) (H' := [box b1 23 R_api_Hash (Vector.replicate 32 (0#8))]) (.cons (.of_lk rfl) <| .cons (.of_lk rfl) <| .cons (.of_lk rfl) <| .cons (.of_lk rfl) <| .cons (.of_lk rfl) <| .nil) (.cons .here <| .nil) ?_)
  obtain ⟨r1, e1, h⟩ := bind_some h
  refine jp (pj_call (hc (ht rfl) <| hc (ht rfl) <| hc (ht rfl) <| hc (ht rfl) <| hasL_nil) (by kernel_rfl) (c_lmots_under hg1 hg2 e1)) rfl rfl rfl ?_
  refine j_store_boxx (r' := r1) (ht rfl) (ht rfl) .here (Path.all R_api_Hash) (by kernel_rfl) rfl ?_
  refine j_end ?_
  obtain rfl := oi h
  exact run_ret fun a w hst => q_ret1 hst rfl (.cell rfl .here (by kernel_rfl)) () (fun _ _ h => h) (.nil)
set_option maxRecDepth 100000 in
set_option maxHeartbeats 4000000 in
theorem c_lmots_form_most {G : GP} {p_f : T_lmots_form} {r : Int} (h : lmots_form_most p_f = some r) : Ctr Tryz.prog G 127 [R_lmots_form.slot p_f] [] (fun (_ : Unit) => i64.slot r) (fun (_ : Unit) => []) := by
  unfold lmots_form_most at h
  refine ctr_of_run Tryz.func127 rfl 7 rfl rfl fun m0 w0 b0 => ?_
  show Run _ _ _ [(0, R_lmots_form.slot p_f)] _
  refine rs ?_
  refine rt ?_
  refine jp (pj_box_to (ht rfl)) rfl rfl rfl ?_
  refine jp (pa has_i64) rfl rfl rfl ?_
  refine j_end ?_
  refine rs ?_
  refine rt ?_
  refine jp (pj_field_to (ht rfl) (Path.fst i64 (prod i64 i64)) (by kernel_rfl)) rfl rfl rfl ?_
  refine jp (pl (ht rfl) (by kernel_rfl)) rfl rfl rfl ?_
  obtain ⟨e1, h⟩ := grd_some h
  refine jp (pj_ishl has_i64 (ht rfl) isInt_i64 e1) rfl rfl rfl ?_
  refine jp (pj_isub (ht rfl) has_i64) rfl rfl rfl ?_
  refine jp (pa (ht rfl)) rfl rfl rfl ?_
  refine j_end ?_
  obtain rfl := oi h
  exact run_ret fun a w hst => q_ret1 hst rfl (.tmp rfl) () (fun _ _ h => h) (.nil)
set_option maxRecDepth 100000 in
set_option maxHeartbeats 4000000 in
theorem c_lmots_folded {G : GP} (hg1 : HG1 G) (hg2 : HG2 G) {p_id : T_api_ID} {p_q : BitVec 32} {p_ends : List T_api_Hash} {r : T_api_Hash} (h : lmots_folded p_id p_q p_ends = some r) : Ctr Tryz.prog G 128 [R_api_ID.slot p_id, u32.slot p_q, (sl R_api_Hash).slot p_ends] [] (fun (_ : Unit) => R_api_Hash.slot r) (fun (_ : Unit) => []) := by
  unfold lmots_folded at h
  refine ctr_of_run Tryz.func128 rfl 29 rfl rfl fun m0 w0 b0 => ?_
  show Run _ _ _ [(0, R_api_ID.slot p_id), (1, u32.slot p_q), (2, (sl R_api_Hash).slot p_ends)] _
  refine rs ?_
  refine rt ?_
  refine jp (pj_box_to (ht rfl)) rfl rfl rfl ?_
  refine j_alloc (x := (Vector.replicate 32 (0#8))) (R := R_api_Hash) (zero_vec 32 zero_un) (by kernel_rfl) rfl fun b1 => ?_
  refine j_end ?_
  refine rs ?_
  refine rt ?_
  refine jp (pm (ht rfl)) rfl rfl rfl ?_
  refine jp (pj_len_sl (sz := 32) (ht rfl) (by kernel_rfl)) rfl rfl rfl ?_
  refine jp (pj_imul has_i64 (ht rfl)) rfl rfl rfl ?_
  obtain ⟨e1, h⟩ := grd_some h
  refine j_makeSlice (T := 5) (R := u8) (z := (0#8)) has_i64 (ht rfl) (by decide) e1.1 e1.2 (by kernel_rfl) zero_un (by kernel_rfl) rfl fun v1 => ?_
  refine jp (pa (ht rfl)) rfl rfl rfl ?_
  refine j_end ?_
  refine rs ?_
  refine rs ?_
  refine rt ?_
  refine jp (pm (ht rfl)) rfl rfl rfl ?_
  refine jp (pj_len_sl (sz := 32) (ht rfl) (by kernel_rfl)) rfl rfl rfl ?_
  refine jp (pm has_i64) rfl rfl rfl ?_
  refine j_end ?_
  obtain ⟨⟨y3, y4⟩, e5, h⟩ := bind_some h
  refine run_loopS (Γi := fun (i : Value) (s : Int × (List (BitVec 8))) => [(1, u32.slot p_q), (3, ptrTo R_api_ID p_id), (6, val (.pointer (some ⟨b1, 0, none⟩))), (7, ov i), (14, (sl R_api_Hash).slot p_ends), (15, i64.slot (p_ends.length : Int)), (16, i64.slot s.1)]) (Hi := fun (i : Value) (s : Int × (List (BitVec 8))) => [own 5 u8 i s.2, box b1 23 R_api_Hash (Vector.replicate 32 (0#8))]) e5 v1 (fun a w hst => (hst.sub (.cons (.of_lk rfl) <| .cons (.of_lk rfl) <| .cons (.of_lk rfl) <| .cons (.of_lk rfl) <| .cons (.of_lk rfl) <| .cons (.of_lk rfl) <| .cons (.of_lk rfl) <| .nil)).keep (.cons .here <| .cons .here <| .nil)) ?_ ?_
  · clear h e5
    rintro v2 ⟨y1, y2⟩ lr h
    change lmots_folded_L1 p_ends y1 y2 = some _ at h
    show Run _ _ _ [(1, u32.slot p_q), (3, ptrTo R_api_ID p_id), (6, val (.pointer (some ⟨b1, 0, none⟩))), (7, ov v2), (14, (sl R_api_Hash).slot p_ends), (15, i64.slot (p_ends.length : Int)), (16, i64.slot y1)] [own 5 u8 v2 y2, box b1 23 R_api_Hash (Vector.replicate 32 (0#8))]
    unfold lmots_folded_L1 at h
    refine rs ?_
    refine rt ?_
    refine jp (pj_ilss (ht rfl) (ht rfl)) rfl rfl rfl ?_
    refine j_end ?_
    refine rs ?_
    refine run_cond (ht rfl) (fun e2 => ?_) (fun e2 => ?_)
    · replace h := bt e2 h
      refine run_skip ?_
      refine rs ?_
      refine run_block ?_
      refine rs ?_
      refine rt ?_
      obtain ⟨x1, e3, h⟩ := bind_some h
      refine jp (pj_index_slx (ht rfl) (ht rfl) isInt_i64 e3 (by kernel_rfl)) rfl rfl rfl ?_
      refine jp (pl (ht rfl) (by kernel_rfl)) rfl rfl rfl ?_
      refine j_alloc (x := (Vector.replicate 32 (0#8))) (R := R_api_Hash) (zero_vec 32 zero_un) (by kernel_rfl) rfl fun b2 => ?_
      refine j_store_boxx (r' := x1) (ht rfl) (ht rfl) .here (Path.all R_api_Hash) (by kernel_rfl) rfl ?_
      refine j_freezeTo (t := 9) .here (.of_lk rfl) ?_
      refine j_end ?_
      refine rt ?_
      refine jp (pm (ht rfl)) rfl rfl rfl ?_
      refine jp (pj_slice_toF (ht rfl) (by decide) (by kernel_rfl)) rfl rfl rfl ?_
      obtain ⟨e4, h⟩ := grd_some h
      refine j_append (T := 5) (E := 5) (ht rfl) .here (src_data (ht rfl)) (by kernel_rfl) (by kernel_rfl) e4 rfl fun v3 => ?_
      refine jp (pa (ht rfl)) rfl rfl rfl ?_
      refine j_end ?_
      refine run_endblock ?_
      refine rt ?_
      refine jp (pj_iadd (ht rfl) has_i64) rfl rfl rfl ?_
      refine jp (pm (ht rfl)) rfl rfl rfl ?_
      refine j_end ?_
      obtain rfl := oi h
      exact run_next v3 (.cons (.of_lk rfl) <| .cons (.of_lk rfl) <| .cons (.of_lk rfl) <| .cons (.of_lk rfl) <| .cons (.of_lk rfl) <| .cons (.of_lk rfl) <| .cons (.of_lk rfl) <| .nil) (.cons .here <| .cons .here <| .nil)
    · replace h := bf e2 h
      obtain rfl := oi h
      exact run_brk v2 (.cons (.of_lk rfl) <| .cons (.of_lk rfl) <| .cons (.of_lk rfl) <| .cons (.of_lk rfl) <| .cons (.of_lk rfl) <| .cons (.of_lk rfl) <| .cons (.of_lk rfl) <| .nil) (.cons .here <| .cons .here <| .nil)
  · rintro v4
    show Run _ _ _ [(1, u32.slot p_q), (3, ptrTo R_api_ID p_id), (6, val (.pointer (some ⟨b1, 0, none⟩))), (7, ov v4), (14, (sl R_api_Hash).slot p_ends), (15, i64.slot (p_ends.length : Int)), (16, i64.slot y3)] [own 5 u8 v4 y4, box b1 23 R_api_Hash (Vector.replicate 32 (0#8))]
    refine run_to (Γ' := [(1, u32.slot p_q), (3, ptrTo R_api_ID p_id), (6, val (.pointer (some ⟨b1, 0, none⟩))), (7, ov v4)]) (H' := [own 5 u8 v4 y4, box b1 23 R_api_Hash (Vector.replicate 32 (0#8))]) (.cons (.of_lk rfl) <| .cons (.of_lk rfl) <| .cons (.of_lk rfl) <| .cons (.of_lk rfl) <| .nil) (.cons .here <| .cons .here <| .nil) ?_
    refine rs ?_
    refine rt ?_
    refine jp (pl (ht rfl) (by kernel_rfl)) rfl rfl rfl ?_
    refine jp (pm (ht rfl)) rfl rfl rfl ?_
    refine jp (pm (ht rfl)) rfl rfl rfl ?_
    refine j_freeze [7, 26] .here (frz_cons (.of_lk rfl) <| frz_cons (.of_lk rfl) <| frz_nil) ?_
    refine jp (pj_buildSlice (T := 31) (R := (sl u8)) (.cons (ht rfl) .nil) rfl (by kernel_rfl) (by kernel_rfl)) rfl rfl rfl ?_
    obtain ⟨r1, e6, h⟩ := bind_some h
    refine jp (pj_call (hc (ht rfl) <| hc (ht rfl) <| hc has_i64 <| hc (ht rfl) <| hasL_nil) (by kernel_rfl) (c_lmots_under hg1 hg2 e6)) rfl rfl rfl ?_
    refine j_store_boxx (r' := r1) (ht rfl) (ht rfl) .here (Path.all R_api_Hash) (by kernel_rfl) rfl ?_
    refine j_end ?_
    obtain rfl := oi h
    exact run_ret fun a w hst => q_ret1 hst rfl (.cell rfl .here (by kernel_rfl)) () (fun _ _ h => h) (.nil)
set_option maxRecDepth 100000 in
set_option maxHeartbeats 4000000 in
theorem c_lmots_Public {G : GP} (hg0 : HG0 G) (hg1 : HG1 G) (hg2 : HG2 G) {p_kind : Int} {p_id : T_api_ID} {p_q : BitVec 32} {p_seed : T_api_Hash} {r : T_api_Hash × Int} (h : lmots_Public p_kind p_id p_q p_seed = some r) : Ctr Tryz.prog G 80 [i64.slot p_kind, R_api_ID.slot p_id, u32.slot p_q, R_api_Hash.slot p_seed] [] (fun (_ : Unit) => tup [R_api_Hash.slot r.1, i64.slot r.2]) (fun (_ : Unit) => []) := by
  unfold lmots_Public at h
  refine ctr_of_run Tryz.func80 rfl 49 rfl rfl fun m0 w0 b0 => ?_
  show Run _ _ _ [(0, i64.slot p_kind), (1, R_api_ID.slot p_id), (2, u32.slot p_q), (3, R_api_Hash.slot p_seed)] _
  refine rs ?_
  refine rt ?_
  refine jp (pj_box_to (ht rfl)) rfl rfl rfl ?_
  refine jp (pj_box_to (ht rfl)) rfl rfl rfl ?_
  refine j_alloc (x := (Vector.replicate 32 (0#8))) (R := R_api_Hash) (zero_vec 32 zero_un) (by kernel_rfl) rfl fun b1 => ?_
  refine jp (pa has_i64) rfl rfl rfl ?_
  refine j_end ?_
  refine rs ?_
  refine rt ?_
  refine jp (pm (ht rfl)) rfl rfl rfl ?_
  obtain ⟨r1, e1, h⟩ := bind_some h
  refine jp (pj_call (hc (ht rfl) <| hasL_nil) (by kernel_rfl) (c_lmots_of hg0 e1)) rfl rfl rfl ?_
  refine jp (pm (ht rfl)) rfl rfl rfl ?_
  refine jp (pj_extract (ht rfl) rfl) rfl rfl rfl ?_
  refine jp (pj_extract (ht rfl) rfl) rfl rfl rfl ?_
  refine j_alloc (x := (0, 0, 0)) (R := R_lmots_form) (zero_prod zero_i64 (zero_prod zero_i64 zero_i64)) (by kernel_rfl) rfl fun b2 => ?_
  refine j_store_boxx (r' := r1.1) (ht rfl) (ht rfl) .here (Path.all R_lmots_form) (by kernel_rfl) rfl ?_
  refine j_freezeTo (t := 10) .here (.of_lk rfl) ?_
  refine jp (pa (ht rfl)) rfl rfl rfl ?_
  refine j_end ?_
  refine rs ?_
  refine rs ?_
  refine rt ?_
  refine jp (pm (ht rfl)) rfl rfl rfl ?_
  refine jp (pj_not (ht rfl)) rfl rfl rfl ?_
  refine j_end ?_
  refine run_cond (ht rfl) (fun e2 => ?_) (fun e2 => ?_)
  · replace h := bt e2 h
    refine rs ?_
    refine rt ?_
    refine jp (pj_build (R := R_api_Hash) (zero_vec 32 zero_un) (by kernel_rfl) (by kernel_rfl) rfl .nil) rfl rfl rfl ?_
    refine j_store_boxx (r' := (Vector.replicate 32 (0#8))) (ht rfl) (ht rfl) .here (Path.all R_api_Hash) (by kernel_rfl) rfl ?_
    refine jp (pa has_i64) rfl rfl rfl ?_
    refine j_end ?_
    obtain rfl := oi h
    exact run_ret fun a w hst => q_retN hst rfl (.cons (.cell rfl .here (by kernel_rfl)) <| .cons (.tmp rfl) <| .nil) rfl () (fun _ _ h => h) (.nil)
  · replace h := bf e2 h
    refine run_skip ?_
    refine rs ?_
    refine rt ?_
    refine jp (pj_field_to (ht rfl) (Path.then (Path.snd i64 (prod i64 i64)) (Path.fst i64 i64)) (by kernel_rfl)) rfl rfl rfl ?_
    refine jp (pl (ht rfl) (by kernel_rfl)) rfl rfl rfl ?_
    obtain ⟨e3, h⟩ := grd_some h
    obtain ⟨x1, e4, h⟩ := bind_some h
    refine j_makeSlicex (T := 23) (R := R_api_Hash) (z := (Vector.replicate 32 (0#8))) (ht rfl) (ht rfl) e3.1 (Int.le_refl _) e3.2 (by kernel_rfl) (zero_vec 32 zero_un) (by kernel_rfl) (oi e4) rfl fun v1 => ?_
    refine jp (pa (ht rfl)) rfl rfl rfl ?_
    refine j_end ?_
    refine rs ?_
    refine rs ?_
    refine rt ?_
    refine jp (pm (ht rfl)) rfl rfl rfl ?_
    refine jp (pj_len_own (sz := 32) (ht rfl) .here (by kernel_rfl)) rfl rfl rfl ?_
    refine jp (pm has_i64) rfl rfl rfl ?_
    refine j_end ?_
    obtain ⟨⟨y3, y4⟩, e10, h⟩ := bind_some h
    refine run_loopS (Γi := fun (i : Unit) (s : Int × (List T_api_Hash)) => [(2, u32.slot p_q), (5, ptrTo R_api_ID p_id), (7, ptrTo R_api_Hash p_seed), (8, val (.pointer (some ⟨b1, 0, none⟩))), (10, ptrTo R_lmots_form r1.1), (12, ov v1), (26, i64.slot (x1.length : Int)), (27, i64.slot s.1)]) (Hi := fun (i : Unit) (s : Int × (List T_api_Hash)) => [own 23 R_api_Hash v1 s.2, box b1 23 R_api_Hash (Vector.replicate 32 (0#8))]) e10 () (fun a w hst => (hst.sub (.cons (.of_lk rfl) <| .cons (.of_lk rfl) <| .cons (.of_lk rfl) <| .cons (.of_lk rfl) <| .cons (.of_lk rfl) <| .cons (.of_lk rfl) <| .cons (.of_lk rfl) <| .cons (.of_lk rfl) <| .nil)).keep (.cons .here <| .cons .here <| .nil)) ?_ ?_
    · clear h e10
      rintro _ ⟨y1, y2⟩ lr h
      change lmots_Public_L1 x1 p_id p_q p_seed r1 y1 y2 = some _ at h
      show Run _ _ _ [(2, u32.slot p_q), (5, ptrTo R_api_ID p_id), (7, ptrTo R_api_Hash p_seed), (8, val (.pointer (some ⟨b1, 0, none⟩))), (10, ptrTo R_lmots_form r1.1), (12, ov v1), (26, i64.slot (x1.length : Int)), (27, i64.slot y1)] [own 23 R_api_Hash v1 y2, box b1 23 R_api_Hash (Vector.replicate 32 (0#8))]
      unfold lmots_Public_L1 at h
      refine rs ?_
      refine rt ?_
      refine jp (pj_ilss (ht rfl) (ht rfl)) rfl rfl rfl ?_
      refine j_end ?_
      refine rs ?_
      refine run_cond (ht rfl) (fun e5 => ?_) (fun e5 => ?_)
      · replace h := bt e5 h
        refine run_skip ?_
        refine rs ?_
        refine run_block ?_
        refine rs ?_
        refine rt ?_
        refine jp (pm (ht rfl)) rfl rfl rfl ?_
        refine jp (pa (ht rfl)) rfl rfl rfl ?_
        refine j_end ?_
        obtain ⟨r2, e6, h⟩ := bind_some h
        obtain ⟨r3, e7, h⟩ := bind_some h
        obtain ⟨r4, e8, h⟩ := bind_some h
        refine run_draw (n := 13) (by kernel_rfl) (by kernel_rfl) (by kernel_rfl) (by kernel_rfl) (.read (.plain rfl (pm (ht rfl))) <| .read (.plain rfl (pm (ht rfl))) <| .read (.plain rfl (pl (ht rfl) (by kernel_rfl))) <| .read (.plain rfl (pm (ht rfl))) <| .read (.plain rfl (pm (ht rfl))) <| .read (.plain rfl (pl (ht rfl) (by kernel_rfl))) <| .read (.plain rfl (pm (ht rfl))) <| .read (.plain rfl (pm (ht rfl))) <| .read (.plain rfl (pl (ht rfl) (by kernel_rfl))) <| .read (.plain rfl (pj_call (hc (ht rfl) <| hc (ht rfl) <| hc (ht rfl) <| hc (ht rfl) <| hasL_nil) (by kernel_rfl) (c_lmots_secret hg1 hg2 e6))) <| .read (.plain rfl (pl (ht rfl) (by kernel_rfl))) <| .read (.plain rfl (pj_call (hc (ht rfl) <| hasL_nil) (by kernel_rfl) (c_lmots_form_most e7))) <| .read (.plain rfl (pj_call (hc (ht rfl) <| hc (ht rfl) <| hc (ht rfl) <| hc (ht rfl) <| hc has_i64 <| hc (ht rfl) <| hasL_nil) (by kernel_rfl) (c_lmots_chain hg1 hg2 e8))) <| .nil) (j_to (Γ' := [(2, u32.slot p_q), (5, ptrTo R_api_ID p_id), (7, ptrTo R_api_Hash p_seed), (8, val (.pointer (some ⟨b1, 0, none⟩))), (10, ptrTo R_lmots_form r1.1), (12, ov v1), (26, i64.slot (x1.length : Int)), (27, i64.slot y1), (30, ov v1), (31, i64.slot y1), (42, R_api_Hash.slot r4)]) (H' := [own 23 R_api_Hash v1 y2, box b1 23 R_api_Hash (Vector.replicate 32 (0#8))]) (.cons (.of_lk rfl) <| .cons (.of_lk rfl) <| .cons (.of_lk rfl) <| .cons (.of_lk rfl) <| .cons (.of_lk rfl) <| .cons (.of_lk rfl) <| .cons (.of_lk rfl) <| .cons (.of_lk rfl) <| .cons (.of_lk rfl) <| .cons (.of_lk rfl) <| .cons (.of_lk rfl) <| .nil) (.cons .here <| .cons .here <| .nil) ?_)
        obtain ⟨e9, h⟩ := grd_some h
        refine jp (pj_index_own (ht rfl) .here (ht rfl) isInt_i64 e9.1 (lt_nat e9) (by kernel_rfl)) rfl rfl rfl ?_
        refine j_store_own0 R_api_Hash (y1.toNat) (ht rfl) (ht rfl) .here (lt_nat e9) (by kernel_rfl) ?_
        refine j_end ?_
        refine run_endblock ?_
        refine rt ?_
        refine jp (pj_iadd (ht rfl) has_i64) rfl rfl rfl ?_
        refine jp (pm (ht rfl)) rfl rfl rfl ?_
        refine j_end ?_
        obtain rfl := oi h
        exact run_next () (.cons (.of_lk rfl) <| .cons (.of_lk rfl) <| .cons (.of_lk rfl) <| .cons (.of_lk rfl) <| .cons (.of_lk rfl) <| .cons (.of_lk rfl) <| .cons (.of_lk rfl) <| .cons (.of_lk rfl) <| .nil) (.cons .here <| .cons .here <| .nil)
      · replace h := bf e5 h
        obtain rfl := oi h
        exact run_brk () (.cons (.of_lk rfl) <| .cons (.of_lk rfl) <| .cons (.of_lk rfl) <| .cons (.of_lk rfl) <| .cons (.of_lk rfl) <| .cons (.of_lk rfl) <| .cons (.of_lk rfl) <| .cons (.of_lk rfl) <| .nil) (.cons .here <| .cons .here <| .nil)
    · rintro _
      show Run _ _ _ [(2, u32.slot p_q), (5, ptrTo R_api_ID p_id), (7, ptrTo R_api_Hash p_seed), (8, val (.pointer (some ⟨b1, 0, none⟩))), (10, ptrTo R_lmots_form r1.1), (12, ov v1), (26, i64.slot (x1.length : Int)), (27, i64.slot y3)] [own 23 R_api_Hash v1 y4, box b1 23 R_api_Hash (Vector.replicate 32 (0#8))]
      refine run_to (Γ' := [(2, u32.slot p_q), (5, ptrTo R_api_ID p_id), (8, val (.pointer (some ⟨b1, 0, none⟩))), (12, ov v1)]) (H' := [own 23 R_api_Hash v1 y4, box b1 23 R_api_Hash (Vector.replicate 32 (0#8))]) (.cons (.of_lk rfl) <| .cons (.of_lk rfl) <| .cons (.of_lk rfl) <| .cons (.of_lk rfl) <| .nil) (.cons .here <| .cons .here <| .nil) ?_
      refine rs ?_
      refine rt ?_
      refine jp (pl (ht rfl) (by kernel_rfl)) rfl rfl rfl ?_
      refine jp (pm (ht rfl)) rfl rfl rfl ?_
      refine jp (pm (ht rfl)) rfl rfl rfl ?_
      obtain ⟨r5, e11, h⟩ := bind_some h
      refine jp (pj_callB (hasBL_cons (hasB_of (ht rfl)) <| hasBL_cons (hasB_of (ht rfl)) <| hasBL_cons (hasB_own (ht rfl) .here) <| hasBL_nil) (by kernel_rfl) (c_lmots_folded hg1 hg2 e11) (Rep.flat_slot (flat_vec _ (flat_un _ _)) _)) rfl rfl rfl ?_
      refine j_store_boxx (r' := r5) (ht rfl) (ht rfl) (.next .here) (Path.all R_api_Hash) (by kernel_rfl) rfl ?_
      refine jp (pa has_i64) rfl rfl rfl ?_
      refine j_end ?_
      obtain rfl := oi h
      exact run_ret fun a w hst => q_retN hst rfl (.cons (.cell rfl .here (by kernel_rfl)) <| .cons (.tmp rfl) <| .nil) rfl () (fun _ _ h => h) (.nil)
set_option maxRecDepth 100000 in
set_option maxHeartbeats 4000000 in
theorem c_wire_Writer_within {G : GP} {p_w : (List (BitVec 8)) × Bool} {p_x : Int} {p_most : Int} {b_w : Nat} {v_w0 : Value} {r : ((List (BitVec 8)) × Bool) × Bool} (h : wire_Writer_within p_w p_x p_most = some r) : Ctr Tryz.prog G 181 [val (.pointer (some ⟨b_w, 0, none⟩)), i64.slot p_x, i64.slot p_most] [box b_w 161 (prod (exv v_w0) bl) ((), p_w.2), own 5 u8 v_w0 p_w.1] (fun (u0 : Value) => bl.slot r.2) (fun (u0 : Value) => [box b_w 161 (prod (exv u0) bl) ((), r.1.2), own 5 u8 u0 r.1.1]) := by
  unfold wire_Writer_within at h
  refine ctr_of_run Tryz.func181 rfl 24 rfl rfl fun m0 w0 b0 => ?_
  show Run _ _ _ [(0, val (.pointer (some ⟨b_w, 0, none⟩))), (1, i64.slot p_x), (2, i64.slot p_most)] _
  refine rs ?_
  refine rt ?_
  refine jp (pa has_bl) rfl rfl rfl ?_
  refine j_end ?_
  refine rs ?_
  refine rs ?_
  refine rt ?_
  refine jp (pm (ht rfl)) rfl rfl rfl ?_
  refine jp (pj_eq_nil_val (E := 161) (by kernel_rfl) (ht rfl)) rfl rfl rfl ?_
  refine j_end ?_
  refine run_cond_f (ht rfl) rfl ?_
  refine run_skip ?_
  refine rs ?_
  refine rs ?_
  refine rt ?_
  refine jp (pm (ht rfl)) rfl rfl rfl ?_
  refine jp (pj_ilss (ht rfl) has_i64) rfl rfl rfl ?_
  refine jp (pm (ht rfl)) rfl rfl rfl ?_
  obtain ⟨y1, e3, h⟩ := bind_some h
  refine j_joinx (ι := Unit) (Γ' := fun _ => [(0, val (.pointer (some ⟨b_w, 0, none⟩))), (15, bl.slot y1)]) (H' := fun _ => [box b_w 161 (prod (exv v_w0) bl) ((), p_w.2), own 5 u8 v_w0 p_w.1]) 4 ?_ fun J => ?_
  · intro _
    clear e3
    show OpsJ _ _ _ [(0, val (.pointer (some ⟨b_w, 0, none⟩))), (15, bl.slot y1)] [box b_w 161 (prod (exv v_w0) bl) ((), p_w.2), own 5 u8 v_w0 p_w.1] _
    refine j_end ?_
    refine run_cond (ht rfl) (fun e4 => ?_) (fun e4 => ?_)
    · replace h := bt e4 h
      refine rt ?_
      refine jp (pm (ht rfl)) rfl rfl rfl ?_
      refine jp (pj_nilCheck_ptr (ht rfl)) rfl rfl rfl ?_
      refine jp (pj_field_ptr (off := 1) (ht rfl) (by kernel_rfl)) rfl rfl rfl ?_
      refine j_store_boxx (r' := ((), true)) (ht rfl) has_bl .here (Path.then (Path.all (prod (exv v_w0) bl)) (Path.snd (exv v_w0) bl)) (by kernel_rfl) rfl ?_
      refine j_end ?_
      refine rs ?_
      refine rt ?_
      refine jp (pm (ht rfl)) rfl rfl rfl ?_
      refine jp (pj_nilCheck_ptr (ht rfl)) rfl rfl rfl ?_
      refine jp (pj_field_ptr (off := 1) (ht rfl) (by kernel_rfl)) rfl rfl rfl ?_
      refine jp (pj_load_box (ht rfl) .here (Path.then (Path.all (prod (exv v_w0) bl)) (Path.snd (exv v_w0) bl)) (by kernel_rfl)) rfl rfl rfl ?_
      refine jp (pj_not (ht rfl)) rfl rfl rfl ?_
      refine jp (pa (ht rfl)) rfl rfl rfl ?_
      refine j_end ?_
      obtain rfl := oi h
      exact run_ret fun a w hst => q_ret1 hst rfl (.tmp rfl) v_w0 (fun _ _ h => h) (.cons .here <| .cons .here <| .nil)
    · replace h := bf e4 h
      refine run_skip ?_
      refine rs ?_
      refine rt ?_
      refine jp (pm (ht rfl)) rfl rfl rfl ?_
      refine jp (pj_nilCheck_ptr (ht rfl)) rfl rfl rfl ?_
      refine jp (pj_field_ptr (off := 1) (ht rfl) (by kernel_rfl)) rfl rfl rfl ?_
      refine jp (pj_load_box (ht rfl) .here (Path.then (Path.all (prod (exv v_w0) bl)) (Path.snd (exv v_w0) bl)) (by kernel_rfl)) rfl rfl rfl ?_
      refine jp (pj_not (ht rfl)) rfl rfl rfl ?_
      refine jp (pa (ht rfl)) rfl rfl rfl ?_
      refine j_end ?_
      obtain rfl := oi h
      exact run_ret fun a w hst => q_ret1 hst rfl (.tmp rfl) v_w0 (fun _ _ h => h) (.cons .here <| .cons .here <| .nil)
  · rcases bool_tf (decide (p_x < (0 : Int))) with e2 | e2
    · replace e3 := bt e2 e3
      refine j_guard_no2 (j := 2) (want := false) rfl rfl rfl rfl (bl_isx e2) rfl rfl rfl ?_
      refine j_guard_no2 (j := 2) (want := false) rfl rfl rfl rfl (bl_isx e2) rfl rfl rfl ?_
      refine j_guard_no2 (j := 2) (want := false) rfl rfl rfl rfl (bl_isx e2) rfl rfl rfl ?_
      refine jp (PJ.eqv (R := bl) (pj_pick (t := any) (ht rfl) (fun _ => has_bl) (fun he => absurd (e2.symm.trans he) (by decide))) (oi e3)) rfl rfl rfl ?_
      exact j_to (.cons (.of_lk rfl) <| .cons (.of_lk rfl) <| .nil) (.cons .here <| .cons .here <| .nil) (J ())
    · replace e3 := bf e2 e3
      refine jy (pm (ht rfl)) rfl rfl rfl rfl (bl_isx e2) rfl rfl ?_
      refine jy (pm (ht rfl)) rfl rfl rfl rfl (bl_isx e2) rfl rfl ?_
      refine jy (pj_igtr (ht rfl) (ht rfl)) rfl rfl rfl rfl (bl_isx e2) rfl rfl ?_
      refine jp (PJ.eqv (R := bl) (pj_pick (t := any) (ht rfl) (fun he => absurd (e2.symm.trans he) (by decide)) (fun _ => (ht rfl))) (oi e3)) rfl rfl rfl ?_
      exact j_to (.cons (.of_lk rfl) <| .cons (.of_lk rfl) <| .nil) (.cons .here <| .cons .here <| .nil) (J ())
set_option maxRecDepth 100000 in
set_option maxHeartbeats 4000000 in
theorem c_wire_Writer_U16 {G : GP} {p_w : (List (BitVec 8)) × Bool} {p_x : Int} {b_w : Nat} {v_w0 : Value} {r : ((List (BitVec 8)) × Bool)} (h : wire_Writer_U16 p_w p_x = some r) : Ctr Tryz.prog G 162 [val (.pointer (some ⟨b_w, 0, none⟩)), i64.slot p_x] [box b_w 161 (prod (exv v_w0) bl) ((), p_w.2), own 5 u8 v_w0 p_w.1] (fun (u0 : Value) => tup []) (fun (u0 : Value) => [box b_w 161 (prod (exv u0) bl) ((), r.2), own 5 u8 u0 r.1]) := by
  unfold wire_Writer_U16 at h
  refine ctr_of_run Tryz.func162 rfl 11 rfl rfl fun m0 w0 b0 => ?_
  show Run _ _ _ [(0, val (.pointer (some ⟨b_w, 0, none⟩))), (1, i64.slot p_x)] _
  refine rs ?_
  refine rt ?_
  refine jp (pm (ht rfl)) rfl rfl rfl ?_
  refine jp (pm (ht rfl)) rfl rfl rfl ?_
  obtain ⟨r1, e1, h⟩ := bind_some h
  refine j_call (hc (ht rfl) <| hc (ht rfl) <| hc has_i64 <| hasL_nil) (by kernel_rfl) (c_wire_Writer_within e1) (.cons .here <| .cons .here <| .nil) rfl fun v1 => ?_
  refine j_end ?_
  refine run_cond (ht rfl) (fun e2 => ?_) (fun e2 => ?_)
  · replace h := bt e2 h
    refine rt ?_
    refine jp (pm (ht rfl)) rfl rfl rfl ?_
    refine jp (pm (ht rfl)) rfl rfl rfl ?_
    refine jp (pj_conv_un (k := .u64) (b := 64) rfl rfl (by kernel_rfl) (ht rfl) isInt_i64) rfl rfl rfl ?_
    obtain ⟨r2, e3, h⟩ := bind_some h
    refine j_call (hc (ht rfl) <| hc (ht rfl) <| hc has_i64 <| hasL_nil) (by kernel_rfl) (c_wire_Writer_number e3) (.cons .here <| .cons .here <| .nil) rfl fun v2 => ?_
    refine j_end ?_
    obtain rfl := oi h
    exact run_nil fun a w hst => q_retN_n hst rfl (.nil) rfl v2 (fun _ _ h => h) (.cons .here <| .cons .here <| .nil)
  · replace h := bf e2 h
    refine run_skip ?_
    obtain rfl := oi h
    exact run_nil fun a w hst => q_retN_n hst rfl (.nil) rfl v1 (fun _ _ h => h) (.cons .here <| .cons .here <| .nil)
set_option maxRecDepth 100000 in
set_option maxHeartbeats 4000000 in
theorem c_lms_node {G : GP} (hg1 : HG1 G) (hg2 : HG2 G) {p_id : T_api_ID} {p_r : Int} {p_under : Int} {p_parts : List (List (BitVec 8))} {r : T_api_Hash} (h : lms_node p_id p_r p_under p_parts = some r) : Ctr Tryz.prog G 129 [R_api_ID.slot p_id, i64.slot p_r, i64.slot p_under, (sl (sl u8)).slot p_parts] [] (fun (_ : Unit) => R_api_Hash.slot r) (fun (_ : Unit) => []) := by
  unfold lms_node at h
  refine ctr_of_run Tryz.func129 rfl 43 rfl rfl fun m0 w0 b0 => ?_
  show Run _ _ _ [(0, R_api_ID.slot p_id), (1, i64.slot p_r), (2, i64.slot p_under), (3, (sl (sl u8)).slot p_parts)] _
  refine rs ?_
  refine rt ?_
  refine jp (pj_box_to (ht rfl)) rfl rfl rfl ?_
  refine j_alloc (x := (Vector.replicate 32 (0#8))) (R := R_api_Hash) (zero_vec 32 zero_un) (by kernel_rfl) rfl fun b1 => ?_
  refine j_end ?_
  refine rs ?_
  refine rt ?_
  refine jp (pj_build (R := prod (exv (.slice none 0 0)) bl) (zero_prod zero_exv zero_bl) (by kernel_rfl) (by kernel_rfl) rfl .nil) rfl rfl rfl ?_
  refine j_box_w (T1 := 5) u8 (ht rfl) rfl fun b2 v1 => ?_
  refine jp (pa (ht rfl)) rfl rfl rfl ?_
  refine j_end ?_
  refine rs ?_
  refine rt ?_
  refine jp (pm (ht rfl)) rfl rfl rfl ?_
  refine jp (pj_slice_toF (ht rfl) (by decide) (by kernel_rfl)) rfl rfl rfl ?_
  obtain ⟨r1, e1, h⟩ := bind_some h
  refine j_call (hc (ht rfl) <| hc (ht rfl) <| hasL_nil) (by kernel_rfl) (c_wire_Writer_Plain e1) (.cons (.next .here) <| .cons .here <| .nil) rfl fun v2 => ?_
  refine j_end ?_
  refine rs ?_
  refine rt ?_
  refine jp (pm (ht rfl)) rfl rfl rfl ?_
  refine jp (pm (ht rfl)) rfl rfl rfl ?_
  refine jp (pj_conv_un (k := .u32) (b := 32) rfl rfl (by kernel_rfl) (ht rfl) isInt_i64) rfl rfl rfl ?_
  obtain ⟨r2, e2, h⟩ := bind_some h
  refine j_call (hc (ht rfl) <| hc (ht rfl) <| hasL_nil) (by kernel_rfl) (c_wire_Writer_U32 e2) (.cons .here <| .cons .here <| .nil) rfl fun v3 => ?_
  refine j_end ?_
  refine rs ?_
  refine rt ?_
  refine jp (pm (ht rfl)) rfl rfl rfl ?_
  refine jp (pm (ht rfl)) rfl rfl rfl ?_
  obtain ⟨r3, e3, h⟩ := bind_some h
  refine j_call (hc (ht rfl) <| hc (ht rfl) <| hasL_nil) (by kernel_rfl) (c_wire_Writer_U16 e3) (.cons .here <| .cons .here <| .nil) rfl fun v4 => ?_
  refine j_end ?_
  refine rs ?_
  refine rs ?_
  refine rt ?_
  refine jp (pm (ht rfl)) rfl rfl rfl ?_
  refine jp (pj_len_sl (sz := 1) (ht rfl) (by kernel_rfl)) rfl rfl rfl ?_
  refine jp (pm has_i64) rfl rfl rfl ?_
  refine j_end ?_
  obtain ⟨⟨y4, y5, y6⟩, e7, h⟩ := bind_some h
  refine run_loopS (Γi := fun (i : Value) (s : Int × Bool × (List (BitVec 8))) => [(8, val (.pointer (some ⟨b1, 0, none⟩))), (9, val (.pointer (some ⟨b2, 0, none⟩))), (26, (sl (sl u8)).slot p_parts), (27, i64.slot (p_parts.length : Int)), (28, i64.slot s.1)]) (Hi := fun (i : Value) (s : Int × Bool × (List (BitVec 8))) => [box b2 161 (prod (exv i) bl) ((), s.2.1), own 5 u8 i s.2.2, box b1 23 R_api_Hash (Vector.replicate 32 (0#8))]) e7 v4 (fun a w hst => (hst.sub (.cons (.of_lk rfl) <| .cons (.of_lk rfl) <| .cons (.of_lk rfl) <| .cons (.of_lk rfl) <| .cons (.of_lk rfl) <| .nil)).keep (.cons .here <| .cons .here <| .cons .here <| .nil)) ?_ ?_
  · clear h e7
    rintro v5 ⟨y1, y2, y3⟩ lr h
    change lms_node_L1 p_parts y1 y2 y3 = some _ at h
    show Run _ _ _ [(8, val (.pointer (some ⟨b1, 0, none⟩))), (9, val (.pointer (some ⟨b2, 0, none⟩))), (26, (sl (sl u8)).slot p_parts), (27, i64.slot (p_parts.length : Int)), (28, i64.slot y1)] [box b2 161 (prod (exv v5) bl) ((), y2), own 5 u8 v5 y3, box b1 23 R_api_Hash (Vector.replicate 32 (0#8))]
    unfold lms_node_L1 at h
    refine rs ?_
    refine rt ?_
    refine jp (pj_ilss (ht rfl) (ht rfl)) rfl rfl rfl ?_
    refine j_end ?_
    refine rs ?_
    refine run_cond (ht rfl) (fun e4 => ?_) (fun e4 => ?_)
    · replace h := bt e4 h
      refine run_skip ?_
      refine rs ?_
      refine run_block ?_
      refine rs ?_
      refine rt ?_
      obtain ⟨x1, e5, h⟩ := bind_some h
      refine jp (pj_index_slx (ht rfl) (ht rfl) isInt_i64 e5 (by kernel_rfl)) rfl rfl rfl ?_
      refine jp (pl (ht rfl) (by kernel_rfl)) rfl rfl rfl ?_
      refine jp (pa (ht rfl)) rfl rfl rfl ?_
      refine j_end ?_
      refine rt ?_
      refine jp (pm (ht rfl)) rfl rfl rfl ?_
      refine jp (pm (ht rfl)) rfl rfl rfl ?_
      obtain ⟨r4, e6, h⟩ := bind_some h
      refine j_call (hc (ht rfl) <| hc (ht rfl) <| hasL_nil) (by kernel_rfl) (c_wire_Writer_Plain e6) (.cons .here <| .cons .here <| .nil) rfl fun v6 => ?_
      refine j_end ?_
      refine run_endblock ?_
      refine rt ?_
      refine jp (pj_iadd (ht rfl) has_i64) rfl rfl rfl ?_
      refine jp (pm (ht rfl)) rfl rfl rfl ?_
      refine j_end ?_
      obtain rfl := oi h
      exact run_next v6 (.cons (.of_lk rfl) <| .cons (.of_lk rfl) <| .cons (.of_lk rfl) <| .cons (.of_lk rfl) <| .cons (.of_lk rfl) <| .nil) (.cons .here <| .cons .here <| .cons .here <| .nil)
    · replace h := bf e4 h
      obtain rfl := oi h
      exact run_brk v5 (.cons (.of_lk rfl) <| .cons (.of_lk rfl) <| .cons (.of_lk rfl) <| .cons (.of_lk rfl) <| .cons (.of_lk rfl) <| .nil) (.cons .here <| .cons .here <| .cons .here <| .nil)
  · rintro v7
    show Run _ _ _ [(8, val (.pointer (some ⟨b1, 0, none⟩))), (9, val (.pointer (some ⟨b2, 0, none⟩))), (26, (sl (sl u8)).slot p_parts), (27, i64.slot (p_parts.length : Int)), (28, i64.slot y4)] [box b2 161 (prod (exv v7) bl) ((), y5), own 5 u8 v7 y6, box b1 23 R_api_Hash (Vector.replicate 32 (0#8))]
    refine run_to (Γ' := [(8, val (.pointer (some ⟨b1, 0, none⟩))), (9, val (.pointer (some ⟨b2, 0, none⟩)))]) (H' := [box b2 161 (prod (exv v7) bl) ((), y5), own 5 u8 v7 y6, box b1 23 R_api_Hash (Vector.replicate 32 (0#8))]) (.cons (.of_lk rfl) <| .cons (.of_lk rfl) <| .nil) (.cons .here <| .cons .here <| .cons .here <| .nil) ?_
    refine rs ?_
    refine rt ?_
    refine jp (pm (ht rfl)) rfl rfl rfl ?_
    obtain ⟨r5, e8, h⟩ := bind_some h
    refine j_call (hc (ht rfl) <| hasL_nil) (by kernel_rfl) (c_wire_Writer_Out e8) (.cons .here <| .cons .here <| .nil) rfl fun ⟨v8, v9⟩ => ?_
    refine jp (pm (ht rfl)) rfl rfl rfl ?_
    refine jp (pj_extract (ht rfl) rfl) rfl rfl rfl ?_
    refine jp (pj_extract (ht rfl) rfl) rfl rfl rfl ?_
    refine jp (pa (ht rfl)) rfl rfl rfl ?_
    refine jp (pa (ht rfl)) rfl rfl rfl ?_
    refine j_end ?_
    refine rs ?_
    refine rt ?_
    refine jp (pm (ht rfl)) rfl rfl rfl ?_
    obtain ⟨r6, e9, h⟩ := bind_some h
    refine jp (pj_callB (hasBL_cons (hasB_own (ht rfl) (.next (.next .here))) <| hasBL_nil) (by kernel_rfl) (c_hash_Sum hg1 hg2 e9) (Rep.flat_slot (flat_vec _ (flat_un _ _)) _)) rfl rfl rfl ?_
    refine j_store_boxx (r' := r6) (ht rfl) (ht rfl) (.next (.next (.next .here))) (Path.all R_api_Hash) (by kernel_rfl) rfl ?_
    refine j_end ?_
    obtain rfl := oi h
    exact run_ret fun a w hst => q_ret1 hst rfl (.cell rfl .here (by kernel_rfl)) () (fun _ _ h => h) (.nil)
set_option maxRecDepth 100000 in
set_option maxHeartbeats 4000000 in
theorem c_lms_leaf {G : GP} (hg1 : HG1 G) (hg2 : HG2 G) {p_id : T_api_ID} {p_r : Int} {p_public : T_api_Hash} {r : T_api_Hash} (h : lms_leaf p_id p_r p_public = some r) : Ctr Tryz.prog G 81 [R_api_ID.slot p_id, i64.slot p_r, R_api_Hash.slot p_public] [] (fun (_ : Unit) => R_api_Hash.slot r) (fun (_ : Unit) => []) := by
  unfold lms_leaf at h
  refine ctr_of_run Tryz.func81 rfl 12 rfl rfl fun m0 w0 b0 => ?_
  show Run _ _ _ [(0, R_api_ID.slot p_id), (1, i64.slot p_r), (2, R_api_Hash.slot p_public)] _
  refine rs ?_
  refine rt ?_
  refine jp (pj_box_to (ht rfl)) rfl rfl rfl ?_
  refine jp (pj_box_to (ht rfl)) rfl rfl rfl ?_
  refine j_alloc (x := (Vector.replicate 32 (0#8))) (R := R_api_Hash) (zero_vec 32 zero_un) (by kernel_rfl) rfl fun b1 => ?_
  refine j_end ?_
  refine rs ?_
  refine run_draw (n := 4) (by kernel_rfl) (by kernel_rfl) (by kernel_rfl) (by kernel_rfl) (.read (.plain rfl (pl (ht rfl) (by kernel_rfl))) <| .read (.plain rfl (pm (ht rfl))) <| .read (.plain rfl (pj_slice_toF (ht rfl) (by decide) (by kernel_rfl))) <| .read (.plain rfl (pj_buildSlice (T := 31) (R := (sl u8)) (.cons (ht rfl) .nil) rfl (by kernel_rfl) (by kernel_rfl))) <| .nil) (j_to (Γ' := [(6, val (.pointer (some ⟨b1, 0, none⟩))), (7, R_api_ID.slot p_id), (8, i64.slot p_r), (10, (sl (sl u8)).slot ([p_public.toList]))]) (H' := [box b1 23 R_api_Hash (Vector.replicate 32 (0#8))]) (.cons (.of_lk rfl) <| .cons (.of_lk rfl) <| .cons (.of_lk rfl) <| .cons (.of_lk rfl) <| .nil) (.cons .here <| .nil) ?_)
  obtain ⟨r1, e1, h⟩ := bind_some h
  refine jp (pj_call (hc (ht rfl) <| hc (ht rfl) <| hc has_i64 <| hc (ht rfl) <| hasL_nil) (by kernel_rfl) (c_lms_node hg1 hg2 e1)) rfl rfl rfl ?_
  refine j_store_boxx (r' := r1) (ht rfl) (ht rfl) .here (Path.all R_api_Hash) (by kernel_rfl) rfl ?_
  refine j_end ?_
  obtain rfl := oi h
  exact run_ret fun a w hst => q_ret1 hst rfl (.cell rfl .here (by kernel_rfl)) () (fun _ _ h => h) (.nil)
set_option maxRecDepth 100000 in
set_option maxHeartbeats 4000000 in
theorem c_lms_inner {G : GP} (hg1 : HG1 G) (hg2 : HG2 G) {p_id : T_api_ID} {p_r : Int} {p_a : T_api_Hash} {p_b : T_api_Hash} {r : T_api_Hash} (h : lms_inner p_id p_r p_a p_b = some r) : Ctr Tryz.prog G 82 [R_api_ID.slot p_id, i64.slot p_r, R_api_Hash.slot p_a, R_api_Hash.slot p_b] [] (fun (_ : Unit) => R_api_Hash.slot r) (fun (_ : Unit) => []) := by
  unfold lms_inner at h
  refine ctr_of_run Tryz.func82 rfl 15 rfl rfl fun m0 w0 b0 => ?_
  show Run _ _ _ [(0, R_api_ID.slot p_id), (1, i64.slot p_r), (2, R_api_Hash.slot p_a), (3, R_api_Hash.slot p_b)] _
  refine rs ?_
  refine rt ?_
  refine jp (pj_box_to (ht rfl)) rfl rfl rfl ?_
  refine jp (pj_box_to (ht rfl)) rfl rfl rfl ?_
  refine jp (pj_box_to (ht rfl)) rfl rfl rfl ?_
  refine j_alloc (x := (Vector.replicate 32 (0#8))) (R := R_api_Hash) (zero_vec 32 zero_un) (by kernel_rfl) rfl fun b1 => ?_
  refine j_end ?_
  refine rs ?_
  refine run_draw (n := 5) (by kernel_rfl) (by kernel_rfl) (by kernel_rfl) (by kernel_rfl) (.read (.plain rfl (pl (ht rfl) (by kernel_rfl))) <| .read (.plain rfl (pm (ht rfl))) <| .read (.plain rfl (pj_slice_toF (ht rfl) (by decide) (by kernel_rfl))) <| .read (.plain rfl (pj_slice_toF (ht rfl) (by decide) (by kernel_rfl))) <| .read (.plain rfl (pj_buildSlice (T := 31) (R := (sl u8)) (.cons (ht rfl) (.cons (ht rfl) .nil)) rfl (by kernel_rfl) (by kernel_rfl))) <| .nil) (j_to (Γ' := [(8, val (.pointer (some ⟨b1, 0, none⟩))), (9, R_api_ID.slot p_id), (10, i64.slot p_r), (13, (sl (sl u8)).slot ([p_a.toList, p_b.toList]))]) (H' := [box b1 23 R_api_Hash (Vector.replicate 32 (0#8))]) (.cons (.of_lk rfl) <| .cons (.of_lk rfl) <| .cons (.of_lk rfl) <| .cons (.of_lk rfl) <| .nil) (.cons .here <| .nil) ?_)
  obtain ⟨r1, e1, h⟩ := bind_some h
  refine jp (pj_call (hc (ht rfl) <| hc (ht rfl) <| hc has_i64 <| hc (ht rfl) <| hasL_nil) (by kernel_rfl) (c_lms_node hg1 hg2 e1)) rfl rfl rfl ?_
  refine j_store_boxx (r' := r1) (ht rfl) (ht rfl) .here (Path.all R_api_Hash) (by kernel_rfl) rfl ?_
  refine j_end ?_
  obtain rfl := oi h
  exact run_ret fun a w hst => q_ret1 hst rfl (.cell rfl .here (by kernel_rfl)) () (fun _ _ h => h) (.nil)
set_option maxRecDepth 100000 in
set_option maxHeartbeats 4000000 in
theorem c_lms_New {G : GP} (hg0 : HG0 G) (hg1 : HG1 G) (hg2 : HG2 G) {p_height : Int} {p_kind : Int} {p_id : T_api_ID} {p_seed : T_api_Hash} {r : (Option T_lms_Tree) × Int} (h : lms_New p_height p_kind p_id p_seed = some r) : Ctr Tryz.prog G 44 [i64.slot p_height, i64.slot p_kind, R_api_ID.slot p_id, R_api_Hash.slot p_seed] [] (fun (_ : Unit) => tup [(ptr R_lms_Tree).slot r.1, i64.slot r.2]) (fun (_ : Unit) => []) := by
  unfold lms_New at h
  refine ctr_of_run Tryz.func44 rfl 95 rfl rfl fun m0 w0 b0 => ?_
  refine run_ret0 fun Qf hq1 hq2 => ?_
  show Run _ _ _ [(0, i64.slot p_height), (1, i64.slot p_kind), (2, R_api_ID.slot p_id), (3, R_api_Hash.slot p_seed)] _
  refine rs ?_
  refine rt ?_
  refine jp (pj_box_to (ht rfl)) rfl rfl rfl ?_
  refine jp (pj_box_to (ht rfl)) rfl rfl rfl ?_
  refine jp (pa (has_nilp (R := R_lms_Tree))) rfl rfl rfl ?_
  refine jp (pa has_i64) rfl rfl rfl ?_
  refine j_end ?_
  refine rs ?_
  refine rs ?_
  refine rt ?_
  refine jp (pm (ht rfl)) rfl rfl rfl ?_
  refine jp (pm (ht rfl)) rfl rfl rfl ?_
  obtain ⟨r1, e1, h⟩ := bind_some h
  refine jp (pj_call (hc (ht rfl) <| hc (ht rfl) <| hasL_nil) (by kernel_rfl) (c_lms_may hg0 e1)) rfl rfl rfl ?_
  refine jp (pj_not (ht rfl)) rfl rfl rfl ?_
  refine j_end ?_
  refine run_cond (ht rfl) (fun e2 => ?_) (fun e2 => ?_)
  · replace h := bt e2 h
    refine rs ?_
    refine rt ?_
    refine jp (pa (has_nilp (R := R_lms_Tree))) rfl rfl rfl ?_
    refine jp (pa has_i64) rfl rfl rfl ?_
    refine j_end ?_
    obtain rfl := oi h
    exact run_ret fun a w hst => q_retN hst rfl (.cons (.tmp rfl) <| .cons (.tmp rfl) <| .nil) rfl () (fun _ _ h => h) (.nil)
  · replace h := bf e2 h
    refine run_skip ?_
    refine rs ?_
    refine rt ?_
    refine jp (pm (ht rfl)) rfl rfl rfl ?_
    obtain ⟨e3, h⟩ := grd_some h
    refine jp (pj_ishl has_i64 (ht rfl) isInt_i64 e3) rfl rfl rfl ?_
    refine jp (pa (ht rfl)) rfl rfl rfl ?_
    refine j_end ?_
    refine rs ?_
    obtain ⟨e4, h⟩ := grd_some h
    obtain ⟨x1, e5, h⟩ := bind_some h
    refine run_keep (H' := []) (.nil) ?_
    refine run_drawL (n := 7) (H := []) (Ls := [⟨[], [(6, ⟨Value, fun (v1 : Value) => [own 23 R_api_Hash v1 x1], fun (v1 : Value) => [(28, ov v1)]⟩)]⟩]) (by kernel_rfl) (by kernel_rfl) (by kernel_rfl) (by kernel_rfl) (by kernel_rfl) rfl (.read rfl (.plain rfl (pm (ht rfl))) <| .read rfl (.plain rfl (pm (ht rfl))) <| .read rfl (.plain rfl (pl (ht rfl) (by kernel_rfl))) <| .read rfl (.plain rfl (pl (ht rfl) (by kernel_rfl))) <| .read rfl (.plain rfl (pm (ht rfl))) <| .read rfl (.plain rfl (pj_imul has_i64 (ht rfl))) <| .step 0 rfl .here (.inl rfl) (fun i => ⟨_, _, fun j => j, (w_makeSlicex (T := 23) (R := R_api_Hash) (z := (Vector.replicate 32 (0#8))) (ht rfl) (ht rfl) e4.1 (Int.le_refl _) e4.2 (by kernel_rfl) (zero_vec 32 zero_un) (by kernel_rfl) (oi e5) rfl), fun _ => rfl, slotAny, dst1⟩) <| .nil) ?_
    rintro v1
    refine j_to (Γ' := [(1, i64.slot p_kind), (6, ptrTo R_api_ID p_id), (7, ptrTo R_api_Hash p_seed), (10, i64.slot (ishl (1 : Int) p_height)), (22, i64.slot p_height), (23, i64.slot p_kind), (24, R_api_ID.slot p_id), (25, R_api_Hash.slot p_seed), (28, ov v1)]) (H' := [own 23 R_api_Hash v1 x1]) (.cons (.of_lk rfl) <| .cons (.of_lk rfl) <| .cons (.of_lk rfl) <| .cons (.of_lk rfl) <| .cons (.of_lk rfl) <| .cons (.of_lk rfl) <| .cons (.of_lk rfl) <| .cons (.of_lk rfl) <| .cons (.of_lk rfl) <| .nil) (.cons .here <| .nil) ?_
    refine jp (pj_buildX (R := (prod i64 (prod i64 (prod R_api_ID (prod R_api_Hash (exv (.slice none 0 0))))))) (x := (0, 0, (Vector.replicate 16 (0#8)), (Vector.replicate 32 (0#8)), ())) (zero_prod zero_i64 (zero_prod zero_i64 (zero_prod (zero_vec 16 zero_un) (zero_prod (zero_vec 32 zero_un) zero_exv)))) (by kernel_rfl) (by kernel_rfl) rfl (.cons (ht rfl) (sx_pathx (x1 := (p_height, 0, (Vector.replicate 16 (0#8)), (Vector.replicate 32 (0#8)), ())) (Path.fst i64 (prod i64 (prod R_api_ID (prod R_api_Hash (exv (.slice none 0 0)))))) rfl) (by kernel_rfl) (.cons (ht rfl) (sx_pathx (x1 := (p_height, p_kind, (Vector.replicate 16 (0#8)), (Vector.replicate 32 (0#8)), ())) (Path.then (Path.snd i64 (prod i64 (prod R_api_ID (prod R_api_Hash (exv (.slice none 0 0)))))) (Path.fst i64 (prod R_api_ID (prod R_api_Hash (exv (.slice none 0 0)))))) rfl) (by kernel_rfl) (.cons (ht rfl) (sx_pathx (x1 := (p_height, p_kind, p_id, (Vector.replicate 32 (0#8)), ())) (Path.then (Path.snd i64 (prod i64 (prod R_api_ID (prod R_api_Hash (exv (.slice none 0 0)))))) (Path.then (Path.snd i64 (prod R_api_ID (prod R_api_Hash (exv (.slice none 0 0))))) (Path.fst R_api_ID (prod R_api_Hash (exv (.slice none 0 0)))))) rfl) (by kernel_rfl) (.cons (ht rfl) (sx_pathx (x1 := (p_height, p_kind, p_id, p_seed, ())) (Path.then (Path.snd i64 (prod i64 (prod R_api_ID (prod R_api_Hash (exv (.slice none 0 0)))))) (Path.then (Path.snd i64 (prod R_api_ID (prod R_api_Hash (exv (.slice none 0 0))))) (Path.then (Path.snd R_api_ID (prod R_api_Hash (exv (.slice none 0 0)))) (Path.fst R_api_Hash (exv (.slice none 0 0)))))) rfl) (by kernel_rfl) (.cons (ht rfl) (sx_se (se_snd i64 p_height (se_snd i64 p_kind (se_snd R_api_ID p_id (se_snd R_api_Hash p_seed se_here))))) (by kernel_rfl) .nil)))))) rfl rfl rfl ?_
    refine j_box (ht rfl) rfl fun b1 => ?_
    refine jp (pa (ht rfl)) rfl rfl rfl ?_
    refine j_end ?_
    refine rs ?_
    refine rs ?_
    refine rt ?_
    refine jp (pm (ht rfl)) rfl rfl rfl ?_
    refine jp (pm has_i64) rfl rfl rfl ?_
    refine j_end ?_
    obtain ⟨o, e11, h⟩ := bind_some h
    refine run_loop (Γi := fun (i : Unit) (s : Int × (List T_api_Hash)) => [(1, i64.slot p_kind), (6, ptrTo R_api_ID p_id), (7, ptrTo R_api_Hash p_seed), (10, i64.slot (ishl (1 : Int) p_height)), (11, val (.pointer (some ⟨b1, 0, none⟩))), (31, i64.slot (ishl (1 : Int) p_height)), (32, i64.slot s.1)]) (Hi := fun (i : Unit) (s : Int × (List T_api_Hash)) => [box b1 153 (prod i64 (prod i64 (prod R_api_ID (prod R_api_Hash (exv v1))))) (p_height, p_kind, p_id, p_seed, ()), own 23 R_api_Hash v1 s.2]) (R := fun x a w => x = r → Qf a w) e11 () (fun a w hst => (hst.sub (.cons (.of_lk rfl) <| .cons (.of_lk rfl) <| .cons (.of_lk rfl) <| .cons (.of_lk rfl) <| .cons (.of_lk rfl) <| .cons (.of_lk rfl) <| .cons (.of_lk rfl) <| .nil)).keep (.cons .here <| .cons .here <| .nil)) ?_ ?_ ?_
    · clear h e11
      rintro _ ⟨y1, y2⟩ lr h
      change lms_New_L1 p_height p_kind p_id p_seed y1 y2 = some _ at h
      show Run _ _ _ [(1, i64.slot p_kind), (6, ptrTo R_api_ID p_id), (7, ptrTo R_api_Hash p_seed), (10, i64.slot (ishl (1 : Int) p_height)), (11, val (.pointer (some ⟨b1, 0, none⟩))), (31, i64.slot (ishl (1 : Int) p_height)), (32, i64.slot y1)] [box b1 153 (prod i64 (prod i64 (prod R_api_ID (prod R_api_Hash (exv v1))))) (p_height, p_kind, p_id, p_seed, ()), own 23 R_api_Hash v1 y2]
      unfold lms_New_L1 at h
      refine rs ?_
      refine rt ?_
      refine jp (pj_ilss (ht rfl) (ht rfl)) rfl rfl rfl ?_
      refine j_end ?_
      refine rs ?_
      refine run_cond (ht rfl) (fun e6 => ?_) (fun e6 => ?_)
      · replace h := bt e6 h
        refine run_skip ?_
        refine rs ?_
        refine run_block ?_
        refine rs ?_
        refine rt ?_
        refine jp (pm (ht rfl)) rfl rfl rfl ?_
        refine jp (pa (ht rfl)) rfl rfl rfl ?_
        refine j_end ?_
        refine rs ?_
        refine rt ?_
        refine jp (pm (ht rfl)) rfl rfl rfl ?_
        refine jp (pl (ht rfl) (by kernel_rfl)) rfl rfl rfl ?_
        refine jp (pm (ht rfl)) rfl rfl rfl ?_
        refine jp (pj_conv_un (k := .u32) (b := 32) rfl rfl (by kernel_rfl) (ht rfl) isInt_i64) rfl rfl rfl ?_
        refine jp (pl (ht rfl) (by kernel_rfl)) rfl rfl rfl ?_
        obtain ⟨r2, e7, h⟩ := bind_some h
        refine jp (pj_call (hc (ht rfl) <| hc (ht rfl) <| hc (ht rfl) <| hc (ht rfl) <| hasL_nil) (by kernel_rfl) (c_lmots_Public hg0 hg1 hg2 e7)) rfl rfl rfl ?_
        refine jp (pm (ht rfl)) rfl rfl rfl ?_
        refine jp (pj_extract (ht rfl) rfl) rfl rfl rfl ?_
        refine jp (pj_extract (ht rfl) rfl) rfl rfl rfl ?_
        refine j_alloc (x := (Vector.replicate 32 (0#8))) (R := R_api_Hash) (zero_vec 32 zero_un) (by kernel_rfl) rfl fun b2 => ?_
        refine j_store_boxx (r' := r2.1) (ht rfl) (ht rfl) .here (Path.all R_api_Hash) (by kernel_rfl) rfl ?_
        refine j_freezeTo (t := 13) .here (.of_lk rfl) ?_
        refine jp (pa (ht rfl)) rfl rfl rfl ?_
        refine j_end ?_
        refine rs ?_
        refine rs ?_
        refine rt ?_
        refine jp (pm (ht rfl)) rfl rfl rfl ?_
        refine jp (pj_ineq (ht rfl) has_i64) rfl rfl rfl ?_
        refine j_end ?_
        refine run_cond (ht rfl) (fun e8 => ?_) (fun e8 => ?_)
        · replace h := bt e8 h
          refine rs ?_
          refine rt ?_
          refine jp (pm (ht rfl)) rfl rfl rfl ?_
          refine jp (pa (has_nilp (R := R_lms_Tree))) rfl rfl rfl ?_
          refine jp (pa (ht rfl)) rfl rfl rfl ?_
          refine j_end ?_
          obtain rfl := oi h
          refine run_ret fun a w hst => ⟨rfl, fun hr => ?_⟩
          subst hr
          exact hq2 a w (q_retN hst rfl (.cons (.tmp rfl) <| .cons (.tmp rfl) <| .nil) rfl () (fun _ _ h => h) (.nil))
        · replace h := bf e8 h
          refine run_skip ?_
          obtain ⟨r3, e9, h⟩ := bind_some h
          refine run_draw (n := 13) (by kernel_rfl) (by kernel_rfl) (by kernel_rfl) (by kernel_rfl) (.read (.plain rfl (pm (ht rfl))) <| .read (.plain rfl (pj_nilCheck_ptr (ht rfl))) <| .read (.plain rfl (pj_field_ptr (off := 50) (ht rfl) (by kernel_rfl))) <| .read (.plain rfl (pj_load_box (ht rfl) .here (Path.then (Path.all (prod i64 (prod i64 (prod R_api_ID (prod R_api_Hash (exv v1)))))) (Path.then (Path.snd i64 (prod i64 (prod R_api_ID (prod R_api_Hash (exv v1))))) (Path.then (Path.snd i64 (prod R_api_ID (prod R_api_Hash (exv v1)))) (Path.then (Path.snd R_api_ID (prod R_api_Hash (exv v1))) (Path.snd R_api_Hash (exv v1)))))) (by kernel_rfl))) <| .read (.plain rfl (pm (ht rfl))) <| .read (.plain rfl (pm (ht rfl))) <| .read (.plain rfl (pj_iadd (ht rfl) (ht rfl))) <| .read (.plain rfl (pl (ht rfl) (by kernel_rfl))) <| .read (.plain rfl (pm (ht rfl))) <| .read (.plain rfl (pm (ht rfl))) <| .read (.plain rfl (pj_iadd (ht rfl) (ht rfl))) <| .read (.plain rfl (pl (ht rfl) (by kernel_rfl))) <| .read (.plain rfl (pj_call (hc (ht rfl) <| hc (ht rfl) <| hc (ht rfl) <| hasL_nil) (by kernel_rfl) (c_lms_leaf hg1 hg2 e9))) <| .nil) (j_to (Γ' := [(1, i64.slot p_kind), (6, ptrTo R_api_ID p_id), (7, ptrTo R_api_Hash p_seed), (10, i64.slot (ishl (1 : Int) p_height)), (11, val (.pointer (some ⟨b1, 0, none⟩))), (31, i64.slot (ishl (1 : Int) p_height)), (32, i64.slot y1), (50, ov v1), (53, i64.slot (w64 ((ishl (1 : Int) p_height) + y1))), (59, R_api_Hash.slot r3)]) (H' := [box b1 153 (prod i64 (prod i64 (prod R_api_ID (prod R_api_Hash (exv v1))))) (p_height, p_kind, p_id, p_seed, ()), own 23 R_api_Hash v1 y2]) (.cons (.of_lk rfl) <| .cons (.of_lk rfl) <| .cons (.of_lk rfl) <| .cons (.of_lk rfl) <| .cons (.of_lk rfl) <| .cons (.of_lk rfl) <| .cons (.of_lk rfl) <| .cons (.of_lk rfl) <| .cons (.of_lk rfl) <| .cons (.of_lk rfl) <| .nil) (.cons .here <| .cons .here <| .nil) ?_)
          obtain ⟨e10, h⟩ := grd_some h
          refine jp (pj_index_own (ht rfl) (.next .here) (ht rfl) isInt_i64 e10.1 (lt_nat e10) (by kernel_rfl)) rfl rfl rfl ?_
          refine j_store_own0 R_api_Hash ((w64 ((ishl (1 : Int) p_height) + y1)).toNat) (ht rfl) (ht rfl) (.next .here) (lt_nat e10) (by kernel_rfl) ?_
          refine j_end ?_
          refine run_endblock ?_
          refine rt ?_
          refine jp (pj_iadd (ht rfl) has_i64) rfl rfl rfl ?_
          refine jp (pm (ht rfl)) rfl rfl rfl ?_
          refine j_end ?_
          obtain rfl := oi h
          exact run_next () (.cons (.of_lk rfl) <| .cons (.of_lk rfl) <| .cons (.of_lk rfl) <| .cons (.of_lk rfl) <| .cons (.of_lk rfl) <| .cons (.of_lk rfl) <| .cons (.of_lk rfl) <| .nil) (.cons (.next .here) <| .cons .here <| .nil)
      · replace h := bf e6 h
        obtain rfl := oi h
        exact run_brk () (.cons (.of_lk rfl) <| .cons (.of_lk rfl) <| .cons (.of_lk rfl) <| .cons (.of_lk rfl) <| .cons (.of_lk rfl) <| .cons (.of_lk rfl) <| .cons (.of_lk rfl) <| .nil) (.cons .here <| .cons .here <| .nil)
    · rintro _ ⟨y3, y4⟩ ho
      subst ho
      show Run _ _ _ [(1, i64.slot p_kind), (6, ptrTo R_api_ID p_id), (7, ptrTo R_api_Hash p_seed), (10, i64.slot (ishl (1 : Int) p_height)), (11, val (.pointer (some ⟨b1, 0, none⟩))), (31, i64.slot (ishl (1 : Int) p_height)), (32, i64.slot y3)] [box b1 153 (prod i64 (prod i64 (prod R_api_ID (prod R_api_Hash (exv v1))))) (p_height, p_kind, p_id, p_seed, ()), own 23 R_api_Hash v1 y4]
      refine run_to (Γ' := [(6, ptrTo R_api_ID p_id), (10, i64.slot (ishl (1 : Int) p_height)), (11, val (.pointer (some ⟨b1, 0, none⟩)))]) (H' := [box b1 153 (prod i64 (prod i64 (prod R_api_ID (prod R_api_Hash (exv v1))))) (p_height, p_kind, p_id, p_seed, ()), own 23 R_api_Hash v1 y4]) (.cons (.of_lk rfl) <| .cons (.of_lk rfl) <| .cons (.of_lk rfl) <| .nil) (.cons .here <| .cons .here <| .nil) ?_
      refine rs ?_
      refine rs ?_
      refine rt ?_
      refine jp (pm (ht rfl)) rfl rfl rfl ?_
      refine jp (pj_isub (ht rfl) has_i64) rfl rfl rfl ?_
      obtain ⟨x2, e12, h⟩ := bind_some h
      refine jp (PJ.eqv (pa (ht rfl)) (oi e12)) rfl rfl rfl ?_
      refine j_end ?_
      obtain ⟨⟨y7, y8⟩, e18, h⟩ := bind_some h
      refine run_loopS (Γi := fun (i : Unit) (s : Int × (List T_api_Hash)) => [(6, ptrTo R_api_ID p_id), (11, val (.pointer (some ⟨b1, 0, none⟩))), (15, i64.slot s.1)]) (Hi := fun (i : Unit) (s : Int × (List T_api_Hash)) => [box b1 153 (prod i64 (prod i64 (prod R_api_ID (prod R_api_Hash (exv v1))))) (p_height, p_kind, p_id, p_seed, ()), own 23 R_api_Hash v1 s.2]) e18 () (fun a w hst => (hst.sub (.cons (.of_lk rfl) <| .cons (.of_lk rfl) <| .cons (.of_lk rfl) <| .nil)).keep (.cons .here <| .cons .here <| .nil)) ?_ ?_
      · clear h e18
        rintro _ ⟨y5, y6⟩ lr h
        change lms_New_L2 p_id y5 y6 = some _ at h
        show Run _ _ _ [(6, ptrTo R_api_ID p_id), (11, val (.pointer (some ⟨b1, 0, none⟩))), (15, i64.slot y5)] [box b1 153 (prod i64 (prod i64 (prod R_api_ID (prod R_api_Hash (exv v1))))) (p_height, p_kind, p_id, p_seed, ()), own 23 R_api_Hash v1 y6]
        unfold lms_New_L2 at h
        refine rs ?_
        refine rs ?_
        refine rt ?_
        refine jp (pm (ht rfl)) rfl rfl rfl ?_
        refine jp (pj_igtr (ht rfl) has_i64) rfl rfl rfl ?_
        refine j_end ?_
        refine run_cond (ht rfl) (fun e13 => ?_) (fun e13 => ?_)
        · replace h := bt e13 h
          refine run_skip ?_
          refine rs ?_
          refine run_block ?_
          obtain ⟨x3, e14, h⟩ := bind_some h
          obtain ⟨x4, e15, h⟩ := bind_some h
          obtain ⟨r4, e16, h⟩ := bind_some h
          refine run_draw (n := 25) (by kernel_rfl) (by kernel_rfl) (by kernel_rfl) (by kernel_rfl) (.read (.plain rfl (pm (ht rfl))) <| .read (.plain rfl (pj_nilCheck_ptr (ht rfl))) <| .read (.plain rfl (pj_field_ptr (off := 50) (ht rfl) (by kernel_rfl))) <| .read (.plain rfl (pj_load_box (ht rfl) .here (Path.then (Path.all (prod i64 (prod i64 (prod R_api_ID (prod R_api_Hash (exv v1)))))) (Path.then (Path.snd i64 (prod i64 (prod R_api_ID (prod R_api_Hash (exv v1))))) (Path.then (Path.snd i64 (prod R_api_ID (prod R_api_Hash (exv v1)))) (Path.then (Path.snd R_api_ID (prod R_api_Hash (exv v1))) (Path.snd R_api_Hash (exv v1)))))) (by kernel_rfl))) <| .read (.plain rfl (pm (ht rfl))) <| .read (.plain rfl (pl (ht rfl) (by kernel_rfl))) <| .read (.plain rfl (pm (ht rfl))) <| .read (.plain rfl (pm (ht rfl))) <| .read (.plain rfl (pj_nilCheck_ptr (ht rfl))) <| .read (.plain rfl (pj_field_ptr (off := 50) (ht rfl) (by kernel_rfl))) <| .read (.plain rfl (pj_load_box (ht rfl) .here (Path.then (Path.all (prod i64 (prod i64 (prod R_api_ID (prod R_api_Hash (exv v1)))))) (Path.then (Path.snd i64 (prod i64 (prod R_api_ID (prod R_api_Hash (exv v1))))) (Path.then (Path.snd i64 (prod R_api_ID (prod R_api_Hash (exv v1)))) (Path.then (Path.snd R_api_ID (prod R_api_Hash (exv v1))) (Path.snd R_api_Hash (exv v1)))))) (by kernel_rfl))) <| .read (.plain rfl (pm (ht rfl))) <| .read (.plain rfl (pj_imul has_i64 (ht rfl))) <| .read (.plain rfl (pj_index_own (ht rfl) (.next .here) (ht rfl) isInt_i64 (lget_some e14).1 (lget_some e14).2.1 (by kernel_rfl))) <| .read (.plain rfl (PJ.eqv (pj_load_own0 R_api_Hash ((w64 ((2 : Int) * y5)).toNat) (ht rfl) (.next .here) (lget_some e14).2.1 (by kernel_rfl)) (lget_eq e14 (lget_some e14).2.1))) <| .read (.plain rfl (pm (ht rfl))) <| .read (.plain rfl (pj_nilCheck_ptr (ht rfl))) <| .read (.plain rfl (pj_field_ptr (off := 50) (ht rfl) (by kernel_rfl))) <| .read (.plain rfl (pj_load_box (ht rfl) .here (Path.then (Path.all (prod i64 (prod i64 (prod R_api_ID (prod R_api_Hash (exv v1)))))) (Path.then (Path.snd i64 (prod i64 (prod R_api_ID (prod R_api_Hash (exv v1))))) (Path.then (Path.snd i64 (prod R_api_ID (prod R_api_Hash (exv v1)))) (Path.then (Path.snd R_api_ID (prod R_api_Hash (exv v1))) (Path.snd R_api_Hash (exv v1)))))) (by kernel_rfl))) <| .read (.plain rfl (pm (ht rfl))) <| .read (.plain rfl (pj_imul has_i64 (ht rfl))) <| .read (.plain rfl (pj_iadd (ht rfl) has_i64)) <| .read (.plain rfl (pj_index_own (ht rfl) (.next .here) (ht rfl) isInt_i64 (lget_some e15).1 (lget_some e15).2.1 (by kernel_rfl))) <| .read (.plain rfl (PJ.eqv (pj_load_own0 R_api_Hash ((w64 ((w64 ((2 : Int) * y5)) + (1 : Int))).toNat) (ht rfl) (.next .here) (lget_some e15).2.1 (by kernel_rfl)) (lget_eq e15 (lget_some e15).2.1))) <| .read (.plain rfl (pj_call (hc (ht rfl) <| hc (ht rfl) <| hc (ht rfl) <| hc (ht rfl) <| hasL_nil) (by kernel_rfl) (c_lms_inner hg1 hg2 e16))) <| .nil) (j_to (Γ' := [(6, ptrTo R_api_ID p_id), (11, val (.pointer (some ⟨b1, 0, none⟩))), (15, i64.slot y5), (71, ov v1), (72, i64.slot y5), (92, R_api_Hash.slot r4)]) (H' := [box b1 153 (prod i64 (prod i64 (prod R_api_ID (prod R_api_Hash (exv v1))))) (p_height, p_kind, p_id, p_seed, ()), own 23 R_api_Hash v1 y6]) (.cons (.of_lk rfl) <| .cons (.of_lk rfl) <| .cons (.of_lk rfl) <| .cons (.of_lk rfl) <| .cons (.of_lk rfl) <| .cons (.of_lk rfl) <| .nil) (.cons .here <| .cons .here <| .nil) ?_)
          obtain ⟨e17, h⟩ := grd_some h
          refine jp (pj_index_own (ht rfl) (.next .here) (ht rfl) isInt_i64 e17.1 (lt_nat e17) (by kernel_rfl)) rfl rfl rfl ?_
          refine j_store_own0 R_api_Hash (y5.toNat) (ht rfl) (ht rfl) (.next .here) (lt_nat e17) (by kernel_rfl) ?_
          refine j_end ?_
          refine run_endblock ?_
          refine rt ?_
          refine jp (pm (ht rfl)) rfl rfl rfl ?_
          refine jp (pj_isub (ht rfl) has_i64) rfl rfl rfl ?_
          refine jp (pa (ht rfl)) rfl rfl rfl ?_
          refine j_end ?_
          obtain rfl := oi h
          exact run_next () (.cons (.of_lk rfl) <| .cons (.of_lk rfl) <| .cons (.of_lk rfl) <| .nil) (.cons (.next .here) <| .cons .here <| .nil)
        · replace h := bf e13 h
          obtain rfl := oi h
          exact run_brk () (.cons (.of_lk rfl) <| .cons (.of_lk rfl) <| .cons (.of_lk rfl) <| .nil) (.cons .here <| .cons .here <| .nil)
      · rintro _
        show Run _ _ _ [(6, ptrTo R_api_ID p_id), (11, val (.pointer (some ⟨b1, 0, none⟩))), (15, i64.slot y7)] [box b1 153 (prod i64 (prod i64 (prod R_api_ID (prod R_api_Hash (exv v1))))) (p_height, p_kind, p_id, p_seed, ()), own 23 R_api_Hash v1 y8]
        refine run_to (Γ' := [(11, val (.pointer (some ⟨b1, 0, none⟩)))]) (H' := [box b1 153 (prod i64 (prod i64 (prod R_api_ID (prod R_api_Hash (exv v1))))) (p_height, p_kind, p_id, p_seed, ()), own 23 R_api_Hash v1 y8]) (.cons (.of_lk rfl) <| .nil) (.cons .here <| .cons .here <| .nil) ?_
        refine rs ?_
        refine rt ?_
        refine jp (pm (ht rfl)) rfl rfl rfl ?_
        refine jp (pa (ht rfl)) rfl rfl rfl ?_
        refine jp (pa has_i64) rfl rfl rfl ?_
        refine j_end ?_
        refine run_freezeIn (p_height, p_kind, p_id, p_seed, y8) (.next .here) .here (cv_snd i64 p_height (cv_snd i64 p_kind (cv_snd R_api_ID p_id (cv_snd R_api_Hash p_seed cv_at)))) ?_
        refine run_freezeBox [8, 11, 94] .here (frz_cons (.of_lk rfl) <| frz_cons (.of_lk rfl) <| frz_cons (.of_lk rfl) <| frz_nil) ?_
        obtain rfl := oi h
        exact run_ret fun a w hst => q_retN hst rfl (.cons (.tmp rfl) <| .cons (.tmp rfl) <| .nil) rfl () (fun _ _ h => h) (.nil)
    · intro x a w ho hR
      subst ho
      exact hq1 a w (hR (oi h))
set_option maxRecDepth 100000 in
set_option maxHeartbeats 4000000 in
theorem c_hss_New {G : GP} (hg0 : HG0 G) (hg1 : HG1 G) (hg2 : HG2 G) {p_top : Int} {p_bottom : Int} {p_kind : Int} {p_seed : T_api_Hash} {r : (Option (Int × Int × T_api_Hash × (Option T_lms_Tree) × (Option T_lms_Tree) × Int)) × Int} (h : hss_New p_top p_bottom p_kind p_seed = some r) : Ctr Tryz.prog G 8 [i64.slot p_top, i64.slot p_bottom, i64.slot p_kind, R_api_Hash.slot p_seed] [] (fun (u0 : Nat) => tup [optP u0 r.1, i64.slot r.2]) (fun (u0 : Nat) => optB u0 102 (prod i64 (prod i64 (prod R_api_Hash (prod (ptr R_lms_Tree) (prod (ptr R_lms_Tree) i64))))) r.1) := by
  unfold hss_New at h
  refine ctr_of_run Tryz.func8 rfl 40 rfl rfl fun m0 w0 b0 => ?_
  show Run _ _ _ [(0, i64.slot p_top), (1, i64.slot p_bottom), (2, i64.slot p_kind), (3, R_api_Hash.slot p_seed)] _
  refine rs ?_
  refine rt ?_
  refine jp (pj_box_to (ht rfl)) rfl rfl rfl ?_
  refine jp (pa has_nilP) rfl rfl rfl ?_
  refine jp (pa has_i64) rfl rfl rfl ?_
  refine j_end ?_
  refine rs ?_
  refine rs ?_
  refine rt ?_
  refine jp (pm (ht rfl)) rfl rfl rfl ?_
  refine jp (pm (ht rfl)) rfl rfl rfl ?_
  obtain ⟨r1, e1, h⟩ := bind_some h
  refine jp (pj_call (hc (ht rfl) <| hc (ht rfl) <| hasL_nil) (by kernel_rfl) (c_lms_Size hg0 e1)) rfl rfl rfl ?_
  refine jp (pj_ieql (ht rfl) has_i64) rfl rfl rfl ?_
  refine j_end ?_
  refine run_cond (ht rfl) (fun e2 => ?_) (fun e2 => ?_)
  · replace h := bt e2 h
    refine rs ?_
    refine rt ?_
    refine jp (pa has_nilP) rfl rfl rfl ?_
    refine jp (pa has_i64) rfl rfl rfl ?_
    refine j_end ?_
    obtain rfl := oi h
    exact run_ret fun a w hst => q_retN hst rfl (.cons (.tmp rfl) <| .cons (.tmp rfl) <| .nil) rfl 0 (fun _ _ h => h) (.nil)
  · replace h := bf e2 h
    refine run_skip ?_
    refine rs ?_
    refine rt ?_
    refine jp (pl (ht rfl) (by kernel_rfl)) rfl rfl rfl ?_
    obtain ⟨r2, e3, h⟩ := bind_some h
    refine jp (pj_call (hc (ht rfl) <| hc (has_nil (R := u8)) <| hasL_nil) (by kernel_rfl) (c_hss_child hg1 hg2 e3)) rfl rfl rfl ?_
    refine jp (pm (ht rfl)) rfl rfl rfl ?_
    refine jp (pj_extract (ht rfl) rfl) rfl rfl rfl ?_
    refine jp (pj_extract (ht rfl) rfl) rfl rfl rfl ?_
    refine j_alloc (x := (Vector.replicate 16 (0#8))) (R := R_api_ID) (zero_vec 16 zero_un) (by kernel_rfl) rfl fun b1 => ?_
    refine j_alloc (x := (Vector.replicate 32 (0#8))) (R := R_api_Hash) (zero_vec 32 zero_un) (by kernel_rfl) rfl fun b2 => ?_
    refine j_store_boxx (r' := r2.1) (ht rfl) (ht rfl) (.next .here) (Path.all R_api_ID) (by kernel_rfl) rfl ?_
    refine j_freezeTo (t := 10) .here (.of_lk rfl) ?_
    refine j_store_boxx (r' := r2.2) (ht rfl) (ht rfl) .here (Path.all R_api_Hash) (by kernel_rfl) rfl ?_
    refine j_freezeTo (t := 11) .here (.of_lk rfl) ?_
    refine j_end ?_
    refine rs ?_
    refine rt ?_
    refine jp (pm (ht rfl)) rfl rfl rfl ?_
    refine jp (pm (ht rfl)) rfl rfl rfl ?_
    refine jp (pl (ht rfl) (by kernel_rfl)) rfl rfl rfl ?_
    refine jp (pl (ht rfl) (by kernel_rfl)) rfl rfl rfl ?_
    obtain ⟨r3, e4, h⟩ := bind_some h
    refine jp (pj_call (hc (ht rfl) <| hc (ht rfl) <| hc (ht rfl) <| hc (ht rfl) <| hasL_nil) (by kernel_rfl) (c_lms_New hg0 hg1 hg2 e4)) rfl rfl rfl ?_
    refine jp (pm (ht rfl)) rfl rfl rfl ?_
    refine jp (pj_extract (ht rfl) rfl) rfl rfl rfl ?_
    refine jp (pj_extract (ht rfl) rfl) rfl rfl rfl ?_
    refine jp (pa (ht rfl)) rfl rfl rfl ?_
    refine jp (pa (ht rfl)) rfl rfl rfl ?_
    refine j_end ?_
    refine rs ?_
    refine rs ?_
    refine rt ?_
    refine jp (pm (ht rfl)) rfl rfl rfl ?_
    refine jp (pj_ineq (ht rfl) has_i64) rfl rfl rfl ?_
    refine j_end ?_
    refine run_cond (ht rfl) (fun e5 => ?_) (fun e5 => ?_)
    · replace h := bt e5 h
      refine rs ?_
      refine rt ?_
      refine jp (pm (ht rfl)) rfl rfl rfl ?_
      refine jp (pa has_nilP) rfl rfl rfl ?_
      refine jp (pa (ht rfl)) rfl rfl rfl ?_
      refine j_end ?_
      obtain rfl := oi h
      exact run_ret fun a w hst => q_retN hst rfl (.cons (.tmp rfl) <| .cons (.tmp rfl) <| .nil) rfl 0 (fun _ _ h => h) (.nil)
    · replace h := bf e5 h
      refine run_skip ?_
      refine rs ?_
      refine rt ?_
      refine jp (pm (ht rfl)) rfl rfl rfl ?_
      refine jp (pm (ht rfl)) rfl rfl rfl ?_
      refine jp (pl (ht rfl) (by kernel_rfl)) rfl rfl rfl ?_
      refine jp (pm (ht rfl)) rfl rfl rfl ?_
      obtain ⟨x1, e6, h⟩ := bind_some h
      refine jp (PJ.eqv (pj_build (R := R_hss_Signer) (zero_prod zero_i64 (zero_prod zero_i64 (zero_prod (zero_vec 32 zero_un) (zero_prod zero_ptr (zero_prod zero_ptr zero_i64))))) (by kernel_rfl) (by kernel_rfl) rfl (.cons (ht rfl) (Path.fst i64 (prod i64 (prod R_api_Hash (prod (ptr R_lms_Tree) (prod (ptr R_lms_Tree) i64))))) (by kernel_rfl) (.cons (ht rfl) (Path.then (Path.snd i64 (prod i64 (prod R_api_Hash (prod (ptr R_lms_Tree) (prod (ptr R_lms_Tree) i64))))) (Path.fst i64 (prod R_api_Hash (prod (ptr R_lms_Tree) (prod (ptr R_lms_Tree) i64))))) (by kernel_rfl) (.cons (ht rfl) (Path.then (Path.snd i64 (prod i64 (prod R_api_Hash (prod (ptr R_lms_Tree) (prod (ptr R_lms_Tree) i64))))) (Path.then (Path.snd i64 (prod R_api_Hash (prod (ptr R_lms_Tree) (prod (ptr R_lms_Tree) i64)))) (Path.fst R_api_Hash (prod (ptr R_lms_Tree) (prod (ptr R_lms_Tree) i64))))) (by kernel_rfl) (.cons (ht rfl) (Path.then (Path.snd i64 (prod i64 (prod R_api_Hash (prod (ptr R_lms_Tree) (prod (ptr R_lms_Tree) i64))))) (Path.then (Path.snd i64 (prod R_api_Hash (prod (ptr R_lms_Tree) (prod (ptr R_lms_Tree) i64)))) (Path.then (Path.snd R_api_Hash (prod (ptr R_lms_Tree) (prod (ptr R_lms_Tree) i64))) (Path.fst (ptr R_lms_Tree) (prod (ptr R_lms_Tree) i64))))) (by kernel_rfl) (.cons has_i64 (Path.then (Path.snd i64 (prod i64 (prod R_api_Hash (prod (ptr R_lms_Tree) (prod (ptr R_lms_Tree) i64))))) (Path.then (Path.snd i64 (prod R_api_Hash (prod (ptr R_lms_Tree) (prod (ptr R_lms_Tree) i64)))) (Path.then (Path.snd R_api_Hash (prod (ptr R_lms_Tree) (prod (ptr R_lms_Tree) i64))) (Path.then (Path.snd (ptr R_lms_Tree) (prod (ptr R_lms_Tree) i64)) (Path.snd (ptr R_lms_Tree) i64))))) (by kernel_rfl) .nil)))))) (oi e6)) rfl rfl rfl ?_
      refine j_box (ht rfl) rfl fun b3 => ?_
      refine jp (pa (ht rfl)) rfl rfl rfl ?_
      refine jp (pa has_i64) rfl rfl rfl ?_
      refine j_end ?_
      obtain rfl := oi h
      exact run_ret fun a w hst => q_retN hst rfl (.cons (.tmp rfl) <| .cons (.tmp rfl) <| .nil) rfl b3 (fun _ _ h => h) (.cons .here <| .nil)
set_option maxRecDepth 100000 in
set_option maxHeartbeats 4000000 in
theorem c_rolodexlaw27_Signer {G : GP} (hg0 : HG0 G) (hg1 : HG1 G) (hg2 : HG2 G) {r : (Int × Int × T_api_Hash × (Option T_lms_Tree) × (Option T_lms_Tree) × Int)} (h : rolodexlaw27_Signer = some r) : Ctr Tryz.prog G 18 [] [] (fun (u0 : Nat) => val (.pointer (some ⟨u0, 0, none⟩))) (fun (u0 : Nat) => [box u0 102 (prod i64 (prod i64 (prod R_api_Hash (prod (ptr R_lms_Tree) (prod (ptr R_lms_Tree) i64))))) (r.1, r.2.1, r.2.2.1, r.2.2.2.1, r.2.2.2.2.1, r.2.2.2.2.2)]) := by
  unfold rolodexlaw27_Signer at h
  refine ctr_of_run Tryz.func18 rfl 9 rfl rfl fun m0 w0 b0 => ?_
  show Run _ _ _ [] _
  refine rs ?_
  refine rt ?_
  refine jp (pa (has_nilp (R := R_hss_Signer))) rfl rfl rfl ?_
  refine j_end ?_
  refine rs ?_
  refine rt ?_
  obtain ⟨x1, e1, h⟩ := bind_some h
  refine jp (PJ.eqv (pj_build (R := R_api_Hash) (zero_vec 32 zero_un) (by kernel_rfl) (by kernel_rfl) rfl (.cons (has_un (x := 27#8) rfl) (Path.at 32 u8 0 (by decide)) (by kernel_rfl) .nil)) (oi e1)) rfl rfl rfl ?_
  obtain ⟨r1, e2, h⟩ := bind_some h
  obtain ⟨x2, e3, h⟩ := bind_some h
  refine j_call (hc has_i64 <| hc has_i64 <| hc has_i64 <| hc (ht rfl) <| hasL_nil) (by kernel_rfl) (c_hss_New hg0 hg1 hg2 (e2.trans (congrArg some (show r1 = (some x2, r1.2) from Prod.ext e3 rfl)))) .nil rfl fun b1 => ?_
  refine jp (pm (ht rfl)) rfl rfl rfl ?_
  refine jp (pj_extract (ht rfl) rfl) rfl rfl rfl ?_
  refine jp (pj_extract (ht rfl) rfl) rfl rfl rfl ?_
  refine jp (pa (ht rfl)) rfl rfl rfl ?_
  refine jp (pa (ht rfl)) rfl rfl rfl ?_
  refine j_end ?_
  refine rs ?_
  refine rt ?_
  refine jp (pm (ht rfl)) rfl rfl rfl ?_
  refine jp (pa (ht rfl)) rfl rfl rfl ?_
  refine j_end ?_
  obtain rfl := oi h
  exact run_ret fun a w hst => q_ret1 hst rfl (.tmp rfl) b1 (fun _ _ h => h) (.cons .here <| .nil)
set_option maxRecDepth 100000 in
set_option maxHeartbeats 4000000 in
theorem c_gossip_New {G : GP} {p_public : List (BitVec 8)} {r : ((List (BitVec 8)) × (List T_head_Signed) × (List T_gossip_Fork) × (List T_gossip_link))} (h : gossip_New p_public = some r) : Ctr Tryz.prog G 19 [(sl u8).slot p_public] [] (fun (i : Nat × Value × Value × Value) => val (.pointer (some ⟨i.1, 0, none⟩))) (fun (i : Nat × Value × Value × Value) => [box i.1 116 (prod (sl u8) (prod (exv i.2.1) (prod (exv i.2.2.1) (exv i.2.2.2)))) (r.1, (), (), ()), own 33 R_head_Signed i.2.1 r.2.1, own 123 R_gossip_Fork i.2.2.1 r.2.2.1, own 130 R_gossip_link i.2.2.2 r.2.2.2]) := by
  unfold gossip_New at h
  refine ctr_of_run Tryz.func19 rfl 7 rfl rfl fun m0 w0 b0 => ?_
  show Run _ _ _ [(0, (sl u8).slot p_public)] _
  refine rs ?_
  refine rt ?_
  refine jp (pa (has_nilp (R := R_gossip_Pool))) rfl rfl rfl ?_
  refine j_end ?_
  refine rs ?_
  refine rt ?_
  refine jp (pm (ht rfl)) rfl rfl rfl ?_
  obtain ⟨r1, e1, h⟩ := bind_some h
  refine jp (pj_call (hc (ht rfl) <| hasL_nil) (by kernel_rfl) (Ctr.froze (c_slices_Clone_byte_byte e1))) rfl rfl rfl ?_
  refine j_own_nil 130 R_gossip_link none (j_own_nil 123 R_gossip_Fork none (j_own_nil 33 R_head_Signed none (jp (pj_buildX (R := (prod (sl u8) (prod (exv (.slice none 0 0)) (prod (exv ((.slice none 0 0))) (exv (((.slice none 0 0)))))))) (x := (([] : List (BitVec 8)), (), (), ())) (zero_prod zero_sl (zero_prod zero_exv (zero_prod zero_exv zero_exv))) (by kernel_rfl) (by kernel_rfl) rfl (.cons (ht rfl) (sx_pathx (x1 := (r1, (), (), ())) (Path.fst (sl u8) (prod (exv (.slice none 0 0)) (prod (exv ((.slice none 0 0))) (exv (((.slice none 0 0))))))) rfl) (by kernel_rfl) .nil)) rfl rfl rfl ?_)))
  refine j_box (ht rfl) rfl fun b1 => ?_
  refine jp (pa (ht rfl)) rfl rfl rfl ?_
  refine j_end ?_
  obtain rfl := oi h
  exact run_ret fun a w hst => q_ret1 hst rfl (.tmp rfl) (b1, (.slice none 0 0), ((.slice none 0 0)), (((.slice none 0 0)))) (fun _ _ h => h) (.cons .here <| .cons .here <| .cons .here <| .cons .here <| .nil)
set_option maxRecDepth 100000 in
set_option maxHeartbeats 4000000 in
theorem c_head_Head_is {G : GP} {p_h : T_head_Head} {r : Bool} (h : head_Head_is p_h = some r) : Ctr Tryz.prog G 83 [R_head_Head.slot p_h] [] (fun (_ : Unit) => bl.slot r) (fun (_ : Unit) => []) := by
  unfold head_Head_is at h
  refine ctr_of_run Tryz.func83 rfl 21 rfl rfl fun m0 w0 b0 => ?_
  show Run _ _ _ [(0, R_head_Head.slot p_h)] _
  refine rs ?_
  refine rt ?_
  refine jp (pj_box_to (ht rfl)) rfl rfl rfl ?_
  refine jp (pa has_bl) rfl rfl rfl ?_
  refine j_end ?_
  refine rs ?_
  refine rt ?_
  refine jp (pj_field_to (ht rfl) (Path.fst i64 (prod i64 (prod R_api_Hash R_api_Hash))) (by kernel_rfl)) rfl rfl rfl ?_
  refine jp (pl (ht rfl) (by kernel_rfl)) rfl rfl rfl ?_
  refine jp (pj_igeq (ht rfl) has_i64) rfl rfl rfl ?_
  refine jp (pm (ht rfl)) rfl rfl rfl ?_
  obtain ⟨y1, e2, h⟩ := bind_some h
  refine j_joinx (ι := Unit) (Γ' := fun _ => [(1, ptrTo R_head_Head p_h), (10, bl.slot y1)]) (H' := fun _ => []) 4 ?_ fun J => ?_
  · intro _
    clear e2
    show OpsJ _ _ _ [(1, ptrTo R_head_Head p_h), (10, bl.slot y1)] [] _
    refine jp (pm (ht rfl)) rfl rfl rfl ?_
    obtain ⟨y2, e4, h⟩ := bind_some h
    refine j_joinx (ι := Unit) (Γ' := fun _ => [(1, ptrTo R_head_Head p_h), (15, bl.slot y2)]) (H' := fun _ => []) 4 ?_ fun J => ?_
    · intro _
      clear e4
      show OpsJ _ _ _ [(1, ptrTo R_head_Head p_h), (15, bl.slot y2)] [] _
      refine jp (pm (ht rfl)) rfl rfl rfl ?_
      obtain ⟨y3, e6, h⟩ := bind_some h
      refine j_joinx (ι := Unit) (Γ' := fun _ => [(20, bl.slot y3)]) (H' := fun _ => []) 4 ?_ fun J => ?_
      · intro _
        clear e6
        show OpsJ _ _ _ [(20, bl.slot y3)] [] _
        refine jp (pa (ht rfl)) rfl rfl rfl ?_
        refine j_end ?_
        obtain rfl := oi h
        exact run_ret fun a w hst => q_ret1 hst rfl (.tmp rfl) () (fun _ _ h => h) (.nil)
      · rcases bool_tf (y2) with e5 | e5
        · replace e6 := bt e5 e6
          refine jy (pj_field_to (ht rfl) (Path.then (Path.snd i64 (prod i64 (prod R_api_Hash R_api_Hash))) (Path.fst i64 (prod R_api_Hash R_api_Hash))) (by kernel_rfl)) rfl rfl rfl rfl (bl_isx e5) rfl rfl ?_
          refine jy (pl (ht rfl) (by kernel_rfl)) rfl rfl rfl rfl (bl_isx e5) rfl rfl ?_
          refine jy (pj_ilss (ht rfl) has_i64) rfl rfl rfl rfl (bl_isx e5) rfl rfl ?_
          refine jp (PJ.eqv (R := bl) (pj_pick (t := any) (ht rfl) (fun _ => (ht rfl)) (fun he => absurd (e5.symm.trans he) (by decide))) (oi e6)) rfl rfl rfl ?_
          exact j_to (.cons (.of_lk rfl) <| .nil) (.nil) (J ())
        · replace e6 := bf e5 e6
          refine j_guard_no2 (j := 13) (want := true) rfl rfl rfl rfl (bl_isx e5) rfl rfl rfl ?_
          refine j_guard_no2 (j := 13) (want := true) rfl rfl rfl rfl (bl_isx e5) rfl rfl rfl ?_
          refine j_guard_no2 (j := 13) (want := true) rfl rfl rfl rfl (bl_isx e5) rfl rfl rfl ?_
          refine jp (PJ.eqv (R := bl) (pj_pick (t := any) (ht rfl) (fun he => absurd (e5.symm.trans he) (by decide)) (fun _ => has_bl)) (oi e6)) rfl rfl rfl ?_
          exact j_to (.cons (.of_lk rfl) <| .nil) (.nil) (J ())
    · rcases bool_tf (y1) with e3 | e3
      · replace e4 := bt e3 e4
        refine jy (pj_field_to (ht rfl) (Path.then (Path.snd i64 (prod i64 (prod R_api_Hash R_api_Hash))) (Path.fst i64 (prod R_api_Hash R_api_Hash))) (by kernel_rfl)) rfl rfl rfl rfl (bl_isx e3) rfl rfl ?_
        refine jy (pl (ht rfl) (by kernel_rfl)) rfl rfl rfl rfl (bl_isx e3) rfl rfl ?_
        refine jy (pj_igeq (ht rfl) has_i64) rfl rfl rfl rfl (bl_isx e3) rfl rfl ?_
        refine jp (PJ.eqv (R := bl) (pj_pick (t := any) (ht rfl) (fun _ => (ht rfl)) (fun he => absurd (e3.symm.trans he) (by decide))) (oi e4)) rfl rfl rfl ?_
        exact j_to (.cons (.of_lk rfl) <| .cons (.of_lk rfl) <| .nil) (.nil) (J ())
      · replace e4 := bf e3 e4
        refine j_guard_no2 (j := 8) (want := true) rfl rfl rfl rfl (bl_isx e3) rfl rfl rfl ?_
        refine j_guard_no2 (j := 8) (want := true) rfl rfl rfl rfl (bl_isx e3) rfl rfl rfl ?_
        refine j_guard_no2 (j := 8) (want := true) rfl rfl rfl rfl (bl_isx e3) rfl rfl rfl ?_
        refine jp (PJ.eqv (R := bl) (pj_pick (t := any) (ht rfl) (fun he => absurd (e3.symm.trans he) (by decide)) (fun _ => has_bl)) (oi e4)) rfl rfl rfl ?_
        exact j_to (.cons (.of_lk rfl) <| .cons (.of_lk rfl) <| .nil) (.nil) (J ())
  · rcases bool_tf (decide ((1 : Int) ≤ p_h.1)) with e1 | e1
    · replace e2 := bt e1 e2
      refine jy (pj_field_to (ht rfl) (Path.fst i64 (prod i64 (prod R_api_Hash R_api_Hash))) (by kernel_rfl)) rfl rfl rfl rfl (bl_isx e1) rfl rfl ?_
      refine jy (pl (ht rfl) (by kernel_rfl)) rfl rfl rfl rfl (bl_isx e1) rfl rfl ?_
      refine jy (pj_ilss (ht rfl) has_i64) rfl rfl rfl rfl (bl_isx e1) rfl rfl ?_
      refine jp (PJ.eqv (R := bl) (pj_pick (t := any) (ht rfl) (fun _ => (ht rfl)) (fun he => absurd (e1.symm.trans he) (by decide))) (oi e2)) rfl rfl rfl ?_
      exact j_to (.cons (.of_lk rfl) <| .cons (.of_lk rfl) <| .nil) (.nil) (J ())
    · replace e2 := bf e1 e2
      refine j_guard_no2 (j := 3) (want := true) rfl rfl rfl rfl (bl_isx e1) rfl rfl rfl ?_
      refine j_guard_no2 (j := 3) (want := true) rfl rfl rfl rfl (bl_isx e1) rfl rfl rfl ?_
      refine j_guard_no2 (j := 3) (want := true) rfl rfl rfl rfl (bl_isx e1) rfl rfl rfl ?_
      refine jp (PJ.eqv (R := bl) (pj_pick (t := any) (ht rfl) (fun he => absurd (e1.symm.trans he) (by decide)) (fun _ => has_bl)) (oi e2)) rfl rfl rfl ?_
      exact j_to (.cons (.of_lk rfl) <| .cons (.of_lk rfl) <| .nil) (.nil) (J ())
set_option maxRecDepth 100000 in
set_option maxHeartbeats 4000000 in
theorem c_head_Encode {G : GP} {p_h : T_head_Head} {r : (List (BitVec 8)) × Int} (h : head_Encode p_h = some r) : Ctr Tryz.prog G 45 [R_head_Head.slot p_h] [] (fun (u0 : Value) => tup [ov u0, i64.slot r.2]) (fun (u0 : Value) => [own 5 u8 u0 r.1]) := by
  unfold head_Encode at h
  refine ctr_of_run Tryz.func45 rfl 32 rfl rfl fun m0 w0 b0 => ?_
  show Run _ _ _ [(0, R_head_Head.slot p_h)] _
  refine rs ?_
  refine rt ?_
  refine jp (pj_box_to (ht rfl)) rfl rfl rfl ?_
  refine j_assign_nil (T := 5) u8 rfl fun v1 => ?_
  refine jp (pa has_i64) rfl rfl rfl ?_
  refine j_end ?_
  refine rs ?_
  refine rs ?_
  refine rt ?_
  refine jp (pl (ht rfl) (by kernel_rfl)) rfl rfl rfl ?_
  obtain ⟨r1, e1, h⟩ := bind_some h
  refine jp (pj_call (hc (ht rfl) <| hasL_nil) (by kernel_rfl) (c_head_Head_is e1)) rfl rfl rfl ?_
  refine jp (pj_not (ht rfl)) rfl rfl rfl ?_
  refine j_end ?_
  refine run_cond (ht rfl) (fun e2 => ?_) (fun e2 => ?_)
  · replace h := bt e2 h
    refine rs ?_
    refine rt ?_
    refine j_assign_nil (T := 5) u8 rfl fun v2 => ?_
    refine jp (pa has_i64) rfl rfl rfl ?_
    refine j_end ?_
    obtain rfl := oi h
    exact run_ret fun a w hst => q_retN hst rfl (.cons (.tmp rfl) <| .cons (.tmp rfl) <| .nil) rfl v2 (fun _ _ h => h) (.cons .here <| .nil)
  · replace h := bf e2 h
    refine run_skip ?_
    refine rs ?_
    refine rt ?_
    refine jp (pj_build (R := prod (exv (.slice none 0 0)) bl) (zero_prod zero_exv zero_bl) (by kernel_rfl) (by kernel_rfl) rfl .nil) rfl rfl rfl ?_
    refine j_box_w (T1 := 5) u8 (ht rfl) rfl fun b1 v3 => ?_
    refine jp (pa (ht rfl)) rfl rfl rfl ?_
    refine j_end ?_
    refine rs ?_
    refine rt ?_
    refine jp (pm (ht rfl)) rfl rfl rfl ?_
    refine jp (pj_field_to (ht rfl) (Path.fst i64 (prod i64 (prod R_api_Hash R_api_Hash))) (by kernel_rfl)) rfl rfl rfl ?_
    refine jp (pl (ht rfl) (by kernel_rfl)) rfl rfl rfl ?_
    refine jp (pj_conv_un (k := .u32) (b := 32) rfl rfl (by kernel_rfl) (ht rfl) isInt_i64) rfl rfl rfl ?_
    obtain ⟨r2, e3, h⟩ := bind_some h
    refine j_call (hc (ht rfl) <| hc (ht rfl) <| hasL_nil) (by kernel_rfl) (c_wire_Writer_U32 e3) (.cons (.next .here) <| .cons .here <| .nil) rfl fun v4 => ?_
    refine j_end ?_
    refine rs ?_
    refine rt ?_
    refine jp (pm (ht rfl)) rfl rfl rfl ?_
    refine jp (pj_field_to (ht rfl) (Path.then (Path.snd i64 (prod i64 (prod R_api_Hash R_api_Hash))) (Path.fst i64 (prod R_api_Hash R_api_Hash))) (by kernel_rfl)) rfl rfl rfl ?_
    refine jp (pl (ht rfl) (by kernel_rfl)) rfl rfl rfl ?_
    refine jp (pj_conv_un (k := .u32) (b := 32) rfl rfl (by kernel_rfl) (ht rfl) isInt_i64) rfl rfl rfl ?_
    obtain ⟨r3, e4, h⟩ := bind_some h
    refine j_call (hc (ht rfl) <| hc (ht rfl) <| hasL_nil) (by kernel_rfl) (c_wire_Writer_U32 e4) (.cons .here <| .cons .here <| .nil) rfl fun v5 => ?_
    refine j_end ?_
    refine rs ?_
    refine rt ?_
    refine jp (pm (ht rfl)) rfl rfl rfl ?_
    refine jp (pj_field_to (ht rfl) (Path.then (Path.snd i64 (prod i64 (prod R_api_Hash R_api_Hash))) (Path.then (Path.snd i64 (prod R_api_Hash R_api_Hash)) (Path.fst R_api_Hash R_api_Hash))) (by kernel_rfl)) rfl rfl rfl ?_
    refine jp (pj_slice_toF (ht rfl) (by decide) (by kernel_rfl)) rfl rfl rfl ?_
    obtain ⟨r4, e5, h⟩ := bind_some h
    refine j_call (hc (ht rfl) <| hc (ht rfl) <| hasL_nil) (by kernel_rfl) (c_wire_Writer_Plain e5) (.cons .here <| .cons .here <| .nil) rfl fun v6 => ?_
    refine j_end ?_
    refine rs ?_
    refine rt ?_
    refine jp (pm (ht rfl)) rfl rfl rfl ?_
    refine jp (pj_field_to (ht rfl) (Path.then (Path.snd i64 (prod i64 (prod R_api_Hash R_api_Hash))) (Path.then (Path.snd i64 (prod R_api_Hash R_api_Hash)) (Path.snd R_api_Hash R_api_Hash))) (by kernel_rfl)) rfl rfl rfl ?_
    refine jp (pj_slice_toF (ht rfl) (by decide) (by kernel_rfl)) rfl rfl rfl ?_
    obtain ⟨r5, e6, h⟩ := bind_some h
    refine j_call (hc (ht rfl) <| hc (ht rfl) <| hasL_nil) (by kernel_rfl) (c_wire_Writer_Plain e6) (.cons .here <| .cons .here <| .nil) rfl fun v7 => ?_
    refine j_end ?_
    refine rs ?_
    refine rt ?_
    refine jp (pm (ht rfl)) rfl rfl rfl ?_
    obtain ⟨r6, e7, h⟩ := bind_some h
    refine j_call (hc (ht rfl) <| hasL_nil) (by kernel_rfl) (c_wire_Writer_Out e7) (.cons .here <| .cons .here <| .nil) rfl fun ⟨v8, v9⟩ => ?_
    refine jp (pj_extract (ht rfl) rfl) rfl rfl rfl ?_
    refine jp (pj_extract (ht rfl) rfl) rfl rfl rfl ?_
    refine jp (pa (ht rfl)) rfl rfl rfl ?_
    refine jp (pa (ht rfl)) rfl rfl rfl ?_
    refine j_end ?_
    obtain rfl := oi h
    exact run_ret fun a w hst => q_retN hst rfl (.cons (.tmp rfl) <| .cons (.tmp rfl) <| .nil) rfl v9 (fun _ _ h => h) (.cons (.next (.next .here)) <| .nil)
set_option maxRecDepth 100000 in
set_option maxHeartbeats 4000000 in
theorem c_wire_New {G : GP} {p_b : List (BitVec 8)} {r : ((List (BitVec 8)) × Bool)} (h : wire_New p_b = some r) : Ctr Tryz.prog G 94 [(sl u8).slot p_b] [] (fun (u0 : Nat) => val (.pointer (some ⟨u0, 0, none⟩))) (fun (u0 : Nat) => [box u0 208 (prod (sl u8) bl) (r.1, r.2)]) := by
  unfold wire_New at h
  refine ctr_of_run Tryz.func94 rfl 7 rfl rfl fun m0 w0 b0 => ?_
  show Run _ _ _ [(0, (sl u8).slot p_b)] _
  refine rs ?_
  refine rt ?_
  refine jp (pa (has_nilp (R := R_wire_Reader))) rfl rfl rfl ?_
  refine j_end ?_
  refine rs ?_
  refine rt ?_
  refine jp (pm (ht rfl)) rfl rfl rfl ?_
  obtain ⟨r1, e1, h⟩ := bind_some h
  refine jp (pj_call (hc (ht rfl) <| hasL_nil) (by kernel_rfl) (Ctr.froze (c_slices_Clone_byte_byte e1))) rfl rfl rfl ?_
  obtain ⟨x1, e2, h⟩ := bind_some h
  refine jp (PJ.eqv (pj_build (R := R_wire_Reader) (zero_prod zero_sl zero_bl) (by kernel_rfl) (by kernel_rfl) rfl (.cons (ht rfl) (Path.fst (sl u8) bl) (by kernel_rfl) .nil)) (oi e2)) rfl rfl rfl ?_
  refine j_box (ht rfl) rfl fun b1 => ?_
  refine jp (pa (ht rfl)) rfl rfl rfl ?_
  refine j_end ?_
  obtain rfl := oi h
  exact run_ret fun a w hst => q_ret1 hst rfl (.tmp rfl) b1 (fun _ _ h => h) (.cons .here <| .nil)
set_option maxRecDepth 100000 in
set_option maxHeartbeats 4000000 in
theorem c_wire_Reader_takes {G : GP} {p_r : (List (BitVec 8)) × Bool} {p_n : Int} {b_r : Nat} {r : ((List (BitVec 8)) × Bool) × (List (BitVec 8))} (h : wire_Reader_takes p_r p_n = some r) : Ctr Tryz.prog G 142 [val (.pointer (some ⟨b_r, 0, none⟩)), i64.slot p_n] [box b_r 208 (prod (sl u8) bl) (p_r.1, p_r.2)] (fun (_ : Unit) => (sl u8).slot r.2) (fun (_ : Unit) => [box b_r 208 (prod (sl u8) bl) (r.1.1, r.1.2)]) := by
  unfold wire_Reader_takes at h
  refine ctr_of_run Tryz.func142 rfl 45 rfl rfl fun m0 w0 b0 => ?_
  show Run _ _ _ [(0, val (.pointer (some ⟨b_r, 0, none⟩))), (1, i64.slot p_n)] _
  refine rs ?_
  refine rt ?_
  refine jp (pa (has_nil (R := u8))) rfl rfl rfl ?_
  refine j_end ?_
  refine rs ?_
  refine rs ?_
  refine rt ?_
  refine jp (pm (ht rfl)) rfl rfl rfl ?_
  refine jp (pj_eq_nil_val (E := 208) (by kernel_rfl) (ht rfl)) rfl rfl rfl ?_
  refine jp (pm (ht rfl)) rfl rfl rfl ?_
  obtain ⟨y1, e2, h⟩ := bind_some h
  refine j_joinx (ι := Unit) (Γ' := fun _ => [(0, val (.pointer (some ⟨b_r, 0, none⟩))), (1, i64.slot p_n), (13, bl.slot y1)]) (H' := fun _ => [box b_r 208 (prod (sl u8) bl) (p_r.1, p_r.2)]) 5 ?_ fun J => ?_
  · intro _
    clear e2
    show OpsJ _ _ _ [(0, val (.pointer (some ⟨b_r, 0, none⟩))), (1, i64.slot p_n), (13, bl.slot y1)] [box b_r 208 (prod (sl u8) bl) (p_r.1, p_r.2)] _
    refine j_end ?_
    refine run_cond (ht rfl) (fun e3 => ?_) (fun e3 => ?_)
    · replace h := bt e3 h
      refine rs ?_
      refine rt ?_
      refine jp (pa (has_nil (R := u8))) rfl rfl rfl ?_
      refine j_end ?_
      obtain rfl := oi h
      exact run_ret fun a w hst => q_ret1 hst rfl (.tmp rfl) () (fun _ _ h => h) (.cons .here <| .nil)
    · replace h := bf e3 h
      refine run_skip ?_
      refine rs ?_
      refine rs ?_
      refine rt ?_
      refine jp (pm (ht rfl)) rfl rfl rfl ?_
      refine jp (pj_ilss (ht rfl) has_i64) rfl rfl rfl ?_
      refine jp (pm (ht rfl)) rfl rfl rfl ?_
      obtain ⟨y2, e5, h⟩ := bind_some h
      refine j_joinx (ι := Unit) (Γ' := fun _ => [(0, val (.pointer (some ⟨b_r, 0, none⟩))), (1, i64.slot p_n), (24, bl.slot y2)]) (H' := fun _ => [box b_r 208 (prod (sl u8) bl) (p_r.1, p_r.2)]) 8 ?_ fun J => ?_
      · intro _
        clear e5
        show OpsJ _ _ _ [(0, val (.pointer (some ⟨b_r, 0, none⟩))), (1, i64.slot p_n), (24, bl.slot y2)] [box b_r 208 (prod (sl u8) bl) (p_r.1, p_r.2)] _
        refine j_end ?_
        refine run_cond (ht rfl) (fun e6 => ?_) (fun e6 => ?_)
        · replace h := bt e6 h
          refine rs ?_
          refine rt ?_
          refine jp (pm (ht rfl)) rfl rfl rfl ?_
          refine jp (pj_nilCheck_ptr (ht rfl)) rfl rfl rfl ?_
          refine jp (pj_field_ptr (off := 1) (ht rfl) (by kernel_rfl)) rfl rfl rfl ?_
          refine j_store_boxx (r' := (p_r.1, true)) (ht rfl) has_bl .here (Path.then (Path.all (prod (sl u8) bl)) (Path.snd (sl u8) bl)) (by kernel_rfl) rfl ?_
          refine j_end ?_
          refine rs ?_
          refine rt ?_
          refine jp (pa (has_nil (R := u8))) rfl rfl rfl ?_
          refine j_end ?_
          obtain rfl := oi h
          exact run_ret fun a w hst => q_ret1 hst rfl (.tmp rfl) () (fun _ _ h => h) (.cons .here <| .nil)
        · replace h := bf e6 h
          refine run_skip ?_
          refine rs ?_
          refine rt ?_
          refine jp (pm (ht rfl)) rfl rfl rfl ?_
          refine jp (pj_nilCheck_ptr (ht rfl)) rfl rfl rfl ?_
          refine jp (pj_field_ptr (off := 0) (ht rfl) (by kernel_rfl)) rfl rfl rfl ?_
          refine jp (pj_load_box (ht rfl) .here (Path.then (Path.all (prod (sl u8) bl)) (Path.fst (sl u8) bl)) (by kernel_rfl)) rfl rfl rfl ?_
          refine jp (pm (ht rfl)) rfl rfl rfl ?_
          refine jp (pm (ht rfl)) rfl rfl rfl ?_
          obtain ⟨x1, e7, h⟩ := bind_some h
          refine jp (pj_slice3 (ht rfl) (ht rfl) (ht rfl) e7 (by kernel_rfl)) rfl rfl rfl ?_
          refine jp (pa (ht rfl)) rfl rfl rfl ?_
          refine j_end ?_
          refine rs ?_
          refine rt ?_
          refine jp (pm (ht rfl)) rfl rfl rfl ?_
          refine jp (pm (ht rfl)) rfl rfl rfl ?_
          refine jp (pj_nilCheck_ptr (ht rfl)) rfl rfl rfl ?_
          refine jp (pj_field_ptr (off := 0) (ht rfl) (by kernel_rfl)) rfl rfl rfl ?_
          refine jp (pj_load_box (ht rfl) .here (Path.then (Path.all (prod (sl u8) bl)) (Path.fst (sl u8) bl)) (by kernel_rfl)) rfl rfl rfl ?_
          refine jp (pm (ht rfl)) rfl rfl rfl ?_
          obtain ⟨x2, e8, h⟩ := bind_some h
          refine jp (pj_slice_slx (ht rfl) (.yes (ht rfl) isInt_i64) .no e8 (by kernel_rfl)) rfl rfl rfl ?_
          refine jp (pj_nilCheck_ptr (ht rfl)) rfl rfl rfl ?_
          refine jp (pj_field_ptr (off := 0) (ht rfl) (by kernel_rfl)) rfl rfl rfl ?_
          refine j_store_boxx (r' := (x2, p_r.2)) (ht rfl) (ht rfl) .here (Path.then (Path.all (prod (sl u8) bl)) (Path.fst (sl u8) bl)) (by kernel_rfl) rfl ?_
          refine j_end ?_
          refine rs ?_
          refine rt ?_
          refine jp (pm (ht rfl)) rfl rfl rfl ?_
          refine jp (pa (ht rfl)) rfl rfl rfl ?_
          refine j_end ?_
          obtain rfl := oi h
          exact run_ret fun a w hst => q_ret1 hst rfl (.tmp rfl) () (fun _ _ h => h) (.cons .here <| .nil)
      · rcases bool_tf (decide (p_n < (0 : Int))) with e4 | e4
        · replace e5 := bt e4 e5
          refine j_guard_no2 (j := 2) (want := false) rfl rfl rfl rfl (bl_isx e4) rfl rfl rfl ?_
          refine j_guard_no2 (j := 2) (want := false) rfl rfl rfl rfl (bl_isx e4) rfl rfl rfl ?_
          refine j_guard_no2 (j := 2) (want := false) rfl rfl rfl rfl (bl_isx e4) rfl rfl rfl ?_
          refine j_guard_no2 (j := 2) (want := false) rfl rfl rfl rfl (bl_isx e4) rfl rfl rfl ?_
          refine j_guard_no2 (j := 2) (want := false) rfl rfl rfl rfl (bl_isx e4) rfl rfl rfl ?_
          refine j_guard_no2 (j := 2) (want := false) rfl rfl rfl rfl (bl_isx e4) rfl rfl rfl ?_
          refine j_guard_no2 (j := 2) (want := false) rfl rfl rfl rfl (bl_isx e4) rfl rfl rfl ?_
          refine jp (PJ.eqv (R := bl) (pj_pick (t := any) (ht rfl) (fun _ => has_bl) (fun he => absurd (e4.symm.trans he) (by decide))) (oi e5)) rfl rfl rfl ?_
          exact j_to (.cons (.of_lk rfl) <| .cons (.of_lk rfl) <| .cons (.of_lk rfl) <| .nil) (.cons .here <| .nil) (J ())
        · replace e5 := bf e4 e5
          refine jy (pm (ht rfl)) rfl rfl rfl rfl (bl_isx e4) rfl rfl ?_
          refine jy (pm (ht rfl)) rfl rfl rfl rfl (bl_isx e4) rfl rfl ?_
          refine jy (pj_nilCheck_ptr (ht rfl)) rfl rfl rfl rfl (bl_isx e4) rfl rfl ?_
          refine jy (pj_field_ptr (off := 0) (ht rfl) (by kernel_rfl)) rfl rfl rfl rfl (bl_isx e4) rfl rfl ?_
          refine jy (pj_load_box (ht rfl) .here (Path.then (Path.all (prod (sl u8) bl)) (Path.fst (sl u8) bl)) (by kernel_rfl)) rfl rfl rfl rfl (bl_isx e4) rfl rfl ?_
          refine jy (pj_len_sl (sz := 1) (ht rfl) (by kernel_rfl)) rfl rfl rfl rfl (bl_isx e4) rfl rfl ?_
          refine jy (pj_igtr (ht rfl) (ht rfl)) rfl rfl rfl rfl (bl_isx e4) rfl rfl ?_
          refine jp (PJ.eqv (R := bl) (pj_pick (t := any) (ht rfl) (fun he => absurd (e4.symm.trans he) (by decide)) (fun _ => (ht rfl))) (oi e5)) rfl rfl rfl ?_
          exact j_to (.cons (.of_lk rfl) <| .cons (.of_lk rfl) <| .cons (.of_lk rfl) <| .nil) (.cons .here <| .nil) (J ())
  · have e1 : (false) = false := rfl
    refine jy (pm (ht rfl)) rfl rfl rfl rfl (bl_isx e1) rfl rfl ?_
    refine jy (pj_nilCheck_ptr (ht rfl)) rfl rfl rfl rfl (bl_isx e1) rfl rfl ?_
    refine jy (pj_field_ptr (off := 1) (ht rfl) (by kernel_rfl)) rfl rfl rfl rfl (bl_isx e1) rfl rfl ?_
    refine jy (pj_load_box (ht rfl) .here (Path.then (Path.all (prod (sl u8) bl)) (Path.snd (sl u8) bl)) (by kernel_rfl)) rfl rfl rfl rfl (bl_isx e1) rfl rfl ?_
    refine jp (PJ.eqv (R := bl) (pj_pick (t := any) (ht rfl) (fun he => absurd (e1.symm.trans he) (by decide)) (fun _ => (ht rfl))) (oi e2)) rfl rfl rfl ?_
    exact j_to (.cons (.of_lk rfl) <| .cons (.of_lk rfl) <| .cons (.of_lk rfl) <| .nil) (.cons .here <| .nil) (J ())
set_option maxRecDepth 100000 in
set_option maxHeartbeats 4000000 in
theorem c_wire_Reader_peek {G : GP} {p_r : (List (BitVec 8)) × Bool} {p_bytes : Int} {b_r : Nat} {c_r : List Value} {r : (BitVec 64) × Bool} (h : wire_Reader_peek p_r p_bytes = some r) : Ctr Tryz.prog G 169 [val (.pointer (some ⟨b_r, 0, none⟩)), i64.slot p_bytes] [box b_r 208 (exr (prod (sl u8) bl) c_r) (p_r.1, p_r.2)] (fun (_ : Unit) => tup [u64.slot r.1, bl.slot r.2]) (fun (_ : Unit) => [box b_r 208 (exr (prod (sl u8) bl) c_r) (p_r.1, p_r.2)]) := by
  unfold wire_Reader_peek at h
  refine ctr_of_run Tryz.func169 rfl 44 rfl rfl fun m0 w0 b0 => ?_
  show Run _ _ _ [(0, val (.pointer (some ⟨b_r, 0, none⟩))), (1, i64.slot p_bytes)] _
  refine rs ?_
  refine rt ?_
  refine jp (PJ.xw (.ex .refl) (pa (has_un (x := 0#64) rfl))) rfl rfl rfl ?_
  refine jp (PJ.xw (.ex .refl) (pa has_bl)) rfl rfl rfl ?_
  refine j_end ?_
  refine rs ?_
  refine rs ?_
  refine rt ?_
  refine jp (PJ.xw (.ex .refl) (pm (ht rfl))) rfl rfl rfl ?_
  refine jp (PJ.xw (.ex .refl) (pj_eq_nil_val (E := 208) (by kernel_rfl) (ht rfl))) rfl rfl rfl ?_
  refine jp (PJ.xw (.ex .refl) (pm (ht rfl))) rfl rfl rfl ?_
  obtain ⟨y1, e2, h⟩ := bind_some h
  refine j_joinx (ι := Unit) (Γ' := fun _ => [(0, val (.pointer (some ⟨b_r, 0, none⟩))), (1, i64.slot p_bytes), (16, bl.slot y1)]) (H' := fun _ => [box b_r 208 (exr (prod (sl u8) bl) c_r) (p_r.1, p_r.2)]) 5 ?_ fun J => ?_
  · intro _
    clear e2
    show OpsJ _ _ _ [(0, val (.pointer (some ⟨b_r, 0, none⟩))), (1, i64.slot p_bytes), (16, bl.slot y1)] [box b_r 208 (exr (prod (sl u8) bl) c_r) (p_r.1, p_r.2)] _
    refine jp (PJ.xw (.ex .refl) (pm (ht rfl))) rfl rfl rfl ?_
    obtain ⟨y2, e4, h⟩ := bind_some h
    refine j_joinx (ι := Unit) (Γ' := fun _ => [(0, val (.pointer (some ⟨b_r, 0, none⟩))), (1, i64.slot p_bytes), (25, bl.slot y2)]) (H' := fun _ => [box b_r 208 (exr (prod (sl u8) bl) c_r) (p_r.1, p_r.2)]) 8 ?_ fun J => ?_
    · intro _
      clear e4
      show OpsJ _ _ _ [(0, val (.pointer (some ⟨b_r, 0, none⟩))), (1, i64.slot p_bytes), (25, bl.slot y2)] [box b_r 208 (exr (prod (sl u8) bl) c_r) (p_r.1, p_r.2)] _
      refine j_end ?_
      refine run_cond (ht rfl) (fun e5 => ?_) (fun e5 => ?_)
      · replace h := bt e5 h
        refine rs ?_
        refine rt ?_
        refine jp (PJ.xw (.ex .refl) (pa (has_un (x := 0#64) rfl))) rfl rfl rfl ?_
        refine jp (PJ.xw (.ex .refl) (pa has_bl)) rfl rfl rfl ?_
        refine j_end ?_
        obtain rfl := oi h
        exact run_ret fun a w hst => q_retN hst rfl (.cons (.tmp rfl) <| .cons (.tmp rfl) <| .nil) rfl () (fun _ _ h => h) (.cons .here <| .nil)
      · replace h := bf e5 h
        refine run_skip ?_
        refine rs ?_
        refine rt ?_
        refine jp (PJ.xw (.ex .refl) (pa (has_un (x := 0#64) rfl))) rfl rfl rfl ?_
        refine j_end ?_
        refine rs ?_
        refine rs ?_
        refine rt ?_
        refine jp (PJ.xw (.ex .refl) (pm (ht rfl))) rfl rfl rfl ?_
        refine jp (PJ.xw (.ex .refl) (pj_nilCheck_ptr (ht rfl))) rfl rfl rfl ?_
        refine jp (PJ.xw (.ex .refl) (pj_field_ptr (off := 0) (ht rfl) (by kernel_rfl))) rfl rfl rfl ?_
        refine jp (PJ.xw (.ex .refl) (pj_load_box (ht rfl) .here (Path.then (Path.all (prod (sl u8) bl)) (Path.fst (sl u8) bl)) (by kernel_rfl))) rfl rfl rfl ?_
        refine jp (PJ.xw (.ex .refl) (pm (ht rfl))) rfl rfl rfl ?_
        obtain ⟨x1, e6, h⟩ := bind_some h
        refine jp (PJ.xw (.ex .refl) (pj_slice_slx (ht rfl) .no (.yes (ht rfl) isInt_i64) e6 (by kernel_rfl))) rfl rfl rfl ?_
        refine jp (PJ.xw (.ex .refl) (pj_len_sl (sz := 1) (ht rfl) (by kernel_rfl))) rfl rfl rfl ?_
        refine jp (PJ.xw (.ex .refl) (pm has_i64)) rfl rfl rfl ?_
        refine j_end ?_
        obtain ⟨⟨y5, y6⟩, e9, h⟩ := bind_some h
        refine run_loopS (Γi := fun (i : Unit) (s : (BitVec 64) × Int) => [(6, u64.slot s.1), (31, (sl u8).slot x1), (32, i64.slot (x1.length : Int)), (33, i64.slot s.2)]) (Hi := fun (i : Unit) (s : (BitVec 64) × Int) => [box b_r 208 (exr (prod (sl u8) bl) c_r) (p_r.1, p_r.2)]) e9 () (fun a w hst => (hst.sub (.cons (.of_lk rfl) <| .cons (.of_lk rfl) <| .cons (.of_lk rfl) <| .cons (.of_lk rfl) <| .nil)).keep (.cons .here <| .nil)) ?_ ?_
        · clear h e9
          rintro _ ⟨y3, y4⟩ lr h
          change wire_Reader_peek_L1 x1 y3 y4 = some _ at h
          show Run _ _ _ [(6, u64.slot y3), (31, (sl u8).slot x1), (32, i64.slot (x1.length : Int)), (33, i64.slot y4)] [box b_r 208 (exr (prod (sl u8) bl) c_r) (p_r.1, p_r.2)]
          unfold wire_Reader_peek_L1 at h
          refine rs ?_
          refine rt ?_
          refine jp (PJ.xw (.ex .refl) (pj_ilss (ht rfl) (ht rfl))) rfl rfl rfl ?_
          refine j_end ?_
          refine rs ?_
          refine run_cond (ht rfl) (fun e7 => ?_) (fun e7 => ?_)
          · replace h := bt e7 h
            refine run_skip ?_
            refine rs ?_
            refine run_block ?_
            refine rs ?_
            refine rt ?_
            obtain ⟨x2, e8, h⟩ := bind_some h
            refine jp (PJ.xw (.ex .refl) (pj_index_slx (ht rfl) (ht rfl) isInt_i64 e8 (by kernel_rfl))) rfl rfl rfl ?_
            refine jp (PJ.xw (.ex .refl) (pl (ht rfl) (by kernel_rfl))) rfl rfl rfl ?_
            refine jp (PJ.xw (.ex .refl) (pa (ht rfl))) rfl rfl rfl ?_
            refine j_end ?_
            refine rt ?_
            refine jp (PJ.xw (.ex .refl) (pm (ht rfl))) rfl rfl rfl ?_
            refine jp (PJ.xw (.ex .refl) (pj_ushl (k := .u64) (b := 64) rfl rfl (ht rfl) (has_un (x := 8#64) rfl) isInt_un (Int.natCast_nonneg _))) rfl rfl rfl ?_
            refine jp (PJ.xw (.ex .refl) (pm (ht rfl))) rfl rfl rfl ?_
            refine jp (PJ.xw (.ex .refl) (pj_conv_uu (k := .u64) (b := 64) rfl rfl (by kernel_rfl) (ht rfl))) rfl rfl rfl ?_
            refine jp (PJ.xw (.ex .refl) (pj_uor (k := .u64) (b := 64) rfl rfl (ht rfl) (ht rfl))) rfl rfl rfl ?_
            refine jp (PJ.xw (.ex .refl) (pa (ht rfl))) rfl rfl rfl ?_
            refine j_end ?_
            refine run_endblock ?_
            refine rt ?_
            refine jp (PJ.xw (.ex .refl) (pj_iadd (ht rfl) has_i64)) rfl rfl rfl ?_
            refine jp (PJ.xw (.ex .refl) (pm (ht rfl))) rfl rfl rfl ?_
            refine j_end ?_
            obtain rfl := oi h
            exact run_next () (.cons (.of_lk rfl) <| .cons (.of_lk rfl) <| .cons (.of_lk rfl) <| .cons (.of_lk rfl) <| .nil) (.cons .here <| .nil)
          · replace h := bf e7 h
            obtain rfl := oi h
            exact run_brk () (.cons (.of_lk rfl) <| .cons (.of_lk rfl) <| .cons (.of_lk rfl) <| .cons (.of_lk rfl) <| .nil) (.cons .here <| .nil)
        · rintro _
          show Run _ _ _ [(6, u64.slot y5), (31, (sl u8).slot x1), (32, i64.slot (x1.length : Int)), (33, i64.slot y6)] [box b_r 208 (exr (prod (sl u8) bl) c_r) (p_r.1, p_r.2)]
          refine run_to (Γ' := [(6, u64.slot y5)]) (H' := [box b_r 208 (exr (prod (sl u8) bl) c_r) (p_r.1, p_r.2)]) (.cons (.of_lk rfl) <| .nil) (.cons .here <| .nil) ?_
          refine rs ?_
          refine rt ?_
          refine jp (PJ.xw (.ex .refl) (pm (ht rfl))) rfl rfl rfl ?_
          refine jp (PJ.xw (.ex .refl) (pa (ht rfl))) rfl rfl rfl ?_
          refine jp (PJ.xw (.ex .refl) (pa has_bl)) rfl rfl rfl ?_
          refine j_end ?_
          obtain rfl := oi h
          exact run_ret fun a w hst => q_retN hst rfl (.cons (.tmp rfl) <| .cons (.tmp rfl) <| .nil) rfl () (fun _ _ h => h) (.cons .here <| .nil)
    · rcases bool_tf (y1) with e3 | e3
      · replace e4 := bt e3 e4
        refine j_guard_no2 (j := 8) (want := false) rfl rfl rfl rfl (bl_isx e3) rfl rfl rfl ?_
        refine j_guard_no2 (j := 8) (want := false) rfl rfl rfl rfl (bl_isx e3) rfl rfl rfl ?_
        refine j_guard_no2 (j := 8) (want := false) rfl rfl rfl rfl (bl_isx e3) rfl rfl rfl ?_
        refine j_guard_no2 (j := 8) (want := false) rfl rfl rfl rfl (bl_isx e3) rfl rfl rfl ?_
        refine j_guard_no2 (j := 8) (want := false) rfl rfl rfl rfl (bl_isx e3) rfl rfl rfl ?_
        refine j_guard_no2 (j := 8) (want := false) rfl rfl rfl rfl (bl_isx e3) rfl rfl rfl ?_
        refine j_guard_no2 (j := 8) (want := false) rfl rfl rfl rfl (bl_isx e3) rfl rfl rfl ?_
        refine jp (PJ.eqv (R := bl) (pj_pick (t := any) (ht rfl) (fun _ => has_bl) (fun he => absurd (e3.symm.trans he) (by decide))) (oi e4)) rfl rfl rfl ?_
        exact j_to (.cons (.of_lk rfl) <| .cons (.of_lk rfl) <| .cons (.of_lk rfl) <| .nil) (.cons .here <| .nil) (J ())
      · replace e4 := bf e3 e4
        refine jy (PJ.xw (.ex .refl) (pm (ht rfl))) rfl rfl rfl rfl (bl_isx e3) rfl rfl ?_
        refine jy (PJ.xw (.ex .refl) (pj_nilCheck_ptr (ht rfl))) rfl rfl rfl rfl (bl_isx e3) rfl rfl ?_
        refine jy (PJ.xw (.ex .refl) (pj_field_ptr (off := 0) (ht rfl) (by kernel_rfl))) rfl rfl rfl rfl (bl_isx e3) rfl rfl ?_
        refine jy (PJ.xw (.ex .refl) (pj_load_box (ht rfl) .here (Path.then (Path.all (prod (sl u8) bl)) (Path.fst (sl u8) bl)) (by kernel_rfl))) rfl rfl rfl rfl (bl_isx e3) rfl rfl ?_
        refine jy (PJ.xw (.ex .refl) (pj_len_sl (sz := 1) (ht rfl) (by kernel_rfl))) rfl rfl rfl rfl (bl_isx e3) rfl rfl ?_
        refine jy (PJ.xw (.ex .refl) (pm (ht rfl))) rfl rfl rfl rfl (bl_isx e3) rfl rfl ?_
        refine jy (PJ.xw (.ex .refl) (pj_ilss (ht rfl) (ht rfl))) rfl rfl rfl rfl (bl_isx e3) rfl rfl ?_
        refine jp (PJ.eqv (R := bl) (pj_pick (t := any) (ht rfl) (fun he => absurd (e3.symm.trans he) (by decide)) (fun _ => (ht rfl))) (oi e4)) rfl rfl rfl ?_
        exact j_to (.cons (.of_lk rfl) <| .cons (.of_lk rfl) <| .cons (.of_lk rfl) <| .nil) (.cons .here <| .nil) (J ())
  · have e1 : (false) = false := rfl
    refine jy (PJ.xw (.ex .refl) (pm (ht rfl))) rfl rfl rfl rfl (bl_isx e1) rfl rfl ?_
    refine jy (PJ.xw (.ex .refl) (pj_nilCheck_ptr (ht rfl))) rfl rfl rfl rfl (bl_isx e1) rfl rfl ?_
    refine jy (PJ.xw (.ex .refl) (pj_field_ptr (off := 1) (ht rfl) (by kernel_rfl))) rfl rfl rfl rfl (bl_isx e1) rfl rfl ?_
    refine jy (PJ.xw (.ex .refl) (pj_load_box (ht rfl) .here (Path.then (Path.all (prod (sl u8) bl)) (Path.snd (sl u8) bl)) (by kernel_rfl))) rfl rfl rfl rfl (bl_isx e1) rfl rfl ?_
    refine jp (PJ.eqv (R := bl) (pj_pick (t := any) (ht rfl) (fun he => absurd (e1.symm.trans he) (by decide)) (fun _ => (ht rfl))) (oi e2)) rfl rfl rfl ?_
    exact j_to (.cons (.of_lk rfl) <| .cons (.of_lk rfl) <| .cons (.of_lk rfl) <| .nil) (.cons .here <| .nil) (J ())
set_option maxRecDepth 100000 in
set_option maxHeartbeats 4000000 in
theorem c_wire_Reader_number {G : GP} {p_r : (List (BitVec 8)) × Bool} {p_bytes : Int} {b_r : Nat} {r : ((List (BitVec 8)) × Bool) × (BitVec 64)} (h : wire_Reader_number p_r p_bytes = some r) : Ctr Tryz.prog G 141 [val (.pointer (some ⟨b_r, 0, none⟩)), i64.slot p_bytes] [box b_r 208 (prod (sl u8) bl) (p_r.1, p_r.2)] (fun (_ : Unit) => u64.slot r.2) (fun (_ : Unit) => [box b_r 208 (prod (sl u8) bl) (r.1.1, r.1.2)]) := by
  unfold wire_Reader_number at h
  refine ctr_of_run Tryz.func141 rfl 19 rfl rfl fun m0 w0 b0 => ?_
  show Run _ _ _ [(0, val (.pointer (some ⟨b_r, 0, none⟩))), (1, i64.slot p_bytes)] _
  refine rs ?_
  refine rt ?_
  refine jp (pa (has_un (x := 0#64) rfl)) rfl rfl rfl ?_
  refine j_end ?_
  refine rs ?_
  refine rt ?_
  refine jp (pm (ht rfl)) rfl rfl rfl ?_
  refine jp (pm (ht rfl)) rfl rfl rfl ?_
  obtain ⟨r1, e1, h⟩ := bind_some h
  refine jp (pj_callR (hc (ht rfl) <| hc (ht rfl) <| hasL_nil) .here (by kernel_rfl) (fun _ => (c_wire_Reader_peek e1))) rfl rfl rfl ?_
  refine jp (pm (ht rfl)) rfl rfl rfl ?_
  refine jp (pj_extract (ht rfl) rfl) rfl rfl rfl ?_
  refine jp (pj_extract (ht rfl) rfl) rfl rfl rfl ?_
  refine jp (pa (ht rfl)) rfl rfl rfl ?_
  refine jp (pa (ht rfl)) rfl rfl rfl ?_
  refine j_end ?_
  refine rs ?_
  refine rs ?_
  refine rt ?_
  refine jp (pm (ht rfl)) rfl rfl rfl ?_
  refine jp (pm (ht rfl)) rfl rfl rfl ?_
  obtain ⟨r2, e2, h⟩ := bind_some h
  refine j_call (hc (ht rfl) <| hc (ht rfl) <| hasL_nil) (by kernel_rfl) (c_wire_Reader_takes e2) (.cons .here <| .nil) rfl fun _ => ?_
  refine j_end ?_
  refine rs ?_
  refine rt ?_
  refine jp (pm (ht rfl)) rfl rfl rfl ?_
  refine jp (pj_not (ht rfl)) rfl rfl rfl ?_
  refine j_end ?_
  refine run_cond (ht rfl) (fun e3 => ?_) (fun e3 => ?_)
  · replace h := bt e3 h
    refine rs ?_
    refine rt ?_
    refine jp (pa (has_un (x := 0#64) rfl)) rfl rfl rfl ?_
    refine j_end ?_
    obtain rfl := oi h
    exact run_ret fun a w hst => q_ret1 hst rfl (.tmp rfl) () (fun _ _ h => h) (.cons .here <| .nil)
  · replace h := bf e3 h
    refine run_skip ?_
    refine rs ?_
    refine rt ?_
    refine jp (pm (ht rfl)) rfl rfl rfl ?_
    refine jp (pa (ht rfl)) rfl rfl rfl ?_
    refine j_end ?_
    obtain rfl := oi h
    exact run_ret fun a w hst => q_ret1 hst rfl (.tmp rfl) () (fun _ _ h => h) (.cons .here <| .nil)
set_option maxRecDepth 100000 in
set_option maxHeartbeats 4000000 in
theorem c_wire_Reader_U32 {G : GP} {p_r : (List (BitVec 8)) × Bool} {b_r : Nat} {r : ((List (BitVec 8)) × Bool) × (BitVec 32)} (h : wire_Reader_U32 p_r = some r) : Ctr Tryz.prog G 95 [val (.pointer (some ⟨b_r, 0, none⟩))] [box b_r 208 (prod (sl u8) bl) (p_r.1, p_r.2)] (fun (_ : Unit) => u32.slot r.2) (fun (_ : Unit) => [box b_r 208 (prod (sl u8) bl) (r.1.1, r.1.2)]) := by
  unfold wire_Reader_U32 at h
  refine ctr_of_run Tryz.func95 rfl 6 rfl rfl fun m0 w0 b0 => ?_
  show Run _ _ _ [(0, val (.pointer (some ⟨b_r, 0, none⟩)))] _
  refine rs ?_
  refine rt ?_
  refine jp (pa (has_un (x := 0#32) rfl)) rfl rfl rfl ?_
  refine j_end ?_
  refine rs ?_
  refine rt ?_
  refine jp (pm (ht rfl)) rfl rfl rfl ?_
  obtain ⟨r1, e1, h⟩ := bind_some h
  refine j_call (hc (ht rfl) <| hc has_i64 <| hasL_nil) (by kernel_rfl) (c_wire_Reader_number e1) (.cons .here <| .nil) rfl fun _ => ?_
  refine jp (pj_conv_uu (k := .u32) (b := 32) rfl rfl (by kernel_rfl) (ht rfl)) rfl rfl rfl ?_
  refine jp (pa (ht rfl)) rfl rfl rfl ?_
  refine j_end ?_
  obtain rfl := oi h
  exact run_ret fun a w hst => q_ret1 hst rfl (.tmp rfl) () (fun _ _ h => h) (.cons .here <| .nil)
set_option maxRecDepth 100000 in
set_option maxHeartbeats 4000000 in
theorem c_wire_Reader_Plain {G : GP} {p_r : (List (BitVec 8)) × Bool} {p_n : Int} {b_r : Nat} {r : ((List (BitVec 8)) × Bool) × (List (BitVec 8))} (h : wire_Reader_Plain p_r p_n = some r) : Ctr Tryz.prog G 96 [val (.pointer (some ⟨b_r, 0, none⟩)), i64.slot p_n] [box b_r 208 (prod (sl u8) bl) (p_r.1, p_r.2)] (fun (_ : Unit) => (sl u8).slot r.2) (fun (_ : Unit) => [box b_r 208 (prod (sl u8) bl) (r.1.1, r.1.2)]) := by
  unfold wire_Reader_Plain at h
  refine ctr_of_run Tryz.func96 rfl 8 rfl rfl fun m0 w0 b0 => ?_
  show Run _ _ _ [(0, val (.pointer (some ⟨b_r, 0, none⟩))), (1, i64.slot p_n)] _
  refine rs ?_
  refine rt ?_
  refine jp (pa (has_nil (R := u8))) rfl rfl rfl ?_
  refine j_end ?_
  refine rs ?_
  refine rt ?_
  refine jp (pm (ht rfl)) rfl rfl rfl ?_
  refine jp (pm (ht rfl)) rfl rfl rfl ?_
  obtain ⟨r1, e1, h⟩ := bind_some h
  refine j_call (hc (ht rfl) <| hc (ht rfl) <| hasL_nil) (by kernel_rfl) (c_wire_Reader_takes e1) (.cons .here <| .nil) rfl fun _ => ?_
  refine jp (pa (ht rfl)) rfl rfl rfl ?_
  refine j_end ?_
  obtain rfl := oi h
  exact run_ret fun a w hst => q_ret1 hst rfl (.tmp rfl) () (fun _ _ h => h) (.cons .here <| .nil)
set_option maxRecDepth 100000 in
set_option maxHeartbeats 4000000 in
theorem c_wire_Reader_Left {G : GP} {p_r : (List (BitVec 8)) × Bool} {b_r : Nat} {c_r : List Value} {r : Int} (h : wire_Reader_Left p_r = some r) : Ctr Tryz.prog G 97 [val (.pointer (some ⟨b_r, 0, none⟩))] [box b_r 208 (exr (prod (sl u8) bl) c_r) (p_r.1, p_r.2)] (fun (_ : Unit) => i64.slot r) (fun (_ : Unit) => [box b_r 208 (exr (prod (sl u8) bl) c_r) (p_r.1, p_r.2)]) := by
  unfold wire_Reader_Left at h
  refine ctr_of_run Tryz.func97 rfl 10 rfl rfl fun m0 w0 b0 => ?_
  show Run _ _ _ [(0, val (.pointer (some ⟨b_r, 0, none⟩)))] _
  refine rs ?_
  refine rt ?_
  refine jp (PJ.xw (.ex .refl) (pa has_i64)) rfl rfl rfl ?_
  refine j_end ?_
  refine rs ?_
  refine rs ?_
  refine rt ?_
  refine jp (PJ.xw (.ex .refl) (pm (ht rfl))) rfl rfl rfl ?_
  refine jp (PJ.xw (.ex .refl) (pj_eq_nil_val (E := 208) (by kernel_rfl) (ht rfl))) rfl rfl rfl ?_
  refine j_end ?_
  refine run_cond_f (ht rfl) rfl ?_
  refine run_skip ?_
  refine rs ?_
  refine rt ?_
  refine jp (PJ.xw (.ex .refl) (pm (ht rfl))) rfl rfl rfl ?_
  refine jp (PJ.xw (.ex .refl) (pj_nilCheck_ptr (ht rfl))) rfl rfl rfl ?_
  refine jp (PJ.xw (.ex .refl) (pj_field_ptr (off := 0) (ht rfl) (by kernel_rfl))) rfl rfl rfl ?_
  refine jp (PJ.xw (.ex .refl) (pj_load_box (ht rfl) .here (Path.then (Path.all (prod (sl u8) bl)) (Path.fst (sl u8) bl)) (by kernel_rfl))) rfl rfl rfl ?_
  refine jp (PJ.xw (.ex .refl) (pj_len_sl (sz := 1) (ht rfl) (by kernel_rfl))) rfl rfl rfl ?_
  refine jp (PJ.xw (.ex .refl) (pa (ht rfl))) rfl rfl rfl ?_
  refine j_end ?_
  obtain rfl := oi h
  exact run_ret fun a w hst => q_ret1 hst rfl (.tmp rfl) () (fun _ _ h => h) (.cons .here <| .nil)
set_option maxRecDepth 100000 in
set_option maxHeartbeats 4000000 in
theorem c_wire_Reader_Fails {G : GP} {p_r : (List (BitVec 8)) × Bool} {b_r : Nat} {c_r : List Value} {r : Bool} (h : wire_Reader_Fails p_r = some r) : Ctr Tryz.prog G 98 [val (.pointer (some ⟨b_r, 0, none⟩))] [box b_r 208 (exr (prod (sl u8) bl) c_r) (p_r.1, p_r.2)] (fun (_ : Unit) => bl.slot r) (fun (_ : Unit) => [box b_r 208 (exr (prod (sl u8) bl) c_r) (p_r.1, p_r.2)]) := by
  unfold wire_Reader_Fails at h
  refine ctr_of_run Tryz.func98 rfl 11 rfl rfl fun m0 w0 b0 => ?_
  show Run _ _ _ [(0, val (.pointer (some ⟨b_r, 0, none⟩)))] _
  refine rs ?_
  refine rt ?_
  refine jp (PJ.xw (.ex .refl) (pa has_bl)) rfl rfl rfl ?_
  refine j_end ?_
  refine rs ?_
  refine rt ?_
  refine jp (PJ.xw (.ex .refl) (pm (ht rfl))) rfl rfl rfl ?_
  refine jp (PJ.xw (.ex .refl) (pj_eq_nil_val (E := 208) (by kernel_rfl) (ht rfl))) rfl rfl rfl ?_
  refine jp (PJ.xw (.ex .refl) (pm (ht rfl))) rfl rfl rfl ?_
  obtain ⟨y1, e2, h⟩ := bind_some h
  refine j_joinx (ι := Unit) (Γ' := fun _ => [(10, bl.slot y1)]) (H' := fun _ => [box b_r 208 (exr (prod (sl u8) bl) c_r) (p_r.1, p_r.2)]) 5 ?_ fun J => ?_
  · intro _
    clear e2
    show OpsJ _ _ _ [(10, bl.slot y1)] [box b_r 208 (exr (prod (sl u8) bl) c_r) (p_r.1, p_r.2)] _
    refine jp (PJ.xw (.ex .refl) (pa (ht rfl))) rfl rfl rfl ?_
    refine j_end ?_
    obtain rfl := oi h
    exact run_ret fun a w hst => q_ret1 hst rfl (.tmp rfl) () (fun _ _ h => h) (.cons .here <| .nil)
  · have e1 : (false) = false := rfl
    refine jy (PJ.xw (.ex .refl) (pm (ht rfl))) rfl rfl rfl rfl (bl_isx e1) rfl rfl ?_
    refine jy (PJ.xw (.ex .refl) (pj_nilCheck_ptr (ht rfl))) rfl rfl rfl rfl (bl_isx e1) rfl rfl ?_
    refine jy (PJ.xw (.ex .refl) (pj_field_ptr (off := 1) (ht rfl) (by kernel_rfl))) rfl rfl rfl rfl (bl_isx e1) rfl rfl ?_
    refine jy (PJ.xw (.ex .refl) (pj_load_box (ht rfl) .here (Path.then (Path.all (prod (sl u8) bl)) (Path.snd (sl u8) bl)) (by kernel_rfl))) rfl rfl rfl rfl (bl_isx e1) rfl rfl ?_
    refine jp (PJ.eqv (R := bl) (pj_pick (t := any) (ht rfl) (fun he => absurd (e1.symm.trans he) (by decide)) (fun _ => (ht rfl))) (oi e2)) rfl rfl rfl ?_
    exact j_to (.cons (.of_lk rfl) <| .nil) (.cons .here <| .nil) (J ())
end Go.Sl.W
