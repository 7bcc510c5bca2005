import Derived.Test.YtodeiommhponnaaDoorWA
import Derived.Test.YtodeiommhponnaaDoorOp11
import Derived.Test.YtodeiommhponnaaDoorProg
set_option linter.unusedSimpArgs false
set_option linter.unusedVariables false
set_option linter.unusedSectionVars false
namespace Go.Sl.W
open Go.Proofs Go.Sl Go.Sl.M
set_option maxRecDepth 100000 in
set_option maxHeartbeats 4000000 in
theorem c_rolodexref02_words {G : GP} {p_b : List (BitVec 8)} {r : (Vector (BitVec 32) 64)} (h : rolodexref02_words p_b = some r) : Ctr Tryd.prog G 71 [(sl u8).slot p_b] [] (fun (_ : Unit) => (vec 64 u32).slot r) (fun (_ : Unit) => []) := by
  unfold rolodexref02_words at h
  refine ctr_of_run Tryd.func71 rfl 65 rfl rfl fun m0 w0 b0 => ?_
  show Run _ _ _ [(0, (sl u8).slot p_b)] _
  refine run_seq ?_
  refine run_text ?_
  refine j_alloc (x := (Vector.replicate 64 (0#32))) (R := (vec 64 u32)) (zero_vec 64 zero_un) (by kernel_rfl) rfl fun b1 => ?_
  refine j_end ?_
  refine run_seq ?_
  refine run_text ?_
  refine j_alloc (x := (Vector.replicate 64 (0#32))) (R := (vec 64 u32)) (zero_vec 64 zero_un) (by kernel_rfl) rfl fun b2 => ?_
  refine j_end ?_
  refine run_seq ?_
  refine run_seq ?_
  refine run_text ?_
  refine j_pure (pj_assign has_i64) rfl rfl rfl ?_
  refine j_end ?_
  obtain ⟨⟨y3, y4⟩, e6, h⟩ := bind_some h
  refine run_loopS (Γi := fun (i : Unit) (s : Int × (Vector (BitVec 32) 64)) => [(0, (sl u8).slot p_b), (2, val (.pointer (some ⟨b1, 0, none⟩))), (3, val (.pointer (some ⟨b2, 0, none⟩))), (4, i64.slot s.1)]) (Hi := fun (i : Unit) (s : Int × (Vector (BitVec 32) 64)) => [box b2 111 (vec 64 u32) s.2, box b1 111 (vec 64 u32) (Vector.replicate 64 (0#32))]) e6 () (fun a w hst => (hst.sub (.cons (.of_lk rfl) <| .cons (.of_lk rfl) <| .cons (.of_lk rfl) <| .cons (.of_lk rfl) <| .nil)).keep (.cons .here <| .cons .here <| .nil)) ?_ ?_
  · clear h e6
    rintro _ ⟨y1, y2⟩ lr h
    change rolodexref02_words_L1 p_b y1 y2 = some _ at h
    show Run _ _ _ [(0, (sl u8).slot p_b), (2, val (.pointer (some ⟨b1, 0, none⟩))), (3, val (.pointer (some ⟨b2, 0, none⟩))), (4, i64.slot y1)] [box b2 111 (vec 64 u32) y2, box b1 111 (vec 64 u32) (Vector.replicate 64 (0#32))]
    unfold rolodexref02_words_L1 at h
    refine run_seq ?_
    refine run_seq ?_
    refine run_text ?_
    refine j_pure (pj_move (has_tmp rfl)) rfl rfl rfl ?_
    refine j_pure (pj_ilss (has_tmp rfl) has_i64) rfl rfl rfl ?_
    refine j_end ?_
    refine run_cond (has_tmp rfl) (fun e1 => ?_) (fun e1 => ?_)
    · replace h := bt e1 h
      refine run_skip ?_
      refine run_seq ?_
      refine run_block ?_
      refine run_text ?_
      refine j_pure (pj_move (has_tmp rfl)) rfl rfl rfl ?_
      refine j_pure (pj_move (has_tmp rfl)) rfl rfl rfl ?_
      refine j_pure (pj_move (has_tmp rfl)) rfl rfl rfl ?_
      refine j_pure (pj_imul has_i64 (has_tmp rfl)) rfl rfl rfl ?_
      refine j_pure (pj_move (has_tmp rfl)) rfl rfl rfl ?_
      refine j_pure (pj_imul has_i64 (has_tmp rfl)) rfl rfl rfl ?_
      refine j_pure (pj_iadd (has_tmp rfl) has_i64) rfl rfl rfl ?_
      obtain ⟨x1, e2, h⟩ := bind_some h
      refine j_pure (pj_slice_slx (has_tmp rfl) (.yes (has_tmp rfl) isInt_i64) (.yes (has_tmp rfl) isInt_i64) e2 (by kernel_rfl)) rfl rfl rfl ?_
      obtain ⟨r1, e3, h⟩ := bind_some h
      refine j_pure (pj_call (hasL_cons (has_tmp rfl) <| hasL_nil) (by kernel_rfl) (c_rolodexref01_Value e3)) rfl rfl rfl ?_
      refine j_pure (pj_conv_uu (k := .u32) (b := 32) rfl rfl (by kernel_rfl) (has_tmp rfl)) rfl rfl rfl ?_
      obtain ⟨e4, h⟩ := grd_some h
      refine j_pure (pj_index_arr (n := 64) (sz := 1) (has_tmp rfl) (has_tmp rfl) isInt_i64 e4.1 e4.2 (by kernel_rfl)) rfl rfl rfl ?_
      obtain ⟨x2, e5, h⟩ := bind_some h
      refine j_store_boxx (r' := x2) (has_tmp rfl) (has_tmp rfl) .here (Path.then (Path.all (vec 64 u32)) (Path.atI 64 u32 y1.toNat (lt_nat e4))) (by kernel_rfl) (Option.some.inj e5) ?_
      refine j_end ?_
      refine run_endblock ?_
      refine run_text ?_
      refine j_pure (pj_move (has_tmp rfl)) rfl rfl rfl ?_
      refine j_pure (pj_iadd (has_tmp rfl) has_i64) rfl rfl rfl ?_
      refine j_pure (pj_assign (has_tmp rfl)) rfl rfl rfl ?_
      refine j_end ?_
      obtain rfl := Option.some.inj h
      exact run_next () (.cons (.of_lk rfl) <| .cons (.of_lk rfl) <| .cons (.of_lk rfl) <| .cons (.of_lk rfl) <| .nil) (.cons .here <| .cons .here <| .nil)
    · replace h := bf e1 h
      obtain rfl := Option.some.inj h
      exact run_brk () (.cons (.of_lk rfl) <| .cons (.of_lk rfl) <| .cons (.of_lk rfl) <| .cons (.of_lk rfl) <| .nil) (.cons .here <| .cons .here <| .nil)
  · rintro _
    show Run _ _ _ [(0, (sl u8).slot p_b), (2, val (.pointer (some ⟨b1, 0, none⟩))), (3, val (.pointer (some ⟨b2, 0, none⟩))), (4, i64.slot y3)] [box b2 111 (vec 64 u32) y4, box b1 111 (vec 64 u32) (Vector.replicate 64 (0#32))]
    refine run_to (Γ' := [(2, val (.pointer (some ⟨b1, 0, none⟩))), (3, val (.pointer (some ⟨b2, 0, none⟩)))]) (H' := [box b2 111 (vec 64 u32) y4, box b1 111 (vec 64 u32) (Vector.replicate 64 (0#32))]) (.cons (.of_lk rfl) <| .cons (.of_lk rfl) <| .nil) (.cons .here <| .cons .here <| .nil) ?_
    refine run_seq ?_
    refine run_seq ?_
    refine run_text ?_
    refine j_pure (pj_assign has_i64) rfl rfl rfl ?_
    refine j_end ?_
    obtain ⟨⟨y7, y8⟩, e18, h⟩ := bind_some h
    refine run_loopS (Γi := fun (i : Unit) (s : Int × (Vector (BitVec 32) 64)) => [(2, val (.pointer (some ⟨b1, 0, none⟩))), (3, val (.pointer (some ⟨b2, 0, none⟩))), (5, i64.slot s.1)]) (Hi := fun (i : Unit) (s : Int × (Vector (BitVec 32) 64)) => [box b2 111 (vec 64 u32) s.2, box b1 111 (vec 64 u32) (Vector.replicate 64 (0#32))]) e18 () (fun a w hst => (hst.sub (.cons (.of_lk rfl) <| .cons (.of_lk rfl) <| .cons (.of_lk rfl) <| .nil)).keep (.cons .here <| .cons .here <| .nil)) ?_ ?_
    · clear h e18
      rintro _ ⟨y5, y6⟩ lr h
      change rolodexref02_words_L2 y5 y6 = some _ at h
      show Run _ _ _ [(2, val (.pointer (some ⟨b1, 0, none⟩))), (3, val (.pointer (some ⟨b2, 0, none⟩))), (5, i64.slot y5)] [box b2 111 (vec 64 u32) y6, box b1 111 (vec 64 u32) (Vector.replicate 64 (0#32))]
      unfold rolodexref02_words_L2 at h
      refine run_seq ?_
      refine run_seq ?_
      refine run_text ?_
      refine j_pure (pj_move (has_tmp rfl)) rfl rfl rfl ?_
      refine j_pure (pj_ilss (has_tmp rfl) has_i64) rfl rfl rfl ?_
      refine j_end ?_
      refine run_cond (has_tmp rfl) (fun e7 => ?_) (fun e7 => ?_)
      · replace h := bt e7 h
        refine run_skip ?_
        refine run_seq ?_
        refine run_block ?_
        refine run_seq ?_
        refine run_text ?_
        refine j_pure (pj_move (has_tmp rfl)) rfl rfl rfl ?_
        refine j_pure (pj_isub (has_tmp rfl) has_i64) rfl rfl rfl ?_
        obtain ⟨x3, e8, h⟩ := bind_some h
        refine j_pure (pj_index_arr (n := 64) (sz := 1) (has_tmp rfl) (has_tmp rfl) isInt_i64 (vget_some e8).1 (vget_lt e8) (by kernel_rfl)) rfl rfl rfl ?_
        refine j_pure (PJ.eqv (pj_load_box (has_tmp rfl) .here (Path.then (Path.all (vec 64 u32)) (Path.atI 64 u32 ((w64 (y5 - (15 : Int))).toNat) (vget_some e8).2.1)) (by kernel_rfl)) (vget_eq e8 (vget_some e8).2.1)) rfl rfl rfl ?_
        refine j_pure (pj_assign (has_tmp rfl)) rfl rfl rfl ?_
        refine j_end ?_
        refine run_seq ?_
        refine run_text ?_
        refine j_pure (pj_move (has_tmp rfl)) rfl rfl rfl ?_
        refine j_pure (pj_isub (has_tmp rfl) has_i64) rfl rfl rfl ?_
        obtain ⟨x4, e9, h⟩ := bind_some h
        refine j_pure (pj_index_arr (n := 64) (sz := 1) (has_tmp rfl) (has_tmp rfl) isInt_i64 (vget_some e9).1 (vget_lt e9) (by kernel_rfl)) rfl rfl rfl ?_
        refine j_pure (PJ.eqv (pj_load_box (has_tmp rfl) .here (Path.then (Path.all (vec 64 u32)) (Path.atI 64 u32 ((w64 (y5 - (2 : Int))).toNat) (vget_some e9).2.1)) (by kernel_rfl)) (vget_eq e9 (vget_some e9).2.1)) rfl rfl rfl ?_
        refine j_pure (pj_assign (has_tmp rfl)) rfl rfl rfl ?_
        refine j_end ?_
        obtain ⟨x5, e10, h⟩ := bind_some h
        obtain ⟨r2, e11, h⟩ := bind_some h
        obtain ⟨r3, e12, h⟩ := bind_some h
        obtain ⟨x6, e13, h⟩ := bind_some h
        obtain ⟨r4, e14, h⟩ := bind_some h
        obtain ⟨r5, e15, h⟩ := bind_some h
        refine run_draw (n := 28) (by kernel_rfl) (by kernel_rfl) (by kernel_rfl) (by kernel_rfl) (.read (.plain rfl (pj_move (has_tmp rfl))) <| .read (.plain rfl (pj_move (has_tmp rfl))) <| .read (.plain rfl (pj_isub (has_tmp rfl) has_i64)) <| .read (.plain rfl (pj_index_arr (n := 64) (sz := 1) (has_tmp rfl) (has_tmp rfl) isInt_i64 (vget_some e10).1 (vget_lt e10) (by kernel_rfl))) <| .read (.plain rfl (PJ.eqv (pj_load_box (has_tmp rfl) .here (Path.then (Path.all (vec 64 u32)) (Path.atI 64 u32 ((w64 (y5 - (16 : Int))).toNat) (vget_some e10).2.1)) (by kernel_rfl)) (vget_eq e10 (vget_some e10).2.1))) <| .read (.plain rfl (pj_move (has_tmp rfl))) <| .read (.plain rfl (pj_call (hasL_cons (has_tmp rfl) <| hasL_cons (has_un (x := 7#32) rfl) <| hasL_nil) (by kernel_rfl) (c_rolodexref02_turned e11))) <| .read (.plain rfl (pj_move (has_tmp rfl))) <| .read (.plain rfl (pj_call (hasL_cons (has_tmp rfl) <| hasL_cons (has_un (x := 18#32) rfl) <| hasL_nil) (by kernel_rfl) (c_rolodexref02_turned e12))) <| .read (.plain rfl (pj_uxor (k := .u32) (b := 32) rfl rfl (has_tmp rfl) (has_tmp rfl))) <| .read (.plain rfl (pj_move (has_tmp rfl))) <| .read (.plain rfl (pj_uquo (k := .u32) (b := 32) rfl rfl (has_tmp rfl) (has_un (x := 8#32) rfl) (by decide))) <| .read (.plain rfl (pj_uxor (k := .u32) (b := 32) rfl rfl (has_tmp rfl) (has_tmp rfl))) <| .read (.plain rfl (pj_uadd (k := .u32) (b := 32) rfl rfl (has_tmp rfl) (has_tmp rfl))) <| .read (.plain rfl (pj_move (has_tmp rfl))) <| .read (.plain rfl (pj_isub (has_tmp rfl) has_i64)) <| .read (.plain rfl (pj_index_arr (n := 64) (sz := 1) (has_tmp rfl) (has_tmp rfl) isInt_i64 (vget_some e13).1 (vget_lt e13) (by kernel_rfl))) <| .read (.plain rfl (PJ.eqv (pj_load_box (has_tmp rfl) .here (Path.then (Path.all (vec 64 u32)) (Path.atI 64 u32 ((w64 (y5 - (7 : Int))).toNat) (vget_some e13).2.1)) (by kernel_rfl)) (vget_eq e13 (vget_some e13).2.1))) <| .read (.plain rfl (pj_uadd (k := .u32) (b := 32) rfl rfl (has_tmp rfl) (has_tmp rfl))) <| .read (.plain rfl (pj_move (has_tmp rfl))) <| .read (.plain rfl (pj_call (hasL_cons (has_tmp rfl) <| hasL_cons (has_un (x := 17#32) rfl) <| hasL_nil) (by kernel_rfl) (c_rolodexref02_turned e14))) <| .read (.plain rfl (pj_move (has_tmp rfl))) <| .read (.plain rfl (pj_call (hasL_cons (has_tmp rfl) <| hasL_cons (has_un (x := 19#32) rfl) <| hasL_nil) (by kernel_rfl) (c_rolodexref02_turned e15))) <| .read (.plain rfl (pj_uxor (k := .u32) (b := 32) rfl rfl (has_tmp rfl) (has_tmp rfl))) <| .read (.plain rfl (pj_move (has_tmp rfl))) <| .read (.plain rfl (pj_uquo (k := .u32) (b := 32) rfl rfl (has_tmp rfl) (has_un (x := 1024#32) rfl) (by decide))) <| .read (.plain rfl (pj_uxor (k := .u32) (b := 32) rfl rfl (has_tmp rfl) (has_tmp rfl))) <| .read (.plain rfl (pj_uadd (k := .u32) (b := 32) rfl rfl (has_tmp rfl) (has_tmp rfl))) <| .nil) (j_to (Γ' := [(2, val (.pointer (some ⟨b1, 0, none⟩))), (3, val (.pointer (some ⟨b2, 0, none⟩))), (5, i64.slot y5), (35, i64.slot y5), (62, u32.slot (((x5 + ((r2 ^^^ r3) ^^^ (x3 / (8#32)))) + x6) + ((r4 ^^^ r5) ^^^ (x4 / (1024#32)))))]) (H' := [box b2 111 (vec 64 u32) y6, box b1 111 (vec 64 u32) (Vector.replicate 64 (0#32))]) (.cons (.of_lk rfl) <| .cons (.of_lk rfl) <| .cons (.of_lk rfl) <| .cons (.of_lk rfl) <| .cons (.of_lk rfl) <| .nil) (.cons .here <| .cons .here <| .nil) ?_)
        obtain ⟨e16, h⟩ := grd_some h
        refine j_pure (pj_index_arr (n := 64) (sz := 1) (has_tmp rfl) (has_tmp rfl) isInt_i64 e16.1 e16.2 (by kernel_rfl)) rfl rfl rfl ?_
        obtain ⟨x7, e17, h⟩ := bind_some h
        refine j_store_boxx (r' := x7) (has_tmp rfl) (has_tmp rfl) .here (Path.then (Path.all (vec 64 u32)) (Path.atI 64 u32 y5.toNat (lt_nat e16))) (by kernel_rfl) (Option.some.inj e17) ?_
        refine j_end ?_
        refine run_endblock ?_
        refine run_text ?_
        refine j_pure (pj_move (has_tmp rfl)) rfl rfl rfl ?_
        refine j_pure (pj_iadd (has_tmp rfl) has_i64) rfl rfl rfl ?_
        refine j_pure (pj_assign (has_tmp rfl)) rfl rfl rfl ?_
        refine j_end ?_
        obtain rfl := Option.some.inj h
        exact run_next () (.cons (.of_lk rfl) <| .cons (.of_lk rfl) <| .cons (.of_lk rfl) <| .nil) (.cons .here <| .cons .here <| .nil)
      · replace h := bf e7 h
        obtain rfl := Option.some.inj h
        exact run_brk () (.cons (.of_lk rfl) <| .cons (.of_lk rfl) <| .cons (.of_lk rfl) <| .nil) (.cons .here <| .cons .here <| .nil)
    · rintro _
      show Run _ _ _ [(2, val (.pointer (some ⟨b1, 0, none⟩))), (3, val (.pointer (some ⟨b2, 0, none⟩))), (5, i64.slot y7)] [box b2 111 (vec 64 u32) y8, box b1 111 (vec 64 u32) (Vector.replicate 64 (0#32))]
      refine run_to (Γ' := [(2, val (.pointer (some ⟨b1, 0, none⟩))), (3, val (.pointer (some ⟨b2, 0, none⟩)))]) (H' := [box b2 111 (vec 64 u32) y8, box b1 111 (vec 64 u32) (Vector.replicate 64 (0#32))]) (.cons (.of_lk rfl) <| .cons (.of_lk rfl) <| .nil) (.cons .here <| .cons .here <| .nil) ?_
      refine run_seq ?_
      refine run_text ?_
      refine j_pure (pj_load_box (has_tmp rfl) .here (Path.all (vec 64 u32)) (by kernel_rfl)) rfl rfl rfl ?_
      refine j_store_boxx (r' := y8) (has_tmp rfl) (has_tmp rfl) (.next .here) (Path.all (vec 64 u32)) (by kernel_rfl) rfl ?_
      refine j_end ?_
      obtain rfl := Option.some.inj h
      exact run_ret fun a w hst => q_ret1 hst rfl (.cell rfl .here (by kernel_rfl)) () (fun _ _ h => h) (.nil)
set_option maxRecDepth 100000 in
set_option maxHeartbeats 4000000 in
theorem c_rolodexref02_K {G : GP} {r : (Vector (BitVec 32) 64)} (h : rolodexref02_K = some r) : Ctr Tryd.prog G 72 [] [] (fun (_ : Unit) => (vec 64 u32).slot r) (fun (_ : Unit) => []) := by
  unfold rolodexref02_K at h
  refine ctr_of_run Tryd.func72 rfl 2 rfl rfl fun m0 w0 b0 => ?_
  show Run _ _ _ [] _
  refine run_seq ?_
  refine run_text ?_
  refine j_alloc (x := (Vector.replicate 64 (0#32))) (R := (vec 64 u32)) (zero_vec 64 zero_un) (by kernel_rfl) rfl fun b1 => ?_
  refine j_end ?_
  refine run_seq ?_
  refine run_text ?_
  obtain ⟨x1, e1, h⟩ := bind_some h
  refine j_pure (PJ.eqv (pj_buildArr (z0 := 0#32) (zero_vec 64 zero_un) (by kernel_rfl) (.cons (has_un (x := 1116352408#32) rfl) (.cons (has_un (x := 1899447441#32) rfl) (.cons (has_un (x := 3049323471#32) rfl) (.cons (has_un (x := 3921009573#32) rfl) (.cons (has_un (x := 961987163#32) rfl) (.cons (has_un (x := 1508970993#32) rfl) (.cons (has_un (x := 2453635748#32) rfl) (.cons (has_un (x := 2870763221#32) rfl) (.cons (has_un (x := 3624381080#32) rfl) (.cons (has_un (x := 310598401#32) rfl) (.cons (has_un (x := 607225278#32) rfl) (.cons (has_un (x := 1426881987#32) rfl) (.cons (has_un (x := 1925078388#32) rfl) (.cons (has_un (x := 2162078206#32) rfl) (.cons (has_un (x := 2614888103#32) rfl) (.cons (has_un (x := 3248222580#32) rfl) (.cons (has_un (x := 3835390401#32) rfl) (.cons (has_un (x := 4022224774#32) rfl) (.cons (has_un (x := 264347078#32) rfl) (.cons (has_un (x := 604807628#32) rfl) (.cons (has_un (x := 770255983#32) rfl) (.cons (has_un (x := 1249150122#32) rfl) (.cons (has_un (x := 1555081692#32) rfl) (.cons (has_un (x := 1996064986#32) rfl) (.cons (has_un (x := 2554220882#32) rfl) (.cons (has_un (x := 2821834349#32) rfl) (.cons (has_un (x := 2952996808#32) rfl) (.cons (has_un (x := 3210313671#32) rfl) (.cons (has_un (x := 3336571891#32) rfl) (.cons (has_un (x := 3584528711#32) rfl) (.cons (has_un (x := 113926993#32) rfl) (.cons (has_un (x := 338241895#32) rfl) (.cons (has_un (x := 666307205#32) rfl) (.cons (has_un (x := 773529912#32) rfl) (.cons (has_un (x := 1294757372#32) rfl) (.cons (has_un (x := 1396182291#32) rfl) (.cons (has_un (x := 1695183700#32) rfl) (.cons (has_un (x := 1986661051#32) rfl) (.cons (has_un (x := 2177026350#32) rfl) (.cons (has_un (x := 2456956037#32) rfl) (.cons (has_un (x := 2730485921#32) rfl) (.cons (has_un (x := 2820302411#32) rfl) (.cons (has_un (x := 3259730800#32) rfl) (.cons (has_un (x := 3345764771#32) rfl) (.cons (has_un (x := 3516065817#32) rfl) (.cons (has_un (x := 3600352804#32) rfl) (.cons (has_un (x := 4094571909#32) rfl) (.cons (has_un (x := 275423344#32) rfl) (.cons (has_un (x := 430227734#32) rfl) (.cons (has_un (x := 506948616#32) rfl) (.cons (has_un (x := 659060556#32) rfl) (.cons (has_un (x := 883997877#32) rfl) (.cons (has_un (x := 958139571#32) rfl) (.cons (has_un (x := 1322822218#32) rfl) (.cons (has_un (x := 1537002063#32) rfl) (.cons (has_un (x := 1747873779#32) rfl) (.cons (has_un (x := 1955562222#32) rfl) (.cons (has_un (x := 2024104815#32) rfl) (.cons (has_un (x := 2227730452#32) rfl) (.cons (has_un (x := 2361852424#32) rfl) (.cons (has_un (x := 2428436474#32) rfl) (.cons (has_un (x := 2756734187#32) rfl) (.cons (has_un (x := 3204031479#32) rfl) (.cons (has_un (x := 3329325298#32) rfl) .nil)))))))))))))))))))))))))))))))))))))))))))))))))))))))))))))))) (by kernel_rfl) rfl) (Option.some.inj e1)) rfl rfl rfl ?_
  refine j_store_boxx (r' := x1) (has_tmp rfl) (has_tmp rfl) .here (Path.all (vec 64 u32)) (by kernel_rfl) rfl ?_
  refine j_end ?_
  obtain rfl := Option.some.inj h
  exact run_ret fun a w hst => q_ret1 hst rfl (.cell rfl .here (by kernel_rfl)) () (fun _ _ h => h) (.nil)
set_option maxRecDepth 100000 in
set_option maxHeartbeats 4000000 in
theorem c_rolodexref02_take {G : GP} {p_h : Vector (BitVec 32) 8} {p_block : List (BitVec 8)} {r : (Vector (BitVec 32) 8)} (h : rolodexref02_take p_h p_block = some r) : Ctr Tryd.prog G 68 [(vec 8 u32).slot p_h, (sl u8).slot p_block] [] (fun (_ : Unit) => (vec 8 u32).slot r) (fun (_ : Unit) => []) := by
  unfold rolodexref02_take at h
  refine ctr_of_run Tryd.func68 rfl 121 rfl rfl fun m0 w0 b0 => ?_
  show Run _ _ _ [(0, (vec 8 u32).slot p_h), (1, (sl u8).slot p_block)] _
  refine run_seq ?_
  refine run_text ?_
  refine j_box (has_tmp rfl) rfl fun b1 => ?_
  refine j_alloc (x := (Vector.replicate 8 (0#32))) (R := (vec 8 u32)) (zero_vec 8 zero_un) (by kernel_rfl) rfl fun b2 => ?_
  refine j_end ?_
  refine run_seq ?_
  refine run_text ?_
  refine j_pure (pj_move (has_tmp rfl)) rfl rfl rfl ?_
  obtain ⟨r1, e1, h⟩ := bind_some h
  refine j_pure (pj_call (hasL_cons (has_tmp rfl) <| hasL_nil) (by kernel_rfl) (c_rolodexref02_words e1)) rfl rfl rfl ?_
  refine j_alloc (x := (Vector.replicate 64 (0#32))) (R := (vec 64 u32)) (zero_vec 64 zero_un) (by kernel_rfl) rfl fun b3 => ?_
  refine j_store_boxx (r' := r1) (has_tmp rfl) (has_tmp rfl) .here (Path.all (vec 64 u32)) (by kernel_rfl) rfl ?_
  refine j_freezeTo (t := 5) .here (.of_lk rfl) ?_
  refine j_end ?_
  refine run_seq ?_
  refine run_text ?_
  obtain ⟨r2, e2, h⟩ := bind_some h
  refine j_pure (pj_call (hasL_nil) (by kernel_rfl) (c_rolodexref02_K e2)) rfl rfl rfl ?_
  refine j_alloc (x := (Vector.replicate 64 (0#32))) (R := (vec 64 u32)) (zero_vec 64 zero_un) (by kernel_rfl) rfl fun b4 => ?_
  refine j_store_boxx (r' := r2) (has_tmp rfl) (has_tmp rfl) .here (Path.all (vec 64 u32)) (by kernel_rfl) rfl ?_
  refine j_freezeTo (t := 6) .here (.of_lk rfl) ?_
  refine j_end ?_
  refine run_seq ?_
  refine run_text ?_
  refine j_pure (pj_load_box (has_tmp rfl) (.next .here) (Path.all (vec 8 u32)) (by kernel_rfl)) rfl rfl rfl ?_
  refine j_alloc (x := (Vector.replicate 8 (0#32))) (R := (vec 8 u32)) (zero_vec 8 zero_un) (by kernel_rfl) rfl fun b5 => ?_
  refine j_store_boxx (r' := p_h) (has_tmp rfl) (has_tmp rfl) .here (Path.all (vec 8 u32)) (by kernel_rfl) rfl ?_
  refine j_end ?_
  refine run_seq ?_
  refine run_seq ?_
  refine run_text ?_
  refine j_pure (pj_assign has_i64) rfl rfl rfl ?_
  refine j_end ?_
  obtain ⟨⟨y3, y4⟩, e16, h⟩ := bind_some h
  refine run_loopS (Γi := fun (i : Unit) (s : Int × (Vector (BitVec 32) 8)) => [(2, val (.pointer (some ⟨b1, 0, none⟩))), (4, val (.pointer (some ⟨b2, 0, none⟩))), (5, ptrTo (vec 64 u32) r1), (6, ptrTo (vec 64 u32) r2), (7, val (.pointer (some ⟨b5, 0, none⟩))), (8, i64.slot s.1)]) (Hi := fun (i : Unit) (s : Int × (Vector (BitVec 32) 8)) => [box b5 105 (vec 8 u32) s.2, box b2 105 (vec 8 u32) (Vector.replicate 8 (0#32)), box b1 105 (vec 8 u32) p_h]) e16 () (fun a w hst => (hst.sub (.cons (.of_lk rfl) <| .cons (.of_lk rfl) <| .cons (.of_lk rfl) <| .cons (.of_lk rfl) <| .cons (.of_lk rfl) <| .cons (.of_lk rfl) <| .nil)).keep (.cons .here <| .cons .here <| .cons .here <| .nil)) ?_ ?_
  · clear h e16
    rintro _ ⟨y1, y2⟩ lr h
    change rolodexref02_take_L1 r2 r1 y1 y2 = some _ at h
    show Run _ _ _ [(2, val (.pointer (some ⟨b1, 0, none⟩))), (4, val (.pointer (some ⟨b2, 0, none⟩))), (5, ptrTo (vec 64 u32) r1), (6, ptrTo (vec 64 u32) r2), (7, val (.pointer (some ⟨b5, 0, none⟩))), (8, i64.slot y1)] [box b5 105 (vec 8 u32) y2, box b2 105 (vec 8 u32) (Vector.replicate 8 (0#32)), box b1 105 (vec 8 u32) p_h]
    unfold rolodexref02_take_L1 at h
    refine run_seq ?_
    refine run_seq ?_
    refine run_text ?_
    refine j_pure (pj_move (has_tmp rfl)) rfl rfl rfl ?_
    refine j_pure (pj_ilss (has_tmp rfl) has_i64) rfl rfl rfl ?_
    refine j_end ?_
    refine run_cond (has_tmp rfl) (fun e3 => ?_) (fun e3 => ?_)
    · replace h := bt e3 h
      refine run_skip ?_
      refine run_seq ?_
      refine run_block ?_
      refine run_seq ?_
      refine run_text ?_
      refine j_pure (pj_index_arr (n := 8) (sz := 1) (has_tmp rfl) has_i64 isInt_i64 (by decide) (by decide) (by kernel_rfl)) rfl rfl rfl ?_
      refine j_pure (pj_load_box (has_tmp rfl) .here (Path.then (Path.all (vec 8 u32)) (Path.at 8 u32 4 (by decide))) (by kernel_rfl)) rfl rfl rfl ?_
      refine j_pure (pj_index_arr (n := 8) (sz := 1) (has_tmp rfl) has_i64 isInt_i64 (by decide) (by decide) (by kernel_rfl)) rfl rfl rfl ?_
      refine j_pure (pj_load_box (has_tmp rfl) .here (Path.then (Path.all (vec 8 u32)) (Path.at 8 u32 5 (by decide))) (by kernel_rfl)) rfl rfl rfl ?_
      refine j_pure (pj_uand (k := .u32) (b := 32) rfl rfl (has_tmp rfl) (has_tmp rfl)) rfl rfl rfl ?_
      refine j_pure (pj_index_arr (n := 8) (sz := 1) (has_tmp rfl) has_i64 isInt_i64 (by decide) (by decide) (by kernel_rfl)) rfl rfl rfl ?_
      refine j_pure (pj_load_box (has_tmp rfl) .here (Path.then (Path.all (vec 8 u32)) (Path.at 8 u32 4 (by decide))) (by kernel_rfl)) rfl rfl rfl ?_
      refine j_pure (pj_usub (k := .u32) (b := 32) rfl rfl (has_un (x := 4294967295#32) rfl) (has_tmp rfl)) rfl rfl rfl ?_
      refine j_pure (pj_index_arr (n := 8) (sz := 1) (has_tmp rfl) has_i64 isInt_i64 (by decide) (by decide) (by kernel_rfl)) rfl rfl rfl ?_
      refine j_pure (pj_load_box (has_tmp rfl) .here (Path.then (Path.all (vec 8 u32)) (Path.at 8 u32 6 (by decide))) (by kernel_rfl)) rfl rfl rfl ?_
      refine j_pure (pj_uand (k := .u32) (b := 32) rfl rfl (has_tmp rfl) (has_tmp rfl)) rfl rfl rfl ?_
      refine j_pure (pj_uor (k := .u32) (b := 32) rfl rfl (has_tmp rfl) (has_tmp rfl)) rfl rfl rfl ?_
      obtain ⟨x1, e4, h⟩ := bind_some h
      refine j_pure (PJ.eqv (pj_assign (has_tmp rfl)) (Option.some.inj e4)) rfl rfl rfl ?_
      refine j_end ?_
      refine run_seq ?_
      refine run_text ?_
      refine j_pure (pj_index_arr (n := 8) (sz := 1) (has_tmp rfl) has_i64 isInt_i64 (by decide) (by decide) (by kernel_rfl)) rfl rfl rfl ?_
      refine j_pure (pj_load_box (has_tmp rfl) .here (Path.then (Path.all (vec 8 u32)) (Path.at 8 u32 0 (by decide))) (by kernel_rfl)) rfl rfl rfl ?_
      refine j_pure (pj_index_arr (n := 8) (sz := 1) (has_tmp rfl) has_i64 isInt_i64 (by decide) (by decide) (by kernel_rfl)) rfl rfl rfl ?_
      refine j_pure (pj_load_box (has_tmp rfl) .here (Path.then (Path.all (vec 8 u32)) (Path.at 8 u32 1 (by decide))) (by kernel_rfl)) rfl rfl rfl ?_
      refine j_pure (pj_uand (k := .u32) (b := 32) rfl rfl (has_tmp rfl) (has_tmp rfl)) rfl rfl rfl ?_
      refine j_pure (pj_index_arr (n := 8) (sz := 1) (has_tmp rfl) has_i64 isInt_i64 (by decide) (by decide) (by kernel_rfl)) rfl rfl rfl ?_
      refine j_pure (pj_load_box (has_tmp rfl) .here (Path.then (Path.all (vec 8 u32)) (Path.at 8 u32 0 (by decide))) (by kernel_rfl)) rfl rfl rfl ?_
      refine j_pure (pj_index_arr (n := 8) (sz := 1) (has_tmp rfl) has_i64 isInt_i64 (by decide) (by decide) (by kernel_rfl)) rfl rfl rfl ?_
      refine j_pure (pj_load_box (has_tmp rfl) .here (Path.then (Path.all (vec 8 u32)) (Path.at 8 u32 2 (by decide))) (by kernel_rfl)) rfl rfl rfl ?_
      refine j_pure (pj_uand (k := .u32) (b := 32) rfl rfl (has_tmp rfl) (has_tmp rfl)) rfl rfl rfl ?_
      refine j_pure (pj_uor (k := .u32) (b := 32) rfl rfl (has_tmp rfl) (has_tmp rfl)) rfl rfl rfl ?_
      refine j_pure (pj_index_arr (n := 8) (sz := 1) (has_tmp rfl) has_i64 isInt_i64 (by decide) (by decide) (by kernel_rfl)) rfl rfl rfl ?_
      refine j_pure (pj_load_box (has_tmp rfl) .here (Path.then (Path.all (vec 8 u32)) (Path.at 8 u32 1 (by decide))) (by kernel_rfl)) rfl rfl rfl ?_
      refine j_pure (pj_index_arr (n := 8) (sz := 1) (has_tmp rfl) has_i64 isInt_i64 (by decide) (by decide) (by kernel_rfl)) rfl rfl rfl ?_
      refine j_pure (pj_load_box (has_tmp rfl) .here (Path.then (Path.all (vec 8 u32)) (Path.at 8 u32 2 (by decide))) (by kernel_rfl)) rfl rfl rfl ?_
      refine j_pure (pj_uand (k := .u32) (b := 32) rfl rfl (has_tmp rfl) (has_tmp rfl)) rfl rfl rfl ?_
      refine j_pure (pj_uor (k := .u32) (b := 32) rfl rfl (has_tmp rfl) (has_tmp rfl)) rfl rfl rfl ?_
      obtain ⟨x2, e5, h⟩ := bind_some h
      refine j_pure (PJ.eqv (pj_assign (has_tmp rfl)) (Option.some.inj e5)) rfl rfl rfl ?_
      refine j_end ?_
      refine run_seq ?_
      obtain ⟨r3, e6, h⟩ := bind_some h
      obtain ⟨r4, e7, h⟩ := bind_some h
      obtain ⟨r5, e8, h⟩ := bind_some h
      obtain ⟨x3, e9, h⟩ := bind_some h
      obtain ⟨x4, e10, h⟩ := bind_some h
      refine run_draw (n := 24) (by kernel_rfl) (by kernel_rfl) (by kernel_rfl) (by kernel_rfl) (.read (.plain rfl (pj_index_arr (n := 8) (sz := 1) (has_tmp rfl) has_i64 isInt_i64 (by decide) (by decide) (by kernel_rfl))) <| .read (.plain rfl (pj_load_box (has_tmp rfl) .here (Path.then (Path.all (vec 8 u32)) (Path.at 8 u32 7 (by decide))) (by kernel_rfl))) <| .read (.plain rfl (pj_index_arr (n := 8) (sz := 1) (has_tmp rfl) has_i64 isInt_i64 (by decide) (by decide) (by kernel_rfl))) <| .read (.plain rfl (pj_load_box (has_tmp rfl) .here (Path.then (Path.all (vec 8 u32)) (Path.at 8 u32 4 (by decide))) (by kernel_rfl))) <| .read (.plain rfl (pj_call (hasL_cons (has_tmp rfl) <| hasL_cons (has_un (x := 6#32) rfl) <| hasL_nil) (by kernel_rfl) (c_rolodexref02_turned e6))) <| .read (.plain rfl (pj_index_arr (n := 8) (sz := 1) (has_tmp rfl) has_i64 isInt_i64 (by decide) (by decide) (by kernel_rfl))) <| .read (.plain rfl (pj_load_box (has_tmp rfl) .here (Path.then (Path.all (vec 8 u32)) (Path.at 8 u32 4 (by decide))) (by kernel_rfl))) <| .read (.plain rfl (pj_call (hasL_cons (has_tmp rfl) <| hasL_cons (has_un (x := 11#32) rfl) <| hasL_nil) (by kernel_rfl) (c_rolodexref02_turned e7))) <| .read (.plain rfl (pj_uxor (k := .u32) (b := 32) rfl rfl (has_tmp rfl) (has_tmp rfl))) <| .read (.plain rfl (pj_index_arr (n := 8) (sz := 1) (has_tmp rfl) has_i64 isInt_i64 (by decide) (by decide) (by kernel_rfl))) <| .read (.plain rfl (pj_load_box (has_tmp rfl) .here (Path.then (Path.all (vec 8 u32)) (Path.at 8 u32 4 (by decide))) (by kernel_rfl))) <| .read (.plain rfl (pj_call (hasL_cons (has_tmp rfl) <| hasL_cons (has_un (x := 25#32) rfl) <| hasL_nil) (by kernel_rfl) (c_rolodexref02_turned e8))) <| .read (.plain rfl (pj_uxor (k := .u32) (b := 32) rfl rfl (has_tmp rfl) (has_tmp rfl))) <| .read (.plain rfl (pj_uadd (k := .u32) (b := 32) rfl rfl (has_tmp rfl) (has_tmp rfl))) <| .read (.plain rfl (pj_move (has_tmp rfl))) <| .read (.plain rfl (pj_uadd (k := .u32) (b := 32) rfl rfl (has_tmp rfl) (has_tmp rfl))) <| .read (.plain rfl (pj_move (has_tmp rfl))) <| .read (.plain rfl (pj_index_tox (has_tmp rfl) (has_tmp rfl) isInt_i64 e9 (by kernel_rfl))) <| .read (.plain rfl (pj_load_to (has_tmp rfl) (by kernel_rfl))) <| .read (.plain rfl (pj_uadd (k := .u32) (b := 32) rfl rfl (has_tmp rfl) (has_tmp rfl))) <| .read (.plain rfl (pj_move (has_tmp rfl))) <| .read (.plain rfl (pj_index_tox (has_tmp rfl) (has_tmp rfl) isInt_i64 e10 (by kernel_rfl))) <| .read (.plain rfl (pj_load_to (has_tmp rfl) (by kernel_rfl))) <| .read (.plain rfl (pj_uadd (k := .u32) (b := 32) rfl rfl (has_tmp rfl) (has_tmp rfl))) <| .nil) (j_to (Γ' := [(2, val (.pointer (some ⟨b1, 0, none⟩))), (4, val (.pointer (some ⟨b2, 0, none⟩))), (5, ptrTo (vec 64 u32) r1), (6, ptrTo (vec 64 u32) r2), (7, val (.pointer (some ⟨b5, 0, none⟩))), (8, i64.slot y1), (10, u32.slot x2), (74, u32.slot (((((y2[7]) + ((r3 ^^^ r4) ^^^ r5)) + x1) + x3) + x4))]) (H' := [box b5 105 (vec 8 u32) y2, box b2 105 (vec 8 u32) (Vector.replicate 8 (0#32)), box b1 105 (vec 8 u32) p_h]) (.cons (.of_lk rfl) <| .cons (.of_lk rfl) <| .cons (.of_lk rfl) <| .cons (.of_lk rfl) <| .cons (.of_lk rfl) <| .cons (.of_lk rfl) <| .cons (.of_lk rfl) <| .cons (.of_lk rfl) <| .nil) (.cons .here <| .cons .here <| .cons .here <| .nil) ?_)
      obtain ⟨x5, e11, h⟩ := bind_some h
      refine j_pure (PJ.eqv (pj_assign (has_tmp rfl)) (Option.some.inj e11)) rfl rfl rfl ?_
      refine j_end ?_
      refine run_seq ?_
      obtain ⟨r6, e12, h⟩ := bind_some h
      obtain ⟨r7, e13, h⟩ := bind_some h
      obtain ⟨r8, e14, h⟩ := bind_some h
      refine run_draw (n := 13) (by kernel_rfl) (by kernel_rfl) (by kernel_rfl) (by kernel_rfl) (.read (.plain rfl (pj_index_arr (n := 8) (sz := 1) (has_tmp rfl) has_i64 isInt_i64 (by decide) (by decide) (by kernel_rfl))) <| .read (.plain rfl (pj_load_box (has_tmp rfl) .here (Path.then (Path.all (vec 8 u32)) (Path.at 8 u32 0 (by decide))) (by kernel_rfl))) <| .read (.plain rfl (pj_call (hasL_cons (has_tmp rfl) <| hasL_cons (has_un (x := 2#32) rfl) <| hasL_nil) (by kernel_rfl) (c_rolodexref02_turned e12))) <| .read (.plain rfl (pj_index_arr (n := 8) (sz := 1) (has_tmp rfl) has_i64 isInt_i64 (by decide) (by decide) (by kernel_rfl))) <| .read (.plain rfl (pj_load_box (has_tmp rfl) .here (Path.then (Path.all (vec 8 u32)) (Path.at 8 u32 0 (by decide))) (by kernel_rfl))) <| .read (.plain rfl (pj_call (hasL_cons (has_tmp rfl) <| hasL_cons (has_un (x := 13#32) rfl) <| hasL_nil) (by kernel_rfl) (c_rolodexref02_turned e13))) <| .read (.plain rfl (pj_uxor (k := .u32) (b := 32) rfl rfl (has_tmp rfl) (has_tmp rfl))) <| .read (.plain rfl (pj_index_arr (n := 8) (sz := 1) (has_tmp rfl) has_i64 isInt_i64 (by decide) (by decide) (by kernel_rfl))) <| .read (.plain rfl (pj_load_box (has_tmp rfl) .here (Path.then (Path.all (vec 8 u32)) (Path.at 8 u32 0 (by decide))) (by kernel_rfl))) <| .read (.plain rfl (pj_call (hasL_cons (has_tmp rfl) <| hasL_cons (has_un (x := 22#32) rfl) <| hasL_nil) (by kernel_rfl) (c_rolodexref02_turned e14))) <| .read (.plain rfl (pj_uxor (k := .u32) (b := 32) rfl rfl (has_tmp rfl) (has_tmp rfl))) <| .read (.plain rfl (pj_move (has_tmp rfl))) <| .read (.plain rfl (pj_uadd (k := .u32) (b := 32) rfl rfl (has_tmp rfl) (has_tmp rfl))) <| .nil) (j_to (Γ' := [(2, val (.pointer (some ⟨b1, 0, none⟩))), (4, val (.pointer (some ⟨b2, 0, none⟩))), (5, ptrTo (vec 64 u32) r1), (6, ptrTo (vec 64 u32) r2), (7, val (.pointer (some ⟨b5, 0, none⟩))), (8, i64.slot y1), (11, u32.slot x5), (87, u32.slot (((r6 ^^^ r7) ^^^ r8) + x2))]) (H' := [box b5 105 (vec 8 u32) y2, box b2 105 (vec 8 u32) (Vector.replicate 8 (0#32)), box b1 105 (vec 8 u32) p_h]) (.cons (.of_lk rfl) <| .cons (.of_lk rfl) <| .cons (.of_lk rfl) <| .cons (.of_lk rfl) <| .cons (.of_lk rfl) <| .cons (.of_lk rfl) <| .cons (.of_lk rfl) <| .cons (.of_lk rfl) <| .nil) (.cons .here <| .cons .here <| .cons .here <| .nil) ?_)
      refine j_pure (pj_assign (has_tmp rfl)) rfl rfl rfl ?_
      refine j_end ?_
      refine run_text ?_
      refine j_pure (pj_move (has_tmp rfl)) rfl rfl rfl ?_
      refine j_pure (pj_move (has_tmp rfl)) rfl rfl rfl ?_
      refine j_pure (pj_uadd (k := .u32) (b := 32) rfl rfl (has_tmp rfl) (has_tmp rfl)) rfl rfl rfl ?_
      refine j_pure (pj_index_arr (n := 8) (sz := 1) (has_tmp rfl) has_i64 isInt_i64 (by decide) (by decide) (by kernel_rfl)) rfl rfl rfl ?_
      refine j_pure (pj_load_box (has_tmp rfl) .here (Path.then (Path.all (vec 8 u32)) (Path.at 8 u32 0 (by decide))) (by kernel_rfl)) rfl rfl rfl ?_
      refine j_pure (pj_index_arr (n := 8) (sz := 1) (has_tmp rfl) has_i64 isInt_i64 (by decide) (by decide) (by kernel_rfl)) rfl rfl rfl ?_
      refine j_pure (pj_load_box (has_tmp rfl) .here (Path.then (Path.all (vec 8 u32)) (Path.at 8 u32 1 (by decide))) (by kernel_rfl)) rfl rfl rfl ?_
      refine j_pure (pj_index_arr (n := 8) (sz := 1) (has_tmp rfl) has_i64 isInt_i64 (by decide) (by decide) (by kernel_rfl)) rfl rfl rfl ?_
      refine j_pure (pj_load_box (has_tmp rfl) .here (Path.then (Path.all (vec 8 u32)) (Path.at 8 u32 2 (by decide))) (by kernel_rfl)) rfl rfl rfl ?_
      refine j_pure (pj_index_arr (n := 8) (sz := 1) (has_tmp rfl) has_i64 isInt_i64 (by decide) (by decide) (by kernel_rfl)) rfl rfl rfl ?_
      refine j_pure (pj_load_box (has_tmp rfl) .here (Path.then (Path.all (vec 8 u32)) (Path.at 8 u32 3 (by decide))) (by kernel_rfl)) rfl rfl rfl ?_
      refine j_pure (pj_move (has_tmp rfl)) rfl rfl rfl ?_
      refine j_pure (pj_uadd (k := .u32) (b := 32) rfl rfl (has_tmp rfl) (has_tmp rfl)) rfl rfl rfl ?_
      refine j_pure (pj_index_arr (n := 8) (sz := 1) (has_tmp rfl) has_i64 isInt_i64 (by decide) (by decide) (by kernel_rfl)) rfl rfl rfl ?_
      refine j_pure (pj_load_box (has_tmp rfl) .here (Path.then (Path.all (vec 8 u32)) (Path.at 8 u32 4 (by decide))) (by kernel_rfl)) rfl rfl rfl ?_
      refine j_pure (pj_index_arr (n := 8) (sz := 1) (has_tmp rfl) has_i64 isInt_i64 (by decide) (by decide) (by kernel_rfl)) rfl rfl rfl ?_
      refine j_pure (pj_load_box (has_tmp rfl) .here (Path.then (Path.all (vec 8 u32)) (Path.at 8 u32 5 (by decide))) (by kernel_rfl)) rfl rfl rfl ?_
      refine j_pure (pj_index_arr (n := 8) (sz := 1) (has_tmp rfl) has_i64 isInt_i64 (by decide) (by decide) (by kernel_rfl)) rfl rfl rfl ?_
      refine j_pure (pj_load_box (has_tmp rfl) .here (Path.then (Path.all (vec 8 u32)) (Path.at 8 u32 6 (by decide))) (by kernel_rfl)) rfl rfl rfl ?_
      obtain ⟨x6, e15, h⟩ := bind_some h
      refine j_pure (PJ.eqv (pj_buildArr (z0 := 0#32) (zero_vec 8 zero_un) (by kernel_rfl) (.cons (has_tmp rfl) (.cons (has_tmp rfl) (.cons (has_tmp rfl) (.cons (has_tmp rfl) (.cons (has_tmp rfl) (.cons (has_tmp rfl) (.cons (has_tmp rfl) (.cons (has_tmp rfl) .nil)))))))) (by kernel_rfl) rfl) (Option.some.inj e15)) rfl rfl rfl ?_
      refine j_store_boxx (r' := x6) (has_tmp rfl) (has_tmp rfl) .here (Path.all (vec 8 u32)) (by kernel_rfl) rfl ?_
      refine j_end ?_
      refine run_endblock ?_
      refine run_text ?_
      refine j_pure (pj_move (has_tmp rfl)) rfl rfl rfl ?_
      refine j_pure (pj_iadd (has_tmp rfl) has_i64) rfl rfl rfl ?_
      refine j_pure (pj_assign (has_tmp rfl)) rfl rfl rfl ?_
      refine j_end ?_
      obtain rfl := Option.some.inj h
      exact run_next () (.cons (.of_lk rfl) <| .cons (.of_lk rfl) <| .cons (.of_lk rfl) <| .cons (.of_lk rfl) <| .cons (.of_lk rfl) <| .cons (.of_lk rfl) <| .nil) (.cons .here <| .cons .here <| .cons .here <| .nil)
    · replace h := bf e3 h
      obtain rfl := Option.some.inj h
      exact run_brk () (.cons (.of_lk rfl) <| .cons (.of_lk rfl) <| .cons (.of_lk rfl) <| .cons (.of_lk rfl) <| .cons (.of_lk rfl) <| .cons (.of_lk rfl) <| .nil) (.cons .here <| .cons .here <| .cons .here <| .nil)
  · rintro _
    show Run _ _ _ [(2, val (.pointer (some ⟨b1, 0, none⟩))), (4, val (.pointer (some ⟨b2, 0, none⟩))), (5, ptrTo (vec 64 u32) r1), (6, ptrTo (vec 64 u32) r2), (7, val (.pointer (some ⟨b5, 0, none⟩))), (8, i64.slot y3)] [box b5 105 (vec 8 u32) y4, box b2 105 (vec 8 u32) (Vector.replicate 8 (0#32)), box b1 105 (vec 8 u32) p_h]
    refine run_to (Γ' := [(2, val (.pointer (some ⟨b1, 0, none⟩))), (4, val (.pointer (some ⟨b2, 0, none⟩))), (7, val (.pointer (some ⟨b5, 0, none⟩)))]) (H' := [box b5 105 (vec 8 u32) y4, box b2 105 (vec 8 u32) (Vector.replicate 8 (0#32)), box b1 105 (vec 8 u32) p_h]) (.cons (.of_lk rfl) <| .cons (.of_lk rfl) <| .cons (.of_lk rfl) <| .nil) (.cons .here <| .cons .here <| .cons .here <| .nil) ?_
    refine run_seq ?_
    refine run_seq ?_
    refine run_text ?_
    refine j_pure (pj_assign has_i64) rfl rfl rfl ?_
    refine j_end ?_
    obtain ⟨⟨y7, y8⟩, e21, h⟩ := bind_some h
    refine run_loopS (Γi := fun (i : Unit) (s : Int × (Vector (BitVec 32) 8)) => [(2, val (.pointer (some ⟨b1, 0, none⟩))), (4, val (.pointer (some ⟨b2, 0, none⟩))), (7, val (.pointer (some ⟨b5, 0, none⟩))), (13, i64.slot s.1)]) (Hi := fun (i : Unit) (s : Int × (Vector (BitVec 32) 8)) => [box b5 105 (vec 8 u32) y4, box b2 105 (vec 8 u32) (Vector.replicate 8 (0#32)), box b1 105 (vec 8 u32) s.2]) e21 () (fun a w hst => (hst.sub (.cons (.of_lk rfl) <| .cons (.of_lk rfl) <| .cons (.of_lk rfl) <| .cons (.of_lk rfl) <| .nil)).keep (.cons .here <| .cons .here <| .cons .here <| .nil)) ?_ ?_
    · clear h e21
      rintro _ ⟨y5, y6⟩ lr h
      change rolodexref02_take_L2 y4 y5 y6 = some _ at h
      show Run _ _ _ [(2, val (.pointer (some ⟨b1, 0, none⟩))), (4, val (.pointer (some ⟨b2, 0, none⟩))), (7, val (.pointer (some ⟨b5, 0, none⟩))), (13, i64.slot y5)] [box b5 105 (vec 8 u32) y4, box b2 105 (vec 8 u32) (Vector.replicate 8 (0#32)), box b1 105 (vec 8 u32) y6]
      unfold rolodexref02_take_L2 at h
      refine run_seq ?_
      refine run_seq ?_
      refine run_text ?_
      refine j_pure (pj_move (has_tmp rfl)) rfl rfl rfl ?_
      refine j_pure (pj_ilss (has_tmp rfl) has_i64) rfl rfl rfl ?_
      refine j_end ?_
      refine run_cond (has_tmp rfl) (fun e17 => ?_) (fun e17 => ?_)
      · replace h := bt e17 h
        refine run_skip ?_
        refine run_seq ?_
        refine run_block ?_
        obtain ⟨x7, e18, h⟩ := bind_some h
        obtain ⟨x8, e19, h⟩ := bind_some h
        refine run_draw (n := 7) (by kernel_rfl) (by kernel_rfl) (by kernel_rfl) (by kernel_rfl) (.read (.plain rfl (pj_move (has_tmp rfl))) <| .read (.plain rfl (pj_index_arr (n := 8) (sz := 1) (has_tmp rfl) (has_tmp rfl) isInt_i64 (vget_some e18).1 (vget_lt e18) (by kernel_rfl))) <| .read (.plain rfl (PJ.eqv (pj_load_box (has_tmp rfl) (.next (.next .here)) (Path.then (Path.all (vec 8 u32)) (Path.atI 8 u32 y5.toNat (vget_some e18).2.1)) (by kernel_rfl)) (vget_eq e18 (vget_some e18).2.1))) <| .read (.plain rfl (pj_move (has_tmp rfl))) <| .read (.plain rfl (pj_index_arr (n := 8) (sz := 1) (has_tmp rfl) (has_tmp rfl) isInt_i64 (vget_some e19).1 (vget_lt e19) (by kernel_rfl))) <| .read (.plain rfl (PJ.eqv (pj_load_box (has_tmp rfl) .here (Path.then (Path.all (vec 8 u32)) (Path.atI 8 u32 y5.toNat (vget_some e19).2.1)) (by kernel_rfl)) (vget_eq e19 (vget_some e19).2.1))) <| .read (.plain rfl (pj_uadd (k := .u32) (b := 32) rfl rfl (has_tmp rfl) (has_tmp rfl))) <| .nil) (j_to (Γ' := [(2, val (.pointer (some ⟨b1, 0, none⟩))), (4, val (.pointer (some ⟨b2, 0, none⟩))), (7, val (.pointer (some ⟨b5, 0, none⟩))), (13, i64.slot y5), (112, i64.slot y5), (118, u32.slot (x7 + x8))]) (H' := [box b5 105 (vec 8 u32) y4, box b2 105 (vec 8 u32) (Vector.replicate 8 (0#32)), box b1 105 (vec 8 u32) y6]) (.cons (.of_lk rfl) <| .cons (.of_lk rfl) <| .cons (.of_lk rfl) <| .cons (.of_lk rfl) <| .cons (.of_lk rfl) <| .cons (.of_lk rfl) <| .nil) (.cons .here <| .cons .here <| .cons .here <| .nil) ?_)
        obtain ⟨e20, h⟩ := grd_some h
        refine j_pure (pj_index_arr (n := 8) (sz := 1) (has_tmp rfl) (has_tmp rfl) isInt_i64 e20.1 e20.2 (by kernel_rfl)) rfl rfl rfl ?_
        refine j_store_boxx (r' := (y6.setIfInBounds y5.toNat (x7 + x8))) (has_tmp rfl) (has_tmp rfl) (.next (.next .here)) (Path.then (Path.all (vec 8 u32)) (Path.atI 8 u32 y5.toNat (lt_nat e20))) (by kernel_rfl) rfl ?_
        refine j_end ?_
        refine run_endblock ?_
        refine run_text ?_
        refine j_pure (pj_move (has_tmp rfl)) rfl rfl rfl ?_
        refine j_pure (pj_iadd (has_tmp rfl) has_i64) rfl rfl rfl ?_
        refine j_pure (pj_assign (has_tmp rfl)) rfl rfl rfl ?_
        refine j_end ?_
        obtain rfl := Option.some.inj h
        exact run_next () (.cons (.of_lk rfl) <| .cons (.of_lk rfl) <| .cons (.of_lk rfl) <| .cons (.of_lk rfl) <| .nil) (.cons (.next .here) <| .cons (.next .here) <| .cons .here <| .nil)
      · replace h := bf e17 h
        obtain rfl := Option.some.inj h
        exact run_brk () (.cons (.of_lk rfl) <| .cons (.of_lk rfl) <| .cons (.of_lk rfl) <| .cons (.of_lk rfl) <| .nil) (.cons .here <| .cons .here <| .cons .here <| .nil)
    · rintro _
      show Run _ _ _ [(2, val (.pointer (some ⟨b1, 0, none⟩))), (4, val (.pointer (some ⟨b2, 0, none⟩))), (7, val (.pointer (some ⟨b5, 0, none⟩))), (13, i64.slot y7)] [box b5 105 (vec 8 u32) y4, box b2 105 (vec 8 u32) (Vector.replicate 8 (0#32)), box b1 105 (vec 8 u32) y8]
      refine run_to (Γ' := [(2, val (.pointer (some ⟨b1, 0, none⟩))), (4, val (.pointer (some ⟨b2, 0, none⟩)))]) (H' := [box b2 105 (vec 8 u32) (Vector.replicate 8 (0#32)), box b1 105 (vec 8 u32) y8]) (.cons (.of_lk rfl) <| .cons (.of_lk rfl) <| .nil) (.cons (.next .here) <| .cons (.next .here) <| .nil) ?_
      refine run_seq ?_
      refine run_text ?_
      refine j_pure (pj_load_box (has_tmp rfl) (.next .here) (Path.all (vec 8 u32)) (by kernel_rfl)) rfl rfl rfl ?_
      refine j_store_boxx (r' := y8) (has_tmp rfl) (has_tmp rfl) .here (Path.all (vec 8 u32)) (by kernel_rfl) rfl ?_
      refine j_end ?_
      obtain rfl := Option.some.inj h
      exact run_ret fun a w hst => q_ret1 hst rfl (.cell rfl .here (by kernel_rfl)) () (fun _ _ h => h) (.nil)
set_option maxRecDepth 100000 in
set_option maxHeartbeats 4000000 in
theorem c_rolodexref02_Sum {G : GP} {p_b : List (BitVec 8)} {r : T_api_Hash} (h : rolodexref02_Sum p_b = some r) : Ctr Tryd.prog G 56 [(sl u8).slot p_b] [] (fun (_ : Unit) => R_api_Hash.slot r) (fun (_ : Unit) => []) := by
  unfold rolodexref02_Sum at h
  refine ctr_of_run Tryd.func56 rfl 42 rfl rfl fun m0 w0 b0 => ?_
  show Run _ _ _ [(0, (sl u8).slot p_b)] _
  refine run_seq ?_
  refine run_text ?_
  refine j_alloc (x := (Vector.replicate 32 (0#8))) (R := R_api_Hash) (zero_vec 32 zero_un) (by kernel_rfl) rfl fun b1 => ?_
  refine j_end ?_
  refine run_seq ?_
  refine run_text ?_
  obtain ⟨r1, e1, h⟩ := bind_some h
  refine j_pure (pj_call (hasL_nil) (by kernel_rfl) (c_rolodexref02_Start e1)) rfl rfl rfl ?_
  refine j_alloc (x := (Vector.replicate 8 (0#32))) (R := (vec 8 u32)) (zero_vec 8 zero_un) (by kernel_rfl) rfl fun b2 => ?_
  refine j_store_boxx (r' := r1) (has_tmp rfl) (has_tmp rfl) .here (Path.all (vec 8 u32)) (by kernel_rfl) rfl ?_
  refine j_end ?_
  refine run_seq ?_
  refine run_text ?_
  refine j_pure (pj_move (has_tmp rfl)) rfl rfl rfl ?_
  obtain ⟨r2, e2, h⟩ := bind_some h
  refine j_pure (pj_call (hasL_cons (has_tmp rfl) <| hasL_nil) (by kernel_rfl) (Ctr.froze (c_rolodexref02_Padded e2))) rfl rfl rfl ?_
  refine j_pure (pj_assign (has_tmp rfl)) rfl rfl rfl ?_
  refine j_end ?_
  refine run_seq ?_
  refine run_seq ?_
  refine run_text ?_
  refine j_pure (pj_assign has_i64) rfl rfl rfl ?_
  refine j_end ?_
  obtain ⟨⟨y3, y4⟩, e6, h⟩ := bind_some h
  refine run_loopS (Γi := fun (i : Unit) (s : Int × (Vector (BitVec 32) 8)) => [(2, val (.pointer (some ⟨b1, 0, none⟩))), (3, val (.pointer (some ⟨b2, 0, none⟩))), (4, (sl u8).slot r2), (5, i64.slot s.1)]) (Hi := fun (i : Unit) (s : Int × (Vector (BitVec 32) 8)) => [box b2 105 (vec 8 u32) s.2, box b1 25 R_api_Hash (Vector.replicate 32 (0#8))]) e6 () (fun a w hst => (hst.sub (.cons (.of_lk rfl) <| .cons (.of_lk rfl) <| .cons (.of_lk rfl) <| .cons (.of_lk rfl) <| .nil)).keep (.cons .here <| .cons .here <| .nil)) ?_ ?_
  · clear h e6
    rintro _ ⟨y1, y2⟩ lr h
    change rolodexref02_Sum_L1 r2 y1 y2 = some _ at h
    show Run _ _ _ [(2, val (.pointer (some ⟨b1, 0, none⟩))), (3, val (.pointer (some ⟨b2, 0, none⟩))), (4, (sl u8).slot r2), (5, i64.slot y1)] [box b2 105 (vec 8 u32) y2, box b1 25 R_api_Hash (Vector.replicate 32 (0#8))]
    unfold rolodexref02_Sum_L1 at h
    refine run_seq ?_
    refine run_seq ?_
    refine run_text ?_
    refine j_pure (pj_move (has_tmp rfl)) rfl rfl rfl ?_
    refine j_pure (pj_move (has_tmp rfl)) rfl rfl rfl ?_
    refine j_pure (pj_len_sl (sz := 1) (has_tmp rfl) (by kernel_rfl)) rfl rfl rfl ?_
    refine j_pure (pj_ilss (has_tmp rfl) (has_tmp rfl)) rfl rfl rfl ?_
    refine j_end ?_
    refine run_cond (has_tmp rfl) (fun e3 => ?_) (fun e3 => ?_)
    · replace h := bt e3 h
      refine run_skip ?_
      refine run_seq ?_
      refine run_block ?_
      obtain ⟨x1, e4, h⟩ := bind_some h
      obtain ⟨r3, e5, h⟩ := bind_some h
      refine run_draw (n := 7) (by kernel_rfl) (by kernel_rfl) (by kernel_rfl) (by kernel_rfl) (.read (.plain rfl (pj_load_box (has_tmp rfl) .here (Path.all (vec 8 u32)) (by kernel_rfl))) <| .read (.plain rfl (pj_move (has_tmp rfl))) <| .read (.plain rfl (pj_move (has_tmp rfl))) <| .read (.plain rfl (pj_move (has_tmp rfl))) <| .read (.plain rfl (pj_iadd (has_tmp rfl) has_i64)) <| .read (.plain rfl (pj_slice_slx (has_tmp rfl) (.yes (has_tmp rfl) isInt_i64) (.yes (has_tmp rfl) isInt_i64) e4 (by kernel_rfl))) <| .read (.plain rfl (pj_call (hasL_cons (has_tmp rfl) <| hasL_cons (has_tmp rfl) <| hasL_nil) (by kernel_rfl) (c_rolodexref02_take e5))) <| .nil) (j_to (Γ' := [(2, val (.pointer (some ⟨b1, 0, none⟩))), (3, val (.pointer (some ⟨b2, 0, none⟩))), (4, (sl u8).slot r2), (5, i64.slot y1), (23, (vec 8 u32).slot r3)]) (H' := [box b2 105 (vec 8 u32) y2, box b1 25 R_api_Hash (Vector.replicate 32 (0#8))]) (.cons (.of_lk rfl) <| .cons (.of_lk rfl) <| .cons (.of_lk rfl) <| .cons (.of_lk rfl) <| .cons (.of_lk rfl) <| .nil) (.cons .here <| .cons .here <| .nil) ?_)
      refine j_store_boxx (r' := r3) (has_tmp rfl) (has_tmp rfl) .here (Path.all (vec 8 u32)) (by kernel_rfl) rfl ?_
      refine j_end ?_
      refine run_endblock ?_
      refine run_text ?_
      refine j_pure (pj_move (has_tmp rfl)) rfl rfl rfl ?_
      refine j_pure (pj_iadd (has_tmp rfl) has_i64) rfl rfl rfl ?_
      refine j_pure (pj_assign (has_tmp rfl)) rfl rfl rfl ?_
      refine j_end ?_
      obtain rfl := Option.some.inj h
      exact run_next () (.cons (.of_lk rfl) <| .cons (.of_lk rfl) <| .cons (.of_lk rfl) <| .cons (.of_lk rfl) <| .nil) (.cons .here <| .cons .here <| .nil)
    · replace h := bf e3 h
      obtain rfl := Option.some.inj h
      exact run_brk () (.cons (.of_lk rfl) <| .cons (.of_lk rfl) <| .cons (.of_lk rfl) <| .cons (.of_lk rfl) <| .nil) (.cons .here <| .cons .here <| .nil)
  · rintro _
    show Run _ _ _ [(2, val (.pointer (some ⟨b1, 0, none⟩))), (3, val (.pointer (some ⟨b2, 0, none⟩))), (4, (sl u8).slot r2), (5, i64.slot y3)] [box b2 105 (vec 8 u32) y4, box b1 25 R_api_Hash (Vector.replicate 32 (0#8))]
    refine run_to (Γ' := [(2, val (.pointer (some ⟨b1, 0, none⟩))), (3, val (.pointer (some ⟨b2, 0, none⟩)))]) (H' := [box b2 105 (vec 8 u32) y4, box b1 25 R_api_Hash (Vector.replicate 32 (0#8))]) (.cons (.of_lk rfl) <| .cons (.of_lk rfl) <| .nil) (.cons .here <| .cons .here <| .nil) ?_
    refine run_seq ?_
    refine run_text ?_
    refine j_alloc (x := (Vector.replicate 32 (0#8))) (R := R_api_Hash) (zero_vec 32 zero_un) (by kernel_rfl) rfl fun b3 => ?_
    refine j_end ?_
    refine run_seq ?_
    refine run_seq ?_
    refine run_text ?_
    refine j_pure (pj_assign has_i64) rfl rfl rfl ?_
    refine j_end ?_
    obtain ⟨⟨y7, y8⟩, e11, h⟩ := bind_some h
    refine run_loopS (Γi := fun (i : Unit) (s : Int × T_api_Hash) => [(2, val (.pointer (some ⟨b1, 0, none⟩))), (3, val (.pointer (some ⟨b2, 0, none⟩))), (6, val (.pointer (some ⟨b3, 0, none⟩))), (7, i64.slot s.1)]) (Hi := fun (i : Unit) (s : Int × T_api_Hash) => [box b3 25 R_api_Hash s.2, box b2 105 (vec 8 u32) y4, box b1 25 R_api_Hash (Vector.replicate 32 (0#8))]) e11 () (fun a w hst => (hst.sub (.cons (.of_lk rfl) <| .cons (.of_lk rfl) <| .cons (.of_lk rfl) <| .cons (.of_lk rfl) <| .nil)).keep (.cons .here <| .cons .here <| .cons .here <| .nil)) ?_ ?_
    · clear h e11
      rintro _ ⟨y5, y6⟩ lr h
      change rolodexref02_Sum_L2 y4 y5 y6 = some _ at h
      show Run _ _ _ [(2, val (.pointer (some ⟨b1, 0, none⟩))), (3, val (.pointer (some ⟨b2, 0, none⟩))), (6, val (.pointer (some ⟨b3, 0, none⟩))), (7, i64.slot y5)] [box b3 25 R_api_Hash y6, box b2 105 (vec 8 u32) y4, box b1 25 R_api_Hash (Vector.replicate 32 (0#8))]
      unfold rolodexref02_Sum_L2 at h
      refine run_seq ?_
      refine run_seq ?_
      refine run_text ?_
      refine j_pure (pj_move (has_tmp rfl)) rfl rfl rfl ?_
      refine j_pure (pj_ilss (has_tmp rfl) has_i64) rfl rfl rfl ?_
      refine j_end ?_
      refine run_cond (has_tmp rfl) (fun e7 => ?_) (fun e7 => ?_)
      · replace h := bt e7 h
        refine run_skip ?_
        refine run_seq ?_
        refine run_block ?_
        refine run_text ?_
        refine j_pure (pj_move (has_tmp rfl)) rfl rfl rfl ?_
        refine j_pure (pj_move (has_tmp rfl)) rfl rfl rfl ?_
        refine j_pure (pj_iquo (has_tmp rfl) has_i64 (by decide)) rfl rfl rfl ?_
        obtain ⟨x2, e8, h⟩ := bind_some h
        refine j_pure (pj_index_arr (n := 8) (sz := 1) (has_tmp rfl) (has_tmp rfl) isInt_i64 (vget_some e8).1 (vget_lt e8) (by kernel_rfl)) rfl rfl rfl ?_
        refine j_pure (PJ.eqv (pj_load_box (has_tmp rfl) (.next .here) (Path.then (Path.all (vec 8 u32)) (Path.atI 8 u32 ((w64 (Int.tdiv y5 (4 : Int))).toNat) (vget_some e8).2.1)) (by kernel_rfl)) (vget_eq e8 (vget_some e8).2.1)) rfl rfl rfl ?_
        refine j_pure (pj_move (has_tmp rfl)) rfl rfl rfl ?_
        refine j_pure (pj_irem (has_tmp rfl) has_i64 (by decide)) rfl rfl rfl ?_
        refine j_pure (pj_conv_un (k := .u32) (b := 32) rfl rfl (by kernel_rfl) (has_tmp rfl) isInt_i64) rfl rfl rfl ?_
        refine j_pure (pj_umul (k := .u32) (b := 32) rfl rfl (has_un (x := 8#32) rfl) (has_tmp rfl)) rfl rfl rfl ?_
        refine j_pure (pj_usub (k := .u32) (b := 32) rfl rfl (has_un (x := 24#32) rfl) (has_tmp rfl)) rfl rfl rfl ?_
        refine j_pure (pj_ushr (k := .u32) (b := 32) rfl (has_tmp rfl) (has_tmp rfl) isInt_un (Int.natCast_nonneg _)) rfl rfl rfl ?_
        refine j_pure (pj_conv_uu (k := .u8) (b := 8) rfl rfl (by kernel_rfl) (has_tmp rfl)) rfl rfl rfl ?_
        obtain ⟨e9, h⟩ := grd_some h
        refine j_pure (pj_index_arr (n := 32) (sz := 1) (has_tmp rfl) (has_tmp rfl) isInt_i64 e9.1 e9.2 (by kernel_rfl)) rfl rfl rfl ?_
        obtain ⟨x3, e10, h⟩ := bind_some h
        refine j_store_boxx (r' := x3) (has_tmp rfl) (has_tmp rfl) .here (Path.then (Path.all R_api_Hash) (Path.atI 32 u8 y5.toNat (lt_nat e9))) (by kernel_rfl) (Option.some.inj e10) ?_
        refine j_end ?_
        refine run_endblock ?_
        refine run_text ?_
        refine j_pure (pj_move (has_tmp rfl)) rfl rfl rfl ?_
        refine j_pure (pj_iadd (has_tmp rfl) has_i64) rfl rfl rfl ?_
        refine j_pure (pj_assign (has_tmp rfl)) rfl rfl rfl ?_
        refine j_end ?_
        obtain rfl := Option.some.inj h
        exact run_next () (.cons (.of_lk rfl) <| .cons (.of_lk rfl) <| .cons (.of_lk rfl) <| .cons (.of_lk rfl) <| .nil) (.cons .here <| .cons .here <| .cons .here <| .nil)
      · replace h := bf e7 h
        obtain rfl := Option.some.inj h
        exact run_brk () (.cons (.of_lk rfl) <| .cons (.of_lk rfl) <| .cons (.of_lk rfl) <| .cons (.of_lk rfl) <| .nil) (.cons .here <| .cons .here <| .cons .here <| .nil)
    · rintro _
      show Run _ _ _ [(2, val (.pointer (some ⟨b1, 0, none⟩))), (3, val (.pointer (some ⟨b2, 0, none⟩))), (6, val (.pointer (some ⟨b3, 0, none⟩))), (7, i64.slot y7)] [box b3 25 R_api_Hash y8, box b2 105 (vec 8 u32) y4, box b1 25 R_api_Hash (Vector.replicate 32 (0#8))]
      refine run_to (Γ' := [(2, val (.pointer (some ⟨b1, 0, none⟩))), (6, val (.pointer (some ⟨b3, 0, none⟩)))]) (H' := [box b3 25 R_api_Hash y8, box b1 25 R_api_Hash (Vector.replicate 32 (0#8))]) (.cons (.of_lk rfl) <| .cons (.of_lk rfl) <| .nil) (.cons .here <| .cons (.next .here) <| .nil) ?_
      refine run_seq ?_
      refine run_text ?_
      refine j_pure (pj_load_box (has_tmp rfl) .here (Path.all R_api_Hash) (by kernel_rfl)) rfl rfl rfl ?_
      refine j_store_boxx (r' := y8) (has_tmp rfl) (has_tmp rfl) (.next .here) (Path.all R_api_Hash) (by kernel_rfl) rfl ?_
      refine j_end ?_
      obtain rfl := Option.some.inj h
      exact run_ret fun a w hst => q_ret1 hst rfl (.cell rfl .here (by kernel_rfl)) () (fun _ _ h => h) (.nil)
set_option maxRecDepth 100000 in
set_option maxHeartbeats 4000000 in
theorem c_rolodexref14_Commit {G : GP} {p_label : List (BitVec 8)} {p_v : T_rolodexref14_Version} {r : T_api_Hash} (h : rolodexref14_Commit p_label p_v = some r) : Ctr Tryd.prog G 25 [(sl u8).slot p_label, R_rolodexref14_Version.slot p_v] [] (fun (_ : Unit) => R_api_Hash.slot r) (fun (_ : Unit) => []) := by
  unfold rolodexref14_Commit at h
  refine ctr_of_run Tryd.func25 rfl 9 rfl rfl fun m0 w0 b0 => ?_
  show Run _ _ _ [(0, (sl u8).slot p_label), (1, R_rolodexref14_Version.slot p_v)] _
  refine run_seq ?_
  refine run_text ?_
  refine j_pure (pj_box_to (has_tmp rfl)) rfl rfl rfl ?_
  refine j_alloc (x := (Vector.replicate 32 (0#8))) (R := R_api_Hash) (zero_vec 32 zero_un) (by kernel_rfl) rfl fun b1 => ?_
  refine j_end ?_
  refine run_seq ?_
  refine run_text ?_
  refine j_pure (pj_move (has_tmp rfl)) rfl rfl rfl ?_
  refine j_pure (pj_load_to (has_tmp rfl) (by kernel_rfl)) rfl rfl rfl ?_
  obtain ⟨r1, e1, h⟩ := bind_some h
  refine j_pure (pj_call (hasL_cons (has_tmp rfl) <| hasL_cons (has_tmp rfl) <| hasL_nil) (by kernel_rfl) (Ctr.froze (c_rolodexref14_Text e1))) rfl rfl rfl ?_
  obtain ⟨r2, e2, h⟩ := bind_some h
  refine j_pure (pj_call (hasL_cons (has_tmp rfl) <| hasL_nil) (by kernel_rfl) (c_rolodexref02_Sum e2)) rfl rfl rfl ?_
  refine j_store_boxx (r' := r2) (has_tmp rfl) (has_tmp rfl) .here (Path.all R_api_Hash) (by kernel_rfl) rfl ?_
  refine j_end ?_
  obtain rfl := Option.some.inj h
  exact run_ret fun a w hst => q_ret1 hst rfl (.cell rfl .here (by kernel_rfl)) () (fun _ _ h => h) (.nil)
set_option maxRecDepth 100000 in
set_option maxHeartbeats 4000000 in
theorem c_rolodexref14_Formed {G : GP} {p_label : List (BitVec 8)} {p_l : List T_rolodexref14_Version} {r : Bool} (h : rolodexref14_Formed p_label p_l = some r) : Ctr Tryd.prog G 33 [(sl u8).slot p_label, (sl R_rolodexref14_Version).slot p_l] [] (fun (_ : Unit) => bl.slot r) (fun (_ : Unit) => []) := by
  unfold rolodexref14_Formed at h
  refine ctr_of_run Tryd.func33 rfl 84 rfl rfl fun m0 w0 b0 => ?_
  refine run_ret0 fun Qf hq1 hq2 => ?_
  show Run _ _ _ [(0, (sl u8).slot p_label), (1, (sl R_rolodexref14_Version).slot p_l)] _
  refine run_seq ?_
  refine run_text ?_
  refine j_pure (pj_assign has_bl) rfl rfl rfl ?_
  refine j_end ?_
  refine run_seq ?_
  refine run_seq ?_
  refine run_text ?_
  refine j_pure (pj_move (has_tmp rfl)) rfl rfl rfl ?_
  refine j_pure (pj_len_sl (sz := 1) (has_tmp rfl) (by kernel_rfl)) rfl rfl rfl ?_
  refine j_pure (pj_ieql (has_tmp rfl) has_i64) rfl rfl rfl ?_
  refine j_pure (pj_move (has_tmp rfl)) rfl rfl rfl ?_
  obtain ⟨y1, e2, h⟩ := bind_some h
  refine j_joinx (ι := Unit) (Γ' := fun _ => [(0, (sl u8).slot p_label), (1, (sl R_rolodexref14_Version).slot p_l), (14, bl.slot y1)]) (H' := fun _ => []) 4 ?_ fun J => ?_
  · intro _
    clear e2
    show OpsJ _ _ _ [(0, (sl u8).slot p_label), (1, (sl R_rolodexref14_Version).slot p_l), (14, bl.slot y1)] [] _
    refine j_pure (pj_move (has_tmp rfl)) rfl rfl rfl ?_
    obtain ⟨y2, e4, h⟩ := bind_some h
    refine j_joinx (ι := Unit) (Γ' := fun _ => [(0, (sl u8).slot p_label), (1, (sl R_rolodexref14_Version).slot p_l), (19, bl.slot y2)]) (H' := fun _ => []) 4 ?_ fun J => ?_
    · intro _
      clear e4
      show OpsJ _ _ _ [(0, (sl u8).slot p_label), (1, (sl R_rolodexref14_Version).slot p_l), (19, bl.slot y2)] [] _
      refine j_end ?_
      refine run_cond (has_tmp rfl) (fun e5 => ?_) (fun e5 => ?_)
      · replace h := bt e5 h
        refine run_seq ?_
        refine run_text ?_
        refine j_pure (pj_assign has_bl) rfl rfl rfl ?_
        refine j_end ?_
        obtain rfl := Option.some.inj h
        exact run_ret fun a w hst => q_ret1 hst rfl (.tmp rfl) () (fun _ _ h => h) (.nil)
      · replace h := bf e5 h
        refine run_skip ?_
        refine run_seq ?_
        refine run_seq ?_
        refine run_text ?_
        refine j_pure (pj_assign has_i64) rfl rfl rfl ?_
        refine j_end ?_
        obtain ⟨o, e26, h⟩ := bind_some h
        refine run_loop (Γi := fun (i : Unit) (s : Int) => [(0, (sl u8).slot p_label), (1, (sl R_rolodexref14_Version).slot p_l), (5, i64.slot s)]) (Hi := fun (i : Unit) (s : Int) => []) (R := fun x a w => x = r → Qf a w) e26 () (fun a w hst => (hst.sub (.cons (.of_lk rfl) <| .cons (.of_lk rfl) <| .cons (.of_lk rfl) <| .nil)).keep (.nil)) ?_ ?_ ?_
        · clear h e26
          rintro _ y3 lr h
          change rolodexref14_Formed_L1 p_l p_label y3 = some _ at h
          show Run _ _ _ [(0, (sl u8).slot p_label), (1, (sl R_rolodexref14_Version).slot p_l), (5, i64.slot y3)] []
          unfold rolodexref14_Formed_L1 at h
          refine run_seq ?_
          refine run_seq ?_
          refine run_text ?_
          refine j_pure (pj_move (has_tmp rfl)) rfl rfl rfl ?_
          refine j_pure (pj_move (has_tmp rfl)) rfl rfl rfl ?_
          refine j_pure (pj_len_sl (sz := 67) (has_tmp rfl) (by kernel_rfl)) rfl rfl rfl ?_
          refine j_pure (pj_ilss (has_tmp rfl) (has_tmp rfl)) rfl rfl rfl ?_
          refine j_end ?_
          refine run_cond (has_tmp rfl) (fun e6 => ?_) (fun e6 => ?_)
          · replace h := bt e6 h
            refine run_skip ?_
            refine run_seq ?_
            refine run_block ?_
            refine run_seq ?_
            refine run_text ?_
            refine j_pure (pj_move (has_tmp rfl)) rfl rfl rfl ?_
            refine j_pure (pj_move (has_tmp rfl)) rfl rfl rfl ?_
            obtain ⟨x1, e7, h⟩ := bind_some h
            refine j_pure (pj_index_slx (has_tmp rfl) (has_tmp rfl) isInt_i64 e7 (by kernel_rfl)) rfl rfl rfl ?_
            refine j_pure (pj_load_to (has_tmp rfl) (by kernel_rfl)) rfl rfl rfl ?_
            refine j_alloc (x := (0, 0, (Vector.replicate 32 (0#8)), (Vector.replicate 32 (0#8)), ([] : List (BitVec 8)))) (R := R_rolodexref14_Version) (zero_prod zero_i64 (zero_prod zero_i64 (zero_prod (zero_vec 32 zero_un) (zero_prod (zero_vec 32 zero_un) zero_sl)))) (by kernel_rfl) rfl fun b1 => ?_
            refine j_store_boxx (r' := x1) (has_tmp rfl) (has_tmp rfl) .here (Path.all R_rolodexref14_Version) (by kernel_rfl) rfl ?_
            refine j_freezeTo (t := 6) .here (.of_lk rfl) ?_
            refine j_end ?_
            refine run_seq ?_
            refine run_seq ?_
            refine run_text ?_
            refine j_pure (pj_field_to (has_tmp rfl) (Path.fst i64 (prod i64 (prod R_api_Hash (prod R_api_Hash (sl u8))))) (by kernel_rfl)) rfl rfl rfl ?_
            refine j_pure (pj_load_to (has_tmp rfl) (by kernel_rfl)) rfl rfl rfl ?_
            refine j_pure (pj_move (has_tmp rfl)) rfl rfl rfl ?_
            refine j_pure (pj_iadd (has_tmp rfl) has_i64) rfl rfl rfl ?_
            refine j_pure (pj_ineq (has_tmp rfl) (has_tmp rfl)) rfl rfl rfl ?_
            refine j_pure (pj_move (has_tmp rfl)) rfl rfl rfl ?_
            obtain ⟨y4, e9, h⟩ := bind_some h
            refine j_joinx (ι := Unit) (Γ' := fun _ => [(0, (sl u8).slot p_label), (1, (sl R_rolodexref14_Version).slot p_l), (5, i64.slot y3), (6, ptrTo R_rolodexref14_Version x1), (39, bl.slot y4)]) (H' := fun _ => []) 4 ?_ fun J => ?_
            · intro _
              clear e9
              show OpsJ _ _ _ [(0, (sl u8).slot p_label), (1, (sl R_rolodexref14_Version).slot p_l), (5, i64.slot y3), (6, ptrTo R_rolodexref14_Version x1), (39, bl.slot y4)] [] _
              refine j_pure (pj_move (has_tmp rfl)) rfl rfl rfl ?_
              obtain ⟨y5, e11, h⟩ := bind_some h
              refine j_joinx (ι := Unit) (Γ' := fun _ => [(0, (sl u8).slot p_label), (1, (sl R_rolodexref14_Version).slot p_l), (5, i64.slot y3), (6, ptrTo R_rolodexref14_Version x1), (44, bl.slot y5)]) (H' := fun _ => []) 4 ?_ fun J => ?_
              · intro _
                clear e11
                show OpsJ _ _ _ [(0, (sl u8).slot p_label), (1, (sl R_rolodexref14_Version).slot p_l), (5, i64.slot y3), (6, ptrTo R_rolodexref14_Version x1), (44, bl.slot y5)] [] _
                refine j_pure (pj_move (has_tmp rfl)) rfl rfl rfl ?_
                obtain ⟨y6, e13, h⟩ := bind_some h
                refine j_joinx (ι := Unit) (Γ' := fun _ => [(0, (sl u8).slot p_label), (1, (sl R_rolodexref14_Version).slot p_l), (5, i64.slot y3), (6, ptrTo R_rolodexref14_Version x1), (50, bl.slot y6)]) (H' := fun _ => []) 5 ?_ fun J => ?_
                · intro _
                  clear e13
                  show OpsJ _ _ _ [(0, (sl u8).slot p_label), (1, (sl R_rolodexref14_Version).slot p_l), (5, i64.slot y3), (6, ptrTo R_rolodexref14_Version x1), (50, bl.slot y6)] [] _
                  refine j_end ?_
                  refine run_cond (has_tmp rfl) (fun e14 => ?_) (fun e14 => ?_)
                  · replace h := bt e14 h
                    refine run_seq ?_
                    refine run_text ?_
                    refine j_pure (pj_assign has_bl) rfl rfl rfl ?_
                    refine j_end ?_
                    obtain rfl := Option.some.inj h
                    refine run_ret fun a w hst => ⟨rfl, fun hr => ?_⟩
                    subst hr
                    exact hq2 a w (q_ret1 hst rfl (.tmp rfl) () (fun _ _ h => h) (.nil))
                  · replace h := bf e14 h
                    refine run_skip ?_
                    refine run_seq ?_
                    refine run_seq ?_
                    refine run_text ?_
                    refine j_pure (pj_move (has_tmp rfl)) rfl rfl rfl ?_
                    refine j_pure (pj_ieql (has_tmp rfl) has_i64) rfl rfl rfl ?_
                    refine j_pure (pj_move (has_tmp rfl)) rfl rfl rfl ?_
                    obtain ⟨y7, e16, h⟩ := bind_some h
                    refine j_joinx (ι := Unit) (Γ' := fun _ => [(0, (sl u8).slot p_label), (1, (sl R_rolodexref14_Version).slot p_l), (5, i64.slot y3), (6, ptrTo R_rolodexref14_Version x1), (58, bl.slot y7)]) (H' := fun _ => []) 5 ?_ fun J => ?_
                    · intro _
                      clear e16
                      show OpsJ _ _ _ [(0, (sl u8).slot p_label), (1, (sl R_rolodexref14_Version).slot p_l), (5, i64.slot y3), (6, ptrTo R_rolodexref14_Version x1), (58, bl.slot y7)] [] _
                      refine j_end ?_
                      refine run_cond (has_tmp rfl) (fun e17 => ?_) (fun e17 => ?_)
                      · replace h := bt e17 h
                        refine run_seq ?_
                        refine run_text ?_
                        refine j_pure (pj_assign has_bl) rfl rfl rfl ?_
                        refine j_end ?_
                        obtain rfl := Option.some.inj h
                        refine run_ret fun a w hst => ⟨rfl, fun hr => ?_⟩
                        subst hr
                        exact hq2 a w (q_ret1 hst rfl (.tmp rfl) () (fun _ _ h => h) (.nil))
                      · replace h := bf e17 h
                        refine run_skip ?_
                        refine run_seq ?_
                        obtain ⟨y8, e19, h⟩ := bind_some h
                        refine (run_drawJ (n := 25) (Γ' := [(0, (sl u8).slot p_label), (1, (sl R_rolodexref14_Version).slot p_l), (5, i64.slot y3), (83, bl.slot y8)]) (H' := []) ?_ fun J => ?_)
                        · clear e19
                          refine j_end ?_
                          refine run_cond (has_tmp rfl) (fun e25 => ?_) (fun e25 => ?_)
                          · replace h := bt e25 h
                            refine run_seq ?_
                            refine run_text ?_
                            refine j_pure (pj_assign has_bl) rfl rfl rfl ?_
                            refine j_end ?_
                            obtain rfl := Option.some.inj h
                            refine run_ret fun a w hst => ⟨rfl, fun hr => ?_⟩
                            subst hr
                            exact hq2 a w (q_ret1 hst rfl (.tmp rfl) () (fun _ _ h => h) (.nil))
                          · replace h := bf e25 h
                            refine run_skip ?_
                            refine run_endblock ?_
                            refine run_text ?_
                            refine j_pure (pj_move (has_tmp rfl)) rfl rfl rfl ?_
                            refine j_pure (pj_iadd (has_tmp rfl) has_i64) rfl rfl rfl ?_
                            refine j_pure (pj_assign (has_tmp rfl)) rfl rfl rfl ?_
                            refine j_end ?_
                            obtain rfl := Option.some.inj h
                            exact run_next () (.cons (.of_lk rfl) <| .cons (.of_lk rfl) <| .cons (.of_lk rfl) <| .nil) (.nil)
                        · rcases bool_tf (decide ((0 : Int) < y3)) with e18 | e18
                          · replace e19 := bt e18 e19
                            obtain ⟨x2, e20, e19⟩ := bind_some e19
                            obtain ⟨y9, e22, e19⟩ := bind_some e19
                            rcases bool_tf (decide (x1.2.1 ≤ x2.2.1)) with e21 | e21
                            · replace e22 := bt e21 e22
                              exact run_draw (n := 25) (by kernel_rfl) (by kernel_rfl) (by kernel_rfl) (by kernel_rfl) (.read (.plain rfl (pj_move (has_tmp rfl))) <| .read (.plain rfl (pj_igtr (has_tmp rfl) has_i64)) <| .read (.plain rfl (pj_move (has_tmp rfl))) <| .read (.yes ⟨2, true, _, 61, _, rfl, rfl, rfl, fun _ _ => bl_p.1, gd_yes e18⟩ (pj_field_to (has_tmp rfl) (Path.then (Path.snd i64 (prod i64 (prod R_api_Hash (prod R_api_Hash (sl u8))))) (Path.fst i64 (prod R_api_Hash (prod R_api_Hash (sl u8))))) (by kernel_rfl))) <| .read (.yes ⟨2, true, _, 61, _, rfl, rfl, rfl, fun _ _ => bl_p.1, gd_yes e18⟩ (pj_load_to (has_tmp rfl) (by kernel_rfl))) <| .read (.yes ⟨2, true, _, 61, _, rfl, rfl, rfl, fun _ _ => bl_p.1, gd_yes e18⟩ (pj_move (has_tmp rfl))) <| .read (.yes ⟨2, true, _, 61, _, rfl, rfl, rfl, fun _ _ => bl_p.1, gd_yes e18⟩ (pj_move (has_tmp rfl))) <| .read (.yes ⟨2, true, _, 61, _, rfl, rfl, rfl, fun _ _ => bl_p.1, gd_yes e18⟩ (pj_isub (has_tmp rfl) has_i64)) <| .read (.yes ⟨2, true, _, 61, _, rfl, rfl, rfl, fun _ _ => bl_p.1, gd_yes e18⟩ (pj_index_slx (has_tmp rfl) (has_tmp rfl) isInt_i64 e20 (by kernel_rfl))) <| .read (.yes ⟨2, true, _, 61, _, rfl, rfl, rfl, fun _ _ => bl_p.1, gd_yes e18⟩ (pj_field_to (has_tmp rfl) (Path.then (Path.snd i64 (prod i64 (prod R_api_Hash (prod R_api_Hash (sl u8))))) (Path.fst i64 (prod R_api_Hash (prod R_api_Hash (sl u8))))) (by kernel_rfl))) <| .read (.yes ⟨2, true, _, 61, _, rfl, rfl, rfl, fun _ _ => bl_p.1, gd_yes e18⟩ (pj_load_to (has_tmp rfl) (by kernel_rfl))) <| .read (.yes ⟨2, true, _, 61, _, rfl, rfl, rfl, fun _ _ => bl_p.1, gd_yes e18⟩ (pj_ileq (has_tmp rfl) (has_tmp rfl))) <| .read (.yes ⟨2, true, _, 61, _, rfl, rfl, rfl, fun _ _ => bl_p.1, gd_yes e18⟩ (pj_move (has_tmp rfl))) <| .read (.no ⟨12, false, _, 71, _, rfl, rfl, rfl, fun _ _ => bl_p.1, gd_no e21⟩) <| .read (.no ⟨12, false, _, 71, _, rfl, rfl, rfl, fun _ _ => bl_p.1, gd_no e21⟩) <| .read (.no ⟨12, false, _, 71, _, rfl, rfl, rfl, fun _ _ => bl_p.1, gd_no e21⟩) <| .read (.no ⟨12, false, _, 71, _, rfl, rfl, rfl, fun _ _ => bl_p.1, gd_no e21⟩) <| .read (.no ⟨12, false, _, 71, _, rfl, rfl, rfl, fun _ _ => bl_p.1, gd_no e21⟩) <| .read (.no ⟨12, false, _, 71, _, rfl, rfl, rfl, fun _ _ => bl_p.1, gd_no e21⟩) <| .read (.no ⟨12, false, _, 71, _, rfl, rfl, rfl, fun _ _ => bl_p.1, gd_no e21⟩) <| .read (.no ⟨12, false, _, 71, _, rfl, rfl, rfl, fun _ _ => bl_p.1, gd_no e21⟩) <| .read (.no ⟨12, false, _, 71, _, rfl, rfl, rfl, fun _ _ => bl_p.1, gd_no e21⟩) <| .read (.no ⟨12, false, _, 71, _, rfl, rfl, rfl, fun _ _ => bl_p.1, gd_no e21⟩) <| .read (.yes ⟨2, true, _, 61, _, rfl, rfl, rfl, fun _ _ => bl_p.1, gd_yes e18⟩ (PJ.eqv (R := bl) (pj_pick (t := any) (has_tmp rfl) (fun _ => has_bl) (fun he => absurd (e21.symm.trans he) (by decide))) (Option.some.inj e22))) <| .read (.plain rfl (PJ.eqv (R := bl) (pj_pick (t := any) (has_tmp rfl) (fun _ => (has_tmp rfl)) (fun he => absurd (e18.symm.trans he) (by decide))) (Option.some.inj e19))) <| .nil) (j_to (Γ' := [(0, (sl u8).slot p_label), (1, (sl R_rolodexref14_Version).slot p_l), (5, i64.slot y3), (83, bl.slot y8)]) (H' := []) (.cons (.of_lk rfl) <| .cons (.of_lk rfl) <| .cons (.of_lk rfl) <| .cons (.of_lk rfl) <| .nil) (.nil) J)
                            · replace e22 := bf e21 e22
                              obtain ⟨x3, e23, e22⟩ := bind_some e22
                              obtain ⟨r1, e24, e22⟩ := bind_some e22
                              exact run_draw (n := 25) (by kernel_rfl) (by kernel_rfl) (by kernel_rfl) (by kernel_rfl) (.read (.plain rfl (pj_move (has_tmp rfl))) <| .read (.plain rfl (pj_igtr (has_tmp rfl) has_i64)) <| .read (.plain rfl (pj_move (has_tmp rfl))) <| .read (.yes ⟨2, true, _, 61, _, rfl, rfl, rfl, fun _ _ => bl_p.1, gd_yes e18⟩ (pj_field_to (has_tmp rfl) (Path.then (Path.snd i64 (prod i64 (prod R_api_Hash (prod R_api_Hash (sl u8))))) (Path.fst i64 (prod R_api_Hash (prod R_api_Hash (sl u8))))) (by kernel_rfl))) <| .read (.yes ⟨2, true, _, 61, _, rfl, rfl, rfl, fun _ _ => bl_p.1, gd_yes e18⟩ (pj_load_to (has_tmp rfl) (by kernel_rfl))) <| .read (.yes ⟨2, true, _, 61, _, rfl, rfl, rfl, fun _ _ => bl_p.1, gd_yes e18⟩ (pj_move (has_tmp rfl))) <| .read (.yes ⟨2, true, _, 61, _, rfl, rfl, rfl, fun _ _ => bl_p.1, gd_yes e18⟩ (pj_move (has_tmp rfl))) <| .read (.yes ⟨2, true, _, 61, _, rfl, rfl, rfl, fun _ _ => bl_p.1, gd_yes e18⟩ (pj_isub (has_tmp rfl) has_i64)) <| .read (.yes ⟨2, true, _, 61, _, rfl, rfl, rfl, fun _ _ => bl_p.1, gd_yes e18⟩ (pj_index_slx (has_tmp rfl) (has_tmp rfl) isInt_i64 e20 (by kernel_rfl))) <| .read (.yes ⟨2, true, _, 61, _, rfl, rfl, rfl, fun _ _ => bl_p.1, gd_yes e18⟩ (pj_field_to (has_tmp rfl) (Path.then (Path.snd i64 (prod i64 (prod R_api_Hash (prod R_api_Hash (sl u8))))) (Path.fst i64 (prod R_api_Hash (prod R_api_Hash (sl u8))))) (by kernel_rfl))) <| .read (.yes ⟨2, true, _, 61, _, rfl, rfl, rfl, fun _ _ => bl_p.1, gd_yes e18⟩ (pj_load_to (has_tmp rfl) (by kernel_rfl))) <| .read (.yes ⟨2, true, _, 61, _, rfl, rfl, rfl, fun _ _ => bl_p.1, gd_yes e18⟩ (pj_ileq (has_tmp rfl) (has_tmp rfl))) <| .read (.yes ⟨2, true, _, 61, _, rfl, rfl, rfl, fun _ _ => bl_p.1, gd_yes e18⟩ (pj_move (has_tmp rfl))) <| .read (.yes ⟨12, false, _, 71, _, rfl, rfl, rfl, fun _ _ => bl_p.1, gd_yes e21⟩ (pj_field_to (has_tmp rfl) (Path.then (Path.snd i64 (prod i64 (prod R_api_Hash (prod R_api_Hash (sl u8))))) (Path.then (Path.snd i64 (prod R_api_Hash (prod R_api_Hash (sl u8)))) (Path.then (Path.snd R_api_Hash (prod R_api_Hash (sl u8))) (Path.fst R_api_Hash (sl u8))))) (by kernel_rfl))) <| .read (.yes ⟨12, false, _, 71, _, rfl, rfl, rfl, fun _ _ => bl_p.1, gd_yes e21⟩ (pj_load_to (has_tmp rfl) (by kernel_rfl))) <| .read (.yes ⟨12, false, _, 71, _, rfl, rfl, rfl, fun _ _ => bl_p.1, gd_yes e21⟩ (pj_move (has_tmp rfl))) <| .read (.yes ⟨12, false, _, 71, _, rfl, rfl, rfl, fun _ _ => bl_p.1, gd_yes e21⟩ (pj_move (has_tmp rfl))) <| .read (.yes ⟨12, false, _, 71, _, rfl, rfl, rfl, fun _ _ => bl_p.1, gd_yes e21⟩ (pj_move (has_tmp rfl))) <| .read (.yes ⟨12, false, _, 71, _, rfl, rfl, rfl, fun _ _ => bl_p.1, gd_yes e21⟩ (pj_isub (has_tmp rfl) has_i64)) <| .read (.yes ⟨12, false, _, 71, _, rfl, rfl, rfl, fun _ _ => bl_p.1, gd_yes e21⟩ (pj_index_slx (has_tmp rfl) (has_tmp rfl) isInt_i64 e23 (by kernel_rfl))) <| .read (.yes ⟨12, false, _, 71, _, rfl, rfl, rfl, fun _ _ => bl_p.1, gd_yes e21⟩ (pj_load_to (has_tmp rfl) (by kernel_rfl))) <| .read (.yes ⟨12, false, _, 71, _, rfl, rfl, rfl, fun _ _ => bl_p.1, gd_yes e21⟩ (pj_call (hasL_cons (has_tmp rfl) <| hasL_cons (has_tmp rfl) <| hasL_nil) (by kernel_rfl) (c_rolodexref14_Commit e24))) <| .read (.yes ⟨12, false, _, 71, _, rfl, rfl, rfl, fun _ _ => bl_p.1, gd_yes e21⟩ (pj_neq (n := 2) (eq_vec (e := 5) (by kernel_rfl) (by kernel_rfl) (eq_un (by kernel_rfl))) (by decide) rfl (by kernel_rfl) (has_tmp rfl) (has_tmp rfl))) <| .read (.yes ⟨2, true, _, 61, _, rfl, rfl, rfl, fun _ _ => bl_p.1, gd_yes e18⟩ (PJ.eqv (R := bl) (pj_pick (t := any) (has_tmp rfl) (fun he => absurd (e21.symm.trans he) (by decide)) (fun _ => (has_tmp rfl))) (Option.some.inj e22))) <| .read (.plain rfl (PJ.eqv (R := bl) (pj_pick (t := any) (has_tmp rfl) (fun _ => (has_tmp rfl)) (fun he => absurd (e18.symm.trans he) (by decide))) (Option.some.inj e19))) <| .nil) (j_to (Γ' := [(0, (sl u8).slot p_label), (1, (sl R_rolodexref14_Version).slot p_l), (5, i64.slot y3), (83, bl.slot y8)]) (H' := []) (.cons (.of_lk rfl) <| .cons (.of_lk rfl) <| .cons (.of_lk rfl) <| .cons (.of_lk rfl) <| .nil) (.nil) J)
                          · replace e19 := bf e18 e19
                            exact run_draw (n := 25) (by kernel_rfl) (by kernel_rfl) (by kernel_rfl) (by kernel_rfl) (.read (.plain rfl (pj_move (has_tmp rfl))) <| .read (.plain rfl (pj_igtr (has_tmp rfl) has_i64)) <| .read (.plain rfl (pj_move (has_tmp rfl))) <| .read (.no ⟨2, true, _, 61, _, rfl, rfl, rfl, fun _ _ => bl_p.1, gd_no e18⟩) <| .read (.no ⟨2, true, _, 61, _, rfl, rfl, rfl, fun _ _ => bl_p.1, gd_no e18⟩) <| .read (.no ⟨2, true, _, 61, _, rfl, rfl, rfl, fun _ _ => bl_p.1, gd_no e18⟩) <| .read (.no ⟨2, true, _, 61, _, rfl, rfl, rfl, fun _ _ => bl_p.1, gd_no e18⟩) <| .read (.no ⟨2, true, _, 61, _, rfl, rfl, rfl, fun _ _ => bl_p.1, gd_no e18⟩) <| .read (.no ⟨2, true, _, 61, _, rfl, rfl, rfl, fun _ _ => bl_p.1, gd_no e18⟩) <| .read (.no ⟨2, true, _, 61, _, rfl, rfl, rfl, fun _ _ => bl_p.1, gd_no e18⟩) <| .read (.no ⟨2, true, _, 61, _, rfl, rfl, rfl, fun _ _ => bl_p.1, gd_no e18⟩) <| .read (.no ⟨2, true, _, 61, _, rfl, rfl, rfl, fun _ _ => bl_p.1, gd_no e18⟩) <| .read (.no ⟨2, true, _, 61, _, rfl, rfl, rfl, fun _ _ => bl_p.1, gd_no e18⟩) <| .read (.undef ⟨12, false, 71, rfl, rfl, rfl⟩) <| .read (.undef ⟨12, false, 71, rfl, rfl, rfl⟩) <| .read (.undef ⟨12, false, 71, rfl, rfl, rfl⟩) <| .read (.undef ⟨12, false, 71, rfl, rfl, rfl⟩) <| .read (.undef ⟨12, false, 71, rfl, rfl, rfl⟩) <| .read (.undef ⟨12, false, 71, rfl, rfl, rfl⟩) <| .read (.undef ⟨12, false, 71, rfl, rfl, rfl⟩) <| .read (.undef ⟨12, false, 71, rfl, rfl, rfl⟩) <| .read (.undef ⟨12, false, 71, rfl, rfl, rfl⟩) <| .read (.undef ⟨12, false, 71, rfl, rfl, rfl⟩) <| .read (.no ⟨2, true, _, 61, _, rfl, rfl, rfl, fun _ _ => bl_p.1, gd_no e18⟩) <| .read (.plain rfl (PJ.eqv (R := bl) (pj_pick (t := any) (has_tmp rfl) (fun he => absurd (e18.symm.trans he) (by decide)) (fun _ => has_bl)) (Option.some.inj e19))) <| .nil) (j_to (Γ' := [(0, (sl u8).slot p_label), (1, (sl R_rolodexref14_Version).slot p_l), (5, i64.slot y3), (83, bl.slot y8)]) (H' := []) (.cons (.of_lk rfl) <| .cons (.of_lk rfl) <| .cons (.of_lk rfl) <| .cons (.of_lk rfl) <| .nil) (.nil) J)
                    · rcases bool_tf (decide (y3 = (0 : Int))) with e15 | e15
                      · replace e16 := bt e15 e16
                        refine j_pure_y (pj_field_to (has_tmp rfl) (Path.then (Path.snd i64 (prod i64 (prod R_api_Hash (prod R_api_Hash (sl u8))))) (Path.then (Path.snd i64 (prod R_api_Hash (prod R_api_Hash (sl u8)))) (Path.then (Path.snd R_api_Hash (prod R_api_Hash (sl u8))) (Path.fst R_api_Hash (sl u8))))) (by kernel_rfl)) rfl rfl rfl rfl (bl_isx e15) rfl rfl ?_
                        refine j_pure_y (pj_load_to (has_tmp rfl) (by kernel_rfl)) rfl rfl rfl rfl (bl_isx e15) rfl rfl ?_
                        refine j_pure_y (pj_build (R := R_api_Hash) (zero_vec 32 zero_un) (by kernel_rfl) (by kernel_rfl) rfl .nil) rfl rfl rfl rfl (bl_isx e15) rfl rfl ?_
                        refine j_pure_y (pj_neq (n := 2) (eq_vec (e := 5) (by kernel_rfl) (by kernel_rfl) (eq_un (by kernel_rfl))) (by decide) rfl (by kernel_rfl) (has_tmp rfl) (has_tmp rfl)) rfl rfl rfl rfl (bl_isx e15) rfl rfl ?_
                        refine j_pure (PJ.eqv (R := bl) (pj_pick (t := any) (has_tmp rfl) (fun _ => (has_tmp rfl)) (fun he => absurd (e15.symm.trans he) (by decide))) (Option.some.inj e16)) rfl rfl rfl ?_
                        exact j_to (.cons (.of_lk rfl) <| .cons (.of_lk rfl) <| .cons (.of_lk rfl) <| .cons (.of_lk rfl) <| .cons (.of_lk rfl) <| .nil) (.nil) (J ())
                      · replace e16 := bf e15 e16
                        refine j_guard_no2 (j := 2) (want := true) rfl rfl rfl rfl (bl_isx e15) rfl rfl rfl ?_
                        refine j_guard_no2 (j := 2) (want := true) rfl rfl rfl rfl (bl_isx e15) rfl rfl rfl ?_
                        refine j_guard_no2 (j := 2) (want := true) rfl rfl rfl rfl (bl_isx e15) rfl rfl rfl ?_
                        refine j_guard_no2 (j := 2) (want := true) rfl rfl rfl rfl (bl_isx e15) rfl rfl rfl ?_
                        refine j_pure (PJ.eqv (R := bl) (pj_pick (t := any) (has_tmp rfl) (fun he => absurd (e15.symm.trans he) (by decide)) (fun _ => has_bl)) (Option.some.inj e16)) rfl rfl rfl ?_
                        exact j_to (.cons (.of_lk rfl) <| .cons (.of_lk rfl) <| .cons (.of_lk rfl) <| .cons (.of_lk rfl) <| .cons (.of_lk rfl) <| .nil) (.nil) (J ())
                · rcases bool_tf (y5) with e12 | e12
                  · replace e13 := bt e12 e13
                    refine j_guard_no2 (j := 15) (want := false) rfl rfl rfl rfl (bl_isx e12) rfl rfl rfl ?_
                    refine j_guard_no2 (j := 15) (want := false) rfl rfl rfl rfl (bl_isx e12) rfl rfl rfl ?_
                    refine j_guard_no2 (j := 15) (want := false) rfl rfl rfl rfl (bl_isx e12) rfl rfl rfl ?_
                    refine j_guard_no2 (j := 15) (want := false) rfl rfl rfl rfl (bl_isx e12) rfl rfl rfl ?_
                    refine j_pure (PJ.eqv (R := bl) (pj_pick (t := any) (has_tmp rfl) (fun _ => has_bl) (fun he => absurd (e12.symm.trans he) (by decide))) (Option.some.inj e13)) rfl rfl rfl ?_
                    exact j_to (.cons (.of_lk rfl) <| .cons (.of_lk rfl) <| .cons (.of_lk rfl) <| .cons (.of_lk rfl) <| .cons (.of_lk rfl) <| .nil) (.nil) (J ())
                  · replace e13 := bf e12 e13
                    refine j_pure_y (pj_field_to (has_tmp rfl) (Path.then (Path.snd i64 (prod i64 (prod R_api_Hash (prod R_api_Hash (sl u8))))) (Path.then (Path.snd i64 (prod R_api_Hash (prod R_api_Hash (sl u8)))) (Path.then (Path.snd R_api_Hash (prod R_api_Hash (sl u8))) (Path.snd R_api_Hash (sl u8))))) (by kernel_rfl)) rfl rfl rfl rfl (bl_isx e12) rfl rfl ?_
                    refine j_pure_y (pj_load_to (has_tmp rfl) (by kernel_rfl)) rfl rfl rfl rfl (bl_isx e12) rfl rfl ?_
                    refine j_pure_y (pj_len_sl (sz := 1) (has_tmp rfl) (by kernel_rfl)) rfl rfl rfl rfl (bl_isx e12) rfl rfl ?_
                    refine j_pure_y (pj_igtr (has_tmp rfl) has_i64) rfl rfl rfl rfl (bl_isx e12) rfl rfl ?_
                    refine j_pure (PJ.eqv (R := bl) (pj_pick (t := any) (has_tmp rfl) (fun he => absurd (e12.symm.trans he) (by decide)) (fun _ => (has_tmp rfl))) (Option.some.inj e13)) rfl rfl rfl ?_
                    exact j_to (.cons (.of_lk rfl) <| .cons (.of_lk rfl) <| .cons (.of_lk rfl) <| .cons (.of_lk rfl) <| .cons (.of_lk rfl) <| .nil) (.nil) (J ())
              · rcases bool_tf (y4) with e10 | e10
                · replace e11 := bt e10 e11
                  refine j_guard_no2 (j := 10) (want := false) rfl rfl rfl rfl (bl_isx e10) rfl rfl rfl ?_
                  refine j_guard_no2 (j := 10) (want := false) rfl rfl rfl rfl (bl_isx e10) rfl rfl rfl ?_
                  refine j_guard_no2 (j := 10) (want := false) rfl rfl rfl rfl (bl_isx e10) rfl rfl rfl ?_
                  refine j_pure (PJ.eqv (R := bl) (pj_pick (t := any) (has_tmp rfl) (fun _ => has_bl) (fun he => absurd (e10.symm.trans he) (by decide))) (Option.some.inj e11)) rfl rfl rfl ?_
                  exact j_to (.cons (.of_lk rfl) <| .cons (.of_lk rfl) <| .cons (.of_lk rfl) <| .cons (.of_lk rfl) <| .cons (.of_lk rfl) <| .nil) (.nil) (J ())
                · replace e11 := bf e10 e11
                  refine j_pure_y (pj_field_to (has_tmp rfl) (Path.then (Path.snd i64 (prod i64 (prod R_api_Hash (prod R_api_Hash (sl u8))))) (Path.fst i64 (prod R_api_Hash (prod R_api_Hash (sl u8))))) (by kernel_rfl)) rfl rfl rfl rfl (bl_isx e10) rfl rfl ?_
                  refine j_pure_y (pj_load_to (has_tmp rfl) (by kernel_rfl)) rfl rfl rfl rfl (bl_isx e10) rfl rfl ?_
                  refine j_pure_y (pj_igtr (has_tmp rfl) has_i64) rfl rfl rfl rfl (bl_isx e10) rfl rfl ?_
                  refine j_pure (PJ.eqv (R := bl) (pj_pick (t := any) (has_tmp rfl) (fun he => absurd (e10.symm.trans he) (by decide)) (fun _ => (has_tmp rfl))) (Option.some.inj e11)) rfl rfl rfl ?_
                  exact j_to (.cons (.of_lk rfl) <| .cons (.of_lk rfl) <| .cons (.of_lk rfl) <| .cons (.of_lk rfl) <| .cons (.of_lk rfl) <| .nil) (.nil) (J ())
            · rcases bool_tf (!decide (x1.1 = (w64 (y3 + (1 : Int))))) with e8 | e8
              · replace e9 := bt e8 e9
                refine j_guard_no2 (j := 5) (want := false) rfl rfl rfl rfl (bl_isx e8) rfl rfl rfl ?_
                refine j_guard_no2 (j := 5) (want := false) rfl rfl rfl rfl (bl_isx e8) rfl rfl rfl ?_
                refine j_guard_no2 (j := 5) (want := false) rfl rfl rfl rfl (bl_isx e8) rfl rfl rfl ?_
                refine j_pure (PJ.eqv (R := bl) (pj_pick (t := any) (has_tmp rfl) (fun _ => has_bl) (fun he => absurd (e8.symm.trans he) (by decide))) (Option.some.inj e9)) rfl rfl rfl ?_
                exact j_to (.cons (.of_lk rfl) <| .cons (.of_lk rfl) <| .cons (.of_lk rfl) <| .cons (.of_lk rfl) <| .cons (.of_lk rfl) <| .nil) (.nil) (J ())
              · replace e9 := bf e8 e9
                refine j_pure_y (pj_field_to (has_tmp rfl) (Path.then (Path.snd i64 (prod i64 (prod R_api_Hash (prod R_api_Hash (sl u8))))) (Path.fst i64 (prod R_api_Hash (prod R_api_Hash (sl u8))))) (by kernel_rfl)) rfl rfl rfl rfl (bl_isx e8) rfl rfl ?_
                refine j_pure_y (pj_load_to (has_tmp rfl) (by kernel_rfl)) rfl rfl rfl rfl (bl_isx e8) rfl rfl ?_
                refine j_pure_y (pj_ilss (has_tmp rfl) has_i64) rfl rfl rfl rfl (bl_isx e8) rfl rfl ?_
                refine j_pure (PJ.eqv (R := bl) (pj_pick (t := any) (has_tmp rfl) (fun he => absurd (e8.symm.trans he) (by decide)) (fun _ => (has_tmp rfl))) (Option.some.inj e9)) rfl rfl rfl ?_
                exact j_to (.cons (.of_lk rfl) <| .cons (.of_lk rfl) <| .cons (.of_lk rfl) <| .cons (.of_lk rfl) <| .cons (.of_lk rfl) <| .nil) (.nil) (J ())
          · replace h := bf e6 h
            obtain rfl := Option.some.inj h
            exact run_brk () (.cons (.of_lk rfl) <| .cons (.of_lk rfl) <| .cons (.of_lk rfl) <| .nil) (.nil)
        · rintro _ y10 ho
          subst ho
          show Run _ _ _ [(0, (sl u8).slot p_label), (1, (sl R_rolodexref14_Version).slot p_l), (5, i64.slot y10)] []
          refine run_to (Γ' := []) (H' := []) (.nil) (.nil) ?_
          refine run_seq ?_
          refine run_text ?_
          refine j_pure (pj_assign has_bl) rfl rfl rfl ?_
          refine j_end ?_
          obtain rfl := Option.some.inj h
          exact run_ret fun a w hst => q_ret1 hst rfl (.tmp rfl) () (fun _ _ h => h) (.nil)
        · intro x a w ho hR
          subst ho
          exact hq1 a w (hR (Option.some.inj h))
    · rcases bool_tf (y1) with e3 | e3
      · replace e4 := bt e3 e4
        refine j_guard_no2 (j := 8) (want := false) rfl rfl rfl rfl (bl_isx e3) rfl rfl rfl ?_
        refine j_guard_no2 (j := 8) (want := false) rfl rfl rfl rfl (bl_isx e3) rfl rfl rfl ?_
        refine j_guard_no2 (j := 8) (want := false) rfl rfl rfl rfl (bl_isx e3) rfl rfl rfl ?_
        refine j_pure (PJ.eqv (R := bl) (pj_pick (t := any) (has_tmp rfl) (fun _ => has_bl) (fun he => absurd (e3.symm.trans he) (by decide))) (Option.some.inj e4)) rfl rfl rfl ?_
        exact j_to (.cons (.of_lk rfl) <| .cons (.of_lk rfl) <| .cons (.of_lk rfl) <| .nil) (.nil) (J ())
      · replace e4 := bf e3 e4
        refine j_pure_y (pj_move (has_tmp rfl)) rfl rfl rfl rfl (bl_isx e3) rfl rfl ?_
        refine j_pure_y (pj_len_sl (sz := 67) (has_tmp rfl) (by kernel_rfl)) rfl rfl rfl rfl (bl_isx e3) rfl rfl ?_
        refine j_pure_y (pj_ieql (has_tmp rfl) has_i64) rfl rfl rfl rfl (bl_isx e3) rfl rfl ?_
        refine j_pure (PJ.eqv (R := bl) (pj_pick (t := any) (has_tmp rfl) (fun he => absurd (e3.symm.trans he) (by decide)) (fun _ => (has_tmp rfl))) (Option.some.inj e4)) rfl rfl rfl ?_
        exact j_to (.cons (.of_lk rfl) <| .cons (.of_lk rfl) <| .cons (.of_lk rfl) <| .nil) (.nil) (J ())
  · rcases bool_tf (decide ((p_label.length : Int) = (0 : Int))) with e1 | e1
    · replace e2 := bt e1 e2
      refine j_guard_no2 (j := 3) (want := false) rfl rfl rfl rfl (bl_isx e1) rfl rfl rfl ?_
      refine j_guard_no2 (j := 3) (want := false) rfl rfl rfl rfl (bl_isx e1) rfl rfl rfl ?_
      refine j_guard_no2 (j := 3) (want := false) rfl rfl rfl rfl (bl_isx e1) rfl rfl rfl ?_
      refine j_pure (PJ.eqv (R := bl) (pj_pick (t := any) (has_tmp rfl) (fun _ => has_bl) (fun he => absurd (e1.symm.trans he) (by decide))) (Option.some.inj e2)) rfl rfl rfl ?_
      exact j_to (.cons (.of_lk rfl) <| .cons (.of_lk rfl) <| .cons (.of_lk rfl) <| .nil) (.nil) (J ())
    · replace e2 := bf e1 e2
      refine j_pure_y (pj_move (has_tmp rfl)) rfl rfl rfl rfl (bl_isx e1) rfl rfl ?_
      refine j_pure_y (pj_len_sl (sz := 1) (has_tmp rfl) (by kernel_rfl)) rfl rfl rfl rfl (bl_isx e1) rfl rfl ?_
      refine j_pure_y (pj_igtr (has_tmp rfl) has_i64) rfl rfl rfl rfl (bl_isx e1) rfl rfl ?_
      refine j_pure (PJ.eqv (R := bl) (pj_pick (t := any) (has_tmp rfl) (fun he => absurd (e1.symm.trans he) (by decide)) (fun _ => (has_tmp rfl))) (Option.some.inj e2)) rfl rfl rfl ?_
      exact j_to (.cons (.of_lk rfl) <| .cons (.of_lk rfl) <| .cons (.of_lk rfl) <| .nil) (.nil) (J ())
set_option maxRecDepth 100000 in
set_option maxHeartbeats 4000000 in
theorem c_rolodexref14_Upto {G : GP} {p_l : List T_rolodexref14_Version} {p_epoch : Int} {r : (List T_rolodexref14_Version)} (h : rolodexref14_Upto p_l p_epoch = some r) : Ctr Tryd.prog G 36 [(sl R_rolodexref14_Version).slot p_l, i64.slot p_epoch] [] (fun (u0 : Value) => ov u0) (fun (u0 : Value) => [own 41 R_rolodexref14_Version u0 r]) := by
  unfold rolodexref14_Upto at h
  refine ctr_of_run Tryd.func36 rfl 30 rfl rfl fun m0 w0 b0 => ?_
  show Run _ _ _ [(0, (sl R_rolodexref14_Version).slot p_l), (1, i64.slot p_epoch)] _
  refine run_seq ?_
  refine run_text ?_
  refine j_assign_nil (T := 41) R_rolodexref14_Version rfl fun v1 => ?_
  refine j_end ?_
  refine run_seq ?_
  refine run_text ?_
  refine j_assign_nil (T := 41) R_rolodexref14_Version rfl fun v2 => ?_
  refine j_end ?_
  refine run_seq ?_
  refine run_seq ?_
  refine run_text ?_
  refine j_pure (pj_assign has_i64) rfl rfl rfl ?_
  refine j_end ?_
  obtain ⟨⟨y4, y5⟩, e7, h⟩ := bind_some h
  refine run_loopS (Γi := fun (i : Value) (s : Int × (List T_rolodexref14_Version)) => [(0, (sl R_rolodexref14_Version).slot p_l), (1, i64.slot p_epoch), (5, ov i), (6, i64.slot s.1)]) (Hi := fun (i : Value) (s : Int × (List T_rolodexref14_Version)) => [own 41 R_rolodexref14_Version i s.2]) e7 v2 (fun a w hst => (hst.sub (.cons (.of_lk rfl) <| .cons (.of_lk rfl) <| .cons (.of_lk rfl) <| .cons (.of_lk rfl) <| .nil)).keep (.cons .here <| .nil)) ?_ ?_
  · clear h e7
    rintro v3 ⟨y1, y2⟩ lr h
    change rolodexref14_Upto_L1 p_l p_epoch y1 y2 = some _ at h
    show Run _ _ _ [(0, (sl R_rolodexref14_Version).slot p_l), (1, i64.slot p_epoch), (5, ov v3), (6, i64.slot y1)] [own 41 R_rolodexref14_Version v3 y2]
    unfold rolodexref14_Upto_L1 at h
    refine run_seq ?_
    refine run_seq ?_
    refine run_text ?_
    refine j_pure (pj_move (has_tmp rfl)) rfl rfl rfl ?_
    refine j_pure (pj_move (has_tmp rfl)) rfl rfl rfl ?_
    refine j_pure (pj_len_sl (sz := 67) (has_tmp rfl) (by kernel_rfl)) rfl rfl rfl ?_
    refine j_pure (pj_ilss (has_tmp rfl) (has_tmp rfl)) rfl rfl rfl ?_
    refine j_pure (pj_move (has_tmp rfl)) rfl rfl rfl ?_
    obtain ⟨y3, e2, h⟩ := bind_some h
    refine j_joinx (ι := Unit) (Γ' := fun _ => [(0, (sl R_rolodexref14_Version).slot p_l), (1, i64.slot p_epoch), (5, ov v3), (6, i64.slot y1), (19, bl.slot y3)]) (H' := fun _ => [own 41 R_rolodexref14_Version v3 y2]) 8 ?_ fun J => ?_
    · intro _
      clear e2
      show OpsJ _ _ _ [(0, (sl R_rolodexref14_Version).slot p_l), (1, i64.slot p_epoch), (5, ov v3), (6, i64.slot y1), (19, bl.slot y3)] [own 41 R_rolodexref14_Version v3 y2] _
      refine j_end ?_
      refine run_cond (has_tmp rfl) (fun e4 => ?_) (fun e4 => ?_)
      · replace h := bt e4 h
        refine run_skip ?_
        refine run_seq ?_
        refine run_block ?_
        refine run_text ?_
        refine j_pure (pj_move (has_tmp rfl)) rfl rfl rfl ?_
        refine j_pure (pj_move (has_tmp rfl)) rfl rfl rfl ?_
        refine j_pure (pj_move (has_tmp rfl)) rfl rfl rfl ?_
        obtain ⟨x2, e5, h⟩ := bind_some h
        refine j_pure (pj_index_slx (has_tmp rfl) (has_tmp rfl) isInt_i64 e5 (by kernel_rfl)) rfl rfl rfl ?_
        refine j_pure (pj_load_to (has_tmp rfl) (by kernel_rfl)) rfl rfl rfl ?_
        refine j_pure (pj_buildSlice (T := 41) (R := R_rolodexref14_Version) (.cons (has_tmp rfl) .nil) rfl (by kernel_rfl) (by kernel_rfl)) rfl rfl rfl ?_
        obtain ⟨e6, h⟩ := grd_some h
        refine j_append (T := 41) (E := 41) (has_tmp rfl) .here (src_data (has_tmp rfl)) (by kernel_rfl) (by kernel_rfl) e6 rfl fun v4 => ?_
        refine j_pure (pj_assign (has_tmp rfl)) rfl rfl rfl ?_
        refine j_end ?_
        refine run_endblock ?_
        refine run_text ?_
        refine j_pure (pj_move (has_tmp rfl)) rfl rfl rfl ?_
        refine j_pure (pj_iadd (has_tmp rfl) has_i64) rfl rfl rfl ?_
        refine j_pure (pj_assign (has_tmp rfl)) rfl rfl rfl ?_
        refine j_end ?_
        obtain rfl := Option.some.inj h
        exact run_next v4 (.cons (.of_lk rfl) <| .cons (.of_lk rfl) <| .cons (.of_lk rfl) <| .cons (.of_lk rfl) <| .nil) (.cons .here <| .nil)
      · replace h := bf e4 h
        obtain rfl := Option.some.inj h
        exact run_brk v3 (.cons (.of_lk rfl) <| .cons (.of_lk rfl) <| .cons (.of_lk rfl) <| .cons (.of_lk rfl) <| .nil) (.cons .here <| .nil)
    · rcases bool_tf (decide (y1 < (p_l.length : Int))) with e1 | e1
      · replace e2 := bt e1 e2
        refine j_pure_y (pj_move (has_tmp rfl)) rfl rfl rfl rfl (bl_isx e1) rfl rfl ?_
        refine j_pure_y (pj_move (has_tmp rfl)) rfl rfl rfl rfl (bl_isx e1) rfl rfl ?_
        obtain ⟨x1, e3, e2⟩ := bind_some e2
        refine j_pure_y (pj_index_slx (has_tmp rfl) (has_tmp rfl) isInt_i64 e3 (by kernel_rfl)) rfl rfl rfl rfl (bl_isx e1) rfl rfl ?_
        refine j_pure_y (pj_field_to (has_tmp rfl) (Path.then (Path.snd i64 (prod i64 (prod R_api_Hash (prod R_api_Hash (sl u8))))) (Path.fst i64 (prod R_api_Hash (prod R_api_Hash (sl u8))))) (by kernel_rfl)) rfl rfl rfl rfl (bl_isx e1) rfl rfl ?_
        refine j_pure_y (pj_load_to (has_tmp rfl) (by kernel_rfl)) rfl rfl rfl rfl (bl_isx e1) rfl rfl ?_
        refine j_pure_y (pj_move (has_tmp rfl)) rfl rfl rfl rfl (bl_isx e1) rfl rfl ?_
        refine j_pure_y (pj_ileq (has_tmp rfl) (has_tmp rfl)) rfl rfl rfl rfl (bl_isx e1) rfl rfl ?_
        refine j_pure (PJ.eqv (R := bl) (pj_pick (t := any) (has_tmp rfl) (fun _ => (has_tmp rfl)) (fun he => absurd (e1.symm.trans he) (by decide))) (Option.some.inj e2)) rfl rfl rfl ?_
        exact j_to (.cons (.of_lk rfl) <| .cons (.of_lk rfl) <| .cons (.of_lk rfl) <| .cons (.of_lk rfl) <| .cons (.of_lk rfl) <| .nil) (.cons .here <| .nil) (J ())
      · replace e2 := bf e1 e2
        refine j_guard_no2 (j := 4) (want := true) rfl rfl rfl rfl (bl_isx e1) rfl rfl rfl ?_
        refine j_guard_no2 (j := 4) (want := true) rfl rfl rfl rfl (bl_isx e1) rfl rfl rfl ?_
        refine j_guard_no2 (j := 4) (want := true) rfl rfl rfl rfl (bl_isx e1) rfl rfl rfl ?_
        refine j_guard_no2 (j := 4) (want := true) rfl rfl rfl rfl (bl_isx e1) rfl rfl rfl ?_
        refine j_guard_no2 (j := 4) (want := true) rfl rfl rfl rfl (bl_isx e1) rfl rfl rfl ?_
        refine j_guard_no2 (j := 4) (want := true) rfl rfl rfl rfl (bl_isx e1) rfl rfl rfl ?_
        refine j_guard_no2 (j := 4) (want := true) rfl rfl rfl rfl (bl_isx e1) rfl rfl rfl ?_
        refine j_pure (PJ.eqv (R := bl) (pj_pick (t := any) (has_tmp rfl) (fun he => absurd (e1.symm.trans he) (by decide)) (fun _ => has_bl)) (Option.some.inj e2)) rfl rfl rfl ?_
        exact j_to (.cons (.of_lk rfl) <| .cons (.of_lk rfl) <| .cons (.of_lk rfl) <| .cons (.of_lk rfl) <| .cons (.of_lk rfl) <| .nil) (.cons .here <| .nil) (J ())
  · rintro v5
    show Run _ _ _ [(0, (sl R_rolodexref14_Version).slot p_l), (1, i64.slot p_epoch), (5, ov v5), (6, i64.slot y4)] [own 41 R_rolodexref14_Version v5 y5]
    refine run_to (Γ' := [(5, ov v5)]) (H' := [own 41 R_rolodexref14_Version v5 y5]) (.cons (.of_lk rfl) <| .nil) (.cons .here <| .nil) ?_
    refine run_seq ?_
    refine run_text ?_
    refine j_pure (pj_move (has_tmp rfl)) rfl rfl rfl ?_
    refine j_pure (pj_assign (has_tmp rfl)) rfl rfl rfl ?_
    refine j_end ?_
    obtain rfl := Option.some.inj h
    exact run_ret fun a w hst => q_ret1 hst rfl (.tmp rfl) v5 (fun _ _ h => h) (.cons .here <| .nil)
set_option maxRecDepth 100000 in
set_option maxHeartbeats 4000000 in
theorem c_rolodexref23_Monitor_Look {G : GP} {p_w : (List (BitVec 8)) × Int × (List T_rolodexref14_Version)} {p_f : T_rolodexref23_Found} {b_w : Nat} {r : ((List (BitVec 8)) × Int × (List T_rolodexref14_Version)) × (List T_rolodexref14_Version) × Int} (h : rolodexref23_Monitor_Look p_w p_f = some r) : Ctr Tryd.prog G 43 [val (.pointer (some ⟨b_w, 0, none⟩)), R_rolodexref23_Found.slot p_f] [box b_w 77 (prod (sl u8) (prod i64 (sl R_rolodexref14_Version))) (p_w.1, p_w.2.1, p_w.2.2)] (fun (_ : Unit) => tup [(sl R_rolodexref14_Version).slot r.2.1, i64.slot r.2.2]) (fun (_ : Unit) => [box b_w 77 (prod (sl u8) (prod i64 (sl R_rolodexref14_Version))) (r.1.1, r.1.2.1, r.1.2.2)]) := by
  unfold rolodexref23_Monitor_Look at h
  refine ctr_of_run Tryd.func43 rfl 84 rfl rfl fun m0 w0 b0 => ?_
  show Run _ _ _ [(0, val (.pointer (some ⟨b_w, 0, none⟩))), (1, R_rolodexref23_Found.slot p_f)] _
  refine run_seq ?_
  refine run_text ?_
  refine j_pure (pj_box_to (has_tmp rfl)) rfl rfl rfl ?_
  refine j_pure (pj_assign (has_nil (R := R_rolodexref14_Version))) rfl rfl rfl ?_
  refine j_pure (pj_assign has_i64) rfl rfl rfl ?_
  refine j_end ?_
  refine run_seq ?_
  refine run_seq ?_
  obtain ⟨r1, e1, h⟩ := bind_some h
  obtain ⟨y1, e3, h⟩ := bind_some h
  refine (run_drawJ (n := 13) (Γ' := [(0, val (.pointer (some ⟨b_w, 0, none⟩))), (3, ptrTo R_rolodexref23_Found p_f), (20, bl.slot y1)]) (H' := [box b_w 77 (prod (sl u8) (prod i64 (sl R_rolodexref14_Version))) (p_w.1, p_w.2.1, p_w.2.2)]) ?_ fun J => ?_)
  · clear e3
    refine j_end ?_
    refine run_cond (has_tmp rfl) (fun e4 => ?_) (fun e4 => ?_)
    · replace h := bt e4 h
      refine run_seq ?_
      refine run_text ?_
      refine j_pure (pj_assign (has_nil (R := R_rolodexref14_Version))) rfl rfl rfl ?_
      refine j_pure (pj_assign has_i64) rfl rfl rfl ?_
      refine j_end ?_
      obtain rfl := Option.some.inj h
      exact run_ret fun a w hst => q_retN hst rfl (.cons (.tmp rfl) <| .cons (.tmp rfl) <| .nil) rfl () (fun _ _ h => h) (.cons .here <| .nil)
    · replace h := bf e4 h
      refine run_skip ?_
      refine run_seq ?_
      refine run_text ?_
      refine j_pure (pj_field_to (has_tmp rfl) (Path.then (Path.snd (sl u8) (prod i64 (sl R_rolodexref14_Version))) (Path.snd i64 (sl R_rolodexref14_Version))) (by kernel_rfl)) rfl rfl rfl ?_
      refine j_pure (pj_load_to (has_tmp rfl) (by kernel_rfl)) rfl rfl rfl ?_
      refine j_pure (pj_len_sl (sz := 67) (has_tmp rfl) (by kernel_rfl)) rfl rfl rfl ?_
      refine j_pure (pj_assign (has_tmp rfl)) rfl rfl rfl ?_
      refine j_end ?_
      refine run_seq ?_
      refine run_seq ?_
      obtain ⟨y2, e6, h⟩ := bind_some h
      refine (run_drawJ (n := 24) (Γ' := [(0, val (.pointer (some ⟨b_w, 0, none⟩))), (3, ptrTo R_rolodexref23_Found p_f), (47, bl.slot y2)]) (H' := [box b_w 77 (prod (sl u8) (prod i64 (sl R_rolodexref14_Version))) (p_w.1, p_w.2.1, p_w.2.2)]) ?_ fun J => ?_)
      · clear e6
        refine j_end ?_
        refine run_cond (has_tmp rfl) (fun e11 => ?_) (fun e11 => ?_)
        · replace h := bt e11 h
          refine run_seq ?_
          refine run_text ?_
          refine j_pure (pj_assign (has_nil (R := R_rolodexref14_Version))) rfl rfl rfl ?_
          refine j_pure (pj_assign has_i64) rfl rfl rfl ?_
          refine j_end ?_
          obtain rfl := Option.some.inj h
          exact run_ret fun a w hst => q_retN hst rfl (.cons (.tmp rfl) <| .cons (.tmp rfl) <| .nil) rfl () (fun _ _ h => h) (.cons .here <| .nil)
        · replace h := bf e11 h
          refine run_skip ?_
          refine run_seq ?_
          refine run_seq ?_
          refine run_draw (n := 7) (by kernel_rfl) (by kernel_rfl) (by kernel_rfl) (by kernel_rfl) (.read (.plain rfl (pj_field_to (has_tmp rfl) (Path.then (Path.snd (sl u8) (prod i64 (sl R_rolodexref14_Version))) (Path.fst i64 (sl R_rolodexref14_Version))) (by kernel_rfl))) <| .read (.plain rfl (pj_load_to (has_tmp rfl) (by kernel_rfl))) <| .read (.plain rfl (pj_move (has_tmp rfl))) <| .read (.plain rfl (pj_nilCheck_ptr (has_tmp rfl))) <| .read (.plain rfl (pj_field_ptr (off := 1) (has_tmp rfl) (by kernel_rfl))) <| .read (.plain rfl (pj_load_box (has_tmp rfl) .here (Path.then (Path.all (prod (sl u8) (prod i64 (sl R_rolodexref14_Version)))) (Path.then (Path.snd (sl u8) (prod i64 (sl R_rolodexref14_Version))) (Path.fst i64 (sl R_rolodexref14_Version)))) (by kernel_rfl))) <| .read (.plain rfl (pj_ilss (has_tmp rfl) (has_tmp rfl))) <| .nil) (j_to (Γ' := [(0, val (.pointer (some ⟨b_w, 0, none⟩))), (3, ptrTo R_rolodexref23_Found p_f), (54, bl.slot (decide (p_f.2.1 < p_w.2.1)))]) (H' := [box b_w 77 (prod (sl u8) (prod i64 (sl R_rolodexref14_Version))) (p_w.1, p_w.2.1, p_w.2.2)]) (.cons (.of_lk rfl) <| .cons (.of_lk rfl) <| .cons (.of_lk rfl) <| .nil) (.cons .here <| .nil) ?_)
          refine j_end ?_
          refine run_cond (has_tmp rfl) (fun e12 => ?_) (fun e12 => ?_)
          · replace h := bt e12 h
            refine run_seq ?_
            refine run_text ?_
            refine j_pure (pj_assign (has_nil (R := R_rolodexref14_Version))) rfl rfl rfl ?_
            refine j_pure (pj_assign has_i64) rfl rfl rfl ?_
            refine j_end ?_
            obtain rfl := Option.some.inj h
            exact run_ret fun a w hst => q_retN hst rfl (.cons (.tmp rfl) <| .cons (.tmp rfl) <| .nil) rfl () (fun _ _ h => h) (.cons .here <| .nil)
          · replace h := bf e12 h
            refine run_skip ?_
            refine run_seq ?_
            obtain ⟨r3, e13, h⟩ := bind_some h
            refine run_draw (n := 7) (by kernel_rfl) (by kernel_rfl) (by kernel_rfl) (by kernel_rfl) (.read (.plain rfl (pj_field_to (has_tmp rfl) (Path.then (Path.snd (sl u8) (prod i64 (sl R_rolodexref14_Version))) (Path.snd i64 (sl R_rolodexref14_Version))) (by kernel_rfl))) <| .read (.plain rfl (pj_load_to (has_tmp rfl) (by kernel_rfl))) <| .read (.plain rfl (pj_move (has_tmp rfl))) <| .read (.plain rfl (pj_nilCheck_ptr (has_tmp rfl))) <| .read (.plain rfl (pj_field_ptr (off := 1) (has_tmp rfl) (by kernel_rfl))) <| .read (.plain rfl (pj_load_box (has_tmp rfl) .here (Path.then (Path.all (prod (sl u8) (prod i64 (sl R_rolodexref14_Version)))) (Path.then (Path.snd (sl u8) (prod i64 (sl R_rolodexref14_Version))) (Path.fst i64 (sl R_rolodexref14_Version)))) (by kernel_rfl))) <| .read (.plain rfl (pj_call (hasL_cons (has_tmp rfl) <| hasL_cons (has_tmp rfl) <| hasL_nil) (by kernel_rfl) (Ctr.froze (c_rolodexref14_Upto e13)))) <| .nil) (j_to (Γ' := [(0, val (.pointer (some ⟨b_w, 0, none⟩))), (3, ptrTo R_rolodexref23_Found p_f), (61, (sl R_rolodexref14_Version).slot r3)]) (H' := [box b_w 77 (prod (sl u8) (prod i64 (sl R_rolodexref14_Version))) (p_w.1, p_w.2.1, p_w.2.2)]) (.cons (.of_lk rfl) <| .cons (.of_lk rfl) <| .cons (.of_lk rfl) <| .nil) (.cons .here <| .nil) ?_)
            refine j_pure (pj_assign (has_tmp rfl)) rfl rfl rfl ?_
            refine j_end ?_
            refine run_seq ?_
            refine run_seq ?_
            refine run_text ?_
            refine j_pure (pj_move (has_tmp rfl)) rfl rfl rfl ?_
            refine j_pure (pj_move (has_tmp rfl)) rfl rfl rfl ?_
            refine j_pure (pj_nilCheck_ptr (has_tmp rfl)) rfl rfl rfl ?_
            refine j_pure (pj_field_ptr (off := 2) (has_tmp rfl) (by kernel_rfl)) rfl rfl rfl ?_
            refine j_pure (pj_load_box (has_tmp rfl) .here (Path.then (Path.all (prod (sl u8) (prod i64 (sl R_rolodexref14_Version)))) (Path.then (Path.snd (sl u8) (prod i64 (sl R_rolodexref14_Version))) (Path.snd i64 (sl R_rolodexref14_Version)))) (by kernel_rfl)) rfl rfl rfl ?_
            obtain ⟨r4, e14, h⟩ := bind_some h
            refine j_pure (pj_call (hasL_cons (has_tmp rfl) <| hasL_cons (has_tmp rfl) <| hasL_nil) (by kernel_rfl) (c_rolodexref14_Same e14)) rfl rfl rfl ?_
            refine j_pure (pj_not (has_tmp rfl)) rfl rfl rfl ?_
            refine j_end ?_
            refine run_cond (has_tmp rfl) (fun e15 => ?_) (fun e15 => ?_)
            · replace h := bt e15 h
              refine run_seq ?_
              refine run_text ?_
              refine j_pure (pj_assign (has_nil (R := R_rolodexref14_Version))) rfl rfl rfl ?_
              refine j_pure (pj_assign has_i64) rfl rfl rfl ?_
              refine j_end ?_
              obtain rfl := Option.some.inj h
              exact run_ret fun a w hst => q_retN hst rfl (.cons (.tmp rfl) <| .cons (.tmp rfl) <| .nil) rfl () (fun _ _ h => h) (.cons .here <| .nil)
            · replace h := bf e15 h
              refine run_skip ?_
              refine run_seq ?_
              refine run_text ?_
              refine j_pure (pj_move (has_tmp rfl)) rfl rfl rfl ?_
              refine j_pure (pj_field_to (has_tmp rfl) (Path.then (Path.snd (sl u8) (prod i64 (sl R_rolodexref14_Version))) (Path.fst i64 (sl R_rolodexref14_Version))) (by kernel_rfl)) rfl rfl rfl ?_
              refine j_pure (pj_load_to (has_tmp rfl) (by kernel_rfl)) rfl rfl rfl ?_
              refine j_pure (pj_nilCheck_ptr (has_tmp rfl)) rfl rfl rfl ?_
              refine j_pure (pj_field_ptr (off := 1) (has_tmp rfl) (by kernel_rfl)) rfl rfl rfl ?_
              refine j_store_boxx (r' := (p_w.1, p_f.2.1, p_w.2.2)) (has_tmp rfl) (has_tmp rfl) .here (Path.then (Path.all (prod (sl u8) (prod i64 (sl R_rolodexref14_Version)))) (Path.then (Path.snd (sl u8) (prod i64 (sl R_rolodexref14_Version))) (Path.fst i64 (sl R_rolodexref14_Version)))) (by kernel_rfl) rfl ?_
              refine j_end ?_
              refine run_seq ?_
              refine run_text ?_
              refine j_pure (pj_move (has_tmp rfl)) rfl rfl rfl ?_
              refine j_pure (pj_field_to (has_tmp rfl) (Path.then (Path.snd (sl u8) (prod i64 (sl R_rolodexref14_Version))) (Path.snd i64 (sl R_rolodexref14_Version))) (by kernel_rfl)) rfl rfl rfl ?_
              refine j_pure (pj_load_to (has_tmp rfl) (by kernel_rfl)) rfl rfl rfl ?_
              refine j_pure (pj_nilCheck_ptr (has_tmp rfl)) rfl rfl rfl ?_
              refine j_pure (pj_field_ptr (off := 2) (has_tmp rfl) (by kernel_rfl)) rfl rfl rfl ?_
              refine j_store_boxx (r' := (p_w.1, p_f.2.1, p_f.2.2)) (has_tmp rfl) (has_tmp rfl) .here (Path.then (Path.all (prod (sl u8) (prod i64 (sl R_rolodexref14_Version)))) (Path.then (Path.snd (sl u8) (prod i64 (sl R_rolodexref14_Version))) (Path.snd i64 (sl R_rolodexref14_Version)))) (by kernel_rfl) rfl ?_
              refine j_end ?_
              refine run_seq ?_
              refine run_text ?_
              refine j_pure (pj_field_to (has_tmp rfl) (Path.then (Path.snd (sl u8) (prod i64 (sl R_rolodexref14_Version))) (Path.snd i64 (sl R_rolodexref14_Version))) (by kernel_rfl)) rfl rfl rfl ?_
              refine j_pure (pj_load_to (has_tmp rfl) (by kernel_rfl)) rfl rfl rfl ?_
              refine j_pure (pj_move (has_tmp rfl)) rfl rfl rfl ?_
              refine j_pure (pj_len_sl (sz := 67) (has_tmp rfl) (by kernel_rfl)) rfl rfl rfl ?_
              obtain ⟨x2, e16, h⟩ := bind_some h
              refine j_pure (pj_slice_slx (has_tmp rfl) (.yes (has_tmp rfl) isInt_i64) .no e16 (by kernel_rfl)) rfl rfl rfl ?_
              refine j_pure (pj_assign (has_tmp rfl)) rfl rfl rfl ?_
              refine j_pure (pj_assign has_i64) rfl rfl rfl ?_
              refine j_end ?_
              obtain rfl := Option.some.inj h
              exact run_ret fun a w hst => q_retN hst rfl (.cons (.tmp rfl) <| .cons (.tmp rfl) <| .nil) rfl () (fun _ _ h => h) (.cons .here <| .nil)
      · rcases bool_tf (decide ((0 : Int) < (p_f.2.2.length : Int))) with e5 | e5
        · replace e6 := bt e5 e6
          obtain ⟨r2, e7, e6⟩ := bind_some e6
          obtain ⟨y3, e9, e6⟩ := bind_some e6
          rcases bool_tf (!r2) with e8 | e8
          · replace e9 := bt e8 e9
            exact run_draw (n := 24) (by kernel_rfl) (by kernel_rfl) (by kernel_rfl) (by kernel_rfl) (.read (.plain rfl (pj_move (has_tmp rfl))) <| .read (.plain rfl (pj_igtr (has_tmp rfl) has_i64)) <| .read (.plain rfl (pj_move (has_tmp rfl))) <| .read (.yes ⟨2, true, _, 26, _, rfl, rfl, rfl, fun _ _ => bl_p.1, gd_yes e5⟩ (pj_move (has_tmp rfl))) <| .read (.yes ⟨2, true, _, 26, _, rfl, rfl, rfl, fun _ _ => bl_p.1, gd_yes e5⟩ (pj_nilCheck_ptr (has_tmp rfl))) <| .read (.yes ⟨2, true, _, 26, _, rfl, rfl, rfl, fun _ _ => bl_p.1, gd_yes e5⟩ (pj_field_ptr (off := 0) (has_tmp rfl) (by kernel_rfl))) <| .read (.yes ⟨2, true, _, 26, _, rfl, rfl, rfl, fun _ _ => bl_p.1, gd_yes e5⟩ (pj_load_box (has_tmp rfl) .here (Path.then (Path.all (prod (sl u8) (prod i64 (sl R_rolodexref14_Version)))) (Path.fst (sl u8) (prod i64 (sl R_rolodexref14_Version)))) (by kernel_rfl))) <| .read (.yes ⟨2, true, _, 26, _, rfl, rfl, rfl, fun _ _ => bl_p.1, gd_yes e5⟩ (pj_field_to (has_tmp rfl) (Path.then (Path.snd (sl u8) (prod i64 (sl R_rolodexref14_Version))) (Path.snd i64 (sl R_rolodexref14_Version))) (by kernel_rfl))) <| .read (.yes ⟨2, true, _, 26, _, rfl, rfl, rfl, fun _ _ => bl_p.1, gd_yes e5⟩ (pj_load_to (has_tmp rfl) (by kernel_rfl))) <| .read (.yes ⟨2, true, _, 26, _, rfl, rfl, rfl, fun _ _ => bl_p.1, gd_yes e5⟩ (pj_call (hasL_cons (has_tmp rfl) <| hasL_cons (has_tmp rfl) <| hasL_nil) (by kernel_rfl) (c_rolodexref14_Formed e7))) <| .read (.yes ⟨2, true, _, 26, _, rfl, rfl, rfl, fun _ _ => bl_p.1, gd_yes e5⟩ (pj_not (has_tmp rfl))) <| .read (.yes ⟨2, true, _, 26, _, rfl, rfl, rfl, fun _ _ => bl_p.1, gd_yes e5⟩ (pj_move (has_tmp rfl))) <| .read (.no ⟨11, false, _, 35, _, rfl, rfl, rfl, fun _ _ => bl_p.1, gd_no e8⟩) <| .read (.no ⟨11, false, _, 35, _, rfl, rfl, rfl, fun _ _ => bl_p.1, gd_no e8⟩) <| .read (.no ⟨11, false, _, 35, _, rfl, rfl, rfl, fun _ _ => bl_p.1, gd_no e8⟩) <| .read (.no ⟨11, false, _, 35, _, rfl, rfl, rfl, fun _ _ => bl_p.1, gd_no e8⟩) <| .read (.no ⟨11, false, _, 35, _, rfl, rfl, rfl, fun _ _ => bl_p.1, gd_no e8⟩) <| .read (.no ⟨11, false, _, 35, _, rfl, rfl, rfl, fun _ _ => bl_p.1, gd_no e8⟩) <| .read (.no ⟨11, false, _, 35, _, rfl, rfl, rfl, fun _ _ => bl_p.1, gd_no e8⟩) <| .read (.no ⟨11, false, _, 35, _, rfl, rfl, rfl, fun _ _ => bl_p.1, gd_no e8⟩) <| .read (.no ⟨11, false, _, 35, _, rfl, rfl, rfl, fun _ _ => bl_p.1, gd_no e8⟩) <| .read (.no ⟨11, false, _, 35, _, rfl, rfl, rfl, fun _ _ => bl_p.1, gd_no e8⟩) <| .read (.yes ⟨2, true, _, 26, _, rfl, rfl, rfl, fun _ _ => bl_p.1, gd_yes e5⟩ (PJ.eqv (R := bl) (pj_pick (t := any) (has_tmp rfl) (fun _ => has_bl) (fun he => absurd (e8.symm.trans he) (by decide))) (Option.some.inj e9))) <| .read (.plain rfl (PJ.eqv (R := bl) (pj_pick (t := any) (has_tmp rfl) (fun _ => (has_tmp rfl)) (fun he => absurd (e5.symm.trans he) (by decide))) (Option.some.inj e6))) <| .nil) (j_to (Γ' := [(0, val (.pointer (some ⟨b_w, 0, none⟩))), (3, ptrTo R_rolodexref23_Found p_f), (47, bl.slot y2)]) (H' := [box b_w 77 (prod (sl u8) (prod i64 (sl R_rolodexref14_Version))) (p_w.1, p_w.2.1, p_w.2.2)]) (.cons (.of_lk rfl) <| .cons (.of_lk rfl) <| .cons (.of_lk rfl) <| .nil) (.cons .here <| .nil) J)
          · replace e9 := bf e8 e9
            obtain ⟨x1, e10, e9⟩ := bind_some e9
            exact run_draw (n := 24) (by kernel_rfl) (by kernel_rfl) (by kernel_rfl) (by kernel_rfl) (.read (.plain rfl (pj_move (has_tmp rfl))) <| .read (.plain rfl (pj_igtr (has_tmp rfl) has_i64)) <| .read (.plain rfl (pj_move (has_tmp rfl))) <| .read (.yes ⟨2, true, _, 26, _, rfl, rfl, rfl, fun _ _ => bl_p.1, gd_yes e5⟩ (pj_move (has_tmp rfl))) <| .read (.yes ⟨2, true, _, 26, _, rfl, rfl, rfl, fun _ _ => bl_p.1, gd_yes e5⟩ (pj_nilCheck_ptr (has_tmp rfl))) <| .read (.yes ⟨2, true, _, 26, _, rfl, rfl, rfl, fun _ _ => bl_p.1, gd_yes e5⟩ (pj_field_ptr (off := 0) (has_tmp rfl) (by kernel_rfl))) <| .read (.yes ⟨2, true, _, 26, _, rfl, rfl, rfl, fun _ _ => bl_p.1, gd_yes e5⟩ (pj_load_box (has_tmp rfl) .here (Path.then (Path.all (prod (sl u8) (prod i64 (sl R_rolodexref14_Version)))) (Path.fst (sl u8) (prod i64 (sl R_rolodexref14_Version)))) (by kernel_rfl))) <| .read (.yes ⟨2, true, _, 26, _, rfl, rfl, rfl, fun _ _ => bl_p.1, gd_yes e5⟩ (pj_field_to (has_tmp rfl) (Path.then (Path.snd (sl u8) (prod i64 (sl R_rolodexref14_Version))) (Path.snd i64 (sl R_rolodexref14_Version))) (by kernel_rfl))) <| .read (.yes ⟨2, true, _, 26, _, rfl, rfl, rfl, fun _ _ => bl_p.1, gd_yes e5⟩ (pj_load_to (has_tmp rfl) (by kernel_rfl))) <| .read (.yes ⟨2, true, _, 26, _, rfl, rfl, rfl, fun _ _ => bl_p.1, gd_yes e5⟩ (pj_call (hasL_cons (has_tmp rfl) <| hasL_cons (has_tmp rfl) <| hasL_nil) (by kernel_rfl) (c_rolodexref14_Formed e7))) <| .read (.yes ⟨2, true, _, 26, _, rfl, rfl, rfl, fun _ _ => bl_p.1, gd_yes e5⟩ (pj_not (has_tmp rfl))) <| .read (.yes ⟨2, true, _, 26, _, rfl, rfl, rfl, fun _ _ => bl_p.1, gd_yes e5⟩ (pj_move (has_tmp rfl))) <| .read (.yes ⟨11, false, _, 35, _, rfl, rfl, rfl, fun _ _ => bl_p.1, gd_yes e8⟩ (pj_field_to (has_tmp rfl) (Path.then (Path.snd (sl u8) (prod i64 (sl R_rolodexref14_Version))) (Path.snd i64 (sl R_rolodexref14_Version))) (by kernel_rfl))) <| .read (.yes ⟨11, false, _, 35, _, rfl, rfl, rfl, fun _ _ => bl_p.1, gd_yes e8⟩ (pj_load_to (has_tmp rfl) (by kernel_rfl))) <| .read (.yes ⟨11, false, _, 35, _, rfl, rfl, rfl, fun _ _ => bl_p.1, gd_yes e8⟩ (pj_move (has_tmp rfl))) <| .read (.yes ⟨11, false, _, 35, _, rfl, rfl, rfl, fun _ _ => bl_p.1, gd_yes e8⟩ (pj_isub (has_tmp rfl) has_i64)) <| .read (.yes ⟨11, false, _, 35, _, rfl, rfl, rfl, fun _ _ => bl_p.1, gd_yes e8⟩ (pj_index_slx (has_tmp rfl) (has_tmp rfl) isInt_i64 e10 (by kernel_rfl))) <| .read (.yes ⟨11, false, _, 35, _, rfl, rfl, rfl, fun _ _ => bl_p.1, gd_yes e8⟩ (pj_field_to (has_tmp rfl) (Path.then (Path.snd i64 (prod i64 (prod R_api_Hash (prod R_api_Hash (sl u8))))) (Path.fst i64 (prod R_api_Hash (prod R_api_Hash (sl u8))))) (by kernel_rfl))) <| .read (.yes ⟨11, false, _, 35, _, rfl, rfl, rfl, fun _ _ => bl_p.1, gd_yes e8⟩ (pj_load_to (has_tmp rfl) (by kernel_rfl))) <| .read (.yes ⟨11, false, _, 35, _, rfl, rfl, rfl, fun _ _ => bl_p.1, gd_yes e8⟩ (pj_field_to (has_tmp rfl) (Path.then (Path.snd (sl u8) (prod i64 (sl R_rolodexref14_Version))) (Path.fst i64 (sl R_rolodexref14_Version))) (by kernel_rfl))) <| .read (.yes ⟨11, false, _, 35, _, rfl, rfl, rfl, fun _ _ => bl_p.1, gd_yes e8⟩ (pj_load_to (has_tmp rfl) (by kernel_rfl))) <| .read (.yes ⟨11, false, _, 35, _, rfl, rfl, rfl, fun _ _ => bl_p.1, gd_yes e8⟩ (pj_igtr (has_tmp rfl) (has_tmp rfl))) <| .read (.yes ⟨2, true, _, 26, _, rfl, rfl, rfl, fun _ _ => bl_p.1, gd_yes e5⟩ (PJ.eqv (R := bl) (pj_pick (t := any) (has_tmp rfl) (fun he => absurd (e8.symm.trans he) (by decide)) (fun _ => (has_tmp rfl))) (Option.some.inj e9))) <| .read (.plain rfl (PJ.eqv (R := bl) (pj_pick (t := any) (has_tmp rfl) (fun _ => (has_tmp rfl)) (fun he => absurd (e5.symm.trans he) (by decide))) (Option.some.inj e6))) <| .nil) (j_to (Γ' := [(0, val (.pointer (some ⟨b_w, 0, none⟩))), (3, ptrTo R_rolodexref23_Found p_f), (47, bl.slot y2)]) (H' := [box b_w 77 (prod (sl u8) (prod i64 (sl R_rolodexref14_Version))) (p_w.1, p_w.2.1, p_w.2.2)]) (.cons (.of_lk rfl) <| .cons (.of_lk rfl) <| .cons (.of_lk rfl) <| .nil) (.cons .here <| .nil) J)
        · replace e6 := bf e5 e6
          exact run_draw (n := 24) (by kernel_rfl) (by kernel_rfl) (by kernel_rfl) (by kernel_rfl) (.read (.plain rfl (pj_move (has_tmp rfl))) <| .read (.plain rfl (pj_igtr (has_tmp rfl) has_i64)) <| .read (.plain rfl (pj_move (has_tmp rfl))) <| .read (.no ⟨2, true, _, 26, _, rfl, rfl, rfl, fun _ _ => bl_p.1, gd_no e5⟩) <| .read (.no ⟨2, true, _, 26, _, rfl, rfl, rfl, fun _ _ => bl_p.1, gd_no e5⟩) <| .read (.no ⟨2, true, _, 26, _, rfl, rfl, rfl, fun _ _ => bl_p.1, gd_no e5⟩) <| .read (.no ⟨2, true, _, 26, _, rfl, rfl, rfl, fun _ _ => bl_p.1, gd_no e5⟩) <| .read (.no ⟨2, true, _, 26, _, rfl, rfl, rfl, fun _ _ => bl_p.1, gd_no e5⟩) <| .read (.no ⟨2, true, _, 26, _, rfl, rfl, rfl, fun _ _ => bl_p.1, gd_no e5⟩) <| .read (.no ⟨2, true, _, 26, _, rfl, rfl, rfl, fun _ _ => bl_p.1, gd_no e5⟩) <| .read (.no ⟨2, true, _, 26, _, rfl, rfl, rfl, fun _ _ => bl_p.1, gd_no e5⟩) <| .read (.no ⟨2, true, _, 26, _, rfl, rfl, rfl, fun _ _ => bl_p.1, gd_no e5⟩) <| .read (.undef ⟨11, false, 35, rfl, rfl, rfl⟩) <| .read (.undef ⟨11, false, 35, rfl, rfl, rfl⟩) <| .read (.undef ⟨11, false, 35, rfl, rfl, rfl⟩) <| .read (.undef ⟨11, false, 35, rfl, rfl, rfl⟩) <| .read (.undef ⟨11, false, 35, rfl, rfl, rfl⟩) <| .read (.undef ⟨11, false, 35, rfl, rfl, rfl⟩) <| .read (.undef ⟨11, false, 35, rfl, rfl, rfl⟩) <| .read (.undef ⟨11, false, 35, rfl, rfl, rfl⟩) <| .read (.undef ⟨11, false, 35, rfl, rfl, rfl⟩) <| .read (.undef ⟨11, false, 35, rfl, rfl, rfl⟩) <| .read (.no ⟨2, true, _, 26, _, rfl, rfl, rfl, fun _ _ => bl_p.1, gd_no e5⟩) <| .read (.plain rfl (PJ.eqv (R := bl) (pj_pick (t := any) (has_tmp rfl) (fun he => absurd (e5.symm.trans he) (by decide)) (fun _ => has_bl)) (Option.some.inj e6))) <| .nil) (j_to (Γ' := [(0, val (.pointer (some ⟨b_w, 0, none⟩))), (3, ptrTo R_rolodexref23_Found p_f), (47, bl.slot y2)]) (H' := [box b_w 77 (prod (sl u8) (prod i64 (sl R_rolodexref14_Version))) (p_w.1, p_w.2.1, p_w.2.2)]) (.cons (.of_lk rfl) <| .cons (.of_lk rfl) <| .cons (.of_lk rfl) <| .nil) (.cons .here <| .nil) J)
  · rcases bool_tf (!r1) with e2 | e2
    · replace e3 := bt e2 e3
      exact run_draw (n := 13) (by kernel_rfl) (by kernel_rfl) (by kernel_rfl) (by kernel_rfl) (.read (.plain rfl (pj_field_to (has_tmp rfl) (Path.fst (sl u8) (prod i64 (sl R_rolodexref14_Version))) (by kernel_rfl))) <| .read (.plain rfl (pj_load_to (has_tmp rfl) (by kernel_rfl))) <| .read (.plain rfl (pj_move (has_tmp rfl))) <| .read (.plain rfl (pj_nilCheck_ptr (has_tmp rfl))) <| .read (.plain rfl (pj_field_ptr (off := 0) (has_tmp rfl) (by kernel_rfl))) <| .read (.plain rfl (pj_load_box (has_tmp rfl) .here (Path.then (Path.all (prod (sl u8) (prod i64 (sl R_rolodexref14_Version)))) (Path.fst (sl u8) (prod i64 (sl R_rolodexref14_Version)))) (by kernel_rfl))) <| .read (.plain rfl (pj_call (hasL_cons (has_tmp rfl) <| hasL_cons (has_tmp rfl) <| hasL_nil) (by kernel_rfl) (c_rolodexref01_Same e1))) <| .read (.plain rfl (pj_not (has_tmp rfl))) <| .read (.plain rfl (pj_move (has_tmp rfl))) <| .read (.no ⟨8, false, _, 16, _, rfl, rfl, rfl, fun _ _ => bl_p.1, gd_no e2⟩) <| .read (.no ⟨8, false, _, 16, _, rfl, rfl, rfl, fun _ _ => bl_p.1, gd_no e2⟩) <| .read (.no ⟨8, false, _, 16, _, rfl, rfl, rfl, fun _ _ => bl_p.1, gd_no e2⟩) <| .read (.plain rfl (PJ.eqv (R := bl) (pj_pick (t := any) (has_tmp rfl) (fun _ => has_bl) (fun he => absurd (e2.symm.trans he) (by decide))) (Option.some.inj e3))) <| .nil) (j_to (Γ' := [(0, val (.pointer (some ⟨b_w, 0, none⟩))), (3, ptrTo R_rolodexref23_Found p_f), (20, bl.slot y1)]) (H' := [box b_w 77 (prod (sl u8) (prod i64 (sl R_rolodexref14_Version))) (p_w.1, p_w.2.1, p_w.2.2)]) (.cons (.of_lk rfl) <| .cons (.of_lk rfl) <| .cons (.of_lk rfl) <| .nil) (.cons .here <| .nil) J)
    · replace e3 := bf e2 e3
      exact run_draw (n := 13) (by kernel_rfl) (by kernel_rfl) (by kernel_rfl) (by kernel_rfl) (.read (.plain rfl (pj_field_to (has_tmp rfl) (Path.fst (sl u8) (prod i64 (sl R_rolodexref14_Version))) (by kernel_rfl))) <| .read (.plain rfl (pj_load_to (has_tmp rfl) (by kernel_rfl))) <| .read (.plain rfl (pj_move (has_tmp rfl))) <| .read (.plain rfl (pj_nilCheck_ptr (has_tmp rfl))) <| .read (.plain rfl (pj_field_ptr (off := 0) (has_tmp rfl) (by kernel_rfl))) <| .read (.plain rfl (pj_load_box (has_tmp rfl) .here (Path.then (Path.all (prod (sl u8) (prod i64 (sl R_rolodexref14_Version)))) (Path.fst (sl u8) (prod i64 (sl R_rolodexref14_Version)))) (by kernel_rfl))) <| .read (.plain rfl (pj_call (hasL_cons (has_tmp rfl) <| hasL_cons (has_tmp rfl) <| hasL_nil) (by kernel_rfl) (c_rolodexref01_Same e1))) <| .read (.plain rfl (pj_not (has_tmp rfl))) <| .read (.plain rfl (pj_move (has_tmp rfl))) <| .read (.yes ⟨8, false, _, 16, _, rfl, rfl, rfl, fun _ _ => bl_p.1, gd_yes e2⟩ (pj_field_to (has_tmp rfl) (Path.then (Path.snd (sl u8) (prod i64 (sl R_rolodexref14_Version))) (Path.fst i64 (sl R_rolodexref14_Version))) (by kernel_rfl))) <| .read (.yes ⟨8, false, _, 16, _, rfl, rfl, rfl, fun _ _ => bl_p.1, gd_yes e2⟩ (pj_load_to (has_tmp rfl) (by kernel_rfl))) <| .read (.yes ⟨8, false, _, 16, _, rfl, rfl, rfl, fun _ _ => bl_p.1, gd_yes e2⟩ (pj_ilss (has_tmp rfl) has_i64)) <| .read (.plain rfl (PJ.eqv (R := bl) (pj_pick (t := any) (has_tmp rfl) (fun he => absurd (e2.symm.trans he) (by decide)) (fun _ => (has_tmp rfl))) (Option.some.inj e3))) <| .nil) (j_to (Γ' := [(0, val (.pointer (some ⟨b_w, 0, none⟩))), (3, ptrTo R_rolodexref23_Found p_f), (20, bl.slot y1)]) (H' := [box b_w 77 (prod (sl u8) (prod i64 (sl R_rolodexref14_Version))) (p_w.1, p_w.2.1, p_w.2.2)]) (.cons (.of_lk rfl) <| .cons (.of_lk rfl) <| .cons (.of_lk rfl) <| .nil) (.cons .here <| .nil) J)
set_option maxRecDepth 100000 in
set_option maxHeartbeats 4000000 in
theorem c_monitor_Monitor_Seen {G : GP} {p_w : (List (BitVec 8)) × Int × (List T_chain_Version)} {b_w : Nat} {c_w : List Value} {r : (List T_chain_Version)} (h : monitor_Monitor_Seen p_w = some r) : Ctr Tryd.prog G 44 [val (.pointer (some ⟨b_w, 0, none⟩))] [box b_w 97 (exr (prod (sl u8) (prod i64 (sl R_chain_Version))) c_w) (p_w.1, p_w.2.1, p_w.2.2)] (fun (u0 : Value) => ov u0) (fun (u0 : Value) => [box b_w 97 (exr (prod (sl u8) (prod i64 (sl R_chain_Version))) c_w) (p_w.1, p_w.2.1, p_w.2.2), own 45 R_chain_Version u0 r]) := by
  unfold monitor_Monitor_Seen at h
  refine ctr_of_run Tryd.func44 rfl 10 rfl rfl fun m0 w0 b0 => ?_
  show Run _ _ _ [(0, val (.pointer (some ⟨b_w, 0, none⟩)))] _
  refine run_seq ?_
  refine run_text ?_
  refine j_assign_nil (T := 45) R_chain_Version rfl fun v1 => ?_
  refine j_end ?_
  refine run_seq ?_
  refine run_seq ?_
  refine run_text ?_
  refine j_pure (PJ.xw (.keep (.ex .refl)) (pj_move (has_tmp rfl))) rfl rfl rfl ?_
  refine j_pure (PJ.xw (.keep (.ex .refl)) (pj_eq_nil_val (E := 97) (by kernel_rfl) (has_tmp rfl))) rfl rfl rfl ?_
  refine j_end ?_
  refine run_cond_f (has_tmp rfl) rfl ?_
  refine run_skip ?_
  refine run_seq ?_
  refine run_text ?_
  refine j_pure (PJ.xw (.keep (.ex .refl)) (pj_move (has_tmp rfl))) rfl rfl rfl ?_
  refine j_pure (PJ.xw (.keep (.ex .refl)) (pj_nilCheck_ptr (has_tmp rfl))) rfl rfl rfl ?_
  refine j_pure (PJ.xw (.keep (.ex .refl)) (pj_field_ptr (off := 2) (has_tmp rfl) (by kernel_rfl))) rfl rfl rfl ?_
  refine j_pure (PJ.xw (.keep (.ex .refl)) (pj_load_box (has_tmp rfl) (.next .here) (Path.then (Path.all (prod (sl u8) (prod i64 (sl R_chain_Version)))) (Path.then (Path.snd (sl u8) (prod i64 (sl R_chain_Version))) (Path.snd i64 (sl R_chain_Version)))) (by kernel_rfl))) rfl rfl rfl ?_
  obtain ⟨r1, e2, h⟩ := bind_some h
  refine j_call (hasL_cons (has_tmp rfl) <| hasL_nil) (by kernel_rfl) (c_monitor_copied e2) .nil rfl fun v2 => ?_
  refine j_pure (PJ.xw (.keep (.keep (.ex .refl))) (pj_assign (has_tmp rfl))) rfl rfl rfl ?_
  refine j_end ?_
  obtain rfl := Option.some.inj h
  exact run_ret fun a w hst => q_ret1 hst rfl (.tmp rfl) v2 (fun _ _ h => h) (.cons (.next (.next .here)) <| .cons .here <| .nil)
set_option maxRecDepth 100000 in
set_option maxHeartbeats 4000000 in
theorem c_rolodexlaw23_MonitorLooks {G : GP} (hg0 : HG0 G) (hg1 : HG1 G) {p_label : List (BitVec 8)} {p_l : List T_rolodexref23_Found} {r : Bool} (h : rolodexlaw23_MonitorLooks p_label p_l = some r) : Ctr Tryd.prog G 9 [(sl u8).slot p_label, (sl R_rolodexref23_Found).slot p_l] [] (fun (_ : Unit) => bl.slot r) (fun (_ : Unit) => []) := by
  unfold rolodexlaw23_MonitorLooks at h
  refine ctr_of_run Tryd.func9 rfl 85 rfl rfl fun m0 w0 b0 => ?_
  refine run_ret0 fun Qf hq1 hq2 => ?_
  show Run _ _ _ [(0, (sl u8).slot p_label), (1, (sl R_rolodexref23_Found).slot p_l)] _
  refine run_seq ?_
  refine run_text ?_
  refine j_pure (pj_assign has_bl) rfl rfl rfl ?_
  refine j_end ?_
  refine run_seq ?_
  refine run_seq ?_
  refine run_text ?_
  obtain ⟨r1, e1, h⟩ := bind_some h
  refine j_pure (pj_call (hasL_nil) (by kernel_rfl) (c_rolodexlaw23_awake hg0 hg1 e1)) rfl rfl rfl ?_
  refine j_pure (pj_not (has_tmp rfl)) rfl rfl rfl ?_
  refine j_pure (pj_move (has_tmp rfl)) rfl rfl rfl ?_
  obtain ⟨y1, e3, h⟩ := bind_some h
  refine j_joinx (ι := Unit) (Γ' := fun _ => [(0, (sl u8).slot p_label), (1, (sl R_rolodexref23_Found).slot p_l), (18, bl.slot y1)]) (H' := fun _ => []) 4 ?_ fun J => ?_
  · intro _
    clear e3
    show OpsJ _ _ _ [(0, (sl u8).slot p_label), (1, (sl R_rolodexref23_Found).slot p_l), (18, bl.slot y1)] [] _
    refine j_pure (pj_move (has_tmp rfl)) rfl rfl rfl ?_
    obtain ⟨y2, e5, h⟩ := bind_some h
    refine j_joinx (ι := Unit) (Γ' := fun _ => [(0, (sl u8).slot p_label), (1, (sl R_rolodexref23_Found).slot p_l), (23, bl.slot y2)]) (H' := fun _ => []) 4 ?_ fun J => ?_
    · intro _
      clear e5
      show OpsJ _ _ _ [(0, (sl u8).slot p_label), (1, (sl R_rolodexref23_Found).slot p_l), (23, bl.slot y2)] [] _
      refine j_end ?_
      refine run_cond (has_tmp rfl) (fun e7 => ?_) (fun e7 => ?_)
      · replace h := bt e7 h
        refine run_seq ?_
        refine run_text ?_
        obtain ⟨r3, e8, h⟩ := bind_some h
        refine j_pure (pj_call (hasL_nil) (by kernel_rfl) (c_rolodexlaw23_awake hg0 hg1 e8)) rfl rfl rfl ?_
        refine j_pure (pj_assign (has_tmp rfl)) rfl rfl rfl ?_
        refine j_end ?_
        obtain rfl := Option.some.inj h
        exact run_ret fun a w hst => q_ret1 hst rfl (.tmp rfl) () (fun _ _ h => h) (.nil)
      · replace h := bf e7 h
        refine run_skip ?_
        refine run_seq ?_
        refine run_text ?_
        refine j_pure (pj_move (has_tmp rfl)) rfl rfl rfl ?_
        obtain ⟨r4, e9, h⟩ := bind_some h
        refine j_call (hasL_cons (has_tmp rfl) <| hasL_nil) (by kernel_rfl) (c_monitor_New e9) .nil rfl fun b1 => ?_
        refine j_pure (pj_assign (has_tmp rfl)) rfl rfl rfl ?_
        refine j_end ?_
        refine run_seq ?_
        refine run_text ?_
        refine j_pure (pj_move (has_tmp rfl)) rfl rfl rfl ?_
        obtain ⟨x1, e10, h⟩ := bind_some h
        refine j_pure (PJ.eqv (pj_build (R := R_rolodexref23_Monitor) (zero_prod zero_sl (zero_prod zero_i64 zero_sl)) (by kernel_rfl) (by kernel_rfl) rfl (.cons (has_tmp rfl) (Path.fst (sl u8) (prod i64 (sl R_rolodexref14_Version))) (by kernel_rfl) .nil)) (Option.some.inj e10)) rfl rfl rfl ?_
        refine j_box (has_tmp rfl) rfl fun b2 => ?_
        refine j_pure (pj_assign (has_tmp rfl)) rfl rfl rfl ?_
        refine j_end ?_
        refine run_seq ?_
        refine run_seq ?_
        refine run_text ?_
        refine j_pure (pj_assign has_i64) rfl rfl rfl ?_
        refine j_end ?_
        obtain ⟨o, e33, h⟩ := bind_some h
        refine run_loop (Γi := fun (i : Unit) (s : Int × T_rolodexref23_Monitor × (List (BitVec 8)) × Int × (List T_chain_Version)) => [(1, (sl R_rolodexref23_Found).slot p_l), (5, val (.pointer (some ⟨b1, 0, none⟩))), (6, val (.pointer (some ⟨b2, 0, none⟩))), (7, i64.slot s.1)]) (Hi := fun (i : Unit) (s : Int × T_rolodexref23_Monitor × (List (BitVec 8)) × Int × (List T_chain_Version)) => [box b2 77 R_rolodexref23_Monitor s.2.1, box b1 97 (prod (sl u8) (prod i64 (sl R_chain_Version))) (s.2.2.1, s.2.2.2.1, s.2.2.2.2)]) (R := fun x a w => x = r → Qf a w) e33 () (fun a w hst => (hst.sub (.cons (.of_lk rfl) <| .cons (.of_lk rfl) <| .cons (.of_lk rfl) <| .cons (.of_lk rfl) <| .nil)).keep (.cons .here <| .cons .here <| .nil)) ?_ ?_ ?_
        · clear h e33
          rintro _ ⟨y3, y4, y5, y6, y7⟩ lr h
          change rolodexlaw23_MonitorLooks_L1 p_l y3 y4 y5 y6 y7 = some _ at h
          show Run _ _ _ [(1, (sl R_rolodexref23_Found).slot p_l), (5, val (.pointer (some ⟨b1, 0, none⟩))), (6, val (.pointer (some ⟨b2, 0, none⟩))), (7, i64.slot y3)] [box b2 77 R_rolodexref23_Monitor y4, box b1 97 (prod (sl u8) (prod i64 (sl R_chain_Version))) (y5, y6, y7)]
          unfold rolodexlaw23_MonitorLooks_L1 at h
          refine run_seq ?_
          refine run_seq ?_
          refine run_text ?_
          refine j_pure (pj_move (has_tmp rfl)) rfl rfl rfl ?_
          refine j_pure (pj_move (has_tmp rfl)) rfl rfl rfl ?_
          refine j_pure (pj_len_sl (sz := 3) (has_tmp rfl) (by kernel_rfl)) rfl rfl rfl ?_
          refine j_pure (pj_ilss (has_tmp rfl) (has_tmp rfl)) rfl rfl rfl ?_
          refine j_end ?_
          refine run_cond (has_tmp rfl) (fun e11 => ?_) (fun e11 => ?_)
          · replace h := bt e11 h
            refine run_skip ?_
            refine run_seq ?_
            refine run_block ?_
            refine run_seq ?_
            refine run_text ?_
            refine j_pure (pj_move (has_tmp rfl)) rfl rfl rfl ?_
            refine j_pure (pj_move (has_tmp rfl)) rfl rfl rfl ?_
            refine j_pure (pj_move (has_tmp rfl)) rfl rfl rfl ?_
            obtain ⟨x2, e12, h⟩ := bind_some h
            refine j_pure (pj_index_slx (has_tmp rfl) (has_tmp rfl) isInt_i64 e12 (by kernel_rfl)) rfl rfl rfl ?_
            refine j_pure (pj_load_to (has_tmp rfl) (by kernel_rfl)) rfl rfl rfl ?_
            obtain ⟨r5, e13, h⟩ := bind_some h
            refine j_pure (pj_call (hasL_cons (has_tmp rfl) <| hasL_nil) (by kernel_rfl) (c_rolodexlaw23_from e13)) rfl rfl rfl ?_
            obtain ⟨r6, e14, h⟩ := bind_some h
            refine j_call (hasL_cons (has_tmp rfl) <| hasL_cons (has_tmp rfl) <| hasL_nil) (by kernel_rfl) (c_monitor_Monitor_Look hg0 hg1 e14) (.cons (.next .here) <| .nil) rfl fun v1 => ?_
            refine j_pure (pj_move (has_tmp rfl)) rfl rfl rfl ?_
            refine j_pure (pj_extract (has_tmp rfl) rfl) rfl rfl rfl ?_
            refine j_pure (pj_extract (has_tmp rfl) rfl) rfl rfl rfl ?_
            refine j_pure (pj_assign (has_tmp rfl)) rfl rfl rfl ?_
            refine j_pure (pj_assign (has_tmp rfl)) rfl rfl rfl ?_
            refine j_end ?_
            refine run_seq ?_
            refine run_text ?_
            refine j_pure (pj_move (has_tmp rfl)) rfl rfl rfl ?_
            refine j_pure (pj_move (has_tmp rfl)) rfl rfl rfl ?_
            refine j_pure (pj_move (has_tmp rfl)) rfl rfl rfl ?_
            obtain ⟨x3, e15, h⟩ := bind_some h
            refine j_pure (pj_index_slx (has_tmp rfl) (has_tmp rfl) isInt_i64 e15 (by kernel_rfl)) rfl rfl rfl ?_
            refine j_pure (pj_load_to (has_tmp rfl) (by kernel_rfl)) rfl rfl rfl ?_
            obtain ⟨r7, e16, h⟩ := bind_some h
            refine j_call (hasL_cons (has_tmp rfl) <| hasL_cons (has_tmp rfl) <| hasL_nil) (by kernel_rfl) (c_rolodexref23_Monitor_Look e16) (.cons (.next (.next .here)) <| .nil) rfl fun _ => ?_
            refine j_pure (pj_move (has_tmp rfl)) rfl rfl rfl ?_
            refine j_pure (pj_extract (has_tmp rfl) rfl) rfl rfl rfl ?_
            refine j_pure (pj_extract (has_tmp rfl) rfl) rfl rfl rfl ?_
            refine j_pure (pj_assign (has_tmp rfl)) rfl rfl rfl ?_
            refine j_pure (pj_assign (has_tmp rfl)) rfl rfl rfl ?_
            refine j_end ?_
            refine run_seq ?_
            refine run_freeze [8, 44] (.next (.next .here)) (frz_cons (.of_lk rfl) <| frz_cons (.of_lk rfl) <| frz_nil) ?_
            obtain ⟨y9, e21, h⟩ := bind_some h
            obtain ⟨y10, e25, h⟩ := bind_some h
            obtain ⟨y11, e28, h⟩ := bind_some h
            refine (run_drawJ (n := 30) (Γ' := [(1, (sl R_rolodexref23_Found).slot p_l), (5, val (.pointer (some ⟨b1, 0, none⟩))), (6, val (.pointer (some ⟨b2, 0, none⟩))), (7, i64.slot y3), (84, bl.slot y11)]) (H' := [box b2 77 R_rolodexref23_Monitor r7.1, box b1 97 (prod (sl u8) (prod i64 (sl R_chain_Version))) (r6.1.1, r6.1.2.1, r6.1.2.2)]) ?_ fun J => ?_)
            · clear e21 e25 e28
              refine j_end ?_
              refine run_cond (has_tmp rfl) (fun e32 => ?_) (fun e32 => ?_)
              · replace h := bt e32 h
                refine run_seq ?_
                refine run_text ?_
                refine j_pure (pj_assign has_bl) rfl rfl rfl ?_
                refine j_end ?_
                obtain rfl := Option.some.inj h
                refine run_ret fun a w hst => ⟨rfl, fun hr => ?_⟩
                subst hr
                exact hq2 a w (q_ret1 hst rfl (.tmp rfl) () (fun _ _ h => h) (.nil))
              · replace h := bf e32 h
                refine run_skip ?_
                refine run_endblock ?_
                refine run_text ?_
                refine j_pure (pj_move (has_tmp rfl)) rfl rfl rfl ?_
                refine j_pure (pj_iadd (has_tmp rfl) has_i64) rfl rfl rfl ?_
                refine j_pure (pj_assign (has_tmp rfl)) rfl rfl rfl ?_
                refine j_end ?_
                obtain rfl := Option.some.inj h
                exact run_next () (.cons (.of_lk rfl) <| .cons (.of_lk rfl) <| .cons (.of_lk rfl) <| .cons (.of_lk rfl) <| .nil) (.cons .here <| .cons .here <| .nil)
            · rcases bool_tf (!decide (r6.2.2 = r7.2.2)) with e20 | e20
              · replace e21 := bt e20 e21
                rcases bool_tf (y9) with e24 | e24
                · replace e25 := bt e24 e25
                  rcases bool_tf (y10) with e27 | e27
                  · replace e28 := bt e27 e28
                    exact run_draw (n := 30) (by kernel_rfl) (by kernel_rfl) (by kernel_rfl) (by kernel_rfl) (.read (.plain rfl (pj_move (has_tmp rfl))) <| .read (.plain rfl (pj_move (has_tmp rfl))) <| .read (.plain rfl (pj_ineq (has_tmp rfl) (has_tmp rfl))) <| .read (.plain rfl (pj_move (has_tmp rfl))) <| .read (.no ⟨3, false, _, 58, _, rfl, rfl, rfl, fun _ _ => bl_p.1, gd_no e20⟩) <| .read (.no ⟨3, false, _, 58, _, rfl, rfl, rfl, fun _ _ => bl_p.1, gd_no e20⟩) <| .read (.no ⟨3, false, _, 58, _, rfl, rfl, rfl, fun _ _ => bl_p.1, gd_no e20⟩) <| .read (.no ⟨3, false, _, 58, _, rfl, rfl, rfl, fun _ _ => bl_p.1, gd_no e20⟩) <| .read (.no ⟨3, false, _, 58, _, rfl, rfl, rfl, fun _ _ => bl_p.1, gd_no e20⟩) <| .read (.plain rfl (PJ.eqv (R := bl) (pj_pick (t := any) (has_tmp rfl) (fun _ => has_bl) (fun he => absurd (e20.symm.trans he) (by decide))) (Option.some.inj e21))) <| .read (.plain rfl (pj_move (has_tmp rfl))) <| .read (.no ⟨10, false, _, 65, _, rfl, rfl, rfl, fun _ _ => bl_p.1, gd_no e24⟩) <| .read (.no ⟨10, false, _, 65, _, rfl, rfl, rfl, fun _ _ => bl_p.1, gd_no e24⟩) <| .read (.no ⟨10, false, _, 65, _, rfl, rfl, rfl, fun _ _ => bl_p.1, gd_no e24⟩) <| .read (.no ⟨10, false, _, 65, _, rfl, rfl, rfl, fun _ _ => bl_p.1, gd_no e24⟩) <| .read (.no ⟨10, false, _, 65, _, rfl, rfl, rfl, fun _ _ => bl_p.1, gd_no e24⟩) <| .read (.no ⟨10, false, _, 65, _, rfl, rfl, rfl, fun _ _ => bl_p.1, gd_no e24⟩) <| .read (.no ⟨10, false, _, 65, _, rfl, rfl, rfl, fun _ _ => bl_p.1, gd_no e24⟩) <| .read (.plain rfl (PJ.eqv (R := bl) (pj_pick (t := any) (has_tmp rfl) (fun _ => has_bl) (fun he => absurd (e24.symm.trans he) (by decide))) (Option.some.inj e25))) <| .read (.plain rfl (pj_move (has_tmp rfl))) <| .read (.no ⟨19, false, _, 74, _, rfl, rfl, rfl, fun _ _ => bl_p.1, gd_no e27⟩) <| .read (.no ⟨19, false, _, 74, _, rfl, rfl, rfl, fun _ _ => bl_p.1, gd_no e27⟩) <| .read (.no ⟨19, false, _, 74, _, rfl, rfl, rfl, fun _ _ => bl_p.1, gd_no e27⟩) <| .read (.no ⟨19, false, _, 74, _, rfl, rfl, rfl, fun _ _ => bl_p.1, gd_no e27⟩) <| .read (.no ⟨19, false, _, 74, _, rfl, rfl, rfl, fun _ _ => bl_p.1, gd_no e27⟩) <| .read (.no ⟨19, false, _, 74, _, rfl, rfl, rfl, fun _ _ => bl_p.1, gd_no e27⟩) <| .read (.no ⟨19, false, _, 74, _, rfl, rfl, rfl, fun _ _ => bl_p.1, gd_no e27⟩) <| .read (.no ⟨19, false, _, 74, _, rfl, rfl, rfl, fun _ _ => bl_p.1, gd_no e27⟩) <| .read (.no ⟨19, false, _, 74, _, rfl, rfl, rfl, fun _ _ => bl_p.1, gd_no e27⟩) <| .read (.plain rfl (PJ.eqv (R := bl) (pj_pick (t := any) (has_tmp rfl) (fun _ => has_bl) (fun he => absurd (e27.symm.trans he) (by decide))) (Option.some.inj e28))) <| .nil) (j_to (Γ' := [(1, (sl R_rolodexref23_Found).slot p_l), (5, val (.pointer (some ⟨b1, 0, none⟩))), (6, val (.pointer (some ⟨b2, 0, none⟩))), (7, i64.slot y3), (84, bl.slot y11)]) (H' := [box b2 77 R_rolodexref23_Monitor r7.1, box b1 97 (prod (sl u8) (prod i64 (sl R_chain_Version))) (r6.1.1, r6.1.2.1, r6.1.2.2)]) (.cons (.of_lk rfl) <| .cons (.of_lk rfl) <| .cons (.of_lk rfl) <| .cons (.of_lk rfl) <| .cons (.of_lk rfl) <| .nil) (.cons .here <| .cons .here <| .nil) J)
                  · replace e28 := bf e27 e28
                    obtain ⟨r12, e29, e28⟩ := bind_some e28
                    obtain ⟨r13, e30, e28⟩ := bind_some e28
                    obtain ⟨r14, e31, e28⟩ := bind_some e28
                    exact run_draw (n := 30) (by kernel_rfl) (by kernel_rfl) (by kernel_rfl) (by kernel_rfl) (.read (.plain rfl (pj_move (has_tmp rfl))) <| .read (.plain rfl (pj_move (has_tmp rfl))) <| .read (.plain rfl (pj_ineq (has_tmp rfl) (has_tmp rfl))) <| .read (.plain rfl (pj_move (has_tmp rfl))) <| .read (.no ⟨3, false, _, 58, _, rfl, rfl, rfl, fun _ _ => bl_p.1, gd_no e20⟩) <| .read (.no ⟨3, false, _, 58, _, rfl, rfl, rfl, fun _ _ => bl_p.1, gd_no e20⟩) <| .read (.no ⟨3, false, _, 58, _, rfl, rfl, rfl, fun _ _ => bl_p.1, gd_no e20⟩) <| .read (.no ⟨3, false, _, 58, _, rfl, rfl, rfl, fun _ _ => bl_p.1, gd_no e20⟩) <| .read (.no ⟨3, false, _, 58, _, rfl, rfl, rfl, fun _ _ => bl_p.1, gd_no e20⟩) <| .read (.plain rfl (PJ.eqv (R := bl) (pj_pick (t := any) (has_tmp rfl) (fun _ => has_bl) (fun he => absurd (e20.symm.trans he) (by decide))) (Option.some.inj e21))) <| .read (.plain rfl (pj_move (has_tmp rfl))) <| .read (.no ⟨10, false, _, 65, _, rfl, rfl, rfl, fun _ _ => bl_p.1, gd_no e24⟩) <| .read (.no ⟨10, false, _, 65, _, rfl, rfl, rfl, fun _ _ => bl_p.1, gd_no e24⟩) <| .read (.no ⟨10, false, _, 65, _, rfl, rfl, rfl, fun _ _ => bl_p.1, gd_no e24⟩) <| .read (.no ⟨10, false, _, 65, _, rfl, rfl, rfl, fun _ _ => bl_p.1, gd_no e24⟩) <| .read (.no ⟨10, false, _, 65, _, rfl, rfl, rfl, fun _ _ => bl_p.1, gd_no e24⟩) <| .read (.no ⟨10, false, _, 65, _, rfl, rfl, rfl, fun _ _ => bl_p.1, gd_no e24⟩) <| .read (.no ⟨10, false, _, 65, _, rfl, rfl, rfl, fun _ _ => bl_p.1, gd_no e24⟩) <| .read (.plain rfl (PJ.eqv (R := bl) (pj_pick (t := any) (has_tmp rfl) (fun _ => has_bl) (fun he => absurd (e24.symm.trans he) (by decide))) (Option.some.inj e25))) <| .read (.plain rfl (pj_move (has_tmp rfl))) <| .read (.yes ⟨19, false, _, 74, _, rfl, rfl, rfl, fun _ _ => bl_p.1, gd_yes e27⟩ (pj_move (has_tmp rfl))) <| .read (.yes ⟨19, false, _, 74, _, rfl, rfl, rfl, fun _ _ => bl_p.1, gd_yes e27⟩ (pj_callR (hasL_cons (has_tmp rfl) <| hasL_nil) (.next .here) (by kernel_rfl) (Ctr.frozeR (fun _ => (c_monitor_Monitor_Seen e29))))) <| .read (.yes ⟨19, false, _, 74, _, rfl, rfl, rfl, fun _ _ => bl_p.1, gd_yes e27⟩ (pj_call (hasL_cons (has_tmp rfl) <| hasL_nil) (by kernel_rfl) (Ctr.froze (c_rolodexlaw14_To e30)))) <| .read (.yes ⟨19, false, _, 74, _, rfl, rfl, rfl, fun _ _ => bl_p.1, gd_yes e27⟩ (pj_move (has_tmp rfl))) <| .read (.yes ⟨19, false, _, 74, _, rfl, rfl, rfl, fun _ _ => bl_p.1, gd_yes e27⟩ (pj_nilCheck_ptr (has_tmp rfl))) <| .read (.yes ⟨19, false, _, 74, _, rfl, rfl, rfl, fun _ _ => bl_p.1, gd_yes e27⟩ (pj_field_ptr (off := 2) (has_tmp rfl) (by kernel_rfl))) <| .read (.yes ⟨19, false, _, 74, _, rfl, rfl, rfl, fun _ _ => bl_p.1, gd_yes e27⟩ (pj_load_box (has_tmp rfl) .here (Path.then (Path.all R_rolodexref23_Monitor) (Path.then (Path.snd (sl u8) (prod i64 (sl R_rolodexref14_Version))) (Path.snd i64 (sl R_rolodexref14_Version)))) (by kernel_rfl))) <| .read (.yes ⟨19, false, _, 74, _, rfl, rfl, rfl, fun _ _ => bl_p.1, gd_yes e27⟩ (pj_call (hasL_cons (has_tmp rfl) <| hasL_cons (has_tmp rfl) <| hasL_nil) (by kernel_rfl) (c_rolodexref14_Same e31))) <| .read (.yes ⟨19, false, _, 74, _, rfl, rfl, rfl, fun _ _ => bl_p.1, gd_yes e27⟩ (pj_not (has_tmp rfl))) <| .read (.plain rfl (PJ.eqv (R := bl) (pj_pick (t := any) (has_tmp rfl) (fun he => absurd (e27.symm.trans he) (by decide)) (fun _ => (has_tmp rfl))) (Option.some.inj e28))) <| .nil) (j_to (Γ' := [(1, (sl R_rolodexref23_Found).slot p_l), (5, val (.pointer (some ⟨b1, 0, none⟩))), (6, val (.pointer (some ⟨b2, 0, none⟩))), (7, i64.slot y3), (84, bl.slot y11)]) (H' := [box b2 77 R_rolodexref23_Monitor r7.1, box b1 97 (prod (sl u8) (prod i64 (sl R_chain_Version))) (r6.1.1, r6.1.2.1, r6.1.2.2)]) (.cons (.of_lk rfl) <| .cons (.of_lk rfl) <| .cons (.of_lk rfl) <| .cons (.of_lk rfl) <| .cons (.of_lk rfl) <| .nil) (.cons .here <| .cons .here <| .nil) J)
                · replace e25 := bf e24 e25
                  obtain ⟨r11, e26, e25⟩ := bind_some e25
                  rcases bool_tf (y10) with e27 | e27
                  · replace e28 := bt e27 e28
                    exact run_draw (n := 30) (by kernel_rfl) (by kernel_rfl) (by kernel_rfl) (by kernel_rfl) (.read (.plain rfl (pj_move (has_tmp rfl))) <| .read (.plain rfl (pj_move (has_tmp rfl))) <| .read (.plain rfl (pj_ineq (has_tmp rfl) (has_tmp rfl))) <| .read (.plain rfl (pj_move (has_tmp rfl))) <| .read (.no ⟨3, false, _, 58, _, rfl, rfl, rfl, fun _ _ => bl_p.1, gd_no e20⟩) <| .read (.no ⟨3, false, _, 58, _, rfl, rfl, rfl, fun _ _ => bl_p.1, gd_no e20⟩) <| .read (.no ⟨3, false, _, 58, _, rfl, rfl, rfl, fun _ _ => bl_p.1, gd_no e20⟩) <| .read (.no ⟨3, false, _, 58, _, rfl, rfl, rfl, fun _ _ => bl_p.1, gd_no e20⟩) <| .read (.no ⟨3, false, _, 58, _, rfl, rfl, rfl, fun _ _ => bl_p.1, gd_no e20⟩) <| .read (.plain rfl (PJ.eqv (R := bl) (pj_pick (t := any) (has_tmp rfl) (fun _ => has_bl) (fun he => absurd (e20.symm.trans he) (by decide))) (Option.some.inj e21))) <| .read (.plain rfl (pj_move (has_tmp rfl))) <| .read (.yes ⟨10, false, _, 65, _, rfl, rfl, rfl, fun _ _ => bl_p.1, gd_yes e24⟩ (pj_move (has_tmp rfl))) <| .read (.yes ⟨10, false, _, 65, _, rfl, rfl, rfl, fun _ _ => bl_p.1, gd_yes e24⟩ (pj_callR (hasL_cons (has_tmp rfl) <| hasL_nil) (.next .here) (by kernel_rfl) (fun _ => (c_monitor_Monitor_Epoch e26)))) <| .read (.yes ⟨10, false, _, 65, _, rfl, rfl, rfl, fun _ _ => bl_p.1, gd_yes e24⟩ (pj_move (has_tmp rfl))) <| .read (.yes ⟨10, false, _, 65, _, rfl, rfl, rfl, fun _ _ => bl_p.1, gd_yes e24⟩ (pj_nilCheck_ptr (has_tmp rfl))) <| .read (.yes ⟨10, false, _, 65, _, rfl, rfl, rfl, fun _ _ => bl_p.1, gd_yes e24⟩ (pj_field_ptr (off := 1) (has_tmp rfl) (by kernel_rfl))) <| .read (.yes ⟨10, false, _, 65, _, rfl, rfl, rfl, fun _ _ => bl_p.1, gd_yes e24⟩ (pj_load_box (has_tmp rfl) .here (Path.then (Path.all R_rolodexref23_Monitor) (Path.then (Path.snd (sl u8) (prod i64 (sl R_rolodexref14_Version))) (Path.fst i64 (sl R_rolodexref14_Version)))) (by kernel_rfl))) <| .read (.yes ⟨10, false, _, 65, _, rfl, rfl, rfl, fun _ _ => bl_p.1, gd_yes e24⟩ (pj_ineq (has_tmp rfl) (has_tmp rfl))) <| .read (.plain rfl (PJ.eqv (R := bl) (pj_pick (t := any) (has_tmp rfl) (fun he => absurd (e24.symm.trans he) (by decide)) (fun _ => (has_tmp rfl))) (Option.some.inj e25))) <| .read (.plain rfl (pj_move (has_tmp rfl))) <| .read (.no ⟨19, false, _, 74, _, rfl, rfl, rfl, fun _ _ => bl_p.1, gd_no e27⟩) <| .read (.no ⟨19, false, _, 74, _, rfl, rfl, rfl, fun _ _ => bl_p.1, gd_no e27⟩) <| .read (.no ⟨19, false, _, 74, _, rfl, rfl, rfl, fun _ _ => bl_p.1, gd_no e27⟩) <| .read (.no ⟨19, false, _, 74, _, rfl, rfl, rfl, fun _ _ => bl_p.1, gd_no e27⟩) <| .read (.no ⟨19, false, _, 74, _, rfl, rfl, rfl, fun _ _ => bl_p.1, gd_no e27⟩) <| .read (.no ⟨19, false, _, 74, _, rfl, rfl, rfl, fun _ _ => bl_p.1, gd_no e27⟩) <| .read (.no ⟨19, false, _, 74, _, rfl, rfl, rfl, fun _ _ => bl_p.1, gd_no e27⟩) <| .read (.no ⟨19, false, _, 74, _, rfl, rfl, rfl, fun _ _ => bl_p.1, gd_no e27⟩) <| .read (.no ⟨19, false, _, 74, _, rfl, rfl, rfl, fun _ _ => bl_p.1, gd_no e27⟩) <| .read (.plain rfl (PJ.eqv (R := bl) (pj_pick (t := any) (has_tmp rfl) (fun _ => has_bl) (fun he => absurd (e27.symm.trans he) (by decide))) (Option.some.inj e28))) <| .nil) (j_to (Γ' := [(1, (sl R_rolodexref23_Found).slot p_l), (5, val (.pointer (some ⟨b1, 0, none⟩))), (6, val (.pointer (some ⟨b2, 0, none⟩))), (7, i64.slot y3), (84, bl.slot y11)]) (H' := [box b2 77 R_rolodexref23_Monitor r7.1, box b1 97 (prod (sl u8) (prod i64 (sl R_chain_Version))) (r6.1.1, r6.1.2.1, r6.1.2.2)]) (.cons (.of_lk rfl) <| .cons (.of_lk rfl) <| .cons (.of_lk rfl) <| .cons (.of_lk rfl) <| .cons (.of_lk rfl) <| .nil) (.cons .here <| .cons .here <| .nil) J)
                  · replace e28 := bf e27 e28
                    obtain ⟨r12, e29, e28⟩ := bind_some e28
                    obtain ⟨r13, e30, e28⟩ := bind_some e28
                    obtain ⟨r14, e31, e28⟩ := bind_some e28
                    exact run_draw (n := 30) (by kernel_rfl) (by kernel_rfl) (by kernel_rfl) (by kernel_rfl) (.read (.plain rfl (pj_move (has_tmp rfl))) <| .read (.plain rfl (pj_move (has_tmp rfl))) <| .read (.plain rfl (pj_ineq (has_tmp rfl) (has_tmp rfl))) <| .read (.plain rfl (pj_move (has_tmp rfl))) <| .read (.no ⟨3, false, _, 58, _, rfl, rfl, rfl, fun _ _ => bl_p.1, gd_no e20⟩) <| .read (.no ⟨3, false, _, 58, _, rfl, rfl, rfl, fun _ _ => bl_p.1, gd_no e20⟩) <| .read (.no ⟨3, false, _, 58, _, rfl, rfl, rfl, fun _ _ => bl_p.1, gd_no e20⟩) <| .read (.no ⟨3, false, _, 58, _, rfl, rfl, rfl, fun _ _ => bl_p.1, gd_no e20⟩) <| .read (.no ⟨3, false, _, 58, _, rfl, rfl, rfl, fun _ _ => bl_p.1, gd_no e20⟩) <| .read (.plain rfl (PJ.eqv (R := bl) (pj_pick (t := any) (has_tmp rfl) (fun _ => has_bl) (fun he => absurd (e20.symm.trans he) (by decide))) (Option.some.inj e21))) <| .read (.plain rfl (pj_move (has_tmp rfl))) <| .read (.yes ⟨10, false, _, 65, _, rfl, rfl, rfl, fun _ _ => bl_p.1, gd_yes e24⟩ (pj_move (has_tmp rfl))) <| .read (.yes ⟨10, false, _, 65, _, rfl, rfl, rfl, fun _ _ => bl_p.1, gd_yes e24⟩ (pj_callR (hasL_cons (has_tmp rfl) <| hasL_nil) (.next .here) (by kernel_rfl) (fun _ => (c_monitor_Monitor_Epoch e26)))) <| .read (.yes ⟨10, false, _, 65, _, rfl, rfl, rfl, fun _ _ => bl_p.1, gd_yes e24⟩ (pj_move (has_tmp rfl))) <| .read (.yes ⟨10, false, _, 65, _, rfl, rfl, rfl, fun _ _ => bl_p.1, gd_yes e24⟩ (pj_nilCheck_ptr (has_tmp rfl))) <| .read (.yes ⟨10, false, _, 65, _, rfl, rfl, rfl, fun _ _ => bl_p.1, gd_yes e24⟩ (pj_field_ptr (off := 1) (has_tmp rfl) (by kernel_rfl))) <| .read (.yes ⟨10, false, _, 65, _, rfl, rfl, rfl, fun _ _ => bl_p.1, gd_yes e24⟩ (pj_load_box (has_tmp rfl) .here (Path.then (Path.all R_rolodexref23_Monitor) (Path.then (Path.snd (sl u8) (prod i64 (sl R_rolodexref14_Version))) (Path.fst i64 (sl R_rolodexref14_Version)))) (by kernel_rfl))) <| .read (.yes ⟨10, false, _, 65, _, rfl, rfl, rfl, fun _ _ => bl_p.1, gd_yes e24⟩ (pj_ineq (has_tmp rfl) (has_tmp rfl))) <| .read (.plain rfl (PJ.eqv (R := bl) (pj_pick (t := any) (has_tmp rfl) (fun he => absurd (e24.symm.trans he) (by decide)) (fun _ => (has_tmp rfl))) (Option.some.inj e25))) <| .read (.plain rfl (pj_move (has_tmp rfl))) <| .read (.yes ⟨19, false, _, 74, _, rfl, rfl, rfl, fun _ _ => bl_p.1, gd_yes e27⟩ (pj_move (has_tmp rfl))) <| .read (.yes ⟨19, false, _, 74, _, rfl, rfl, rfl, fun _ _ => bl_p.1, gd_yes e27⟩ (pj_callR (hasL_cons (has_tmp rfl) <| hasL_nil) (.next .here) (by kernel_rfl) (Ctr.frozeR (fun _ => (c_monitor_Monitor_Seen e29))))) <| .read (.yes ⟨19, false, _, 74, _, rfl, rfl, rfl, fun _ _ => bl_p.1, gd_yes e27⟩ (pj_call (hasL_cons (has_tmp rfl) <| hasL_nil) (by kernel_rfl) (Ctr.froze (c_rolodexlaw14_To e30)))) <| .read (.yes ⟨19, false, _, 74, _, rfl, rfl, rfl, fun _ _ => bl_p.1, gd_yes e27⟩ (pj_move (has_tmp rfl))) <| .read (.yes ⟨19, false, _, 74, _, rfl, rfl, rfl, fun _ _ => bl_p.1, gd_yes e27⟩ (pj_nilCheck_ptr (has_tmp rfl))) <| .read (.yes ⟨19, false, _, 74, _, rfl, rfl, rfl, fun _ _ => bl_p.1, gd_yes e27⟩ (pj_field_ptr (off := 2) (has_tmp rfl) (by kernel_rfl))) <| .read (.yes ⟨19, false, _, 74, _, rfl, rfl, rfl, fun _ _ => bl_p.1, gd_yes e27⟩ (pj_load_box (has_tmp rfl) .here (Path.then (Path.all R_rolodexref23_Monitor) (Path.then (Path.snd (sl u8) (prod i64 (sl R_rolodexref14_Version))) (Path.snd i64 (sl R_rolodexref14_Version)))) (by kernel_rfl))) <| .read (.yes ⟨19, false, _, 74, _, rfl, rfl, rfl, fun _ _ => bl_p.1, gd_yes e27⟩ (pj_call (hasL_cons (has_tmp rfl) <| hasL_cons (has_tmp rfl) <| hasL_nil) (by kernel_rfl) (c_rolodexref14_Same e31))) <| .read (.yes ⟨19, false, _, 74, _, rfl, rfl, rfl, fun _ _ => bl_p.1, gd_yes e27⟩ (pj_not (has_tmp rfl))) <| .read (.plain rfl (PJ.eqv (R := bl) (pj_pick (t := any) (has_tmp rfl) (fun he => absurd (e27.symm.trans he) (by decide)) (fun _ => (has_tmp rfl))) (Option.some.inj e28))) <| .nil) (j_to (Γ' := [(1, (sl R_rolodexref23_Found).slot p_l), (5, val (.pointer (some ⟨b1, 0, none⟩))), (6, val (.pointer (some ⟨b2, 0, none⟩))), (7, i64.slot y3), (84, bl.slot y11)]) (H' := [box b2 77 R_rolodexref23_Monitor r7.1, box b1 97 (prod (sl u8) (prod i64 (sl R_chain_Version))) (r6.1.1, r6.1.2.1, r6.1.2.2)]) (.cons (.of_lk rfl) <| .cons (.of_lk rfl) <| .cons (.of_lk rfl) <| .cons (.of_lk rfl) <| .cons (.of_lk rfl) <| .nil) (.cons .here <| .cons .here <| .nil) J)
              · replace e21 := bf e20 e21
                obtain ⟨r9, e22, e21⟩ := bind_some e21
                obtain ⟨r10, e23, e21⟩ := bind_some e21
                rcases bool_tf (y9) with e24 | e24
                · replace e25 := bt e24 e25
                  rcases bool_tf (y10) with e27 | e27
                  · replace e28 := bt e27 e28
                    exact run_draw (n := 30) (by kernel_rfl) (by kernel_rfl) (by kernel_rfl) (by kernel_rfl) (.read (.plain rfl (pj_move (has_tmp rfl))) <| .read (.plain rfl (pj_move (has_tmp rfl))) <| .read (.plain rfl (pj_ineq (has_tmp rfl) (has_tmp rfl))) <| .read (.plain rfl (pj_move (has_tmp rfl))) <| .read (.yes ⟨3, false, _, 58, _, rfl, rfl, rfl, fun _ _ => bl_p.1, gd_yes e20⟩ (pj_move (has_tmp rfl))) <| .read (.yes ⟨3, false, _, 58, _, rfl, rfl, rfl, fun _ _ => bl_p.1, gd_yes e20⟩ (pj_call (hasL_cons (has_tmp rfl) <| hasL_nil) (by kernel_rfl) (Ctr.froze (c_rolodexlaw14_To e22)))) <| .read (.yes ⟨3, false, _, 58, _, rfl, rfl, rfl, fun _ _ => bl_p.1, gd_yes e20⟩ (pj_move (has_tmp rfl))) <| .read (.yes ⟨3, false, _, 58, _, rfl, rfl, rfl, fun _ _ => bl_p.1, gd_yes e20⟩ (pj_call (hasL_cons (has_tmp rfl) <| hasL_cons (has_tmp rfl) <| hasL_nil) (by kernel_rfl) (c_rolodexref14_Same e23))) <| .read (.yes ⟨3, false, _, 58, _, rfl, rfl, rfl, fun _ _ => bl_p.1, gd_yes e20⟩ (pj_not (has_tmp rfl))) <| .read (.plain rfl (PJ.eqv (R := bl) (pj_pick (t := any) (has_tmp rfl) (fun he => absurd (e20.symm.trans he) (by decide)) (fun _ => (has_tmp rfl))) (Option.some.inj e21))) <| .read (.plain rfl (pj_move (has_tmp rfl))) <| .read (.no ⟨10, false, _, 65, _, rfl, rfl, rfl, fun _ _ => bl_p.1, gd_no e24⟩) <| .read (.no ⟨10, false, _, 65, _, rfl, rfl, rfl, fun _ _ => bl_p.1, gd_no e24⟩) <| .read (.no ⟨10, false, _, 65, _, rfl, rfl, rfl, fun _ _ => bl_p.1, gd_no e24⟩) <| .read (.no ⟨10, false, _, 65, _, rfl, rfl, rfl, fun _ _ => bl_p.1, gd_no e24⟩) <| .read (.no ⟨10, false, _, 65, _, rfl, rfl, rfl, fun _ _ => bl_p.1, gd_no e24⟩) <| .read (.no ⟨10, false, _, 65, _, rfl, rfl, rfl, fun _ _ => bl_p.1, gd_no e24⟩) <| .read (.no ⟨10, false, _, 65, _, rfl, rfl, rfl, fun _ _ => bl_p.1, gd_no e24⟩) <| .read (.plain rfl (PJ.eqv (R := bl) (pj_pick (t := any) (has_tmp rfl) (fun _ => has_bl) (fun he => absurd (e24.symm.trans he) (by decide))) (Option.some.inj e25))) <| .read (.plain rfl (pj_move (has_tmp rfl))) <| .read (.no ⟨19, false, _, 74, _, rfl, rfl, rfl, fun _ _ => bl_p.1, gd_no e27⟩) <| .read (.no ⟨19, false, _, 74, _, rfl, rfl, rfl, fun _ _ => bl_p.1, gd_no e27⟩) <| .read (.no ⟨19, false, _, 74, _, rfl, rfl, rfl, fun _ _ => bl_p.1, gd_no e27⟩) <| .read (.no ⟨19, false, _, 74, _, rfl, rfl, rfl, fun _ _ => bl_p.1, gd_no e27⟩) <| .read (.no ⟨19, false, _, 74, _, rfl, rfl, rfl, fun _ _ => bl_p.1, gd_no e27⟩) <| .read (.no ⟨19, false, _, 74, _, rfl, rfl, rfl, fun _ _ => bl_p.1, gd_no e27⟩) <| .read (.no ⟨19, false, _, 74, _, rfl, rfl, rfl, fun _ _ => bl_p.1, gd_no e27⟩) <| .read (.no ⟨19, false, _, 74, _, rfl, rfl, rfl, fun _ _ => bl_p.1, gd_no e27⟩) <| .read (.no ⟨19, false, _, 74, _, rfl, rfl, rfl, fun _ _ => bl_p.1, gd_no e27⟩) <| .read (.plain rfl (PJ.eqv (R := bl) (pj_pick (t := any) (has_tmp rfl) (fun _ => has_bl) (fun he => absurd (e27.symm.trans he) (by decide))) (Option.some.inj e28))) <| .nil) (j_to (Γ' := [(1, (sl R_rolodexref23_Found).slot p_l), (5, val (.pointer (some ⟨b1, 0, none⟩))), (6, val (.pointer (some ⟨b2, 0, none⟩))), (7, i64.slot y3), (84, bl.slot y11)]) (H' := [box b2 77 R_rolodexref23_Monitor r7.1, box b1 97 (prod (sl u8) (prod i64 (sl R_chain_Version))) (r6.1.1, r6.1.2.1, r6.1.2.2)]) (.cons (.of_lk rfl) <| .cons (.of_lk rfl) <| .cons (.of_lk rfl) <| .cons (.of_lk rfl) <| .cons (.of_lk rfl) <| .nil) (.cons .here <| .cons .here <| .nil) J)
                  · replace e28 := bf e27 e28
                    obtain ⟨r12, e29, e28⟩ := bind_some e28
                    obtain ⟨r13, e30, e28⟩ := bind_some e28
                    obtain ⟨r14, e31, e28⟩ := bind_some e28
                    exact run_draw (n := 30) (by kernel_rfl) (by kernel_rfl) (by kernel_rfl) (by kernel_rfl) (.read (.plain rfl (pj_move (has_tmp rfl))) <| .read (.plain rfl (pj_move (has_tmp rfl))) <| .read (.plain rfl (pj_ineq (has_tmp rfl) (has_tmp rfl))) <| .read (.plain rfl (pj_move (has_tmp rfl))) <| .read (.yes ⟨3, false, _, 58, _, rfl, rfl, rfl, fun _ _ => bl_p.1, gd_yes e20⟩ (pj_move (has_tmp rfl))) <| .read (.yes ⟨3, false, _, 58, _, rfl, rfl, rfl, fun _ _ => bl_p.1, gd_yes e20⟩ (pj_call (hasL_cons (has_tmp rfl) <| hasL_nil) (by kernel_rfl) (Ctr.froze (c_rolodexlaw14_To e22)))) <| .read (.yes ⟨3, false, _, 58, _, rfl, rfl, rfl, fun _ _ => bl_p.1, gd_yes e20⟩ (pj_move (has_tmp rfl))) <| .read (.yes ⟨3, false, _, 58, _, rfl, rfl, rfl, fun _ _ => bl_p.1, gd_yes e20⟩ (pj_call (hasL_cons (has_tmp rfl) <| hasL_cons (has_tmp rfl) <| hasL_nil) (by kernel_rfl) (c_rolodexref14_Same e23))) <| .read (.yes ⟨3, false, _, 58, _, rfl, rfl, rfl, fun _ _ => bl_p.1, gd_yes e20⟩ (pj_not (has_tmp rfl))) <| .read (.plain rfl (PJ.eqv (R := bl) (pj_pick (t := any) (has_tmp rfl) (fun he => absurd (e20.symm.trans he) (by decide)) (fun _ => (has_tmp rfl))) (Option.some.inj e21))) <| .read (.plain rfl (pj_move (has_tmp rfl))) <| .read (.no ⟨10, false, _, 65, _, rfl, rfl, rfl, fun _ _ => bl_p.1, gd_no e24⟩) <| .read (.no ⟨10, false, _, 65, _, rfl, rfl, rfl, fun _ _ => bl_p.1, gd_no e24⟩) <| .read (.no ⟨10, false, _, 65, _, rfl, rfl, rfl, fun _ _ => bl_p.1, gd_no e24⟩) <| .read (.no ⟨10, false, _, 65, _, rfl, rfl, rfl, fun _ _ => bl_p.1, gd_no e24⟩) <| .read (.no ⟨10, false, _, 65, _, rfl, rfl, rfl, fun _ _ => bl_p.1, gd_no e24⟩) <| .read (.no ⟨10, false, _, 65, _, rfl, rfl, rfl, fun _ _ => bl_p.1, gd_no e24⟩) <| .read (.no ⟨10, false, _, 65, _, rfl, rfl, rfl, fun _ _ => bl_p.1, gd_no e24⟩) <| .read (.plain rfl (PJ.eqv (R := bl) (pj_pick (t := any) (has_tmp rfl) (fun _ => has_bl) (fun he => absurd (e24.symm.trans he) (by decide))) (Option.some.inj e25))) <| .read (.plain rfl (pj_move (has_tmp rfl))) <| .read (.yes ⟨19, false, _, 74, _, rfl, rfl, rfl, fun _ _ => bl_p.1, gd_yes e27⟩ (pj_move (has_tmp rfl))) <| .read (.yes ⟨19, false, _, 74, _, rfl, rfl, rfl, fun _ _ => bl_p.1, gd_yes e27⟩ (pj_callR (hasL_cons (has_tmp rfl) <| hasL_nil) (.next .here) (by kernel_rfl) (Ctr.frozeR (fun _ => (c_monitor_Monitor_Seen e29))))) <| .read (.yes ⟨19, false, _, 74, _, rfl, rfl, rfl, fun _ _ => bl_p.1, gd_yes e27⟩ (pj_call (hasL_cons (has_tmp rfl) <| hasL_nil) (by kernel_rfl) (Ctr.froze (c_rolodexlaw14_To e30)))) <| .read (.yes ⟨19, false, _, 74, _, rfl, rfl, rfl, fun _ _ => bl_p.1, gd_yes e27⟩ (pj_move (has_tmp rfl))) <| .read (.yes ⟨19, false, _, 74, _, rfl, rfl, rfl, fun _ _ => bl_p.1, gd_yes e27⟩ (pj_nilCheck_ptr (has_tmp rfl))) <| .read (.yes ⟨19, false, _, 74, _, rfl, rfl, rfl, fun _ _ => bl_p.1, gd_yes e27⟩ (pj_field_ptr (off := 2) (has_tmp rfl) (by kernel_rfl))) <| .read (.yes ⟨19, false, _, 74, _, rfl, rfl, rfl, fun _ _ => bl_p.1, gd_yes e27⟩ (pj_load_box (has_tmp rfl) .here (Path.then (Path.all R_rolodexref23_Monitor) (Path.then (Path.snd (sl u8) (prod i64 (sl R_rolodexref14_Version))) (Path.snd i64 (sl R_rolodexref14_Version)))) (by kernel_rfl))) <| .read (.yes ⟨19, false, _, 74, _, rfl, rfl, rfl, fun _ _ => bl_p.1, gd_yes e27⟩ (pj_call (hasL_cons (has_tmp rfl) <| hasL_cons (has_tmp rfl) <| hasL_nil) (by kernel_rfl) (c_rolodexref14_Same e31))) <| .read (.yes ⟨19, false, _, 74, _, rfl, rfl, rfl, fun _ _ => bl_p.1, gd_yes e27⟩ (pj_not (has_tmp rfl))) <| .read (.plain rfl (PJ.eqv (R := bl) (pj_pick (t := any) (has_tmp rfl) (fun he => absurd (e27.symm.trans he) (by decide)) (fun _ => (has_tmp rfl))) (Option.some.inj e28))) <| .nil) (j_to (Γ' := [(1, (sl R_rolodexref23_Found).slot p_l), (5, val (.pointer (some ⟨b1, 0, none⟩))), (6, val (.pointer (some ⟨b2, 0, none⟩))), (7, i64.slot y3), (84, bl.slot y11)]) (H' := [box b2 77 R_rolodexref23_Monitor r7.1, box b1 97 (prod (sl u8) (prod i64 (sl R_chain_Version))) (r6.1.1, r6.1.2.1, r6.1.2.2)]) (.cons (.of_lk rfl) <| .cons (.of_lk rfl) <| .cons (.of_lk rfl) <| .cons (.of_lk rfl) <| .cons (.of_lk rfl) <| .nil) (.cons .here <| .cons .here <| .nil) J)
                · replace e25 := bf e24 e25
                  obtain ⟨r11, e26, e25⟩ := bind_some e25
                  rcases bool_tf (y10) with e27 | e27
                  · replace e28 := bt e27 e28
                    exact run_draw (n := 30) (by kernel_rfl) (by kernel_rfl) (by kernel_rfl) (by kernel_rfl) (.read (.plain rfl (pj_move (has_tmp rfl))) <| .read (.plain rfl (pj_move (has_tmp rfl))) <| .read (.plain rfl (pj_ineq (has_tmp rfl) (has_tmp rfl))) <| .read (.plain rfl (pj_move (has_tmp rfl))) <| .read (.yes ⟨3, false, _, 58, _, rfl, rfl, rfl, fun _ _ => bl_p.1, gd_yes e20⟩ (pj_move (has_tmp rfl))) <| .read (.yes ⟨3, false, _, 58, _, rfl, rfl, rfl, fun _ _ => bl_p.1, gd_yes e20⟩ (pj_call (hasL_cons (has_tmp rfl) <| hasL_nil) (by kernel_rfl) (Ctr.froze (c_rolodexlaw14_To e22)))) <| .read (.yes ⟨3, false, _, 58, _, rfl, rfl, rfl, fun _ _ => bl_p.1, gd_yes e20⟩ (pj_move (has_tmp rfl))) <| .read (.yes ⟨3, false, _, 58, _, rfl, rfl, rfl, fun _ _ => bl_p.1, gd_yes e20⟩ (pj_call (hasL_cons (has_tmp rfl) <| hasL_cons (has_tmp rfl) <| hasL_nil) (by kernel_rfl) (c_rolodexref14_Same e23))) <| .read (.yes ⟨3, false, _, 58, _, rfl, rfl, rfl, fun _ _ => bl_p.1, gd_yes e20⟩ (pj_not (has_tmp rfl))) <| .read (.plain rfl (PJ.eqv (R := bl) (pj_pick (t := any) (has_tmp rfl) (fun he => absurd (e20.symm.trans he) (by decide)) (fun _ => (has_tmp rfl))) (Option.some.inj e21))) <| .read (.plain rfl (pj_move (has_tmp rfl))) <| .read (.yes ⟨10, false, _, 65, _, rfl, rfl, rfl, fun _ _ => bl_p.1, gd_yes e24⟩ (pj_move (has_tmp rfl))) <| .read (.yes ⟨10, false, _, 65, _, rfl, rfl, rfl, fun _ _ => bl_p.1, gd_yes e24⟩ (pj_callR (hasL_cons (has_tmp rfl) <| hasL_nil) (.next .here) (by kernel_rfl) (fun _ => (c_monitor_Monitor_Epoch e26)))) <| .read (.yes ⟨10, false, _, 65, _, rfl, rfl, rfl, fun _ _ => bl_p.1, gd_yes e24⟩ (pj_move (has_tmp rfl))) <| .read (.yes ⟨10, false, _, 65, _, rfl, rfl, rfl, fun _ _ => bl_p.1, gd_yes e24⟩ (pj_nilCheck_ptr (has_tmp rfl))) <| .read (.yes ⟨10, false, _, 65, _, rfl, rfl, rfl, fun _ _ => bl_p.1, gd_yes e24⟩ (pj_field_ptr (off := 1) (has_tmp rfl) (by kernel_rfl))) <| .read (.yes ⟨10, false, _, 65, _, rfl, rfl, rfl, fun _ _ => bl_p.1, gd_yes e24⟩ (pj_load_box (has_tmp rfl) .here (Path.then (Path.all R_rolodexref23_Monitor) (Path.then (Path.snd (sl u8) (prod i64 (sl R_rolodexref14_Version))) (Path.fst i64 (sl R_rolodexref14_Version)))) (by kernel_rfl))) <| .read (.yes ⟨10, false, _, 65, _, rfl, rfl, rfl, fun _ _ => bl_p.1, gd_yes e24⟩ (pj_ineq (has_tmp rfl) (has_tmp rfl))) <| .read (.plain rfl (PJ.eqv (R := bl) (pj_pick (t := any) (has_tmp rfl) (fun he => absurd (e24.symm.trans he) (by decide)) (fun _ => (has_tmp rfl))) (Option.some.inj e25))) <| .read (.plain rfl (pj_move (has_tmp rfl))) <| .read (.no ⟨19, false, _, 74, _, rfl, rfl, rfl, fun _ _ => bl_p.1, gd_no e27⟩) <| .read (.no ⟨19, false, _, 74, _, rfl, rfl, rfl, fun _ _ => bl_p.1, gd_no e27⟩) <| .read (.no ⟨19, false, _, 74, _, rfl, rfl, rfl, fun _ _ => bl_p.1, gd_no e27⟩) <| .read (.no ⟨19, false, _, 74, _, rfl, rfl, rfl, fun _ _ => bl_p.1, gd_no e27⟩) <| .read (.no ⟨19, false, _, 74, _, rfl, rfl, rfl, fun _ _ => bl_p.1, gd_no e27⟩) <| .read (.no ⟨19, false, _, 74, _, rfl, rfl, rfl, fun _ _ => bl_p.1, gd_no e27⟩) <| .read (.no ⟨19, false, _, 74, _, rfl, rfl, rfl, fun _ _ => bl_p.1, gd_no e27⟩) <| .read (.no ⟨19, false, _, 74, _, rfl, rfl, rfl, fun _ _ => bl_p.1, gd_no e27⟩) <| .read (.no ⟨19, false, _, 74, _, rfl, rfl, rfl, fun _ _ => bl_p.1, gd_no e27⟩) <| .read (.plain rfl (PJ.eqv (R := bl) (pj_pick (t := any) (has_tmp rfl) (fun _ => has_bl) (fun he => absurd (e27.symm.trans he) (by decide))) (Option.some.inj e28))) <| .nil) (j_to (Γ' := [(1, (sl R_rolodexref23_Found).slot p_l), (5, val (.pointer (some ⟨b1, 0, none⟩))), (6, val (.pointer (some ⟨b2, 0, none⟩))), (7, i64.slot y3), (84, bl.slot y11)]) (H' := [box b2 77 R_rolodexref23_Monitor r7.1, box b1 97 (prod (sl u8) (prod i64 (sl R_chain_Version))) (r6.1.1, r6.1.2.1, r6.1.2.2)]) (.cons (.of_lk rfl) <| .cons (.of_lk rfl) <| .cons (.of_lk rfl) <| .cons (.of_lk rfl) <| .cons (.of_lk rfl) <| .nil) (.cons .here <| .cons .here <| .nil) J)
                  · replace e28 := bf e27 e28
                    obtain ⟨r12, e29, e28⟩ := bind_some e28
                    obtain ⟨r13, e30, e28⟩ := bind_some e28
                    obtain ⟨r14, e31, e28⟩ := bind_some e28
                    exact run_draw (n := 30) (by kernel_rfl) (by kernel_rfl) (by kernel_rfl) (by kernel_rfl) (.read (.plain rfl (pj_move (has_tmp rfl))) <| .read (.plain rfl (pj_move (has_tmp rfl))) <| .read (.plain rfl (pj_ineq (has_tmp rfl) (has_tmp rfl))) <| .read (.plain rfl (pj_move (has_tmp rfl))) <| .read (.yes ⟨3, false, _, 58, _, rfl, rfl, rfl, fun _ _ => bl_p.1, gd_yes e20⟩ (pj_move (has_tmp rfl))) <| .read (.yes ⟨3, false, _, 58, _, rfl, rfl, rfl, fun _ _ => bl_p.1, gd_yes e20⟩ (pj_call (hasL_cons (has_tmp rfl) <| hasL_nil) (by kernel_rfl) (Ctr.froze (c_rolodexlaw14_To e22)))) <| .read (.yes ⟨3, false, _, 58, _, rfl, rfl, rfl, fun _ _ => bl_p.1, gd_yes e20⟩ (pj_move (has_tmp rfl))) <| .read (.yes ⟨3, false, _, 58, _, rfl, rfl, rfl, fun _ _ => bl_p.1, gd_yes e20⟩ (pj_call (hasL_cons (has_tmp rfl) <| hasL_cons (has_tmp rfl) <| hasL_nil) (by kernel_rfl) (c_rolodexref14_Same e23))) <| .read (.yes ⟨3, false, _, 58, _, rfl, rfl, rfl, fun _ _ => bl_p.1, gd_yes e20⟩ (pj_not (has_tmp rfl))) <| .read (.plain rfl (PJ.eqv (R := bl) (pj_pick (t := any) (has_tmp rfl) (fun he => absurd (e20.symm.trans he) (by decide)) (fun _ => (has_tmp rfl))) (Option.some.inj e21))) <| .read (.plain rfl (pj_move (has_tmp rfl))) <| .read (.yes ⟨10, false, _, 65, _, rfl, rfl, rfl, fun _ _ => bl_p.1, gd_yes e24⟩ (pj_move (has_tmp rfl))) <| .read (.yes ⟨10, false, _, 65, _, rfl, rfl, rfl, fun _ _ => bl_p.1, gd_yes e24⟩ (pj_callR (hasL_cons (has_tmp rfl) <| hasL_nil) (.next .here) (by kernel_rfl) (fun _ => (c_monitor_Monitor_Epoch e26)))) <| .read (.yes ⟨10, false, _, 65, _, rfl, rfl, rfl, fun _ _ => bl_p.1, gd_yes e24⟩ (pj_move (has_tmp rfl))) <| .read (.yes ⟨10, false, _, 65, _, rfl, rfl, rfl, fun _ _ => bl_p.1, gd_yes e24⟩ (pj_nilCheck_ptr (has_tmp rfl))) <| .read (.yes ⟨10, false, _, 65, _, rfl, rfl, rfl, fun _ _ => bl_p.1, gd_yes e24⟩ (pj_field_ptr (off := 1) (has_tmp rfl) (by kernel_rfl))) <| .read (.yes ⟨10, false, _, 65, _, rfl, rfl, rfl, fun _ _ => bl_p.1, gd_yes e24⟩ (pj_load_box (has_tmp rfl) .here (Path.then (Path.all R_rolodexref23_Monitor) (Path.then (Path.snd (sl u8) (prod i64 (sl R_rolodexref14_Version))) (Path.fst i64 (sl R_rolodexref14_Version)))) (by kernel_rfl))) <| .read (.yes ⟨10, false, _, 65, _, rfl, rfl, rfl, fun _ _ => bl_p.1, gd_yes e24⟩ (pj_ineq (has_tmp rfl) (has_tmp rfl))) <| .read (.plain rfl (PJ.eqv (R := bl) (pj_pick (t := any) (has_tmp rfl) (fun he => absurd (e24.symm.trans he) (by decide)) (fun _ => (has_tmp rfl))) (Option.some.inj e25))) <| .read (.plain rfl (pj_move (has_tmp rfl))) <| .read (.yes ⟨19, false, _, 74, _, rfl, rfl, rfl, fun _ _ => bl_p.1, gd_yes e27⟩ (pj_move (has_tmp rfl))) <| .read (.yes ⟨19, false, _, 74, _, rfl, rfl, rfl, fun _ _ => bl_p.1, gd_yes e27⟩ (pj_callR (hasL_cons (has_tmp rfl) <| hasL_nil) (.next .here) (by kernel_rfl) (Ctr.frozeR (fun _ => (c_monitor_Monitor_Seen e29))))) <| .read (.yes ⟨19, false, _, 74, _, rfl, rfl, rfl, fun _ _ => bl_p.1, gd_yes e27⟩ (pj_call (hasL_cons (has_tmp rfl) <| hasL_nil) (by kernel_rfl) (Ctr.froze (c_rolodexlaw14_To e30)))) <| .read (.yes ⟨19, false, _, 74, _, rfl, rfl, rfl, fun _ _ => bl_p.1, gd_yes e27⟩ (pj_move (has_tmp rfl))) <| .read (.yes ⟨19, false, _, 74, _, rfl, rfl, rfl, fun _ _ => bl_p.1, gd_yes e27⟩ (pj_nilCheck_ptr (has_tmp rfl))) <| .read (.yes ⟨19, false, _, 74, _, rfl, rfl, rfl, fun _ _ => bl_p.1, gd_yes e27⟩ (pj_field_ptr (off := 2) (has_tmp rfl) (by kernel_rfl))) <| .read (.yes ⟨19, false, _, 74, _, rfl, rfl, rfl, fun _ _ => bl_p.1, gd_yes e27⟩ (pj_load_box (has_tmp rfl) .here (Path.then (Path.all R_rolodexref23_Monitor) (Path.then (Path.snd (sl u8) (prod i64 (sl R_rolodexref14_Version))) (Path.snd i64 (sl R_rolodexref14_Version)))) (by kernel_rfl))) <| .read (.yes ⟨19, false, _, 74, _, rfl, rfl, rfl, fun _ _ => bl_p.1, gd_yes e27⟩ (pj_call (hasL_cons (has_tmp rfl) <| hasL_cons (has_tmp rfl) <| hasL_nil) (by kernel_rfl) (c_rolodexref14_Same e31))) <| .read (.yes ⟨19, false, _, 74, _, rfl, rfl, rfl, fun _ _ => bl_p.1, gd_yes e27⟩ (pj_not (has_tmp rfl))) <| .read (.plain rfl (PJ.eqv (R := bl) (pj_pick (t := any) (has_tmp rfl) (fun he => absurd (e27.symm.trans he) (by decide)) (fun _ => (has_tmp rfl))) (Option.some.inj e28))) <| .nil) (j_to (Γ' := [(1, (sl R_rolodexref23_Found).slot p_l), (5, val (.pointer (some ⟨b1, 0, none⟩))), (6, val (.pointer (some ⟨b2, 0, none⟩))), (7, i64.slot y3), (84, bl.slot y11)]) (H' := [box b2 77 R_rolodexref23_Monitor r7.1, box b1 97 (prod (sl u8) (prod i64 (sl R_chain_Version))) (r6.1.1, r6.1.2.1, r6.1.2.2)]) (.cons (.of_lk rfl) <| .cons (.of_lk rfl) <| .cons (.of_lk rfl) <| .cons (.of_lk rfl) <| .cons (.of_lk rfl) <| .nil) (.cons .here <| .cons .here <| .nil) J)
          · replace h := bf e11 h
            obtain rfl := Option.some.inj h
            exact run_brk () (.cons (.of_lk rfl) <| .cons (.of_lk rfl) <| .cons (.of_lk rfl) <| .cons (.of_lk rfl) <| .nil) (.cons .here <| .cons .here <| .nil)
        · rintro _ ⟨y12, y13, y14, y15, y16⟩ ho
          subst ho
          show Run _ _ _ [(1, (sl R_rolodexref23_Found).slot p_l), (5, val (.pointer (some ⟨b1, 0, none⟩))), (6, val (.pointer (some ⟨b2, 0, none⟩))), (7, i64.slot y12)] [box b2 77 R_rolodexref23_Monitor y13, box b1 97 (prod (sl u8) (prod i64 (sl R_chain_Version))) (y14, y15, y16)]
          refine run_to (Γ' := []) (H' := []) (.nil) (.nil) ?_
          refine run_seq ?_
          refine run_text ?_
          refine j_pure (pj_assign has_bl) rfl rfl rfl ?_
          refine j_end ?_
          obtain rfl := Option.some.inj h
          exact run_ret fun a w hst => q_ret1 hst rfl (.tmp rfl) () (fun _ _ h => h) (.nil)
        · intro x a w ho hR
          subst ho
          exact hq1 a w (hR (Option.some.inj h))
    · rcases bool_tf (y1) with e4 | e4
      · replace e5 := bt e4 e5
        refine j_guard_no2 (j := 7) (want := false) rfl rfl rfl rfl (bl_isx e4) rfl rfl rfl ?_
        refine j_guard_no2 (j := 7) (want := false) rfl rfl rfl rfl (bl_isx e4) rfl rfl rfl ?_
        refine j_guard_no2 (j := 7) (want := false) rfl rfl rfl rfl (bl_isx e4) rfl rfl rfl ?_
        refine j_pure (PJ.eqv (R := bl) (pj_pick (t := any) (has_tmp rfl) (fun _ => has_bl) (fun he => absurd (e4.symm.trans he) (by decide))) (Option.some.inj e5)) rfl rfl rfl ?_
        exact j_to (.cons (.of_lk rfl) <| .cons (.of_lk rfl) <| .cons (.of_lk rfl) <| .nil) (.nil) (J ())
      · replace e5 := bf e4 e5
        refine j_pure_y (pj_move (has_tmp rfl)) rfl rfl rfl rfl (bl_isx e4) rfl rfl ?_
        obtain ⟨r2, e6, e5⟩ := bind_some e5
        refine j_pure_y (pj_call (hasL_cons (has_tmp rfl) <| hasL_cons has_i64 <| hasL_nil) (by kernel_rfl) (c_rolodexref23_Few e6)) rfl rfl rfl rfl (bl_isx e4) rfl rfl ?_
        refine j_pure_y (pj_not (has_tmp rfl)) rfl rfl rfl rfl (bl_isx e4) rfl rfl ?_
        refine j_pure (PJ.eqv (R := bl) (pj_pick (t := any) (has_tmp rfl) (fun he => absurd (e4.symm.trans he) (by decide)) (fun _ => (has_tmp rfl))) (Option.some.inj e5)) rfl rfl rfl ?_
        exact j_to (.cons (.of_lk rfl) <| .cons (.of_lk rfl) <| .cons (.of_lk rfl) <| .nil) (.nil) (J ())
  · rcases bool_tf (!r1) with e2 | e2
    · replace e3 := bt e2 e3
      refine j_guard_no2 (j := 2) (want := false) rfl rfl rfl rfl (bl_isx e2) rfl rfl rfl ?_
      refine j_guard_no2 (j := 2) (want := false) rfl rfl rfl rfl (bl_isx e2) rfl rfl rfl ?_
      refine j_guard_no2 (j := 2) (want := false) rfl rfl rfl rfl (bl_isx e2) rfl rfl rfl ?_
      refine j_pure (PJ.eqv (R := bl) (pj_pick (t := any) (has_tmp rfl) (fun _ => has_bl) (fun he => absurd (e2.symm.trans he) (by decide))) (Option.some.inj e3)) rfl rfl rfl ?_
      exact j_to (.cons (.of_lk rfl) <| .cons (.of_lk rfl) <| .cons (.of_lk rfl) <| .nil) (.nil) (J ())
    · replace e3 := bf e2 e3
      refine j_pure_y (pj_move (has_tmp rfl)) rfl rfl rfl rfl (bl_isx e2) rfl rfl ?_
      refine j_pure_y (pj_len_sl (sz := 1) (has_tmp rfl) (by kernel_rfl)) rfl rfl rfl rfl (bl_isx e2) rfl rfl ?_
      refine j_pure_y (pj_igtr (has_tmp rfl) has_i64) rfl rfl rfl rfl (bl_isx e2) rfl rfl ?_
      refine j_pure (PJ.eqv (R := bl) (pj_pick (t := any) (has_tmp rfl) (fun he => absurd (e2.symm.trans he) (by decide)) (fun _ => (has_tmp rfl))) (Option.some.inj e3)) rfl rfl rfl ?_
      exact j_to (.cons (.of_lk rfl) <| .cons (.of_lk rfl) <| .cons (.of_lk rfl) <| .nil) (.nil) (J ())
end Go.Sl.W
