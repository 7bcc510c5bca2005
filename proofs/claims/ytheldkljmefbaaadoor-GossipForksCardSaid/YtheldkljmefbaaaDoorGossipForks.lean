import Derived.Test.YtheldkljmefbaaaDoorG2
import Derived.Test.YtheldkljmefbaaaDoorG6
import Derived.Test.YtheldkljmefbaaaDoorG3
import Derived.Test.YtheldkljmefbaaaDoorG4
import Derived.Test.YtheldkljmefbaaaDoorCards
import Derived.Test.YtheldkljmefbaaaDoorTie
/- The card of rolodexlaw27.GossipForks: whatever the input, the law returns true, and the input reads as it did. -/
set_option linter.unusedVariables false
set_option maxRecDepth 100000
namespace Go.Proofs.YtheldkljmefbaaaDoor.gossipForks
open Go Go.ChangeShapes Go.WideShapes Go.ChangeAt Go.RowKit Go.Sl Go.Sl.M Go.Sl.W
theorem own : ownKnob Tryd.prog.godebug = none := by kernel_rfl
theorem fn_at : Tryd.prog.funcs[5]? = some Tryd.f5 := Tryd.func5
def GL : GP := ⟨fun m => GAt 0 R_hash_state G_hash_begin m ∧ GAt 1 (vec 64 u32) G_hash_rounds m ∧ GAt 2 (vec 5 R_lmots_form) G_lmots_forms m, fun hm h => ⟨gat_mono hm h.1, gat_mono hm h.2.1, gat_mono hm h.2.2⟩⟩
theorem gl0 : HG0 GL := fun m h => h.1
theorem gl1 : HG1 GL := fun m h => h.2.1
theorem gl2 : HG2 GL := fun m h => h.2.2
theorem laid_in {W : World} (h : laidMetH Tryd.prog Rows.gossipForksRow.laid W) : GL.p (memOf W) := by
  rw [MakeChecks.laidMetH_plain _ _ _ (by kernel_rfl)] at h
  obtain ⟨ps, h0, _⟩ := h
  obtain ⟨g0, q0, h1⟩ := gat_of (g := 0) (T := 127) (R := R_hash_state) (x := G_hash_begin) h0 (by kernel_rfl) (by kernel_rfl) (fl_arr (n := 8) (e := 65) (k := 1) (by kernel_rfl) (by kernel_rfl) (fl_int (k := .u32) (by kernel_rfl) (by kernel_rfl))) (fun _ => (by exact ⟨_, _, rfl, rfl, ⟨_, _, rfl, rfl, ⟨_, _, rfl, rfl, ⟨_, _, rfl, rfl, ⟨_, _, rfl, rfl, ⟨_, _, rfl, rfl, ⟨_, _, rfl, rfl, ⟨_, _, rfl, rfl, rfl⟩⟩⟩⟩⟩⟩⟩⟩))
  obtain ⟨g1, q1, h2⟩ := gat_of (g := 1) (T := 151) (R := (vec 64 u32)) (x := G_hash_rounds) h1 (by kernel_rfl) (by kernel_rfl) (fl_arr (n := 64) (e := 65) (k := 1) (by kernel_rfl) (by kernel_rfl) (fl_int (k := .u32) (by kernel_rfl) (by kernel_rfl))) (fun _ => (by exact ⟨_, _, rfl, rfl, ⟨_, _, rfl, rfl, ⟨_, _, rfl, rfl, ⟨_, _, rfl, rfl, ⟨_, _, rfl, rfl, ⟨_, _, rfl, rfl, ⟨_, _, rfl, rfl, ⟨_, _, rfl, rfl, ⟨_, _, rfl, rfl, ⟨_, _, rfl, rfl, ⟨_, _, rfl, rfl, ⟨_, _, rfl, rfl, ⟨_, _, rfl, rfl, ⟨_, _, rfl, rfl, ⟨_, _, rfl, rfl, ⟨_, _, rfl, rfl, ⟨_, _, rfl, rfl, ⟨_, _, rfl, rfl, ⟨_, _, rfl, rfl, ⟨_, _, rfl, rfl, ⟨_, _, rfl, rfl, ⟨_, _, rfl, rfl, ⟨_, _, rfl, rfl, ⟨_, _, rfl, rfl, ⟨_, _, rfl, rfl, ⟨_, _, rfl, rfl, ⟨_, _, rfl, rfl, ⟨_, _, rfl, rfl, ⟨_, _, rfl, rfl, ⟨_, _, rfl, rfl, ⟨_, _, rfl, rfl, ⟨_, _, rfl, rfl, ⟨_, _, rfl, rfl, ⟨_, _, rfl, rfl, ⟨_, _, rfl, rfl, ⟨_, _, rfl, rfl, ⟨_, _, rfl, rfl, ⟨_, _, rfl, rfl, ⟨_, _, rfl, rfl, ⟨_, _, rfl, rfl, ⟨_, _, rfl, rfl, ⟨_, _, rfl, rfl, ⟨_, _, rfl, rfl, ⟨_, _, rfl, rfl, ⟨_, _, rfl, rfl, ⟨_, _, rfl, rfl, ⟨_, _, rfl, rfl, ⟨_, _, rfl, rfl, ⟨_, _, rfl, rfl, ⟨_, _, rfl, rfl, ⟨_, _, rfl, rfl, ⟨_, _, rfl, rfl, ⟨_, _, rfl, rfl, ⟨_, _, rfl, rfl, ⟨_, _, rfl, rfl, ⟨_, _, rfl, rfl, ⟨_, _, rfl, rfl, ⟨_, _, rfl, rfl, ⟨_, _, rfl, rfl, ⟨_, _, rfl, rfl, ⟨_, _, rfl, rfl, ⟨_, _, rfl, rfl, ⟨_, _, rfl, rfl, ⟨_, _, rfl, rfl, rfl⟩⟩⟩⟩⟩⟩⟩⟩⟩⟩⟩⟩⟩⟩⟩⟩⟩⟩⟩⟩⟩⟩⟩⟩⟩⟩⟩⟩⟩⟩⟩⟩⟩⟩⟩⟩⟩⟩⟩⟩⟩⟩⟩⟩⟩⟩⟩⟩⟩⟩⟩⟩⟩⟩⟩⟩⟩⟩⟩⟩⟩⟩⟩⟩))
  obtain ⟨g2, q2, h3⟩ := gat_of (g := 2) (T := 172) (R := (vec 5 R_lmots_form)) (x := G_lmots_forms) h2 (by kernel_rfl) (by kernel_rfl) (fl_arr (n := 5) (e := 157) (k := 3) (by kernel_rfl) (by kernel_rfl) (fl_struct (fs := #[⟨ "bits", 3, 0, false, "", "rolodex/lmots", 0⟩, ⟨ "chains", 3, 1, false, "", "rolodex/lmots", 8⟩, ⟨ "shift", 3, 2, false, "", "rolodex/lmots", 16⟩]) (by kernel_rfl) (by kernel_rfl) (.cons rfl (fl_int (k := .i64) (by kernel_rfl) (by kernel_rfl)) (.cons rfl (fl_int (k := .i64) (by kernel_rfl) (by kernel_rfl)) (.cons rfl (fl_int (k := .i64) (by kernel_rfl) (by kernel_rfl)) .nil))))) (fun _ => (by exact ⟨_, _, rfl, ⟨_, _, rfl, rfl, ⟨_, _, rfl, rfl, rfl⟩⟩, ⟨_, _, rfl, ⟨_, _, rfl, rfl, ⟨_, _, rfl, rfl, rfl⟩⟩, ⟨_, _, rfl, ⟨_, _, rfl, rfl, ⟨_, _, rfl, rfl, rfl⟩⟩, ⟨_, _, rfl, ⟨_, _, rfl, rfl, ⟨_, _, rfl, rfl, rfl⟩⟩, ⟨_, _, rfl, ⟨_, _, rfl, rfl, ⟨_, _, rfl, rfl, rfl⟩⟩, rfl⟩⟩⟩⟩⟩))
  exact ⟨g0, g1, g2⟩
theorem contract (H : Type) (enc : TypeId × Value → H) (W : World) (base : Nat) (args : Array Value) (ds : List (DataW H)) (gs : List (DataW H)) (before : List MemPlace)
    (hval : ∀ (j : Nat) t v, Tryd.f5.params[j]? = some t → args[j]? = some v → Value.okWide Tryd.prog W .any base t v)
    (hW : DataW.Whole enc Tryd.prog Tryd.f5.params.toList Rows.gossipForksSpec.vars false W args.toList ds gs before) (hL : laidMetH Tryd.prog Rows.gossipForksRow.laid W) :
    Calls Tryd.prog 5 args W fun e W' => ∃ v, e = .returned v ∧ Rows.gossipForksSpec.post enc Tryd.prog Tryd.f5 false true false false W args v W' := by
  have hW' := hW
  obtain ⟨p, q, hA0, hV, rfl, hfz, hnd⟩ := hW
  have hA : DataW.TrodAll enc Tryd.prog W 0 (fun _ => true) true Tryd.f5.params.toList args.toList ds p := hA0
  rw [Tryd.params5] at hA hval
  obtain ⟨v0, vs0, d0, ds0, p0, q0, hargs, rfl, rfl, h0, r0⟩ := trodAll_cons hA
  obtain ⟨v1, vs1, d1, ds1, p1, q1, rfl, rfl, rfl, h1, r1⟩ := trodAll_cons r0
  obtain ⟨v2, vs2, d2, ds2, p2, q2, rfl, rfl, rfl, h2, r2⟩ := trodAll_cons r1
  obtain ⟨rfl, rfl, rfl⟩ := trodAll_nil r2
  obtain rfl : args = #[v0, v1, v2] := by cases args; simp_all
  obtain ⟨rfl, rfl⟩ := trodVars_none hV
  obtain ⟨x0, hx0, w0, z0⟩ := arg_of (R := R_rolodexref17_Head) (wf := (wfP wfI (wfP wfI (wfP (wfV wfT) (wfV wfT))))) (sz := (szP sz1 (szP sz1 (szP (szV sz1) (szV sz1))))) (rr_struct (fs := #[⟨ "Epoch", 3, 0, false, "", "", 0⟩, ⟨ "Tick", 3, 1, false, "", "", 8⟩, ⟨ "Tree", 23, 2, false, "", "", 16⟩, ⟨ "Log", 23, 34, false, "", "", 48⟩]) (R := R_rolodexref17_Head) (by kernel_rfl) (by kernel_rfl) (.cons rfl (rr_i64 (by kernel_rfl) (by kernel_rfl)) (.cons rfl (rr_i64 (by kernel_rfl) (by kernel_rfl)) (.cons rfl (rr_vec (e := 5) (by kernel_rfl) (by kernel_rfl) (rr_un (k := .u8) (by kernel_rfl) (by kernel_rfl) rfl rfl)) (.one rfl (rr_vec (e := 5) (by kernel_rfl) (by kernel_rfl) (rr_un (k := .u8) (by kernel_rfl) (by kernel_rfl) rfl rfl))))))) (fun hv => ag_struct (fs := #[⟨ "Epoch", 3, 0, false, "", "", 0⟩, ⟨ "Tick", 3, 1, false, "", "", 8⟩, ⟨ "Tree", 23, 2, false, "", "", 16⟩, ⟨ "Log", 23, 34, false, "", "", 48⟩]) (by kernel_rfl) rfl hv) (hval 0 25 v0 rfl rfl) h0
  obtain ⟨x1, hx1, w1, z1⟩ := arg_of (R := R_rolodexref17_Head) (wf := (wfP wfI (wfP wfI (wfP (wfV wfT) (wfV wfT))))) (sz := (szP sz1 (szP sz1 (szP (szV sz1) (szV sz1))))) (rr_struct (fs := #[⟨ "Epoch", 3, 0, false, "", "", 0⟩, ⟨ "Tick", 3, 1, false, "", "", 8⟩, ⟨ "Tree", 23, 2, false, "", "", 16⟩, ⟨ "Log", 23, 34, false, "", "", 48⟩]) (R := R_rolodexref17_Head) (by kernel_rfl) (by kernel_rfl) (.cons rfl (rr_i64 (by kernel_rfl) (by kernel_rfl)) (.cons rfl (rr_i64 (by kernel_rfl) (by kernel_rfl)) (.cons rfl (rr_vec (e := 5) (by kernel_rfl) (by kernel_rfl) (rr_un (k := .u8) (by kernel_rfl) (by kernel_rfl) rfl rfl)) (.one rfl (rr_vec (e := 5) (by kernel_rfl) (by kernel_rfl) (rr_un (k := .u8) (by kernel_rfl) (by kernel_rfl) rfl rfl))))))) (fun hv => ag_struct (fs := #[⟨ "Epoch", 3, 0, false, "", "", 0⟩, ⟨ "Tick", 3, 1, false, "", "", 8⟩, ⟨ "Tree", 23, 2, false, "", "", 16⟩, ⟨ "Log", 23, 34, false, "", "", 48⟩]) (by kernel_rfl) rfl hv) (hval 1 25 v1 rfl rfl) h1
  obtain ⟨x2, hx2, w2, z2⟩ := arg_of (R := (sl u8)) (wf := (wfL wfT)) (sz := (szL sz1)) (rr_sl (e := 5) (by kernel_rfl) (by kernel_rfl) (by decide) (rr_un (k := .u8) (by kernel_rfl) (by kernel_rfl) rfl rfl)) (fun hv => ag_sl (e := 5) (by kernel_rfl) rfl hv) (hval 2 26 v2 rfl rfl) h2
  clear hA0
  have hlaw : rolodexlaw27_GossipForks x0 x1 x2 = some true := Pu.gossipForks x0 x1 x2
  refine (c_rolodexlaw27_GossipForks (G := GL) gl0 gl1 gl2 hlaw (memOf W) W [v0, v1, v2] [] (good_memOf W) (laid_in hL) ⟨v0, _, rfl, hx0, ⟨v1, _, rfl, hx1, ⟨v2, _, rfl, hx2, rfl⟩⟩⟩ rfl).mono ?_
  rintro e W' ⟨v, m', hs', i, rfl, hg', hv, hsat, hf⟩
  obtain rfl := bl_p.1 hv
  cases hsat
  simp only [List.append_nil] at hW'
  exact ⟨_, rfl, post_below (ds := [d0, d1, d2]) hW' rfl (below_of_frm hf) (by kernel_rfl) (by kernel_rfl) (fun _ _ _ => trodAll_cons_mk (shut_bool (show Tryd.prog.underlying 4 = some .bool by kernel_rfl) _) trodAll_mk0) rfl rfl (ok_one (by kernel_rfl) rfl (okWide_bool_mk (show Tryd.prog.underlying 4 = some .bool by kernel_rfl) _))⟩
def wargs : Array Value := #[.agg (List.toArray (List.replicate 2 (.int .i64 0) ++ List.replicate 64 (.int .u8 0))), .agg (List.toArray (List.replicate 2 (.int .i64 0) ++ List.replicate 64 (.int .u8 0))), .slice none 0 0]
def wdat (H : Type) : List (DataW H) := [.agg [.lit (.int .i64 0), .lit (.int .i64 0), .agg (List.replicate 32 (.lit (.int .u8 0))), .agg (List.replicate 32 (.lit (.int .u8 0)))], .agg [.lit (.int .i64 0), .lit (.int .i64 0), .agg (List.replicate 32 (.lit (.int .u8 0))), .agg (List.replicate 32 (.lit (.int .u8 0)))], .nil]
def setCells (cs : List Value) : Obj → Obj
  | .cells _ t frozen => .cells cs.toArray t frozen
  | o => o
noncomputable def laidWorld (os : Os) : World := { World.holding Tryd.prog os ⟨#[], #[], []⟩ with heap := ((((World.holding Tryd.prog os ⟨#[], #[], []⟩).heap.modify 0 (setCells (cellsD (H := Unit) Rows.laid_rolodex_hash_begin))).modify 1 (setCells (cellsD (H := Unit) Rows.laid_rolodex_hash_rounds))).modify 2 (setCells (cellsD (H := Unit) Rows.laid_rolodex_lmots_forms))) }
theorem laid_met (os : Os) : laidMet Tryd.prog Rows.gossipForksRow.laid ((laidWorld os).forCall (fun _ _ => 0) ⟨#[], wargs, []⟩).memory :=
  laidMet_of_run' 8 (by kernel_rfl) (by kernel_rfl)
theorem reads (os : Os) {H : Type} (enc : TypeId × Value → H) : ∃ places, DataW.whole enc Tryd.prog ((laidWorld os).forCall (fun _ _ => 0) ⟨#[], wargs, []⟩).memory Tryd.f5.params.toList Rows.gossipForksSpec.vars false (wargs : Array Value).toList 8 = some (wdat H, [], places) :=
  ⟨[], by kernel_rfl⟩
theorem lifted (os : Os) (started : os.Started) (H : Type) (enc : TypeId × Value → H) (F : Stop.Interp) :
    ReturnsInHanded {} Tryd.checked os 5 .any ((OpenSpec.ofChange Rows.gossipForksSpec).preRow enc Tryd.prog Tryd.f5 Rows.gossipForksRow.domain false Rows.gossipForksRow.laid) (((OpenSpec.ofChange Rows.gossipForksSpec).at F).post enc Tryd.prog Tryd.f5 false true false false) := by
  obtain ⟨places, hx⟩ := reads os enc
  refine returnsInHanded_of_row (C := Tryd.checked) (s := OpenSpec.ofChange Rows.gossipForksSpec) own started (by kernel_rfl) fn_at
    (witness_row_at (enc := enc) (C := Tryd.checked) false (laidWorld os) wargs rfl (by kernel_rfl) (by kernel_rfl) (by kernel_rfl)
      (OpenSpec.preRow_of_cond 8 hx (by kernel_rfl) (fun k hk => by cases hk) (by kernel_rfl) (laid_met os))) ?_
  intro W base args ds gs before hval hW _ hcond _ hL _ _
  exact contract H enc W base args ds gs before hval hW hL
theorem said : Rows.GossipForksSaid :=
  OpenClaim.holds_of_cond 5 Tryd.f5 rfl rfl rfl rfl rfl rfl rfl ⟨rfl, rfl, rfl, rfl, rfl⟩ rfl rfl rfl rfl rfl (by kernel_rfl) fn_at (by kernel_rfl)
    (of_decide_eq_true (by kernel_rfl)) (by unfold Func.isWrapper; first | (rw [if_pos (by decide +kernel)]; kernel_rfl) | (rw [if_neg (by decide +kernel)]; exact ⟨rfl, rfl⟩))
    (fun os started H enc _ F => by rw [OpenClaim.pre_eq_preRow]; exact lifted os started H enc F)
theorem plain (f : FuncId) (fn : Func) (hf : Tryd.pinned.checked.prog.funcNamed "rolodex/rolodexlaw27.GossipForks" = some f) (hfn : Tryd.pinned.checked.prog.funcs[f]? = some fn) :
    false = Tryd.pinned.checked.prog.looks [] ∧ ∀ (j : Nat) t, fn.params[j]? = some t → Tryd.pinned.checked.prog.wantsStandIn t = false := by
  obtain rfl : f = 5 := Option.some.inj ((show Tryd.prog.funcNamed "rolodex/rolodexlaw27.GossipForks" = some 5 by kernel_rfl).symm.trans hf) |>.symm
  obtain rfl : fn = Tryd.f5 := (Option.some.inj (fn_at.symm.trans hfn)).symm
  refine ⟨by kernel_rfl, fun j t ht => ?_⟩
  rw [Tryd.params5] at ht
  have hm : t ∈ [25, 25, 26] := by simpa using Array.mem_of_getElem? ht
  have hall : ([25, 25, 26].all fun u => !Tryd.prog.wantsStandIn u) = true := by kernel_rfl
  exact (show Tryd.prog.wantsStandIn t = false by simpa using List.all_eq_true.1 hall t hm)
theorem card : Rows.GossipForksCardSaid :=
  Claim7.holds_tied_plain_at .later [] _ _ _ _ said (fun _ h => by cases h) (by kernel_rfl) (fun _ h => by cases h) gossipForks_row_tie rfl ⟨rfl, rfl⟩ (by kernel_rfl) rfl plain (by kernel_rfl)
end Go.Proofs.YtheldkljmefbaaaDoor.gossipForks
