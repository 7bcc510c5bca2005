import Derived.Test.YtheldkljmefbaaaGreatDoorG5
import Derived.Test.YtheldkljmefbaaaGreatDoorG9
import Derived.Test.YtheldkljmefbaaaGreatDoorG1
import Derived.Test.YtheldkljmefbaaaGreatDoorG2
import Derived.Test.YtheldkljmefbaaaGreatDoorG3
import Derived.Test.YtheldkljmefbaaaGreatDoorCards
import Derived.Test.YtheldkljmefbaaaGreatDoorTie
/- The card of rolodexlaw27.GossipPlays: whatever the input, the law returns true, and the input reads as it did. -/
set_option linter.unusedVariables false
set_option maxRecDepth 100000
namespace Go.Proofs.YtheldkljmefbaaaGreatDoor.gossipPlays
open Go Go.ChangeShapes Go.WideShapes Go.ChangeAt Go.RowKit Go.Sl Go.Sl.M Go.Sl.W
theorem own : ownKnob Tryz.prog.godebug = none := by kernel_rfl
theorem fn_at : Tryz.prog.funcs[5]? = some Tryz.f5 := Tryz.func5
def GL : GP := ⟨fun m => GAt 3 (vec 32 u8) Kg m ∧ GAt 4 (vec 64 u8) Z6 m ∧ GAt 1 Jk Ye m ∧ GAt 2 (vec 64 u32) X7 m ∧ GAt 0 (vec 5 Jv) U8 m, fun hm h => ⟨Qbx hm h.1, Qbx hm h.2.1, Qbx hm h.2.2.1, Qbx hm h.2.2.2.1, Qbx hm h.2.2.2.2⟩⟩
theorem gl3 : HG3 GL := fun m h => h.1
theorem gl4 : HG4 GL := fun m h => h.2.1
theorem gl1 : HG1 GL := fun m h => h.2.2.1
theorem gl2 : HG2 GL := fun m h => h.2.2.2.1
theorem gl0 : HG0 GL := fun m h => h.2.2.2.2
theorem laid_in {W : World} (h : laidMetH Tryz.prog Rows.gossipPlaysRow.laid W) : GL.p (Qcg W) := by
 rw [MakeChecks.laidMetH_plain _ _ _ (by kernel_rfl)] at h
 obtain ⟨ps, h0, _⟩ := h
 obtain ⟨g0, q0, h1⟩ := Qf1 (g := 3) (T := 22) (R := (vec 32 u8)) (x := Kg) h0 (by kernel_rfl) (by kernel_rfl) (Qe1 (n := 32) (e := 5) (k := 1) (by kernel_rfl) (by kernel_rfl) (QcQ (k := .u8) (by kernel_rfl) (by kernel_rfl))) (fun _ => (by exact ⟨_, _, rfl, rfl, ⟨_, _, rfl, rfl, ⟨_, _, rfl, rfl, ⟨_, _, rfl, rfl, ⟨_, _, rfl, rfl, ⟨_, _, rfl, rfl, ⟨_, _, rfl, rfl, ⟨_, _, rfl, rfl, ⟨_, _, rfl, rfl, ⟨_, _, rfl, rfl, ⟨_, _, rfl, rfl, ⟨_, _, rfl, rfl, ⟨_, _, rfl, rfl, ⟨_, _, rfl, rfl, ⟨_, _, rfl, rfl, ⟨_, _, rfl, rfl, ⟨_, _, rfl, rfl, ⟨_, _, rfl, rfl, ⟨_, _, rfl, rfl, ⟨_, _, rfl, rfl, ⟨_, _, rfl, rfl, ⟨_, _, rfl, rfl, ⟨_, _, rfl, rfl, ⟨_, _, rfl, rfl, ⟨_, _, rfl, rfl, ⟨_, _, rfl, rfl, ⟨_, _, rfl, rfl, ⟨_, _, rfl, rfl, ⟨_, _, rfl, rfl, ⟨_, _, rfl, rfl, ⟨_, _, rfl, rfl, ⟨_, _, rfl, rfl, rfl⟩⟩⟩⟩⟩⟩⟩⟩⟩⟩⟩⟩⟩⟩⟩⟩⟩⟩⟩⟩⟩⟩⟩⟩⟩⟩⟩⟩⟩⟩⟩⟩))
 obtain ⟨g1, q1, h2⟩ := Qf1 (g := 4) (T := 255) (R := (vec 64 u8)) (x := Z6) h1 (by kernel_rfl) (by kernel_rfl) (Qe1 (n := 64) (e := 5) (k := 1) (by kernel_rfl) (by kernel_rfl) (QcQ (k := .u8) (by kernel_rfl) (by kernel_rfl))) (fun _ => (by exact ⟨_, _, rfl, rfl, ⟨_, _, rfl, rfl, ⟨_, _, rfl, rfl, ⟨_, _, rfl, rfl, ⟨_, _, rfl, rfl, ⟨_, _, rfl, rfl, ⟨_, _, rfl, rfl, ⟨_, _, rfl, rfl, ⟨_, _, rfl, rfl, ⟨_, _, rfl, rfl, ⟨_, _, rfl, rfl, ⟨_, _, rfl, rfl, ⟨_, _, rfl, rfl, ⟨_, _, rfl, rfl, ⟨_, _, rfl, rfl, ⟨_, _, rfl, rfl, ⟨_, _, rfl, rfl, ⟨_, _, rfl, rfl, ⟨_, _, rfl, rfl, ⟨_, _, rfl, rfl, ⟨_, _, rfl, rfl, ⟨_, _, rfl, rfl, ⟨_, _, rfl, rfl, ⟨_, _, rfl, rfl, ⟨_, _, rfl, rfl, ⟨_, _, rfl, rfl, ⟨_, _, rfl, rfl, ⟨_, _, rfl, rfl, ⟨_, _, rfl, rfl, ⟨_, _, rfl, rfl, ⟨_, _, rfl, rfl, ⟨_, _, rfl, rfl, ⟨_, _, rfl, rfl, ⟨_, _, rfl, rfl, ⟨_, _, rfl, rfl, ⟨_, _, rfl, rfl, ⟨_, _, rfl, rfl, ⟨_, _, rfl, rfl, ⟨_, _, rfl, rfl, ⟨_, _, rfl, rfl, ⟨_, _, rfl, rfl, ⟨_, _, rfl, rfl, ⟨_, _, rfl, rfl, ⟨_, _, rfl, rfl, ⟨_, _, rfl, rfl, ⟨_, _, rfl, rfl, ⟨_, _, rfl, rfl, ⟨_, _, rfl, rfl, ⟨_, _, rfl, rfl, ⟨_, _, rfl, rfl, ⟨_, _, rfl, rfl, ⟨_, _, rfl, rfl, ⟨_, _, rfl, rfl, ⟨_, _, rfl, rfl, ⟨_, _, rfl, rfl, ⟨_, _, rfl, rfl, ⟨_, _, rfl, rfl, ⟨_, _, rfl, rfl, ⟨_, _, rfl, rfl, ⟨_, _, rfl, rfl, ⟨_, _, rfl, rfl, ⟨_, _, rfl, rfl, ⟨_, _, rfl, rfl, ⟨_, _, rfl, rfl, rfl⟩⟩⟩⟩⟩⟩⟩⟩⟩⟩⟩⟩⟩⟩⟩⟩⟩⟩⟩⟩⟩⟩⟩⟩⟩⟩⟩⟩⟩⟩⟩⟩⟩⟩⟩⟩⟩⟩⟩⟩⟩⟩⟩⟩⟩⟩⟩⟩⟩⟩⟩⟩⟩⟩⟩⟩⟩⟩⟩⟩⟩⟩⟩⟩))
 obtain ⟨g2, q2, h3⟩ := Qf1 (g := 1) (T := 229) (R := Jk) (x := Ye) h2 (by kernel_rfl) (by kernel_rfl) (Qe1 (n := 8) (e := 156) (k := 1) (by kernel_rfl) (by kernel_rfl) (QcQ (k := .u32) (by kernel_rfl) (by kernel_rfl))) (fun _ => (by exact ⟨_, _, rfl, rfl, ⟨_, _, rfl, rfl, ⟨_, _, rfl, rfl, ⟨_, _, rfl, rfl, ⟨_, _, rfl, rfl, ⟨_, _, rfl, rfl, ⟨_, _, rfl, rfl, ⟨_, _, rfl, rfl, rfl⟩⟩⟩⟩⟩⟩⟩⟩))
 obtain ⟨g3, q3, h4⟩ := Qf1 (g := 2) (T := 217) (R := (vec 64 u32)) (x := X7) h3 (by kernel_rfl) (by kernel_rfl) (Qe1 (n := 64) (e := 156) (k := 1) (by kernel_rfl) (by kernel_rfl) (QcQ (k := .u32) (by kernel_rfl) (by kernel_rfl))) (fun _ => (by exact ⟨_, _, rfl, rfl, ⟨_, _, rfl, rfl, ⟨_, _, rfl, rfl, ⟨_, _, rfl, rfl, ⟨_, _, rfl, rfl, ⟨_, _, rfl, rfl, ⟨_, _, rfl, rfl, ⟨_, _, rfl, rfl, ⟨_, _, rfl, rfl, ⟨_, _, rfl, rfl, ⟨_, _, rfl, rfl, ⟨_, _, rfl, rfl, ⟨_, _, rfl, rfl, ⟨_, _, rfl, rfl, ⟨_, _, rfl, rfl, ⟨_, _, rfl, rfl, ⟨_, _, rfl, rfl, ⟨_, _, rfl, rfl, ⟨_, _, rfl, rfl, ⟨_, _, rfl, rfl, ⟨_, _, rfl, rfl, ⟨_, _, rfl, rfl, ⟨_, _, rfl, rfl, ⟨_, _, rfl, rfl, ⟨_, _, rfl, rfl, ⟨_, _, rfl, rfl, ⟨_, _, rfl, rfl, ⟨_, _, rfl, rfl, ⟨_, _, rfl, rfl, ⟨_, _, rfl, rfl, ⟨_, _, rfl, rfl, ⟨_, _, rfl, rfl, ⟨_, _, rfl, rfl, ⟨_, _, rfl, rfl, ⟨_, _, rfl, rfl, ⟨_, _, rfl, rfl, ⟨_, _, rfl, rfl, ⟨_, _, rfl, rfl, ⟨_, _, rfl, rfl, ⟨_, _, rfl, rfl, ⟨_, _, rfl, rfl, ⟨_, _, rfl, rfl, ⟨_, _, rfl, rfl, ⟨_, _, rfl, rfl, ⟨_, _, rfl, rfl, ⟨_, _, rfl, rfl, ⟨_, _, rfl, rfl, ⟨_, _, rfl, rfl, ⟨_, _, rfl, rfl, ⟨_, _, rfl, rfl, ⟨_, _, rfl, rfl, ⟨_, _, rfl, rfl, ⟨_, _, rfl, rfl, ⟨_, _, rfl, rfl, ⟨_, _, rfl, rfl, ⟨_, _, rfl, rfl, ⟨_, _, rfl, rfl, ⟨_, _, rfl, rfl, ⟨_, _, rfl, rfl, ⟨_, _, rfl, rfl, ⟨_, _, rfl, rfl, ⟨_, _, rfl, rfl, ⟨_, _, rfl, rfl, ⟨_, _, rfl, rfl, rfl⟩⟩⟩⟩⟩⟩⟩⟩⟩⟩⟩⟩⟩⟩⟩⟩⟩⟩⟩⟩⟩⟩⟩⟩⟩⟩⟩⟩⟩⟩⟩⟩⟩⟩⟩⟩⟩⟩⟩⟩⟩⟩⟩⟩⟩⟩⟩⟩⟩⟩⟩⟩⟩⟩⟩⟩⟩⟩⟩⟩⟩⟩⟩⟩))
 obtain ⟨g4, q4, h5⟩ := Qf1 (g := 0) (T := 228) (R := (vec 5 Jv)) (x := U8) h4 (by kernel_rfl) (by kernel_rfl) (Qe1 (n := 5) (e := 194) (k := 3) (by kernel_rfl) (by kernel_rfl) (QkI (fs := #[⟨ "bits", 3, 0, false, "", "rolodex/lmots", 0⟩, ⟨ "chains", 3, 1, false, "", "rolodex/lmots", 8⟩, ⟨ "shift", 3, 2, false, "", "rolodex/lmots", 16⟩]) (by kernel_rfl) (by kernel_rfl) (.cons rfl (QcQ (k := .i64) (by kernel_rfl) (by kernel_rfl)) (.cons rfl (QcQ (k := .i64) (by kernel_rfl) (by kernel_rfl)) (.cons rfl (QcQ (k := .i64) (by kernel_rfl) (by kernel_rfl)) .nil))))) (fun _ => (by exact ⟨_, _, rfl, ⟨_, _, rfl, rfl, ⟨_, _, rfl, rfl, rfl⟩⟩, ⟨_, _, rfl, ⟨_, _, rfl, rfl, ⟨_, _, rfl, rfl, rfl⟩⟩, ⟨_, _, rfl, ⟨_, _, rfl, rfl, ⟨_, _, rfl, rfl, rfl⟩⟩, ⟨_, _, rfl, ⟨_, _, rfl, rfl, ⟨_, _, rfl, rfl, rfl⟩⟩, ⟨_, _, rfl, ⟨_, _, rfl, rfl, ⟨_, _, rfl, rfl, rfl⟩⟩, rfl⟩⟩⟩⟩⟩))
 exact ⟨g0, g1, g2, g3, g4⟩
theorem contract (H : Type) (enc : TypeId × Value → H) (W : World) (base : Nat) (args : Array Value) (ds : List (DataW H)) (gs : List (DataW H)) (before : List MemPlace)
  (hval : ∀ (j : Nat) t v, Tryz.f5.params[j]? = some t → args[j]? = some v → Value.okWide Tryz.prog W .any base t v)
  (hW : DataW.Whole enc Tryz.prog Tryz.f5.params.toList Rows.gossipPlaysSpec.vars false W args.toList ds gs before) (hL : laidMetH Tryz.prog Rows.gossipPlaysRow.laid W) :
  Calls Tryz.prog 5 args W fun e W' => ∃ v, e = .returned v ∧ Rows.gossipPlaysSpec.post enc Tryz.prog Tryz.f5 false true false false W args v W' := by
 have hW' := hW
 obtain ⟨p, q, hA0, hV, rfl, hfz, hnd⟩ := hW
 have hA : DataW.TrodAll enc Tryz.prog W 0 (fun _ => true) true Tryz.f5.params.toList args.toList ds p := hA0
 rw [Tryz.params5] at hA hval
 obtain ⟨v0, vs0, d0, ds0, p0, q0, hargs, rfl, rfl, h0, r0⟩ := trodAll_cons hA
 obtain ⟨rfl, rfl, rfl⟩ := trodAll_nil r0
 obtain rfl : args = #[v0] := by cases args; simp_all
 obtain ⟨rfl, rfl⟩ := trodVars_none hV
 obtain ⟨x0, hx0, w0, z0⟩ := QoH (R := (sl Q3)) (wf := (wfL (wfP wfI (wfP (wfP wfI (wfP wfI (wfP (wfV wfT) (wfV wfT)))) (wfP wfT (wfP wfI (wfP wfI (wfP (wfL (wfV wfT)) (wfL (wfV wfT)))))))))) (sz := (szL (szP sz1 (szP (szP sz1 (szP sz1 (szP (szV sz1) (szV sz1)))) (szP sz1 (szP sz1 (szP sz1 (szP (szL (szV sz1)) (szL (szV sz1)))))))))) (QlX (e := 72) (by kernel_rfl) (by kernel_rfl) (by decide) (QdU (fs := #[⟨ "Kind", 3, 0, false, "", "", 0⟩, ⟨ "Head", 25, 1, false, "", "", 8⟩, ⟨ "Spoilt", 4, 67, false, "", "", 88⟩, ⟨ "M", 3, 68, false, "", "", 96⟩, ⟨ "N", 3, 69, false, "", "", 104⟩, ⟨ "Trail", 46, 70, false, "", "", 112⟩]) (R := Q3) (by kernel_rfl) (by kernel_rfl) (.cons rfl (QfF (by kernel_rfl) (by kernel_rfl)) (.cons rfl (QdU (fs := #[⟨ "Epoch", 3, 0, false, "", "", 0⟩, ⟨ "Tick", 3, 1, false, "", "", 8⟩, ⟨ "Tree", 23, 2, false, "", "", 16⟩, ⟨ "Log", 23, 34, false, "", "", 48⟩]) (R := Zg) (by kernel_rfl) (by kernel_rfl) (.cons rfl (QfF (by kernel_rfl) (by kernel_rfl)) (.cons rfl (QfF (by kernel_rfl) (by kernel_rfl)) (.cons rfl (QgV (e := 5) (by kernel_rfl) (by kernel_rfl) (Qkd (k := .u8) (by kernel_rfl) (by kernel_rfl) rfl rfl)) (.one rfl (QgV (e := 5) (by kernel_rfl) (by kernel_rfl) (Qkd (k := .u8) (by kernel_rfl) (by kernel_rfl) rfl rfl))))))) (.cons rfl (Qpk (by kernel_rfl) (by kernel_rfl)) (.cons rfl (QfF (by kernel_rfl) (by kernel_rfl)) (.cons rfl (QfF (by kernel_rfl) (by kernel_rfl)) (.one rfl (QdU (fs := #[⟨ "Ahead", 44, 0, false, "", "", 0⟩, ⟨ "Behind", 44, 1, false, "", "", 24⟩]) (R := Q6) (by kernel_rfl) (by kernel_rfl) (.cons rfl (QlX (e := 23) (by kernel_rfl) (by kernel_rfl) (by decide) (QgV (e := 5) (by kernel_rfl) (by kernel_rfl) (Qkd (k := .u8) (by kernel_rfl) (by kernel_rfl) rfl rfl))) (.one rfl (QlX (e := 23) (by kernel_rfl) (by kernel_rfl) (by decide) (QgV (e := 5) (by kernel_rfl) (by kernel_rfl) (Qkd (k := .u8) (by kernel_rfl) (by kernel_rfl) rfl rfl)))))))))))))) (fun hv => Qpb (e := 72) (by kernel_rfl) rfl hv) (hval 0 63 v0 rfl rfl) h0
 clear hA0
 have hlaw : Xd x0 = some true := Pu.gossipPlays x0 (fun o ho => ⟨(w0.2 o ho).2.2.2.1, (w0.2 o ho).2.2.2.2.1⟩)
 refine (qp (G := GL) gl0 gl1 gl2 gl3 gl4 hlaw (Qcg W) W [v0] [] (Qi1 W) (laid_in hL) ⟨v0, _, rfl, hx0, rfl⟩ rfl).mono ?_
 rintro e W' ⟨v, m', hs', i, rfl, hg', hv, hsat, hf⟩
 obtain rfl := U7.1 hv
 cases hsat
 simp only [List.append_nil] at hW'
 exact ⟨_, rfl, QiO (ds := [d0]) hW' rfl (Qg7 hf) (by kernel_rfl) (by kernel_rfl) (fun _ _ _ => trodAll_cons_mk (shut_bool (show Tryz.prog.underlying 4 = some .bool by kernel_rfl) _) trodAll_mk0) rfl rfl (ok_one (by kernel_rfl) rfl (okWide_bool_mk (show Tryz.prog.underlying 4 = some .bool by kernel_rfl) _))⟩
def wargs : Array Value := #[.slice none 0 0]
def wdat (H : Type) : List (DataW H) := [.nil]
def setCells (cs : List Value) : Obj → Obj
 | .cells _ t frozen => .cells cs.toArray t frozen
 | o => o
noncomputable def Qd4 (os : Os) : World := { World.holding Tryz.prog os ⟨#[], #[], []⟩ with heap := ((((((World.holding Tryz.prog os ⟨#[], #[], []⟩).heap.modify 3 (setCells (BD (H := Unit) Rows.laid_math_bits_deBruijn32tab))).modify 4 (setCells (BD (H := Unit) Rows.laid_math_bits_deBruijn64tab))).modify 1 (setCells (BD (H := Unit) Rows.laid_rolodex_hash_begin))).modify 2 (setCells (BD (H := Unit) Rows.laid_rolodex_hash_rounds))).modify 0 (setCells (BD (H := Unit) Rows.laid_rolodex_lmots_forms))) }
theorem laid_met (os : Os) : laidMet Tryz.prog Rows.gossipPlaysRow.laid ((Qd4 os).forCall (fun _ _ => 0) ⟨#[], wargs, []⟩).memory :=
 laidMet_of_run' 8 (by kernel_rfl) (by kernel_rfl)
theorem reads (os : Os) {H : Type} (enc : TypeId × Value → H) : ∃ places, DataW.whole enc Tryz.prog ((Qd4 os).forCall (fun _ _ => 0) ⟨#[], wargs, []⟩).memory Tryz.f5.params.toList Rows.gossipPlaysSpec.vars false (wargs : Array Value).toList 8 = some (wdat H, [], places) :=
 ⟨[], by kernel_rfl⟩
theorem lifted (os : Os) (started : os.Started) (H : Type) (enc : TypeId × Value → H) (F : Stop.Interp) :
  ReturnsInHanded {} Tryz.checked os 5 .any ((OpenSpec.ofChange Rows.gossipPlaysSpec).preRow enc Tryz.prog Tryz.f5 Rows.gossipPlaysRow.domain false Rows.gossipPlaysRow.laid) (((OpenSpec.ofChange Rows.gossipPlaysSpec).at F).post enc Tryz.prog Tryz.f5 false true false false) := by
 obtain ⟨places, hx⟩ := reads os enc
 refine returnsInHanded_of_row (C := Tryz.checked) (s := OpenSpec.ofChange Rows.gossipPlaysSpec) own started (by kernel_rfl) fn_at
  (witness_row_at (enc := enc) (C := Tryz.checked) false (Qd4 os) wargs rfl (by kernel_rfl) (by kernel_rfl) (by kernel_rfl)
   (OpenSpec.preRow_of_cond 8 hx (by kernel_rfl) (fun k hk => by cases hk) (by kernel_rfl) (laid_met os))) ?_
 intro W base args ds gs before hval hW _ hcond _ hL _ _
 exact contract H enc W base args ds gs before hval hW hL
theorem said : Rows.GossipPlaysSaid :=
 OpenClaim.holds_of_cond 5 Tryz.f5 rfl rfl rfl rfl rfl rfl rfl ⟨rfl, rfl, rfl, rfl, rfl⟩ rfl rfl rfl rfl rfl (by kernel_rfl) fn_at (by kernel_rfl)
  (of_decide_eq_true (by kernel_rfl)) (by unfold Func.isWrapper; first | (rw [if_pos (by decide +kernel)]; kernel_rfl) | (rw [if_neg (by decide +kernel)]; exact ⟨rfl, rfl⟩))
  (fun os started H enc _ F => by rw [OpenClaim.pre_eq_preRow]; exact lifted os started H enc F)
theorem plain (f : FuncId) (fn : Func) (hf : Tryz.pinned.checked.prog.funcNamed "rolodex/rolodexlaw27.GossipPlays" = some f) (hfn : Tryz.pinned.checked.prog.funcs[f]? = some fn) :
  false = Tryz.pinned.checked.prog.looks [] ∧ ∀ (j : Nat) t, fn.params[j]? = some t → Tryz.pinned.checked.prog.wantsStandIn t = false := by
 obtain rfl : f = 5 := Option.some.inj ((show Tryz.prog.funcNamed "rolodex/rolodexlaw27.GossipPlays" = some 5 by kernel_rfl).symm.trans hf) |>.symm
 obtain rfl : fn = Tryz.f5 := (Option.some.inj (fn_at.symm.trans hfn)).symm
 refine ⟨by kernel_rfl, fun j t ht => ?_⟩
 rw [Tryz.params5] at ht
 have hm : t ∈ [63] := by simpa using Array.mem_of_getElem? ht
 have hall : ([63].all fun u => !Tryz.prog.wantsStandIn u) = true := by kernel_rfl
 exact (show Tryz.prog.wantsStandIn t = false by simpa using List.all_eq_true.1 hall t hm)
theorem card : Rows.GossipPlaysCardSaid :=
 Claim7.holds_tied_plain_at .later [] _ _ _ _ said (fun _ h => by cases h) (by kernel_rfl) (fun _ h => by cases h) gossipPlays_row_tie rfl ⟨rfl, rfl⟩ (by kernel_rfl) rfl plain (by kernel_rfl)
end Go.Proofs.YtheldkljmefbaaaGreatDoor.gossipPlays
