import Derived.Test.YtheldkljmefbaaaGreatDoorG4
import Derived.Test.YtheldkljmefbaaaGreatDoorG7
import Derived.Test.YtheldkljmefbaaaGreatDoorG1
import Derived.Test.YtheldkljmefbaaaGreatDoorG2
import Derived.Test.YtheldkljmefbaaaGreatDoorCards
import Derived.Test.YtheldkljmefbaaaGreatDoorTie
/- The card of rolodexlaw27.GossipSound: whatever the input, the law returns true, and the input reads as it did. -/
set_option linter.unusedVariables false
set_option maxRecDepth 100000
namespace Go.Proofs.YtheldkljmefbaaaGreatDoor.gossipSound
open Go Go.ChangeShapes Go.WideShapes Go.ChangeAt Go.RowKit Go.Sl Go.Sl.M Go.Sl.W
theorem own : ownKnob Tryz.prog.godebug = none := by kernel_rfl
theorem fn_at : Tryz.prog.funcs[4]? = some Tryz.f4 := Tryz.func4
def GL : GP := ⟨fun m => GAt 3 (vec 32 u8) XM m ∧ GAt 4 (vec 64 u8) Zs m ∧ GAt 1 Qw Zu m ∧ GAt 2 (vec 64 u32) YX m ∧ GAt 0 (vec 5 Qx) Kz m, fun hm h => ⟨qm hm h.1, qm hm h.2.1, qm hm h.2.2.1, qm hm h.2.2.2.1, qm hm h.2.2.2.2⟩⟩
theorem gl3 : HG3 GL := fun m h => h.1
theorem gl4 : HG4 GL := fun m h => h.2.1
theorem gl1 : HG1 GL := fun m h => h.2.2.1
theorem gl2 : HG2 GL := fun m h => h.2.2.2.1
theorem gl0 : HG0 GL := fun m h => h.2.2.2.2
theorem laid_in {W : World} (h : laidMetH Tryz.prog Rows.gossipSoundRow.laid W) : GL.p (q9 W) := by
 rw [MakeChecks.laidMetH_plain _ _ _ (by kernel_rfl)] at h
 obtain ⟨ps, h0, _⟩ := h
 obtain ⟨g0, q0, h1⟩ := Qdq (g := 3) (T := 22) (R := (vec 32 u8)) (x := XM) h0 (by kernel_rfl) (by kernel_rfl) (Qds (n := 32) (e := 5) (k := 1) (by kernel_rfl) (by kernel_rfl) (Qac (k := .u8) (by kernel_rfl) (by kernel_rfl))) (fun _ => (by exact ⟨_, _, rfl, rfl, ⟨_, _, rfl, rfl, ⟨_, _, rfl, rfl, ⟨_, _, rfl, rfl, ⟨_, _, rfl, rfl, ⟨_, _, rfl, rfl, ⟨_, _, rfl, rfl, ⟨_, _, rfl, rfl, ⟨_, _, rfl, rfl, ⟨_, _, rfl, rfl, ⟨_, _, rfl, rfl, ⟨_, _, rfl, rfl, ⟨_, _, rfl, rfl, ⟨_, _, rfl, rfl, ⟨_, _, rfl, rfl, ⟨_, _, rfl, rfl, ⟨_, _, rfl, rfl, ⟨_, _, rfl, rfl, ⟨_, _, rfl, rfl, ⟨_, _, rfl, rfl, ⟨_, _, rfl, rfl, ⟨_, _, rfl, rfl, ⟨_, _, rfl, rfl, ⟨_, _, rfl, rfl, ⟨_, _, rfl, rfl, ⟨_, _, rfl, rfl, ⟨_, _, rfl, rfl, ⟨_, _, rfl, rfl, ⟨_, _, rfl, rfl, ⟨_, _, rfl, rfl, ⟨_, _, rfl, rfl, ⟨_, _, rfl, rfl, rfl⟩⟩⟩⟩⟩⟩⟩⟩⟩⟩⟩⟩⟩⟩⟩⟩⟩⟩⟩⟩⟩⟩⟩⟩⟩⟩⟩⟩⟩⟩⟩⟩))
 obtain ⟨g1, q1, h2⟩ := Qdq (g := 4) (T := 255) (R := (vec 64 u8)) (x := Zs) h1 (by kernel_rfl) (by kernel_rfl) (Qds (n := 64) (e := 5) (k := 1) (by kernel_rfl) (by kernel_rfl) (Qac (k := .u8) (by kernel_rfl) (by kernel_rfl))) (fun _ => (by exact ⟨_, _, rfl, rfl, ⟨_, _, rfl, rfl, ⟨_, _, rfl, rfl, ⟨_, _, rfl, rfl, ⟨_, _, rfl, rfl, ⟨_, _, rfl, rfl, ⟨_, _, rfl, rfl, ⟨_, _, rfl, rfl, ⟨_, _, rfl, rfl, ⟨_, _, rfl, rfl, ⟨_, _, rfl, rfl, ⟨_, _, rfl, rfl, ⟨_, _, rfl, rfl, ⟨_, _, rfl, rfl, ⟨_, _, rfl, rfl, ⟨_, _, rfl, rfl, ⟨_, _, rfl, rfl, ⟨_, _, rfl, rfl, ⟨_, _, rfl, rfl, ⟨_, _, rfl, rfl, ⟨_, _, rfl, rfl, ⟨_, _, rfl, rfl, ⟨_, _, rfl, rfl, ⟨_, _, rfl, rfl, ⟨_, _, rfl, rfl, ⟨_, _, rfl, rfl, ⟨_, _, rfl, rfl, ⟨_, _, rfl, rfl, ⟨_, _, rfl, rfl, ⟨_, _, rfl, rfl, ⟨_, _, rfl, rfl, ⟨_, _, rfl, rfl, ⟨_, _, rfl, rfl, ⟨_, _, rfl, rfl, ⟨_, _, rfl, rfl, ⟨_, _, rfl, rfl, ⟨_, _, rfl, rfl, ⟨_, _, rfl, rfl, ⟨_, _, rfl, rfl, ⟨_, _, rfl, rfl, ⟨_, _, rfl, rfl, ⟨_, _, rfl, rfl, ⟨_, _, rfl, rfl, ⟨_, _, rfl, rfl, ⟨_, _, rfl, rfl, ⟨_, _, rfl, rfl, ⟨_, _, rfl, rfl, ⟨_, _, rfl, rfl, ⟨_, _, rfl, rfl, ⟨_, _, rfl, rfl, ⟨_, _, rfl, rfl, ⟨_, _, rfl, rfl, ⟨_, _, rfl, rfl, ⟨_, _, rfl, rfl, ⟨_, _, rfl, rfl, ⟨_, _, rfl, rfl, ⟨_, _, rfl, rfl, ⟨_, _, rfl, rfl, ⟨_, _, rfl, rfl, ⟨_, _, rfl, rfl, ⟨_, _, rfl, rfl, ⟨_, _, rfl, rfl, ⟨_, _, rfl, rfl, ⟨_, _, rfl, rfl, rfl⟩⟩⟩⟩⟩⟩⟩⟩⟩⟩⟩⟩⟩⟩⟩⟩⟩⟩⟩⟩⟩⟩⟩⟩⟩⟩⟩⟩⟩⟩⟩⟩⟩⟩⟩⟩⟩⟩⟩⟩⟩⟩⟩⟩⟩⟩⟩⟩⟩⟩⟩⟩⟩⟩⟩⟩⟩⟩⟩⟩⟩⟩⟩⟩))
 obtain ⟨g2, q2, h3⟩ := Qdq (g := 1) (T := 229) (R := Qw) (x := Zu) h2 (by kernel_rfl) (by kernel_rfl) (Qds (n := 8) (e := 156) (k := 1) (by kernel_rfl) (by kernel_rfl) (Qac (k := .u32) (by kernel_rfl) (by kernel_rfl))) (fun _ => (by exact ⟨_, _, rfl, rfl, ⟨_, _, rfl, rfl, ⟨_, _, rfl, rfl, ⟨_, _, rfl, rfl, ⟨_, _, rfl, rfl, ⟨_, _, rfl, rfl, ⟨_, _, rfl, rfl, ⟨_, _, rfl, rfl, rfl⟩⟩⟩⟩⟩⟩⟩⟩))
 obtain ⟨g3, q3, h4⟩ := Qdq (g := 2) (T := 217) (R := (vec 64 u32)) (x := YX) h3 (by kernel_rfl) (by kernel_rfl) (Qds (n := 64) (e := 156) (k := 1) (by kernel_rfl) (by kernel_rfl) (Qac (k := .u32) (by kernel_rfl) (by kernel_rfl))) (fun _ => (by exact ⟨_, _, rfl, rfl, ⟨_, _, rfl, rfl, ⟨_, _, rfl, rfl, ⟨_, _, rfl, rfl, ⟨_, _, rfl, rfl, ⟨_, _, rfl, rfl, ⟨_, _, rfl, rfl, ⟨_, _, rfl, rfl, ⟨_, _, rfl, rfl, ⟨_, _, rfl, rfl, ⟨_, _, rfl, rfl, ⟨_, _, rfl, rfl, ⟨_, _, rfl, rfl, ⟨_, _, rfl, rfl, ⟨_, _, rfl, rfl, ⟨_, _, rfl, rfl, ⟨_, _, rfl, rfl, ⟨_, _, rfl, rfl, ⟨_, _, rfl, rfl, ⟨_, _, rfl, rfl, ⟨_, _, rfl, rfl, ⟨_, _, rfl, rfl, ⟨_, _, rfl, rfl, ⟨_, _, rfl, rfl, ⟨_, _, rfl, rfl, ⟨_, _, rfl, rfl, ⟨_, _, rfl, rfl, ⟨_, _, rfl, rfl, ⟨_, _, rfl, rfl, ⟨_, _, rfl, rfl, ⟨_, _, rfl, rfl, ⟨_, _, rfl, rfl, ⟨_, _, rfl, rfl, ⟨_, _, rfl, rfl, ⟨_, _, rfl, rfl, ⟨_, _, rfl, rfl, ⟨_, _, rfl, rfl, ⟨_, _, rfl, rfl, ⟨_, _, rfl, rfl, ⟨_, _, rfl, rfl, ⟨_, _, rfl, rfl, ⟨_, _, rfl, rfl, ⟨_, _, rfl, rfl, ⟨_, _, rfl, rfl, ⟨_, _, rfl, rfl, ⟨_, _, rfl, rfl, ⟨_, _, rfl, rfl, ⟨_, _, rfl, rfl, ⟨_, _, rfl, rfl, ⟨_, _, rfl, rfl, ⟨_, _, rfl, rfl, ⟨_, _, rfl, rfl, ⟨_, _, rfl, rfl, ⟨_, _, rfl, rfl, ⟨_, _, rfl, rfl, ⟨_, _, rfl, rfl, ⟨_, _, rfl, rfl, ⟨_, _, rfl, rfl, ⟨_, _, rfl, rfl, ⟨_, _, rfl, rfl, ⟨_, _, rfl, rfl, ⟨_, _, rfl, rfl, ⟨_, _, rfl, rfl, ⟨_, _, rfl, rfl, rfl⟩⟩⟩⟩⟩⟩⟩⟩⟩⟩⟩⟩⟩⟩⟩⟩⟩⟩⟩⟩⟩⟩⟩⟩⟩⟩⟩⟩⟩⟩⟩⟩⟩⟩⟩⟩⟩⟩⟩⟩⟩⟩⟩⟩⟩⟩⟩⟩⟩⟩⟩⟩⟩⟩⟩⟩⟩⟩⟩⟩⟩⟩⟩⟩))
 obtain ⟨g4, q4, h5⟩ := Qdq (g := 0) (T := 228) (R := (vec 5 Qx)) (x := Kz) h4 (by kernel_rfl) (by kernel_rfl) (Qds (n := 5) (e := 194) (k := 3) (by kernel_rfl) (by kernel_rfl) (Qid (fs := #[⟨ "bits", 3, 0, false, "", "rolodex/lmots", 0⟩, ⟨ "chains", 3, 1, false, "", "rolodex/lmots", 8⟩, ⟨ "shift", 3, 2, false, "", "rolodex/lmots", 16⟩]) (by kernel_rfl) (by kernel_rfl) (.cons rfl (Qac (k := .i64) (by kernel_rfl) (by kernel_rfl)) (.cons rfl (Qac (k := .i64) (by kernel_rfl) (by kernel_rfl)) (.cons rfl (Qac (k := .i64) (by kernel_rfl) (by kernel_rfl)) .nil))))) (fun _ => (by exact ⟨_, _, rfl, ⟨_, _, rfl, rfl, ⟨_, _, rfl, rfl, rfl⟩⟩, ⟨_, _, rfl, ⟨_, _, rfl, rfl, ⟨_, _, rfl, rfl, rfl⟩⟩, ⟨_, _, rfl, ⟨_, _, rfl, rfl, ⟨_, _, rfl, rfl, rfl⟩⟩, ⟨_, _, rfl, ⟨_, _, rfl, rfl, ⟨_, _, rfl, rfl, rfl⟩⟩, ⟨_, _, rfl, ⟨_, _, rfl, rfl, ⟨_, _, rfl, rfl, rfl⟩⟩, rfl⟩⟩⟩⟩⟩))
 exact ⟨g0, g1, g2, g3, g4⟩
theorem contract (H : Type) (enc : TypeId × Value → H) (W : World) (base : Nat) (args : Array Value) (ds : List (DataW H)) (gs : List (DataW H)) (before : List MemPlace)
  (hval : ∀ (j : Nat) t v, Tryz.f4.params[j]? = some t → args[j]? = some v → Value.okWide Tryz.prog W .any base t v)
  (hW : DataW.Whole enc Tryz.prog Tryz.f4.params.toList Rows.gossipSoundSpec.vars false W args.toList ds gs before) (hL : laidMetH Tryz.prog Rows.gossipSoundRow.laid W) :
  Calls Tryz.prog 4 args W fun e W' => ∃ v, e = .returned v ∧ Rows.gossipSoundSpec.post enc Tryz.prog Tryz.f4 false true false false W args v W' := by
 have hW' := hW
 obtain ⟨p, q, hA0, hV, rfl, hfz, hnd⟩ := hW
 have hA : DataW.TrodAll enc Tryz.prog W 0 (fun _ => true) true Tryz.f4.params.toList args.toList ds p := hA0
 rw [Tryz.params4] at hA hval
 obtain ⟨v0, vs0, d0, ds0, p0, q0, hargs, rfl, rfl, h0, r0⟩ := trodAll_cons hA
 obtain ⟨v1, vs1, d1, ds1, p1, q1, rfl, rfl, rfl, h1, r1⟩ := trodAll_cons r0
 obtain ⟨v2, vs2, d2, ds2, p2, q2, rfl, rfl, rfl, h2, r2⟩ := trodAll_cons r1
 obtain ⟨rfl, rfl, rfl⟩ := trodAll_nil r2
 obtain rfl : args = #[v0, v1, v2] := by cases args; simp_all
 obtain ⟨rfl, rfl⟩ := trodVars_none hV
 obtain ⟨x0, hx0, w0, z0⟩ := Qgh (R := QV) (wf := (wfP wfI (wfP wfI (wfP (wfV wfT) (wfV wfT))))) (sz := (szP sz1 (szP sz1 (szP (szV sz1) (szV sz1))))) (Qec (fs := #[⟨ "Epoch", 3, 0, false, "", "", 0⟩, ⟨ "Tick", 3, 1, false, "", "", 8⟩, ⟨ "Tree", 23, 2, false, "", "", 16⟩, ⟨ "Log", 23, 34, false, "", "", 48⟩]) (R := QV) (by kernel_rfl) (by kernel_rfl) (.cons rfl (Qju (by kernel_rfl) (by kernel_rfl)) (.cons rfl (Qju (by kernel_rfl) (by kernel_rfl)) (.cons rfl (Qeq (e := 5) (by kernel_rfl) (by kernel_rfl) (Qe1 (k := .u8) (by kernel_rfl) (by kernel_rfl) rfl rfl)) (.one rfl (Qeq (e := 5) (by kernel_rfl) (by kernel_rfl) (Qe1 (k := .u8) (by kernel_rfl) (by kernel_rfl) rfl rfl))))))) (fun hv => Qd5 (fs := #[⟨ "Epoch", 3, 0, false, "", "", 0⟩, ⟨ "Tick", 3, 1, false, "", "", 8⟩, ⟨ "Tree", 23, 2, false, "", "", 16⟩, ⟨ "Log", 23, 34, false, "", "", 48⟩]) (by kernel_rfl) rfl hv) (hval 0 25 v0 rfl rfl) h0
 obtain ⟨x1, hx1, w1, z1⟩ := Qgh (R := u8) (wf := wfT) (sz := sz1) (Qe1 (k := .u8) (by kernel_rfl) (by kernel_rfl) rfl rfl) (fun hv => Qlb (k := .u8) (by kernel_rfl) rfl hv) (hval 1 5 v1 rfl rfl) h1
 obtain ⟨x2, hx2, w2, z2⟩ := Qgh (R := Jf) (wf := (wfP (wfL (wfV wfT)) (wfL (wfV wfT)))) (sz := (szP (szL (szV sz1)) (szL (szV sz1)))) (Qec (fs := #[⟨ "Ahead", 44, 0, false, "", "", 0⟩, ⟨ "Behind", 44, 1, false, "", "", 24⟩]) (R := Jf) (by kernel_rfl) (by kernel_rfl) (.cons rfl (Qk1 (e := 23) (by kernel_rfl) (by kernel_rfl) (by decide) (Qeq (e := 5) (by kernel_rfl) (by kernel_rfl) (Qe1 (k := .u8) (by kernel_rfl) (by kernel_rfl) rfl rfl))) (.one rfl (Qk1 (e := 23) (by kernel_rfl) (by kernel_rfl) (by decide) (Qeq (e := 5) (by kernel_rfl) (by kernel_rfl) (Qe1 (k := .u8) (by kernel_rfl) (by kernel_rfl) rfl rfl)))))) (fun hv => Qd5 (fs := #[⟨ "Ahead", 44, 0, false, "", "", 0⟩, ⟨ "Behind", 44, 1, false, "", "", 24⟩]) (by kernel_rfl) rfl hv) (hval 2 46 v2 rfl rfl) h2
 clear hA0
 have hlaw : Yh x0 x1 x2 = some true := Pu.gossipSound x0 x1 x2
 refine (Wx (G := GL) gl0 gl1 gl2 gl3 gl4 hlaw (q9 W) W [v0, v1, v2] [] (QgA W) (laid_in hL) ⟨v0, _, rfl, hx0, ⟨v1, _, rfl, hx1, ⟨v2, _, rfl, hx2, rfl⟩⟩⟩ rfl).mono ?_
 rintro e W' ⟨v, m', hs', i, rfl, hg', hv, hsat, hf⟩
 obtain rfl := UB.1 hv
 cases hsat
 simp only [List.append_nil] at hW'
 exact ⟨_, rfl, QgC (ds := [d0, d1, d2]) hW' rfl (QeC hf) (by kernel_rfl) (by kernel_rfl) (fun _ _ _ => trodAll_cons_mk (shut_bool (show Tryz.prog.underlying 4 = some .bool by kernel_rfl) _) trodAll_mk0) rfl rfl (ok_one (by kernel_rfl) rfl (okWide_bool_mk (show Tryz.prog.underlying 4 = some .bool by kernel_rfl) _))⟩
def wargs : Array Value := #[.agg (List.toArray (List.replicate 2 (.int .i64 0) ++ List.replicate 64 (.int .u8 0))), .int .u8 0, .agg (List.toArray (List.replicate 2 (.slice none 0 0)))]
def wdat (H : Type) : List (DataW H) := [.agg [.lit (.int .i64 0), .lit (.int .i64 0), .agg (List.replicate 32 (.lit (.int .u8 0))), .agg (List.replicate 32 (.lit (.int .u8 0)))], .lit (.int .u8 0), .agg [.nil, .nil]]
def setCells (cs : List Value) : Obj → Obj
 | .cells _ t frozen => .cells cs.toArray t frozen
 | o => o
noncomputable def QbF (os : Os) : World := { World.holding Tryz.prog os ⟨#[], #[], []⟩ with heap := ((((((World.holding Tryz.prog os ⟨#[], #[], []⟩).heap.modify 3 (setCells (UQ (H := Unit) Rows.laid_math_bits_deBruijn32tab))).modify 4 (setCells (UQ (H := Unit) Rows.laid_math_bits_deBruijn64tab))).modify 1 (setCells (UQ (H := Unit) Rows.laid_rolodex_hash_begin))).modify 2 (setCells (UQ (H := Unit) Rows.laid_rolodex_hash_rounds))).modify 0 (setCells (UQ (H := Unit) Rows.laid_rolodex_lmots_forms))) }
theorem laid_met (os : Os) : laidMet Tryz.prog Rows.gossipSoundRow.laid ((QbF os).forCall (fun _ _ => 0) ⟨#[], wargs, []⟩).memory :=
 laidMet_of_run' 8 (by kernel_rfl) (by kernel_rfl)
theorem reads (os : Os) {H : Type} (enc : TypeId × Value → H) : ∃ places, DataW.whole enc Tryz.prog ((QbF os).forCall (fun _ _ => 0) ⟨#[], wargs, []⟩).memory Tryz.f4.params.toList Rows.gossipSoundSpec.vars false (wargs : Array Value).toList 8 = some (wdat H, [], places) :=
 ⟨[], by kernel_rfl⟩
theorem lifted (os : Os) (started : os.Started) (H : Type) (enc : TypeId × Value → H) (F : Stop.Interp) :
  ReturnsInHanded {} Tryz.checked os 4 .any ((OpenSpec.ofChange Rows.gossipSoundSpec).preRow enc Tryz.prog Tryz.f4 Rows.gossipSoundRow.domain false Rows.gossipSoundRow.laid) (((OpenSpec.ofChange Rows.gossipSoundSpec).at F).post enc Tryz.prog Tryz.f4 false true false false) := by
 obtain ⟨places, hx⟩ := reads os enc
 refine returnsInHanded_of_row (C := Tryz.checked) (s := OpenSpec.ofChange Rows.gossipSoundSpec) own started (by kernel_rfl) fn_at
  (witness_row_at (enc := enc) (C := Tryz.checked) false (QbF os) wargs rfl (by kernel_rfl) (by kernel_rfl) (by kernel_rfl)
   (OpenSpec.preRow_of_cond 8 hx (by kernel_rfl) (fun k hk => by cases hk) (by kernel_rfl) (laid_met os))) ?_
 intro W base args ds gs before hval hW _ hcond _ hL _ _
 exact contract H enc W base args ds gs before hval hW hL
theorem said : Rows.GossipSoundSaid :=
 OpenClaim.holds_of_cond 4 Tryz.f4 rfl rfl rfl rfl rfl rfl rfl ⟨rfl, rfl, rfl, rfl, rfl⟩ rfl rfl rfl rfl rfl (by kernel_rfl) fn_at (by kernel_rfl)
  (of_decide_eq_true (by kernel_rfl)) (by unfold Func.isWrapper; first | (rw [if_pos (by decide +kernel)]; kernel_rfl) | (rw [if_neg (by decide +kernel)]; exact ⟨rfl, rfl⟩))
  (fun os started H enc _ F => by rw [OpenClaim.pre_eq_preRow]; exact lifted os started H enc F)
theorem plain (f : FuncId) (fn : Func) (hf : Tryz.pinned.checked.prog.funcNamed "rolodex/rolodexlaw27.GossipSound" = some f) (hfn : Tryz.pinned.checked.prog.funcs[f]? = some fn) :
  false = Tryz.pinned.checked.prog.looks [] ∧ ∀ (j : Nat) t, fn.params[j]? = some t → Tryz.pinned.checked.prog.wantsStandIn t = false := by
 obtain rfl : f = 4 := Option.some.inj ((show Tryz.prog.funcNamed "rolodex/rolodexlaw27.GossipSound" = some 4 by kernel_rfl).symm.trans hf) |>.symm
 obtain rfl : fn = Tryz.f4 := (Option.some.inj (fn_at.symm.trans hfn)).symm
 refine ⟨by kernel_rfl, fun j t ht => ?_⟩
 rw [Tryz.params4] at ht
 have hm : t ∈ [25, 5, 46] := by simpa using Array.mem_of_getElem? ht
 have hall : ([25, 5, 46].all fun u => !Tryz.prog.wantsStandIn u) = true := by kernel_rfl
 exact (show Tryz.prog.wantsStandIn t = false by simpa using List.all_eq_true.1 hall t hm)
theorem card : Rows.GossipSoundCardSaid :=
 Claim7.holds_tied_plain_at .later [] _ _ _ _ said (fun _ h => by cases h) (by kernel_rfl) (fun _ h => by cases h) gossipSound_row_tie rfl ⟨rfl, rfl⟩ (by kernel_rfl) rfl plain (by kernel_rfl)
end Go.Proofs.YtheldkljmefbaaaGreatDoor.gossipSound
