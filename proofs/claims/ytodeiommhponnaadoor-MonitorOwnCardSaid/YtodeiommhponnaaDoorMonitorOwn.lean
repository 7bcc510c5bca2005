/- The card of rolodexlaw23.MonitorOwn: whatever the input, the law returns true, and the input reads as it did. -/
import Derived.Test.YtodeiommhponnaaDoorCard
import Derived.Test.YtodeiommhponnaaDoorW
import Derived.Test.YtodeiommhponnaaDoorPb
import Derived.Test.YtodeiommhponnaaDoorPl
import Derived.Test.YtodeiommhponnaaDoorPsha
import Derived.Test.YtodeiommhponnaaDoorPsum
import Derived.Test.YtodeiommhponnaaDoorPsum2
import Derived.Test.YtodeiommhponnaaDoorPtxt
import Derived.Test.YtodeiommhponnaaDoorPchain
import Derived.Test.YtodeiommhponnaaDoorPchain2
import Derived.Test.YtodeiommhponnaaDoorPchain3
import Derived.Test.YtodeiommhponnaaDoorPchain4
import Derived.Test.YtodeiommhponnaaDoorPmon
import Derived.Test.YtodeiommhponnaaDoorPmon2
import Derived.Test.YtodeiommhponnaaDoorPmon3
import Derived.Test.YtodeiommhponnaaDoorCards
import Derived.Test.YtodeiommhponnaaDoorTie
set_option linter.unusedVariables false
set_option maxRecDepth 100000
namespace Go.Proofs.YtodeiommhponnaaDoor.monitorOwn
open Go Go.ChangeShapes Go.WideShapes Go.ChangeAt Go.RowKit Go.Sl Go.Sl.M Go.Sl.W
theorem own : ownKnob Tryd.prog.godebug = none := by kernel_rfl
theorem fn_at : Tryd.prog.funcs[11]? = some Tryd.f11 := Tryd.func11
def GL : GP := ⟨fun m => GAt 0 R_hash_state G_hash_begin m ∧ GAt 1 (vec 64 u32) G_hash_rounds m, fun hm h => ⟨gat_mono hm h.1, gat_mono hm h.2⟩⟩
theorem gl0 : HG0 GL := fun m h => h.1
theorem gl1 : HG1 GL := fun m h => h.2
theorem laid_in {W : World} (h : laidMetH Tryd.prog Rows.monitorOwnRow.laid W) : GL.p (memOf W) := by
  rw [MakeChecks.laidMetH_plain _ _ _ (by kernel_rfl)] at h
  obtain ⟨ps, h0, _⟩ := h
  obtain ⟨g0, q0, h1⟩ := gat_of (g := 0) (T := 106) (R := R_hash_state) (x := G_hash_begin) h0 (by kernel_rfl) (by kernel_rfl) (fl_arr (n := 8) (e := 104) (k := 1) (by kernel_rfl) (by kernel_rfl) (fl_int (k := .u32) (by kernel_rfl) (by kernel_rfl))) (fun _ => (by exact ⟨_, _, rfl, rfl, ⟨_, _, rfl, rfl, ⟨_, _, rfl, rfl, ⟨_, _, rfl, rfl, ⟨_, _, rfl, rfl, ⟨_, _, rfl, rfl, ⟨_, _, rfl, rfl, ⟨_, _, rfl, rfl, rfl⟩⟩⟩⟩⟩⟩⟩⟩))
  obtain ⟨g1, q1, h2⟩ := gat_of (g := 1) (T := 111) (R := (vec 64 u32)) (x := G_hash_rounds) h1 (by kernel_rfl) (by kernel_rfl) (fl_arr (n := 64) (e := 104) (k := 1) (by kernel_rfl) (by kernel_rfl) (fl_int (k := .u32) (by kernel_rfl) (by kernel_rfl))) (fun _ => (by exact ⟨_, _, rfl, rfl, ⟨_, _, rfl, rfl, ⟨_, _, rfl, rfl, ⟨_, _, rfl, rfl, ⟨_, _, rfl, rfl, ⟨_, _, rfl, rfl, ⟨_, _, rfl, rfl, ⟨_, _, rfl, rfl, ⟨_, _, rfl, rfl, ⟨_, _, rfl, rfl, ⟨_, _, rfl, rfl, ⟨_, _, rfl, rfl, ⟨_, _, rfl, rfl, ⟨_, _, rfl, rfl, ⟨_, _, rfl, rfl, ⟨_, _, rfl, rfl, ⟨_, _, rfl, rfl, ⟨_, _, rfl, rfl, ⟨_, _, rfl, rfl, ⟨_, _, rfl, rfl, ⟨_, _, rfl, rfl, ⟨_, _, rfl, rfl, ⟨_, _, rfl, rfl, ⟨_, _, rfl, rfl, ⟨_, _, rfl, rfl, ⟨_, _, rfl, rfl, ⟨_, _, rfl, rfl, ⟨_, _, rfl, rfl, ⟨_, _, rfl, rfl, ⟨_, _, rfl, rfl, ⟨_, _, rfl, rfl, ⟨_, _, rfl, rfl, ⟨_, _, rfl, rfl, ⟨_, _, rfl, rfl, ⟨_, _, rfl, rfl, ⟨_, _, rfl, rfl, ⟨_, _, rfl, rfl, ⟨_, _, rfl, rfl, ⟨_, _, rfl, rfl, ⟨_, _, rfl, rfl, ⟨_, _, rfl, rfl, ⟨_, _, rfl, rfl, ⟨_, _, rfl, rfl, ⟨_, _, rfl, rfl, ⟨_, _, rfl, rfl, ⟨_, _, rfl, rfl, ⟨_, _, rfl, rfl, ⟨_, _, rfl, rfl, ⟨_, _, rfl, rfl, ⟨_, _, rfl, rfl, ⟨_, _, rfl, rfl, ⟨_, _, rfl, rfl, ⟨_, _, rfl, rfl, ⟨_, _, rfl, rfl, ⟨_, _, rfl, rfl, ⟨_, _, rfl, rfl, ⟨_, _, rfl, rfl, ⟨_, _, rfl, rfl, ⟨_, _, rfl, rfl, ⟨_, _, rfl, rfl, ⟨_, _, rfl, rfl, ⟨_, _, rfl, rfl, ⟨_, _, rfl, rfl, ⟨_, _, rfl, rfl, rfl⟩⟩⟩⟩⟩⟩⟩⟩⟩⟩⟩⟩⟩⟩⟩⟩⟩⟩⟩⟩⟩⟩⟩⟩⟩⟩⟩⟩⟩⟩⟩⟩⟩⟩⟩⟩⟩⟩⟩⟩⟩⟩⟩⟩⟩⟩⟩⟩⟩⟩⟩⟩⟩⟩⟩⟩⟩⟩⟩⟩⟩⟩⟩⟩))
  exact ⟨g0, g1⟩
theorem contract (H : Type) (enc : TypeId × Value → H) (W : World) (base : Nat) (args : Array Value) (ds : List (DataW H)) (gs : List (DataW H)) (before : List MemPlace)
    (hval : ∀ (j : Nat) t v, Tryd.f11.params[j]? = some t → args[j]? = some v → Value.okWide Tryd.prog W .any base t v)
    (hW : DataW.Whole enc Tryd.prog Tryd.f11.params.toList Rows.monitorOwnSpec.vars false W args.toList ds gs before) (hL : laidMetH Tryd.prog Rows.monitorOwnRow.laid W) :
    Calls Tryd.prog 11 args W fun e W' => ∃ v, e = .returned v ∧ Rows.monitorOwnSpec.post enc Tryd.prog Tryd.f11 false true false false W args v W' := by
  have hW' := hW
  obtain ⟨p, q, hA0, hV, rfl, hfz, hnd⟩ := hW
  have hA : DataW.TrodAll enc Tryd.prog W 0 (fun _ => true) true Tryd.f11.params.toList args.toList ds p := hA0
  rw [Tryd.params11] at hA hval
  obtain ⟨v0, vs0, d0, ds0, p0, q0, hargs, rfl, rfl, h0, r0⟩ := trodAll_cons hA
  obtain ⟨v1, vs1, d1, ds1, p1, q1, rfl, rfl, rfl, h1, r1⟩ := trodAll_cons r0
  obtain ⟨rfl, rfl, rfl⟩ := trodAll_nil r1
  obtain rfl : args = #[v0, v1] := by cases args; simp_all
  obtain ⟨rfl, rfl⟩ := trodVars_none hV
  obtain ⟨x0, hx0, w0, z0⟩ := arg_of (R := (sl u8)) (wf := (wfL wfT)) (sz := (szL sz1)) (rr_sl (e := 5) (by kernel_rfl) (by kernel_rfl) (by decide) (rr_un (k := .u8) (by kernel_rfl) (by kernel_rfl) rfl rfl)) (fun hv => ag_sl (e := 5) (by kernel_rfl) rfl hv) (hval 0 22 v0 rfl rfl) h0
  obtain ⟨x1, hx1, w1, z1⟩ := arg_of (R := (sl R_rolodexref14_Version)) (wf := (wfL (wfP wfI (wfP wfI (wfP (wfV wfT) (wfP (wfV wfT) (wfL wfT))))))) (sz := (szL (szP sz1 (szP sz1 (szP (szV sz1) (szP (szV sz1) (szL sz1))))))) (rr_sl (e := 41) (by kernel_rfl) (by kernel_rfl) (by decide) (rr_struct (fs := #[⟨ "Number", 3, 0, false, "", "", 0⟩, ⟨ "Epoch", 3, 1, false, "", "", 8⟩, ⟨ "Salt", 25, 2, false, "", "", 16⟩, ⟨ "Before", 25, 34, false, "", "", 48⟩, ⟨ "Value", 22, 66, false, "", "", 80⟩]) (R := R_rolodexref14_Version) (by kernel_rfl) (by kernel_rfl) (.cons rfl (rr_i64 (by kernel_rfl) (by kernel_rfl)) (.cons rfl (rr_i64 (by kernel_rfl) (by kernel_rfl)) (.cons rfl (rr_vec (e := 5) (by kernel_rfl) (by kernel_rfl) (rr_un (k := .u8) (by kernel_rfl) (by kernel_rfl) rfl rfl)) (.cons rfl (rr_vec (e := 5) (by kernel_rfl) (by kernel_rfl) (rr_un (k := .u8) (by kernel_rfl) (by kernel_rfl) rfl rfl)) (.one rfl (rr_sl (e := 5) (by kernel_rfl) (by kernel_rfl) (by decide) (rr_un (k := .u8) (by kernel_rfl) (by kernel_rfl) rfl rfl))))))))) (fun hv => ag_sl (e := 41) (by kernel_rfl) rfl hv) (hval 1 23 v1 rfl rfl) h1
  clear hA0
  have hlaw : rolodexlaw23_MonitorOwn x0 x1 = some true := Pu.monitorOwn x0 x1
  refine (c_rolodexlaw23_MonitorOwn (G := GL) gl0 gl1 hlaw (memOf W) W [v0, v1] [] (good_memOf W) (laid_in hL) ⟨v0, _, rfl, hx0, ⟨v1, _, rfl, hx1, rfl⟩⟩ rfl).mono ?_
  rintro e W' ⟨v, m', hs', i, rfl, hg', hv, hsat, hf⟩
  obtain rfl := bl_p.1 hv
  cases hsat
  simp only [List.append_nil] at hW'
  exact ⟨_, rfl, post_below (ds := [d0, d1]) hW' rfl (below_of_frm hf) (by kernel_rfl) (by kernel_rfl) (fun _ _ _ => trodAll_cons_mk (shut_bool (show Tryd.prog.underlying 4 = some .bool by kernel_rfl) _) trodAll_mk0) rfl rfl (ok_one (by kernel_rfl) rfl (okWide_bool_mk (show Tryd.prog.underlying 4 = some .bool by kernel_rfl) _))⟩
def wargs : Array Value := #[.slice none 0 0, .slice none 0 0]
def wdat (H : Type) : List (DataW H) := [.nil, .nil]
def setCells (cs : List Value) : Obj → Obj
  | .cells _ t frozen => .cells cs.toArray t frozen
  | o => o
noncomputable def laidWorld (os : Os) : World := { World.holding Tryd.prog os ⟨#[], #[], []⟩ with heap := (((World.holding Tryd.prog os ⟨#[], #[], []⟩).heap.modify 0 (setCells (cellsD (H := Unit) Rows.laid_rolodex_hash_begin))).modify 1 (setCells (cellsD (H := Unit) Rows.laid_rolodex_hash_rounds))) }
theorem laid_met (os : Os) : laidMet Tryd.prog Rows.monitorOwnRow.laid ((laidWorld os).forCall (fun _ _ => 0) ⟨#[], wargs, []⟩).memory :=
  laidMet_of_run' 8 (by kernel_rfl) (by kernel_rfl)
theorem reads (os : Os) {H : Type} (enc : TypeId × Value → H) : ∃ places, DataW.whole enc Tryd.prog ((laidWorld os).forCall (fun _ _ => 0) ⟨#[], wargs, []⟩).memory Tryd.f11.params.toList Rows.monitorOwnSpec.vars false (wargs : Array Value).toList 8 = some (wdat H, [], places) :=
  ⟨[], by kernel_rfl⟩
theorem lifted (os : Os) (started : os.Started) (H : Type) (enc : TypeId × Value → H) (F : Stop.Interp) :
    ReturnsInHanded {} Tryd.checked os 11 .any ((OpenSpec.ofChange Rows.monitorOwnSpec).preRow enc Tryd.prog Tryd.f11 Rows.monitorOwnRow.domain false Rows.monitorOwnRow.laid) (((OpenSpec.ofChange Rows.monitorOwnSpec).at F).post enc Tryd.prog Tryd.f11 false true false false) := by
  obtain ⟨places, hx⟩ := reads os enc
  refine returnsInHanded_of_row (C := Tryd.checked) (s := OpenSpec.ofChange Rows.monitorOwnSpec) own started (by kernel_rfl) fn_at
    (witness_row_at (enc := enc) (C := Tryd.checked) false (laidWorld os) wargs rfl (by kernel_rfl) (by kernel_rfl) (by kernel_rfl)
      (OpenSpec.preRow_of_cond 8 hx (by kernel_rfl) (fun k hk => by cases hk) (by kernel_rfl) (laid_met os))) ?_
  intro W base args ds gs before hval hW _ hcond _ hL _ _
  exact contract H enc W base args ds gs before hval hW hL
theorem said : Rows.MonitorOwnSaid :=
  OpenClaim.holds_of_cond 11 Tryd.f11 rfl rfl rfl rfl rfl rfl rfl ⟨rfl, rfl, rfl, rfl, rfl⟩ rfl rfl rfl rfl rfl (by kernel_rfl) fn_at (by kernel_rfl)
    (of_decide_eq_true (by kernel_rfl)) (by unfold Func.isWrapper; first | (rw [if_pos (by decide +kernel)]; kernel_rfl) | (rw [if_neg (by decide +kernel)]; exact ⟨rfl, rfl⟩))
    (fun os started H enc _ F => by rw [OpenClaim.pre_eq_preRow]; exact lifted os started H enc F)
theorem plain (f : FuncId) (fn : Func) (hf : Tryd.pinned.checked.prog.funcNamed "rolodex/rolodexlaw23.MonitorOwn" = some f) (hfn : Tryd.pinned.checked.prog.funcs[f]? = some fn) :
    false = Tryd.pinned.checked.prog.looks [] ∧ ∀ (j : Nat) t, fn.params[j]? = some t → Tryd.pinned.checked.prog.wantsStandIn t = false := by
  obtain rfl : f = 11 := Option.some.inj ((show Tryd.prog.funcNamed "rolodex/rolodexlaw23.MonitorOwn" = some 11 by kernel_rfl).symm.trans hf) |>.symm
  obtain rfl : fn = Tryd.f11 := (Option.some.inj (fn_at.symm.trans hfn)).symm
  refine ⟨by kernel_rfl, fun j t ht => ?_⟩
  rw [Tryd.params11] at ht
  have hm : t ∈ [22, 23] := by simpa using Array.mem_of_getElem? ht
  have hall : ([22, 23].all fun u => !Tryd.prog.wantsStandIn u) = true := by kernel_rfl
  exact (show Tryd.prog.wantsStandIn t = false by simpa using List.all_eq_true.1 hall t hm)
theorem card : Rows.MonitorOwnCardSaid :=
  Claim7.holds_tied_plain_at .later [] _ _ _ _ said (fun _ h => by cases h) (by kernel_rfl) (fun _ h => by cases h) monitorOwn_row_tie rfl ⟨rfl, rfl⟩ (by kernel_rfl) rfl plain (by kernel_rfl)
end Go.Proofs.YtodeiommhponnaaDoor.monitorOwn
