/- The card of rolodexlaw17.HeadPuts: whatever the input, the law returns true, and the input reads as it did. -/
import Derived.Test.YtheldkljmefbaaaCard
import Derived.Test.YtheldkljmefbaaaW
import Derived.Test.YtheldkljmefbaaaPb
import Derived.Test.YtheldkljmefbaaaPl
import Derived.Test.YtheldkljmefbaaaPsha
import Derived.Test.YtheldkljmefbaaaPsame
import Derived.Test.YtheldkljmefbaaaPwire
import Derived.Test.YtheldkljmefbaaaPhd0
import Derived.Test.YtheldkljmefbaaaPhd1
import Derived.Test.YtheldkljmefbaaaPhd3
import Derived.Test.YtheldkljmefbaaaRows
set_option linter.unusedVariables false
set_option maxRecDepth 100000
namespace Go.Proofs.Ytheldkljmefbaaa.headPuts
open Go Go.ChangeShapes Go.WideShapes Go.ChangeAt Go.RowKit Go.Sl Go.Sl.M Go.Sl.W
theorem own : ownKnob Try.prog.godebug = none := by kernel_rfl
theorem fn_at : Try.prog.funcs[4]? = some Try.f4 := Try.func4
def GL : GP := ⟨fun _ => True, fun _ h => h⟩
theorem laid_in {W : World} (h : laidMetH Try.prog Rows.headPutsRow.laid W) : GL.p (memOf W) := by
  trivial
theorem contract (H : Type) (enc : TypeId × Value → H) (W : World) (base : Nat) (args : Array Value) (ds : List (DataW H)) (gs : List (DataW H)) (before : List MemPlace)
    (hval : ∀ (j : Nat) t v, Try.f4.params[j]? = some t → args[j]? = some v → Value.okWide Try.prog W .any base t v)
    (hW : DataW.Whole enc Try.prog Try.f4.params.toList Rows.headPutsSpec.vars false W args.toList ds gs before) (hL : laidMetH Try.prog Rows.headPutsRow.laid W) :
    Calls Try.prog 4 args W fun e W' => ∃ v, e = .returned v ∧ Rows.headPutsSpec.post enc Try.prog Try.f4 false true false false W args v W' := by
  have hW' := hW
  obtain ⟨p, q, hA0, hV, rfl, hfz, hnd⟩ := hW
  have hA : DataW.TrodAll enc Try.prog W 0 (fun _ => true) true Try.f4.params.toList args.toList ds p := hA0
  rw [Try.params4] at hA hval
  obtain ⟨v0, vs0, d0, ds0, p0, q0, hargs, rfl, rfl, h0, r0⟩ := trodAll_cons hA
  obtain ⟨v1, vs1, d1, ds1, p1, q1, rfl, rfl, rfl, h1, r1⟩ := trodAll_cons r0
  obtain ⟨rfl, rfl, rfl⟩ := trodAll_nil r1
  obtain rfl : args = #[v0, v1] := by cases args; simp_all
  obtain ⟨rfl, rfl⟩ := trodVars_none hV
  obtain ⟨x0, hx0, w0, z0⟩ := arg_of (R := R_rolodexref17_Signed) (wf := (wfP (wfP wfI (wfP wfI (wfP (wfV wfT) (wfV wfT)))) (wfL wfT))) (sz := (szP (szP sz1 (szP sz1 (szP (szV sz1) (szV sz1)))) (szL sz1))) (rr_struct (fs := #[⟨ "Head", 25, 0, false, "", "", 0⟩, ⟨ "Sig", 26, 66, false, "", "", 80⟩]) (R := R_rolodexref17_Signed) (by kernel_rfl) (by kernel_rfl) (.cons rfl (rr_struct (fs := #[⟨ "Epoch", 3, 0, false, "", "", 0⟩, ⟨ "Tick", 3, 1, false, "", "", 8⟩, ⟨ "Tree", 23, 2, false, "", "", 16⟩, ⟨ "Log", 23, 34, false, "", "", 48⟩]) (R := R_rolodexref17_Head) (by kernel_rfl) (by kernel_rfl) (.cons rfl (rr_i64 (by kernel_rfl) (by kernel_rfl)) (.cons rfl (rr_i64 (by kernel_rfl) (by kernel_rfl)) (.cons rfl (rr_vec (e := 5) (by kernel_rfl) (by kernel_rfl) (rr_un (k := .u8) (by kernel_rfl) (by kernel_rfl) rfl rfl)) (.one rfl (rr_vec (e := 5) (by kernel_rfl) (by kernel_rfl) (rr_un (k := .u8) (by kernel_rfl) (by kernel_rfl) rfl rfl))))))) (.one rfl (rr_sl (e := 5) (by kernel_rfl) (by kernel_rfl) (by decide) (rr_un (k := .u8) (by kernel_rfl) (by kernel_rfl) rfl rfl))))) (fun hv => ag_struct (fs := #[⟨ "Head", 25, 0, false, "", "", 0⟩, ⟨ "Sig", 26, 66, false, "", "", 80⟩]) (by kernel_rfl) rfl hv) (hval 0 37 v0 rfl rfl) h0
  obtain ⟨x1, hx1, w1, z1⟩ := arg_of (R := (sl u8)) (wf := (wfL wfT)) (sz := (szL sz1)) (rr_sl (e := 5) (by kernel_rfl) (by kernel_rfl) (by decide) (rr_un (k := .u8) (by kernel_rfl) (by kernel_rfl) rfl rfl)) (fun hv => ag_sl (e := 5) (by kernel_rfl) rfl hv) (hval 1 26 v1 rfl rfl) h1
  clear hA0
  have hlaw : rolodexlaw17_HeadPuts x0 x1 = some true := Pu.headPuts x0 x1
  refine (c_rolodexlaw17_HeadPuts (G := GL) hlaw (memOf W) W [v0, v1] [] (good_memOf W) (laid_in hL) ⟨v0, _, rfl, hx0, ⟨v1, _, rfl, hx1, rfl⟩⟩ rfl).mono ?_
  rintro e W' ⟨v, m', hs', i, rfl, hg', hv, hsat, hf⟩
  obtain rfl := bl_p.1 hv
  cases hsat
  simp only [List.append_nil] at hW'
  exact ⟨_, rfl, post_below (ds := [d0, d1]) hW' rfl (below_of_frm hf) (by kernel_rfl) (by kernel_rfl) (fun _ _ _ => trodAll_cons_mk (shut_bool (show Try.prog.underlying 4 = some .bool by kernel_rfl) _) trodAll_mk0) rfl rfl (ok_one (by kernel_rfl) rfl (okWide_bool_mk (show Try.prog.underlying 4 = some .bool by kernel_rfl) _))⟩
def wargs : Array Value := #[.agg (List.toArray (List.replicate 2 (.int .i64 0) ++ List.replicate 64 (.int .u8 0) ++ List.replicate 1 (.slice none 0 0))), .slice none 0 0]
def wdat (H : Type) : List (DataW H) := [.agg [.agg [.lit (.int .i64 0), .lit (.int .i64 0), .agg (List.replicate 32 (.lit (.int .u8 0))), .agg (List.replicate 32 (.lit (.int .u8 0)))], .nil], .nil]
def setCells (cs : List Value) : Obj → Obj
  | .cells _ t frozen => .cells cs.toArray t frozen
  | o => o
noncomputable def laidWorld (os : Os) : World := { World.holding Try.prog os ⟨#[], #[], []⟩ with heap := (World.holding Try.prog os ⟨#[], #[], []⟩).heap }
theorem laid_met (os : Os) : laidMet Try.prog Rows.headPutsRow.laid ((laidWorld os).forCall (fun _ _ => 0) ⟨#[], wargs, []⟩).memory :=
  laidMet_of_run' 8 (by kernel_rfl) (by kernel_rfl)
theorem reads (os : Os) {H : Type} (enc : TypeId × Value → H) : ∃ places, DataW.whole enc Try.prog ((laidWorld os).forCall (fun _ _ => 0) ⟨#[], wargs, []⟩).memory Try.f4.params.toList Rows.headPutsSpec.vars false (wargs : Array Value).toList 8 = some (wdat H, [], places) :=
  ⟨[], by kernel_rfl⟩
theorem lifted (os : Os) (started : os.Started) (H : Type) (enc : TypeId × Value → H) (F : Stop.Interp) :
    ReturnsInHanded {} Try.checked os 4 .any ((OpenSpec.ofChange Rows.headPutsSpec).preRow enc Try.prog Try.f4 Rows.headPutsRow.domain false Rows.headPutsRow.laid) (((OpenSpec.ofChange Rows.headPutsSpec).at F).post enc Try.prog Try.f4 false true false false) := by
  obtain ⟨places, hx⟩ := reads os enc
  refine returnsInHanded_of_row (C := Try.checked) (s := OpenSpec.ofChange Rows.headPutsSpec) own started (by kernel_rfl) fn_at
    (witness_row_at (enc := enc) (C := Try.checked) false (laidWorld os) wargs rfl (by kernel_rfl) (by kernel_rfl) (by kernel_rfl)
      (OpenSpec.preRow_of_cond 8 hx (by kernel_rfl) (fun k hk => by cases hk) (by kernel_rfl) (laid_met os))) ?_
  intro W base args ds gs before hval hW _ hcond _ hL _ _
  exact contract H enc W base args ds gs before hval hW hL
theorem said : Rows.HeadPutsSaid :=
  OpenClaim.holds_of_cond 4 Try.f4 rfl rfl rfl rfl rfl rfl rfl ⟨rfl, rfl, rfl, rfl, rfl⟩ rfl rfl rfl rfl rfl (by kernel_rfl) fn_at (by kernel_rfl)
    (of_decide_eq_true (by kernel_rfl)) (by unfold Func.isWrapper; first | (rw [if_pos (by decide +kernel)]; kernel_rfl) | (rw [if_neg (by decide +kernel)]; exact ⟨rfl, rfl⟩))
    (fun os started H enc _ F => by rw [OpenClaim.pre_eq_preRow]; exact lifted os started H enc F)
end Go.Proofs.Ytheldkljmefbaaa.headPuts
