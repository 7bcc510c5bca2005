import Derived.Test.YtodeiommhponnaaDoorPchain4
set_option linter.unusedSimpArgs false
set_option linter.unusedVariables false
set_option linter.unusedSectionVars false
namespace Go.Sl
namespace Pu
open Go.Sl Go.Sl.M
abbrev Mon := List (BitVec 8) × Int × List Ver
theorem copied_eq (l : List Ver) (hn : l.length ≤ 1000000000) (hL : ∀ v ∈ l, v.2.2.2.2.length ≤ 1000000) : monitor_copied l = some l := by
  unfold monitor_copied
  have h1 := mapscan (f := fun (s : Int × List Ver) => monitor_copied_L1 l s.1 s.2) l id (by omega) (fun i hi acc ha => by
    simp only [monitor_copied_L1]
    have hv := hL _ (List.getElem_mem hi)
    have hcl : slices_Clone_byte_byte l[i].2.2.2.2 = some l[i].2.2.2.2 := by unfold slices_Clone_byte_byte; rw [if_t (by simp [AP]; omega)]; simp
    rw [if_t (by simp; omega), bind_some' (lget_at rfl hi), bind_some' hcl, if_t (by simp [AP]; omega), w64_eq (by omega)]; rfl) (fun acc => by
    simp only [monitor_copied_L1]
    rw [if_f (by simp)])
  rw [bind_some' h1]; simp
theorem mequal_eq (a b : List (BitVec 8)) : bytes_Equal a b = some (decide (a = b)) := rfl
theorem msame_eq (a b : Ver) : monitor_same a b = some (decide (a = b)) := by
  unfold monitor_same
  rw [andE, Option.bind_some, andE, Option.bind_some, andE, Option.bind_some, bind_some' (mequal_eq _ _), andE, Option.bind_some]
  obtain ⟨a1, a2, a3, a4, a5⟩ := a
  obtain ⟨b1, b2, b3, b4, b5⟩ := b
  simp [Prod.mk.injEq, Bool.decide_and, Bool.and_assoc]
theorem eqfunc_eq (a b : List Ver) (hn : a.length ≤ 4000000000) : slices_EqualFunc_chain_Version_chain_Version_chain_Version_chain_Version_monitor_same a b = some (decide (a = b)) := by
  unfold slices_EqualFunc_chain_Version_chain_Version_chain_Version_chain_Version_monitor_same
  by_cases hl : a.length = b.length
  · rw [if_f (by simp [hl])]
    have h1 := eqscan (f := fun (s : Int) => slices_EqualFunc_chain_Version_chain_Version_chain_Version_chain_Version_monitor_same_L1 a b s) a b hl (by omega) (fun i h1 h2 => by
      simp only [slices_EqualFunc_chain_Version_chain_Version_chain_Version_chain_Version_monitor_same_L1]
      rw [if_t (by simp; omega), bind_some' (lget_at rfl h1), bind_some' (lget_at rfl h2), bind_some' (msame_eq _ _), w64_eq (by omega)]
      by_cases e : a[i] = b[i]
      · rw [if_f (by simp [e]), if_pos e]
      · rw [if_t (by simp [e]), if_neg e]) (by
      simp only [slices_EqualFunc_chain_Version_chain_Version_chain_Version_chain_Version_monitor_same_L1]
      rw [if_f (by simp)])
    rw [bind_some' h1]
    by_cases e : a = b
    · rw [if_pos e]; simp [e]
    · rw [if_neg e]; simp [e]
  · rw [if_t (by simp; omega)]
    have : a ≠ b := fun e => hl (by rw [e])
    simp [this]
theorem new_eq (label : List (BitVec 8)) (h : label.length ≤ 1000000) : monitor_New label = some (label, 0, []) := by
  unfold monitor_New
  have hcl : slices_Clone_byte_byte label = some label := by unfold slices_Clone_byte_byte; rw [if_t (by simp [AP]; omega)]; simp
  rw [bind_some' hcl, Option.bind_some]
def okF (lab : List (BitVec 8)) (ch : List Ver) (ep : Int) : Bool := decide (ch = []) || (formed lab ch && decide (lastE ch 0 ≤ ep))
/-- A look. -/
def look (w : Mon) (lab : List (BitVec 8)) (ep : Int) (ch : List Ver) : Mon × List Ver × Int :=
  if lab ≠ w.1 ∨ ep < 1 then (w, [], 1)
  else if okF w.1 ch ep = false then (w, [], 2)
  else if ep < w.2.1 then (w, [], 11)
  else if upto ch w.2.1 ≠ w.2.2 then (w, [], 9)
  else ((w.1, ep, ch), ch.drop (upto ch w.2.1).length, 0)
theorem upto_len (l : List Ver) (e : Int) : (upto l e).length ≤ l.length := (List.takeWhile_prefix _).length_le
section
variable (w : Mon) (lab : List (BitVec 8)) (ep : Int) (ch : List Ver) (hw : w.1.length ≤ 1000000) (hlab : lab.length ≤ 1000000) (hn : ch.length ≤ 1000000000) (hL : ∀ v ∈ ch, v.2.2.2.2.length ≤ 1000000)
include hw hlab hn hL
theorem mformed_eq (hd : T_head_Head) : monitor_Monitor_formed w (lab, ep, hd, ch) = some (okF w.1 ch ep) := by
  unfold monitor_Monitor_formed okF
  dsimp only
  have h2 : (if (formed w.1 ch) = true then Option.bind (lget ch (w64 ((ch.length : Int) - (1 : Int)))) fun x1 => some (decide (x1.2.1 ≤ ep)) else some false) = some (formed w.1 ch && decide (lastE ch 0 ≤ ep)) := and_o fun hf => by
    have h0 := (formed_val hf).1
    rw [bind_some' (last_at (by omega) h0)]
    have : lastE ch 0 = (ch.getLast h0).2.1 := by unfold lastE; rw [List.getLast?_eq_some_getLast h0]
    rw [this]
  have h3 : (if (decide ((ch.length : Int) = 0)) = true then some true else Option.bind (chain_Formed w.1 ch) fun r1 => Option.bind (if (r1) = true then Option.bind (lget ch (w64 ((ch.length : Int) - (1 : Int)))) fun x1 => some (decide (x1.2.1 ≤ ep)) else some false) fun y2 => some y2) = some (decide (ch = []) || (formed w.1 ch && decide (lastE ch 0 ≤ ep))) := by
    have e : decide ((ch.length : Int) = 0) = decide (ch = []) := by
      apply decide_eq_decide.2
      rw [← List.length_eq_zero_iff]; omega
    rw [e]
    exact or_o fun _ => by rw [bind_some' (formed_eq hw ch (by omega)), bind_some' h2]
  rw [bind_some' h3]
theorem look_eq (hd : T_head_Head) : monitor_Monitor_Look w (lab, ep, hd, ch) = some (look w lab ep ch) := by
  unfold monitor_Monitor_Look
  dsimp only
  rw [bind_some' (mequal_eq _ _)]
  have hwe : (w.1, w.2.1, w.2.2) = w := rfl
  rw [hwe]
  unfold look
  by_cases h1 : lab = w.1
  · rw [if_f (by simp [h1]), Option.bind_some]
    by_cases h2 : ep < 1
    · rw [if_t (by simp [h2]), if_pos (.inr h2)]
    · have n12 : ¬ (lab ≠ w.1 ∨ ep < 1) := by rintro (h | h); exact h h1; exact h2 h
      rw [if_f (by simp [h2]), if_neg n12, bind_some' (mformed_eq w lab ep ch hw hlab hn hL hd)]
      by_cases h3 : okF w.1 ch ep = false
      · rw [if_t (by simp [h3]), if_pos h3]
      · rw [if_f (by simpa using h3), if_neg h3]
        by_cases h4 : ep < w.2.1
        · rw [if_t (by simp [h4]), if_pos h4]
        · have hul := upto_len ch w.2.1
          rw [if_f (by simp [h4]), if_neg h4, bind_some' (upto_eq ch _ (by omega)), bind_some' (eqfunc_eq _ _ (by omega))]
          by_cases h5 : upto ch w.2.1 = w.2.2
          · have hs : lslice ch ((upto ch w.2.1).length : Int) (ch.length : Int) = some (ch.drop (upto ch w.2.1).length) := by
              rw [lslice_at (a := (upto ch w.2.1).length) (b := ch.length) rfl rfl hul (Nat.le_refl _), List.take_length]
            rw [if_f (by simp [h5]), if_neg (by simpa using h5), bind_some' (copied_eq ch hn hL), bind_some' hs, bind_some' (copied_eq _ (by simp; omega) (fun v hv => hL v (List.mem_of_mem_drop hv)))]
          · rw [if_t (by simp [h5]), if_pos (by simpa using h5)]
  · rw [if_t (by simp [h1]), Option.bind_some, if_t (by simp [h1]), if_pos (.inl h1)]
end
theorem awake23 : rolodexlaw23_awake = some true := by decide +kernel
theorem seen_eq (w : Mon) (hn : w.2.2.length ≤ 1000000000) (hL : ∀ v ∈ w.2.2, v.2.2.2.2.length ≤ 1000000) : monitor_Monitor_Seen w = some w.2.2 := by
  unfold monitor_Monitor_Seen; rw [bind_some' (copied_eq _ hn hL)]
end Pu
end Go.Sl
