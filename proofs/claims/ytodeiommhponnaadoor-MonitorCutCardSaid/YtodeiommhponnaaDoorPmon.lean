import Derived.Test.YtodeiommhponnaaDoorPchain4
set_option linter.unusedSimpArgs false
set_option linter.unusedVariables false
set_option linter.unusedSectionVars false
namespace Go.Sl
/-- What of a list is taken. -/
theorem filterscan {α : Type} {f : Int × List α → Option (LR (Int × List α) Empty)} (l : List α) (p : α → Bool) (hn : l.length ≤ 9000000000)
    (h : ∀ i (hi : i < l.length) (acc : List α), acc.length ≤ i → f ((i : Int), acc) = some (.next ((i : Int) + 1, if p l[i] = true then acc ++ [l[i]] else acc))) (he : ∀ acc, f ((l.length : Int), acc) = some (.brk ((l.length : Int), acc))) :
    loopS f FU ((0 : Int), []) = some ((l.length : Int), l.filter p) := by
  have h1 := loopS_cnt (f := f) (fun i (_ : Unit) => ((i : Int), (l.take i).filter p)) (fun _ s => s) 0 l.length (fun i s _ h2 => by
    rw [h i h2 _ (Nat.le_trans (List.length_filter_le _ _) (by simp; omega))]
    rw [List.take_succ_eq_append_getElem h2, List.filter_append]
    by_cases e : p l[i] = true
    · rw [if_pos e]; simp [e]
    · rw [if_neg e]; simp [e]) (fun s => he _) FU () (by omega) (fu_lt hn)
  simpa using h1
namespace Pu
open Go.Sl Go.Sl.M
abbrev Mon := List (BitVec 8) × Int × List Ver
theorem copied_eq (l : List Ver) (hn : l.length ≤ 1000000000) (hL : ∀ v ∈ l, v.2.2.2.2.length ≤ 1000000) : monitor_copied l = some l := by
  unfold monitor_copied
  have h1 := mapscan (f := fun (s : Int × List Ver) => monitor_copied_L1 l s.1 s.2) l id (by omega) (fun i hi acc ha => by
    simp only [monitor_copied_L1]
    have hv := hL _ (List.getElem_mem hi)
    have hcl : slices_Clone_byte_byte l[i].2.2.2.2 = some l[i].2.2.2.2 := by unfold slices_Clone_byte_byte; rw [if_t (by simp [AP]; omega)]; simp
    rw [if_t (by simp; omega), bind_some' (lget_at rfl hi), bind_some' hcl, if_t (by simp [AP]; omega), w64_eq (by omega)]; rfl) (fun acc => by
    simp only [monitor_copied_L1]
    rw [if_f (by simp)])
  rw [bind_some' h1]; simp
theorem mequal_eq (a b : List (BitVec 8)) : bytes_Equal a b = some (decide (a = b)) := rfl
theorem msame_eq (a b : Ver) : monitor_same a b = some (decide (a = b)) := by
  unfold monitor_same
  rw [andE, Option.bind_some, andE, Option.bind_some, andE, Option.bind_some, bind_some' (mequal_eq _ _), andE, Option.bind_some]
  obtain ⟨a1, a2, a3, a4, a5⟩ := a
  obtain ⟨b1, b2, b3, b4, b5⟩ := b
  simp [Prod.mk.injEq, Bool.decide_and, Bool.and_assoc]
theorem eqfunc_eq (a b : List Ver) (hn : a.length ≤ 4000000000) : slices_EqualFunc_chain_Version_chain_Version_chain_Version_chain_Version_monitor_same a b = some (decide (a = b)) := by
  unfold slices_EqualFunc_chain_Version_chain_Version_chain_Version_chain_Version_monitor_same
  by_cases hl : a.length = b.length
  · rw [if_f (by simp [hl])]
    have h1 := eqscan (f := fun (s : Int) => slices_EqualFunc_chain_Version_chain_Version_chain_Version_chain_Version_monitor_same_L1 a b s) a b hl (by omega) (fun i h1 h2 => by
      simp only [slices_EqualFunc_chain_Version_chain_Version_chain_Version_chain_Version_monitor_same_L1]
      rw [if_t (by simp; omega), bind_some' (lget_at rfl h1), bind_some' (lget_at rfl h2), bind_some' (msame_eq _ _), w64_eq (by omega)]
      by_cases e : a[i] = b[i]
      · rw [if_f (by simp [e]), if_pos e]
      · rw [if_t (by simp [e]), if_neg e]) (by
      simp only [slices_EqualFunc_chain_Version_chain_Version_chain_Version_chain_Version_monitor_same_L1]
      rw [if_f (by simp)])
    rw [bind_some' h1]
    by_cases e : a = b
    · rw [if_pos e]; simp [e]
    · rw [if_neg e]; simp [e]
  · rw [if_t (by simp; omega)]
    have : a ≠ b := fun e => hl (by rw [e])
    simp [this]
theorem new_eq (label : List (BitVec 8)) (h : label.length ≤ 1000000) : monitor_New label = some (label, 0, []) := by
  unfold monitor_New
  have hcl : slices_Clone_byte_byte label = some label := by unfold slices_Clone_byte_byte; rw [if_t (by simp [AP]; omega)]; simp
  rw [bind_some' hcl, Option.bind_some]
def okF (lab : List (BitVec 8)) (ch : List Ver) (ep : Int) : Bool := decide (ch = []) || (formed lab ch && decide (lastE ch 0 ≤ ep))
/-- A look. -/
def look (w : Mon) (lab : List (BitVec 8)) (ep : Int) (ch : List Ver) : Mon × List Ver × Int :=
  if lab ≠ w.1 ∨ ep < 1 then (w, [], 1)
  else if okF w.1 ch ep = false then (w, [], 2)
  else if ep < w.2.1 then (w, [], 11)
  else if upto ch w.2.1 ≠ w.2.2 then (w, [], 9)
  else ((w.1, ep, ch), ch.drop (upto ch w.2.1).length, 0)
theorem upto_len (l : List Ver) (e : Int) : (upto l e).length ≤ l.length := (List.takeWhile_prefix _).length_le
section
variable (w : Mon) (lab : List (BitVec 8)) (ep : Int) (ch : List Ver) (hw : w.1.length ≤ 1000000) (hlab : lab.length ≤ 1000000) (hn : ch.length ≤ 1000000000) (hL : ∀ v ∈ ch, v.2.2.2.2.length ≤ 1000000)
include hw hlab hn hL
theorem mformed_eq (hd : T_head_Head) : monitor_Monitor_formed w (lab, ep, hd, ch) = some (okF w.1 ch ep) := by
  unfold monitor_Monitor_formed okF
  dsimp only
  have h2 : (if (formed w.1 ch) = true then Option.bind (lget ch (w64 ((ch.length : Int) - (1 : Int)))) fun x1 => some (decide (x1.2.1 ≤ ep)) else some false) = some (formed w.1 ch && decide (lastE ch 0 ≤ ep)) := and_o fun hf => by
    have h0 := (formed_val hf).1
    rw [bind_some' (last_at (by omega) h0)]
    have : lastE ch 0 = (ch.getLast h0).2.1 := by unfold lastE; rw [List.getLast?_eq_some_getLast h0]
    rw [this]
  have h3 : (if (decide ((ch.length : Int) = 0)) = true then some true else Option.bind (chain_Formed w.1 ch) fun r1 => Option.bind (if (r1) = true then Option.bind (lget ch (w64 ((ch.length : Int) - (1 : Int)))) fun x1 => some (decide (x1.2.1 ≤ ep)) else some false) fun y2 => some y2) = some (decide (ch = []) || (formed w.1 ch && decide (lastE ch 0 ≤ ep))) := by
    have e : decide ((ch.length : Int) = 0) = decide (ch = []) := by
      apply decide_eq_decide.2
      rw [← List.length_eq_zero_iff]; omega
    rw [e]
    exact or_o fun _ => by rw [bind_some' (formed_eq hw ch (by omega)), bind_some' h2]
  rw [bind_some' h3]
theorem look_eq (hd : T_head_Head) : monitor_Monitor_Look w (lab, ep, hd, ch) = some (look w lab ep ch) := by
  unfold monitor_Monitor_Look
  dsimp only
  rw [bind_some' (mequal_eq _ _)]
  have hwe : (w.1, w.2.1, w.2.2) = w := rfl
  rw [hwe]
  unfold look
  by_cases h1 : lab = w.1
  · rw [if_f (by simp [h1]), Option.bind_some]
    by_cases h2 : ep < 1
    · rw [if_t (by simp [h2]), if_pos (.inr h2)]
    · have n12 : ¬ (lab ≠ w.1 ∨ ep < 1) := by rintro (h | h); exact h h1; exact h2 h
      rw [if_f (by simp [h2]), if_neg n12, bind_some' (mformed_eq w lab ep ch hw hlab hn hL hd)]
      by_cases h3 : okF w.1 ch ep = false
      · rw [if_t (by simp [h3]), if_pos h3]
      · rw [if_f (by simpa using h3), if_neg h3]
        by_cases h4 : ep < w.2.1
        · rw [if_t (by simp [h4]), if_pos h4]
        · have hul := upto_len ch w.2.1
          rw [if_f (by simp [h4]), if_neg h4, bind_some' (upto_eq ch _ (by omega)), bind_some' (eqfunc_eq _ _ (by omega))]
          by_cases h5 : upto ch w.2.1 = w.2.2
          · have hs : lslice ch ((upto ch w.2.1).length : Int) (ch.length : Int) = some (ch.drop (upto ch w.2.1).length) := by
              rw [lslice_at (a := (upto ch w.2.1).length) (b := ch.length) rfl rfl hul (Nat.le_refl _), List.take_length]
            rw [if_f (by simp [h5]), if_neg (by simpa using h5), bind_some' (copied_eq ch hn hL), bind_some' hs, bind_some' (copied_eq _ (by simp; omega) (fun v hv => hL v (List.mem_of_mem_drop hv)))]
          · rw [if_t (by simp [h5]), if_pos (by simpa using h5)]
  · rw [if_t (by simp [h1]), Option.bind_some, if_t (by simp [h1]), if_pos (.inl h1)]
theorem rlook_eq : rolodexref23_Monitor_Look w (lab, ep, ch) = some (look w lab ep ch) := by
  unfold rolodexref23_Monitor_Look
  dsimp only
  rw [bind_some' (same_eq _ _ (by omega)), orE, Option.bind_some]
  have hwe : (w.1, w.2.1, w.2.2) = w := rfl
  rw [hwe]
  unfold look
  by_cases h1 : lab ≠ w.1 ∨ ep < 1
  · rw [if_t (by rcases h1 with h | h <;> simp [h]), if_pos h1]
  · rw [if_f (by
      simp only [not_or, Decidable.not_not] at h1
      simp [h1.1, h1.2]), if_neg h1]
    have hy : (if (decide ((0 : Int) < (ch.length : Int))) = true then Option.bind (rolodexref14_Formed w.1 ch) fun r2 => Option.bind (if (!r2) = true then some true else Option.bind (lget ch (w64 ((ch.length : Int) - (1 : Int)))) fun x1 => some (decide (ep < x1.2.1))) fun y3 => some y3 else some false) = some (!okF w.1 ch ep) := by
      by_cases h0 : ch = []
      · subst h0; simp [okF]
      · have hp := List.length_pos_iff.2 h0
        have he : lastE ch 0 = (ch.getLast h0).2.1 := by unfold lastE; rw [List.getLast?_eq_some_getLast h0]
        rw [if_t (by simp only [decide_eq_true_eq]; omega), bind_some' (rformed_eq hw ch (by omega)), bind_some' (last_at (by omega) h0), orE, Option.bind_some]
        unfold okF
        rw [he]
        by_cases hf : formed w.1 ch = true
        · simp [h0, hf]
          rw [Bool.eq_iff_iff]; simp
        · simp [h0, hf]
    rw [bind_some' hy]
    by_cases h3 : okF w.1 ch ep = false
    · rw [if_t (by simp [h3]), if_pos h3]
    · rw [if_f (by simpa using h3), if_neg h3]
      by_cases h4 : ep < w.2.1
      · rw [if_t (by simp [h4]), if_pos h4]
      · have hul := upto_len ch w.2.1
        rw [if_f (by simp [h4]), if_neg h4, bind_some' (rupto_eq ch _ (by omega)), bind_some' (csame_eq _ _ (by omega) (fun v hv => by have := hL v ((List.takeWhile_prefix _).subset hv); omega))]
        by_cases h5 : upto ch w.2.1 = w.2.2
        · have hs : lslice ch ((upto ch w.2.1).length : Int) (ch.length : Int) = some (ch.drop (upto ch w.2.1).length) := by
            rw [lslice_at (a := (upto ch w.2.1).length) (b := ch.length) rfl rfl hul (Nat.le_refl _), List.take_length]
          rw [if_f (by simp [h5]), if_neg (by simpa using h5), bind_some' hs]
        · rw [if_t (by simp [h5]), if_pos (by simpa using h5)]
end
theorem upto_drop (l : List Ver) (e : Int) : upto l e ++ l.drop (upto l e).length = l := by
  have h := List.prefix_iff_eq_take.1 (List.takeWhile_prefix (fun v : Ver => decide (v.2.1 ≤ e)) (l := l))
  have : upto l e = l.take (upto l e).length := h
  conv => lhs; lhs; rw [this]
  exact List.take_append_drop _ _
/-- What a look leaves and tells. -/
theorem look_sum (w : Mon) (lab : List (BitVec 8)) (ep : Int) (ch : List Ver) : w.2.2 ++ (look w lab ep ch).2.1 = (look w lab ep ch).1.2.2 ∧ ((look w lab ep ch).2.2 ≠ 0 → (look w lab ep ch).2.1 = []) ∧ (look w lab ep ch).1.1 = w.1 ∧
    ((look w lab ep ch).1.2.2 = w.2.2 ∨ (look w lab ep ch).1.2.2 = ch) ∧ (∀ v ∈ (look w lab ep ch).2.1, v ∈ ch) ∧ (look w lab ep ch).2.1.length ≤ ch.length := by
  unfold look
  split
  · simp
  · split
    · simp
    · split
      · simp
      · split
        · simp
        · rename_i h5
          have h5 : upto ch w.2.1 = w.2.2 := by simpa using h5
          refine ⟨?_, fun h => absurd rfl h, rfl, .inr rfl, fun v hv => List.mem_of_mem_drop hv, by simp⟩
          rw [← h5]; exact upto_drop ch w.2.1
theorem awake23 : rolodexlaw23_awake = some true := by decide +kernel
def fewF (f : T_rolodexref23_Found) : Bool := decide (f.1.length ≤ 100) && (rolodexref14_Few f.2.2 15).getD false
theorem few23_eq (l : List T_rolodexref23_Found) (n : Nat) (hn : n ≤ 50) : ∃ b, rolodexref23_Few l n = some b ∧ (b = true → l.length ≤ n ∧ ∀ f ∈ l, f.1.length ≤ 100 ∧ FewV f.2.2 15) := by
  unfold rolodexref23_Few
  have h1 := allscan (f := fun (s : Int) => rolodexref23_Few_L1 l s) (l.take 50) fewF (by simp; omega) (fun i h1 => by
    simp only [rolodexref23_Few_L1]
    have h2 : i < l.length := by simp at h1; omega
    have h3 : i < 50 := by simp at h1; omega
    obtain ⟨b, hb, _⟩ := cfew_eq l[i].2.2 15 (by omega)
    have hb' : rolodexref14_Few l[i].2.2 15 = some b := hb
    rw [if_t (by simp; omega), Option.bind_some, if_t (by simp; omega), bind_some' (lget_at rfl h2), bind_some' (lget_at rfl h2), bind_some' hb', orE, Option.bind_some, w64_eq (by omega), List.getElem_take]
    unfold fewF
    rw [hb']
    by_cases e : l[i].1.length ≤ 100
    · cases b <;> simp [e] <;> omega
    · rw [if_t (by simp; omega), if_neg (by simp [e])]) (by
    simp only [rolodexref23_Few_L1]
    by_cases e : ((l.take 50).length : Int) < (l.length : Int)
    · rw [if_t (by simpa using e), Option.bind_some, if_f (by simp only [decide_eq_true_eq]; simp at e; simp; omega)]
    · rw [if_f (by simp only [decide_eq_true_eq]; omega), Option.bind_some, if_f (by simp)])
  rw [bind_some' h1]
  by_cases e : (l.take 50).all fewF = true
  · rw [if_pos e]
    refine ⟨_, rfl, fun hb => ?_⟩
    have hb' : l.length ≤ n := by simpa using hb
    refine ⟨hb', fun f hf => ?_⟩
    rw [List.take_of_length_le (by omega)] at e
    have := List.all_eq_true.1 e f hf
    unfold fewF at this
    obtain ⟨b, hb, hbf⟩ := cfew_eq f.2.2 15 (by omega)
    have hb' : rolodexref14_Few f.2.2 15 = some b := hb
    rw [hb'] at this
    simp at this
    exact ⟨this.1, hbf this.2⟩
  · rw [if_neg e]; exact ⟨false, rfl, fun h => by cases h⟩
theorem from23_eq (f : T_rolodexref23_Found) (hn : f.2.2.length ≤ 1000000) : rolodexlaw23_from f = some (f.1, f.2.1, (0, 0, Vector.replicate 32 0#8, Vector.replicate 32 0#8), f.2.2) := by
  unfold rolodexlaw23_from
  rw [bind_some' (from_eq _ (by omega)), Option.bind_some]
theorem seen_eq (w : Mon) (hn : w.2.2.length ≤ 1000000000) (hL : ∀ v ∈ w.2.2, v.2.2.2.2.length ≤ 1000000) : monitor_Monitor_Seen w = some w.2.2 := by
  unfold monitor_Monitor_Seen; rw [bind_some' (copied_eq _ hn hL)]
theorem epoch_eq (w : Mon) : monitor_Monitor_Epoch w = some w.2.1 := rfl
/-- A monitor of a size that is looked at. -/
def MonP (w : Mon) : Prop := w.1.length ≤ 100 ∧ FewV w.2.2 15
theorem look_monP {w : Mon} {lab : List (BitVec 8)} {ep : Int} {ch : List Ver} (hw : MonP w) (hc : FewV ch 15) : MonP (look w lab ep ch).1 := by
  obtain ⟨_, _, h1, h2, _⟩ := look_sum w lab ep ch
  refine ⟨by rw [h1]; exact hw.1, ?_⟩
  rcases h2 with h | h
  · rw [h]; exact hw.2
  · rw [h]; exact hc
theorem monitorLooks (label : List (BitVec 8)) (l : List T_rolodexref23_Found) : rolodexlaw23_MonitorLooks label l = some true := by
  unfold rolodexlaw23_MonitorLooks
  rw [bind_some' awake23, orE, Option.bind_some]
  obtain ⟨b, hb, hf⟩ := few23_eq l 12 (by omega)
  have hb' : rolodexref23_Few l 12 = some b := hb
  rw [bind_some' hb', orE, Option.bind_some]
  by_cases hc : label.length ≤ 100 ∧ b = true
  · obtain ⟨h1, h2⟩ := hc
    obtain ⟨hl, hF⟩ := hf h2
    rw [if_f (by simp [h2]; omega), bind_some' (new_eq label (by omega)), Option.bind_some]
    have h0 := loopO_run0 (f := fun (s : Int × Mon × List (BitVec 8) × Int × List Ver) => rolodexlaw23_MonitorLooks_L1 l s.1 s.2.1 s.2.2.1 s.2.2.2.1 s.2.2.2.2) l (fun i (w : Mon) => ((i : Int), w, w.1, w.2.1, w.2.2)) (fun _ w f => .inl (look w f.1 f.2.1 f.2.2).1) (fun _ w => MonP w) (label, 0, []) (by omega) ⟨h1, by simp, by simp⟩ (fun i w hi hw => by
      simp only [rolodexlaw23_MonitorLooks_L1]
      obtain ⟨hlab, hch⟩ := hF _ (List.getElem_mem hi)
      have hchl := hch.1
      have hL : ∀ v ∈ l[i].2.2, v.2.2.2.2.length ≤ 1000000 := fun v hv => by have := hch.2 v hv; omega
      have hw1 := hw.1
      have hwe : (w.1, w.2.1, w.2.2) = w := rfl
      have hlk := look_eq w l[i].1 l[i].2.1 l[i].2.2 (by omega) (by omega) (by omega) hL (0, 0, Vector.replicate 32 0#8, Vector.replicate 32 0#8)
      have hrl := rlook_eq w l[i].1 l[i].2.1 l[i].2.2 (by omega) (by omega) (by omega) hL
      have hle : (l[i].1, l[i].2.1, l[i].2.2) = l[i] := rfl
      rw [hle] at hrl
      obtain ⟨_, _, _, _, hs5, hs6⟩ := look_sum w l[i].1 l[i].2.1 l[i].2.2
      have hP := look_monP (lab := l[i].1) (ep := l[i].2.1) hw hch
      rw [if_t (by simp; omega), bind_some' (lget_at rfl hi), bind_some' (from23_eq _ (by omega)), hwe, bind_some' hlk, bind_some' (lget_at rfl hi), bind_some' hrl]
      generalize look w l[i].1 l[i].2.1 l[i].2.2 = r at *
      have hP2 := hP.2.1
      have hre : (r.1.1, r.1.2.1, r.1.2.2) = r.1 := rfl
      rw [if_f (by simp), bind_some' (to_eq _ (by omega)), bind_some' (csame_eq _ _ (by omega) (fun v hv => by have := hL v (hs5 v hv); omega)), Option.bind_some, if_f (by simp), hre, bind_some' (epoch_eq _), Option.bind_some, if_f (by simp)]
      rw [bind_some' (seen_eq _ (by omega) (fun v hv => by have := hP.2.2 v hv; omega)), bind_some' (to_eq _ (by omega)), bind_some' (csame_eq _ _ (by omega) (fun v hv => by have := hP.2.2 v hv; omega)), Option.bind_some, if_f (by simp), w64_eq (by omega)]
      rfl) (fun i w w' hi hw h => by
      have := Sum.inl.inj h
      rw [← this]; exact look_monP hw (hF _ (List.getElem_mem hi)).2) (fun w _ => by
      simp only [rolodexlaw23_MonitorLooks_L1]
      rw [if_f (by simp)])
    have h0' : loopO (fun (s : Int × Mon × List (BitVec 8) × Int × List Ver) => rolodexlaw23_MonitorLooks_L1 l s.1 s.2.1 s.2.2.1 s.2.2.2.1 s.2.2.2.2) FU (0, (label, 0, []), label, 0, []) = _ := h0
    have key : ∀ (l : List T_rolodexref23_Found) (i : Nat) (w : Mon), ∃ w', runL (fun _ w (f : T_rolodexref23_Found) => (.inl (look w f.1 f.2.1 f.2.2).1 : Mon ⊕ Bool)) i w l = .inl w' := by
      intro l
      induction l with
      | nil => intro i w; exact ⟨w, rfl⟩
      | cons f l ih => intro i w; exact ih (i + 1) _
    obtain ⟨w', hk⟩ := key l 0 (label, 0, [])
    rw [bind_some' h0', hk]
  · rw [if_t (by
      by_cases h1 : label.length ≤ 100
      · have : b ≠ true := fun h => hc ⟨h1, h⟩
        simp [this]
      · simp; omega), bind_some' awake23]
theorem monitorAll (label : List (BitVec 8)) (l : List T_rolodexref23_Found) : rolodexlaw23_MonitorAll label l = some true := by
  unfold rolodexlaw23_MonitorAll
  rw [bind_some' awake23, orE, Option.bind_some]
  obtain ⟨b, hb, hf⟩ := few23_eq l 12 (by omega)
  have hb' : rolodexref23_Few l 12 = some b := hb
  rw [bind_some' hb', orE, Option.bind_some]
  by_cases hc : label.length ≤ 100 ∧ b = true
  · obtain ⟨h1, h2⟩ := hc
    obtain ⟨hl, hF⟩ := hf h2
    rw [if_f (by simp [h2]; omega), bind_some' (new_eq label (by omega))]
    have h0 := loopO_run0 (f := fun (s : Int × List Ver × List (BitVec 8) × Int × List Ver) => rolodexlaw23_MonitorAll_L1 l s.1 s.2.1 s.2.2.1 s.2.2.2.1 s.2.2.2.2) l (fun i (w : Mon) => ((i : Int), w.2.2, w.1, w.2.1, w.2.2)) (fun _ w f => (.inl (look w f.1 f.2.1 f.2.2).1 : Mon ⊕ Bool)) (fun _ w => MonP w) (label, 0, []) (by omega) ⟨h1, by simp, by simp⟩ (fun i w hi hw => by
      simp only [rolodexlaw23_MonitorAll_L1]
      obtain ⟨hlab, hch⟩ := hF _ (List.getElem_mem hi)
      have hchl := hch.1
      have hL : ∀ v ∈ l[i].2.2, v.2.2.2.2.length ≤ 1000000 := fun v hv => by have := hch.2 v hv; omega
      have hw1 := hw.1
      have hw2 := hw.2.1
      have hwe : (w.1, w.2.1, w.2.2) = w := rfl
      have hlk := look_eq w l[i].1 l[i].2.1 l[i].2.2 (by omega) (by omega) (by omega) hL (0, 0, Vector.replicate 32 0#8, Vector.replicate 32 0#8)
      obtain ⟨hs1, hs2, _, _, hs5, hs6⟩ := look_sum w l[i].1 l[i].2.1 l[i].2.2
      rw [if_t (by simp; omega), bind_some' (lget_at rfl hi), bind_some' (from23_eq _ (by omega)), hwe, bind_some' hlk]
      generalize look w l[i].1 l[i].2.1 l[i].2.2 = r at *
      have hy : (if (!decide (r.2.2 = 0)) = true then some (decide ((0 : Int) < (r.2.1.length : Int))) else some false) = some false := by
        by_cases e : r.2.2 = 0
        · rw [if_f (by simp [e])]
        · rw [if_t (by simp [e]), hs2 e]; rfl
      rw [bind_some' hy, if_f (by simp), if_t (by simp [AP]; omega), w64_eq (by omega), hs1]
      rfl) (fun i w w' hi hw h => by
      have := Sum.inl.inj h
      rw [← this]; exact look_monP hw (hF _ (List.getElem_mem hi)).2) (fun w _ => by
      simp only [rolodexlaw23_MonitorAll_L1]
      rw [if_f (by simp)])
    have h0' : loopO (fun (s : Int × List Ver × List (BitVec 8) × Int × List Ver) => rolodexlaw23_MonitorAll_L1 l s.1 s.2.1 s.2.2.1 s.2.2.2.1 s.2.2.2.2) FU (0, [], label, 0, []) = _ := h0
    have key : ∀ (l : List T_rolodexref23_Found) (i : Nat) (w : Mon), MonP w → (∀ f ∈ l, f.1.length ≤ 100 ∧ FewV f.2.2 15) → ∃ w', runL (fun _ w (f : T_rolodexref23_Found) => (.inl (look w f.1 f.2.1 f.2.2).1 : Mon ⊕ Bool)) i w l = .inl w' ∧ MonP w' := by
      intro l
      induction l with
      | nil => intro i w hw _; exact ⟨w, rfl, hw⟩
      | cons f l ih => intro i w hw hF; exact ih (i + 1) _ (look_monP hw (hF f (by simp)).2) (fun g hg => hF g (by simp [hg]))
    obtain ⟨w', hk, hP⟩ := key l 0 (label, 0, []) ⟨h1, by simp, by simp⟩ hF
    have hP2 := hP.2.1
    have hwe : (w'.1, w'.2.1, w'.2.2) = w' := rfl
    rw [bind_some' h0', hk]
    dsimp only
    rw [bind_some' (to_eq _ (by omega)), hwe, bind_some' (seen_eq _ (by omega) (fun v hv => by have := hP.2.2 v hv; omega)), bind_some' (to_eq _ (by omega)), bind_some' (csame_eq _ _ (by omega) (fun v hv => by have := hP.2.2 v hv; omega))]
    simp
  · rw [if_t (by
      by_cases h1 : label.length ≤ 100
      · have : b ≠ true := fun h => hc ⟨h1, h⟩
        simp [this]
      · simp; omega), bind_some' awake23]
end Pu
end Go.Sl
