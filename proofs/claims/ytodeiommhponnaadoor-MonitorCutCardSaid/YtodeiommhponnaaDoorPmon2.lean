import Derived.Test.YtodeiommhponnaaDoorPmon
set_option linter.unusedSimpArgs false
set_option linter.unusedVariables false
set_option linter.unusedSectionVars false
namespace Go.Sl
namespace Pu
open Go.Sl Go.Sl.M
def within (l : List Ver) (a b : Int) : List Ver := l.filter fun v => decide (a ≤ v.2.1) && decide (v.2.1 ≤ b)
def hist (ep : Int) (ch : List Ver) (a b : Int) : List Ver × Int :=
  if a < 1 ∨ b < a then ([], 1) else if ep < b then ([], 4) else (within ch a b, 0)
theorem history_eq (lab : List (BitVec 8)) (ep : Int) (hd : T_head_Head) (ch : List Ver) (a b : Int) (hn : ch.length ≤ 1000000000) (hL : ∀ v ∈ ch, v.2.2.2.2.length ≤ 1000000) : monitor_History (lab, ep, hd, ch) a b = some (hist ep ch a b) := by
  unfold monitor_History hist
  have hy : (if decide (a < 1) = true then some (decide (a < 1)) else some (decide (b < a))) = some (decide (a < 1 ∨ b < a)) := by
    by_cases h : a < 1
    · rw [if_t (by simp [h])]; simp [h]
    · rw [if_f (by simp [h])]; simp [h]
  dsimp only
  rw [bind_some' hy]
  by_cases h : a < 1 ∨ b < a
  · rw [if_t (by simpa using h), if_pos h]
  · rw [if_f (by simpa using h), if_neg h]
    by_cases h2 : ep < b
    · rw [if_t (by simpa using h2), if_pos h2]
    · rw [if_f (by simpa using h2), if_neg h2]
      have h1 := filterscan (f := fun (s : Int × List Ver) => monitor_History_L1 (lab, ep, hd, ch) a b s.1 s.2) ch (fun v => decide (a ≤ v.2.1) && decide (v.2.1 ≤ b)) (by omega) (fun i hi acc ha => by
        simp only [monitor_History_L1]
        rw [if_t (by simp; omega), bind_some' (lget_at rfl hi), andE, Option.bind_some, if_t (c := acc.length + [ch[i]].length ≤ AP) (by simp [AP]; omega), w64_eq (by omega)]
        split <;> rfl) (fun acc => by
        simp only [monitor_History_L1]
        rw [if_f (by simp)])
      rw [bind_some' h1]
      dsimp only
      rw [bind_some' (copied_eq _ (by have := List.length_filter_le (fun v : Ver => decide (a ≤ v.2.1) && decide (v.2.1 ≤ b)) ch; omega) (fun v hv => hL v (List.mem_filter.1 hv).1))]
      rfl
theorem rhistory_eq (lab : List (BitVec 8)) (ep : Int) (ch : List Ver) (a b : Int) (hn : ch.length ≤ 1000000000) : rolodexref23_History (lab, ep, ch) a b = some (hist ep ch a b) := by
  unfold rolodexref23_History hist
  dsimp only
  rw [orE, Option.bind_some]
  by_cases h : a < 1 ∨ b < a
  · rw [if_t (by simpa using h), if_pos h]
  · rw [if_f (by simpa using h), if_neg h]
    by_cases h2 : ep < b
    · rw [if_t (by simpa using h2), if_pos h2]
    · rw [if_f (by simpa using h2), if_neg h2]
      have h1 := filterscan (f := fun (s : Int × List Ver) => rolodexref23_History_L1 (lab, ep, ch) a b s.1 s.2) ch (fun v => decide (a ≤ v.2.1) && decide (v.2.1 ≤ b)) (by omega) (fun i hi acc ha => by
        simp only [rolodexref23_History_L1]
        rw [if_t (by simp; omega), bind_some' (lget_at rfl hi), bind_some' (lget_at rfl hi), andE, Option.bind_some, bind_some' (lget_at rfl hi), if_t (c := acc.length + [ch[i]].length ≤ AP) (by simp [AP]; omega), w64_eq (by omega)]
        split <;> rfl) (fun acc => by
        simp only [rolodexref23_History_L1]
        rw [if_f (by simp)])
      rw [bind_some' h1]
      rfl
theorem monitorHistory (f : T_rolodexref23_Found) (a b : Int) : rolodexlaw23_MonitorHistory f a b = some true := by
  unfold rolodexlaw23_MonitorHistory
  obtain ⟨p, hp, hf⟩ := few23_eq [f] 1 (by omega)
  have hp' : rolodexref23_Few [f] 1 = some p := hp
  rw [bind_some' awake23, bind_some' hp', orE, Option.bind_some]
  by_cases hc : p = true
  · obtain ⟨_, hF⟩ := hf hc
    have hch := (hF f (by simp)).2
    have hchl := hch.1
    have hL : ∀ v ∈ f.2.2, v.2.2.2.2.length ≤ 1000000 := fun v hv => by have := hch.2 v hv; omega
    have hrh := rhistory_eq f.1 f.2.1 f.2.2 a b (by omega)
    have hfe : (f.1, f.2.1, f.2.2) = f := rfl
    rw [hfe] at hrh
    rw [if_f (by simp [hc]), bind_some' (from23_eq _ (by omega)), bind_some' (history_eq _ _ _ _ a b (by omega) hL), bind_some' hrh, if_t (by simp)]
    have hlen : (hist f.2.1 f.2.2 a b).1.length ≤ f.2.2.length := by
      unfold hist; split
      · simp
      · split
        · simp
        · exact List.length_filter_le _ _
    have hmem : ∀ v ∈ (hist f.2.1 f.2.2 a b).1, v ∈ f.2.2 := by
      intro v hv
      unfold hist at hv
      split at hv
      · cases hv
      · split at hv
        · cases hv
        · exact (List.mem_filter.1 hv).1
    rw [bind_some' (to_eq _ (by omega)), bind_some' (csame_eq _ _ (by omega) (fun v hv => by have := hL v (hmem v hv); omega))]
    simp
  · rw [if_t (by simp [hc]), bind_some' awake23]
/-! ## A chain, looked at by its first epochs -/
theorem fm_upto (label : List (BitVec 8)) (E : Int) : ∀ (l : List Ver) (e : Int) (h : Hash) (i : Nat), fm label e h i l = true → fm label e h i (upto l E) = true
  | [], _, _, _, _ => rfl
  | v :: l, e, h, i, hf => by
    simp only [fm, Bool.and_eq_true] at hf
    unfold upto
    rw [List.takeWhile_cons]
    by_cases hv : v.2.1 ≤ E
    · rw [if_pos (by simpa using hv)]
      simp only [fm, Bool.and_eq_true]
      exact ⟨hf.1, fm_upto label E l _ _ _ hf.2⟩
    · rw [if_neg (by simpa using hv)]; rfl
theorem upto_upto (l : List Ver) {a b : Int} (h : a ≤ b) : upto (upto l b) a = upto l a := by
  unfold upto
  induction l with
  | nil => rfl
  | cons v l ih =>
    rw [List.takeWhile_cons (a := v) (l := l) (p := fun v : Ver => decide (v.2.1 ≤ b)), List.takeWhile_cons (a := v) (l := l) (p := fun v : Ver => decide (v.2.1 ≤ a))]
    by_cases h1 : v.2.1 ≤ b
    · rw [if_pos (by simpa using h1), List.takeWhile_cons]
      by_cases h2 : v.2.1 ≤ a
      · rw [if_pos (by simpa using h2), if_pos (by simpa using h2), ih]
      · rw [if_neg (by simpa using h2), if_neg (by simpa using h2)]
    · rw [if_neg (by simpa using h1), if_neg (by simp; omega)]; rfl
theorem upto_le {l : List Ver} {e : Int} : ∀ v ∈ upto l e, v.2.1 ≤ e := by
  unfold upto
  induction l with
  | nil => intro v hv; cases hv
  | cons x l ih =>
    intro v hv
    rw [List.takeWhile_cons] at hv
    by_cases h : x.2.1 ≤ e
    · rw [if_pos (by simpa using h)] at hv
      rcases List.mem_cons.1 hv with rfl | hv
      · exact h
      · exact ih v hv
    · rw [if_neg (by simpa using h)] at hv; cases hv
theorem lastE_le {l : List Ver} {e0 e : Int} (h0 : e0 ≤ e) (h : ∀ v ∈ l, v.2.1 ≤ e) : lastE l e0 ≤ e := by
  by_cases hn : l = []
  · subst hn; exact h0
  · unfold lastE; rw [List.getLast?_eq_some_getLast hn]; exact h _ (List.getLast_mem hn)
theorem okF_upto {label : List (BitVec 8)} {c : List Ver} {e : Int} (hf : formed label c = true) (he : 0 ≤ e) : okF label (upto c e) e = true := by
  unfold okF
  by_cases h0 : upto c e = []
  · simp [h0]
  · have hc : c ≠ [] := fun h => h0 (by rw [h]; rfl)
    rw [formed_ne h0]
    rw [formed_ne hc] at hf
    simp only [Bool.and_eq_true] at hf
    simp only [Bool.or_eq_true, decide_eq_true_eq, Bool.and_eq_true]
    exact .inr ⟨⟨hf.1, fm_upto label e c _ _ _ hf.2⟩, lastE_le he upto_le⟩
theorem upto_zero {label : List (BitVec 8)} {c : List Ver} (hf : formed label c = true) : upto c 0 = [] := by
  cases c with
  | nil => rfl
  | cons v c =>
    rw [formed_ne (by simp)] at hf
    simp only [Bool.and_eq_true] at hf
    have := (fm_ep label (v :: c) 0 hz 0 hf.2 v (by simp)).1
    unfold upto
    rw [List.takeWhile_cons, if_neg (by simp; omega)]
theorem look_cut {label : List (BitVec 8)} {c : List Ver} {e e' : Int} (hf : formed label c = true) (h0 : 0 ≤ e) (he : e < e') :
    look (label, e, upto c e) label e' (upto c e') = ((label, e', upto c e'), (upto c e').drop (upto c e).length, 0) := by
  unfold look
  dsimp only
  have n1 : ¬ (label ≠ label ∨ e' < 1) := by rintro (h | h); exact h rfl; omega
  have n2 : ¬ okF label (upto c e') e' = false := by rw [okF_upto hf (by omega)]; decide
  have n3 : ¬ e' < e := by omega
  have n4 : ¬ upto (upto c e') e ≠ upto c e := by rw [upto_upto c (by omega)]; simp
  rw [if_neg n1, if_neg n2, if_neg n3, if_neg n4, upto_upto c (Int.le_of_lt he)]
theorem monitorCut (label : List (BitVec 8)) (c : List Ver) (at_ : List (BitVec 8)) : rolodexlaw23_MonitorCut label c at_ = some true := by
  unfold rolodexlaw23_MonitorCut
  rw [bind_some' awake23, orE, Option.bind_some]
  obtain ⟨b, hb, hbf⟩ := cfew_eq c 15 (by omega)
  have hb' : rolodexref14_Few c 15 = some b := hb
  rw [bind_some' hb', orE, Option.bind_some, orE, Option.bind_some]
  by_cases hc : label.length ≤ 100 ∧ b = true ∧ at_.length ≤ 10
  · obtain ⟨h1, h2, h3⟩ := hc
    have hF := hbf h2
    have hcl := hF.1
    have hl : label.length ≤ 1000000 := by omega
    have hL : ∀ v ∈ c, v.2.2.2.2.length ≤ 1000000 := fun v hv => by have := hF.2 v hv; omega
    have hfalse : ((!true || decide ((100 : Int) < (label.length : Int))) || !b || decide ((10 : Int) < (at_.length : Int))) = false := by
      simp [h2]; omega
    rw [hfalse, bind_some' (rformed_eq hl c (by omega)), orE, Option.bind_some]
    by_cases hf : formed label c = true
    · rw [if_f (by simp [hf]), bind_some' (new_eq label hl)]
      have h0 := loopO_run0 (f := fun (s : Int × Int × List (BitVec 8) × Int × List Ver) => rolodexlaw23_MonitorCut_L1 at_ c label s.1 s.2.1 s.2.2.1 s.2.2.2.1 s.2.2.2.2) at_ (fun i (e : Int) => (e, (i : Int), label, e, upto c e)) (fun _ e a => (.inl (e + (1 + ((a % 4#8).toNat : Int))) : Int ⊕ Bool)) (fun i e => 0 ≤ e ∧ e ≤ 4 * i) 0 (by omega) ⟨by omega, by omega⟩ (fun i e hi he => by
        simp only [rolodexlaw23_MonitorCut_L1]
        have hm : ((at_[i] % 4#8).toNat : Int) < 4 := by
          have := BitVec.toNat_umod (x := at_[i]) (y := 4#8)
          rw [this]; have e4 : (4#8).toNat = 4 := by decide
          rw [e4]; omega
        rw [if_t (by simp; omega), bind_some' (lget_at rfl hi), w64_eq (n := (1 : Int) + ((at_[i] % 4#8).toNat : Int)) (by omega), w64_eq (n := e + (1 + ((at_[i] % 4#8).toNat : Int))) (by omega), Option.bind_some]
        generalize hx : e + (1 + ((at_[i] % 4#8).toNat : Int)) = e'
        have hee : e < e' := by omega
        have hul := upto_len c e'
        have hvu : ∀ v ∈ upto c e', v.2.2.2.2.length ≤ 1000000 := fun v hv => hL v ((List.takeWhile_prefix _).subset hv)
        have hlk := look_eq (label, e, upto c e) label e' (upto c e') hl hl (by omega) hvu (0, 0, Vector.replicate 32 0#8, Vector.replicate 32 0#8)
        rw [look_cut hf he.1 hee] at hlk
        rw [bind_some' (rupto_eq c e' (by omega)), bind_some' (from_eq _ (by omega)), Option.bind_some, bind_some' hlk]
        dsimp only
        have hpre : (upto c e).length ≤ (upto c e').length := by
          rw [← upto_upto c (Int.le_of_lt hee)]; exact upto_len _ _
        have hs : lslice (upto c e') ((upto c e).length : Int) ((upto c e').length : Int) = some ((upto c e').drop (upto c e).length) := by
          rw [lslice_at (a := (upto c e).length) (b := (upto c e').length) rfl rfl hpre (Nat.le_refl _), List.take_length]
        rw [if_f (by simp), bind_some' (to_eq _ (by simp; omega)), bind_some' (rupto_eq c e (by omega)), bind_some' hs, bind_some' (csame_eq _ _ (by simp; omega) (fun v hv => by have := hvu v (List.mem_of_mem_drop hv); omega)), Option.bind_some, if_f (by simp), w64_eq (by omega)]
        rfl) (fun i e e' hi he h => by
        have hm : ((at_[i] % 4#8).toNat : Int) < 4 := by
          have := BitVec.toNat_umod (x := at_[i]) (y := 4#8)
          rw [this]; have e4 : (4#8).toNat = 4 := by decide
          rw [e4]; omega
        have := Sum.inl.inj h
        omega) (fun e _ => by
        simp only [rolodexlaw23_MonitorCut_L1]
        rw [if_f (by simp)])
      have h0' : loopO (fun (s : Int × Int × List (BitVec 8) × Int × List Ver) => rolodexlaw23_MonitorCut_L1 at_ c label s.1 s.2.1 s.2.2.1 s.2.2.2.1 s.2.2.2.2) FU (0, ((0 : Nat) : Int), label, 0, upto c 0) = _ := h0
      rw [upto_zero hf] at h0'
      have h0'' : loopO (fun (s : Int × Int × List (BitVec 8) × Int × List Ver) => rolodexlaw23_MonitorCut_L1 at_ c label s.1 s.2.1 s.2.2.1 s.2.2.2.1 s.2.2.2.2) FU (0, 0, label, 0, []) = _ := h0'
      have key : ∀ (l : List (BitVec 8)) (i : Nat) (e : Int), ∃ e', runL (fun _ e a => (.inl (e + (1 + ((a % 4#8).toNat : Int))) : Int ⊕ Bool)) i e l = .inl e' := by
        intro l
        induction l with
        | nil => intro i e; exact ⟨e, rfl⟩
        | cons f l ih => intro i e; exact ih (i + 1) _
      obtain ⟨e', hk⟩ := key at_ 0 0
      rw [bind_some' h0'', hk]
      dsimp only
      rw [bind_some' (epoch_eq _)]
      simp
    · rw [if_t (by simp [hf]), bind_some' awake23]
  · have htrue : ((!true || decide ((100 : Int) < (label.length : Int))) || !b || decide ((10 : Int) < (at_.length : Int))) = true := by
      by_cases h1 : label.length ≤ 100
      · by_cases h2 : b = true
        · have : ¬ at_.length ≤ 10 := fun h => hc ⟨h1, h2, h⟩
          simp [h2]; omega
        · simp [h2]
      · simp; omega
    rw [htrue, if_t (c := true = true) rfl, Option.bind_some, if_t (c := true = true) rfl, bind_some' awake23]
end Pu
end Go.Sl
