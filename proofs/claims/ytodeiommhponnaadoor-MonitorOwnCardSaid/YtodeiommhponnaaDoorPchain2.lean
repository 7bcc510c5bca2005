import Derived.Test.YtodeiommhponnaaDoorPchain
set_option linter.unusedSimpArgs false
set_option linter.unusedVariables false
namespace Go.Sl
namespace Pu
open Go.Sl Go.Sl.M
def ok (e : Int) (h : Hash) (i : Nat) (v : Ver) : Bool := decide (v.1 = (i : Int) + 1) && decide (e < v.2.1) && decide (v.2.1 < 2147483648) && decide (v.2.2.2.1 = h) && decide (v.2.2.2.2.length ≤ 64)
def fm (label : List (BitVec 8)) : Int → Hash → Nat → List Ver → Bool
  | _, _, _, [] => true
  | e, h, i, v :: l => ok e h i v && fm label v.2.1 (commit label v) (i + 1) l
def isl (label : List (BitVec 8)) : Bool := decide (1 ≤ label.length) && decide (label.length ≤ 32)
def formed (label : List (BitVec 8)) (l : List Ver) : Bool := isl label && decide (l ≠ []) && fm label 0 hz 0 l
theorem is_eq (label : List (BitVec 8)) : chain_is label = some (isl label) := by
  unfold chain_is isl
  rw [andE, Option.bind_some]
  congr 2 <;> exact decide_eq_decide.2 (by omega)
section
variable {label : List (BitVec 8)} (hl : label.length ≤ 1000000)
include hl
theorem formed_eq (l : List Ver) (hn : l.length ≤ 4000000000) : chain_Formed label l = some (formed label l) := by
  unfold chain_Formed formed
  rw [bind_some' (is_eq label), orE, Option.bind_some]
  by_cases hi : isl label = true ∧ l ≠ []
  · rw [if_f (by simp [hi.1, hi.2])]
    have h1 := loopO_run0 (f := fun (s : Int × Int × Hash) => chain_Formed_L1 l label s.1 s.2.1 s.2.2) l (fun i (s : Int × Hash) => (s.1, (i : Int), s.2)) (fun i s v => if ok s.1 s.2 i v = true then .inl (v.2.1, commit label v) else .inr false) (fun _ _ => True) (0, hz) (by omega) trivial (fun i s hi' _ => by
      simp only [chain_Formed_L1]
      rw [if_t (by simp; omega), bind_some' (lget_at rfl hi'), orE, Option.bind_some, orE, Option.bind_some, orE, Option.bind_some, orE, Option.bind_some, w64_eq (by omega)]
      have hy : (!decide (l[i].1 = (i : Int) + 1) || decide (l[i].2.1 ≤ s.1) || decide (2147483648 ≤ l[i].2.1) || !decide (l[i].2.2.2.1 = s.2) || decide ((64 : Int) < (l[i].2.2.2.2.length : Int))) = !ok s.1 s.2 i l[i] := by
        unfold ok
        rw [Bool.eq_iff_iff]
        by_cases hh : l[i].2.2.2.1 = s.2
        · simp [hh]; omega
        · simp [hh]
      rw [hy]
      by_cases ho : ok s.1 s.2 i l[i] = true
      · have h64 : l[i].2.2.2.2.length ≤ 1000000 := by
          unfold ok at ho; simp at ho; omega
        rw [if_f (by simp [ho]), bind_some' (commit_eq hl h64), if_pos ho]; rfl
      · rw [if_t (by simpa using ho), if_neg ho]) (fun _ _ _ _ _ _ => trivial) (fun s _ => by
      simp only [chain_Formed_L1]
      rw [if_f (by simp)])
    have h1' : loopO (fun (s : Int × Int × Hash) => chain_Formed_L1 l label s.1 s.2.1 s.2.2) FU (0, 0, Vector.replicate 32 0#8) = _ := h1
    rw [bind_some' h1']
    have key : ∀ (l : List Ver) (i : Nat) (s : Int × Hash), ∃ s', runL (fun i (s : Int × Hash) v => if ok s.1 s.2 i v = true then .inl (v.2.1, commit label v) else .inr false) i s l = (if fm label s.1 s.2 i l = true then .inl s' else .inr false : (Int × Hash) ⊕ Bool) := by
      intro l
      induction l with
      | nil => intro i s; exact ⟨s, rfl⟩
      | cons v l ih =>
        intro i s
        rw [runL]
        by_cases ho : ok s.1 s.2 i v = true
        · obtain ⟨s', h'⟩ := ih (i + 1) (v.2.1, commit label v)
          refine ⟨s', ?_⟩
          rw [if_pos ho]
          show runL _ (i + 1) _ _ = _
          rw [h']; simp [fm, ho]
        · exact ⟨s, by rw [if_neg ho, if_neg (by simp [fm, ho])]⟩
    obtain ⟨s', h2⟩ := key l 0 (0, hz)
    rw [h2]
    by_cases hf : fm label 0 hz 0 l = true
    · rw [if_pos hf]; simp [hi.1, hi.2, hf]
    · rw [if_neg hf]; simp [hf]
  · rw [if_t (by
      by_cases h1 : isl label = true
      · have : l = [] := by simpa [h1] using hi
        simp [this]
      · simp [h1])]
    have : (isl label && decide (l ≠ [])) = false := by
      rw [Bool.eq_false_iff]; simpa using hi
    rw [this]; rfl
theorem rformed_eq (l : List Ver) (hn : l.length ≤ 4000000000) : rolodexref14_Formed label l = some (formed label l) := by
  unfold rolodexref14_Formed formed
  rw [orE, Option.bind_some, orE, Option.bind_some]
  by_cases hi : isl label = true ∧ l ≠ []
  · have hi1 := hi.1
    unfold isl at hi1
    simp only [Bool.and_eq_true, decide_eq_true_eq] at hi1
    rw [if_f (by
      have : l.length ≠ 0 := by simpa using hi.2
      simp only [Bool.or_eq_true, decide_eq_true_eq]; omega)]
    have h1 := loopO_run0 (f := fun (s : Int) => rolodexref14_Formed_L1 l label s) l (fun i (s : Int × Hash) => (i : Int)) (fun i s v => if ok s.1 s.2 i v = true then .inl (v.2.1, commit label v) else .inr false)
      (fun i s => 0 ≤ s.1 ∧ (i = 0 → s = (0, hz)) ∧ ∀ k (hk : k < l.length), i = k + 1 → s = (l[k].2.1, commit label l[k]) ∧ 1 ≤ s.1 ∧ l[k].2.2.2.2.length ≤ 64) (0, hz) (by omega) ⟨by decide, fun _ => rfl, fun k _ e => by omega⟩ (fun i s hi' hI => by
      simp only [rolodexref14_Formed_L1]
      rw [if_t (by simp; omega), bind_some' (lget_at rfl hi'), orE, Option.bind_some, orE, Option.bind_some, orE, Option.bind_some, w64_eq (by omega)]
      obtain ⟨h0, hz', hk⟩ := hI
      by_cases hb : (!decide (l[i].1 = (i : Int) + 1) || decide (l[i].2.1 < 1) || decide (2147483647 < l[i].2.1) || decide ((64 : Int) < (l[i].2.2.2.2.length : Int))) = true
      · rw [if_t hb, if_neg]
        unfold ok
        simp only [Bool.or_eq_true, Bool.not_eq_true', decide_eq_true_eq, decide_eq_false_iff_not] at hb
        simp only [Bool.and_eq_true, decide_eq_true_eq]
        omega
      · rw [if_f hb]
        simp only [Bool.or_eq_true, Bool.not_eq_true', decide_eq_true_eq, decide_eq_false_iff_not, not_or, Decidable.not_not] at hb
        match i, hi', hz', hk, hb with
        | 0, hi', hz', hk, hb =>
          have hs := hz' rfl
          subst hs
          rw [if_t (by simp), Option.bind_some, if_f (c := decide ((0 : Int) < ((0 : Nat) : Int)) = true) (by simp), Option.bind_some]
          by_cases hh : l[0].2.2.2.1 = hz
          · rw [if_f (by simpa [hz] using hh), if_f (by simp), if_pos (by unfold ok; simp [hh]; omega)]; rfl
          · rw [if_t (by simpa [hz] using hh), if_neg (by unfold ok; simp [hh])]
        | i + 1, hi', hz', hk, hb =>
          have hi2 : i < l.length := by omega
          obtain ⟨hs, hs1, hs2⟩ := hk i hi2 rfl
          have hg := lget_at (l := l) (i := w64 (((i + 1 : Nat) : Int) - 1)) (k := i) (by rw [w64_eq (by omega)]; omega) hi2
          rw [if_f (c := decide (((i + 1 : Nat) : Int) = 0) = true) (by simp only [decide_eq_true_eq]; omega), Option.bind_some, if_f (by simp), if_t (c := decide ((0 : Int) < ((i + 1 : Nat) : Int)) = true) (by simp only [decide_eq_true_eq]; omega), bind_some' hg]
          have hc : (if (decide (l[i + 1].2.1 ≤ l[i].2.1)) = true then some true else Option.bind (lget l (w64 (((i + 1 : Nat) : Int) - 1))) fun x3 => Option.bind (rolodexref14_Commit label x3) fun r1 => some (!decide (l[i + 1].2.2.2.1 = r1))) = some (decide (l[i + 1].2.1 ≤ l[i].2.1) || !decide (l[i + 1].2.2.2.1 = commit label l[i])) :=
            or_o fun _ => by rw [bind_some' hg, bind_some' (rcommit_eq hl (by omega))]
          rw [bind_some' hc, Option.bind_some]
          subst hs
          by_cases hh : l[i + 1].2.2.2.1 = commit label l[i]
          · by_cases he : l[i + 1].2.1 ≤ l[i].2.1
            · rw [if_t (by simp [he]), if_neg (by unfold ok; simp; omega)]
            · rw [if_f (by simp [he, hh]), if_pos (by unfold ok; simp [hh]; omega)]; rfl
          · rw [if_t (by simp [hh]), if_neg (by unfold ok; simp [hh])]) (fun i s s' hi' hI hs => by
      by_cases ho : ok s.1 s.2 i l[i] = true
      · rw [if_pos ho] at hs
        have hs := Sum.inl.inj hs
        have h0 := hI.1
        have : 1 ≤ l[i].2.1 ∧ l[i].2.2.2.2.length ≤ 64 := by unfold ok at ho; simp at ho; omega
        refine ⟨by rw [← hs]; show 0 ≤ l[i].2.1; omega, fun h => by omega, fun k hk e => ?_⟩
        have : k = i := by omega
        subst this
        exact ⟨hs.symm, by rw [← hs]; exact this.1, this.2⟩
      · rw [if_neg ho] at hs; cases hs) (fun s _ => by
      simp only [rolodexref14_Formed_L1]
      rw [if_f (by simp)])
    have h1' : loopO (fun (s : Int) => rolodexref14_Formed_L1 l label s) FU 0 = _ := h1
    rw [bind_some' h1']
    have key : ∀ (l : List Ver) (i : Nat) (s : Int × Hash), ∃ s', runL (fun i (s : Int × Hash) v => if ok s.1 s.2 i v = true then .inl (v.2.1, commit label v) else .inr false) i s l = (if fm label s.1 s.2 i l = true then .inl s' else .inr false : (Int × Hash) ⊕ Bool) := by
      intro l
      induction l with
      | nil => intro i s; exact ⟨s, rfl⟩
      | cons v l ih =>
        intro i s
        rw [runL]
        by_cases ho : ok s.1 s.2 i v = true
        · obtain ⟨s', h'⟩ := ih (i + 1) (v.2.1, commit label v)
          refine ⟨s', ?_⟩
          rw [if_pos ho]
          show runL _ (i + 1) _ _ = _
          rw [h']; simp [fm, ho]
        · exact ⟨s, by rw [if_neg ho, if_neg (by simp [fm, ho])]⟩
    obtain ⟨s', h2⟩ := key l 0 (0, hz)
    rw [h2]
    by_cases hf : fm label 0 hz 0 l = true
    · rw [if_pos hf]; simp [hi.1, hi.2, hf]
    · rw [if_neg hf]; simp [hf]
  · rw [if_t (by
      by_cases h1 : isl label = true
      · have : l = [] := by simpa [h1] using hi
        simp [this]
      · have h2 : ¬ (1 ≤ label.length ∧ label.length ≤ 32) := fun h => h1 (by unfold isl; simp only [Bool.and_eq_true, decide_eq_true_eq]; exact h)
        simp only [Bool.or_eq_true, decide_eq_true_eq]; omega)]
    have : (isl label && decide (l ≠ [])) = false := by
      rw [Bool.eq_false_iff]; simpa using hi
    rw [this]; rfl
end
theorem from_eq (l : List Ver) (hn : l.length ≤ 4000000000) : rolodexlaw14_From l = some l := by
  unfold rolodexlaw14_From
  have h1 := mapscan (f := fun (s : Int × List Ver) => rolodexlaw14_From_L1 l s.1 s.2) l id (by omega) (fun i hi acc ha => by
    simp only [rolodexlaw14_From_L1]
    rw [if_t (by simp; omega), bind_some' (lget_at rfl hi), if_t (by simp [AP]; omega), w64_eq (by omega)]; rfl) (fun acc => by
    simp only [rolodexlaw14_From_L1]
    rw [if_f (by simp)])
  rw [bind_some' h1]; simp
theorem to_eq (l : List Ver) (hn : l.length ≤ 4000000000) : rolodexlaw14_To l = some l := from_eq l hn
theorem one_eq (a b : Ver) (ha : a.2.2.2.2.length ≤ 4294967296) : rolodexref14_One a b = some (decide (a = b)) := by
  unfold rolodexref14_One
  rw [andE, Option.bind_some, andE, Option.bind_some, andE, Option.bind_some, bind_some' (same_eq _ _ ha), andE, Option.bind_some]
  obtain ⟨a1, a2, a3, a4, a5⟩ := a
  obtain ⟨b1, b2, b3, b4, b5⟩ := b
  simp [Prod.mk.injEq, Bool.decide_and, Bool.and_assoc]
theorem csame_eq (a b : List Ver) (hn : a.length ≤ 4000000000) (ha : ∀ v ∈ a, v.2.2.2.2.length ≤ 4294967296) : rolodexref14_Same a b = some (decide (a = b)) := by
  unfold rolodexref14_Same
  by_cases hl : a.length = b.length
  · rw [if_f (by simp [hl])]
    have h1 := eqscan (f := fun (s : Int) => rolodexref14_Same_L1 a b s) a b hl (by omega) (fun i h1 h2 => by
      simp only [rolodexref14_Same_L1]
      rw [if_t (by simp; omega), bind_some' (lget_at rfl h1), bind_some' (lget_at rfl h2), bind_some' (one_eq _ _ (ha _ (List.getElem_mem h1))), w64_eq (by omega)]
      by_cases e : a[i] = b[i]
      · rw [if_f (by simp [e]), if_pos e]
      · rw [if_t (by simp [e]), if_neg e]) (by
      simp only [rolodexref14_Same_L1]
      rw [if_f (by simp)])
    rw [bind_some' h1]
    by_cases e : a = b
    · rw [if_pos e]; simp [e]
    · rw [if_neg e]; simp [e]
  · rw [if_t (by simp; omega)]
    have : a ≠ b := fun e => hl (by rw [e])
    simp [this]
def FewV (l : List Ver) (n : Nat) : Prop := l.length ≤ n ∧ ∀ v ∈ l, v.2.2.2.2.length ≤ 200
theorem cfew_eq (l : List Ver) (n : Nat) (hn : n ≤ 100) : ∃ b, rolodexref14_Few l n = some b ∧ (b = true → FewV l n) := by
  unfold rolodexref14_Few
  have h1 := allscan (f := fun (s : Int) => rolodexref14_Few_L1 l s) (l.take 100) (fun v => decide (v.2.2.2.2.length ≤ 200)) (by simp; omega) (fun i h1 => by
    simp only [rolodexref14_Few_L1]
    have h2 : i < l.length := by simp at h1; omega
    have h3 : i < 100 := by simp at h1; omega
    rw [if_t (by simp; omega), Option.bind_some, if_t (by simp; omega), bind_some' (lget_at rfl h2), w64_eq (by omega), List.getElem_take]
    by_cases e : l[i].2.2.2.2.length ≤ 200
    · rw [if_f (by simp; omega), if_pos (by simpa using e)]
    · rw [if_t (by simp; omega), if_neg (by simpa using e)]) (by
    simp only [rolodexref14_Few_L1]
    have : ¬ ((((l.take 100).length : Int) < (l.length : Int)) ∧ (((l.take 100).length : Int) < 100)) := by simp; omega
    by_cases e : ((l.take 100).length : Int) < (l.length : Int)
    · rw [if_t (by simpa using e), Option.bind_some, if_f (by simp only [decide_eq_true_eq]; omega)]
    · rw [if_f (by simp only [decide_eq_true_eq]; omega), Option.bind_some, if_f (by simp)])
  rw [bind_some' h1]
  by_cases e : (l.take 100).all (fun v => decide (v.2.2.2.2.length ≤ 200)) = true
  · rw [if_pos e]
    refine ⟨_, rfl, fun hb => ?_⟩
    have hb' : l.length ≤ n := by simpa using hb
    refine ⟨hb', fun v hv => ?_⟩
    rw [List.take_of_length_le (by omega)] at e
    simpa using List.all_eq_true.1 e v hv
  · rw [if_neg e]; exact ⟨false, rfl, fun h => by cases h⟩
def upto (l : List Ver) (e : Int) : List Ver := l.takeWhile fun v => decide (v.2.1 ≤ e)
theorem upto_eq (l : List Ver) (e : Int) (hn : l.length ≤ 4000000000) : chain_Upto l e = some (upto l e) := by
  unfold chain_Upto
  have h1 := takescan (f := fun (s : Int) => chain_Upto_L1 l e s) l (fun v => decide (v.2.1 ≤ e)) (by omega) (fun i hi => by
    simp only [chain_Upto_L1]
    rw [if_t (by simp; omega), bind_some' (lget_at rfl hi), Option.bind_some, w64_eq (by omega)]
    split <;> rfl) (by
    simp only [chain_Upto_L1]
    rw [if_f (by simp), Option.bind_some, if_f (by simp)])
  have hlen : (upto l e).length ≤ l.length := (List.takeWhile_prefix _).length_le
  have h2 : lslice l 0 (((upto l e).length : Nat) : Int) = some ((l.take (upto l e).length).drop 0) := lslice_at (a := 0) (b := (upto l e).length) rfl rfl (by omega) hlen
  have h1' : loopS (fun (s : Int) => chain_Upto_L1 l e s) FU 0 = some (((upto l e).length : Nat) : Int) := h1
  rw [bind_some' h1', bind_some' h2]
  have hp : (l.take (upto l e).length).drop 0 = upto l e := by
    rw [List.drop_zero]; exact ((List.prefix_iff_eq_take.1 (List.takeWhile_prefix _)).symm)
  rw [hp]
  unfold slices_Clone_chain_Version_chain_Version
  rw [if_t (by simp [AP]; omega)]; simp
theorem last_at {l : List Ver} (hn : l.length ≤ 4000000000) (h : l ≠ []) : lget l (w64 ((l.length : Int) - 1)) = some (l.getLast h) := by
  have h0 : 0 < l.length := List.length_pos_iff.2 h
  rw [w64_eq (by omega), lget_at (k := l.length - 1) (by omega) (by omega), List.getLast_eq_getElem]
theorem fm_val (label : List (BitVec 8)) : ∀ (l : List Ver) (e : Int) (h : Hash) (i : Nat), fm label e h i l = true → ∀ v ∈ l, v.2.2.2.2.length ≤ 64
  | [], _, _, _, _, v, hv => by cases hv
  | x :: l, e, h, i, hf, v, hv => by
    simp only [fm, Bool.and_eq_true] at hf
    rcases List.mem_cons.1 hv with rfl | hv
    · have := hf.1; unfold ok at this; simp only [Bool.and_eq_true, decide_eq_true_eq] at this; exact this.2
    · exact fm_val label l _ _ _ hf.2 v hv
theorem formed_val {label : List (BitVec 8)} {l : List Ver} (h : formed label l = true) : l ≠ [] ∧ ∀ v ∈ l, v.2.2.2.2.length ≤ 64 := by
  unfold formed at h; simp only [Bool.and_eq_true, decide_eq_true_eq] at h
  exact ⟨h.1.2, fm_val label l _ _ _ h.2⟩
end Pu
end Go.Sl
