import Derived.Test.YtodeiommhponnaaDoorPmon
set_option linter.unusedSimpArgs false
set_option linter.unusedVariables false
set_option linter.unusedSectionVars false
namespace Go.Sl
namespace Pu
open Go.Sl Go.Sl.M
/-! ## A chain, looked at by its first epochs -/
theorem fm_upto (label : List (BitVec 8)) (E : Int) : ∀ (l : List Ver) (e : Int) (h : Hash) (i : Nat), fm label e h i l = true → fm label e h i (upto l E) = true
  | [], _, _, _, _ => rfl
  | v :: l, e, h, i, hf => by
    simp only [fm, Bool.and_eq_true] at hf
    unfold upto
    rw [List.takeWhile_cons]
    by_cases hv : v.2.1 ≤ E
    · rw [if_pos (by simpa using hv)]
      simp only [fm, Bool.and_eq_true]
      exact ⟨hf.1, fm_upto label E l _ _ _ hf.2⟩
    · rw [if_neg (by simpa using hv)]; rfl
theorem upto_upto (l : List Ver) {a b : Int} (h : a ≤ b) : upto (upto l b) a = upto l a := by
  unfold upto
  induction l with
  | nil => rfl
  | cons v l ih =>
    rw [List.takeWhile_cons (a := v) (l := l) (p := fun v : Ver => decide (v.2.1 ≤ b)), List.takeWhile_cons (a := v) (l := l) (p := fun v : Ver => decide (v.2.1 ≤ a))]
    by_cases h1 : v.2.1 ≤ b
    · rw [if_pos (by simpa using h1), List.takeWhile_cons]
      by_cases h2 : v.2.1 ≤ a
      · rw [if_pos (by simpa using h2), if_pos (by simpa using h2), ih]
      · rw [if_neg (by simpa using h2), if_neg (by simpa using h2)]
    · rw [if_neg (by simpa using h1), if_neg (by simp; omega)]; rfl
theorem upto_le {l : List Ver} {e : Int} : ∀ v ∈ upto l e, v.2.1 ≤ e := by
  unfold upto
  induction l with
  | nil => intro v hv; cases hv
  | cons x l ih =>
    intro v hv
    rw [List.takeWhile_cons] at hv
    by_cases h : x.2.1 ≤ e
    · rw [if_pos (by simpa using h)] at hv
      rcases List.mem_cons.1 hv with rfl | hv
      · exact h
      · exact ih v hv
    · rw [if_neg (by simpa using h)] at hv; cases hv
theorem lastE_le {l : List Ver} {e0 e : Int} (h0 : e0 ≤ e) (h : ∀ v ∈ l, v.2.1 ≤ e) : lastE l e0 ≤ e := by
  by_cases hn : l = []
  · subst hn; exact h0
  · unfold lastE; rw [List.getLast?_eq_some_getLast hn]; exact h _ (List.getLast_mem hn)
theorem okF_upto {label : List (BitVec 8)} {c : List Ver} {e : Int} (hf : formed label c = true) (he : 0 ≤ e) : okF label (upto c e) e = true := by
  unfold okF
  by_cases h0 : upto c e = []
  · simp [h0]
  · have hc : c ≠ [] := fun h => h0 (by rw [h]; rfl)
    rw [formed_ne h0]
    rw [formed_ne hc] at hf
    simp only [Bool.and_eq_true] at hf
    simp only [Bool.or_eq_true, decide_eq_true_eq, Bool.and_eq_true]
    exact .inr ⟨⟨hf.1, fm_upto label e c _ _ _ hf.2⟩, lastE_le he upto_le⟩
theorem upto_zero {label : List (BitVec 8)} {c : List Ver} (hf : formed label c = true) : upto c 0 = [] := by
  cases c with
  | nil => rfl
  | cons v c =>
    rw [formed_ne (by simp)] at hf
    simp only [Bool.and_eq_true] at hf
    have := (fm_ep label (v :: c) 0 hz 0 hf.2 v (by simp)).1
    unfold upto
    rw [List.takeWhile_cons, if_neg (by simp; omega)]
theorem look_cut {label : List (BitVec 8)} {c : List Ver} {e e' : Int} (hf : formed label c = true) (h0 : 0 ≤ e) (he : e < e') :
    look (label, e, upto c e) label e' (upto c e') = ((label, e', upto c e'), (upto c e').drop (upto c e).length, 0) := by
  unfold look
  dsimp only
  have n1 : ¬ (label ≠ label ∨ e' < 1) := by rintro (h | h); exact h rfl; omega
  have n2 : ¬ okF label (upto c e') e' = false := by rw [okF_upto hf (by omega)]; decide
  have n3 : ¬ e' < e := by omega
  have n4 : ¬ upto (upto c e') e ≠ upto c e := by rw [upto_upto c (by omega)]; simp
  rw [if_neg n1, if_neg n2, if_neg n3, if_neg n4, upto_upto c (Int.le_of_lt he)]
end Pu
end Go.Sl
