import Derived.Test.YtheldkljmefbaaaPsha
set_option linter.unusedSimpArgs false
set_option linter.unusedVariables false
namespace Go.Sl
/-- A loop that looks for the first place where something is told. -/
theorem loopO_scan {τ ρ : Type} {f : τ → Option (LR τ ρ)} (en : Nat → τ) (n : Nat) (r : Nat → Option ρ) (h : ∀ i, i < n → f (en i) = some (match r i with | some x => .ret x | none => .next (en (i + 1)))) (he : f (en n) = some (.brk (en n))) (hn : n ≤ 9000000000) :
    loopO f FU (en 0) = some (match (List.range n).findSome? r with | some x => .inr x | none => .inl (en n)) := by
  have key : ∀ (d i fuel : Nat), i + d = n → d < fuel → loopO f fuel (en i) = some (match ((List.range' i d).findSome? r) with | some x => .inr x | none => .inl (en n)) := by
    intro d
    induction d with
    | zero =>
      intro i fuel hi hf
      cases fuel with
      | zero => omega
      | succ fuel =>
        have : i = n := by omega
        subst this
        rw [loopO_brk he]; rfl
    | succ d ih =>
      intro i fuel hi hf
      cases fuel with
      | zero => omega
      | succ fuel =>
        have h1 := h i (by omega)
        rw [List.range'_succ, List.findSome?_cons]
        cases hr : r i with
        | some x => rw [hr] at h1; rw [loopO_ret h1]
        | none => rw [hr] at h1; rw [loopO_next h1, ih (i + 1) fuel (by omega) (by omega)]
  have := key n 0 FU (by omega) (fu_lt hn)
  rw [← List.range_eq_range'] at this
  exact this
theorem find_none {ρ : Type} {n : Nat} {r : Nat → Option ρ} (h : ∀ i, i < n → r i = none) : (List.range n).findSome? r = none := by
  rw [List.findSome?_eq_none_iff]
  intro i hi; exact h i (List.mem_range.1 hi)
/-- Where it can be told but one thing. -/
theorem find_some {ρ : Type} {n : Nat} {r : Nat → Option ρ} {x : ρ} (h : ∀ i, i < n → r i = none ∨ r i = some x) (hx : ∃ i, i < n ∧ r i ≠ none) : (List.range n).findSome? r = some x := by
  cases hf : (List.range n).findSome? r with
  | none =>
    rw [List.findSome?_eq_none_iff] at hf
    obtain ⟨i, hi, hr⟩ := hx
    exact absurd (hf i (List.mem_range.2 hi)) hr
  | some y =>
    obtain ⟨i, hi, hr⟩ := List.exists_of_findSome?_eq_some hf
    rcases h i (List.mem_range.1 hi) with h | h
    · rw [h] at hr; cases hr
    · rw [h] at hr; exact hr.symm
namespace Pu
open Go.Sl Go.Sl.M
theorem same_eq (a b : List (BitVec 8)) (ha : a.length ≤ 4294967296) : rolodexref01_Same a b = some (decide (a = b)) := by
  unfold rolodexref01_Same
  by_cases hl : a.length = b.length
  · rw [if_f (by simp [hl])]
    have h1 := loopO_scan (f := fun (s : Int) => rolodexref01_Same_L1 a b s) (fun i => (i : Int)) a.length (fun i => if a[i]? = b[i]? then none else some false) (fun i hi => by
      simp only [rolodexref01_Same_L1]
      rw [if_t (by simp; omega), bind_some' (lget_at rfl hi), bind_some' (lget_at rfl (by omega)), w64_eq (by omega)]
      rw [List.getElem?_eq_getElem hi, List.getElem?_eq_getElem (show i < b.length by omega)]
      by_cases he : a[i] = b[i]
      · rw [if_f (by simp [he]), if_pos (by rw [he])]; rfl
      · rw [if_t (by simp [he]), if_neg (by simpa using he)]) (by
      simp only [rolodexref01_Same_L1]
      rw [if_f (by simp)]) (by omega)
    have h1' : loopO (fun (s : Int) => rolodexref01_Same_L1 a b s) FU (0 : Int) = _ := h1
    rw [bind_some' h1']
    by_cases hab : a = b
    · rw [find_none (fun i hi => by rw [hab]; simp)]
      simp [hab]
    · rw [find_some (x := false) (fun i hi => by split <;> simp) (by
        apply Decidable.byContradiction
        intro hc
        apply hab
        apply List.ext_getElem? 
        intro i
        by_cases hi : i < a.length
        · apply Decidable.byContradiction
          intro hn
          exact hc ⟨i, hi, by rw [if_neg hn]; simp⟩
        · rw [List.getElem?_eq_none (by omega), List.getElem?_eq_none (by omega)])]
      simp [hab]
  · rw [if_t (by simp; omega)]
    have : a ≠ b := fun e => hl (by rw [e])
    simp [this]
end Pu
end Go.Sl
