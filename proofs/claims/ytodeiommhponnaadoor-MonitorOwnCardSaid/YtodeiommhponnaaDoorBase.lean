/-! The words of the models: plain Lean, no program in sight. -/
set_option linter.unusedVariables false
namespace Go.Sl
/-- int's arithmetic wraps. -/
def w64 (n : Int) : Int := (n + 9223372036854775808) % 18446744073709551616 - 9223372036854775808
theorem w64_eq {n : Int} (h : -9223372036854775808 ≤ n ∧ n < 9223372036854775808) : w64 n = n := by unfold w64; omega
def ishr (p : Int) (n : Int) : Int := p.fdiv (2 ^ (min n.toNat 64))
def lget {α : Type} (l : List α) (i : Int) : Option α := if 0 ≤ i then l[i.toNat]? else none
def vget {α : Type} {n : Nat} (v : Vector α n) (i : Int) : Option α := if 0 ≤ i then v[i.toNat]? else none
def lslice {α : Type} (l : List α) (lo hi : Int) : Option (List α) := if 0 ≤ lo ∧ lo ≤ hi ∧ hi ≤ l.length then some ((l.take hi.toNat).drop lo.toNat) else none
/-- What a copy into an array leaves. -/
def vput {α : Type} {n : Nat} (v : Vector α n) (lo : Nat) (l : List α) : Vector α n :=
  if h : lo + l.length ≤ n then ⟨(v.toList.take lo ++ l ++ v.toList.drop (lo + l.length)).toArray, by simp; omega⟩ else v
theorem vput_toList {α : Type} {n : Nat} (v : Vector α n) (lo : Nat) (l : List α) (h : lo + l.length ≤ n) : (vput v lo l).toList = v.toList.take lo ++ l ++ v.toList.drop (lo + l.length) := by
  unfold vput; rw [dif_pos h]; simp
inductive LR (σ ρ : Type) where
  | next (s : σ)
  | brk (s : σ)
  | ret (r : ρ)
def loopO {σ ρ : Type} (f : σ → Option (LR σ ρ)) : Nat → σ → Option (σ ⊕ ρ)
  | 0, _ => none
  | n + 1, s => match f s with
    | none => none
    | some (.next s') => loopO f n s'
    | some (.brk s') => some (.inl s')
    | some (.ret r) => some (.inr r)
/-- A loop that never returns. -/
def loopS {σ : Type} (f : σ → Option (LR σ Empty)) (n : Nat) (s : σ) : Option σ :=
  match loopO f n s with
  | none => none
  | some (.inl s') => some s'
  | some (.inr e) => e.elim
theorem loopS_some {σ : Type} {f : σ → Option (LR σ Empty)} {n : Nat} {s s' : σ} (h : loopS f n s = some s') : ∃ o, loopO f n s = some o ∧ o = .inl s' := by
  unfold loopS at h
  split at h
  · cases h
  · rename_i s2 he; cases h; exact ⟨_, he, rfl⟩
  · rename_i e _; exact e.elim
/-- How many rounds a loop may go: more than any goes. -/
def FU : Nat := 4611686018427387904
/-- Room for what an append makes. -/
def AP : Nat := 4294967296
theorem bind_some {α β : Type} {o : Option α} {f : α → Option β} {r : β} (h : Option.bind o f = some r) : ∃ x, o = some x ∧ f x = some r := Option.bind_eq_some_iff.1 h
theorem grd_some {α : Type} {c : Prop} [Decidable c] {x : Option α} {r : α} (h : (if c then x else none) = some r) : c ∧ x = some r := by
  by_cases hc : c
  · rw [if_pos hc] at h; exact ⟨hc, h⟩
  · rw [if_neg hc] at h; cases h
theorem bt {α : Type} {b : Bool} {x y r : α} (hb : b = true) (h : (if b = true then x else y) = r) : x = r := by rwa [if_pos hb] at h
theorem bf {α : Type} {b : Bool} {x y r : α} (hb : b = false) (h : (if b = true then x else y) = r) : y = r := by rwa [if_neg (by rw [hb]; decide)] at h
theorem lget_some {α : Type} {l : List α} {i : Int} {x : α} (h : lget l i = some x) : 0 ≤ i ∧ ∃ hi : i.toNat < l.length, l[i.toNat] = x := by
  unfold lget at h
  split at h
  · rename_i h0; obtain ⟨h1, h2⟩ := List.getElem?_eq_some_iff.1 h; exact ⟨h0, h1, h2⟩
  · cases h
theorem vget_some {α : Type} {n : Nat} {v : Vector α n} {i : Int} {x : α} (h : vget v i = some x) : 0 ≤ i ∧ ∃ hi : i.toNat < n, v[i.toNat] = x := by
  unfold vget at h
  split at h
  · rename_i h0; obtain ⟨h1, h2⟩ := Vector.getElem?_eq_some_iff.1 h; exact ⟨h0, h1, h2⟩
  · cases h
theorem lslice_some {α : Type} {l r : List α} {lo hi : Int} (h : lslice l lo hi = some r) : 0 ≤ lo ∧ lo ≤ hi ∧ hi ≤ l.length ∧ (l.take hi.toNat).drop lo.toNat = r := by
  obtain ⟨⟨h0, h1, h2⟩, h3⟩ := grd_some h
  exact ⟨h0, h1, h2, Option.some.inj h3⟩
end Go.Sl
