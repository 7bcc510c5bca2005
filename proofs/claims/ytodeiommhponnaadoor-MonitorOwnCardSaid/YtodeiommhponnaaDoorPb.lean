import Derived.Test.YtodeiommhponnaaDoorBase
set_option linter.unusedSimpArgs false
set_option linter.unusedVariables false
/-! What the plain proofs lean on: loops that count, loops that go through a list, reading and cutting. -/
namespace Go.Sl
theorem fu_lt {n : Nat} (h : n ≤ 9000000000) : n < FU := by unfold FU; omega
/-! ## Loops -/
theorem loopO_next {σ ρ : Type} {f : σ → Option (LR σ ρ)} {n : Nat} {s s' : σ} (h : f s = some (.next s')) : loopO f (n + 1) s = loopO f n s' := by
  show (match f s with | none => none | some (.next s') => loopO f n s' | some (.brk s') => some (.inl s') | some (.ret r) => some (.inr r)) = _
  rw [h]
theorem loopO_brk {σ ρ : Type} {f : σ → Option (LR σ ρ)} {n : Nat} {s s' : σ} (h : f s = some (.brk s')) : loopO f (n + 1) s = some (.inl s') := by
  show (match f s with | none => none | some (.next s') => loopO f n s' | some (.brk s') => some (.inl s') | some (.ret r) => some (.inr r)) = _
  rw [h]
theorem loopO_ret {σ ρ : Type} {f : σ → Option (LR σ ρ)} {n : Nat} {s : σ} {r : ρ} (h : f s = some (.ret r)) : loopO f (n + 1) s = some (.inr r) := by
  show (match f s with | none => none | some (.next s') => loopO f n s' | some (.brk s') => some (.inl s') | some (.ret r) => some (.inr r)) = _
  rw [h]
/-- By an invariant and a measure. -/
theorem loopO_inv {σ ρ : Type} {f : σ → Option (LR σ ρ)} (I : σ → Prop) (μ : σ → Nat) (Q : σ ⊕ ρ → Prop)
    (h : ∀ s, I s → (∃ s', f s = some (.next s') ∧ I s' ∧ μ s' < μ s) ∨ (∃ s', f s = some (.brk s') ∧ Q (.inl s')) ∨ ∃ r, f s = some (.ret r) ∧ Q (.inr r)) :
    ∀ (n : Nat) (s : σ), I s → μ s < n → ∃ o, loopO f n s = some o ∧ Q o
  | 0, s, _, hn => by omega
  | n + 1, s, hI, hn => by
    rcases h s hI with ⟨s', e, hI', hm⟩ | ⟨s', e, hq⟩ | ⟨r, e, hq⟩
    · rw [loopO_next e]
      exact loopO_inv I μ Q h n s' hI' (by omega)
    · exact ⟨_, loopO_brk e, hq⟩
    · exact ⟨_, loopO_ret e, hq⟩
theorem loopS_inv {σ : Type} {f : σ → Option (LR σ Empty)} (I : σ → Prop) (μ : σ → Nat) (Q : σ → Prop)
    (h : ∀ s, I s → (∃ s', f s = some (.next s') ∧ I s' ∧ μ s' < μ s) ∨ ∃ s', f s = some (.brk s') ∧ Q s') (n : Nat) (s : σ) (hI : I s) (hn : μ s < n) : ∃ s', loopS f n s = some s' ∧ Q s' := by
  obtain ⟨o, ho, hq⟩ := loopO_inv I μ (fun o => match o with | .inl s => Q s | .inr e => e.elim) (fun s hs => (h s hs).elim .inl (fun h => .inr (.inl h))) n s hI hn
  unfold loopS
  rw [ho]
  cases o with
  | inl s' => exact ⟨s', rfl, hq⟩
  | inr e => exact e.elim
theorem loopS_next {σ : Type} {f : σ → Option (LR σ Empty)} {n : Nat} {s s' : σ} (h : f s = some (.next s')) : loopS f (n + 1) s = loopS f n s' := by
  unfold loopS; rw [loopO_next h]
theorem loopS_brk {σ : Type} {f : σ → Option (LR σ Empty)} {n : Nat} {s s' : σ} (h : f s = some (.brk s')) : loopS f (n + 1) s = some s' := by
  unfold loopS; rw [loopO_brk h]
def foldN {σ : Type} (step : Nat → σ → σ) : Nat → Nat → σ → σ
  | _, 0, s => s
  | i, n + 1, s => foldN step (i + 1) n (step i s)
theorem foldN_succ {σ : Type} (step : Nat → σ → σ) : ∀ (n i : Nat) (s : σ), foldN step i (n + 1) s = step (i + n) (foldN step i n s)
  | 0, i, s => rfl
  | n + 1, i, s => by
    show foldN step (i + 1) (n + 1) (step i s) = step (i + (n + 1)) (foldN step (i + 1) n (step i s))
    rw [foldN_succ step n (i + 1), show i + 1 + n = i + (n + 1) by omega]
theorem foldN_add {σ : Type} (step : Nat → σ → σ) : ∀ (n m i : Nat) (s : σ), foldN step i (n + m) s = foldN step (i + n) m (foldN step i n s)
  | 0, m, i, s => by simp [foldN]
  | n + 1, m, i, s => by
    rw [show n + 1 + m = (n + m) + 1 by omega]
    show foldN step (i + 1) (n + m) (step i s) = foldN step (i + (n + 1)) m (foldN step (i + 1) n (step i s))
    rw [foldN_add step n m (i + 1), show i + 1 + n = i + (n + 1) by omega]
theorem foldN_congr {σ : Type} {f g : Nat → σ → σ} : ∀ (n i : Nat) (s : σ), (∀ j, i ≤ j → j < i + n → ∀ s, f j s = g j s) → foldN f i n s = foldN g i n s
  | 0, _, _, _ => rfl
  | n + 1, i, s, h => by
    show foldN f (i + 1) n (f i s) = foldN g (i + 1) n (g i s)
    rw [h i (Nat.le_refl _) (by omega)]
    exact foldN_congr n (i + 1) _ fun j h1 h2 => h j (by omega) (by omega)
/-- A loop that counts. -/
theorem loopS_cnt {τ σ : Type} {f : τ → Option (LR τ Empty)} (en : Nat → σ → τ) (step : Nat → σ → σ) (lo hi : Nat)
    (h : ∀ i s, lo ≤ i → i < hi → f (en i s) = some (.next (en (i + 1) (step i s)))) (he : ∀ s, f (en hi s) = some (.brk (en hi s))) :
    ∀ (n : Nat) (s : σ), lo ≤ hi → hi - lo < n → loopS f n (en lo s) = some (en hi (foldN step lo (hi - lo) s)) := by
  have key : ∀ (d i n : Nat) (s : σ), lo ≤ i → i + d = hi → d < n → loopS f n (en i s) = some (en hi (foldN step i d s)) := by
    intro d
    induction d with
    | zero =>
      intro i n s hl hd hn
      cases n with
      | zero => omega
      | succ n =>
        have : i = hi := by omega
        subst this
        exact loopS_brk (he s)
    | succ d ih =>
      intro i n s hl hd hn
      cases n with
      | zero => omega
      | succ n =>
        rw [loopS_next (h i s hl (by omega))]
        exact ih (i + 1) n (step i s) (by omega) (by omega) (by omega)
  intro n s hle hn
  exact key (hi - lo) lo n s (Nat.le_refl _) (by omega) hn
/-! ## Reading and cutting -/
section
variable {α β : Type}
theorem lget_at {l : List α} {i : Int} {k : Nat} (hi : i = (k : Int)) (h : k < l.length) : lget l i = some l[k] := by
  subst hi
  unfold lget
  rw [if_pos (by omega)]
  simp [h]
theorem vget_at {n : Nat} {v : Vector α n} {i : Int} {k : Nat} (hi : i = (k : Int)) (h : k < n) : vget v i = some v[k] := by
  subst hi
  unfold vget
  rw [if_pos (by omega)]
  simp [h]
theorem lslice_at {l : List α} {lo hi : Int} {a b : Nat} (ha : lo = (a : Int)) (hb : hi = (b : Int)) (h1 : a ≤ b) (h2 : b ≤ l.length) : lslice l lo hi = some ((l.take b).drop a) := by
  subst ha hb
  unfold lslice
  rw [if_pos ⟨by omega, by omega, by omega⟩]
  simp
theorem bind_some' {o : Option α} {f : α → Option β} {x : α} (h : o = some x) : Option.bind o f = f x := by rw [h]; rfl
theorem if_t {c : Prop} [Decidable c] {x y : α} (h : c) : (if c then x else y) = x := if_pos h
theorem if_f {c : Prop} [Decidable c] {x y : α} (h : ¬ c) : (if c then x else y) = y := if_neg h
end
theorem w64_nat {n : Nat} (h : n < 9223372036854775808) : w64 (n : Int) = n := w64_eq ⟨by omega, by omega⟩
end Go.Sl
