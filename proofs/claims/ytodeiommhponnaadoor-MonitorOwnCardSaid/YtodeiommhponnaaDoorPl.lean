import Derived.Test.YtodeiommhponnaaDoorPb
set_option linter.unusedSimpArgs false
set_option linter.unusedVariables false
namespace Go.Sl
theorem orE (c d : Bool) : (if c = true then some true else some d) = some (c || d) := by cases c <;> rfl
theorem andE (c d : Bool) : (if c = true then some d else some false) = some (c && d) := by cases c <;> rfl
theorem or_o {c d : Bool} {o : Option Bool} (h : c = false → o = some d) : (if c = true then some true else o) = some (c || d) := by
  cases c with
  | true => rfl
  | false => rw [if_neg (by decide), h rfl]; rfl
theorem and_o {c d : Bool} {o : Option Bool} (h : c = true → o = some d) : (if c = true then o else some false) = some (c && d) := by
  cases c with
  | true => rw [if_pos rfl, h rfl]; rfl
  | false => rfl
/-! ## Loops over a list -/
section
variable {α τ σ ρ : Type}
def runL (step : Nat → σ → α → σ ⊕ ρ) : Nat → σ → List α → σ ⊕ ρ
  | _, s, [] => .inl s
  | i, s, x :: xs => match step i s x with
    | .inl s' => runL step (i + 1) s' xs
    | .inr r => .inr r
theorem loopO_runL {f : τ → Option (LR τ ρ)} (l : List α) (en : Nat → σ → τ) (step : Nat → σ → α → σ ⊕ ρ) (I : Nat → σ → Prop)
    (h : ∀ i s (hi : i < l.length), I i s → f (en i s) = some (match step i s l[i] with | .inl s' => .next (en (i + 1) s') | .inr r => .ret r))
    (hI : ∀ i s s' (hi : i < l.length), I i s → step i s l[i] = .inl s' → I (i + 1) s')
    (he : ∀ s, I l.length s → f (en l.length s) = some (.brk (en l.length s))) :
    ∀ (d i n : Nat) (s : σ), i + d = l.length → d < n → I i s → loopO f n (en i s) = some (match runL step i s (l.drop i) with | .inl s' => .inl (en l.length s') | .inr r => .inr r) := by
  intro d
  induction d with
  | zero =>
    intro i n s hd hn hi
    obtain ⟨n, rfl⟩ : ∃ k, n = k + 1 := ⟨n - 1, by omega⟩
    have : i = l.length := by omega
    subst this
    rw [loopO_brk (he s hi), List.drop_length]; rfl
  | succ d ih =>
    intro i n s hd hn hi
    obtain ⟨n, rfl⟩ : ∃ k, n = k + 1 := ⟨n - 1, by omega⟩
    have hl : i < l.length := by omega
    have h1 := h i s hl hi
    rw [List.drop_eq_getElem_cons hl, runL]
    cases hs : step i s l[i] with
    | inl s' => rw [hs] at h1; rw [loopO_next h1, ih (i + 1) n s' (by omega) (by omega) (hI i s s' hl hi hs)]
    | inr r => rw [hs] at h1; rw [loopO_ret h1]
theorem loopO_run0 {f : τ → Option (LR τ ρ)} (l : List α) (en : Nat → σ → τ) (step : Nat → σ → α → σ ⊕ ρ) (I : Nat → σ → Prop) (s : σ) (hn : l.length ≤ 9000000000) (h0 : I 0 s)
    (h : ∀ i s (hi : i < l.length), I i s → f (en i s) = some (match step i s l[i] with | .inl s' => .next (en (i + 1) s') | .inr r => .ret r))
    (hI : ∀ i s s' (hi : i < l.length), I i s → step i s l[i] = .inl s' → I (i + 1) s')
    (he : ∀ s, I l.length s → f (en l.length s) = some (.brk (en l.length s))) :
    loopO f FU (en 0 s) = some (match runL step 0 s l with | .inl s' => .inl (en l.length s') | .inr r => .inr r) := by
  have := loopO_runL l en step I h hI he l.length 0 FU s (by omega) (fu_lt hn) h0
  simpa using this
/-- Two lists of one length, compared from the front. -/
theorem eqscan [DecidableEq α] {f : Int → Option (LR Int Bool)} (a b : List α) (hl : a.length = b.length) (hn : a.length ≤ 9000000000)
    (h : ∀ i (h1 : i < a.length) (h2 : i < b.length), f (i : Int) = some (if a[i] = b[i] then .next ((i : Int) + 1) else .ret false)) (he : f (a.length : Int) = some (.brk (a.length : Int))) :
    loopO f FU (0 : Int) = some (if a = b then .inl (a.length : Int) else .inr false) := by
  have h1 := loopO_run0 (f := f) a (fun i (_ : Unit) => (i : Int)) (fun i _ x => if b[i]? = some x then .inl () else .inr false) (fun _ _ => True) () hn trivial (fun i s hi _ => by
    rw [h i hi (by omega), List.getElem?_eq_getElem (show i < b.length by omega)]
    by_cases e : a[i] = b[i]
    · rw [if_pos e, if_pos (by rw [e])]; simp
    · rw [if_neg e, if_neg (by simpa using fun e' => e e'.symm)]) (fun _ _ _ _ _ _ => trivial) (fun _ _ => he)
  have key : ∀ (d i : Nat), i + d = a.length → runL (fun i (_ : Unit) x => if b[i]? = some x then .inl () else .inr false) i () (a.drop i) = (if a.drop i = b.drop i then .inl () else .inr false : Unit ⊕ Bool) := by
    intro d
    induction d with
    | zero => intro i hi; rw [List.drop_eq_nil_of_le (by omega), List.drop_eq_nil_of_le (by omega)]; rfl
    | succ d ih =>
      intro i hi
      have h1 : i < a.length := by omega
      have h2 : i < b.length := by omega
      have ea := List.drop_eq_getElem_cons h1
      have eb := List.drop_eq_getElem_cons h2
      rw [ea, eb, runL, List.getElem?_eq_getElem h2]
      by_cases e : a[i] = b[i]
      · rw [if_pos (by rw [e])]
        show runL _ (i + 1) () _ = _
        rw [ih (i + 1) (by omega)]
        by_cases e2 : a.drop (i + 1) = b.drop (i + 1)
        · rw [if_pos e2, if_pos (by rw [e, e2])]
        · rw [if_neg e2, if_neg (by intro hc; injection hc with _ hc; exact e2 hc)]
      · rw [if_neg (by simpa using fun e' => e e'.symm), if_neg (by intro hc; injection hc with hc _; exact e hc)]
  have h2 := key a.length 0 (by omega)
  simp only [List.drop_zero] at h2
  have h3 : loopO f FU (0 : Int) = _ := h1
  rw [h3, h2]
  by_cases e : a = b
  · rw [if_pos e, if_pos e]
  · rw [if_neg e, if_neg e]
/-- All of a list. -/
theorem allscan {f : Int → Option (LR Int Bool)} (l : List α) (p : α → Bool) (hn : l.length ≤ 9000000000)
    (h : ∀ i (h1 : i < l.length), f (i : Int) = some (if p l[i] = true then .next ((i : Int) + 1) else .ret false)) (he : f (l.length : Int) = some (.brk (l.length : Int))) :
    loopO f FU (0 : Int) = some (if l.all p = true then .inl (l.length : Int) else .inr false) := by
  have h1 := loopO_run0 (f := f) l (fun i (_ : Unit) => (i : Int)) (fun i _ x => if p x = true then .inl () else .inr false) (fun _ _ => True) () hn trivial (fun i s hi _ => by
    rw [h i hi]
    by_cases e : p l[i] = true
    · rw [if_pos e, if_pos e]; simp
    · rw [if_neg e, if_neg e]) (fun _ _ _ _ _ _ => trivial) (fun _ _ => he)
  have key : ∀ (l : List α) (i : Nat), runL (fun i (_ : Unit) x => if p x = true then .inl () else .inr false) i () l = (if l.all p = true then .inl () else .inr false : Unit ⊕ Bool) := by
    intro l
    induction l with
    | nil => intro i; rfl
    | cons x xs ih =>
      intro i
      rw [runL]
      by_cases e : p x = true
      · rw [if_pos e]; show runL _ (i + 1) () _ = _; rw [ih]; simp [e]
      · rw [if_neg e, if_neg (by simp [e])]
  have h3 : loopO f FU (0 : Int) = _ := h1
  rw [h3, key]
  by_cases e : l.all p = true
  · rw [if_pos e, if_pos e]
  · rw [if_neg e, if_neg e]
/-- A list made out of another one. -/
theorem mapscan {β : Type} {f : Int × List β → Option (LR (Int × List β) Empty)} (l : List α) (g : α → β) (hn : l.length ≤ 9000000000)
    (h : ∀ i (hi : i < l.length) (acc : List β), acc.length = i → f ((i : Int), acc) = some (.next ((i : Int) + 1, acc ++ [g l[i]]))) (he : ∀ acc : List β, f ((l.length : Int), acc) = some (.brk ((l.length : Int), acc))) :
    loopS f FU ((0 : Int), []) = some ((l.length : Int), l.map g) := by
  have h1 := loopS_cnt (f := f) (fun i (_ : Unit) => ((i : Int), (l.take i).map g)) (fun _ s => s) 0 l.length (fun i s _ h2 => by
    rw [h i h2 _ (by simp; omega)]
    rw [List.take_succ_eq_append_getElem h2, List.map_append]; rfl) (fun s => he _) FU () (by omega) (fu_lt hn)
  simpa using h1
theorem takescan {f : Int → Option (LR Int Empty)} (l : List α) (p : α → Bool) (hn : l.length ≤ 9000000000)
    (h : ∀ i (hi : i < l.length), f (i : Int) = some (if p l[i] = true then .next ((i : Int) + 1) else .brk (i : Int))) (he : f (l.length : Int) = some (.brk (l.length : Int))) :
    loopS f FU (0 : Int) = some (((l.takeWhile p).length : Nat) : Int) := by
  have key : ∀ (d i n : Nat), i + d = l.length → d < n → loopS f n (i : Int) = some ((i + ((l.drop i).takeWhile p).length : Nat) : Int) := by
    intro d
    induction d with
    | zero =>
      intro i n hd hn
      obtain ⟨n, rfl⟩ : ∃ k, n = k + 1 := ⟨n - 1, by omega⟩
      have : i = l.length := by omega
      subst this
      rw [loopS_brk he, List.drop_length]; simp
    | succ d ih =>
      intro i n hd hn
      obtain ⟨n, rfl⟩ : ∃ k, n = k + 1 := ⟨n - 1, by omega⟩
      have hl : i < l.length := by omega
      have h1 := h i hl
      rw [List.drop_eq_getElem_cons hl, List.takeWhile_cons]
      by_cases e : p l[i] = true
      · rw [if_pos e] at h1
        rw [if_pos e]
        rw [loopS_next h1]
        have := ih (i + 1) n (by omega) (by omega)
        rw [show ((i : Int) + 1) = ((i + 1 : Nat) : Int) by omega, this]
        simp; omega
      · rw [if_neg e] at h1
        rw [if_neg e, loopS_brk h1]; simp
  have := key l.length 0 FU (by omega) (fu_lt hn)
  simpa using this
end
end Go.Sl
