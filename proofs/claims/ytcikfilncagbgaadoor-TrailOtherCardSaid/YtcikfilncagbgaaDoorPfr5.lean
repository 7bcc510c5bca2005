import Derived.Test.YtcikfilncagbgaaDoorPfr4
set_option linter.unusedSimpArgs false
set_option linter.unusedVariables false
set_option maxRecDepth 20000
/-! The frontier: joining from the left, rows of parts whose hashes are trees. -/
namespace Go.Sl.Fr
variable {H : Type}
/-- The first two that make one. -/
def fm : List (P H) → Option Nat
  | x :: y :: L => if x.2.1 = y.2.1 ∧ 2 ^ (x.2.1 + 1) ∣ x.1 then some 0 else (fm (y :: L)).map (· + 1)
  | _ => none
theorem fm_none : ∀ (L : List (P H)), fm L = none → NfF L
  | [], _ => trivial
  | [_], _ => trivial
  | x :: y :: L, h => by
    unfold fm at h
    split at h
    · cases h
    · rename_i hc
      exact ⟨hc, fm_none (y :: L) (by simpa using h)⟩
theorem fm_some : ∀ (L : List (P H)) (i : Nat), fm L = some i → ∃ A y x B, L = A ++ y :: x :: B ∧ A.length = i ∧ y.2.1 = x.2.1 ∧ 2 ^ (y.2.1 + 1) ∣ y.1
  | [], i, h => by cases h
  | [_], i, h => by cases h
  | x :: y :: L, i, h => by
    unfold fm at h
    split at h
    · rename_i hc
      cases h
      exact ⟨[], x, y, L, rfl, rfl, hc.1, hc.2⟩
    · cases hf : fm (y :: L) with
      | none => rw [hf] at h; cases h
      | some j =>
        rw [hf] at h
        obtain ⟨A, z, w, B, h1, h2, h3⟩ := fm_some (y :: L) j hf
        cases h
        exact ⟨x :: A, z, w, B, by rw [h1]; rfl, by simp [h2], h3⟩
theorem fw_merge {a e : Nat} {A B : List (P H)} {y x : P H} {h : H} (hf : Fw a (A ++ y :: x :: B) e) (hk : y.2.1 = x.2.1) (hd : 2 ^ (y.2.1 + 1) ∣ y.1) : Fw a (A ++ (y.1, y.2.1 + 1, h) :: B) e := by
  obtain ⟨c, h1, h2⟩ := fw_split _ _ _ _ hf
  refine fw_app _ _ _ _ _ h1 ⟨h2.1, hd, ?_⟩
  show Fw (y.1 + 2 ^ (y.2.1 + 1)) B e
  have h3 := h2.2.2.2.2
  have h4 := h2.2.2.1
  rw [h4, ← hk, Nat.add_assoc, ← pow_step] at h3
  exact h3
/-- What holds of each part. -/
def Hp (Q : Nat → Nat → H → Prop) (L : List (P H)) : Prop := ∀ x ∈ L, Q x.1 x.2.1 x.2.2
theorem hp_merge {Q : Nat → Nat → H → Prop} {nd : H → H → H} {a e : Nat} (hV : ∀ p k x y, a ≤ p → p + 2 ^ (k + 1) ≤ e → 2 ^ (k + 1) ∣ p → Q p k x → Q (p + 2 ^ k) k y → Q p (k + 1) (nd x y)) {A B : List (P H)} {y x : P H} (hf : Fw a (A ++ y :: x :: B) e) (hk : y.2.1 = x.2.1) (hd : 2 ^ (y.2.1 + 1) ∣ y.1) (h : Hp Q (A ++ y :: x :: B)) : Hp Q (A ++ (y.1, y.2.1 + 1, nd y.2.2 x.2.2) :: B) := by
  obtain ⟨c, h1, h2⟩ := fw_split _ _ _ _ hf
  have hc : a ≤ c := by have := fw_le _ _ _ h1; omega
  have h4 := h2.2.2.1
  have hy := h y (by simp)
  have hx := h x (by simp)
  have hle := fw_le _ _ _ h2.2.2.2.2
  have hps := pow_step y.2.1
  intro z hz
  rcases List.mem_append.1 hz with hz | hz
  · exact h z (List.mem_append_left _ hz)
  · rcases List.mem_cons.1 hz with rfl | hz
    · refine hV _ _ _ _ (by rw [h2.1]; exact hc) ?_ hd hy ?_
      · rw [hk] at hps ⊢; rw [hk] at h4; omega
      · rw [← h4, hk]; exact hx
    · exact h z (by simp [hz])
end Go.Sl.Fr
