import Derived.Test.YtodeiommhponnaaDoorOp13
set_option linter.unusedSimpArgs false
set_option linter.unusedVariables false
set_option linter.unusedSectionVars false
namespace Go.Sl
section
variable {c : Ctx} {full : Array Oper} {l : List Oper} {Γ Γ' : Env} {H H' : List Ent} {K : Act → World → Prop} {d : Tmp} {od : Option Tmp} {ty : TypeId} {pos : String} {aft : Array Edge} {g : Option (Nat × Bool)} {α β : Type}
/-! ## Objects with own slices in any field -/
section
variable {γ β' : Type} {R : Rep γ} {v : Value} {xs : List γ} {S : Rep β} {y : β} {S' : Rep β'} {y' : β'}
end
/-! ## Objects written out -/
def SX {α α1 β : Type} (R : Rep α) (x : α) (off : Nat) (S : Rep β) (z : β) (R1 : Rep α1) (x1 : α1) : Prop :=
  R1.n = R.n ∧ off + S.n ≤ R.n ∧ ∀ m cs ds, R.rel m cs x → S.rel m ds z → R1.rel m (cs.take off ++ ds ++ cs.drop (off + S.n)) x1
inductive BuildX (P : Program) (T : TypeId) (Γ : Env) : {α α' : Type} → (R : Rep α) → α → List (Nat × Operand) → (R' : Rep α') → α' → Prop
  | nil {α : Type} {R : Rep α} {x : α} : BuildX P T Γ R x [] R x
  | cons {α α' β α1 : Type} {i off : Nat} {y : Operand} {S : Rep β} {z : β} {ps : List (Nat × Operand)} {R : Rep α} {x : α} {R1 : Rep α1} {x1 : α1} {R' : Rep α'} {r : α'} :
    Has Γ y (S.slot z) → SX R x off S z R1 x1 → placeOf P T i = some (off, S.n) → BuildX P T Γ R1 x1 ps R' r → BuildX P T Γ R x ((i, y) :: ps) R' r
theorem BuildX.fill {P : Program} {T : TypeId} {α' : Type} {R : Rep α} {R' : Rep α'} {m : Mem} {a : Act} {ps : List (Nat × Operand)} {x : α} {r : α'} (h : BuildX P T Γ R x ps R' r) :
    ∀ {cs : List Value} {place : Nat → Option (Nat × Nat)}, R.rel m cs x → (∀ i p, placeOf P T i = some p → place i = some p) → (∀ p ∈ ps, Opd Γ m a p.2) →
    ∃ cs', Instr.fill place cs.toArray (ps.map fun p => (p.1, a.eval p.2)) = some cs'.toArray ∧ R'.rel m cs' r := by
  induction h with
  | nil => intro cs place hr _ _; exact ⟨cs, rfl, hr⟩
  | @cons α α' β α1 i off y S z ps R x R1 x1 R' r hy hp hpl _ ih =>
    intro cs place hr hplace ho
    obtain ⟨ds, hc, hd⟩ := Rep.is_cells (hy m a (ho (i, y) (by simp)))
    have hdl := S.len hd
    have hcl := R.len hr
    have hfit := hp.2.1
    obtain ⟨cs', he, hr'⟩ := ih (cs := cs.take off ++ ds ++ cs.drop (off + S.n)) (hp.2.2 m cs ds hr hd) hplace (fun p hp => ho p (by simp [hp]))
    refine ⟨cs', ?_, hr'⟩
    simp only [List.map_cons, Instr.fill, hplace i _ hpl, hc]
    have hsz : ds.toArray.size = S.n := by simp [hdl]
    have hcond : ¬ (ds.toArray.size ≠ S.n ∨ off + ds.toArray.size > cs.toArray.size) := by
      rintro (h | h)
      · exact h hsz
      · simp at h; omega
    have hbool : (decide (ds.toArray.size ≠ S.n) || decide (off + ds.toArray.size > cs.toArray.size)) = false := by
      simp only [Bool.or_eq_false_iff, decide_eq_false_iff_not]
      exact ⟨fun h => h hsz, by simp; omega⟩
    have hf := foldl_splice off ds 0 cs (by omega)
    have hz : Array.foldl (fun cs (p : Value × Nat) => cs.setIfInBounds (off + p.2) p.1) cs.toArray ds.toArray.zipIdx = (cs.take off ++ ds ++ cs.drop (off + S.n)).toArray := by
      rw [← Array.foldl_toList, Array.toList_zipIdx]
      rw [hf]; simp [hdl]
    rw [if_neg (by simpa using hcond)]
    first
      | (rw [hz]; exact he)
      | (simp only [] at hz ⊢; rw [hz]; exact he)
theorem pj_load_own0 {T T0 : TypeId} {x : Operand} {v : Value} (R : Rep α) (i : Nat) {xs : List α} (hx : Has Γ x (ownAt v (i * R.n))) (hk : Pick H (own T0 R v xs) H') (h1 : i < xs.length)
    (hT : tyB c.P T R.ag R.n = true) : PJ c ⟨od, .load T x, ty, pos, aft, g⟩ Γ H (R.slot xs[i]) :=
  pj_load_own (off := 0) (by simpa using hx) hk h1 (Path.all R) hT
end
end Go.Sl
