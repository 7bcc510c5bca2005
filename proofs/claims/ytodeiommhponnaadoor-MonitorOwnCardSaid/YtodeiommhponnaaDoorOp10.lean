import Derived.Test.YtodeiommhponnaaDoorDrawL
set_option linter.unusedSimpArgs false
set_option linter.unusedVariables false
set_option linter.unusedSectionVars false
namespace Go.Sl
/-! ## A slice against nil: an empty one may be nil or not -/
def isnil {α : Type} (l : List α) : Slot := ⟨fun _ v => (v = .bool true ∧ l = []) ∨ v = .bool false, fun _ h => h⟩
theorem run_sl_nil {P : Program} {T E : TypeId} (h : P.underlying T = some (.slice E)) (a : Option Addr) (n k : Nat) (w : World) :
    (binOp .eql T (.slice a n k) (.slice none 0 0)).run P w = .ok (.bool a.isNone) w := by
  have key : ∀ n', (Op.equalIn (n' + 1) T (.slice a n k) (.slice none 0 0)).run P w = .ok a.isNone w := by
    intro n'
    cases a with
    | none => simp only [Op.equalIn, Sem.run_bind, run_underlying h, Result.andThen_ok, Sem.run_pure]
    | some a => simp only [Op.equalIn, Sem.run_bind, run_underlying h, Result.andThen_ok, Sem.run_pure]; rfl
  have h2 := key 9999
  simp only [binOp, Op.equal, Op.maxDepth, Sem.run_bind, h2, Result.andThen_ok, Sem.run_pure]
section
variable {c : Ctx} {Γ : Env} {H : List Ent} {od : Option Tmp} {ty : TypeId} {pos : String} {aft : Array Edge} {g : Option (Nat × Bool)} {α : Type} {Q : Exit → Act → World → Prop} {k : List Code}
theorem pj_isnil {T yt E : TypeId} {x : Operand} {R : Rep α} {l : List α} (hT : c.P.underlying T = some (.slice E)) (hx : Has Γ x ((sl R).slot l)) :
    PJ c ⟨od, .binOp .eql T x (.const (.slice none 0 0)) yt, ty, pos, aft, g⟩ Γ H (isnil l) :=
  pj_bin hx (has_val (v := .slice none 0 0)) fun m u v w hu hv => by
    cases hv
    obtain ⟨a, cap, e, hc, h⟩ := hu
    simp only [List.cons.injEq, and_true] at e; subst e
    refine ⟨.bool a.isNone, ?_, ?_⟩
    · have e1 : (eqGuard .eql T x (.const (.slice none 0 0)) (.slice a l.length cap) (.slice none 0 0)).run c.P w = .ok () w := by
        simp only [eqGuard]; rfl
      rw [Sem.run_bind, e1, Result.andThen_ok]
      exact run_sl_nil hT _ _ _ _
    · cases a with
      | none =>
        refine .inl ⟨rfl, h.elim id ?_⟩
        rintro ⟨b, o, row, e', _⟩; cases e'
      | some a => exact .inr rfl
theorem run_cond_nil {x : Operand} {A B : Code} {l : List α} (hx : Has Γ x (isnil l)) (h1 : l = [] → Run c Q (A :: k) Γ H) (h2 : Run c Q (B :: k) Γ H) : Run c Q (.cond x A B :: k) Γ H := by
  intro a w hst
  have hst' := hst
  obtain ⟨_, _, m, hs, _, _, he, _⟩ := hst'
  rcases hx m a (he.opd x) with ⟨hv, hl⟩ | hv
  · exact wpIn_cond_split hv (fun _ => h1 hl a w hst) (fun hb => by cases hb)
  · exact wpIn_cond_split hv (fun hb => by cases hb) (fun _ => h2 a w hst)
end
end Go.Sl
