import Derived.Test.YtbaecpklplkciaaDoorOp9
import Derived.Laws.StructEq
import Derived.MapKept
set_option linter.unusedSimpArgs false
set_option linter.unusedVariables false
set_option linter.unusedSectionVars false
namespace Go.Sl
section
variable {c : Ctx} {full : Array Oper} {l : List Oper} {Γ Γ' : Env} {H H' : List Ent} {K : Act → World → Prop} {Q : Exit → Act → World → Prop} {k : List Code} {α β : Type}
theorem run_drawL {id n : Nat} {L : List Oper} {Ls : List Line} {σ : List Slot} (hm : c.P.follows .mixedOrders = true) (hB : drawB L n = true) (hn : Nat.ble n L.length = true) (hN : dstB c.N (L.take n) = true) (hU : distB (L.take n) = true)
    (hL : linesB (L.take n) Ls = true) (hR : RL c L H Ls 0 (L.take n) Γ σ)
    (h : FinOK (fun V E => OpsJ c L.toArray (L.drop n) (V ++ envUp Γ (L.take n) σ) (E ++ H) (wpAll c.ro c.P Q k)) Ls [] []) : Run c Q (.region id L.toArray true :: k) Γ ((Ls.map (·.ini)).flatten ++ H) :=
  fun a w hst => r_drawL hst hm hB hn hN hU hL hR h
theorem dst1 {κ : Type} {d : Nat} {s : κ → Slot} : ∀ (i : κ) (d' : Nat) (s' : Slot), lk [(d, s i)] d' = some s' → some d = some d' := by
  intro i d' s' e
  by_cases h : d = d'
  · rw [h]
  · rw [lk_cons_ne h] at e; cases e
theorem dst0 {κ : Type} {o : Option Nat} : ∀ (i : κ) (d' : Nat) (s' : Slot), lk ([] : Env) d' = some s' → o = some d' := fun _ _ _ e => by cases e
theorem slotAny {κ : Type} {V2 : κ → Env} {o : Option Nat} : ∀ (i : κ) (m : Mem) (a : Act), EnvOK (V2 i) m a → ∀ d, o = some d → any.p m (a.tmps.getD d undef) := fun _ _ _ _ _ _ => trivial
theorem slotIs {κ : Type} {d : Nat} {s : Slot} : ∀ (i : κ) (m : Mem) (a : Act), EnvOK ((fun _ : κ => [(d, s)]) i) m a → ∀ d', some d = some d' → s.p m (a.tmps.getD d' undef) := fun i m a h d' e => by cases e; exact h d s (lk_cons_self _ _ _)
theorem slotNo {κ : Type} {V2 : κ → Env} {s : Slot} : ∀ (i : κ) (m : Mem) (a : Act), EnvOK (V2 i) m a → ∀ d, (none : Option Nat) = some d → s.p m (a.tmps.getD d undef) := fun _ _ _ _ _ e => by cases e
/-- A variable, made one that stays. -/
theorem j_freezeTo {T : TypeId} {R : Rep α} {b t : Nat} {x : α} (hk : Pick H (box b T R x) H') (ht : Imp Γ t (val (.pointer (some ⟨b, 0, none⟩))))
    (k : OpsJ c full l ((t, ptrTo R x) :: Γ) H' K) : OpsJ c full l Γ H K := by
  intro a w Q hQ hst
  have h := hst.freezeBox [t] hk (fun u hu => by rw [List.mem_singleton.1 hu]; exact ht)
  obtain ⟨hd, hn, m, hs, hg, hG, he, hsat, hf⟩ := h
  refine k a w Q hQ ⟨hd, hn, m, hs, hg, hG, ?_, hsat, hf⟩
  have he' : EnvOK ((t, (ptr R).slot (some x)) :: Γ) m a := he
  intro u s e
  by_cases hu : t = u
  · subst hu
    rw [lk_cons_self] at e; cases e
    obtain ⟨b', o, ds, e1, hr, hat⟩ := he' t _ (lk_cons_self _ _ _)
    simp only [List.cons.injEq, and_true] at e1
    exact ⟨b', o, ds, e1, hr, hat⟩
  · rw [lk_cons_ne hu] at e
    exact he' u s (by rw [lk_cons_ne hu]; exact e)
/-! ## Strings -/
end
end Go.Sl
