import Derived.Test.YtodeiommhponnaaDoorExt
set_option linter.unusedSimpArgs false
set_option linter.unusedVariables false
set_option linter.unusedSectionVars false
namespace Go.Sl
/-! ## What is so as long as some entities stay as they are -/
def Held (m : Mem) (hs : Hp) : Prop := ∀ h ∈ hs, At m h.1 0 h.2.2
def lnt (E : List Ent) (s : Slot) : Slot where
  p := fun m v => ∀ m' hs, Mle m m' → Sat E m' hs → Held m' hs → s.p m' v
  mono := fun hm h m' hs h1 h2 h3 => h m' hs (hm.trans h1) h2 h3
section
variable {α β : Type} {c : Ctx} {Γ : Env} {H H' : List Ent} {E E' : List Ent} {od : Option Tmp} {ty : TypeId} {pos : String} {aft : Array Edge} {g : Option (Nat × Bool)}
inductive BuildL (Γ : Env) (E : List Ent) (R : Rep α) : Nat → List (Nat × Operand) → List α → Prop
  | nil {k : Nat} : BuildL Γ E R k [] []
  | cons {k : Nat} {y : Operand} {z : α} {ps : List (Nat × Operand)} {zs : List α} : Has Γ y (lnt E ((R.slot) z)) → BuildL Γ E R (k + 1) ps zs → BuildL Γ E R k ((k, y) :: ps) (z :: zs)
def exact (a : Act) : List (Nat × Operand) → Env
  | [] => []
  | (_, .tmp t) :: ps => (t, val (a.tmps.getD t undef)) :: exact a ps
  | _ :: ps => exact a ps
theorem hasB_arrF {x : Operand} {T b n cap : Nat} {R : Rep α} {v : Vector α n} (hx : Has Γ x (val (.slice (some ⟨b, 0 * R.n, none⟩) n cap))) (hk : Pick H (box b T (vec n R) v) H') (hc : n ≤ cap) : HasB c Γ H x ((sl R).slot v.toList) := by
  have := hasB_arr (c := c) (lo := 0) hx hk (by omega) hc
  rwa [List.drop_zero, List.take_of_length_le (by simp)] at this
theorem gat_mono {n : Nat} {R : Rep α} {x : α} {m m' : Mem} (hm : Mle m m') (h : GAt n R x m) : GAt n R x m' := by
  obtain ⟨cs, h1, h2⟩ := h; exact ⟨cs, R.mono hm h1, h2.mono hm⟩
theorem run_drawJ {Q : Exit → Act → World → Prop} {k : List Code} {id n : Nat} {L : List Oper} {Γ' : Env} {H' : List Ent} (hJ : OpsJ c L.toArray (L.drop n) Γ' H' (wpAll c.ro c.P Q k))
    (h : OpsJ c L.toArray (L.drop n) Γ' H' (wpAll c.ro c.P Q k) → Run c Q (.region id L.toArray true :: k) Γ H) : Run c Q (.region id L.toArray true :: k) Γ H := h hJ
theorem run_cond_t {Q : Exit → Act → World → Prop} {k : List Code} {x : Operand} {A B : Code} {b : Bool} (hx : Has Γ x (bl.slot b)) (hb : b = true) (h : Run c Q (A :: k) Γ H) : Run c Q (.cond x A B :: k) Γ H :=
  run_cond hx (fun _ => h) (fun e => by rw [hb] at e; cases e)
theorem run_cond_f {Q : Exit → Act → World → Prop} {k : List Code} {x : Operand} {A B : Code} {b : Bool} (hx : Has Γ x (bl.slot b)) (hb : b = false) (h : Run c Q (B :: k) Γ H) : Run c Q (.cond x A B :: k) Γ H :=
  run_cond hx (fun e => by rw [hb] at e; cases e) (fun _ => h)
end
end Go.Sl
