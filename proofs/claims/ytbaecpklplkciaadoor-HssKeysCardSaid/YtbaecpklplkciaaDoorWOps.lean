import Derived.Test.YtbaecpklplkciaaDoorDraw3
import Derived.Test.YtbaecpklplkciaaDoorLent
set_option linter.unusedSimpArgs false
set_option linter.unusedVariables false
set_option linter.unusedSectionVars false
namespace Go.Sl
/-! ## Writers, for regions that draw their order -/
theorem env1 {d : Nat} {s : Slot} {m : Mem} {v : Value} {a : Act} (hd : d < a.tmps.size) (hv : s.p m v) : EnvOK [(d, s)] m (a.put (some d) v) := by
  intro t s' e
  by_cases h : d = t
  · subst h; rw [lk_cons_self] at e; cases e; rw [put_getD_self hd]; exact hv
  · rw [lk_cons_ne h] at e; cases e
section
variable {c : Ctx} {Γ : Env} {H H' : List Ent} {d : Tmp} {od : Option Tmp} {ty : TypeId} {pos : String} {aft : Array Edge} {g : Option (Nat × Bool)} {α β : Type}
theorem blt_sz {n N k : Nat} (h : Nat.blt n N = true) (e : k = N) : n < k := by rw [e]; simpa [Nat.blt_eq] using h
theorem w_alloc {T : TypeId} {R : Rep α} {x : α} {cs : List Value} (hz : ZeroR R x cs) (hT : zeroB c.P T = some cs) (hN : Nat.blt d c.N = true) :
    WJ c ⟨some d, .alloc T, ty, pos, aft, g⟩ Γ H (fun b : Nat => [(d, val (.pointer (some ⟨b, 0, none⟩)))]) (fun b => box b T R x :: H) := by
  intro m hs a w hg _ hsat ho hn
  obtain ⟨v, hv, hc⟩ := zeroB_run hT w
  have hr : (execOp a.eval ⟨some d, .alloc T, ty, pos, aft, g⟩).run c.P w = .ok (.value (.pointer (some ⟨w.heap.size, 0, none⟩))) (w.alloc (.cells cs.toArray T)) := by
    simp [execOp, Instr.alloc, hv, newVar, newRow, hc]
  rw [hr]
  exact ⟨w.heap.size, m, _, hg.newOwn T cs, env1 (blt_sz hN hn) rfl, ⟨[(w.heap.size, T, cs)], hs, rfl, ⟨cs, rfl, hz m⟩, hsat⟩, Frm.alloc _ _ _ _⟩
theorem w_append {ST XT T E : TypeId} {x y : Operand} {R : Rep α} {v : Value} {ys xs : List α} (hx : Has Γ x (ov v)) (hk : Pick H (own T R v ys) H') (hy : Src c Γ H y R xs)
    (hT : slE c.P ST T R.n = true) (hX : c.P.underlying XT = some (.slice E)) (hb : ys.length + xs.length ≤ 4294967296) (hN : Nat.blt d c.N = true) :
    WJ c ⟨some d, .call { callee := .builtin .append, args := #[x, y], argTypes := #[ST, XT] }, ty, pos, aft, g⟩ Γ H (fun v' => [(d, ov v')]) (fun v' => own T R v' (ys ++ xs) :: H') := by
  intro m hs a w hg _ hsat ho hn
  have ex : a.eval x = v := (ov_p.1 (hx m a (ho x (by simp [Op.operands, Call.operands])))).1
  obtain ⟨a0, cap0, ey, hsrc⟩ := hy m hs a w hg hsat (ho y (by simp [Op.operands, Call.operands]))
  obtain ⟨h1, h2, hpm, hown, hs2⟩ := hsat.pick hk
  have hsrc' : xs = [] ∨ ∃ b o row, a0 = some ⟨b, o, none⟩ ∧ RowC R m row xs ∧ ∀ j v, row[j]? = some v → w.cell? ⟨b, o + j, none⟩ = some v := hsrc
  obtain ⟨v', h1', w', hrun, ho', hg', hf'⟩ := run_append (rt := ty) (cap0 := cap0) hT hX (hg.perm hpm) hown hsrc' hb
  have hr : (execOp a.eval ⟨some d, .call { callee := .builtin .append, args := #[x, y], argTypes := #[ST, XT] }, ty, pos, aft, g⟩).run c.P w = .ok (.value v') w' := by
    simp only [execOp, resolve, Sem.run_bind, Sem.run_pure, Result.andThen_ok, invoke, builtin]
    simp only [List.map_toArray, List.map_cons, List.map_nil, ex, ey, hrun, Result.andThen_ok]
  rw [hr]
  exact ⟨v', m, h1' ++ h2, hg', env1 (blt_sz hN hn) (ov_p.2 ⟨rfl, own.one ho'⟩), ⟨h1', h2, rfl, ho', hs2⟩, Frm.ofPerm hpm hf'⟩
end
end Go.Sl
