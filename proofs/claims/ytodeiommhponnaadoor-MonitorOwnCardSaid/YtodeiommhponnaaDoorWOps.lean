import Derived.Test.YtodeiommhponnaaDoorDraw3
import Derived.Test.YtodeiommhponnaaDoorLent
set_option linter.unusedSimpArgs false
set_option linter.unusedVariables false
set_option linter.unusedSectionVars false
namespace Go.Sl
/-! ## Writers, for regions that draw their order -/
theorem env1 {d : Nat} {s : Slot} {m : Mem} {v : Value} {a : Act} (hd : d < a.tmps.size) (hv : s.p m v) : EnvOK [(d, s)] m (a.put (some d) v) := by
  intro t s' e
  by_cases h : d = t
  · subst h; rw [lk_cons_self] at e; cases e; rw [put_getD_self hd]; exact hv
  · rw [lk_cons_ne h] at e; cases e
theorem env0 {m : Mem} {a : Act} : EnvOK [] m a := fun t s e => by cases e
section
variable {c : Ctx} {Γ : Env} {H H' : List Ent} {d : Tmp} {od : Option Tmp} {ty : TypeId} {pos : String} {aft : Array Edge} {g : Option (Nat × Bool)} {α β : Type}
theorem blt_sz {n N k : Nat} (h : Nat.blt n N = true) (e : k = N) : n < k := by rw [e]; simpa [Nat.blt_eq] using h
theorem w_store {T T0 : TypeId} {x y : Operand} {b off : Nat} {R : Rep α} {S : Rep β} {r r' : α} {z : β} {get : α → β} {set : α → β → α} (hx : Has Γ x (val (.pointer (some ⟨b, off, none⟩))))
    (hy : Has Γ y (S.slot z)) (hk : Pick H (box b T0 R r) H') (hp : Path R off S get set) (hT : szB c.P T S.n = true) (e : set r z = r') :
    WJ c ⟨none, .store T x y, ty, pos, aft, g⟩ Γ H (fun _ : Unit => []) (fun _ => box b T0 R r' :: H') := by
  intro m hs a w hg _ hsat ho hn
  subst e
  have e : a.eval x = _ := hx m a (ho x (by simp [Op.operands]))
  obtain ⟨ds, hc, hd⟩ := Rep.is_cells (hy m a (ho y (by simp [Op.operands])))
  obtain ⟨h1, h2, hpm, ⟨cs, rfl, hr⟩, hs2⟩ := hsat.pick hk
  have hg' := hg.perm hpm
  have hlen : off + S.n ≤ cs.length := by rw [R.len hr]; exact hp.fits
  have hrun : (execOp a.eval ⟨none, .store T x y, ty, pos, aft, g⟩).run c.P w = .ok .skip (setBlk w b T0 (cs.take off ++ ds ++ cs.drop (off + S.n))) := by
    simp only [execOp, e, Sem.run_bind, run_storeAt hT hc (S.len hd) (S.cell hd) (hg'.blk (b, T0, cs) (by simp)) hlen]
    rfl
  rw [hrun]
  refine ⟨(), m, (b, T0, cs.take off ++ ds ++ cs.drop (off + S.n)) :: h2, hg'.setBlk _, env0, ⟨[_], h2, rfl, ⟨_, rfl, hp.set_ok hr hd⟩, hs2⟩, ?_⟩
  exact Frm.ofPerm hpm (Frm.setBlk (by simp [Hp.bs]))
end
end Go.Sl
