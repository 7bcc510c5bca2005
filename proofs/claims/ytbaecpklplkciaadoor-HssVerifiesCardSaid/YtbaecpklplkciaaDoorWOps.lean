import Derived.Test.YtbaecpklplkciaaDoorDraw3
import Derived.Test.YtbaecpklplkciaaDoorLent
set_option linter.unusedSimpArgs false
set_option linter.unusedVariables false
set_option linter.unusedSectionVars false
namespace Go.Sl
/-! ## Writers, for regions that draw their order -/
theorem env1 {d : Nat} {s : Slot} {m : Mem} {v : Value} {a : Act} (hd : d < a.tmps.size) (hv : s.p m v) : EnvOK [(d, s)] m (a.put (some d) v) := by
  intro t s' e
  by_cases h : d = t
  · subst h; rw [lk_cons_self] at e; cases e; rw [put_getD_self hd]; exact hv
  · rw [lk_cons_ne h] at e; cases e
theorem env0 {m : Mem} {a : Act} : EnvOK [] m a := fun t s e => by cases e
section
variable {c : Ctx} {Γ : Env} {H H' : List Ent} {d : Tmp} {od : Option Tmp} {ty : TypeId} {pos : String} {aft : Array Edge} {g : Option (Nat × Bool)} {α β : Type}
theorem blt_sz {n N k : Nat} (h : Nat.blt n N = true) (e : k = N) : n < k := by rw [e]; simpa [Nat.blt_eq] using h
theorem w_alloc {T : TypeId} {R : Rep α} {x : α} {cs : List Value} (hz : ZeroR R x cs) (hT : zeroB c.P T = some cs) (hN : Nat.blt d c.N = true) :
    WJ c ⟨some d, .alloc T, ty, pos, aft, g⟩ Γ H (fun b : Nat => [(d, val (.pointer (some ⟨b, 0, none⟩)))]) (fun b => box b T R x :: H) := by
  intro m hs a w hg _ hsat ho hn
  obtain ⟨v, hv, hc⟩ := zeroB_run hT w
  have hr : (execOp a.eval ⟨some d, .alloc T, ty, pos, aft, g⟩).run c.P w = .ok (.value (.pointer (some ⟨w.heap.size, 0, none⟩))) (w.alloc (.cells cs.toArray T)) := by
    simp [execOp, Instr.alloc, hv, newVar, newRow, hc]
  rw [hr]
  exact ⟨w.heap.size, m, _, hg.newOwn T cs, env1 (blt_sz hN hn) rfl, ⟨[(w.heap.size, T, cs)], hs, rfl, ⟨cs, rfl, hz m⟩, hsat⟩, Frm.alloc _ _ _ _⟩
theorem w_store {T T0 : TypeId} {x y : Operand} {b off : Nat} {R : Rep α} {S : Rep β} {r r' : α} {z : β} {get : α → β} {set : α → β → α} (hx : Has Γ x (val (.pointer (some ⟨b, off, none⟩))))
    (hy : Has Γ y (S.slot z)) (hk : Pick H (box b T0 R r) H') (hp : Path R off S get set) (hT : szB c.P T S.n = true) (e : set r z = r') :
    WJ c ⟨none, .store T x y, ty, pos, aft, g⟩ Γ H (fun _ : Unit => []) (fun _ => box b T0 R r' :: H') := by
  intro m hs a w hg _ hsat ho hn
  subst e
  have e : a.eval x = _ := hx m a (ho x (by simp [Op.operands]))
  obtain ⟨ds, hc, hd⟩ := Rep.is_cells (hy m a (ho y (by simp [Op.operands])))
  obtain ⟨h1, h2, hpm, ⟨cs, rfl, hr⟩, hs2⟩ := hsat.pick hk
  have hg' := hg.perm hpm
  have hlen : off + S.n ≤ cs.length := by rw [R.len hr]; exact hp.fits
  have hrun : (execOp a.eval ⟨none, .store T x y, ty, pos, aft, g⟩).run c.P w = .ok .skip (setBlk w b T0 (cs.take off ++ ds ++ cs.drop (off + S.n))) := by
    simp only [execOp, e, Sem.run_bind, run_storeAt hT hc (S.len hd) (S.cell hd) (hg'.blk (b, T0, cs) (by simp)) hlen]
    rfl
  rw [hrun]
  refine ⟨(), m, (b, T0, cs.take off ++ ds ++ cs.drop (off + S.n)) :: h2, hg'.setBlk _, env0, ⟨[_], h2, rfl, ⟨_, rfl, hp.set_ok hr hd⟩, hs2⟩, ?_⟩
  exact Frm.ofPerm hpm (Frm.setBlk (by simp [Hp.bs]))
theorem w_append {ST XT T E : TypeId} {x y : Operand} {R : Rep α} {v : Value} {ys xs : List α} (hx : Has Γ x (ov v)) (hk : Pick H (own T R v ys) H') (hy : Src c Γ H y R xs)
    (hT : slE c.P ST T R.n = true) (hX : c.P.underlying XT = some (.slice E)) (hb : ys.length + xs.length ≤ 4294967296) (hN : Nat.blt d c.N = true) :
    WJ c ⟨some d, .call { callee := .builtin .append, args := #[x, y], argTypes := #[ST, XT] }, ty, pos, aft, g⟩ Γ H (fun v' => [(d, ov v')]) (fun v' => own T R v' (ys ++ xs) :: H') := by
  intro m hs a w hg _ hsat ho hn
  have ex : a.eval x = v := (ov_p.1 (hx m a (ho x (by simp [Op.operands, Call.operands])))).1
  obtain ⟨a0, cap0, ey, hsrc⟩ := hy m hs a w hg hsat (ho y (by simp [Op.operands, Call.operands]))
  obtain ⟨h1, h2, hpm, hown, hs2⟩ := hsat.pick hk
  have hsrc' : xs = [] ∨ ∃ b o row, a0 = some ⟨b, o, none⟩ ∧ RowC R m row xs ∧ ∀ j v, row[j]? = some v → w.cell? ⟨b, o + j, none⟩ = some v := hsrc
  obtain ⟨v', h1', w', hrun, ho', hg', hf'⟩ := run_append (rt := ty) (cap0 := cap0) hT hX (hg.perm hpm) hown hsrc' hb
  have hr : (execOp a.eval ⟨some d, .call { callee := .builtin .append, args := #[x, y], argTypes := #[ST, XT] }, ty, pos, aft, g⟩).run c.P w = .ok (.value v') w' := by
    simp only [execOp, resolve, Sem.run_bind, Sem.run_pure, Result.andThen_ok, invoke, builtin]
    simp only [List.map_toArray, List.map_cons, List.map_nil, ex, ey, hrun, Result.andThen_ok]
  rw [hr]
  exact ⟨v', m, h1' ++ h2, hg', env1 (blt_sz hN hn) (ov_p.2 ⟨rfl, own.one ho'⟩), ⟨h1', h2, rfl, ho', hs2⟩, Frm.ofPerm hpm hf'⟩
theorem w_call {f : FuncId} {args : List Operand} {ats : Array TypeId} {A : List Slot} {E : List Ent} {ι : Type} {ρ : ι → Slot} {ε : ι → List Ent} (hA : HasL Γ args A) (hf : callB c.P f = true)
    (hC : Ctr c.P c.G f A E ρ ε) (hE : Parts H E H') (hN : Nat.blt d c.N = true) :
    WJ c ⟨some d, .call { callee := .value (.func f), args := args.toArray, argTypes := ats }, ty, pos, aft, g⟩ Γ H (fun i => [(d, ρ i)]) (fun i => ε i ++ H') := by
  intro m hs2 a w hg hG hsat ho hn
  rw [run_call hf a.eval (.func f) rfl]
  have hall := hA.all (m := m) (a := a) (fun y hy => ho y (by simp [Op.operands, Call.operands, hy]))
  obtain ⟨h1, h2, hp, hs1, hs3⟩ := hsat.parts hE
  have hgp := hg.perm hp
  have hg1 : Good m h1 w := Good.sub (hs := h2) (hgp.perm List.perm_append_comm)
  refine (hC m w (args.map a.eval) h1 hg1 hG hall hs1).mono ?_
  rintro e w' ⟨v, m', hs', i, rfl, hg', hv, hsat', hf'⟩
  have hnd := hgp.nodup
  rw [Hp.bs_append] at hnd
  have hdj := (List.nodup_append.1 hnd).2.2
  have hn2 : ∀ x ∈ h2, x.1 ∉ Hp.bs h1 := fun x hx h => hdj x.1 h x.1 (List.mem_map_of_mem (f := (·.1)) hx) rfl
  have hl2 : ∀ x ∈ h2, x.1 < w.heap.size := fun x hx => hgp.ltb (by rw [Hp.bs_append]; exact List.mem_append.2 (.inr (List.mem_map_of_mem (f := (·.1)) hx)))
  have hg3 : Good m' (hs' ++ h2) w' := by
    refine ⟨hg'.mem, ?_, fun x hx => ?_, fun x hx o => ?_⟩
    · rw [Hp.bs_append]
      refine List.nodup_append.2 ⟨hg'.nodup, (List.nodup_append.1 hnd).2.1, fun b hb b' hb' e => ?_⟩
      subst e
      obtain ⟨x, hx, rfl⟩ := List.mem_map.1 hb'
      rcases hf'.own x.1 hb with h | h
      · exact hn2 x hx h
      · exact absurd (hl2 x hx) (Nat.not_lt.2 h)
    · rcases List.mem_append.1 hx with hx | hx
      · exact hg'.blk x hx
      · rw [(hf'.old x.1 (hl2 x hx) (hn2 x hx)).1]; exact hgp.blk x (List.mem_append.2 (.inr hx))
    · rcases List.mem_append.1 hx with hx | hx
      · exact hg'.free x hx o
      · rw [(hf'.old x.1 (hl2 x hx) (hn2 x hx)).2 o]; exact hgp.free x (List.mem_append.2 (.inr hx)) o
  refine ⟨v, rfl, i, m', hs' ++ h2, hg3, env1 (blt_sz hN hn) hv, hsat'.append (hs3.mono hf'.le), ?_⟩
  refine Frm.ofPerm hp ?_
  rw [Hp.bs_append, Hp.bs_append]
  exact hf'.wide (Hp.bs h2)
end
end Go.Sl
