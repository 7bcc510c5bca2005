import Derived.Test.YtodeiommhponnaaDoorCode
set_option linter.unusedSimpArgs false
set_option linter.unusedVariables false
set_option linter.unusedSectionVars false
namespace Go.Sl
section
variable {c : Ctx} {full : Array Oper} {l : List Oper} {Γ Γ' : Env} {H H' : List Ent} {K : Act → World → Prop} {d : Tmp} {od : Option Tmp} {ty : TypeId} {pos : String} {aft : Array Edge} {g : Option (Nat × Bool)} {α β : Type}
theorem PJ.eqv {o : Oper} {R : Rep α} {x y : α} (h : PJ c o Γ H (R.slot x)) (e : x = y) : PJ c o Γ H (R.slot y) := e ▸ h
/-! ## The same, in the models' words -/
theorem pj_index_slx {T : TypeId} {x y : Operand} {R : Rep α} {xs : List α} {i : Int} {s : Slot} {z : α} (hx : Has Γ x ((sl R).slot xs)) (hy : Has Γ y s) (hs : IsInt s i) (h : lget xs i = some z) (hT : slB c.P T R.n = true) :
    PJ c ⟨od, .indexAddr T x y, ty, pos, aft, g⟩ Γ H (ptrTo R z) := by
  obtain ⟨h0, hi, rfl⟩ := lget_some h
  exact pj_index_sl hx hy hs h0 hi hT
theorem pj_index_tox {T n : Nat} {x y : Operand} {R : Rep α} {v : Vector α n} {i : Int} {s : Slot} {z : α} (hx : Has Γ x (ptrTo (vec n R) v)) (hy : Has Γ y s) (hs : IsInt s i) (h : vget v i = some z) (hT : arrB c.P T n R.n = true) :
    PJ c ⟨od, .indexAddr T x y, ty, pos, aft, g⟩ Γ H (ptrTo R z) := by
  obtain ⟨h0, hi, rfl⟩ := vget_some h
  exact pj_index_to hx hy hs h0 hi hT
theorem pj_slice_slx {T : TypeId} {x : Operand} {lo hi : Option Operand} {R : Rep α} {xs r : List α} {p q : Option Int} (hx : Has Γ x ((sl R).slot xs)) (hlo : OptI Γ lo p) (hhi : OptI Γ hi q)
    (h : lslice xs (p.getD 0) (q.getD xs.length) = some r) (hT : slB c.P T R.n = true) : PJ c ⟨od, .slice T x lo hi none, ty, pos, aft, g⟩ Γ H ((sl R).slot r) := by
  obtain ⟨h0, h1, h2, rfl⟩ := lslice_some h
  exact pj_slice_sl hx hlo hhi h0 h1 h2 hT
/-! ## Three bounds -/
/-! ## A slice of the call's own: reading, writing, cutting -/
/-- The address of a cell of a slice of the call's own. -/
def ownAt (v : Value) (k : Nat) : Slot := ⟨fun _ u => ∃ b n cap, v = .slice (some ⟨b, 0, none⟩) n cap ∧ u = .pointer (some ⟨b, k, none⟩), fun _ h => h⟩
theorem own.at {T : TypeId} {R : Rep α} {v : Value} {xs : List α} {m : Mem} {hs : Hp} (h : (own T R v xs).p m hs) (hne : xs ≠ []) :
    ∃ b cap row spare, v = .slice (some ⟨b, 0, none⟩) xs.length cap ∧ hs = [(b, T, row ++ spare)] ∧ RowC R m row xs ∧ xs.length ≤ cap ∧ (row ++ spare).length = cap * R.n :=
  h.resolve_left fun h => hne h.1
theorem pj_index_own {T T0 : TypeId} {x y : Operand} {v : Value} {R : Rep α} {xs : List α} {i : Int} {s : Slot} (hx : Has Γ x (ov v)) (hk : Pick H (own T0 R v xs) H') (hy : Has Γ y s) (hs : IsInt s i) (h0 : 0 ≤ i) (h1 : i.toNat < xs.length)
    (hT : slB c.P T R.n = true) : PJ c ⟨od, .indexAddr T x y, ty, pos, aft, g⟩ Γ H (ownAt v (i.toNat * R.n)) :=
  pj_of fun m hs2 a w hg _ hsat ho => by
    have e := (ov_p.1 (hx m a (ho x (by simp [Op.operands])))).1
    obtain ⟨k, ek⟩ := hs m _ (hy m a (ho y (by simp [Op.operands])))
    obtain ⟨g1, g2, hp, hown, _⟩ := hsat.pick hk
    obtain ⟨b, cap, row, spare, hv, _⟩ := own.at hown (fun e => by subst e; simp at h1)
    rw [hv] at e
    refine ⟨_, by simp only [execOp, e, ek, Sem.run_bind, run_indexAt_sl hT b 0 xs.length cap k h0 (by omega)]; rfl, b, _, _, hv, by simp⟩
theorem pj_field_own {S f off k : Nat} {x : Operand} {v : Value} (hx : Has Γ x (ownAt v k)) (hf : fldB c.P S f off = true) : PJ c ⟨od, .fieldAddr S x f, ty, pos, aft, g⟩ Γ H (ownAt v (k + off)) :=
  pj_of fun m hs a w hg _ _ ho => by
    obtain ⟨b, n, cap, hv, e⟩ := hx m a (ho x (by simp [Op.operands]))
    exact ⟨_, by simp only [execOp, e, Sem.run_bind, fldB_run hf]; rfl, b, n, cap, hv, rfl⟩
theorem own_cells {m : Mem} {hs : Hp} {w : World} {b : Nat} {T : TypeId} {R : Rep α} {row spare : List Value} {xs : List α} {i : Nat} (hg : Good m hs w) (hmem : (b, T, row ++ spare) ∈ hs) (hr : RowC R m row xs) (hi : i < xs.length) (j : Nat) (u : Value)
    (e : ((row.drop (i * R.n)).take R.n)[j]? = some u) : w.cell? ⟨b, i * R.n + j, none⟩ = some u := by
  rw [List.getElem?_take] at e
  split at e
  · rw [List.getElem?_drop] at e
    exact hg.cells hmem _ _ (by rw [List.getElem?_append_left]; exact e; exact (List.getElem?_eq_some_iff.1 e).1)
  · cases e
theorem pj_load_own {T T0 i off : Nat} {x : Operand} {v : Value} {R : Rep α} {S : Rep β} {xs : List α} {get : α → β} {set : α → β → α} (hx : Has Γ x (ownAt v (i * R.n + off))) (hk : Pick H (own T0 R v xs) H') (h1 : i < xs.length) (hp : Path R off S get set)
    (hT : tyB c.P T S.ag S.n = true) : PJ c ⟨od, .load T x, ty, pos, aft, g⟩ Γ H (S.slot (get xs[i])) :=
  pj_of fun m hs2 a w hg _ hsat ho => by
    obtain ⟨b', n, cap', hv', e⟩ := hx m a (ho x (by simp [Op.operands]))
    obtain ⟨g1, g2, hpm, hown, _⟩ := hsat.pick hk
    obtain ⟨b, cap, row, spare, hv, hg1, hr, _, _⟩ := own.at hown (fun e => by subst e; simp at h1)
    rw [hv'] at hv
    simp only [Value.slice.injEq, Option.some.injEq, Addr.mk.injEq] at hv
    obtain ⟨⟨rfl, _⟩, _⟩ := hv
    have hmem : (b', T0, row ++ spare) ∈ hs2 := hpm.mem_iff.2 (by rw [hg1]; simp)
    have hr1 := RowC.get hr h1
    have hr' := hp.get_ok hr1
    refine ⟨_, ?_, Rep.is_of hr'⟩
    simp only [execOp, e, Sem.run_bind]
    rw [run_loadVar_cells hT (S.len hr') S.one]
    · rfl
    · intro j u ej
      rw [List.getElem?_take] at ej
      split at ej
      · rw [List.getElem?_drop] at ej
        have := own_cells hg hmem hr h1 (off + j) u ej
        rwa [← Nat.add_assoc] at this
      · cases ej
theorem j_store_own {T T0 i off : Nat} {x y : Operand} {v : Value} {R : Rep α} {S : Rep β} {xs : List α} {z : β} {get : α → β} {set : α → β → α} (hx : Has Γ x (ownAt v (i * R.n + off))) (hy : Has Γ y (S.slot z)) (hk : Pick H (own T0 R v xs) H') (h1 : i < xs.length)
    (hp : Path R off S get set) (hT : szB c.P T S.n = true)
    (k : OpsJ c full l Γ (own T0 R v (xs.set i (set xs[i] z)) :: H') K) : OpsJ c full (⟨none, .store T x y, ty, pos, aft, none⟩ :: l) Γ H K := by
  refine j_step rfl ?_ k
  intro m hs a w hg _ hsat he hn
  obtain ⟨b', n, cap', hv', e⟩ := hx m a (he.opd x)
  obtain ⟨ds, hc, hd⟩ := Rep.is_cells (hy m a (he.opd y))
  obtain ⟨g1, g2, hpm, hown, hs2⟩ := hsat.pick hk
  obtain ⟨b, cap, row, spare, hv, hg1, hr, hcap, hlen⟩ := own.at hown (fun e => by subst e; simp at h1)
  have hv0 := hv
  rw [hv'] at hv
  simp only [Value.slice.injEq, Option.some.injEq, Addr.mk.injEq] at hv
  obtain ⟨⟨rfl, _⟩, _⟩ := hv
  subst hg1
  have hg' := hg.perm hpm
  have hfit := hp.fits
  have hrl := hr.length
  have hle : i * R.n + R.n ≤ row.length := by
    rw [hrl]
    calc i * R.n + R.n = (i + 1) * R.n := by rw [Nat.add_mul, Nat.one_mul]
      _ ≤ xs.length * R.n := Nat.mul_le_mul_right _ h1
  have hr1 := RowC.get hr h1
  have hset := RowC.set hr h1 (hp.set_ok hr1 hd)
  have hdl := S.len hd
  -- the row behind the store
  have erow : row.take (i * R.n) ++ (((row.drop (i * R.n)).take R.n).take off ++ ds ++ ((row.drop (i * R.n)).take R.n).drop (off + S.n)) ++ row.drop (i * R.n + R.n) = row.take (i * R.n + off) ++ ds ++ row.drop (i * R.n + off + S.n) := by
    rw [List.take_take, Nat.min_eq_left (by omega), List.take_add]
    have e2 : ((row.drop (i * R.n)).take R.n).drop (off + S.n) ++ row.drop (i * R.n + R.n) = row.drop (i * R.n + off + S.n) := by
      rw [List.drop_take, List.drop_drop]
      have : row.drop (i * R.n + R.n) = (row.drop (i * R.n + (off + S.n))).drop (R.n - (off + S.n)) := by rw [List.drop_drop]; congr 1; omega
      rw [this, List.take_append_drop]
      congr 1; omega
    simp only [List.append_assoc] at *
    rw [e2]
  rw [erow] at hset
  have hst := run_storeAt (P := c.P) (b := b') (o := i * R.n + off) (cs := row ++ spare) hT hc hdl (S.cell hd) (hg'.blk (b', T0, row ++ spare) (by simp)) (by rw [List.length_append]; omega)
  have ecs : (row ++ spare).take (i * R.n + off) ++ ds ++ (row ++ spare).drop (i * R.n + off + S.n) = (row.take (i * R.n + off) ++ ds ++ row.drop (i * R.n + off + S.n)) ++ spare := by
    rw [List.take_append, List.drop_append]
    have z1 : i * R.n + off - row.length = 0 := by omega
    have z2 : i * R.n + off + S.n - row.length = 0 := by omega
    simp [z1, z2]
  rw [ecs] at hst
  have hrun : (execOp a.eval ⟨none, .store T x y, ty, pos, aft, none⟩).run c.P w = .ok .skip (setBlk w b' T0 ((row.take (i * R.n + off) ++ ds ++ row.drop (i * R.n + off + S.n)) ++ spare)) := by
    simp only [execOp, e, Sem.run_bind, hst]
    rfl
  rw [hrun]
  refine ⟨m, (b', T0, (row.take (i * R.n + off) ++ ds ++ row.drop (i * R.n + off + S.n)) ++ spare) :: g2, hg'.setBlk _, he, ⟨[_], g2, rfl, .inr ⟨b', cap, _, spare, ?_, rfl, hset, ?_, ?_⟩, hs2⟩, ?_⟩
  · rw [hv0]; simp
  · simpa using hcap
  · rw [← hlen]
    simp only [List.length_append, List.length_take, List.length_drop]
    omega
  · exact Frm.ofPerm hpm (Frm.setBlk (by simp [Hp.bs]))
end
end Go.Sl
