import Derived.Test.YtbaecpklplkciaaDoorCode
set_option linter.unusedSimpArgs false
set_option linter.unusedVariables false
set_option linter.unusedSectionVars false
namespace Go.Sl
section
variable {c : Ctx} {full : Array Oper} {l : List Oper} {Γ Γ' : Env} {H H' : List Ent} {K : Act → World → Prop} {d : Tmp} {od : Option Tmp} {ty : TypeId} {pos : String} {aft : Array Edge} {g : Option (Nat × Bool)} {α β : Type}
theorem PJ.eqv {o : Oper} {R : Rep α} {x y : α} (h : PJ c o Γ H (R.slot x)) (e : x = y) : PJ c o Γ H (R.slot y) := e ▸ h
/-! ## The same, in the models' words -/
theorem pj_index_slx {T : TypeId} {x y : Operand} {R : Rep α} {xs : List α} {i : Int} {s : Slot} {z : α} (hx : Has Γ x ((sl R).slot xs)) (hy : Has Γ y s) (hs : IsInt s i) (h : lget xs i = some z) (hT : slB c.P T R.n = true) :
    PJ c ⟨od, .indexAddr T x y, ty, pos, aft, g⟩ Γ H (ptrTo R z) := by
  obtain ⟨h0, hi, rfl⟩ := lget_some h
  exact pj_index_sl hx hy hs h0 hi hT
theorem pj_index_tox {T n : Nat} {x y : Operand} {R : Rep α} {v : Vector α n} {i : Int} {s : Slot} {z : α} (hx : Has Γ x (ptrTo (vec n R) v)) (hy : Has Γ y s) (hs : IsInt s i) (h : vget v i = some z) (hT : arrB c.P T n R.n = true) :
    PJ c ⟨od, .indexAddr T x y, ty, pos, aft, g⟩ Γ H (ptrTo R z) := by
  obtain ⟨h0, hi, rfl⟩ := vget_some h
  exact pj_index_to hx hy hs h0 hi hT
theorem pj_index_valx {T n e : Nat} {x y : Operand} {R : Rep α} {v : Vector α n} {i : Int} {s : Slot} {z : α} (hx : Has Γ x ((vec n R).slot v)) (hy : Has Γ y s) (hs : IsInt s i) (h : vget v i = some z)
    (hT : c.P.underlying T = some (.array n e)) (he : tyB c.P e R.ag R.n = true) : PJ c ⟨od, .index T x y, ty, pos, aft, g⟩ Γ H (R.slot z) := by
  obtain ⟨h0, hi, rfl⟩ := vget_some h
  exact pj_index_val hx hy hs h0 hi hT he
theorem pj_slice_slx {T : TypeId} {x : Operand} {lo hi : Option Operand} {R : Rep α} {xs r : List α} {p q : Option Int} (hx : Has Γ x ((sl R).slot xs)) (hlo : OptI Γ lo p) (hhi : OptI Γ hi q)
    (h : lslice xs (p.getD 0) (q.getD xs.length) = some r) (hT : slB c.P T R.n = true) : PJ c ⟨od, .slice T x lo hi none, ty, pos, aft, g⟩ Γ H ((sl R).slot r) := by
  obtain ⟨h0, h1, h2, rfl⟩ := lslice_some h
  exact pj_slice_sl hx hlo hhi h0 h1 h2 hT
theorem pj_s2apx {T n e : Nat} {x : Operand} {R : Rep α} {xs : List α} {v : Vector α n} (hx : Has Γ x ((sl R).slot xs)) (h : toVecO n xs = some v) (hn : Nat.blt 0 n = true) (hT : c.P.underlying T = some (.array n e)) :
    PJ c ⟨od, .sliceToArrayPointer T x, ty, pos, aft, g⟩ Γ H (ptrTo (vec n R) v) := by
  obtain ⟨hl, rfl⟩ := toVecO_some h
  exact pj_s2ap hx hl (by simpa [Nat.blt_eq] using hn) hT
/-! ## Three bounds -/
theorem run_slice3 {P : Program} {T sz : Nat} (hT : slB P T sz = true) {a : Option Addr} {len cap : Nat} {kh km : IntKind} {h m : Int} (h0 : 0 ≤ h) (h1 : h ≤ m) (h2 : m ≤ cap) (w : World) :
    (Instr.sliceAt T (.slice a len cap) none (some (.int kh h)) (some (.int km m))).run P w = .ok (.slice a h.toNat m.toNat) w := by
  obtain ⟨e, hu, hs⟩ := slB_of hT
  have hz := szB_run hs w
  have hb : ∀ (k : IntKind) (n : Int) (y : Nat) (code : BoundsCode), 0 ≤ n → n ≤ y → (Instr.sliceBound (.int k n) y code).run P w = .ok n.toNat w := by
    intro k n y code h0 h1
    simp [Instr.sliceBound, asIntOf, h0, h1]
  have e1 := hb km m cap .slice3Acap (by omega) h2
  have e2 := hb kh h m.toNat .slice3B h0 (by omega)
  simp only [Instr.sliceAt, Sem.run_bind, run_underlying hu, Result.andThen_ok, Instr.slice, Instr.sliceBounds, if_true, e1, e2, Sem.run_pure, hz]
  congr 1
  by_cases hm : m.toNat = 0
  · simp [hm]
  · simp only [hm, if_false, Nat.zero_mul, Nat.sub_zero]
    congr 1
    cases a with
    | none => rfl
    | some a => simp [Addr.add]
theorem pj_slice3 {T : TypeId} {x y z : Operand} {R : Rep α} {xs r : List α} {p : Int} (hx : Has Γ x ((sl R).slot xs)) (hy : Has Γ y (i64.slot p)) (hz : Has Γ z (i64.slot p))
    (h : lslice xs 0 p = some r) (hT : slB c.P T R.n = true) : PJ c ⟨od, .slice T x none (some y) (some z), ty, pos, aft, g⟩ Γ H ((sl R).slot r) :=
  pj_of fun m hs2 a w hg _ _ ho => by
    obtain ⟨a0, cap, e, hc, hrow⟩ := hx m a (ho x (by simp [Op.operands]))
    simp only [List.cons.injEq, and_true] at e
    have ey := i64_p.1 (hy m a (ho y (by simp [Op.operands])))
    have ez := i64_p.1 (hz m a (ho z (by simp [Op.operands])))
    obtain ⟨_, h0, h1, rfl⟩ := lslice_some h
    have hr := run_slice3 (P := c.P) hT (a := a0) (len := xs.length) (cap := cap) (kh := .i64) (km := .i64) h0 (Int.le_refl p) (by omega) w
    refine ⟨.slice a0 p.toNat p.toNat, ?_, ?_⟩
    · simp only [execOp, e, Option.map_none, Option.map_some, ey, ez, Sem.run_bind, hr, Result.andThen_ok, Sem.run_pure]
    · have hlen : ((xs.take p.toNat).drop (0 : Int).toNat).length = p.toNat := by simp; omega
      refine ⟨a0, p.toNat, by rw [hlen], by rw [hlen]; exact Nat.le_refl _, ?_⟩
      rcases hrow with rfl | ⟨b, o, row, rfl, hrw, hat⟩
      · exact .inl (by simp)
      · refine .inr ⟨b, o, row.take (p.toNat * R.n), rfl, by simpa using hrw.take p.toNat, ?_⟩
        have := hat.mid 0 (p.toNat * R.n)
        simpa using this
/-! ## A slice of the call's own: reading, writing, cutting -/
/-- The address of a cell of a slice of the call's own. -/
def ownAt (v : Value) (k : Nat) : Slot := ⟨fun _ u => ∃ b n cap, v = .slice (some ⟨b, 0, none⟩) n cap ∧ u = .pointer (some ⟨b, k, none⟩), fun _ h => h⟩
theorem own.at {T : TypeId} {R : Rep α} {v : Value} {xs : List α} {m : Mem} {hs : Hp} (h : (own T R v xs).p m hs) (hne : xs ≠ []) :
    ∃ b cap row spare, v = .slice (some ⟨b, 0, none⟩) xs.length cap ∧ hs = [(b, T, row ++ spare)] ∧ RowC R m row xs ∧ xs.length ≤ cap ∧ (row ++ spare).length = cap * R.n :=
  h.resolve_left fun h => hne h.1
theorem pj_index_own {T T0 : TypeId} {x y : Operand} {v : Value} {R : Rep α} {xs : List α} {i : Int} {s : Slot} (hx : Has Γ x (ov v)) (hk : Pick H (own T0 R v xs) H') (hy : Has Γ y s) (hs : IsInt s i) (h0 : 0 ≤ i) (h1 : i.toNat < xs.length)
    (hT : slB c.P T R.n = true) : PJ c ⟨od, .indexAddr T x y, ty, pos, aft, g⟩ Γ H (ownAt v (i.toNat * R.n)) :=
  pj_of fun m hs2 a w hg _ hsat ho => by
    have e := (ov_p.1 (hx m a (ho x (by simp [Op.operands])))).1
    obtain ⟨k, ek⟩ := hs m _ (hy m a (ho y (by simp [Op.operands])))
    obtain ⟨g1, g2, hp, hown, _⟩ := hsat.pick hk
    obtain ⟨b, cap, row, spare, hv, _⟩ := own.at hown (fun e => by subst e; simp at h1)
    rw [hv] at e
    refine ⟨_, by simp only [execOp, e, ek, Sem.run_bind, run_indexAt_sl hT b 0 xs.length cap k h0 (by omega)]; rfl, b, _, _, hv, by simp⟩
theorem own_cells {m : Mem} {hs : Hp} {w : World} {b : Nat} {T : TypeId} {R : Rep α} {row spare : List Value} {xs : List α} {i : Nat} (hg : Good m hs w) (hmem : (b, T, row ++ spare) ∈ hs) (hr : RowC R m row xs) (hi : i < xs.length) (j : Nat) (u : Value)
    (e : ((row.drop (i * R.n)).take R.n)[j]? = some u) : w.cell? ⟨b, i * R.n + j, none⟩ = some u := by
  rw [List.getElem?_take] at e
  split at e
  · rw [List.getElem?_drop] at e
    exact hg.cells hmem _ _ (by rw [List.getElem?_append_left]; exact e; exact (List.getElem?_eq_some_iff.1 e).1)
  · cases e
theorem pj_load_own {T T0 i off : Nat} {x : Operand} {v : Value} {R : Rep α} {S : Rep β} {xs : List α} {get : α → β} {set : α → β → α} (hx : Has Γ x (ownAt v (i * R.n + off))) (hk : Pick H (own T0 R v xs) H') (h1 : i < xs.length) (hp : Path R off S get set)
    (hT : tyB c.P T S.ag S.n = true) : PJ c ⟨od, .load T x, ty, pos, aft, g⟩ Γ H (S.slot (get xs[i])) :=
  pj_of fun m hs2 a w hg _ hsat ho => by
    obtain ⟨b', n, cap', hv', e⟩ := hx m a (ho x (by simp [Op.operands]))
    obtain ⟨g1, g2, hpm, hown, _⟩ := hsat.pick hk
    obtain ⟨b, cap, row, spare, hv, hg1, hr, _, _⟩ := own.at hown (fun e => by subst e; simp at h1)
    rw [hv'] at hv
    simp only [Value.slice.injEq, Option.some.injEq, Addr.mk.injEq] at hv
    obtain ⟨⟨rfl, _⟩, _⟩ := hv
    have hmem : (b', T0, row ++ spare) ∈ hs2 := hpm.mem_iff.2 (by rw [hg1]; simp)
    have hr1 := RowC.get hr h1
    have hr' := hp.get_ok hr1
    refine ⟨_, ?_, Rep.is_of hr'⟩
    simp only [execOp, e, Sem.run_bind]
    rw [run_loadVar_cells hT (S.len hr') S.one]
    · rfl
    · intro j u ej
      rw [List.getElem?_take] at ej
      split at ej
      · rw [List.getElem?_drop] at ej
        have := own_cells hg hmem hr h1 (off + j) u ej
        rwa [← Nat.add_assoc] at this
      · cases ej
theorem j_store_own {T T0 i off : Nat} {x y : Operand} {v : Value} {R : Rep α} {S : Rep β} {xs : List α} {z : β} {get : α → β} {set : α → β → α} (hx : Has Γ x (ownAt v (i * R.n + off))) (hy : Has Γ y (S.slot z)) (hk : Pick H (own T0 R v xs) H') (h1 : i < xs.length)
    (hp : Path R off S get set) (hT : szB c.P T S.n = true)
    (k : OpsJ c full l Γ (own T0 R v (xs.set i (set xs[i] z)) :: H') K) : OpsJ c full (⟨none, .store T x y, ty, pos, aft, none⟩ :: l) Γ H K := by
  refine j_step rfl ?_ k
  intro m hs a w hg _ hsat he hn
  obtain ⟨b', n, cap', hv', e⟩ := hx m a (he.opd x)
  obtain ⟨ds, hc, hd⟩ := Rep.is_cells (hy m a (he.opd y))
  obtain ⟨g1, g2, hpm, hown, hs2⟩ := hsat.pick hk
  obtain ⟨b, cap, row, spare, hv, hg1, hr, hcap, hlen⟩ := own.at hown (fun e => by subst e; simp at h1)
  have hv0 := hv
  rw [hv'] at hv
  simp only [Value.slice.injEq, Option.some.injEq, Addr.mk.injEq] at hv
  obtain ⟨⟨rfl, _⟩, _⟩ := hv
  subst hg1
  have hg' := hg.perm hpm
  have hfit := hp.fits
  have hrl := hr.length
  have hle : i * R.n + R.n ≤ row.length := by
    rw [hrl]
    calc i * R.n + R.n = (i + 1) * R.n := by rw [Nat.add_mul, Nat.one_mul]
      _ ≤ xs.length * R.n := Nat.mul_le_mul_right _ h1
  have hr1 := RowC.get hr h1
  have hset := RowC.set hr h1 (hp.set_ok hr1 hd)
  have hdl := S.len hd
  -- the row behind the store
  have erow : row.take (i * R.n) ++ (((row.drop (i * R.n)).take R.n).take off ++ ds ++ ((row.drop (i * R.n)).take R.n).drop (off + S.n)) ++ row.drop (i * R.n + R.n) = row.take (i * R.n + off) ++ ds ++ row.drop (i * R.n + off + S.n) := by
    rw [List.take_take, Nat.min_eq_left (by omega), List.take_add]
    have e2 : ((row.drop (i * R.n)).take R.n).drop (off + S.n) ++ row.drop (i * R.n + R.n) = row.drop (i * R.n + off + S.n) := by
      rw [List.drop_take, List.drop_drop]
      have : row.drop (i * R.n + R.n) = (row.drop (i * R.n + (off + S.n))).drop (R.n - (off + S.n)) := by rw [List.drop_drop]; congr 1; omega
      rw [this, List.take_append_drop]
      congr 1; omega
    simp only [List.append_assoc] at *
    rw [e2]
  rw [erow] at hset
  have hst := run_storeAt (P := c.P) (b := b') (o := i * R.n + off) (cs := row ++ spare) hT hc hdl (S.cell hd) (hg'.blk (b', T0, row ++ spare) (by simp)) (by rw [List.length_append]; omega)
  have ecs : (row ++ spare).take (i * R.n + off) ++ ds ++ (row ++ spare).drop (i * R.n + off + S.n) = (row.take (i * R.n + off) ++ ds ++ row.drop (i * R.n + off + S.n)) ++ spare := by
    rw [List.take_append, List.drop_append]
    have z1 : i * R.n + off - row.length = 0 := by omega
    have z2 : i * R.n + off + S.n - row.length = 0 := by omega
    simp [z1, z2]
  rw [ecs] at hst
  have hrun : (execOp a.eval ⟨none, .store T x y, ty, pos, aft, none⟩).run c.P w = .ok .skip (setBlk w b' T0 ((row.take (i * R.n + off) ++ ds ++ row.drop (i * R.n + off + S.n)) ++ spare)) := by
    simp only [execOp, e, Sem.run_bind, hst]
    rfl
  rw [hrun]
  refine ⟨m, (b', T0, (row.take (i * R.n + off) ++ ds ++ row.drop (i * R.n + off + S.n)) ++ spare) :: g2, hg'.setBlk _, he, ⟨[_], g2, rfl, .inr ⟨b', cap, _, spare, ?_, rfl, hset, ?_, ?_⟩, hs2⟩, ?_⟩
  · rw [hv0]; simp
  · simpa using hcap
  · rw [← hlen]
    simp only [List.length_append, List.length_take, List.length_drop]
    omega
  · exact Frm.ofPerm hpm (Frm.setBlk (by simp [Hp.bs]))
/-- 's[:n]', the slice itself cut. -/
theorem j_slice_own {T T0 : TypeId} {x y : Operand} {v : Value} {R : Rep α} {xs : List α} {n : Int} {s : Slot} (hx : Has Γ x (ov v)) (hk : Pick H (own T0 R v xs) H') (hy : Has Γ y s) (hs : IsInt s n) (h0 : 0 ≤ n) (h1 : n ≤ xs.length) (hT : slB c.P T R.n = true) (hN : Nat.blt d c.N = true)
    (k : ∀ v', OpsJ c full l ((d, ov v') :: Γ) (own T0 R v' (xs.take n.toNat) :: H') K) : OpsJ c full (⟨some d, .slice T x none (some y) none, ty, pos, aft, none⟩ :: l) Γ H K := by
  refine j_step_ex (Γ2 := fun v' => (d, ov v') :: Γ) (H2 := fun v' => own T0 R v' (xs.take n.toNat) :: H') rfl ?_ k
  intro m hs2 a w hg _ hsat he hn
  have e := (ov_p.1 (hx m a (he.opd x))).1
  obtain ⟨kk, ek⟩ := hs m _ (hy m a (he.opd y))
  obtain ⟨g1, g2, hpm, hown, hs3⟩ := hsat.pick hk
  have hlt : (xs.take n.toNat).length = n.toNat := by rw [List.length_take, Nat.min_eq_left (by omega)]
  rcases hown with ⟨rfl, rfl, ad, rfl⟩ | ⟨b, cap, row, spare, rfl, rfl, hr, hcap, hlen⟩
  · have hn0 : n = 0 := by simp at h1; omega
    subst hn0
    have hr := run_slice_sl (P := c.P) hT (a := ad) (len := 0) (cap := 0) (lo := none) (hi := some (.int kk 0)) (l := none) (h := some 0) (.inl ⟨rfl, rfl⟩) (.inr ⟨kk, 0, rfl, rfl⟩) (by simp) (by simp) (by simp) w
    simp only [Option.getD_none, Option.getD_some, Int.toNat_zero, if_true, Nat.sub_self] at hr
    have hrun : (execOp a.eval ⟨some d, .slice T x none (some y) none, ty, pos, aft, none⟩).run c.P w = .ok (.value (.slice ad 0 0)) w := by
      simp only [execOp, e, Option.map_none, Option.map_some, ek, Sem.run_bind, hr, Result.andThen_ok, Sem.run_pure]
    rw [hrun]
    exact ⟨.slice ad 0 0, m, g2, by simpa using hg.perm hpm, he.put (by rw [hn]; simpa [Nat.blt_eq] using hN) ov_slice, ⟨[], g2, rfl, .inl ⟨by simp, rfl, ad, rfl⟩, hs3⟩, Frm.ofPerm hpm (Frm.refl w m _)⟩
  · have hr2 := run_slice_sl (P := c.P) hT (a := some ⟨b, 0, none⟩) (len := xs.length) (cap := cap) (lo := none) (hi := some (.int kk n)) (l := none) (h := some n) (.inl ⟨rfl, rfl⟩) (.inr ⟨kk, n, rfl, rfl⟩) (by simp) (by simpa using h0) (by simp; omega) w
    simp only [Option.getD_none, Option.getD_some, Int.toNat_zero, Nat.sub_zero, Nat.zero_mul, Option.map_some, Addr.add_lit, Nat.add_zero] at hr2
    have hif : (if cap = 0 then some (⟨b, 0, none⟩ : Addr) else some ⟨b, 0, none⟩) = some ⟨b, 0, none⟩ := by split <;> rfl
    rw [hif] at hr2
    have hrun : (execOp a.eval ⟨some d, .slice T x none (some y) none, ty, pos, aft, none⟩).run c.P w = .ok (.value (.slice (some ⟨b, 0, none⟩) n.toNat cap)) w := by
      simp only [execOp, e, Option.map_none, Option.map_some, ek, Sem.run_bind, hr2, Result.andThen_ok, Sem.run_pure]
    rw [hrun]
    refine ⟨_, m, [(b, T0, row ++ spare)] ++ g2, hg.perm hpm, he.put (by rw [hn]; simpa [Nat.blt_eq] using hN) ov_slice, ⟨_, g2, rfl, .inr ⟨b, cap, row.take (n.toNat * R.n), row.drop (n.toNat * R.n) ++ spare, by rw [hlt], by rw [← List.append_assoc, List.take_append_drop], hr.take _, by rw [hlt]; omega, ?_⟩, hs3⟩, Frm.ofPerm hpm (Frm.refl _ _ _)⟩
    rw [← List.append_assoc, List.take_append_drop, hlen]
end
end Go.Sl
