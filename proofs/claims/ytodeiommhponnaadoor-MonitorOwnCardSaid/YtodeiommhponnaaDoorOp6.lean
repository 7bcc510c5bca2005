import Derived.Test.YtodeiommhponnaaDoorOp5
set_option linter.unusedSimpArgs false
set_option linter.unusedVariables false
set_option linter.unusedSectionVars false
namespace Go.Sl
section
variable {c : Ctx} {full : Array Oper} {l : List Oper} {Γ Γ' : Env} {H H' : List Ent} {K : Act → World → Prop} {d : Tmp} {od : Option Tmp} {ty : TypeId} {pos : String} {aft : Array Edge} {g : Option (Nat × Bool)} {α β : Type}
/-! ## Structs and arrays put together -/
/-- Where the i-th part of a struct or an array lies. -/
def placeOf (P : Program) (T i : Nat) : Option (Nat × Nat) :=
  match P.underlying T with
  | some (.struct fs) => (fs[i]?).bind fun f => (P.info? f.type).map fun t => (f.offset, t.size)
  | some (.array _ e) => (P.info? e).map fun t => (i * t.size, t.size)
  | _ => none
inductive BuildJ (P : Program) (T : TypeId) (Γ : Env) (R : Rep α) : List (Nat × Operand) → α → α → Prop
  | nil {x : α} : BuildJ P T Γ R [] x x
  | cons {β : Type} {i off : Nat} {y : Operand} {S : Rep β} {z : β} {get : α → β} {set : α → β → α} {ps : List (Nat × Operand)} {x r : α} :
    Has Γ y (S.slot z) → Path R off S get set → placeOf P T i = some (off, S.n) → BuildJ P T Γ R ps (set x z) r → BuildJ P T Γ R ((i, y) :: ps) x r
theorem foldl_splice (off : Nat) : ∀ (ds : List Value) (k : Nat) (cs : List Value), off + k + ds.length ≤ cs.length →
    ((ds.zipIdx k).foldl (fun cs (p : Value × Nat) => cs.setIfInBounds (off + p.2) p.1) cs.toArray) = (cs.take (off + k) ++ ds ++ cs.drop (off + k + ds.length)).toArray
  | [], k, cs, _ => by simp
  | v :: ds, k, cs, h => by
    simp only [List.length_cons] at h
    have hlt : off + k < cs.length := by omega
    have ih := foldl_splice off ds (k + 1) (cs.set (off + k) v) (by simp; omega)
    simp only [List.zipIdx_cons, List.foldl_cons]
    have e : cs.toArray.setIfInBounds (off + k) v = (cs.set (off + k) v).toArray := by simp
    rw [e, ih]
    congr 1
    have e1 : (cs.set (off + k) v).take (off + (k + 1)) = cs.take (off + k) ++ [v] := by
      rw [show off + (k + 1) = (off + k) + 1 by omega, List.take_succ_eq_append_getElem (by simpa using hlt)]
      rw [List.take_set, List.set_eq_of_length_le (by simp; omega)]; simp
    have e2 : (cs.set (off + k) v).drop (off + (k + 1) + ds.length) = cs.drop (off + k + (v :: ds).length) := by
      rw [List.drop_set_of_lt (by omega)]; congr 1; simp; omega
    rw [e1, e2]; simp
theorem BuildJ.fill {P : Program} {T : TypeId} {R : Rep α} {m : Mem} {a : Act} {ps : List (Nat × Operand)} {x r : α} (h : BuildJ P T Γ R ps x r) :
    ∀ {cs : List Value} {place : Nat → Option (Nat × Nat)}, R.rel m cs x → (∀ i p, placeOf P T i = some p → place i = some p) → (∀ p ∈ ps, Opd Γ m a p.2) →
    ∃ cs', Instr.fill place cs.toArray (ps.map fun p => (p.1, a.eval p.2)) = some cs'.toArray ∧ R.rel m cs' r := by
  induction h with
  | nil => intro cs place hr _ _; exact ⟨cs, rfl, hr⟩
  | @cons β i off y S z get set ps x r hy hp hpl _ ih =>
    intro cs place hr hplace ho
    obtain ⟨ds, hc, hd⟩ := Rep.is_cells (hy m a (ho (i, y) (by simp)))
    have hdl := S.len hd
    have hcl := R.len hr
    have hfit := hp.fits
    obtain ⟨cs', he, hr'⟩ := ih (cs := cs.take off ++ ds ++ cs.drop (off + S.n)) (hp.set_ok hr hd) hplace (fun p hp => ho p (by simp [hp]))
    refine ⟨cs', ?_, hr'⟩
    simp only [List.map_cons, Instr.fill, hplace i _ hpl, hc]
    have hsz : ds.toArray.size = S.n := by simp [hdl]
    have hcond : ¬ (ds.toArray.size ≠ S.n ∨ off + ds.toArray.size > cs.toArray.size) := by
      rintro (h | h)
      · exact h hsz
      · simp at h; omega
    have hbool : (decide (ds.toArray.size ≠ S.n) || decide (off + ds.toArray.size > cs.toArray.size)) = false := by
      simp only [Bool.or_eq_false_iff, decide_eq_false_iff_not]
      exact ⟨fun h => h hsz, by simp; omega⟩
    have hf := foldl_splice off ds 0 cs (by omega)
    have hz : Array.foldl (fun cs (p : Value × Nat) => cs.setIfInBounds (off + p.2) p.1) cs.toArray ds.toArray.zipIdx = (cs.take off ++ ds ++ cs.drop (off + S.n)).toArray := by
      rw [← Array.foldl_toList, Array.toList_zipIdx]
      rw [hf]; simp [hdl]
    rw [if_neg (by simpa using hcond)]
    first
      | (rw [hz]; exact he)
      | (simp only [] at hz ⊢; rw [hz]; exact he)
def buildB (P : Program) (T : TypeId) : Bool :=
  match P.underlying T with
  | some (.struct fs) => fs.toList.all fun f => (P.info? f.type).isSome
  | some (.array _ e) => (P.info? e).isSome
  | _ => false
theorem mapM_places {P : Program} {w : World} : ∀ (fs : List Field), (∀ f ∈ fs, (P.info? f.type).isSome = true) →
    (fs.mapM fun f => do pure (f.offset, ← sizeOf f.type) : Sem (List (Nat × Nat))).run P w = .ok (fs.map fun f => (f.offset, ((P.info? f.type).map (·.size)).getD 0)) w
  | [], _ => by simp
  | f :: fs, h => by
    obtain ⟨i, hi⟩ := Option.isSome_iff_exists.1 (h f (by simp))
    have hs : (sizeOf f.type).run P w = .ok i.size w := by simp [sizeOf, typeInfo, hi]
    have ih := mapM_places (P := P) (w := w) fs (fun f hf => h f (by simp [hf]))
    rw [List.mapM_cons]
    simp only [Sem.run_bind, hs, Result.andThen_ok, Sem.run_pure, ih, List.map_cons, hi, Option.map_some, Option.getD_some]
theorem pj_build {T : TypeId} {R : Rep α} {x r : α} {ps : List (Nat × Operand)} {zc : List Value} (hz : ZeroR R x zc) (hT : zeroB c.P T = some zc) (hB : buildB c.P T = true) (ha : R.ag = true) (h : BuildJ c.P T Γ R ps x r) :
    PJ c ⟨od, .build T ps.toArray, ty, pos, aft, g⟩ Γ H (R.slot r) :=
  pj_of fun m hs a w _ _ _ ho => by
    obtain ⟨zv, hzv, hzc⟩ := zeroB_run hT w
    have hop : ∀ p ∈ ps, Opd Γ m a p.2 := fun p hp => ho p.2 (by
      simp only [Op.operands]
      simp only [List.mem_toArray, List.mem_map]
      exact ⟨p, hp, rfl⟩)
    have hpl : ∀ (place : Nat → Option (Nat × Nat)), (∀ i p, placeOf c.P T i = some p → place i = some p) → ∃ cs', Instr.fill place zc.toArray (ps.map fun p => (p.1, a.eval p.2)) = some cs'.toArray ∧ R.rel m cs' r :=
      fun place hp => h.fill (hz m) hp hop
    have hparts : ((ps.toArray.map fun (p : Nat × Operand) => (p.1, a.eval p.2))).toList = ps.map fun p => (p.1, a.eval p.2) := by simp
    unfold buildB at hB
    split at hB
    · rename_i fs hu
      have hall : ∀ f ∈ fs.toList, (c.P.info? f.type).isSome = true := List.all_eq_true.1 hB
      obtain ⟨cs', hfill, hr⟩ := hpl ((fs.toList.map fun f => (f.offset, ((c.P.info? f.type).map (·.size)).getD 0)).toArray[·]?) (by
        intro i p hp
        simp only [placeOf, hu] at hp
        simp only [List.getElem?_toArray, List.getElem?_map, Array.getElem?_toList]
        cases hf : fs[i]? with
        | none => rw [hf] at hp; simp at hp
        | some f =>
          rw [hf] at hp
          simp only [Option.bind_some] at hp
          cases hi : c.P.info? f.type with
          | none => rw [hi] at hp; simp at hp
          | some t => rw [hi] at hp; simp only [Option.map_some] at hp ⊢; simpa [hi] using hp)
      have hmm : (fs.mapM fun f => do pure (f.offset, ← sizeOf f.type) : Sem (Array (Nat × Nat))).run c.P w = .ok (fs.toList.map fun f => (f.offset, ((c.P.info? f.type).map (·.size)).getD 0)).toArray w := by
        have := mapM_places (P := c.P) (w := w) fs.toList hall
        rw [Array.mapM_eq_mapM_toList, Sem.run_map, this]
        rfl
      have hrun : (Instr.build T (ps.toArray.map fun (p : Nat × Operand) => (p.1, a.eval p.2))).run c.P w = .ok (.agg cs'.toArray) w := by
        simp only [Instr.build, Sem.run_bind, hzv, Result.andThen_ok, run_underlying hu, hzc, hparts, hmm, hfill, Sem.run_pure]
      refine ⟨.agg cs'.toArray, ?_, ?_⟩
      · show (do let v ← Instr.build T (ps.toArray.map fun (p : Nat × Operand) => (p.1, a.eval p.2)); pure (Next.value v) : Sem Next).run c.P w = _
        rw [Sem.run_bind, hrun]; rfl
      · simp only [Rep.slot, Rep.is, ha]; exact ⟨cs', rfl, hr⟩
    · rename_i n e hu
      obtain ⟨t, ht⟩ := Option.isSome_iff_exists.1 hB
      obtain ⟨cs', hfill, hr⟩ := hpl (fun i => some (i * t.size, t.size)) (by
        intro i p hp
        simp only [placeOf, hu, ht, Option.map_some] at hp
        exact hp)
      have hs : (sizeOf e).run c.P w = .ok t.size w := by simp [sizeOf, typeInfo, ht]
      have hrun : (Instr.build T (ps.toArray.map fun (p : Nat × Operand) => (p.1, a.eval p.2))).run c.P w = .ok (.agg cs'.toArray) w := by
        simp only [Instr.build, Sem.run_bind, hzv, Result.andThen_ok, run_underlying hu, hzc, hparts, hs, hfill, Sem.run_pure]
      refine ⟨.agg cs'.toArray, ?_, ?_⟩
      · show (do let v ← Instr.build T (ps.toArray.map fun (p : Nat × Operand) => (p.1, a.eval p.2)); pure (Next.value v) : Sem Next).run c.P w = _
        rw [Sem.run_bind, hrun]; rfl
      · simp only [Rep.slot, Rep.is, ha]; exact ⟨cs', rfl, hr⟩
    · cases hB
/-! ## Slices written out -/
inductive BuildS (Γ : Env) (R : Rep α) : Nat → List (Nat × Operand) → List α → Prop
  | nil {k : Nat} : BuildS Γ R k [] []
  | cons {k : Nat} {y : Operand} {z : α} {ps : List (Nat × Operand)} {zs : List α} : Has Γ y (R.slot z) → BuildS Γ R (k + 1) ps zs → BuildS Γ R k ((k, y) :: ps) (z :: zs)
theorem BuildS.len {R : Rep α} {k : Nat} {ps : List (Nat × Operand)} {zs : List α} (h : BuildS Γ R k ps zs) : ps.length = zs.length := by
  induction h with
  | nil => rfl
  | cons _ _ ih => simp [ih]
theorem BuildS.fill {R : Rep α} {m : Mem} {a : Act} {k : Nat} {ps : List (Nat × Operand)} {zs : List α} (h : BuildS Γ R k ps zs) :
    ∀ {pre cs : List Value}, pre.length = k * R.n → cs.length = zs.length * R.n → (∀ p ∈ ps, Opd Γ m a p.2) →
    ∃ cs', Instr.fill (fun i => some (i * R.n, R.n)) (pre ++ cs).toArray (ps.map fun p => (p.1, a.eval p.2)) = some (pre ++ cs').toArray ∧ RowC R m cs' zs := by
  induction h with
  | nil => intro pre cs _ hc _; exact ⟨cs, rfl, by simpa [RowC] using hc⟩
  | @cons k y z ps zs hy _ ih =>
    intro pre cs hp hc ho
    obtain ⟨ds, hcl, hd⟩ := Rep.is_cells (hy m a (ho (k, y) (by simp)))
    have hdl := R.len hd
    have hc' : cs.length = R.n + zs.length * R.n := by rw [hc, List.length_cons, Nat.add_mul, Nat.one_mul, Nat.add_comm]
    obtain ⟨cs', he, hr'⟩ := ih (pre := pre ++ ds) (cs := cs.drop R.n) (by rw [List.length_append, hp, hdl, Nat.add_mul, Nat.one_mul]) (by rw [List.length_drop]; omega) (fun p hp => ho p (by simp [hp]))
    refine ⟨ds ++ cs', ?_, ⟨ds, cs', rfl, hd, hr'⟩⟩
    simp only [List.map_cons, Instr.fill, hcl]
    have hf := foldl_splice (k * R.n) ds 0 (pre ++ cs) (by simp [hp, hdl]; omega)
    have hz : Array.foldl (fun cs (p : Value × Nat) => cs.setIfInBounds (k * R.n + p.2) p.1) (pre ++ cs).toArray ds.toArray.zipIdx = ((pre ++ ds) ++ cs.drop R.n).toArray := by
      rw [← Array.foldl_toList, Array.toList_zipIdx]
      rw [hf]
      have e1 : (pre ++ cs).take (k * R.n + 0) = pre := by rw [Nat.add_zero, ← hp, List.take_left']; rfl
      have e2 : (pre ++ cs).drop (k * R.n + 0 + ds.length) = cs.drop R.n := by rw [Nat.add_zero, ← hp, hdl, List.drop_append]; simp
      rw [e1, e2]
    rw [if_neg (by simp [hdl, hp]; omega)]
    have he' : Instr.fill (fun i => some (i * R.n, R.n)) ((pre ++ ds) ++ cs.drop R.n).toArray (ps.map fun p => (p.1, a.eval p.2)) = some (pre ++ (ds ++ cs')).toArray := by rw [he]; simp
    first
      | (rw [hz]; exact he')
      | (simp only [] at hz ⊢; rw [hz]; exact he')
theorem run_buildSlice {P : Program} {w : World} {ST T : TypeId} {R : Rep α} {m : Mem} {a : Act} {n : Nat} {ps : List (Nat × Operand)} {zs : List α} (hT : slE P ST T R.n = true) (hn : n = zs.length) (hs : n * R.n ≤ 16777216)
    (h : BuildS Γ R 0 ps zs) (ho : ∀ p ∈ ps, Opd Γ m a p.2) :
    ∃ cs, RowC R m cs zs ∧ (Instr.buildSlice ST n (ps.toArray.map fun (p : Nat × Operand) => (p.1, a.eval p.2))).run P w = .ok (.slice (some ⟨w.heap.size, 0, none⟩) n n) (w.alloc (.cells cs.toArray T)) := by
  obtain ⟨hu, i, z, hi, hsz, hb0, hb1, hz, hzc⟩ := slE_of hT
  have hsize : (sizeOf T).run P w = .ok R.n w := by simp [sizeOf, typeInfo, hi, hsz]
  have hzv : (zeroValue T).run P w = .ok z w := by simp [zeroValue, typeInfo, hi, hz]
  have hparts : ((ps.toArray.map fun (p : Nat × Operand) => (p.1, a.eval p.2))).toList = ps.map fun p => (p.1, a.eval p.2) := by simp
  have h24 : ¬ n * R.n > 2 ^ 24 := by have : (2 : Nat) ^ 24 = 16777216 := by decide
                                      omega
  have key : ∀ zz : Array Value, ∃ cs, RowC R m cs zs ∧ Instr.fill (fun i => some (i * R.n, R.n)) ((Array.range (n * R.n)).map (zz[· % zz.size]!)) (ps.map fun p => (p.1, a.eval p.2)) = some cs.toArray := by
    intro zz
    obtain ⟨cs, he, hr⟩ := h.fill (m := m) (a := a) (pre := []) (cs := ((Array.range (n * R.n)).map (zz[· % zz.size]!)).toList) (by simp) (by simp [hn]) ho
    have e3 : ([] ++ ((Array.range (n * R.n)).map (zz[· % zz.size]!)).toList).toArray = (Array.range (n * R.n)).map (zz[· % zz.size]!) := by rw [List.nil_append, Array.toArray_toList]
    rw [e3] at he
    exact ⟨cs, hr, he⟩
  by_cases h0 : n * R.n = 0
  · obtain ⟨cs, hr, hf⟩ := key #[]
    refine ⟨cs, hr, ?_⟩
    rw [h0] at hf
    have h240 : ¬ (0 > 2 ^ 24) := by decide
    simp only [Instr.buildSlice, Sem.run_bind, run_underlying hu, Result.andThen_ok, hsize, h0, h240, if_false, Sem.run_pure, if_true, hparts]
    simp only [hf, newRow, Sem.run_bind, run_newObj, Result.andThen_ok, Sem.run_pure]
    rfl
  · obtain ⟨cs, hr, hf⟩ := key z.cells
    refine ⟨cs, hr, ?_⟩
    simp only [Instr.buildSlice, Sem.run_bind, run_underlying hu, Result.andThen_ok, hsize, h24, if_false, Sem.run_pure, h0, hzv, hparts, hf, newRow, run_newObj]
    rfl
/-- A slice written out, made one that stays. -/
theorem pj_buildSlice {ST T n : Nat} {R : Rep α} {ps : List (Nat × Operand)} {zs : List α} (h : BuildS Γ R 0 ps zs) (hn : n = zs.length) (hs : Nat.ble (n * R.n) 16777216 = true) (hT : slE c.P ST T R.n = true) :
    PJ c ⟨od, .buildSlice ST n ps.toArray, ty, pos, aft, g⟩ Γ H ((sl R).slot zs) := by
  intro m hs2 a w hg _ _ ho
  have hop : ∀ p ∈ ps, Opd Γ m a p.2 := fun p hp => ho p.2 (by
      simp only [Op.operands]
      simp only [List.mem_toArray, List.mem_map]
      exact ⟨p, hp, rfl⟩)
  obtain ⟨cs, hr, hrun⟩ := run_buildSlice (P := c.P) (w := w) hT hn (by simpa [Nat.ble_eq] using hs) h hop
  have e : (execOp a.eval ⟨od, .buildSlice ST n ps.toArray, ty, pos, aft, g⟩).run c.P w = .ok (.value (.slice (some ⟨w.heap.size, 0, none⟩) n n)) (w.alloc (.cells cs.toArray T)) := by
    show (do let v ← Instr.buildSlice ST n (ps.toArray.map fun (p : Nat × Operand) => (p.1, a.eval p.2)); pure (Next.value v) : Sem Next).run c.P w = _
    rw [Sem.run_bind, hrun]; rfl
  rw [e]
  have hg1 := hg.newOwn T cs
  have hle := hg1.le_put
  refine ⟨m.put w.heap.size cs, hg1.freeze, ?_, ?_⟩
  · exact ⟨_, n, by rw [hn], by omega, .inr ⟨w.heap.size, 0, cs, rfl, hr.mono hle, Mem.at_put m _ cs⟩⟩
  · exact (Frm.alloc w m [] (.cells cs.toArray T)).freeze hle
/-- .. and one of the call's own. -/
theorem j_buildSlice {ST T n : Nat} {R : Rep α} {ps : List (Nat × Operand)} {zs : List α} (h : BuildS Γ R 0 ps zs) (hn : n = zs.length) (hs : Nat.ble (n * R.n) 16777216 = true) (hT : slE c.P ST T R.n = true) (hN : Nat.blt d c.N = true)
    (k : ∀ v, OpsJ c full l ((d, ov v) :: Γ) (own T R v zs :: H) K) : OpsJ c full (⟨some d, .buildSlice ST n ps.toArray, ty, pos, aft, none⟩ :: l) Γ H K := by
  refine j_step_ex (Γ2 := fun v => (d, ov v) :: Γ) (H2 := fun v => own T R v zs :: H) rfl ?_ k
  intro m hs2 a w hg _ hsat he hN'
  have hop : ∀ p ∈ ps, Opd Γ m a p.2 := fun p _ => he.opd p.2
  obtain ⟨cs, hr, hrun⟩ := run_buildSlice (P := c.P) (w := w) hT hn (by simpa [Nat.ble_eq] using hs) h hop
  have e : (execOp a.eval ⟨some d, .buildSlice ST n ps.toArray, ty, pos, aft, none⟩).run c.P w = .ok (.value (.slice (some ⟨w.heap.size, 0, none⟩) n n)) (w.alloc (.cells cs.toArray T)) := by
    show (do let v ← Instr.buildSlice ST n (ps.toArray.map fun (p : Nat × Operand) => (p.1, a.eval p.2)); pure (Next.value v) : Sem Next).run c.P w = _
    rw [Sem.run_bind, hrun]; rfl
  rw [e]
  refine ⟨_, m, _, hg.newOwn T cs, he.put (by rw [hN']; simpa [Nat.blt_eq] using hN) ov_slice, ⟨[(w.heap.size, T, cs)], hs2, rfl, .inr ⟨w.heap.size, n, cs, [], by rw [hn], by simp, hr, by omega, ?_⟩, hsat⟩, Frm.alloc _ _ _ _⟩
  rw [List.append_nil, hr.length, hn]
/-! ## make -/
theorem j_makeSlice {ST T : TypeId} {x y : Operand} {R : Rep α} {z : α} {zc : List Value} {n cp : Int} (hx : Has Γ x (i64.slot n)) (hy : Has Γ y (i64.slot cp)) (h0 : 0 ≤ n) (h1 : n ≤ cp) (h2 : cp ≤ 4294967296)
    (hT : slE c.P ST T R.n = true) (hz : ZeroR R z zc) (hzB : zeroB c.P T = some zc) (hN : Nat.blt d c.N = true)
    (k : ∀ v, OpsJ c full l ((d, ov v) :: Γ) (own T R v (List.replicate n.toNat z) :: H) K) : OpsJ c full (⟨some d, .makeSlice ST x y, ty, pos, aft, none⟩ :: l) Γ H K := by
  refine j_step_ex (Γ2 := fun v => (d, ov v) :: Γ) (H2 := fun v => own T R v (List.replicate n.toNat z) :: H) rfl ?_ k
  intro m hs a w hg _ hsat he hN'
  have ex := i64_p.1 (hx m a (he.opd x))
  have ey := i64_p.1 (hy m a (he.opd y))
  obtain ⟨hu, i, zv, hi, hsz, hb0, hb1, hzi, hzc⟩ := slE_of hT
  have hti : ∀ w : World, (typeInfo T).run c.P w = .ok i w := fun w => by simp [typeInfo, hi]
  have hsize : ∀ w : World, (sizeOf T).run c.P w = .ok R.n w := fun w => by simp [sizeOf, hti, hsz]
  have hzv : ∀ w : World, (zeroValue T).run c.P w = .ok zv w := fun w => by simp [zeroValue, hti, hzi]
  have hzl : zv.cells.toList = zc := by
    unfold zeroB at hzB
    simp [hi, hzi] at hzB
    exact hzB
  have hn : IntKind.i64.wrap n = n := IntWalk.i64_in n (by omega)
  have hc : IntKind.i64.wrap cp = cp := IntWalk.i64_in cp (by omega)
  have hbig : ¬ (i.bytes : Int) * cp > 2 ^ 48 := by
    have h48 : (2 : Int) ^ 48 = 281474976710656 := by decide
    have : (i.bytes : Int) * cp ≤ 4096 * 4294967296 := Int.mul_le_mul (by omega) h2 (by omega) (by decide)
    rw [h48]; omega
  have hneg : ¬ cp < 0 := by omega
  have hneg2 : ¬ n < 0 := by omega
  have hgt : ¬ n > cp := by omega
  let zz := if cp.toNat * R.n = 0 then #[] else zv.cells
  let cells := ((Array.range (cp.toNat * R.n)).map (zz[· % zz.size]!)).toList
  have hrun : (Instr.makeSlice ST (.int .i64 n) (.int .i64 cp)).run c.P w = .ok (.slice (some ⟨w.heap.size, 0, none⟩) n.toNat cp.toNat) (w.alloc (.cells cells.toArray T)) := by
    simp only [Instr.makeSlice, Sem.run_bind, run_underlying hu, Result.andThen_ok, asInt, asIntOf, Sem.run_pure, hti, hn, hc, hneg, hneg2, hbig, hgt, decide_false, Bool.or_false, Bool.false_eq_true, if_false, run_askRoom, hsize]
    by_cases hE : cp.toNat * R.n = 0
    · simp only [hE, if_true, Sem.run_pure, Result.andThen_ok, newRow, Sem.run_bind, run_newObj]
      simp only [cells, zz, hE, if_true, Array.toArray_toList]
      rfl
    · simp only [hE, if_false, Sem.run_bind, hzv, Result.andThen_ok, Sem.run_pure, newRow, run_newObj]
      simp only [cells, zz, hE, if_false, Array.toArray_toList]
      rfl
  have e : (execOp a.eval ⟨some d, .makeSlice ST x y, ty, pos, aft, none⟩).run c.P w = .ok (.value (.slice (some ⟨w.heap.size, 0, none⟩) n.toNat cp.toNat)) (w.alloc (.cells cells.toArray T)) := by
    simp only [execOp, ex, ey, Sem.run_bind, hrun]; rfl
  rw [e]
  have hcl : cells.length = cp.toNat * R.n := by simp [cells]
  have hrow : ∀ j, j ≤ cp.toNat → RowC R m (cells.take (j * R.n)) (List.replicate j z) := by
    intro j hj
    induction j with
    | zero => simp [RowC]
    | succ j ih =>
      have ih := ih (by omega)
      rw [List.replicate_succ', Nat.add_mul, Nat.one_mul, List.take_add]
      refine ih.append (RowC.single ?_)
      have : (cells.drop (j * R.n)).take R.n = zc := by
        apply List.ext_getElem?
        intro t
        rw [List.getElem?_take]
        split
        · rename_i ht
          rw [List.getElem?_drop]
          have hbnd : j * R.n + t < cp.toNat * R.n := by
            have : (j + 1) * R.n ≤ cp.toNat * R.n := Nat.mul_le_mul_right _ hj
            rw [Nat.add_mul, Nat.one_mul] at this
            omega
          have hE : cp.toNat * R.n ≠ 0 := by omega
          have hRn : zv.cells.size = R.n := hzc
          simp only [cells, zz, hE, if_false]
          rw [Array.getElem?_toList, Array.getElem?_map, Array.getElem?_range, if_pos hbnd]
          simp only [Option.map_some, hRn]
          have hmod : (j * R.n + t) % R.n = t := by rw [Nat.mul_add_mod_self_right]; exact Nat.mod_eq_of_lt ht
          rw [hmod, ← hzl]
          have htl : t < zv.cells.size := by omega
          simp [htl]
        · rename_i ht
          have : zc.length = R.n := by rw [← hzl]; simpa using hzc
          rw [List.getElem?_eq_none (by omega)]
      rw [this]; exact hz m
  have hsplit : cells = cells.take (n.toNat * R.n) ++ cells.drop (n.toNat * R.n) := (List.take_append_drop _ _).symm
  refine ⟨_, m, _, hg.newOwn T cells, he.put (by rw [hN']; simpa [Nat.blt_eq] using hN) ov_slice, ⟨[(w.heap.size, T, cells)], hs, rfl, .inr ⟨w.heap.size, cp.toNat, cells.take (n.toNat * R.n), cells.drop (n.toNat * R.n), by simp, by rw [← hsplit], hrow _ (by omega), by simp; omega, by rw [← hsplit, hcl]⟩, hsat⟩, Frm.alloc _ _ _ _⟩
end
end Go.Sl
