import Derived.Test.YtbaecpklplkciaaDoorOp13
set_option linter.unusedSimpArgs false
set_option linter.unusedVariables false
set_option linter.unusedSectionVars false
namespace Go.Sl
section
variable {c : Ctx} {full : Array Oper} {l : List Oper} {Γ Γ' : Env} {H H' : List Ent} {K : Act → World → Prop} {d : Tmp} {od : Option Tmp} {ty : TypeId} {pos : String} {aft : Array Edge} {g : Option (Nat × Bool)} {α β : Type}
theorem w_makeSlice {ST T : TypeId} {x y : Operand} {R : Rep α} {z : α} {zc : List Value} {n cp : Int} (hx : Has Γ x (i64.slot n)) (hy : Has Γ y (i64.slot cp)) (h0 : 0 ≤ n) (h1 : n ≤ cp) (h2 : cp ≤ 4294967296)
    (hT : slE c.P ST T R.n = true) (hz : ZeroR R z zc) (hzB : zeroB c.P T = some zc) (hN : Nat.blt d c.N = true) :
    WJ c ⟨some d, .makeSlice ST x y, ty, pos, aft, g⟩ Γ H (fun v => [(d, ov v)]) (fun v => own T R v (List.replicate n.toNat z) :: H) := by
  intro m hs a w hg _ hsat ho hN'
  have ex := i64_p.1 (hx m a (ho x (by simp [Op.operands])))
  have ey := i64_p.1 (hy m a (ho y (by simp [Op.operands])))
  obtain ⟨hu, i, zv, hi, hsz, hb0, hb1, hzi, hzc⟩ := slE_of hT
  have hti : ∀ w : World, (typeInfo T).run c.P w = .ok i w := fun w => by simp [typeInfo, hi]
  have hsize : ∀ w : World, (sizeOf T).run c.P w = .ok R.n w := fun w => by simp [sizeOf, hti, hsz]
  have hzv : ∀ w : World, (zeroValue T).run c.P w = .ok zv w := fun w => by simp [zeroValue, hti, hzi]
  have hzl : zv.cells.toList = zc := by
    unfold zeroB at hzB
    simp [hi, hzi] at hzB
    exact hzB
  have hn : IntKind.i64.wrap n = n := IntWalk.i64_in n (by omega)
  have hc : IntKind.i64.wrap cp = cp := IntWalk.i64_in cp (by omega)
  have hbig : ¬ (i.bytes : Int) * cp > 2 ^ 48 := by
    have h48 : (2 : Int) ^ 48 = 281474976710656 := by decide
    have : (i.bytes : Int) * cp ≤ 4096 * 4294967296 := Int.mul_le_mul (by omega) h2 (by omega) (by decide)
    rw [h48]; omega
  have hneg : ¬ cp < 0 := by omega
  have hneg2 : ¬ n < 0 := by omega
  have hgt : ¬ n > cp := by omega
  let zz := if cp.toNat * R.n = 0 then #[] else zv.cells
  let cells := ((Array.range (cp.toNat * R.n)).map (zz[· % zz.size]!)).toList
  have hrun : (Instr.makeSlice ST (.int .i64 n) (.int .i64 cp)).run c.P w = .ok (.slice (some ⟨w.heap.size, 0, none⟩) n.toNat cp.toNat) (w.alloc (.cells cells.toArray T)) := by
    simp only [Instr.makeSlice, Sem.run_bind, run_underlying hu, Result.andThen_ok, asInt, asIntOf, Sem.run_pure, hti, hn, hc, hneg, hneg2, hbig, hgt, decide_false, Bool.or_false, Bool.false_eq_true, if_false, run_askRoom, hsize]
    by_cases hE : cp.toNat * R.n = 0
    · simp only [hE, if_true, Sem.run_pure, Result.andThen_ok, newRow, Sem.run_bind, run_newObj]
      simp only [cells, zz, hE, if_true, Array.toArray_toList]
      rfl
    · simp only [hE, if_false, Sem.run_bind, hzv, Result.andThen_ok, Sem.run_pure, newRow, run_newObj]
      simp only [cells, zz, hE, if_false, Array.toArray_toList]
      rfl
  have e : (execOp a.eval ⟨some d, .makeSlice ST x y, ty, pos, aft, g⟩).run c.P w = .ok (.value (.slice (some ⟨w.heap.size, 0, none⟩) n.toNat cp.toNat)) (w.alloc (.cells cells.toArray T)) := by
    simp only [execOp, ex, ey, Sem.run_bind, hrun]; rfl
  rw [e]
  have hcl : cells.length = cp.toNat * R.n := by simp [cells]
  have hrow : ∀ j, j ≤ cp.toNat → RowC R m (cells.take (j * R.n)) (List.replicate j z) := by
    intro j hj
    induction j with
    | zero => simp [RowC]
    | succ j ih =>
      have ih := ih (by omega)
      rw [List.replicate_succ', Nat.add_mul, Nat.one_mul, List.take_add]
      refine ih.append (RowC.single ?_)
      have : (cells.drop (j * R.n)).take R.n = zc := by
        apply List.ext_getElem?
        intro t
        rw [List.getElem?_take]
        split
        · rename_i ht
          rw [List.getElem?_drop]
          have hbnd : j * R.n + t < cp.toNat * R.n := by
            have : (j + 1) * R.n ≤ cp.toNat * R.n := Nat.mul_le_mul_right _ hj
            rw [Nat.add_mul, Nat.one_mul] at this
            omega
          have hE : cp.toNat * R.n ≠ 0 := by omega
          have hRn : zv.cells.size = R.n := hzc
          simp only [cells, zz, hE, if_false]
          rw [Array.getElem?_toList, Array.getElem?_map, Array.getElem?_range, if_pos hbnd]
          simp only [Option.map_some, hRn]
          have hmod : (j * R.n + t) % R.n = t := by rw [Nat.mul_add_mod_self_right]; exact Nat.mod_eq_of_lt ht
          rw [hmod, ← hzl]
          have htl : t < zv.cells.size := by omega
          simp [htl]
        · rename_i ht
          have : zc.length = R.n := by rw [← hzl]; simpa using hzc
          rw [List.getElem?_eq_none (by omega)]
      rw [this]; exact hz m
  have hsplit : cells = cells.take (n.toNat * R.n) ++ cells.drop (n.toNat * R.n) := (List.take_append_drop _ _).symm
  refine ⟨_, m, _, hg.newOwn T cells, env1 (blt_sz hN hN') ov_slice, ⟨[(w.heap.size, T, cells)], hs, rfl, .inr ⟨w.heap.size, cp.toNat, cells.take (n.toNat * R.n), cells.drop (n.toNat * R.n), by simp, by rw [← hsplit], hrow _ (by omega), by simp; omega, by rw [← hsplit, hcl]⟩, hsat⟩, Frm.alloc _ _ _ _⟩
/-! ## Objects with own slices in any field -/
/-- A cell at 'off', put anew. -/
def SE {α α' : Type} (R : Rep α) (r : α) (off : Nat) (v' : Value) (R' : Rep α') (r' : α') : Prop :=
  R'.n = R.n ∧ off + 1 ≤ R.n ∧ ∀ m cs, v'.oneCell' = true → R.rel m cs r → R'.rel m (cs.take off ++ [v'] ++ cs.drop (off + 1)) r'
theorem se_here {v v' : Value} : SE (exv v) () 0 v' (exv v') () := ⟨rfl, Nat.le_refl _, fun m cs hv h => by
  rw [h.1]; exact ⟨rfl, hv⟩⟩
theorem se_snd {α' : Type} {S : Rep α} {r : α} {off : Nat} {v' : Value} {S' : Rep α'} {r' : α'} (R : Rep β) (x : β) (h : SE S r off v' S' r') : SE (prod R S) (x, r) (R.n + off) v' (prod R S') (x, r') := by
  obtain ⟨h1, h2, h3⟩ := h
  refine ⟨by simp [prod, h1], by simp [prod]; omega, ?_⟩
  rintro m cs hv ⟨e1, e2, rfl, p, q⟩
  have hl := R.len p
  refine ⟨e1, e2.take off ++ [v'] ++ e2.drop (off + 1), ?_, p, h3 m e2 hv q⟩
  rw [List.take_append, List.drop_append]
  have a1 : e1.take (R.n + off) = e1 := List.take_of_length_le (by omega)
  have a2 : e1.drop (R.n + off + 1) = [] := List.drop_of_length_le (by omega)
  rw [a1, a2, hl, show R.n + off - R.n = off by omega, show R.n + off + 1 - R.n = off + 1 by omega]
  simp
theorem j_store_se {α' : Type} {T T0 : TypeId} {x y : Operand} {b off : Nat} {v' : Value} {R : Rep α} {r : α} {R' : Rep α'} (r' : α') (hx : Has Γ x (val (.pointer (some ⟨b, off, none⟩))))
    (hy : Has Γ y (ov v')) (hk : Pick H (box b T0 R r) H') (hs : SE R r off v' R' r') (hT : szB c.P T 1 = true)
    (k : OpsJ c full l Γ (box b T0 R' r' :: H') K) : OpsJ c full (⟨none, .store T x y, ty, pos, aft, none⟩ :: l) Γ H K := by
  refine j_step rfl ?_ k
  intro m hs' a w hg _ hsat he hn
  have e : a.eval x = _ := hx m a (he.opd x)
  obtain ⟨ey, h1'⟩ := ov_p.1 (hy m a (he.opd y))
  obtain ⟨h1, h2, hpm, ⟨cs, rfl, hr⟩, hs2⟩ := hsat.pick hk
  have hg' := hg.perm hpm
  obtain ⟨s1, s2, s3⟩ := hs
  have hl1 : off + [v'].length ≤ cs.length := by rw [R.len hr]; exact s2
  have hc : (a.eval y).cells = [v'].toArray := by rw [ey]; exact cells_of_one h1'
  have hrun : (execOp a.eval ⟨none, .store T x y, ty, pos, aft, none⟩).run c.P w = .ok .skip (setBlk w b T0 (cs.take off ++ [v'] ++ cs.drop (off + 1))) := by
    simp only [execOp, e, Sem.run_bind, run_storeAt (o := off) (cs := cs) (ds := [v']) hT hc rfl (by simpa using h1') (hg'.blk (b, T0, cs) (by simp)) hl1]
    rfl
  rw [hrun]
  refine ⟨m, (b, T0, _) :: h2, hg'.setBlk _, he, ⟨[_], h2, rfl, ⟨_, rfl, s3 m cs h1' hr⟩, hs2⟩, ?_⟩
  exact Frm.ofPerm hpm (Frm.setBlk (by simp [Hp.bs]))
/-- All of a variable, put anew. -/
theorem j_store_all {α' : Type} {T T0 : TypeId} {x y : Operand} {b : Nat} {R : Rep α} {r : α} {S : Rep α'} {z : α'} (hx : Has Γ x (val (.pointer (some ⟨b, 0, none⟩))))
    (hy : Has Γ y (S.slot z)) (hk : Pick H (box b T0 R r) H') (hn1 : Nat.beq R.n S.n = true) (hT : szB c.P T S.n = true)
    (k : OpsJ c full l Γ (box b T0 S z :: H') K) : OpsJ c full (⟨none, .store T x y, ty, pos, aft, none⟩ :: l) Γ H K := by
  refine j_step rfl ?_ k
  intro m hs' a w hg _ hsat he hn
  have e : a.eval x = _ := hx m a (he.opd x)
  obtain ⟨ds, hc, hd⟩ := Rep.is_cells (hy m a (he.opd y))
  obtain ⟨h1, h2, hpm, ⟨cs, rfl, hr⟩, hs2⟩ := hsat.pick hk
  have hg' := hg.perm hpm
  have hRS : R.n = S.n := Nat.eq_of_beq_eq_true hn1
  have hlc : cs.length = S.n := by rw [R.len hr, hRS]
  have hrun : (execOp a.eval ⟨none, .store T x y, ty, pos, aft, none⟩).run c.P w = .ok .skip (setBlk w b T0 (cs.take 0 ++ ds ++ cs.drop (0 + S.n))) := by
    simp only [execOp, e, Sem.run_bind, run_storeAt (o := 0) (cs := cs) (ds := ds) hT hc (S.len hd) (S.cell hd) (hg'.blk (b, T0, cs) (by simp)) (by rw [hlc]; omega)]
    rfl
  rw [hrun]
  have e0 : cs.take 0 ++ ds ++ cs.drop (0 + S.n) = ds := by simp [List.drop_of_length_le (Nat.le_of_eq hlc)]
  rw [e0]
  refine ⟨m, (b, T0, _) :: h2, hg'.setBlk _, he, ⟨[_], h2, rfl, ⟨_, rfl, hd⟩, hs2⟩, ?_⟩
  exact Frm.ofPerm hpm (Frm.setBlk (by simp [Hp.bs]))
/-- An own slice within a value, made to stay. -/
def CV {γ β β' : Type} (R : Rep γ) (v : Value) (xs : List γ) (S : Rep β) (y : β) (S' : Rep β') (y' : β') : Prop := ∀ m cs, ((sl R).slot xs).p m v → S.rel m cs y → S'.rel m cs y'
section
variable {γ β' : Type} {R : Rep γ} {v : Value} {xs : List γ} {S : Rep β} {y : β} {S' : Rep β'} {y' : β'}
theorem cv_at : CV R v xs (exv v) () (sl R) xs := fun m cs h k => cv_here h k
theorem cv_snd {δ : Type} (T : Rep δ) (z : δ) (h : CV R v xs S y S' y') : CV R v xs (prod T S) (z, y) (prod T S') (z, y') := fun m cs hv ⟨e1, e2, e, p, q⟩ => ⟨e1, e2, e, p, h m e2 hv q⟩
end
/-! ## Objects written out -/
def SX {α α1 β : Type} (R : Rep α) (x : α) (off : Nat) (S : Rep β) (z : β) (R1 : Rep α1) (x1 : α1) : Prop :=
  R1.n = R.n ∧ off + S.n ≤ R.n ∧ ∀ m cs ds, R.rel m cs x → S.rel m ds z → R1.rel m (cs.take off ++ ds ++ cs.drop (off + S.n)) x1
theorem sx_path {R : Rep α} {x : α} {off : Nat} {S : Rep β} {z : β} {get : α → β} {set : α → β → α} (h : Path R off S get set) : SX R x off S z R (set x z) := ⟨rfl, h.fits, fun _ _ _ p q => h.set_ok p q⟩
theorem sx_pathx {R : Rep α} {x x1 : α} {off : Nat} {S : Rep β} {z : β} {get : α → β} {set : α → β → α} (h : Path R off S get set) (e : set x z = x1) : SX R x off S z R x1 := by
  subst e; exact sx_path h
theorem sx_se {α' : Type} {R : Rep α} {r : α} {off : Nat} {v' : Value} {R' : Rep α'} {r' : α'} (h : SE R r off v' R' r') : SX R r off (exv v') () R' r' := ⟨h.1, h.2.1, fun m cs ds p q => by
  obtain ⟨rfl, hv⟩ := q
  exact h.2.2 m cs hv p⟩
inductive BuildX (P : Program) (T : TypeId) (Γ : Env) : {α α' : Type} → (R : Rep α) → α → List (Nat × Operand) → (R' : Rep α') → α' → Prop
  | nil {α : Type} {R : Rep α} {x : α} : BuildX P T Γ R x [] R x
  | cons {α α' β α1 : Type} {i off : Nat} {y : Operand} {S : Rep β} {z : β} {ps : List (Nat × Operand)} {R : Rep α} {x : α} {R1 : Rep α1} {x1 : α1} {R' : Rep α'} {r : α'} :
    Has Γ y (S.slot z) → SX R x off S z R1 x1 → placeOf P T i = some (off, S.n) → BuildX P T Γ R1 x1 ps R' r → BuildX P T Γ R x ((i, y) :: ps) R' r
theorem BuildX.fill {P : Program} {T : TypeId} {α' : Type} {R : Rep α} {R' : Rep α'} {m : Mem} {a : Act} {ps : List (Nat × Operand)} {x : α} {r : α'} (h : BuildX P T Γ R x ps R' r) :
    ∀ {cs : List Value} {place : Nat → Option (Nat × Nat)}, R.rel m cs x → (∀ i p, placeOf P T i = some p → place i = some p) → (∀ p ∈ ps, Opd Γ m a p.2) →
    ∃ cs', Instr.fill place cs.toArray (ps.map fun p => (p.1, a.eval p.2)) = some cs'.toArray ∧ R'.rel m cs' r := by
  induction h with
  | nil => intro cs place hr _ _; exact ⟨cs, rfl, hr⟩
  | @cons α α' β α1 i off y S z ps R x R1 x1 R' r hy hp hpl _ ih =>
    intro cs place hr hplace ho
    obtain ⟨ds, hc, hd⟩ := Rep.is_cells (hy m a (ho (i, y) (by simp)))
    have hdl := S.len hd
    have hcl := R.len hr
    have hfit := hp.2.1
    obtain ⟨cs', he, hr'⟩ := ih (cs := cs.take off ++ ds ++ cs.drop (off + S.n)) (hp.2.2 m cs ds hr hd) hplace (fun p hp => ho p (by simp [hp]))
    refine ⟨cs', ?_, hr'⟩
    simp only [List.map_cons, Instr.fill, hplace i _ hpl, hc]
    have hsz : ds.toArray.size = S.n := by simp [hdl]
    have hcond : ¬ (ds.toArray.size ≠ S.n ∨ off + ds.toArray.size > cs.toArray.size) := by
      rintro (h | h)
      · exact h hsz
      · simp at h; omega
    have hbool : (decide (ds.toArray.size ≠ S.n) || decide (off + ds.toArray.size > cs.toArray.size)) = false := by
      simp only [Bool.or_eq_false_iff, decide_eq_false_iff_not]
      exact ⟨fun h => h hsz, by simp; omega⟩
    have hf := foldl_splice off ds 0 cs (by omega)
    have hz : Array.foldl (fun cs (p : Value × Nat) => cs.setIfInBounds (off + p.2) p.1) cs.toArray ds.toArray.zipIdx = (cs.take off ++ ds ++ cs.drop (off + S.n)).toArray := by
      rw [← Array.foldl_toList, Array.toList_zipIdx]
      rw [hf]; simp [hdl]
    rw [if_neg (by simpa using hcond)]
    first
      | (rw [hz]; exact he)
      | (simp only [] at hz ⊢; rw [hz]; exact he)
theorem pj_buildX {α' : Type} {T : TypeId} {R : Rep α} {R' : Rep α'} {x : α} {r : α'} {ps : List (Nat × Operand)} {zc : List Value} (hz : ZeroR R x zc) (hT : zeroB c.P T = some zc) (hB : buildB c.P T = true) (ha : R'.ag = true) (h : BuildX c.P T Γ R x ps R' r) :
    PJ c ⟨od, .build T ps.toArray, ty, pos, aft, g⟩ Γ H (R'.slot r) :=
  pj_of fun m hs a w _ _ _ ho => by
    obtain ⟨zv, hzv, hzc⟩ := zeroB_run hT w
    have hop : ∀ p ∈ ps, Opd Γ m a p.2 := fun p hp => ho p.2 (by
      simp only [Op.operands]
      simp only [List.mem_toArray, List.mem_map]
      exact ⟨p, hp, rfl⟩)
    have hpl : ∀ (place : Nat → Option (Nat × Nat)), (∀ i p, placeOf c.P T i = some p → place i = some p) → ∃ cs', Instr.fill place zc.toArray (ps.map fun p => (p.1, a.eval p.2)) = some cs'.toArray ∧ R'.rel m cs' r :=
      fun place hp => h.fill (hz m) hp hop
    have hparts : ((ps.toArray.map fun (p : Nat × Operand) => (p.1, a.eval p.2))).toList = ps.map fun p => (p.1, a.eval p.2) := by simp
    unfold buildB at hB
    split at hB
    · rename_i fs hu
      have hall : ∀ f ∈ fs.toList, (c.P.info? f.type).isSome = true := List.all_eq_true.1 hB
      obtain ⟨cs', hfill, hr⟩ := hpl ((fs.toList.map fun f => (f.offset, ((c.P.info? f.type).map (·.size)).getD 0)).toArray[·]?) (by
        intro i p hp
        simp only [placeOf, hu] at hp
        simp only [List.getElem?_toArray, List.getElem?_map, Array.getElem?_toList]
        cases hf : fs[i]? with
        | none => rw [hf] at hp; simp at hp
        | some f =>
          rw [hf] at hp
          simp only [Option.bind_some] at hp
          cases hi : c.P.info? f.type with
          | none => rw [hi] at hp; simp at hp
          | some t => rw [hi] at hp; simp only [Option.map_some] at hp ⊢; simpa [hi] using hp)
      have hmm : (fs.mapM fun f => do pure (f.offset, ← sizeOf f.type) : Sem (Array (Nat × Nat))).run c.P w = .ok (fs.toList.map fun f => (f.offset, ((c.P.info? f.type).map (·.size)).getD 0)).toArray w := by
        have := mapM_places (P := c.P) (w := w) fs.toList hall
        rw [Array.mapM_eq_mapM_toList, Sem.run_map, this]
        rfl
      have hrun : (Instr.build T (ps.toArray.map fun (p : Nat × Operand) => (p.1, a.eval p.2))).run c.P w = .ok (.agg cs'.toArray) w := by
        simp only [Instr.build, Sem.run_bind, hzv, Result.andThen_ok, run_underlying hu, hzc, hparts, hmm, hfill, Sem.run_pure]
      refine ⟨.agg cs'.toArray, ?_, ?_⟩
      · show (do let v ← Instr.build T (ps.toArray.map fun (p : Nat × Operand) => (p.1, a.eval p.2)); pure (Next.value v) : Sem Next).run c.P w = _
        rw [Sem.run_bind, hrun]; rfl
      · simp only [Rep.slot, Rep.is, ha]; exact ⟨cs', rfl, hr⟩
    · rename_i n e hu
      obtain ⟨t, ht⟩ := Option.isSome_iff_exists.1 hB
      obtain ⟨cs', hfill, hr⟩ := hpl (fun i => some (i * t.size, t.size)) (by
        intro i p hp
        simp only [placeOf, hu, ht, Option.map_some] at hp
        exact hp)
      have hs : (sizeOf e).run c.P w = .ok t.size w := by simp [sizeOf, typeInfo, ht]
      have hrun : (Instr.build T (ps.toArray.map fun (p : Nat × Operand) => (p.1, a.eval p.2))).run c.P w = .ok (.agg cs'.toArray) w := by
        simp only [Instr.build, Sem.run_bind, hzv, Result.andThen_ok, run_underlying hu, hzc, hparts, hs, hfill, Sem.run_pure]
      refine ⟨.agg cs'.toArray, ?_, ?_⟩
      · show (do let v ← Instr.build T (ps.toArray.map fun (p : Nat × Operand) => (p.1, a.eval p.2)); pure (Next.value v) : Sem Next).run c.P w = _
        rw [Sem.run_bind, hrun]; rfl
      · simp only [Rep.slot, Rep.is, ha]; exact ⟨cs', rfl, hr⟩
    · cases hB
theorem j_makeSlicex {ST T : TypeId} {x y : Operand} {R : Rep α} {z : α} {zc : List Value} {n cp : Int} {zs : List α} (hx : Has Γ x (i64.slot n)) (hy : Has Γ y (i64.slot cp)) (h0 : 0 ≤ n) (h1 : n ≤ cp) (h2 : cp ≤ 4294967296)
    (hT : slE c.P ST T R.n = true) (hz : ZeroR R z zc) (hzB : zeroB c.P T = some zc) (e : List.replicate n.toNat z = zs) (hN : Nat.blt d c.N = true)
    (k : ∀ v, OpsJ c full l ((d, ov v) :: Γ) (own T R v zs :: H) K) : OpsJ c full (⟨some d, .makeSlice ST x y, ty, pos, aft, none⟩ :: l) Γ H K := by
  subst e; exact j_makeSlice hx hy h0 h1 h2 hT hz hzB hN k
theorem w_makeSlicex {ST T : TypeId} {x y : Operand} {R : Rep α} {z : α} {zc : List Value} {n cp : Int} {zs : List α} (hx : Has Γ x (i64.slot n)) (hy : Has Γ y (i64.slot cp)) (h0 : 0 ≤ n) (h1 : n ≤ cp) (h2 : cp ≤ 4294967296)
    (hT : slE c.P ST T R.n = true) (hz : ZeroR R z zc) (hzB : zeroB c.P T = some zc) (e : List.replicate n.toNat z = zs) (hN : Nat.blt d c.N = true) :
    WJ c ⟨some d, .makeSlice ST x y, ty, pos, aft, g⟩ Γ H (fun v => [(d, ov v)]) (fun v => own T R v zs :: H) := by
  subst e; exact w_makeSlice hx hy h0 h1 h2 hT hz hzB hN
theorem j_store_own0 {T T0 : TypeId} {x y : Operand} {v : Value} (R : Rep α) (i : Nat) {xs : List α} {z : α} (hx : Has Γ x (ownAt v (i * R.n))) (hy : Has Γ y (R.slot z)) (hk : Pick H (own T0 R v xs) H') (h1 : i < xs.length) (hT : szB c.P T R.n = true)
    (k : OpsJ c full l Γ (own T0 R v (xs.set i z) :: H') K) : OpsJ c full (⟨none, .store T x y, ty, pos, aft, none⟩ :: l) Γ H K :=
  j_store_own (off := 0) (by simpa using hx) hy hk h1 (Path.all R) hT k
theorem pj_load_own0 {T T0 : TypeId} {x : Operand} {v : Value} (R : Rep α) (i : Nat) {xs : List α} (hx : Has Γ x (ownAt v (i * R.n))) (hk : Pick H (own T0 R v xs) H') (h1 : i < xs.length)
    (hT : tyB c.P T R.ag R.n = true) : PJ c ⟨od, .load T x, ty, pos, aft, g⟩ Γ H (R.slot xs[i]) :=
  pj_load_own (off := 0) (by simpa using hx) hk h1 (Path.all R) hT
end
end Go.Sl
