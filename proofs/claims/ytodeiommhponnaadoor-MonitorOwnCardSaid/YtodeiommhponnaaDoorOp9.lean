import Derived.Test.YtodeiommhponnaaDoorWOps
import Derived.Laws.BytesArg
set_option linter.unusedSimpArgs false
set_option linter.unusedVariables false
set_option linter.unusedSectionVars false
namespace Go.Sl
section
variable {c : Ctx} {full : Array Oper} {l : List Oper} {Γ Γ' : Env} {H H' : List Ent} {K : Act → World → Prop} {d : Tmp} {od : Option Tmp} {ty : TypeId} {pos : String} {aft : Array Edge} {g : Option (Nat × Bool)} {α β : Type}
/-! ## Guards that say no, and what hangs on them -/
theorem j_guard_no2 {o : Oper} {j d t : Nat} {want b : Bool} {s : Slot} (hg : o.guard = some (j, want)) (hj : (full[j]?).bind (·.dst) = some t) (hN : Nat.blt t c.N = true)
    (hl : lk Γ t = some s) (hb : ∀ m v, s.p m v → v = .bool b) (hne : (b == want) = false) (hd : o.dst = some d)
    (hN' : Nat.blt d c.N = true) (k : OpsJ c full l ((d, val undef) :: Γ) H K) : OpsJ c full (o :: l) Γ H K := by
  intro a w Q hQ hst
  have hst' := hst
  obtain ⟨hdf, hn, m, hs, hgd, hG, he, hsat, hf⟩ := hst
  have hv := hb m _ (he t s hl)
  have hlt : t < a.tmps.size := by rw [hn]; simpa [Nat.blt_eq] using hN
  have hy : yielded full a.tmps j = some b := by
    simp only [yielded, hj, Option.bind_some, Array.getElem?_eq_getElem hlt]
    simp only [Array.getD, hlt, dite_true] at hv
    simp only [Array.getInternal_eq_getElem] at hv
    rw [hv]
  have hk := k (a.put o.dst undef) w Q hQ ⟨by rw [put_defers]; exact hdf, by rw [put_size]; exact hn, m, hs, hgd, hG, by
    rw [hd]; exact he.put (by rw [hn]; simpa [Nat.blt_eq] using hN') rfl, hsat, hf⟩
  have hne' : b ≠ want := by simpa using hne
  have hw : Region.wanted o (yielded full a.tmps) = false := by simp [Region.wanted, hg, hy, hne']
  simp only [wpListIn, hw, Bool.false_eq_true, if_false]
  exact ⟨fun f _ => fen_fn _ f, hk⟩
/-! ## Small operations -/
/-- A variable that is never written again. -/
theorem pj_box_to {T : TypeId} {R : Rep α} {x : α} {y : Operand} (hy : Has Γ y (R.slot x)) : PJ c ⟨od, .box T y, ty, pos, aft, g⟩ Γ H (ptrTo R x) := by
  intro m hs a w hg _ hsat ho
  obtain ⟨cs, hc, hr⟩ := Rep.is_cells (hy m a (ho y (by simp [Op.operands])))
  have hrun : (execOp a.eval ⟨od, .box T y, ty, pos, aft, g⟩).run c.P w = .ok (.value (.pointer (some ⟨w.heap.size, 0, none⟩))) (w.alloc (.cells cs.toArray T)) := by
    simp [execOp, Instr.box, newVar, newRow, hc]
  rw [hrun]
  have hg1 := hg.newOwn T cs
  have hle := hg1.le_put
  refine ⟨m.put w.heap.size cs, hg1.freeze, ⟨_, 0, cs, rfl, R.mono hle hr, Mem.at_put m _ cs⟩, ?_⟩
  exact (Frm.alloc w m [] (.cells cs.toArray T)).freeze hle
/-- A slice of an array that stays. -/
theorem pj_slice_to {T n : Nat} {x : Operand} {lo hi : Option Operand} {R : Rep α} {v : Vector α n} {p q : Option Int} {r : List α} (hx : Has Γ x (ptrTo (vec n R) v)) (hlo : OptI Γ lo p) (hhi : OptI Γ hi q)
    (h : lslice v.toList (p.getD 0) (q.getD n) = some r) (hlt : p.getD 0 < n) (hT : arrB c.P T n R.n = true) : PJ c ⟨od, .slice T x lo hi none, ty, pos, aft, g⟩ Γ H ((sl R).slot r) :=
  pj_of fun m hs2 a w hg _ _ ho => by
    obtain ⟨h0, h1, h2, h3⟩ := lslice_some h
    have h2' : q.getD n ≤ (n : Int) := by simpa using h2
    obtain ⟨b, o, ds, e, hr, hat⟩ := hx m a (ho x (by simp [Op.operands]))
    have hlo' := hlo.val (m := m) (a := a) (fun y hy => ho y (by subst hy; simp [Op.operands]))
    have hhi' := hhi.val (m := m) (a := a) (fun y hy => ho y (by subst hy; simp [Op.operands]))
    obtain ⟨el, hu, hs⟩ := arrB_of hT
    have hz := szB_run hs w
    have hb := run_sliceBounds (P := c.P) (isS := false) hlo' hhi' h0 h1 h2' w
    refine ⟨.slice (some ⟨b, o + (p.getD 0).toNat * R.n, none⟩) ((q.getD n).toNat - (p.getD 0).toNat) (n - (p.getD 0).toNat), by
      simp only [execOp, e, Option.map_none, Sem.run_bind, Instr.sliceAt, run_underlying hu, Result.andThen_ok, Instr.sureAddr, Sem.run_pure, hb, hz]
      rw [if_neg (by omega)]
      simp [Addr.add_lit], ?_⟩
    have hrow : RowC R m ds v.toList := hr
    have hlen : r.length = (q.getD n).toNat - (p.getD 0).toNat := by
      rw [← h3]; simp; omega
    refine ⟨_, n - (p.getD 0).toNat, by rw [hlen], by rw [hlen]; omega, .inr ⟨b, _, (ds.drop ((p.getD 0).toNat * R.n)).take (((q.getD n).toNat - (p.getD 0).toNat) * R.n), rfl, ?_, hat.mid _ _⟩⟩
    have := (hrow.drop (p.getD 0).toNat).take ((q.getD n).toNat - (p.getD 0).toNat)
    rw [← h3, List.drop_take]
    exact this
/-- The whole of an array that stays. -/
theorem pj_slice_toF {T n : Nat} {x : Operand} {R : Rep α} {v : Vector α n} (hx : Has Γ x (ptrTo (vec n R) v)) (hn : 0 < n) (hT : arrB c.P T n R.n = true) : PJ c ⟨od, .slice T x none none none, ty, pos, aft, g⟩ Γ H ((sl R).slot v.toList) :=
  pj_slice_to (p := none) (q := none) hx .no .no (by simp only [lslice, Option.getD_none]; rw [if_pos (by simp)]; simp [List.take_of_length_le]) (by simpa using hn) hT
/-! ## Arrays written out -/
def setAll {n : Nat} (x : Vector α n) : Nat → List α → Vector α n
  | _, [] => x
  | k, z :: zs => setAll (x.setIfInBounds k z) (k + 1) zs
theorem setAll_toList {n : Nat} : ∀ (zs : List α) (x : Vector α n) (k : Nat), k + zs.length ≤ n → (setAll x k zs).toList = x.toList.take k ++ zs ++ x.toList.drop (k + zs.length)
  | [], x, k, _ => by simp [setAll]
  | z :: zs, x, k, h => by
    simp only [List.length_cons] at h
    have hk : k < n := by omega
    rw [setAll, setAll_toList zs _ (k + 1) (by omega)]
    have e : (x.setIfInBounds k z).toList = x.toList.set k z := by simp [Vector.toList_setIfInBounds]
    rw [e, List.take_set, List.drop_set]
    have e1 : x.toList.take (k + 1) = x.toList.take k ++ [x[k]] := by
      rw [List.take_succ_eq_append_getElem (by simpa using hk)]; simp
    rw [e1]
    have hl : (x.toList.take k).length = k := by simp; omega
    have e2 : ((x.toList.take k ++ [x[k]]).set k z) = x.toList.take k ++ [z] := by
      rw [List.set_append]; simp [hl]
    rw [e2, if_pos (by omega)]
    simp only [List.append_assoc, List.singleton_append, List.length_cons]
    rw [show k + 1 + zs.length = k + (zs.length + 1) by omega]
theorem setAll_all {n : Nat} (zs : List α) (h : zs.length = n) (x : Vector α n) : setAll x 0 zs = ⟨zs.toArray, by simpa using h⟩ := by
  apply Vector.toList_inj.1
  rw [setAll_toList zs x 0 (by omega)]
  simp only [List.take_zero, List.nil_append, Nat.zero_add]
  rw [List.drop_of_length_le (by simp; omega)]
  simp [Vector.toList]
theorem placeOf_arr {P : Program} {T n sz : Nat} (h : arrB P T n sz = true) (i : Nat) : placeOf P T i = some (i * sz, sz) := by
  obtain ⟨e, hu, hs⟩ := arrB_of h
  unfold placeOf
  rw [hu]
  simp only [szB] at hs
  cases hi : P.info? e with
  | none => rw [hi] at hs; cases hs
  | some t => rw [hi] at hs; simp only [beq_iff_eq] at hs; simp [hi, hs]
theorem buildJ_arr {T n : Nat} {R : Rep α} (hT : arrB c.P T n R.n = true) : ∀ {ps : List (Nat × Operand)} {zs : List α} {k : Nat} (x : Vector α n), BuildS Γ R k ps zs → k + zs.length ≤ n → BuildJ c.P T Γ (vec n R) ps x (setAll x k zs)
  | _, _, k, x, .nil, _ => .nil
  | _, _, k, x, .cons hy hr, h => by
    simp only [List.length_cons] at h
    exact .cons hy (Path.atI n R k (by omega)) (placeOf_arr hT k) (buildJ_arr hT _ hr (by omega))
theorem buildB_arr {P : Program} {T n sz : Nat} (h : arrB P T n sz = true) : buildB P T = true := by
  obtain ⟨e, hu, hs⟩ := arrB_of h
  unfold buildB
  rw [hu]
  simp only [szB] at hs
  show (P.info? e).isSome = true
  cases hi : P.info? e with
  | none => rw [hi] at hs; cases hs
  | some t => rfl
theorem pj_buildArr {T n : Nat} {R : Rep α} {z0 : α} {zs : List α} {v : Vector α n} {ps : List (Nat × Operand)} {zc : List Value} (hz : ZeroR (vec n R) (Vector.replicate n z0) zc) (hZ : zeroB c.P T = some zc) (h : BuildS Γ R 0 ps zs) (hT : arrB c.P T n R.n = true) (hv : v.toList = zs) :
    PJ c ⟨od, .build T ps.toArray, ty, pos, aft, g⟩ Γ H ((vec n R).slot v) := by
  have hl : zs.length = n := by rw [← hv]; simp
  have := pj_build (c := c) (Γ := Γ) (H := H) (od := od) (ty := ty) (pos := pos) (aft := aft) (g := g) hz hZ (buildB_arr hT) rfl (buildJ_arr hT (Vector.replicate n z0) h (by omega))
  rw [setAll_all zs hl] at this
  have e : v = ⟨zs.toArray, by simpa using hl⟩ := by
    apply Vector.toList_inj.1
    rw [hv]; simp [Vector.toList]
  rw [e]; exact this
/-! ## Function values -/
/-- A function value whose captured variables are as the slots say. -/
def fnS (f : FuncId) (ss : List Slot) : Slot where
  p := fun m v => ∃ cs : List Value, v = .func (.func f) #[] cs.toArray ∧ All2 m ss cs
  mono := fun hm ⟨cs, e, h⟩ => ⟨cs, e, h.mono hm⟩
theorem has_fn0 {f : FuncId} : Has Γ (.func f) (fnS f []) := fun m a _ => ⟨[], rfl, rfl⟩
theorem run_call_fn {P : Program} {f : FuncId} (h : callB P f = true) (ρ : Operand → Value) (x : Operand) (cs : List Value) (hx : ρ x = .func (.func f) #[] cs.toArray) (args : List Operand) (ats : Array TypeId) (w : World) (od : Option Tmp) (g : Option (Nat × Bool)) :
    (execOp ρ ⟨od, .call { callee := .value x, args := args.toArray, argTypes := ats }, ty, pos, aft, g⟩).run P w = .ok (.enter f (args.map ρ ++ cs).toArray) w := by
  simp only [execOp, resolve, Sem.run_bind, hx, Deferred.ofValue, Sem.run_pure, Result.andThen_ok, invoke]
  simp only [List.map_toArray, Array.empty_append, List.append_toArray]
  rw [run_callFunc h]; rfl
theorem All2.append {m : Mem} : ∀ {ss ss' : List Slot} {vs vs' : List Value}, All2 m ss vs → All2 m ss' vs' → All2 m (ss ++ ss') (vs ++ vs')
  | [], _, _, _, h, k => by cases h; exact k
  | s :: ss, _, _, _, ⟨v, vs', e, p, q⟩, k => by subst e; exact ⟨v, _, rfl, p, All2.append q k⟩
/-- A call of a function value. -/
theorem pj_callV {x : Operand} {f : FuncId} {args : List Operand} {ats : Array TypeId} {A ss : List Slot} {ι : Type} {s : Slot} (hx : Has Γ x (fnS f ss)) (hA : HasL Γ args A) (hf : callB c.P f = true)
    (hC : Ctr c.P c.G f (A ++ ss) [] (fun _ : ι => s) (fun _ => [])) : PJ c ⟨od, .call { callee := .value x, args := args.toArray, argTypes := ats }, ty, pos, aft, g⟩ Γ H s := by
  intro m hs a w hg hG hsat ho
  obtain ⟨cs, hxe, hcs⟩ := hx m a (ho x (by simp [Op.operands, Call.operands]))
  rw [run_call_fn hf a.eval x cs hxe]
  have hall := hA.all (m := m) (a := a) (fun y hy => ho y (by simp [Op.operands, Call.operands, hy]))
  have hg0 : Good m [] w := ⟨hg.mem, List.nodup_nil, (fun _ h => by cases h), (fun _ h => by cases h)⟩
  refine (hC m w (args.map a.eval ++ cs) [] hg0 hG (hall.append hcs) rfl).mono ?_
  rintro e w' ⟨v, m', hs', i, rfl, hg', hv, hsat', hf'⟩
  cases hsat'
  refine ⟨v, rfl, m', ?_, hv, hf'⟩
  refine ⟨hg'.mem, hg.nodup, fun h hh => ?_, fun h hh o => ?_⟩
  · have hb := List.mem_map_of_mem (f := (·.1)) hh
    rw [(hf'.old h.1 (hg.ltb hb) (by simp [Hp.bs])).1]; exact hg.blk h hh
  · have hb := List.mem_map_of_mem (f := (·.1)) hh
    rw [(hf'.old h.1 (hg.ltb hb) (by simp [Hp.bs])).2]; exact hg.free h hh o
/-! ## '[]byte("..")' -/
theorem w_conv_lit {T T0 e : TypeId} {x : Operand} {v : Value} {R : Rep α} {xs : List α} (hx : Has Γ x (ov v)) (hk : Pick H (own T0 R v xs) H') (hT : c.P.underlying T = some (.slice e)) (he : c.P.underlying e = some (.int .u8)) (hR : R.n = 1) (hne : xs ≠ []) (hN : Nat.blt d c.N = true) :
    WJ c ⟨some d, .convert T T x, ty, pos, aft, g⟩ Γ H (fun _ : Unit => [(d, (sl R).slot xs)]) (fun _ => H') := by
  intro m hs a w hg _ hsat ho hn
  have ex : a.eval x = v := (ov_p.1 (hx m a (ho x (by simp [Op.operands])))).1
  obtain ⟨h1, h2, hpm, hown, hs2⟩ := hsat.pick hk
  have hg' := hg.perm hpm
  rcases hown with ⟨e1, _⟩ | ⟨b, cap, row, spare, rfl, rfl, hr, hc, hl⟩
  · exact absurd e1 hne
  have hblk := hg'.blk (b, T0, row ++ spare) (by simp)
  have hb : b < w.heap.size := hg'.ltb (b := b) (by simp [Hp.bs])
  have hsh : w.shape? b = some (T0, (row ++ spare).length) := by
    unfold World.shape?
    simp only at hblk
    rw [hblk]; simp
  obtain ⟨w', hw'⟩ : ∃ w', w' = w.freeze { block := b, off := (row ++ spare).length } 1 := ⟨_, rfl⟩
  have hrun : (execOp a.eval ⟨some d, .convert T T x, ty, pos, aft, g⟩).run c.P w = .ok (.value (.slice (some ⟨b, 0, none⟩) xs.length cap)) w' := by
    simp [execOp, ex, convert, run_underlying hT, run_underlying he, markStringish, hsh, hw']
  rw [hrun]
  obtain ⟨F, hF, hheap⟩ : ∃ F : Obj → Obj, (∀ cs t fr, ∃ fr', F (.cells cs t fr) = .cells cs t fr') ∧ w'.heap = w.heap.modify b F := by
    refine ⟨_, ?_, by rw [hw']; unfold World.freeze; rw [if_neg (by decide)]⟩
    intro cs t fr
    exact ⟨_, rfl⟩
  have hcell : ∀ b' o', w'.cell? ⟨b', o', none⟩ = w.cell? ⟨b', o', none⟩ := by
    intro b' o'
    unfold World.cell?
    rw [hheap, Array.getElem?_modify]
    by_cases hbb : b = b'
    · subst hbb
      simp only at hblk
      obtain ⟨fr', hfr⟩ := hF (row ++ spare).toArray T0 (0, 0)
      simp [hblk, hfr]
    · simp [hbb]
  have hother : ∀ b', b' ≠ b → w'.heap[b']? = w.heap[b']? := by
    intro b' hne'
    rw [hheap, Array.getElem?_modify, if_neg (fun e => hne' e.symm)]
  have hsz : w'.heap.size = w.heap.size := by rw [hheap]; simp
  have hnd := hg'.nodup
  simp only [Hp.bs, List.map_append, List.map_cons, List.map_nil, List.singleton_append, List.nodup_cons] at hnd
  have hle : Mle m (m.put b (row ++ spare)) := Mem.le_put (hg'.free (b, T0, row ++ spare) (by simp))
  refine ⟨(), m.put b (row ++ spare), h2, ⟨?_, ?_, ?_, ?_⟩, env1 (blt_sz hN hn) ?_, hs2.mono hle, ?_⟩
  · intro b' o' v' e'
    rw [hcell]
    simp only [Mem.put] at e'
    split at e'
    · rename_i hbb; rw [hbb]
      exact hg'.cells (b := b) (T := T0) (cs := row ++ spare) (by simp) o' v' e'
    · exact hg'.mem b' o' v' e'
  · exact hnd.2
  · intro h hh
    have hne' : h.1 ≠ b := fun e' => hnd.1 (e' ▸ List.mem_map_of_mem (f := (·.1)) hh)
    rw [hother h.1 hne']
    exact hg'.blk h (by simp [hh])
  · intro h hh o'
    have hne' : h.1 ≠ b := fun e' => hnd.1 (e' ▸ List.mem_map_of_mem (f := (·.1)) hh)
    simp only [Mem.put, if_neg hne']
    exact hg'.free h (by simp [hh]) o'
  · refine ⟨_, cap, rfl, hc, .inr ⟨b, 0, row, rfl, hr.mono hle, ?_⟩⟩
    intro j v' e'
    exact Mem.at_put m b (row ++ spare) j v' (by rw [List.getElem?_append_left]; exact e'; exact (List.getElem?_eq_some_iff.1 e').1)
  · refine Frm.ofPerm hpm ⟨?_, ?_, ?_, by omega, ?_, ?_, hle⟩
    · rw [hw']; rfl
    · rw [hw']; rfl
    · rw [hw']; rfl
    · intro b' hb' hn'
      have hne' : b' ≠ b := fun e' => hn' (by simp [Hp.bs, e'])
      exact ⟨hother b' hne', fun o' => by simp [Mem.put, hne']⟩
    · intro b' hb'
      exact .inl (by simp [Hp.bs]; exact .inr (by simpa [Hp.bs] using hb'))
/-- A writer, in a straight run. -/
theorem j_w {o : Oper} {ι : Type} {V2 : ι → Env} {H2 : ι → List Ent} (hw : WJ c o Γ H V2 H2) (hg : o.guard = none) (hd : ∀ i d, o.dst = some d → (lk (V2 i) d).isSome = true) (k : ∀ i, OpsJ c full l (V2 i ++ Γ) (H2 i) K) : OpsJ c full (o :: l) Γ H K := by
  refine j_step_ex (Γ2 := fun i => V2 i ++ Γ) (H2 := H2) hg ?_ k
  intro m hs a w hgd hG hsat he hn
  refine Upon.mono (hw m hs a w hgd hG hsat (fun x _ => he.opd x) hn) ?_
  rintro v w' ⟨i, m', hs', hg', hV, hs2, hf⟩
  refine ⟨i, m', hs', hg', ?_, hs2, hf⟩
  intro t s e
  rw [lk_append] at e
  cases hv : lk (V2 i) t with
  | some s1 => rw [hv] at e; cases e; exact hV t _ hv
  | none =>
    rw [hv] at e
    have hne : o.dst ≠ some t := fun h => by have := hd i t h; rw [hv] at this; cases this
    cases hdd : o.dst with
    | none => exact (he.mono hf.le) t s e
    | some d => rw [put_getD_ne (fun h => hne (by rw [hdd, h]))]; exact (he.mono hf.le) t s e
end
end Go.Sl
