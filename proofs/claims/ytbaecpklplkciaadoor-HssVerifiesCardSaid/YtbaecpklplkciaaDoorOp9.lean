import Derived.Test.YtbaecpklplkciaaDoorWOps
import Derived.Laws.BytesArg
set_option linter.unusedSimpArgs false
set_option linter.unusedVariables false
set_option linter.unusedSectionVars false
namespace Go.Sl
section
variable {c : Ctx} {full : Array Oper} {l : List Oper} {Γ Γ' : Env} {H H' : List Ent} {K : Act → World → Prop} {d : Tmp} {od : Option Tmp} {ty : TypeId} {pos : String} {aft : Array Edge} {g : Option (Nat × Bool)} {α β : Type}
/-! ## Guards that say no, and what hangs on them -/
theorem j_guard_no2 {o : Oper} {j d t : Nat} {want b : Bool} {s : Slot} (hg : o.guard = some (j, want)) (hj : (full[j]?).bind (·.dst) = some t) (hN : Nat.blt t c.N = true)
    (hl : lk Γ t = some s) (hb : ∀ m v, s.p m v → v = .bool b) (hne : (b == want) = false) (hd : o.dst = some d)
    (hN' : Nat.blt d c.N = true) (k : OpsJ c full l ((d, val undef) :: Γ) H K) : OpsJ c full (o :: l) Γ H K := by
  intro a w Q hQ hst
  have hst' := hst
  obtain ⟨hdf, hn, m, hs, hgd, hG, he, hsat, hf⟩ := hst
  have hv := hb m _ (he t s hl)
  have hlt : t < a.tmps.size := by rw [hn]; simpa [Nat.blt_eq] using hN
  have hy : yielded full a.tmps j = some b := by
    simp only [yielded, hj, Option.bind_some, Array.getElem?_eq_getElem hlt]
    simp only [Array.getD, hlt, dite_true] at hv
    simp only [Array.getInternal_eq_getElem] at hv
    rw [hv]
  have hk := k (a.put o.dst undef) w Q hQ ⟨by rw [put_defers]; exact hdf, by rw [put_size]; exact hn, m, hs, hgd, hG, by
    rw [hd]; exact he.put (by rw [hn]; simpa [Nat.blt_eq] using hN') rfl, hsat, hf⟩
  have hne' : b ≠ want := by simpa using hne
  have hw : Region.wanted o (yielded full a.tmps) = false := by simp [Region.wanted, hg, hy, hne']
  simp only [wpListIn, hw, Bool.false_eq_true, if_false]
  exact ⟨fun f _ => fen_fn _ f, hk⟩
/-! ## Small operations -/
/-- A variable that is never written again. -/
theorem pj_box_to {T : TypeId} {R : Rep α} {x : α} {y : Operand} (hy : Has Γ y (R.slot x)) : PJ c ⟨od, .box T y, ty, pos, aft, g⟩ Γ H (ptrTo R x) := by
  intro m hs a w hg _ hsat ho
  obtain ⟨cs, hc, hr⟩ := Rep.is_cells (hy m a (ho y (by simp [Op.operands])))
  have hrun : (execOp a.eval ⟨od, .box T y, ty, pos, aft, g⟩).run c.P w = .ok (.value (.pointer (some ⟨w.heap.size, 0, none⟩))) (w.alloc (.cells cs.toArray T)) := by
    simp [execOp, Instr.box, newVar, newRow, hc]
  rw [hrun]
  have hg1 := hg.newOwn T cs
  have hle := hg1.le_put
  refine ⟨m.put w.heap.size cs, hg1.freeze, ⟨_, 0, cs, rfl, R.mono hle hr, Mem.at_put m _ cs⟩, ?_⟩
  exact (Frm.alloc w m [] (.cells cs.toArray T)).freeze hle
theorem pj_nilCheck_some {x : Operand} {R : Rep α} {p : Option α} {y : α} (hx : Has Γ x ((ptr R).slot p)) (hp : p = some y) : PJ c ⟨od, .nilCheck x, ty, pos, aft, g⟩ Γ H (ptrTo R y) := by
  subst hp; exact pj_nilCheck_to (has_deref hx)
/-- A slice of an array that stays. -/
theorem pj_slice_to {T n : Nat} {x : Operand} {lo hi : Option Operand} {R : Rep α} {v : Vector α n} {p q : Option Int} {r : List α} (hx : Has Γ x (ptrTo (vec n R) v)) (hlo : OptI Γ lo p) (hhi : OptI Γ hi q)
    (h : lslice v.toList (p.getD 0) (q.getD n) = some r) (hlt : p.getD 0 < n) (hT : arrB c.P T n R.n = true) : PJ c ⟨od, .slice T x lo hi none, ty, pos, aft, g⟩ Γ H ((sl R).slot r) :=
  pj_of fun m hs2 a w hg _ _ ho => by
    obtain ⟨h0, h1, h2, h3⟩ := lslice_some h
    have h2' : q.getD n ≤ (n : Int) := by simpa using h2
    obtain ⟨b, o, ds, e, hr, hat⟩ := hx m a (ho x (by simp [Op.operands]))
    have hlo' := hlo.val (m := m) (a := a) (fun y hy => ho y (by subst hy; simp [Op.operands]))
    have hhi' := hhi.val (m := m) (a := a) (fun y hy => ho y (by subst hy; simp [Op.operands]))
    obtain ⟨el, hu, hs⟩ := arrB_of hT
    have hz := szB_run hs w
    have hb := run_sliceBounds (P := c.P) (isS := false) hlo' hhi' h0 h1 h2' w
    refine ⟨.slice (some ⟨b, o + (p.getD 0).toNat * R.n, none⟩) ((q.getD n).toNat - (p.getD 0).toNat) (n - (p.getD 0).toNat), by
      simp only [execOp, e, Option.map_none, Sem.run_bind, Instr.sliceAt, run_underlying hu, Result.andThen_ok, Instr.sureAddr, Sem.run_pure, hb, hz]
      rw [if_neg (by omega)]
      simp [Addr.add_lit], ?_⟩
    have hrow : RowC R m ds v.toList := hr
    have hlen : r.length = (q.getD n).toNat - (p.getD 0).toNat := by
      rw [← h3]; simp; omega
    refine ⟨_, n - (p.getD 0).toNat, by rw [hlen], by rw [hlen]; omega, .inr ⟨b, _, (ds.drop ((p.getD 0).toNat * R.n)).take (((q.getD n).toNat - (p.getD 0).toNat) * R.n), rfl, ?_, hat.mid _ _⟩⟩
    have := (hrow.drop (p.getD 0).toNat).take ((q.getD n).toNat - (p.getD 0).toNat)
    rw [← h3, List.drop_take]
    exact this
/-- The whole of an array that stays. -/
theorem pj_slice_toF {T n : Nat} {x : Operand} {R : Rep α} {v : Vector α n} (hx : Has Γ x (ptrTo (vec n R) v)) (hn : 0 < n) (hT : arrB c.P T n R.n = true) : PJ c ⟨od, .slice T x none none none, ty, pos, aft, g⟩ Γ H ((sl R).slot v.toList) :=
  pj_slice_to (p := none) (q := none) hx .no .no (by simp only [lslice, Option.getD_none]; rw [if_pos (by simp)]; simp [List.take_of_length_le]) (by simpa using hn) hT
/-! ## Arrays written out -/
def setAll {n : Nat} (x : Vector α n) : Nat → List α → Vector α n
  | _, [] => x
  | k, z :: zs => setAll (x.setIfInBounds k z) (k + 1) zs
theorem setAll_toList {n : Nat} : ∀ (zs : List α) (x : Vector α n) (k : Nat), k + zs.length ≤ n → (setAll x k zs).toList = x.toList.take k ++ zs ++ x.toList.drop (k + zs.length)
  | [], x, k, _ => by simp [setAll]
  | z :: zs, x, k, h => by
    simp only [List.length_cons] at h
    have hk : k < n := by omega
    rw [setAll, setAll_toList zs _ (k + 1) (by omega)]
    have e : (x.setIfInBounds k z).toList = x.toList.set k z := by simp [Vector.toList_setIfInBounds]
    rw [e, List.take_set, List.drop_set]
    have e1 : x.toList.take (k + 1) = x.toList.take k ++ [x[k]] := by
      rw [List.take_succ_eq_append_getElem (by simpa using hk)]; simp
    rw [e1]
    have hl : (x.toList.take k).length = k := by simp; omega
    have e2 : ((x.toList.take k ++ [x[k]]).set k z) = x.toList.take k ++ [z] := by
      rw [List.set_append]; simp [hl]
    rw [e2, if_pos (by omega)]
    simp only [List.append_assoc, List.singleton_append, List.length_cons]
    rw [show k + 1 + zs.length = k + (zs.length + 1) by omega]
theorem setAll_all {n : Nat} (zs : List α) (h : zs.length = n) (x : Vector α n) : setAll x 0 zs = ⟨zs.toArray, by simpa using h⟩ := by
  apply Vector.toList_inj.1
  rw [setAll_toList zs x 0 (by omega)]
  simp only [List.take_zero, List.nil_append, Nat.zero_add]
  rw [List.drop_of_length_le (by simp; omega)]
  simp [Vector.toList]
theorem placeOf_arr {P : Program} {T n sz : Nat} (h : arrB P T n sz = true) (i : Nat) : placeOf P T i = some (i * sz, sz) := by
  obtain ⟨e, hu, hs⟩ := arrB_of h
  unfold placeOf
  rw [hu]
  simp only [szB] at hs
  cases hi : P.info? e with
  | none => rw [hi] at hs; cases hs
  | some t => rw [hi] at hs; simp only [beq_iff_eq] at hs; simp [hi, hs]
theorem buildJ_arr {T n : Nat} {R : Rep α} (hT : arrB c.P T n R.n = true) : ∀ {ps : List (Nat × Operand)} {zs : List α} {k : Nat} (x : Vector α n), BuildS Γ R k ps zs → k + zs.length ≤ n → BuildJ c.P T Γ (vec n R) ps x (setAll x k zs)
  | _, _, k, x, .nil, _ => .nil
  | _, _, k, x, .cons hy hr, h => by
    simp only [List.length_cons] at h
    exact .cons hy (Path.atI n R k (by omega)) (placeOf_arr hT k) (buildJ_arr hT _ hr (by omega))
theorem buildB_arr {P : Program} {T n sz : Nat} (h : arrB P T n sz = true) : buildB P T = true := by
  obtain ⟨e, hu, hs⟩ := arrB_of h
  unfold buildB
  rw [hu]
  simp only [szB] at hs
  show (P.info? e).isSome = true
  cases hi : P.info? e with
  | none => rw [hi] at hs; cases hs
  | some t => rfl
theorem pj_buildArr {T n : Nat} {R : Rep α} {z0 : α} {zs : List α} {v : Vector α n} {ps : List (Nat × Operand)} {zc : List Value} (hz : ZeroR (vec n R) (Vector.replicate n z0) zc) (hZ : zeroB c.P T = some zc) (h : BuildS Γ R 0 ps zs) (hT : arrB c.P T n R.n = true) (hv : v.toList = zs) :
    PJ c ⟨od, .build T ps.toArray, ty, pos, aft, g⟩ Γ H ((vec n R).slot v) := by
  have hl : zs.length = n := by rw [← hv]; simp
  have := pj_build (c := c) (Γ := Γ) (H := H) (od := od) (ty := ty) (pos := pos) (aft := aft) (g := g) hz hZ (buildB_arr hT) rfl (buildJ_arr hT (Vector.replicate n z0) h (by omega))
  rw [setAll_all zs hl] at this
  have e : v = ⟨zs.toArray, by simpa using hl⟩ := by
    apply Vector.toList_inj.1
    rw [hv]; simp [Vector.toList]
  rw [e]; exact this
/-! ## Function values -/
/-- A function value whose captured variables are as the slots say. -/
def fnS (f : FuncId) (ss : List Slot) : Slot where
  p := fun m v => ∃ cs : List Value, v = .func (.func f) #[] cs.toArray ∧ All2 m ss cs
  mono := fun hm ⟨cs, e, h⟩ => ⟨cs, e, h.mono hm⟩
theorem pj_makeFunc {f : FuncId} {xs : List Operand} {ss : List Slot} (h : HasL Γ xs ss) : PJ c ⟨od, .makeFunc (.func f) #[] xs.toArray, ty, pos, aft, g⟩ Γ H (fnS f ss) :=
  pj_of fun m hs a w _ _ _ ho => by
    have hall := h.all (m := m) (a := a) (fun y hy => ho y (by simp [Op.operands, hy]))
    refine ⟨.func (.func f) #[] ((xs.map a.eval).toArray), ?_, xs.map a.eval, rfl, hall⟩
    simp [execOp, Instr.makeFunc, Sem.run_bind]
theorem All2.append {m : Mem} : ∀ {ss ss' : List Slot} {vs vs' : List Value}, All2 m ss vs → All2 m ss' vs' → All2 m (ss ++ ss') (vs ++ vs')
  | [], _, _, _, h, k => by cases h; exact k
  | s :: ss, _, _, _, ⟨v, vs', e, p, q⟩, k => by subst e; exact ⟨v, _, rfl, p, All2.append q k⟩
/-! ## '[]byte("..")' -/
end
end Go.Sl
