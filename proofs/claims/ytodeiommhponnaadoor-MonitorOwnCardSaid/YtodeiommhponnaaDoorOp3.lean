import Derived.Test.YtodeiommhponnaaDoorOp2
set_option linter.unusedSimpArgs false
set_option linter.unusedVariables false
set_option linter.unusedSectionVars false
namespace Go.Sl
/-! ## New blocks -/
theorem Good.lt {m : Mem} {hs : Hp} {w : World} (hg : Good m hs w) {b o : Nat} {v : Value} (h : m b o = some v) : b < w.heap.size :=
  World.block_lt_of_cell? w ⟨b, o, none⟩ (hg.mem b o v h)
theorem Good.ltb {m : Mem} {hs : Hp} {w : World} (hg : Good m hs w) {b : Nat} (h : b ∈ hs.bs) : b < w.heap.size := by
  obtain ⟨x, hx, rfl⟩ := List.mem_map.1 h
  have := hg.blk x hx
  rcases Nat.lt_or_ge x.1 w.heap.size with h | h
  · exact h
  · rw [Array.getElem?_eq_none h] at this; cases this
theorem heap_alloc_old {w : World} {o : Obj} {b : Nat} (h : b < w.heap.size) : (w.alloc o).heap[b]? = w.heap[b]? := by
  show (w.heap.push o)[b]? = _
  rw [Array.getElem?_push, if_neg (by omega)]
theorem heap_alloc_new {w : World} {o : Obj} : (w.alloc o).heap[w.heap.size]? = some o := by
  show (w.heap.push o)[w.heap.size]? = _
  rw [Array.getElem?_push, if_pos rfl]
theorem Good.drew {m : Mem} {hs : Hp} {w : World} (hg : Good m hs w) : Good m hs w.drew := ⟨hg.mem, hg.nodup, hg.blk, hg.free⟩
theorem Good.newOwn {m : Mem} {hs : Hp} {w : World} (hg : Good m hs w) (T : TypeId) (cs : List Value) : Good m ((w.heap.size, T, cs) :: hs) (w.alloc (.cells cs.toArray T)) where
  mem := fun b o v h => (World.cell?_alloc_lt w _ ⟨b, o, none⟩ (hg.lt h)).trans (hg.mem b o v h)
  nodup := by
    simp only [Hp.bs, List.map_cons, List.nodup_cons]
    exact ⟨fun h => Nat.lt_irrefl _ (hg.ltb h), hg.nodup⟩
  blk := fun x hx => by
    rcases List.mem_cons.1 hx with rfl | hx
    · exact heap_alloc_new
    · rw [heap_alloc_old (hg.ltb (List.mem_map_of_mem (f := (·.1)) hx))]; exact hg.blk x hx
  free := fun x hx o => by
    rcases List.mem_cons.1 hx with rfl | hx
    · cases h : m w.heap.size o with
      | none => rfl
      | some v => exact absurd (hg.lt h) (Nat.lt_irrefl _)
    · exact hg.free x hx o
theorem Frm.alloc (w : World) (m : Mem) (bs : List Nat) (o : Obj) : Frm w (w.alloc o) m m bs (w.heap.size :: bs) where
  os := rfl
  tape := rfl
  output := rfl
  size := by simp
  old := fun b hb _ => ⟨heap_alloc_old hb, fun _ => rfl⟩
  own := fun b hb => by
    rcases List.mem_cons.1 hb with rfl | hb
    · exact .inr (Nat.le_refl _)
    · exact .inl hb
  le := Mle.refl m
theorem Frm.drew (w : World) (m : Mem) (bs : List Nat) : Frm w w.drew m m bs bs := ⟨rfl, rfl, rfl, Nat.le_refl _, fun _ _ _ => ⟨rfl, fun _ => rfl⟩, fun _ h => .inl h, Mle.refl m⟩
/-- A block's cells made memory that stays. -/
def Mem.put (m : Mem) (b : Nat) (cs : List Value) : Mem := fun b' o => if b' = b then cs[o]? else m b' o
theorem Mem.le_put {m : Mem} {b : Nat} {cs : List Value} (h : ∀ o, m b o = none) : Mle m (m.put b cs) := by
  intro b' o v e
  unfold Mem.put
  split
  · rename_i hb; subst hb; rw [h o] at e; cases e
  · exact e
theorem Mem.at_put (m : Mem) (b : Nat) (cs : List Value) : At (m.put b cs) b 0 cs := by
  intro j v e
  simp [Mem.put, e]
/-- A block of the call's own, made to stay. -/
theorem Good.freeze {m : Mem} {hs : Hp} {w : World} {b : Nat} {T : TypeId} {cs : List Value} (hg : Good m ((b, T, cs) :: hs) w) : Good (m.put b cs) hs w where
  mem := fun b' o v h => by
    unfold Mem.put at h
    split at h
    · rename_i hb; subst hb; exact hg.cells (T := T) (cs := cs) (by simp) o v h
    · exact hg.mem b' o v h
  nodup := by
    have := hg.nodup
    simp only [Hp.bs, List.map_cons, List.nodup_cons] at this
    exact this.2
  blk := fun x hx => hg.blk x (List.mem_cons_of_mem _ hx)
  free := fun x hx o => by
    have := hg.nodup
    simp only [Hp.bs, List.map_cons, List.nodup_cons] at this
    have hne : x.1 ≠ b := fun e => this.1 (by rw [← e]; exact List.mem_map_of_mem (f := (·.1)) hx)
    simp only [Mem.put, if_neg hne]
    exact hg.free x (List.mem_cons_of_mem _ hx) o
theorem Good.le_put {m : Mem} {hs : Hp} {w : World} {b : Nat} {T : TypeId} {cs : List Value} (hg : Good m ((b, T, cs) :: hs) w) : Mle m (m.put b cs) := Mem.le_put (hg.free (b, T, cs) (by simp))
theorem Frm.freeze {w w1 : World} {m m1 : Mem} {b0 bs : List Nat} {b : Nat} {cs : List Value} (h : Frm w w1 m m1 b0 (b :: bs)) (hl : Mle m1 (m1.put b cs)) : Frm w w1 m (m1.put b cs) b0 bs where
  os := h.os
  tape := h.tape
  output := h.output
  size := h.size
  old := fun b' hb hn => ⟨(h.old b' hb hn).1, fun o => by
    have hne : b' ≠ b := fun e => by
      subst e
      exact (h.own b' (by simp)).elim hn (fun e => absurd hb (Nat.not_lt.2 e))
    simp only [Mem.put, if_neg hne]
    exact (h.old b' hb hn).2 o⟩
  own := fun b' hb => h.own b' (List.mem_cons_of_mem _ hb)
  le := h.le.trans hl
/-! ## Stores -/
def setBlk (w : World) (b : Nat) (T : TypeId) (cs : List Value) : World := { w with heap := w.heap.setIfInBounds b (.cells cs.toArray T (0, 0)) }
theorem setBlk_self {w : World} {b : Nat} {T : TypeId} {cs : List Value} (h : w.heap[b]? = some (.cells cs.toArray T (0, 0))) : setBlk w b T cs = w := by
  unfold setBlk
  have hlt : b < w.heap.size := by
    rcases Nat.lt_or_ge b w.heap.size with h' | h'
    · exact h'
    · rw [Array.getElem?_eq_none h'] at h; cases h
  have : w.heap.setIfInBounds b (.cells cs.toArray T (0, 0)) = w.heap := by
    apply Array.ext_getElem?
    intro i
    rw [Array.getElem?_setIfInBounds]
    split
    · rename_i e; subst e; rw [h]
    · rfl
  rw [this]
theorem setCell_eq {w : World} {b k : Nat} {T : TypeId} {cs : List Value} {v : Value} (h : w.heap[b]? = some (.cells cs.toArray T (0, 0))) :
    w.setCell ⟨b, k, none⟩ v = setBlk w b T (cs.set k v) := by
  unfold World.setCell setBlk
  congr 1
  apply Array.ext_getElem?
  intro i
  rw [Array.getElem?_modify, Array.getElem?_setIfInBounds]
  by_cases hi : b = i
  · subst hi
    have hlt : b < w.heap.size := by
      rcases Nat.lt_or_ge b w.heap.size with h' | h'
      · exact h'
      · rw [Array.getElem?_eq_none h'] at h; cases h
    have h' : w.heap[b] = .cells cs.toArray T (0, 0) := by simpa [hlt] using h
    simp [hlt, h']
  · simp [hi]
theorem setBlk_blk {w : World} {b : Nat} {T : TypeId} {cs cs' : List Value} (h : w.heap[b]? = some (.cells cs.toArray T (0, 0))) : (setBlk w b T cs').heap[b]? = some (.cells cs'.toArray T (0, 0)) := by
  have hlt : b < w.heap.size := by
    rcases Nat.lt_or_ge b w.heap.size with h' | h'
    · exact h'
    · rw [Array.getElem?_eq_none h'] at h; cases h
  simp [setBlk, Array.getElem?_setIfInBounds, hlt]
theorem setBlk_setBlk {w : World} {b : Nat} {T : TypeId} {cs cs' : List Value} : setBlk (setBlk w b T cs) b T cs' = setBlk w b T cs' := by
  unfold setBlk
  congr 1
  simp
theorem run_storeCells {P : Program} {b o : Nat} {T : TypeId} : ∀ (ds : List Value) (i : Nat) (cs : List Value) (w : World), (∀ v ∈ ds, v.oneCell' = true) →
    w.heap[b]? = some (.cells cs.toArray T (0, 0)) → o + i + ds.length ≤ cs.length →
    (storeCells ⟨b, o, none⟩ ds i).run P w = .ok () (setBlk w b T (cs.take (o + i) ++ ds ++ cs.drop (o + i + ds.length)))
  | [], i, cs, w, _, hb, _ => by
    simp only [storeCells, Sem.run_pure, List.append_nil, List.length_nil, Nat.add_zero, List.take_append_drop]
    rw [setBlk_self hb]
  | v :: ds, i, cs, w, hv, hb, hl => by
    simp only [List.length_cons] at hl
    have hlt : o + i < cs.length := by omega
    have hc : w.cell? ⟨b, o + i, none⟩ = some cs[o + i] := by simp [World.cell?, hb, hlt]
    have hf : w.frozen? ⟨b, o + i, none⟩ = false := by simp [World.frozen?, hb]
    have ih := run_storeCells (P := P) (b := b) (o := o) (T := T) ds (i + 1) (cs.set (o + i) v) (setBlk w b T (cs.set (o + i) v)) (fun u hu => hv u (List.mem_cons_of_mem _ hu)) (setBlk_blk hb) (by simp; omega)
    simp only [storeCells, Sem.run_bind, Addr.add_lit]
    rw [run_store P w _ v .plain (hv v (by simp)), hc]
    simp only [hf, Bool.false_eq_true, if_false, Result.andThen_ok, setCell_eq hb, ih, setBlk_setBlk]
    congr 2
    have e1 : (cs.set (o + i) v).take (o + (i + 1)) = cs.take (o + i) ++ [v] := by
      rw [show o + (i + 1) = (o + i) + 1 by omega, List.take_succ_eq_append_getElem (by simpa using hlt)]
      rw [List.take_set, List.set_eq_of_length_le (by simp; omega)]; simp
    have e2 : (cs.set (o + i) v).drop (o + (i + 1) + ds.length) = cs.drop (o + i + (v :: ds).length) := by
      rw [List.drop_set_of_lt (by omega)]; congr 1; simp; omega
    rw [e1, e2]; simp
theorem Good.setBlk {m : Mem} {hs : Hp} {w : World} {b : Nat} {T : TypeId} {cs : List Value} (cs' : List Value) (hg : Good m ((b, T, cs) :: hs) w) : Good m ((b, T, cs') :: hs) (setBlk w b T cs') where
  mem := fun b' o v h => by
    have hne : b' ≠ b := fun e => by subst e; rw [hg.free (b', T, cs) (by simp) o] at h; cases h
    have := hg.mem b' o v h
    have hbk : (Sl.setBlk w b T cs').heap[b']? = w.heap[b']? := by
      have hne' : b ≠ b' := fun e => hne e.symm
      simp [Sl.setBlk, Array.getElem?_setIfInBounds, hne']
    exact (World.cell?_of_block (w := w) (a := ⟨b', o, none⟩) hbk).trans this
  nodup := hg.nodup
  blk := fun x hx => by
    rcases List.mem_cons.1 hx with rfl | hx
    · exact setBlk_blk (hg.blk (b, T, cs) (by simp))
    · have hn := hg.nodup
      simp only [Hp.bs, List.map_cons, List.nodup_cons] at hn
      have hne : b ≠ x.1 := fun e => hn.1 (by rw [e]; exact List.mem_map_of_mem (f := (·.1)) hx)
      simp only [Sl.setBlk, Array.getElem?_setIfInBounds, if_neg hne]
      exact hg.blk x (List.mem_cons_of_mem _ hx)
  free := fun x hx o => by
    rcases List.mem_cons.1 hx with rfl | hx
    · exact hg.free (b, T, cs) (by simp) o
    · exact hg.free x (List.mem_cons_of_mem _ hx) o
theorem Frm.setBlk {w : World} {m : Mem} {b : Nat} {T : TypeId} {cs : List Value} {bs : List Nat} (hb : b ∈ bs) : Frm w (setBlk w b T cs) m m bs bs where
  os := rfl
  tape := rfl
  output := rfl
  size := by simp [Sl.setBlk]
  old := fun b' hb' hn => by
    have hne : b ≠ b' := fun e => hn (e ▸ hb)
    simp [Sl.setBlk, Array.getElem?_setIfInBounds, hne]
  own := fun b' h => .inl h
  le := Mle.refl m
theorem run_storeAt {P : Program} {w : World} {T T0 : TypeId} {n b o : Nat} {v : Value} {ds cs : List Value} (hT : szB P T n = true) (hv : v.cells = ds.toArray) (hl : ds.length = n) (h1 : ∀ v ∈ ds, v.oneCell' = true)
    (hb : w.heap[b]? = some (.cells cs.toArray T0 (0, 0))) (hn : o + n ≤ cs.length) :
    (Instr.storeAt T (.pointer (some ⟨b, o, none⟩)) v).run P w = .ok () (setBlk w b T0 (cs.take o ++ ds ++ cs.drop (o + n))) := by
  have hs := szB_run hT w
  have hst := run_storeCells (P := P) (o := o) ds 0 cs w h1 hb (by omega)
  simp only [Nat.add_zero, hl] at hst
  simp [Instr.storeAt, Instr.sureAddr, storeVar, hv, hs, hl, hst]

section
variable {c : Ctx} {full : Array Oper} {l : List Oper} {Γ Γ' : Env} {H H' : List Ent} {K : Act → World → Prop} {d : Tmp} {od : Option Tmp} {ty : TypeId} {pos : String} {aft : Array Edge} {α β : Type}
/-- The step of an operation that does more than read. -/
theorem j_step {o : Oper} {Γ2 : Env} {H2 : List Ent} (hg : o.guard = none)
    (h : ∀ m hs a w, Good m hs w → c.G.p m → Sat H m hs → EnvOK Γ m a → a.tmps.size = c.N →
      Upon c.P (fun v w' => ∃ m' hs', Good m' hs' w' ∧ EnvOK Γ2 m' (a.put o.dst v) ∧ Sat H2 m' hs' ∧ Frm w w' m m' hs.bs hs'.bs) ((execOp a.eval o).run c.P w))
    (k : OpsJ c full l Γ2 H2 K) : OpsJ c full (o :: l) Γ H K := by
  intro a w Q hQ ⟨hdf, hn, m, hs, hgd, hG, he, hsat, hf⟩
  refine wpListIn_plain hg fun K' hK' => ?_
  refine Upon.wp (h m hs a w hgd hG hsat he hn) ?_
  rintro v w' ⟨m', hs', hgd', he', hsat', hfr⟩
  exact hK' _ _ (k _ w' Q hQ ⟨by rw [put_defers]; exact hdf.step hgd hfr, by rw [put_size]; exact hn, m', hs', hgd', c.G.mono hfr.le hG, he', hsat', hf.trans hfr⟩)
/-- The same, where what comes next hangs on something new. -/
theorem j_step_ex {ι : Type} {o : Oper} {Γ2 : ι → Env} {H2 : ι → List Ent} (hg : o.guard = none)
    (h : ∀ m hs a w, Good m hs w → c.G.p m → Sat H m hs → EnvOK Γ m a → a.tmps.size = c.N →
      Upon c.P (fun v w' => ∃ i m' hs', Good m' hs' w' ∧ EnvOK (Γ2 i) m' (a.put o.dst v) ∧ Sat (H2 i) m' hs' ∧ Frm w w' m m' hs.bs hs'.bs) ((execOp a.eval o).run c.P w))
    (k : ∀ i, OpsJ c full l (Γ2 i) (H2 i) K) : OpsJ c full (o :: l) Γ H K := by
  intro a w Q hQ ⟨hdf, hn, m, hs, hgd, hG, he, hsat, hf⟩
  refine wpListIn_plain hg fun K' hK' => ?_
  refine Upon.wp (h m hs a w hgd hG hsat he hn) ?_
  rintro v w' ⟨i, m', hs', hgd', he', hsat', hfr⟩
  exact hK' _ _ (k i _ w' Q hQ ⟨by rw [put_defers]; exact hdf.step hgd hfr, by rw [put_size]; exact hn, m', hs', hgd', c.G.mono hfr.le hG, he', hsat', hf.trans hfr⟩)

/-- A type's zero. -/
def ZeroR (R : Rep α) (x : α) (cs : List Value) : Prop := ∀ m, R.rel m cs x
def zeroB (P : Program) (T : TypeId) : Option (List Value) := ((P.info? T).bind (·.zero)).map fun v => v.cells.toList
theorem zero_i64 : ZeroR i64 0 [.int .i64 0] := fun _ => rfl
theorem zero_un {k : IntKind} {w : Nat} : ZeroR (un k w) 0#w [.int k 0] := fun _ => by simp [un]
theorem zero_sl {R : Rep α} : ZeroR (sl R) [] [.slice none 0 0] := fun _ => ⟨none, 0, rfl, Nat.le_refl _, .inl rfl⟩
theorem zero_prod {R : Rep α} {S : Rep β} {x : α} {y : β} {cs ds : List Value} (h : ZeroR R x cs) (k : ZeroR S y ds) : ZeroR (prod R S) (x, y) (cs ++ ds) := fun m => ⟨cs, ds, rfl, h m, k m⟩
theorem zero_vec {R : Rep α} {x : α} {cs : List Value} (n : Nat) (h : ZeroR R x cs) : ZeroR (vec n R) (Vector.replicate n x) (List.replicate n cs).flatten := by
  intro m
  show RowC R m _ (Vector.replicate n x).toList
  have e : (Vector.replicate n x).toList = List.replicate n x := Vector.toList_replicate
  rw [e]
  clear e
  induction n with
  | zero => rfl
  | succ n ih => exact ⟨cs, _, rfl, h m, ih⟩
theorem zeroB_run {P : Program} {T : TypeId} {cs : List Value} (h : zeroB P T = some cs) (w : World) : ∃ v, (zeroValue T).run P w = .ok v w ∧ v.cells = cs.toArray := by
  unfold zeroB at h
  cases hi : P.info? T with
  | none => simp [hi] at h
  | some i =>
    cases hz : i.zero with
    | none => simp [hi, hz] at h
    | some v =>
      simp [hi, hz] at h
      exact ⟨v, by simp [zeroValue, typeInfo, hi, hz], by rw [← h]⟩
theorem j_alloc {T : TypeId} {R : Rep α} {x : α} {cs : List Value} (hz : ZeroR R x cs) (hT : zeroB c.P T = some cs) (hN : Nat.blt d c.N = true)
    (k : ∀ b, OpsJ c full l ((d, val (.pointer (some ⟨b, 0, none⟩))) :: Γ) (box b T R x :: H) K) : OpsJ c full (⟨some d, .alloc T, ty, pos, aft, none⟩ :: l) Γ H K := by
  refine j_step_ex (Γ2 := fun b => (d, val (.pointer (some ⟨b, 0, none⟩))) :: Γ) (H2 := fun b => box b T R x :: H) rfl ?_ k
  intro m hs a w hg _ hsat he hn
  obtain ⟨v, hv, hc⟩ := zeroB_run hT w
  have hr : (execOp a.eval ⟨some d, .alloc T, ty, pos, aft, none⟩).run c.P w = .ok (.value (.pointer (some ⟨w.heap.size, 0, none⟩))) (w.alloc (.cells cs.toArray T)) := by
    simp [execOp, Instr.alloc, hv, newVar, newRow, hc]
  rw [hr]
  exact ⟨w.heap.size, m, _, hg.newOwn T cs, he.put (by rw [hn]; simpa [Nat.blt_eq] using hN) rfl, ⟨[(w.heap.size, T, cs)], hs, rfl, ⟨cs, rfl, hz m⟩, hsat⟩, Frm.alloc _ _ _ _⟩
theorem j_box {T : TypeId} {R : Rep α} {x : α} {y : Operand} (hy : Has Γ y (R.slot x)) (hN : Nat.blt d c.N = true)
    (k : ∀ b, OpsJ c full l ((d, val (.pointer (some ⟨b, 0, none⟩))) :: Γ) (box b T R x :: H) K) : OpsJ c full (⟨some d, .box T y, ty, pos, aft, none⟩ :: l) Γ H K := by
  refine j_step_ex (Γ2 := fun b => (d, val (.pointer (some ⟨b, 0, none⟩))) :: Γ) (H2 := fun b => box b T R x :: H) rfl ?_ k
  intro m hs a w hg _ hsat he hn
  obtain ⟨cs, hc, hr⟩ := Rep.is_cells (hy m a (he.opd y))
  have hrun : (execOp a.eval ⟨some d, .box T y, ty, pos, aft, none⟩).run c.P w = .ok (.value (.pointer (some ⟨w.heap.size, 0, none⟩))) (w.alloc (.cells cs.toArray T)) := by
    simp [execOp, Instr.box, newVar, newRow, hc]
  rw [hrun]
  exact ⟨w.heap.size, m, _, hg.newOwn T cs, he.put (by rw [hn]; simpa [Nat.blt_eq] using hN) rfl, ⟨[(w.heap.size, T, cs)], hs, rfl, ⟨cs, rfl, hr⟩, hsat⟩, Frm.alloc _ _ _ _⟩
theorem Frm.ofPerm {w w' : World} {m m' : Mem} {hs hs1 : Hp} {bs' : List Nat} (p : hs.Perm hs1) (h : Frm w w' m m' hs1.bs bs') : Frm w w' m m' hs.bs bs' := by
  have e : ∀ b, b ∈ hs.bs ↔ b ∈ hs1.bs := fun b => (p.map _).mem_iff
  exact { h with old := fun b hb hn => h.old b hb (fun e' => hn ((e b).2 e')), own := fun b hb => (h.own b hb).imp (e b).2 id }
theorem j_store_box {T T0 : TypeId} {x y : Operand} {b off : Nat} {R : Rep α} {S : Rep β} {r : α} {z : β} {get : α → β} {set : α → β → α} (hx : Has Γ x (val (.pointer (some ⟨b, off, none⟩))))
    (hy : Has Γ y (S.slot z)) (hk : Pick H (box b T0 R r) H') (hp : Path R off S get set) (hT : szB c.P T S.n = true)
    (k : OpsJ c full l Γ (box b T0 R (set r z) :: H') K) : OpsJ c full (⟨none, .store T x y, ty, pos, aft, none⟩ :: l) Γ H K := by
  refine j_step rfl ?_ k
  intro m hs a w hg _ hsat he hn
  have e : a.eval x = _ := hx m a (he.opd x)
  obtain ⟨ds, hc, hd⟩ := Rep.is_cells (hy m a (he.opd y))
  obtain ⟨h1, h2, hpm, ⟨cs, rfl, hr⟩, hs2⟩ := hsat.pick hk
  have hg' := hg.perm hpm
  have hlen : off + S.n ≤ cs.length := by rw [R.len hr]; exact hp.fits
  have hrun : (execOp a.eval ⟨none, .store T x y, ty, pos, aft, none⟩).run c.P w = .ok .skip (setBlk w b T0 (cs.take off ++ ds ++ cs.drop (off + S.n))) := by
    simp only [execOp, e, Sem.run_bind, run_storeAt hT hc (S.len hd) (S.cell hd) (hg'.blk (b, T0, cs) (by simp)) hlen]
    rfl
  rw [hrun]
  refine ⟨m, (b, T0, cs.take off ++ ds ++ cs.drop (off + S.n)) :: h2, hg'.setBlk _, he, ⟨[_], h2, rfl, ⟨_, rfl, hp.set_ok hr hd⟩, hs2⟩, ?_⟩
  exact Frm.ofPerm hpm (Frm.setBlk (by simp [Hp.bs]))
end
end Go.Sl
