import Derived.Test.YtbaecpklplkciaaDoorOp11
import Derived.RangeFuncLeaves
set_option linter.unusedSimpArgs false
set_option linter.unusedVariables false
set_option linter.unusedSectionVars false
namespace Go.Sl
/-! ## Range over a function -/
/-- The same, of whatever names. -/
def packE {κ : Type} (H : κ → List Ent) : Ent := ⟨fun m hs => ∃ i, Sat (H i) m hs, fun hm ⟨i, h⟩ => ⟨i, h.mono hm⟩⟩
theorem sat_one {E : Ent} {m : Mem} {hs : Hp} : Sat [E] m hs ↔ E.p m hs := by
  constructor
  · rintro ⟨h1, h2, rfl, h, rfl⟩; rw [List.append_nil]; exact h
  · intro h; exact ⟨hs, [], by simp, h, rfl⟩
theorem cell_isCells {w : World} {a : Addr} {v : Value} {o : Obj} (h : w.cell? a = some v) (ho : w.heap[a.block]? = some o) : o.isCells = true := by
  unfold World.cell? at h
  rw [ho] at h
  cases o <;> first | rfl | (simp at h)
theorem cell_putObj {w : World} {l : Nat} {o o' : Obj} {a : Addr} {v : Value} (h : w.cell? a = some v) (ho : w.heap[l]? = some o) (hc : o.isCells = false) : (w.putObj l o').cell? a = some v := by
  have hne : a.block ≠ l := fun e => by
    have := cell_isCells h (by rw [e]; exact ho)
    rw [hc] at this; cases this
  have : (w.putObj l o').heap[a.block]? = w.heap[a.block]? := World.putObj_heap_other hne
  unfold World.cell? at h ⊢
  rw [this]; exact h
theorem Good.ne {m : Mem} {hs : Hp} {w : World} (hg : Good m hs w) {l : Nat} {o : Obj} (ho : w.heap[l]? = some o) (hc : o.isCells = false) : l ∉ hs.bs := by
  intro h
  obtain ⟨x, hx, rfl⟩ := List.mem_map.1 h
  have := hg.blk x hx
  rw [ho] at this
  have := Option.some.inj this
  subst this
  cases hc
theorem Good.putObj {m : Mem} {hs : Hp} {w : World} (hg : Good m hs w) {l : Nat} {o o' : Obj} (ho : w.heap[l]? = some o) (hc : o.isCells = false) : Good m hs (w.putObj l o') where
  mem := fun b k v h => cell_putObj (hg.mem b k v h) ho hc
  nodup := hg.nodup
  blk := fun h hh => by
    have hne : h.1 ≠ l := fun e => hg.ne ho hc (by rw [← e]; exact List.mem_map_of_mem (f := (·.1)) hh)
    rw [World.putObj_heap_other hne]; exact hg.blk h hh
  free := hg.free
theorem Good.allocObj {m : Mem} {hs : Hp} {w : World} (hg : Good m hs w) (o : Obj) : Good m hs (w.alloc o) where
  mem := fun b k v h => (World.cell?_alloc_lt w _ ⟨b, k, none⟩ (hg.lt h)).trans (hg.mem b k v h)
  nodup := hg.nodup
  blk := fun h hh => (heap_alloc_old (hg.ltb (List.mem_map_of_mem (f := (·.1)) hh))).trans (hg.blk h hh)
  free := hg.free
/-- What a call of yield does: 'E' becomes 'E''. -/
def YieldC (P : Program) (G : GP) (l : Nat) (r : Loop) (s : Slot) (E E' : Ent) : Prop :=
  ∀ m w hs v, w.heap[l]? = some (.loop r) → Good m hs w → G.p m → s.p m v → E.p m hs →
    ∃ tmps, (Instr.yield l #[v]).run P w = .ok (.round l r.fn tmps r.assign r.body) w ∧
      RoundIn Fence.wide 0 P l r.fn tmps r.assign r.body w fun e w' => e = .returned (.bool true) ∧ ∃ m' hs', Good m' hs' w' ∧ E'.p m' hs' ∧ Frm w w' m m' hs.bs hs'.bs
abbrev yv (l : Nat) : Value := .func (.yield l) #[] #[]
/-- A contract under a loop whose record lies at 'l'. -/
def CtrY (P : Program) (G : GP) (l : Nat) (r : Loop) (f : FuncId) (A : List Slot) (E : List Ent) {ι : Type} (ρ : ι → Slot) (ε : ι → List Ent) : Prop :=
  ∀ m w vs hs, w.heap[l]? = some (.loop r) → Good m hs w → G.p m → All2 m A vs → Sat E m hs →
    Calls P f vs.toArray w fun e w' => ∃ v m' hs' i, e = .returned v ∧ Good m' hs' w' ∧ (ρ i).p m' v ∧ Sat (ε i) m' hs' ∧ Frm w w' m m' hs.bs hs'.bs
theorem ctrY_of_run {P : Program} {G : GP} {l : Nat} {r : Loop} {f : FuncId} {fn : Func} {code : Code} {A : List Slot} {E : List Ent} {ι : Type} {ρ : ι → Slot} {ε : ι → List Ent}
    (hf : P.funcs[f]? = some fn) (hb : fn.body = some code) (N : Nat) (hN : fn.ntmps = N) (hA : Nat.ble A.length N = true)
    (h : ∀ (m0 : Mem) (w0 : World) (b0 : List Nat), w0.heap[l]? = some (.loop r) → l ∉ b0 → Run ⟨P, N, G, m0, w0, b0, none, false⟩ (bodyPost P fn (Post ⟨P, N, G, m0, w0, b0, none, false⟩ ρ ε)) [code] (envOf 0 A) E) : CtrY P G l r f A E ρ ε := by
  intro m w vs hs hl hg hG hvs hsat
  have hst : St ⟨P, N, G, m, w, hs.bs, none, false⟩ (envOf 0 A) E { tmps := vs.toArray ++ Array.replicate (fn.ntmps - vs.toArray.size) undef, defers := [] } w := by
    refine ⟨rfl, ?_, m, hs, hg, hG, ?_, hsat, Frm.refl _ _ _⟩
    · have := hvs.length
      simp only [Array.size_append, List.size_toArray, Array.size_replicate, hN, this]
      have := Nat.ble_eq ▸ hA
      omega
    · intro t s e
      have := lk_envOf A 0 vs [] (List.replicate (fn.ntmps - vs.toArray.size) undef) hvs rfl t s e
      have e2 : (([] : List Value) ++ vs ++ List.replicate (fn.ntmps - vs.toArray.size) undef).toArray = vs.toArray ++ Array.replicate (fn.ntmps - vs.toArray.size) undef := by simp
      rw [e2] at this
      exact this
  have hw : code.wpIn (fen none) 0 P (bodyPost P fn (Post ⟨P, N, G, m, w, hs.bs, none, false⟩ ρ ε)) { tmps := vs.toArray ++ Array.replicate (fn.ntmps - vs.toArray.size) undef, defers := [] } w := by
    refine wpIn_mono (h m w hs.bs hl (hg.ne hl rfl) _ w hst) fun e a' w' he => ?_
    cases e <;> exact he
  exact (calls_of_wp (R := Post ⟨P, N, G, m, w, hs.bs, none, false⟩ ρ ε) hf hb (wpIn_wide.1 hw)).mono fun e w' hp => hp
section
variable {c : Ctx} {full : Array Oper} {l : List Oper} {Γ Γ' : Env} {H H' : List Ent} {K : Act → World → Prop} {d : Tmp} {od : Option Tmp} {ty : TypeId} {pos : String} {aft : Array Edge} {g : Option (Nat × Bool)} {α β : Type}
theorem run_call_yield {P : Program} {ρ : Operand → Value} {x : Operand} {L : Nat} (hx : ρ x = yv L) (args : List Operand) (ats : Array TypeId) (w : World) (od : Option Tmp) (g : Option (Nat × Bool)) (n : Next) (w' : World)
    (h : (Instr.yield L (args.map ρ).toArray).run P w = .ok n w') :
    (execOp ρ ⟨od, .call { callee := .value x, args := args.toArray, argTypes := ats }, ty, pos, aft, g⟩).run P w = .ok n w' := by
  simp only [execOp, resolve, Sem.run_bind, hx, Deferred.ofValue, Sem.run_pure, Result.andThen_ok, invoke]
  simp only [List.map_toArray, Array.empty_append, List.append_toArray, Array.append_empty]
  exact h
/-- THE CALL OF yield. -/
theorem j_yield {L : Nat} {r : Loop} {x y : Operand} {ats : Array TypeId} {s : Slot} {E E' : Ent} (hx : Has Γ x (val (yv L))) (hy : Has Γ y s) (hl : c.w0.heap[L]? = some (.loop r)) (hb : L ∉ c.b0)
    (hY : YieldC c.P c.G L r s E E') (hN : Nat.blt d c.N = true) (k : OpsJ c full l ((d, bl.slot true) :: Γ) [E'] K) :
    OpsJ c full (⟨some d, .call { callee := .value x, args := [y].toArray, argTypes := ats }, ty, pos, aft, none⟩ :: l) Γ [E] K := by
  intro a w Q hQ ⟨hdf, hn, m, hs, hgd, hG, he, hsat, hf⟩
  refine wpListIn_plain rfl fun K' hK' => ?_
  have hlt : L < c.w0.heap.size := (Array.getElem?_eq_some_iff.1 hl).1
  have hlw : w.heap[L]? = some (.loop r) := (hf.old L hlt hb).1.trans hl
  obtain ⟨tmps, hrun, hround⟩ := hY m w hs (a.eval y) hlw hgd hG (hy m a (he.opd y)) (sat_one.1 hsat)
  refine Upon.wp (k := fun v w' => v = .bool true ∧ ∃ m' hs', Good m' hs' w' ∧ E'.p m' hs' ∧ Frm w w' m m' hs.bs hs'.bs) ?_ ?_
  · rw [run_call_yield (hx m a (he.opd x)) [y] ats w (some d) none _ _ hrun]
    refine hround.mono ?_
    rintro e w' ⟨rfl, h⟩
    exact ⟨_, rfl, rfl, h⟩
  · rintro v w' ⟨rfl, m', hs', hg', hE', hfr⟩
    refine hK' _ _ (k _ w' Q hQ ⟨by rw [put_defers]; exact hdf.step hgd hfr, by rw [put_size]; exact hn, m', hs', hg', c.G.mono hfr.le hG, ?_, sat_one.2 hE', hf.trans hfr⟩)
    exact (he.mono hfr.le).put (by rw [hn]; simpa [Nat.blt_eq] using hN) (bl_p.2 rfl)
/-- A call of a function that takes yield, within one such. -/
theorem j_callY {L : Nat} {r : Loop} {f : FuncId} {args : List Operand} {ats : Array TypeId} {A : List Slot} {E E' : List Ent} {ι : Type} {s : Slot} (hA : HasL Γ args A) (hf : callB c.P f = true) (hl : c.w0.heap[L]? = some (.loop r)) (hb : L ∉ c.b0)
    (hC : CtrY c.P c.G L r f A E (fun _ : ι => s) (fun _ => E')) (hN : Nat.blt d c.N = true) (k : OpsJ c full l ((d, s) :: Γ) E' K) :
    OpsJ c full (⟨some d, .call { callee := .value (.func f), args := args.toArray, argTypes := ats }, ty, pos, aft, none⟩ :: l) Γ E K := by
  intro a w Q hQ ⟨hdf, hn, m, hs, hgd, hG, he, hsat, hfr0⟩
  refine wpListIn_plain rfl fun K' hK' => ?_
  have hlt : L < c.w0.heap.size := (Array.getElem?_eq_some_iff.1 hl).1
  have hlw : w.heap[L]? = some (.loop r) := (hfr0.old L hlt hb).1.trans hl
  refine Upon.wp (k := fun v w' => ∃ m' hs', Good m' hs' w' ∧ s.p m' v ∧ Sat E' m' hs' ∧ Frm w w' m m' hs.bs hs'.bs) ?_ ?_
  · rw [run_call hf a.eval (.func f) (has_func (Γ := Γ) m a trivial)]
    have hall := hA.all (m := m) (a := a) (fun y hy => he.opd y)
    refine (hC m w (args.map a.eval) hs hlw hgd hG hall hsat).mono ?_
    rintro e w' ⟨v, m', hs', i, rfl, hg', hv, hsat', hfr⟩
    exact ⟨v, rfl, m', hs', hg', hv, hsat', hfr⟩
  · rintro v w' ⟨m', hs', hg', hv, hsat', hfr⟩
    refine hK' _ _ (k _ w' Q hQ ⟨by rw [put_defers]; exact hdf.step hgd hfr, by rw [put_size]; exact hn, m', hs', hg', c.G.mono hfr.le hG, ?_, hsat', hfr0.trans hfr⟩)
    exact (he.mono hfr.le).put (by rw [hn]; simpa [Nat.blt_eq] using hN) hv
theorem Frm.round {w2 w3 w5 : World} {m2 m3 m5 : Mem} {b2 b3 b5 : List Nat} {L : Nat} {o0 o1 : Obj} (h1 : Frm w2 w3 m2 m3 b2 b3) (h2 : Frm (w3.putObj L o1) w5 m3 m5 b3 b5) (hl : w2.heap[L]? = some o0) (hb : L ∉ b2) :
    Frm w2 (w5.putObj L o0) m2 m5 b2 b5 := by
  have hlt : L < w2.heap.size := (Array.getElem?_eq_some_iff.1 hl).1
  have hs2 := h2.size
  rw [World.putObj_size] at hs2
  have hs1 := h1.size
  refine ⟨h2.os.trans h1.os, h2.tape.trans h1.tape, h2.output.trans h1.output, by rw [World.putObj_size]; omega, fun b hbl hn => ?_, fun b h => ?_, h1.le.trans h2.le⟩
  · have k1 := h1.old b hbl hn
    have hn3 : b ∉ b3 := fun e => (h1.own b e).elim hn (fun e' => absurd hbl (Nat.not_lt.2 e'))
    have k2 := h2.old b (by rw [World.putObj_size]; omega) hn3
    refine ⟨?_, fun o => (k2.2 o).trans (k1.2 o)⟩
    by_cases e : b = L
    · subst e
      rw [World.putObj_heap_same (by omega), hl]
    · rw [World.putObj_heap_other e, k2.1, World.putObj_heap_other e]; exact k1.1
  · rcases h2.own b h with h | h
    · exact h1.own b h
    · rw [World.putObj_size] at h; exact .inr (by omega)
theorem Frm.behind {w w1 w3 : World} {m m3 : Mem} {b b3 : List Nat} {L : Nat} {o : Obj} (h0 : ∀ k, k < w.heap.size → w1.heap[k]? = w.heap[k]?) (hos : w1.os = w.os) (ht : w1.tape = w.tape) (ho : w1.output = w.output) (hsz : w.heap.size ≤ w1.heap.size) (hL : w.heap.size ≤ L) (h : Frm w1 w3 m m3 b b3) :
    Frm w (w3.putObj L o) m m3 b b3 := by
  have hs := h.size
  refine ⟨h.os.trans hos, h.tape.trans ht, h.output.trans ho, by rw [World.putObj_size]; omega, fun k hk hn => ?_, fun k hk => (h.own k hk).imp id (fun e => by omega), h.le⟩
  have k1 := h.old k (by omega) hn
  exact ⟨by rw [World.putObj_heap_other (by omega), k1.1, h0 k hk], k1.2⟩
/-- A slice of the call's own is put into a variable. -/
theorem j_store_ow {T T0 : TypeId} {x y : Operand} {b : Nat} {v' : Value} {R : Rep α} {z : α} (hx : Has Γ x (val (.pointer (some ⟨b, 0, none⟩))))
    (hy : Has Γ y (ov v')) (hk : Pick H (box b T0 R z) H') (hn1 : Nat.beq R.n 1 = true) (hT : szB c.P T 1 = true)
    (k : OpsJ c full l Γ (box b T0 (exv v') () :: H') K) : OpsJ c full (⟨none, .store T x y, ty, pos, aft, none⟩ :: l) Γ H K := by
  refine j_step rfl ?_ k
  intro m hs a w hg _ hsat he hn
  have e : a.eval x = _ := hx m a (he.opd x)
  obtain ⟨ey, h1'⟩ := ov_p.1 (hy m a (he.opd y))
  obtain ⟨h1, h2, hpm, ⟨cs, rfl, hr⟩, hs2⟩ := hsat.pick hk
  have hg' := hg.perm hpm
  have hl1 : cs.length = 1 := by rw [R.len hr]; exact Nat.eq_of_beq_eq_true hn1
  obtain ⟨v, rfl⟩ : ∃ v, cs = [v] := by
    match cs, hl1 with
    | [v], _ => exact ⟨v, rfl⟩
  have hc : (a.eval y).cells = [v'].toArray := by rw [ey]; exact cells_of_one h1'
  have hrun : (execOp a.eval ⟨none, .store T x y, ty, pos, aft, none⟩).run c.P w = .ok .skip (setBlk w b T0 (([v] : List Value).take 0 ++ [v'] ++ ([v] : List Value).drop (0 + 1))) := by
    simp only [execOp, e, Sem.run_bind, run_storeAt (o := 0) (cs := [v]) (ds := [v']) hT hc rfl (by simpa using h1') (hg'.blk (b, T0, [v]) (by simp)) (by simp)]
    rfl
  rw [hrun]
  refine ⟨m, (b, T0, _) :: h2, hg'.setBlk _, he, ⟨[_], h2, rfl, ⟨_, rfl, by simp, h1'⟩, hs2⟩, ?_⟩
  exact Frm.ofPerm hpm (Frm.setBlk (by simp [Hp.bs]))
/-- More is known of the memory. -/
def GP.upon (G : GP) (m1 : Mem) : GP := ⟨fun m => G.p m ∧ Mle m1 m, fun hm h => ⟨G.mono hm h.1, h.2.trans hm⟩⟩
/-- THE STATEMENT. 'Es s': the entities that the body turns. -/
theorem run_rangeFunc {c : Ctx} {Q : Exit → Act → World → Prop} {k : List Code} {x : Operand} {gf : FuncId} {ss : List Slot} {p : Tmp} {assign body : Code}
    {σ α κ : Type} {Es : κ → σ → List Ent} {s0 r : σ} (i0 : κ) {sd : α → Slot} {y : σ → α → Option σ} {ι : Type} {ρ : ι → Slot} {Γ1 : α → Env}
    (hx : Has Γ x (fnS gf ss)) (hf : callB c.P gf = true) (hp : Nat.blt p c.N = true)
    (hH : Keep H (Es i0 s0))
    (hC : ∀ (l : Nat) (rc : Loop) (G' : GP), (∀ m, G'.p m → c.G.p m) → (∀ s d s', y s d = some s' → YieldC c.P G' l rc (sd d) (packE fun i => Es i s) (packE fun i => Es i s')) → CtrY c.P G' l rc gf (val (yv l) :: ss) [packE fun i => Es i s0] ρ (fun _ => [packE fun i => Es i r]))
    (hA : ∀ (l : Nat) (m1 : Mem) (w1 : World) (b1 : List Nat) i s d s', y s d = some s' → Run ⟨c.P, c.N, c.G, m1, w1, b1, some l, false⟩ (fun e a w => e = .normal ∧ St ⟨c.P, c.N, c.G, m1, w1, b1, some l, false⟩ (Γ1 d) (Es i s) a w) [assign] ((p, sd d) :: Γ) (Es i s))
    (hB : ∀ (l : Nat) (m1 : Mem) (w1 : World) (b1 : List Nat) i s d s', y s d = some s' → Run ⟨c.P, c.N, c.G, m1, w1, b1, some l, false⟩ (fun e a w => e = .normal ∧ ∃ i', St ⟨c.P, c.N, c.G, m1, w1, b1, some l, false⟩ [] (Es i' s') a w) [body] (Γ1 d) (Es i s))
    (hK : ∀ i, Run c Q k Γ (Es i r)) (hro : c.ro = none := by rfl) (hmm : c.mm = true := by rfl) :
    Run c Q (.rangeFunc x #[p] assign body :: k) Γ H := by
  obtain ⟨P, N, G, m0, w0, b0, ro, mm⟩ := c
  simp only at hro hmm
  subst hro hmm
  intro a w hst
  obtain ⟨hd, hn, m, hs, hg, hG, he, hsat, hfr⟩ := hst.keep hH
  simp only at hn hG hfr hf hp
  obtain ⟨Ds, hDs, hDn, hDm⟩ := (show ∃ Ds : List Nat, a.defers = Ds.map coll ∧ Ds.Nodup ∧ ∀ D ∈ Ds, w0.heap.size ≤ D ∧ w.heap[D]? = some (.deferred (some [])) from hd)
  refine wpIn_rangeFunc ?_
  intro fn _
  obtain ⟨caps, hxe, hcaps⟩ := hx m a (he.opd x)
  let D := w.heap.size
  let L := w.heap.size + 1
  let rc : Loop := { state := .ready, pending := none, fn, tmps := a.tmps, params := #[p], assign, body, defers := D }
  let w1 := (w.alloc (.deferred (some []))).alloc (.loop rc)
  have hD1 : w1.heap[D]? = some (.deferred (some [])) := (heap_alloc_old (by simp [D])).trans (World.alloc_heap_new w _)
  have hL1 : w1.heap[L]? = some (.loop rc) := by
    have := World.alloc_heap_new (w.alloc (.deferred (some []))) (.loop rc); rwa [World.size_alloc] at this
  have hg1 : Good m hs w1 := (hg.allocObj _).allocObj _
  have hsz1 : w1.heap.size = w.heap.size + 2 := by simp [w1]
  refine ⟨L, [⟨.collected D, #[]⟩], w1, ⟨.fn (.func gf) caps.toArray, #[yv L]⟩, w1, gf, (yv L :: caps).toArray, w1, run_enterLoop_outer fn a.tmps #[p] assign body, ?_, fun _ _ => trivial, ?_, (fun h => by cases h), ?_⟩
  · simp only [resolve, hxe]
    simp [go_sem]
  · simp only [invoke]
    simp only [List.append_toArray, Array.empty_append]
    rw [run_callFunc hf]; rfl
  · refine callsIn_fen.2 ?_
    have hY : ∀ s d s', y s d = some s' → YieldC P (G.upon m) L rc (sd d) (packE fun i => Es i s) (packE fun i => Es i s') := by
      intro s d s' hy m2 w2 hs2 v hl2 hg2 hG2 hv hE2
      obtain ⟨hGa, hle⟩ := hG2
      obtain ⟨i2, hE2⟩ := hE2
      refine ⟨a.tmps.setIfInBounds p v, by rw [run_yield hl2 (by simp [rc])]; simp [rc], ?_⟩
      refine roundIn_of_wpIn trivial ?_
      have hlt2 : L < w2.heap.size := (Array.getElem?_eq_some_iff.1 hl2).1
      have hnb := hg2.ne hl2 rfl
      have hpn : p < a.tmps.size := by rw [hn]; simpa [Nat.blt_eq] using hp
      have hst2 : St ⟨P, N, G, m2, w2, hs2.bs, some L, false⟩ ((p, sd d) :: Γ) (Es i2 s) ⟨a.tmps.setIfInBounds p v, []⟩ w2 := by
        refine ⟨rfl, by simpa using hn, m2, hs2, hg2, hGa, ?_, hE2, Frm.refl _ _ _⟩
        have := (he.mono hle).put (d := p) (s := sd d) (v := v) hpn hv
        exact this
      refine wpIn_mono (hA L m2 w2 hs2.bs i2 s d s' hy _ w2 hst2) ?_
      intro e a3 w3 hq
      cases e with
      | normal =>
        obtain ⟨_, hd3, hn3, m3, hs3, hg3, hG3, he3, hsat3, hfr3⟩ := hq
        have hd3 : a3.defers = [] := hd3
        have hl3 : w3.heap[L]? = some (.loop rc) := (hfr3.old L hlt2 hnb).1.trans hl2
        have hlt3 : L < w3.heap.size := (Array.getElem?_eq_some_iff.1 hl3).1
        have hnb3 := hg3.ne hl3 rfl
        have hl4 : (w3.putObj L (.loop { rc with state := .busy })).heap[L]? = some (.loop { rc with state := .busy }) := World.putObj_heap_same hlt3
        refine ⟨_, run_beginRound hl3 rfl, ?_⟩
        have hst4 : St ⟨P, N, G, m3, w3.putObj L (.loop { rc with state := .busy }), hs3.bs, some L, false⟩ (Γ1 d) (Es i2 s) a3 (w3.putObj L (.loop { rc with state := .busy })) :=
          ⟨hd3, hn3, m3, hs3, hg3.putObj hl3 rfl, hG3, he3, hsat3, Frm.refl _ _ _⟩
        refine wpIn_mono (hB L m3 _ hs3.bs i2 s d s' hy a3 _ hst4) ?_
        intro e a5 w5 hq5
        cases e with
        | normal =>
          obtain ⟨_, i5, hd5, hn5, m5, hs5, hg5, hG5, he5, hsat5, hfr5⟩ := hq5
          have hl5 : w5.heap[L]? = some (.loop { rc with state := .busy }) := (hfr5.old L (by simpa using hlt3) hnb3).1.trans hl4
          have hre := run_endRound (P := P) none hl5
          refine ⟨_, _, hre, rfl, m5, hs5, hg5.putObj hl5 rfl, ⟨i5, hsat5⟩, ?_⟩
          exact Frm.round hfr3 hfr5 hl2 hnb
        | _ => exact absurd hq5.1 (by simp)
      | _ => exact absurd hq.1 (by simp)
    have hc := hC L rc (G.upon m) (fun m h => h.1) hY m w1 (yv L :: caps) hs hL1 hg1 ⟨hG, Mle.refl m⟩ ⟨_, _, rfl, rfl, hcaps⟩ (sat_one.2 ⟨i0, hsat⟩)
    refine hc.mono ?_
    rintro e w3 ⟨v, m3, hs3, i, rfl, hg3, hv, hsat3, hf3⟩
    have hL3 : w3.heap[L]? = some (.loop rc) := (hf3.old L (by rw [hsz1]; simp [L]) (hg1.ne hL1 rfl)).1.trans hL1
    have hD3 : w3.heap[D]? = some (.deferred (some [])) := (hf3.old D (by rw [hsz1]; simp [D]) (hg1.ne hD1 rfl)).1.trans hD1
    have hLs : L < w3.heap.size := (Array.getElem?_eq_some_iff.1 hL3).1
    refine ⟨none, _, run_endLoop hL3 (by simp [rc]), ?_⟩
    have hfb : Frm w (w3.putObj L (.loop { rc with state := .exhausted })) m m3 hs.bs hs3.bs :=
      Frm.behind (fun k hk => (heap_alloc_old (by simp; omega)).trans (heap_alloc_old hk)) rfl rfl rfl (by rw [hsz1]; omega) (by simp [L]) hf3
    obtain ⟨i3, hsat3⟩ := sat_one.1 hsat3
    refine hK i3 _ _ ⟨?_, hn, m3, hs3, hg3.putObj hL3 rfl, G.mono hf3.le hG, he.mono hf3.le, hsat3, hfr.trans hfb⟩
    refine ⟨D :: Ds, by simp [hDs], ?_, ?_⟩
    · refine List.nodup_cons.2 ⟨fun h => ?_, hDn⟩
      have := (Array.getElem?_eq_some_iff.1 (hDm D h).2).1
      simp [D] at this
    · intro D' hD'
      rcases List.mem_cons.1 hD' with rfl | hD'
      · refine ⟨hfr.size, ?_⟩
        rw [World.putObj_heap_other (by simp [D, L])]; exact hD3
      · obtain ⟨h1, h2⟩ := hDm D' hD'
        have hlt := (Array.getElem?_eq_some_iff.1 h2).1
        exact ⟨h1, (hfb.old D' hlt (hg.ne h2 rfl)).1.trans h2⟩
end
/-! ## Returns behind such a statement -/
theorem ctr_of_runM {P : Program} {G : GP} {f : FuncId} {fn : Func} {code : Code} {A : List Slot} {E : List Ent} {ι : Type} {ρ : ι → Slot} {ε : ι → List Ent}
    (hf : P.funcs[f]? = some fn) (hb : fn.body = some code) (N : Nat) (hN : fn.ntmps = N) (hA : Nat.ble A.length N = true)
    (h : ∀ (m0 : Mem) (w0 : World) (b0 : List Nat), Run ⟨P, N, G, m0, w0, b0, none, true⟩ (bodyPostM Fence.wide 0 P fn (Post ⟨P, N, G, m0, w0, b0, none, true⟩ ρ ε)) [code] (envOf 0 A) E) : Ctr P G f A E ρ ε := by
  intro m w vs hs hg hG hvs hsat
  have hst : St ⟨P, N, G, m, w, hs.bs, none, true⟩ (envOf 0 A) E { tmps := vs.toArray ++ Array.replicate (fn.ntmps - vs.toArray.size) undef, defers := [] } w := by
    refine ⟨⟨[], rfl, List.nodup_nil, fun _ h => by cases h⟩, ?_, m, hs, hg, hG, ?_, hsat, Frm.refl _ _ _⟩
    · have := hvs.length
      simp only [Array.size_append, List.size_toArray, Array.size_replicate, hN, this]
      have := Nat.ble_eq ▸ hA
      omega
    · intro t s e
      have := lk_envOf A 0 vs [] (List.replicate (fn.ntmps - vs.toArray.size) undef) hvs rfl t s e
      have e2 : (([] : List Value) ++ vs ++ List.replicate (fn.ntmps - vs.toArray.size) undef).toArray = vs.toArray ++ Array.replicate (fn.ntmps - vs.toArray.size) undef := by simp
      rw [e2] at this
      exact this
  have hw : code.wpIn Fence.wide 0 P (bodyPostM Fence.wide 0 P fn (Post ⟨P, N, G, m, w, hs.bs, none, true⟩ ρ ε)) { tmps := vs.toArray ++ Array.replicate (fn.ntmps - vs.toArray.size) undef, defers := [] } w := by
    refine wpIn_mono (h m w hs.bs _ w hst) fun e a' w' he => ?_
    cases e <;> exact he
  exact (callsIn_wide.1 (callsIn_of_wp_marks (R := Post ⟨P, N, G, m, w, hs.bs, none, true⟩ ρ ε) hf hb trivial hw)).mono fun e w' hp => hp
/-- All marks are taken off. -/
theorem leaves_marks {P : Program} {fn : Func} {tmps : Array Value} {R : Ending → World → Prop} {w0 : World} {m : Mem} {hs : Hp} : ∀ (Ds : List Nat) (w : World), Ds.Nodup → (∀ D ∈ Ds, w0.heap.size ≤ D ∧ w.heap[D]? = some (.deferred (some []))) → Good m hs w →
    (∀ w', Good m hs w' → w0.heap.size ≤ w'.heap.size → w'.os = w.os → w'.tape = w.tape → w'.output = w.output → w'.heap.size = w.heap.size → (∀ b, b < w0.heap.size → w'.heap[b]? = w.heap[b]?) → ∃ v, (results fn tmps).run P w' = .ok v w' ∧ R (.returned v) w') → w0.heap.size ≤ w.heap.size →
    LeavesInM Fence.wide 0 P fn tmps R (Ds.map coll) .returning w
  | [], w, _, _, hg, h, hw => h w hg hw rfl rfl rfl rfl fun _ _ => rfl
  | D :: Ds, w, hn, hD, hg, h, hw => by
    obtain ⟨hDs, hD0⟩ := hD D (by simp)
    have hlt := (Array.getElem?_eq_some_iff.1 hD0).1
    refine ⟨by simp, .inl ⟨D, _, rfl, run_takeDeferred hD0, leaves_marks (w0 := w0) Ds (w.putObj D (.deferred none)) (List.nodup_cons.1 hn).2 (fun D' hD' => ?_) (hg.putObj hD0 rfl) (fun w' hg' hs' h1 h2 h3 h4 h5 => ?_) (by rw [World.putObj_size]; exact hw)⟩⟩
    · have hne : D' ≠ D := fun e => (List.nodup_cons.1 hn).1 (e ▸ hD')
      obtain ⟨h1, h2⟩ := hD D' (by simp [hD'])
      exact ⟨h1, by rw [World.putObj_heap_other hne]; exact h2⟩
    · refine h w' hg' hs' h1 h2 h3 (by rw [h4, World.putObj_size]) fun b hb => ?_
      rw [h5 b hb, World.putObj_heap_other (by omega)]
section
variable {c : Ctx} {Γ : Env} {H : List Ent} {a : Act} {w : World} {ι : Type} {ρ : ι → Slot} {ε : ι → List Ent} {fn : Func}
theorem q_ret1M {r : ResultVar} {s : Slot} (hst : St c Γ H a w) (hr : fn.results = #[r]) (hj : ResJ c Γ H r s) (i : ι) (hs : ∀ m v, s.p m v → (ρ i).p m v) (hk : Keep H (ε i)) (hmm : c.mm = true := by rfl) :
    bodyPostM Fence.wide 0 c.P fn (Post c ρ ε) .ret a w := by
  obtain ⟨hd, hn, m, hsh, hg, hG, he, hsat, hf⟩ := hst
  obtain ⟨Ds, hDs, hDn, hDm⟩ : ∃ Ds : List Nat, a.defers = Ds.map coll ∧ Ds.Nodup ∧ ∀ D ∈ Ds, c.w0.heap.size ≤ D ∧ w.heap[D]? = some (.deferred (some [])) := by
    unfold Dfr at hd; rw [hmm] at hd; exact hd
  show LeavesInM Fence.wide 0 c.P fn a.tmps _ a.defers .returning w
  rw [hDs]
  refine leaves_marks (w0 := c.w0) (m := m) (hs := hsh) Ds w hDn hDm hg (fun w' hg2 _ h1 h2 h3 h4 h5 => ?_) hf.size
  obtain ⟨vs, hrun, hall, hlen⟩ := (ResL.cons hj .nil).run hg2 hsat he
  have hres := results_run (fn := fn) (rs := [r]) hr hrun
  obtain ⟨v, vs', rfl, hv, hnil⟩ := hall
  cases hnil
  obtain ⟨rr, hs', hp, q⟩ := hsat.keep hk
  have hg' := hg2.perm hp
  refine ⟨v, by simpa using hres, v, m, hs', i, rfl, hg'.sub, hs m v hv, q, ?_⟩
  have hF : Frm c.w0 w c.m0 m c.b0 (Hp.bs hs') := (hf.perm hp).sub fun b hb => by rw [Hp.bs_append]; exact List.mem_append.2 (.inr hb)
  exact ⟨h1.trans hF.os, h2.trans hF.tape, h3.trans hF.output, by rw [h4]; exact hF.size, fun b hb hn => ⟨(h5 b hb).trans (hF.old b hb hn).1, (hF.old b hb hn).2⟩, hF.own, hF.le⟩
end
end Go.Sl
