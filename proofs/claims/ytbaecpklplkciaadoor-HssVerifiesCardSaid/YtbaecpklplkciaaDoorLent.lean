import Derived.Test.YtbaecpklplkciaaDoorExt
set_option linter.unusedSimpArgs false
set_option linter.unusedVariables false
set_option linter.unusedSectionVars false
namespace Go.Sl
/-! ## What is so as long as some entities stay as they are -/
def Held (m : Mem) (hs : Hp) : Prop := ∀ h ∈ hs, At m h.1 0 h.2.2
def lnt (E : List Ent) (s : Slot) : Slot where
  p := fun m v => ∀ m' hs, Mle m m' → Sat E m' hs → Held m' hs → s.p m' v
  mono := fun hm h m' hs h1 h2 h3 => h m' hs (hm.trans h1) h2 h3
section
variable {α β : Type} {c : Ctx} {Γ : Env} {H H' : List Ent} {E E' : List Ent} {od : Option Tmp} {ty : TypeId} {pos : String} {aft : Array Edge} {g : Option (Nat × Bool)}
theorem has_lnt {x : Operand} {s : Slot} (h : Has Γ x s) : Has Γ x (lnt E s) := fun m a ho m' hs h1 _ _ => s.mono h1 (h m a ho)
theorem has_lnt_arr {x : Operand} {T b lo n cap N : Nat} {R : Rep α} {v : Vector α N} (hx : Has Γ x (val (.slice (some ⟨b, lo * R.n, none⟩) n cap))) (hk : Pick E (box b T (vec N R) v) E') (hn : lo + n ≤ N) (hc : n ≤ cap) :
    Has Γ x (lnt E ((sl R).slot ((v.toList.drop lo).take n))) := by
  intro m a ho m' hs h1 h2 h3
  have e : a.eval x = _ := hx m a ho
  rw [e]
  obtain ⟨g1, g2, hpm, ⟨cs, rfl, hr⟩, _⟩ := h2.pick hk
  have hat : At m' b 0 cs := h3 (b, T, cs) (hpm.mem_iff.2 (by simp))
  have hl : ((v.toList.drop lo).take n).length = n := by simp; omega
  have hr' : RowC R m' cs v.toList := hr
  have hrow := (hr'.drop lo).take n
  refine ⟨_, cap, by rw [hl], by rw [hl]; exact hc, .inr ⟨b, lo * R.n, _, rfl, hrow, ?_⟩⟩
  have := hat.mid (lo * R.n) (n * R.n)
  rwa [Nat.zero_add] at this
theorem hasB_lnt {x : Operand} {s : Slot} (h : Has Γ x (lnt E s)) (hk : Keep H E) : HasB c Γ H x s := by
  intro m hs a w hg hsat ho
  obtain ⟨r, hs', hp, q⟩ := hsat.keep hk
  refine h m a ho (ext m hs) hs' (ext_le hg) (q.mono (ext_le hg)) ?_
  rintro ⟨b, T, cs⟩ hb j v e
  have hm : (b, T, cs) ∈ hs := hp.mem_iff.2 (List.mem_append.2 (.inr hb))
  rw [Nat.zero_add, ext_mem hg.nodup hm]
  exact e
/-- A value as it is. -/
def rawv : Rep Value where
  n := 1
  ag := false
  rel := fun _ cs v => cs = [v] ∧ v.oneCell' = true
  mono := fun _ h => h
  len := fun h => by rw [h.1]; rfl
  one := fun _ => rfl
  cell := fun h v hv => by rw [h.1] at hv; simp at hv; subst hv; exact h.2
inductive BuildL (Γ : Env) (E : List Ent) (R : Rep α) : Nat → List (Nat × Operand) → List α → Prop
  | nil {k : Nat} : BuildL Γ E R k [] []
  | cons {k : Nat} {y : Operand} {z : α} {ps : List (Nat × Operand)} {zs : List α} : Has Γ y (lnt E ((R.slot) z)) → BuildL Γ E R (k + 1) ps zs → BuildL Γ E R k ((k, y) :: ps) (z :: zs)
def exact (a : Act) : List (Nat × Operand) → Env
  | [] => []
  | (_, .tmp t) :: ps => (t, val (a.tmps.getD t undef)) :: exact a ps
  | _ :: ps => exact a ps
theorem exact_lk {a : Act} {t : Nat} : ∀ {ps : List (Nat × Operand)} {i : Nat}, (i, Operand.tmp t) ∈ ps → lk (exact a ps) t = some (val (a.tmps.getD t undef))
  | (j, x) :: ps, i, h => by
    rcases List.mem_cons.1 h with e | h
    · cases e; simp only [exact, lk_cons_self]
    · have ih := exact_lk (a := a) h
      cases x with
      | tmp t' =>
        by_cases ht : t' = t
        · subst ht; simp only [exact, lk_cons_self]
        · simp only [exact]; rw [lk_cons_ne ht]; exact ih
      | _ => exact ih
theorem exact_opd {a : Act} {m : Mem} : ∀ {ps : List (Nat × Operand)} (x : Operand), Opd (exact a ps) m a x
  | ps, .tmp t => by
    intro s e
    have : ∀ ps : List (Nat × Operand), lk (exact a ps) t = some s → s = val (a.tmps.getD t undef) := by
      intro ps
      induction ps with
      | nil => intro e; simp [exact, lk] at e
      | cons p ps ih =>
        obtain ⟨j, x⟩ := p
        cases x with
        | tmp t' =>
          intro e
          by_cases ht : t' = t
          · subst ht; simp only [exact, lk_cons_self] at e; exact (Option.some.inj e).symm
          · simp only [exact] at e; rw [lk_cons_ne ht] at e; exact ih e
        | _ => intro e; exact ih e
    rw [this ps e]; rfl
  | _, .const _ => trivial
  | _, .global _ => trivial
  | _, .func _ => trivial
theorem BuildL.raw {R : Rep α} (ha : R.ag = false) {k : Nat} {ps : List (Nat × Operand)} {zs : List α} (h : BuildL Γ E R k ps zs) {a : Act} {m m1 : Mem} {hs : Hp} (hle : Mle m m1) (hE : Sat E m1 hs) (hH : Held m1 hs) (all : List (Nat × Operand)) (hall : ∀ p ∈ ps, p ∈ all) (ho : ∀ p ∈ ps, Opd Γ m a p.2) :
    BuildS (exact a all) rawv k ps (ps.map fun p => a.eval p.2) ∧ ∀ m' hs', Mle m m' → Sat E m' hs' → Held m' hs' → RowC R m' (ps.map fun p => a.eval p.2) zs := by
  induction h with
  | nil => exact ⟨.nil, fun _ _ _ _ _ => rfl⟩
  | @cons k y z ps zs hy _ ih =>
    obtain ⟨h1, h2⟩ := ih (fun p hp => hall p (by simp [hp])) (fun p hp => ho p (by simp [hp]))
    have hop := ho (k, y) (by simp)
    have hcell : ∀ {m' : Mem} {v : Value}, (R.slot z).p m' v → R.rel m' [v] z := by
      intro m' v hv
      simp only [Rep.slot, Rep.is, ha] at hv; exact hv
    have h0 := hcell (hy m a hop m1 hs hle hE hH)
    have h1c := R.cell h0 (a.eval y) (by simp)
    refine ⟨.cons (fun m' a' hop' => ?_) h1, fun m' hs' hl he hh => ⟨[a.eval y], _, rfl, hcell (hy m a hop m' hs' hl he hh), h2 m' hs' hl he hh⟩⟩
    show [a'.eval y] = [a.eval y] ∧ (a.eval y).oneCell' = true
    have e : a'.eval y = a.eval y := by
      cases y with
      | tmp t => exact hop' _ (exact_lk (hall (k, .tmp t) (by simp)))
      | _ => rfl
    rw [e]; exact ⟨rfl, h1c⟩
theorem raw_row {m : Mem} : ∀ {xs cs : List Value}, RowC rawv m cs xs → cs = xs
  | [], _, h => h
  | x :: xs, _, ⟨c1, cs', e, ⟨e1, _⟩, q⟩ => by rw [e, e1, raw_row q]; rfl
theorem pj_buildSlice_lnt {ST T n : Nat} {R : Rep α} {ps : List (Nat × Operand)} {zs : List α} (h : BuildL Γ E R 0 ps zs) (hk : Keep H E) (ha : R.ag = false) (hn : n = ps.length) (hs : Nat.ble n 16777216 = true) (hT : slE c.P ST T 1 = true) :
    PJ c ⟨od, .buildSlice ST n ps.toArray, ty, pos, aft, g⟩ Γ H (lnt E ((sl R).slot zs)) := by
  intro m hs2 a w hg _ hsat ho
  have hop : ∀ p ∈ ps, Opd Γ m a p.2 := fun p hp => ho p.2 (by
      simp only [Op.operands]
      simp only [List.mem_toArray, List.mem_map]
      exact ⟨p, hp, rfl⟩)
  obtain ⟨r, hs', hp, q⟩ := hsat.keep hk
  obtain ⟨h1, h2⟩ := h.raw ha (a := a) (m := m) (ext_le hg) (q.mono (ext_le hg)) (by
    rintro ⟨b, T, cs⟩ hb j v e
    have hm : (b, T, cs) ∈ hs2 := hp.mem_iff.2 (List.mem_append.2 (.inr hb))
    rw [Nat.zero_add, ext_mem hg.nodup hm]
    exact e) ps (fun _ h => h) hop
  obtain ⟨cs, hr, hrun⟩ := run_buildSlice (P := c.P) (w := w) (R := rawv) (m := m) (a := a) (n := n) hT (by rw [hn]; simp) (by simpa [Nat.ble_eq, rawv] using hs) h1 (fun p _ => exact_opd p.2)
  have hcs := raw_row hr
  have e : (execOp a.eval ⟨od, .buildSlice ST n ps.toArray, ty, pos, aft, g⟩).run c.P w = .ok (.value (.slice (some ⟨w.heap.size, 0, none⟩) n n)) (w.alloc (.cells cs.toArray T)) := by
    show (do let v ← Instr.buildSlice ST n (ps.toArray.map fun (p : Nat × Operand) => (p.1, a.eval p.2)); pure (Next.value v) : Sem Next).run c.P w = _
    rw [Sem.run_bind, hrun]; rfl
  rw [e]
  have hg1 := hg.newOwn T cs
  have hle := hg1.le_put
  refine ⟨m.put w.heap.size cs, hg1.freeze, ?_, ?_⟩
  · intro m' hs3 hl he hh
    have hrow := h2 m' hs3 (hle.trans hl) he hh
    have hlen := hrow.length
    have hR1 := R.one ha
    rw [hR1, Nat.mul_one] at hlen
    have hnz : n = zs.length := by rw [hn, ← hlen]; simp
    refine ⟨_, n, by rw [hnz], by omega, .inr ⟨w.heap.size, 0, cs, rfl, by rw [hcs]; exact hrow, (Mem.at_put m _ cs).mono hl⟩⟩
  · exact (Frm.alloc w m [] (.cells cs.toArray T)).freeze hle
theorem hasB_arrF {x : Operand} {T b n cap : Nat} {R : Rep α} {v : Vector α n} (hx : Has Γ x (val (.slice (some ⟨b, 0 * R.n, none⟩) n cap))) (hk : Pick H (box b T (vec n R) v) H') (hc : n ≤ cap) : HasB c Γ H x ((sl R).slot v.toList) := by
  have := hasB_arr (c := c) (lo := 0) hx hk (by omega) hc
  rwa [List.drop_zero, List.take_of_length_le (by simp)] at this
theorem has_lnt_arrF {x : Operand} {T b n cap : Nat} {R : Rep α} {v : Vector α n} (hx : Has Γ x (val (.slice (some ⟨b, 0 * R.n, none⟩) n cap))) (hk : Pick E (box b T (vec n R) v) E') (hc : n ≤ cap) : Has Γ x (lnt E ((sl R).slot v.toList)) := by
  have := has_lnt_arr (lo := 0) hx hk (by omega) hc
  rwa [List.drop_zero, List.take_of_length_le (by simp)] at this
theorem src_arrF {x : Operand} {T b n cap : Nat} {R : Rep α} {v : Vector α n} (hx : Has Γ x (val (.slice (some ⟨b, 0 * R.n, none⟩) n cap))) (hk : Pick H (box b T (vec n R) v) H') : Src c Γ H x R v.toList := by
  have := src_arr (c := c) (lo := 0) hx hk (by omega)
  rwa [List.drop_zero, List.take_of_length_le (by simp)] at this
theorem frz_nil {s : Slot} : ∀ t ∈ ([] : List Nat), Imp Γ t s := fun t h => by cases h
theorem frz_cons {s : Slot} {t : Nat} {ts : List Nat} (h : Imp Γ t s) (k : ∀ t ∈ ts, Imp Γ t s) : ∀ u ∈ t :: ts, Imp Γ u s := fun u hu => (List.mem_cons.1 hu).elim (fun e => e ▸ h) (k u)
theorem gat_mono {n : Nat} {R : Rep α} {x : α} {m m' : Mem} (hm : Mle m m') (h : GAt n R x m) : GAt n R x m' := by
  obtain ⟨cs, h1, h2⟩ := h; exact ⟨cs, R.mono hm h1, h2.mono hm⟩
theorem run_drawJ {Q : Exit → Act → World → Prop} {k : List Code} {id n : Nat} {L : List Oper} {Γ' : Env} {H' : List Ent} (hJ : OpsJ c L.toArray (L.drop n) Γ' H' (wpAll c.ro c.P Q k))
    (h : OpsJ c L.toArray (L.drop n) Γ' H' (wpAll c.ro c.P Q k) → Run c Q (.region id L.toArray true :: k) Γ H) : Run c Q (.region id L.toArray true :: k) Γ H := h hJ
theorem run_cond_f {Q : Exit → Act → World → Prop} {k : List Code} {x : Operand} {A B : Code} {b : Bool} (hx : Has Γ x (bl.slot b)) (hb : b = false) (h : Run c Q (B :: k) Γ H) : Run c Q (.cond x A B :: k) Γ H :=
  run_cond hx (fun e => by rw [hb] at e; cases e) (fun _ => h)
end
end Go.Sl
