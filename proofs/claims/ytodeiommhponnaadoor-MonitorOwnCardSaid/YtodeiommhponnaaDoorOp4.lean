import Derived.Test.YtodeiommhponnaaDoorOp3
set_option linter.unusedSimpArgs false
set_option linter.unusedVariables false
set_option linter.unusedSectionVars false
namespace Go.Sl
section
variable {c : Ctx} {full : Array Oper} {l : List Oper} {Γ Γ' : Env} {H H' : List Ent} {K : Act → World → Prop} {d : Tmp} {od : Option Tmp} {ty : TypeId} {pos : String} {aft : Array Edge} {g : Option (Nat × Bool)} {α β : Type}
/-! ## Own slices and frozen ones, as states -/
theorem St.own_nil {a : Act} {w : World} (T : TypeId) (R : Rep α) (ad : Option Addr) (h : St c Γ H a w) : St c Γ (own T R (.slice ad 0 0) [] :: H) a w := by
  obtain ⟨hd, hn, m, hs, hg, hG, he, hsat, hf⟩ := h
  exact ⟨hd, hn, m, hs, hg, hG, he, ⟨[], hs, rfl, .inl ⟨rfl, rfl, ad, rfl⟩, hsat⟩, hf⟩
theorem j_own_nil {Γ : Env} (T : TypeId) (R : Rep α) (ad : Option Addr) (k : OpsJ c full l Γ (own T R (.slice ad 0 0) [] :: H) K) : OpsJ c full l Γ H K :=
  fun a w Q hQ hst => k a w Q hQ (hst.own_nil T R ad)
theorem own.froze {T : TypeId} {R : Rep α} {v : Value} {xs : List α} {m : Mem} {h1 h2 : Hp} {w : World} {w0 : World} {m0 : Mem} {b0 : List Nat} (ho : (own T R v xs).p m h1) (hg : Good m (h1 ++ h2) w) (hf : Frm w0 w m0 m b0 (Hp.bs (h1 ++ h2))) :
    ∃ m', Mle m m' ∧ Good m' h2 w ∧ ((sl R).slot xs).p m' v ∧ Frm w0 w m0 m' b0 h2.bs ∧ (∀ b, b ∉ h1.bs → ∀ o, m' b o = m b o) := by
  rcases ho with ⟨rfl, rfl, a, rfl⟩ | ⟨b, cap, row, spare, rfl, rfl, hr, hc, hl⟩
  · exact ⟨m, Mle.refl m, hg, ⟨a, 0, rfl, Nat.le_refl _, .inl rfl⟩, hf, fun _ _ _ => rfl⟩
  · have hle := hg.le_put
    refine ⟨m.put b (row ++ spare), hle, hg.freeze, ⟨_, cap, rfl, hc, .inr ⟨b, 0, row, rfl, hr.mono hle, ?_⟩⟩, hf.freeze hle, ?_⟩
    · intro j v e
      have := Mem.at_put m b (row ++ spare) j v (by rw [List.getElem?_append_left]; exact e; exact (List.getElem?_eq_some_iff.1 e).1)
      exact this
    · intro b' hb o
      have hne : b' ≠ b := fun e => hb (by simp [Hp.bs, e])
      simp [Mem.put, hne]
theorem envOK_map {Γ : Env} {m : Mem} {a : Act} {s s' : Slot} : ∀ (ts : List Nat), EnvOK Γ m a → (∀ t ∈ ts, s'.p m (a.tmps.getD t undef)) → EnvOK (ts.map (fun t => (t, s')) ++ Γ) m a
  | [], h, _ => h
  | t :: ts, h, k => by
    intro t' s2 e
    by_cases ht : t = t'
    · subst ht
      simp only [List.map_cons, List.cons_append, lk_cons_self] at e
      cases e
      exact k t (by simp)
    · simp only [List.map_cons, List.cons_append] at e
      rw [lk_cons_ne ht] at e
      exact envOK_map (s := s) ts h (fun u hu => k u (by simp [hu])) t' s2 e
/-- A slice of the call's own is made one that stays. -/
theorem St.freeze {a : Act} {w : World} {T : TypeId} {R : Rep α} {v : Value} {xs : List α} (ts : List Nat) (hk : Pick H (own T R v xs) H') (ht : ∀ t ∈ ts, Imp Γ t (ov v)) (h : St c Γ H a w) :
    St c (ts.map (fun t => (t, (sl R).slot xs)) ++ Γ) H' a w := by
  obtain ⟨hd, hn, m, hs, hg, hG, he, ⟨h1, h2, rfl, ho, hsat⟩, hf⟩ := h.pick hk
  obtain ⟨m', hle, hg', hv, hf', _⟩ := own.froze ho hg hf
  refine ⟨hd, hn, m', h2, hg', c.G.mono hle hG, envOK_map (s := ov v) ts (he.mono hle) (fun t h => ?_), hsat.mono hle, hf'⟩
  have : a.tmps.getD t undef = v := (ov_p.1 (ht t h m a he)).1
  rw [this]; exact hv
/-- A variable of the call's own is made one that stays. -/
theorem St.freezeBox {a : Act} {w : World} {T : TypeId} {R : Rep α} {b : Nat} {x : α} (ts : List Nat) (hk : Pick H (box b T R x) H') (ht : ∀ t ∈ ts, Imp Γ t (val (.pointer (some ⟨b, 0, none⟩)))) (h : St c Γ H a w) :
    St c (ts.map (fun t => (t, (ptr R).slot (some x))) ++ Γ) H' a w := by
  obtain ⟨hd, hn, m, hs, hg, hG, he, ⟨h1, h2, rfl, ⟨cs, rfl, hr⟩, hsat⟩, hf⟩ := h.pick hk
  have hle := hg.le_put
  refine ⟨hd, hn, m.put b cs, h2, hg.freeze, c.G.mono hle hG, envOK_map (s := val (.pointer (some ⟨b, 0, none⟩))) ts (he.mono hle) (fun t h => ?_), hsat.mono hle, hf.freeze hle⟩
  have : a.tmps.getD t undef = _ := ht t h m a he
  rw [this]
  exact ⟨b, 0, cs, rfl, R.mono hle hr, Mem.at_put m b cs⟩
/-! ## What an append or a copy reads -/
def Src (c : Ctx) (Γ : Env) (H : List Ent) (x : Operand) (R : Rep α) (xs : List α) : Prop :=
  ∀ m hs a w, Good m hs w → Sat H m hs → Opd Γ m a x → ∃ a0 cap, a.eval x = .slice a0 xs.length cap ∧ (xs = [] ∨ ∃ b o row, a0 = some ⟨b, o, none⟩ ∧ RowC R m row xs ∧ ∀ j v, row[j]? = some v → w.cell? ⟨b, o + j, none⟩ = some v)
theorem src_data {x : Operand} {R : Rep α} {xs : List α} (hx : Has Γ x ((sl R).slot xs)) : Src c Γ H x R xs := by
  intro m hs a w hg _ he
  obtain ⟨a0, cap, e, hc, h⟩ := hx m a he
  simp only [List.cons.injEq, and_true] at e
  exact ⟨a0, cap, e, h.imp id fun ⟨b, o, row, e', p, q⟩ => ⟨b, o, row, e', p, fun j v ev => hg.mem _ _ _ (q j v ev)⟩⟩
theorem Src.run {R : Rep α} {xs : List α} {P : Program} {a0 : Option Addr} {m : Mem} {w : World} {cap : Nat}
    (h : xs = [] ∨ ∃ b o row, a0 = some ⟨b, o, none⟩ ∧ RowC R m row xs ∧ ∀ j v, row[j]? = some v → w.cell? ⟨b, o + j, none⟩ = some v) (k : Nat) (hk : k ≤ xs.length) :
    ∃ row, (Builtin.firstCells R.n k (.slice a0 k cap)).run P w = .ok row.toArray w ∧ RowC R m row (xs.take k) ∧ (Builtin.firstCells R.n k (.slice a0 xs.length cap)).run P w = .ok row.toArray w := by
  rcases h with rfl | ⟨b, o, row, rfl, hr, hcl⟩
  · have : k = 0 := by simpa using hk
    subst this
    refine ⟨[], ?_, rfl, ?_⟩ <;> (cases a0 <;> simp [Builtin.firstCells, loadCells, loadCellsFrom])
  · have hr' := hr.take k
    have hl : (row.take (k * R.n)).length = k * R.n := by
      rw [hr'.length, List.length_take, Nat.min_eq_left hk]
    have hrun : (loadCells ⟨b, o, none⟩ (k * R.n)).run P w = .ok (row.take (k * R.n)).toArray w := by
      have := run_loadCells_list (P := P) w ⟨b, o, none⟩ (row.take (k * R.n)) (fun j v e => by
        rw [Addr.add_lit]
        rw [List.getElem?_take] at e
        split at e
        · exact hcl j v e
        · cases e)
      rwa [hl] at this
    exact ⟨_, hrun, hr', hrun⟩

/-! ## append -/
/-- What is asked of a slice's type and its element's. -/
def slE (P : Program) (ST T n : Nat) : Bool :=
  (match P.underlying ST with
   | some (.slice e) => e == T
   | _ => false) && (match P.info? T with
   | some i => i.size == n && decide (0 < i.bytes) && decide (i.bytes ≤ 4096) && (match i.zero with | some v => v.cells.size == n | none => false)
   | none => false)
theorem slE_of {P : Program} {ST T n : Nat} (h : slE P ST T n = true) :
    P.underlying ST = some (.slice T) ∧ ∃ i v, P.info? T = some i ∧ i.size = n ∧ 0 < i.bytes ∧ i.bytes ≤ 4096 ∧ i.zero = some v ∧ v.cells.size = n := by
  simp only [slE, Bool.and_eq_true] at h
  obtain ⟨h1, h2⟩ := h
  constructor
  · split at h1
    · rename_i e hu; have : e = T := by simpa using h1
      rw [hu, this]
    · cases h1
  · split at h2
    · rename_i i hi
      simp only [Bool.and_eq_true, decide_eq_true_eq] at h2
      obtain ⟨⟨⟨h3, h4⟩, h5⟩, h6⟩ := h2
      split at h6
      · rename_i v hv
        exact ⟨i, v, hi, by simpa using h3, h4, h5, hv, by simpa using h6⟩
      · cases h6
    · cases h2
theorem nextslicecap_le (need old : Nat) (h : old < need) : Builtin.nextslicecap need old ≤ 4 * need + 4096 := by
  unfold Builtin.nextslicecap
  split
  · omega
  · split
    · omega
    · have key : ∀ r c, c ≤ 2 * need + 1000 → Builtin.growBy need r c ≤ 3 * need + 2000 := by
        intro r
        induction r with
        | zero => intro c hc; unfold Builtin.growBy; omega
        | succ r ih =>
          intro c hc
          unfold Builtin.growBy
          split
          · omega
          · exact ih _ (by omega)
      have := key 4 old (by omega)
      omega

theorem append_fits {P : Program} {w w' : World} {ST XT T rt E : TypeId} {size sLen sCap n c0 : Nat} {base a0 : Option Addr} {new : Array Value}
    (hu : P.underlying ST = some (.slice T)) (hX : P.underlying XT = some (.slice E)) (hsize : (sizeOf T).run P w = .ok size w) (hfit : sLen + n ≤ sCap)
    (hrun : (Builtin.firstCells size n (.slice a0 n c0)).run P w = .ok new w)
    (hst : (match base with | some a => storeCells (a.add (sLen * size)) new.toList | none => pure ()).run P w = .ok () w') :
    (Builtin.append_ #[ST, XT] rt #[.slice base sLen sCap, .slice a0 n c0]).run P w = .ok (.slice base (sLen + n) sCap) w' := by
  simp only [Builtin.append_, List.getElem?_toArray, List.getElem?_cons_zero, List.getElem?_cons_succ]
  simp only [Sem.run_bind, run_underlying hu, run_underlying hX, Result.andThen_ok, hsize, Sem.run_pure, Bool.false_eq_true, if_false, Builtin.lenOf, Bool.not_false, if_true, hfit, hrun]
  cases base with
  | none => simp only [Sem.run_pure, Result.ok.injEq, true_and] at hst; subst hst; rfl
  | some ad => simp only [Sem.run_bind, hst, Result.andThen_ok, Sem.run_pure]
theorem append_grows {P : Program} {w : World} {ST XT T rt E : TypeId} {size sLen sCap n c0 : Nat} {base a0 : Option Addr} {old new : Array Value} {i : TypeInfo} {z : Value}
    (hu : P.underlying ST = some (.slice T)) (hX : P.underlying XT = some (.slice E)) (hi : P.info? T = some i) (hsz : i.size = size) (hz : i.zero = some z) (hb0 : 0 < i.bytes) (hfit : ¬ sLen + n ≤ sCap)
    (hcap : ¬ (Builtin.nextslicecap (sLen + n) sCap * i.bytes > 2 ^ 48))
    (hold : (Builtin.firstCells size sLen (.slice base sLen sCap)).run P w.drew = .ok old w.drew)
    (hnew : (Builtin.firstCells size n (.slice a0 n c0)).run P w.drew = .ok new w.drew) :
    ∃ newCap, sLen + n ≤ newCap ∧ (Builtin.append_ #[ST, XT] rt #[.slice base sLen sCap, .slice a0 n c0]).run P w =
      .ok (.slice (some ⟨w.heap.size, 0, none⟩) (sLen + n) newCap) (w.drew.alloc (.cells (old ++ new ++ Builtin.zeroCells z.cells (newCap - (sLen + n))) T)) := by
  refine ⟨(Question.appendCap (sLen + n) sCap T).cut (w.tape w.drawn (.appendCap (sLen + n) sCap T)), Nat.le_add_right _ _, ?_⟩
  have hnm : ¬ (((sLen + n : Nat) : Int) > IntKind.i64.max ∧ (False ∨ i.bytes = 0)) := by
    rintro ⟨_, h | h⟩
    · exact h
    · omega
  have hti : ∀ w : World, (typeInfo T).run P w = .ok i w := fun w => by simp [typeInfo, hi]
  have hzv : ∀ w : World, (zeroValue T).run P w = .ok z w := fun w => by simp [zeroValue, hti, hz]
  have hsize : ∀ w : World, (sizeOf T).run P w = .ok size w := fun w => by simp [sizeOf, hti, hsz]
  have hch : (choose (.appendCap (sLen + n) sCap T)).run P w = .ok ((Question.appendCap (sLen + n) sCap T).cut (w.tape w.drawn (.appendCap (sLen + n) sCap T))) w.drew := by
    rw [run_choose]; rfl
  have hnm2 : ¬ (((sLen + n : Nat) : Int) > IntKind.i64.max ∧ ((false = true) ∨ i.bytes = 0)) := by simpa using hnm
  simp only [Builtin.append_, List.getElem?_toArray, List.getElem?_cons_zero, List.getElem?_cons_succ]
  simp only [Sem.run_bind, run_underlying hu, run_underlying hX, Result.andThen_ok, hsize, Sem.run_pure, Bool.false_eq_true, if_false, Builtin.lenOf, Bool.not_false, if_true, hfit, hti, hcap, hch, run_askRoom, hold, hnew, hzv, newRow]
  have hnm3 : ¬ (((sLen + n : Nat) : Int) > IntKind.i64.max ∧ (False ∨ i.bytes = 0)) := hnm
  simp only [hnm3, if_false, Sem.run_bind, hti, Result.andThen_ok, hcap, hch, run_askRoom, hold, hnew, hzv, run_newObj, Sem.run_pure, Sem.run_ite]
  rfl
theorem run_append {P : Program} {w : World} {m : Mem} {h1 h2 : Hp} {ST XT T rt E : TypeId} {R : Rep α} {v : Value} {ys xs : List α} {a0 : Option Addr} {cap0 : Nat}
    (hT : slE P ST T R.n = true) (hX : P.underlying XT = some (.slice E)) (hg : Good m (h1 ++ h2) w) (ho : (own T R v ys).p m h1)
    (hsrc : xs = [] ∨ ∃ b o row, a0 = some ⟨b, o, none⟩ ∧ RowC R m row xs ∧ ∀ j v, row[j]? = some v → w.cell? ⟨b, o + j, none⟩ = some v) (hb : ys.length + xs.length ≤ 4294967296) :
    ∃ v' h1' w', (Builtin.append_ #[ST, XT] rt #[v, .slice a0 xs.length cap0]).run P w = .ok v' w' ∧ (own T R v' (ys ++ xs)).p m h1' ∧ Good m (h1' ++ h2) w' ∧ Frm w w' m m (Hp.bs (h1 ++ h2)) (Hp.bs (h1' ++ h2)) := by
  obtain ⟨hu, i, z, hi, hsz, hb0, hb1, hz, hzc⟩ := slE_of hT
  obtain ⟨rx, hrunT, hrx, hrun⟩ := Src.run (P := P) (R := R) (cap := cap0) hsrc xs.length (Nat.le_refl _)
  rw [List.take_length] at hrx
  obtain ⟨av, capv, hv, hcv⟩ := own.shape ho
  have hsize : (sizeOf T).run P w = .ok R.n w := by simp [sizeOf, typeInfo, hi, hsz]
  by_cases hfit : ys.length + xs.length ≤ capv
  · rcases ho with ⟨rfl, rfl, ad, hv2⟩ | ⟨b, cap, row, spare, hv2, rfl, hr, hc, hl⟩
    · rw [hv2] at hv ⊢
      simp only [List.length_nil, Value.slice.injEq] at hv
      obtain ⟨_, _, rfl⟩ := hv
      have hx0 : xs = [] := by simpa using hfit
      subst hx0
      have hrx0 : rx = [] := by simpa [RowC] using hrx
      subst hrx0
      refine ⟨.slice ad 0 0, [], w, ?_, .inl ⟨rfl, rfl, ad, rfl⟩, by simpa using hg, by simpa using Frm.refl w m h2.bs⟩
      exact append_fits hu hX hsize (by simp) hrun (by cases ad <;> simp [storeCells])
    · rw [hv2] at hv ⊢
      simp only [Value.slice.injEq] at hv
      obtain ⟨_, _, rfl⟩ := hv
      have hlr := hr.length
      have hlx := hrx.length
      have hcells : (ys.length + xs.length) * R.n ≤ (row ++ spare).length := by rw [hl]; exact Nat.mul_le_mul_right _ hfit
      rw [Nat.add_mul] at hcells
      have hblk := hg.blk (b, T, row ++ spare) (by simp)
      have hst := run_storeCells (P := P) (b := b) (o := ys.length * R.n) (T := T) rx 0 (row ++ spare) w hrx.cell hblk (by rw [hlx]; omega)
      simp only [Nat.add_zero] at hst
      have etake : (row ++ spare).take (ys.length * R.n) = row := by rw [← hlr, List.take_left']; rfl
      rw [etake, List.append_assoc] at hst
      refine ⟨.slice (some ⟨b, 0, none⟩) (ys.length + xs.length) cap, [(b, T, row ++ (rx ++ (row ++ spare).drop (ys.length * R.n + rx.length)))], _, ?_, ?_, hg.setBlk _, Frm.setBlk (by simp [Hp.bs])⟩
      · exact append_fits hu hX hsize hfit hrun (by simpa [Addr.add_lit] using hst)
      · refine .inr ⟨b, cap, row ++ rx, (row ++ spare).drop (ys.length * R.n + rx.length), by simp, by simp, hr.append hrx, by simpa using hfit, ?_⟩
        rw [List.length_append, List.length_append, List.length_drop, hlx, hlr, hl]
        rw [hl] at hcells
        omega
  · have hro : (∃ rowo, RowC R m rowo ys ∧ (Builtin.firstCells R.n ys.length (.slice av ys.length capv)).run P (w.drew) = .ok rowo.toArray w.drew) := by
      rcases ho with ⟨rfl, rfl, ad, hv2⟩ | ⟨b, cap, row, spare, hv2, rfl, hr, hc, hl⟩
      · refine ⟨[], rfl, ?_⟩
        cases av <;> simp [Builtin.firstCells, loadCells, loadCellsFrom]
      · rw [hv2] at hv
        simp only [Value.slice.injEq] at hv
        obtain ⟨rfl, _, rfl⟩ := hv
        refine ⟨row, hr, ?_⟩
        have := run_loadCells_list (P := P) w.drew ⟨b, 0, none⟩ row (fun j u e => by
          rw [Addr.add_lit, Nat.zero_add]
          exact hg.drew.cells (T := T) (cs := row ++ spare) (by simp) j u (by rw [List.getElem?_append_left]; exact e; exact (List.getElem?_eq_some_iff.1 e).1))
        rw [hr.length] at this
        exact this
    obtain ⟨rowo, hro, hrunO⟩ := hro
    obtain ⟨rx', _, hrx', hrun'⟩ := Src.run (P := P) (R := R) (w := w.drew) (cap := cap0) (m := m) (a0 := a0) (xs := xs) hsrc xs.length (Nat.le_refl _)
    rw [List.take_length] at hrx'
    have hcap := nextslicecap_le (ys.length + xs.length) capv (by omega)
    have hnb : ¬ (Builtin.nextslicecap (ys.length + xs.length) capv * i.bytes > 2 ^ 48) := by
      have h1 : Builtin.nextslicecap (ys.length + xs.length) capv ≤ 4 * 4294967296 + 4096 := by omega
      have h2 : Builtin.nextslicecap (ys.length + xs.length) capv * i.bytes ≤ (4 * 4294967296 + 4096) * 4096 := Nat.mul_le_mul h1 hb1
      have h3 : (4 * 4294967296 + 4096) * 4096 ≤ 2 ^ 48 := by decide
      omega
    obtain ⟨newCap, hnc, happ⟩ := append_grows (P := P) (rt := rt) (z := z) hu hX hi hsz hz hb0 hfit hnb hrunO hrun'
    rw [hv]
    have hzc' : z.cells.size = R.n := hzc
    let rest := (Builtin.zeroCells z.cells (newCap - (ys.length + xs.length))).toList
    have hrl : rest.length = (newCap - (ys.length + xs.length)) * R.n := by simp [rest, Builtin.zeroCells, hzc']
    have hcs : rowo.toArray ++ rx'.toArray ++ Builtin.zeroCells z.cells (newCap - (ys.length + xs.length)) = ((rowo ++ rx') ++ rest).toArray := by
      simp [rest]
    rw [hcs] at happ
    refine ⟨_, [(w.heap.size, T, (rowo ++ rx') ++ rest)], _, happ, .inr ⟨w.heap.size, newCap, rowo ++ rx', rest, by simp, rfl, hro.append hrx', by simpa using hnc, ?_⟩, ?_, ?_⟩
    · rw [List.length_append, List.length_append, hro.length, hrx'.length, hrl, ← Nat.add_mul, ← Nat.add_mul]
      congr 1; omega
    · exact (Good.sub hg).drew.newOwn T _
    · have h3 := Frm.alloc w.drew m h2.bs (.cells ((rowo ++ rx') ++ rest).toArray T)
      have h4 : Frm w w.drew m m (Hp.bs (h1 ++ h2)) h2.bs := (Frm.drew w m _).sub fun b hb => by rw [Hp.bs_append]; exact List.mem_append.2 (.inr hb)
      exact h4.trans h3
theorem j_append {ST XT T E : TypeId} {x y : Operand} {R : Rep α} {v : Value} {ys xs : List α} (hx : Has Γ x (ov v)) (hk : Pick H (own T R v ys) H') (hy : Src c Γ H y R xs)
    (hT : slE c.P ST T R.n = true) (hX : c.P.underlying XT = some (.slice E)) (hb : ys.length + xs.length ≤ 4294967296) (hN : Nat.blt d c.N = true)
    (k : ∀ v', OpsJ c full l ((d, ov v') :: Γ) (own T R v' (ys ++ xs) :: H') K) :
    OpsJ c full (⟨some d, .call { callee := .builtin .append, args := #[x, y], argTypes := #[ST, XT] }, ty, pos, aft, none⟩ :: l) Γ H K := by
  refine j_step_ex (Γ2 := fun v' => (d, ov v') :: Γ) (H2 := fun v' => own T R v' (ys ++ xs) :: H') rfl ?_ k
  intro m hs a w hg _ hsat he hn
  have ex : a.eval x = v := (ov_p.1 (hx m a (he.opd x))).1
  obtain ⟨a0, cap0, ey, hsrc⟩ := hy m hs a w hg hsat (he.opd y)
  obtain ⟨h1, h2, hpm, ho, hs2⟩ := hsat.pick hk
  have hsrc' : xs = [] ∨ ∃ b o row, a0 = some ⟨b, o, none⟩ ∧ RowC R m row xs ∧ ∀ j v, row[j]? = some v → w.cell? ⟨b, o + j, none⟩ = some v := hsrc
  obtain ⟨v', h1', w', hrun, ho', hg', hf'⟩ := run_append (rt := ty) (cap0 := cap0) hT hX (hg.perm hpm) ho hsrc' hb
  have hr : (execOp a.eval ⟨some d, .call { callee := .builtin .append, args := #[x, y], argTypes := #[ST, XT] }, ty, pos, aft, none⟩).run c.P w = .ok (.value v') w' := by
    simp only [execOp, resolve, Sem.run_bind, Sem.run_pure, Result.andThen_ok, invoke, builtin]
    simp only [List.map_toArray, List.map_cons, List.map_nil, ex, ey, hrun, Result.andThen_ok]
  rw [hr]
  exact ⟨v', m, h1' ++ h2, hg', he.put (by rw [hn]; simpa [Nat.blt_eq] using hN) (ov_p.2 ⟨rfl, own.one ho'⟩), ⟨h1', h2, rfl, ho', hs2⟩, Frm.ofPerm hpm hf'⟩
end
end Go.Sl
