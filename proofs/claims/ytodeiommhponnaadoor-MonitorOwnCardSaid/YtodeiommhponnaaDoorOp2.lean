import Derived.Test.YtodeiommhponnaaDoorOp1
set_option linter.unusedSimpArgs false
set_option linter.unusedVariables false
set_option linter.unusedSectionVars false
namespace Go.Sl
/-! ## Closed facts about types, as tests -/
def tyB (P : Program) (T : TypeId) (ag : Bool) (n : Nat) : Bool :=
  (match P.underlying T with | some (.struct _) | some (.array _ _) => ag | some _ => !ag | none => false) && (match P.info? T with | some i => i.size == n | none => false)
def szB (P : Program) (T : TypeId) (n : Nat) : Bool := match P.info? T with | some i => i.size == n | none => false
def fldB (P : Program) (S f off : Nat) : Bool :=
  match P.underlying S with
  | some (.struct fs) => match fs[f]? with
    | some fd => fd.offset == off && (match P.info? fd.type with | some i => i.size != 0 | none => false)
    | none => false
  | _ => false
def arrB (P : Program) (T n sz : Nat) : Bool :=
  match P.underlying T with
  | some (.array n' e) => n' == n && szB P e sz
  | _ => false
def slB (P : Program) (T sz : Nat) : Bool :=
  match P.underlying T with
  | some (.slice e) => szB P e sz
  | _ => false
theorem szB_run {P : Program} {T n : Nat} (h : szB P T n = true) (w : World) : (sizeOf T).run P w = .ok n w := by
  unfold szB at h
  cases hi : P.info? T with
  | none => rw [hi] at h; cases h
  | some i =>
    rw [hi] at h
    have : i.size = n := by simpa using h
    simp [sizeOf, typeInfo, hi, this]
theorem tyB_size {P : Program} {T n : Nat} {ag : Bool} (h : tyB P T ag n = true) : szB P T n = true := by
  simp only [tyB, Bool.and_eq_true] at h
  exact h.2
theorem tyB_agg {P : Program} {T n : Nat} {ag : Bool} (h : tyB P T ag n = true) (w : World) : (isAgg T).run P w = .ok ag w := by
  simp only [tyB, Bool.and_eq_true] at h
  obtain ⟨h1, _⟩ := h
  unfold isAgg
  cases hu : P.underlying T with
  | none => rw [hu] at h1; cases h1
  | some d =>
    rw [hu] at h1
    rw [Sem.run_bind, run_underlying hu]
    cases d <;> simp at h1 <;> simp [h1]
theorem arrB_of {P : Program} {T n sz : Nat} (h : arrB P T n sz = true) : ∃ e, P.underlying T = some (.array n e) ∧ szB P e sz = true := by
  unfold arrB at h
  split at h
  · rename_i n' e hu
    simp only [Bool.and_eq_true] at h
    have : n' = n := by simpa using h.1
    exact ⟨e, by rw [hu, this], h.2⟩
  · cases h
theorem slB_of {P : Program} {T sz : Nat} (h : slB P T sz = true) : ∃ e, P.underlying T = some (.slice e) ∧ szB P e sz = true := by
  unfold slB at h
  split at h
  · rename_i e hu; exact ⟨e, hu, h⟩
  · cases h
theorem fldB_run {P : Program} {S f off : Nat} (h : fldB P S f off = true) (b o : Nat) (w : World) :
    (Instr.fieldAt S (.pointer (some ⟨b, o, none⟩)) f).run P w = .ok (.pointer (some ⟨b, o + off, none⟩)) w := by
  unfold fldB at h
  split at h
  · rename_i fs hu
    split at h
    · rename_i fd hf
      simp only [Bool.and_eq_true] at h
      obtain ⟨h1, h2⟩ := h
      have e1 : fd.offset = off := by simpa using h1
      cases hi : P.info? fd.type with
      | none => rw [hi] at h2; cases h2
      | some i =>
        rw [hi] at h2
        have h3 : i.size ≠ 0 := by simpa using h2
        simp [Instr.fieldAt, run_underlying hu, hf, Instr.sureAddr, fieldPlace, sizeOf, typeInfo, hi, h3, Addr.add_lit, e1]
    · cases h
  · cases h

/-! ## Loads -/
theorem run_loadVar_cells {P : Program} {w : World} {T : TypeId} {ag : Bool} {n b o : Nat} {cs : List Value} (hT : tyB P T ag n = true) (hl : cs.length = n) (h1 : ag = false → n = 1)
    (h : ∀ j v, cs[j]? = some v → w.cell? ⟨b, o + j, none⟩ = some v) : (Instr.loadAt T (.pointer (some ⟨b, o, none⟩))).run P w = .ok (ofCells ag cs) w := by
  have ha := tyB_agg hT w
  have hs := szB_run (tyB_size hT) w
  simp only [Instr.loadAt, Instr.sureAddr, pure_bind, loadVar, Sem.run_bind, ha, Result.andThen_ok]
  cases ag with
  | true =>
    subst hl
    have := run_loadCells_list (P := P) w ⟨b, o, none⟩ cs (fun j v e => by rw [Addr.add_lit]; exact h j v e)
    simp [hs, this, ofCells]
  | false =>
    rw [h1 rfl] at hl
    match cs, hl with
    | [v], _ =>
      have := h 0 v rfl
      rw [Nat.add_zero] at this
      simp [run_load, this, ofCells]
section
variable {c : Ctx} {Γ : Env} {H H' : List Ent} {d : Option Tmp} {ty : TypeId} {pos : String} {aft : Array Edge} {g : Option (Nat × Bool)} {α β : Type}
theorem pj_load_to {T : TypeId} {x : Operand} {R : Rep α} {y : α} (hx : Has Γ x (ptrTo R y)) (hT : tyB c.P T R.ag R.n = true) : PJ c ⟨d, .load T x, ty, pos, aft, g⟩ Γ H (R.slot y) :=
  pj_of fun m hs a w hg _ _ ho => by
    obtain ⟨b, o, ds, e, hr, hat⟩ := hx m a (ho x (by simp [Op.operands]))
    refine ⟨ofCells R.ag ds, ?_, Rep.is_of hr⟩
    simp only [execOp, e, Sem.run_bind, run_loadVar_cells hT (R.len hr) R.one (fun j v e => hg.mem _ _ _ (hat j v e))]
    rfl
theorem Sat.box {m : Mem} {hs : Hp} {w : World} {b : Nat} {T0 : TypeId} {R : Rep α} {x : α} (hsat : Sat H m hs) (hk : Pick H (box b T0 R x) H') :
    ∃ cs, (b, T0, cs) ∈ hs ∧ R.rel m cs x := by
  obtain ⟨h1, h2, hp, ⟨cs, e, hr⟩, _⟩ := hsat.pick hk
  exact ⟨cs, hp.mem_iff.2 (by simp [e]), hr⟩
theorem Good.cells {m : Mem} {hs : Hp} {w : World} (hg : Good m hs w) {b : Nat} {T : TypeId} {cs : List Value} (h : (b, T, cs) ∈ hs) (j : Nat) (v : Value) (e : cs[j]? = some v) : w.cell? ⟨b, j, none⟩ = some v := by
  have := hg.blk _ h
  simp only [World.cell?, this]
  simpa using e
theorem pj_load_box {T T0 : TypeId} {x : Operand} {b off : Nat} {R : Rep α} {S : Rep β} {y : α} {get : α → β} {set : α → β → α} (hx : Has Γ x (val (.pointer (some ⟨b, off, none⟩))))
    (hk : Pick H (box b T0 R y) H') (hp : Path R off S get set) (hT : tyB c.P T S.ag S.n = true) : PJ c ⟨d, .load T x, ty, pos, aft, g⟩ Γ H (S.slot (get y)) :=
  pj_of fun m hs a w hg _ hsat ho => by
    have e : a.eval x = _ := hx m a (ho x (by simp [Op.operands]))
    obtain ⟨cs, hmem, hr⟩ := Sat.box (w := w) hsat hk
    have hr' := hp.get_ok hr
    refine ⟨ofCells S.ag ((cs.drop off).take S.n), ?_, Rep.is_of hr'⟩
    simp only [execOp, e, Sem.run_bind]
    rw [run_loadVar_cells hT (S.len hr') S.one]
    · rfl
    · intro j v ev
      rw [List.getElem?_take] at ev
      split at ev
      · rw [List.getElem?_drop] at ev; exact hg.cells hmem _ _ ev
      · cases ev
/-- A package-level variable that is laid. -/
def GAt (n : Nat) (R : Rep α) (x : α) (m : Mem) : Prop := ∃ cs, R.rel m cs x ∧ At m n 0 cs
theorem pj_load_global {T : TypeId} {n : Nat} {R : Rep α} {y : α} (h : ∀ m, c.G.p m → GAt n R y m) (hT : tyB c.P T R.ag R.n = true) : PJ c ⟨d, .load T (.global n), ty, pos, aft, g⟩ Γ H (R.slot y) :=
  pj_of fun m hs a w hg hG _ ho => by
    obtain ⟨cs, hr, hat⟩ := h m hG
    refine ⟨ofCells R.ag cs, ?_, Rep.is_of hr⟩
    have e : a.eval (.global n) = .pointer (some ⟨n, 0, none⟩) := rfl
    simp only [execOp, e, Sem.run_bind, run_loadVar_cells hT (R.len hr) R.one (fun j v e => hg.mem _ _ _ (hat j v e))]
    rfl
/-! ## Addresses -/
theorem pj_field_to {S f off : Nat} {x : Operand} {R : Rep α} {Q : Rep β} {y : α} {get : α → β} {set : α → β → α} (hx : Has Γ x (ptrTo R y)) (hp : Path R off Q get set) (hf : fldB c.P S f off = true) :
    PJ c ⟨d, .fieldAddr S x f, ty, pos, aft, g⟩ Γ H (ptrTo Q (get y)) :=
  pj_of fun m hs a w hg _ _ ho => by
    obtain ⟨b, o, ds, e, hr, hat⟩ := hx m a (ho x (by simp [Op.operands]))
    exact ⟨_, by simp only [execOp, e, Sem.run_bind, fldB_run hf]; rfl, b, o + off, _, rfl, hp.get_ok hr, hat.mid _ _⟩
theorem pj_field_ptr {S f off b o : Nat} {x : Operand} (hx : Has Γ x (val (.pointer (some ⟨b, o, none⟩)))) (hf : fldB c.P S f off = true) :
    PJ c ⟨d, .fieldAddr S x f, ty, pos, aft, g⟩ Γ H (val (.pointer (some ⟨b, o + off, none⟩))) :=
  pj_of fun m hs a w hg _ _ ho => by
    have e : a.eval x = _ := hx m a (ho x (by simp [Op.operands]))
    exact ⟨_, by simp only [execOp, e, Sem.run_bind, fldB_run hf]; rfl, rfl⟩
theorem run_indexAt_arr {P : Program} {T n sz : Nat} (hT : arrB P T n sz = true) (b o : Nat) (k : IntKind) {i : Int} (h0 : 0 ≤ i) (h1 : i < n) (w : World) :
    (Instr.indexAt T (.pointer (some ⟨b, o, none⟩)) (.int k i)).run P w = .ok (.pointer (some ⟨b, o + i.toNat * sz, none⟩)) w := by
  obtain ⟨e, hu, hs⟩ := arrB_of hT
  have hr := szB_run hs w
  have : 0 ≤ i ∧ i < (n : Int) := ⟨h0, h1⟩
  simp [Instr.indexAt, asIntOf, run_underlying hu, Instr.sureAddr, this, hr, Addr.add_lit]
theorem run_indexAt_sl {P : Program} {T sz : Nat} (hT : slB P T sz = true) (b o n cap : Nat) (k : IntKind) {i : Int} (h0 : 0 ≤ i) (h1 : i < n) (w : World) :
    (Instr.indexAt T (.slice (some ⟨b, o, none⟩) n cap) (.int k i)).run P w = .ok (.pointer (some ⟨b, o + i.toNat * sz, none⟩)) w := by
  obtain ⟨e, hu, hs⟩ := slB_of hT
  have hr := szB_run hs w
  have : 0 ≤ i ∧ i < (n : Int) := ⟨h0, h1⟩
  simp [Instr.indexAt, asIntOf, run_underlying hu, this, hr, Addr.add_lit]
theorem pj_index_sl {T : TypeId} {x y : Operand} {R : Rep α} {l : List α} {i : Int} {s : Slot} (hx : Has Γ x ((sl R).slot l)) (hy : Has Γ y s) (hs : IsInt s i) (h0 : 0 ≤ i) (h1 : i.toNat < l.length) (hT : slB c.P T R.n = true) :
    PJ c ⟨d, .indexAddr T x y, ty, pos, aft, g⟩ Γ H (ptrTo R l[i.toNat]) :=
  pj_of fun m hs2 a w hg _ _ ho => by
    obtain ⟨a0, cap, e, hc, hrow⟩ := hx m a (ho x (by simp [Op.operands]))
    obtain ⟨k, ek⟩ := hs m _ (hy m a (ho y (by simp [Op.operands])))
    simp only [List.cons.injEq, and_true] at e
    rcases hrow with rfl | ⟨b, o, row, rfl, hr, hat⟩
    · simp at h1
    · refine ⟨_, by simp only [execOp, e, ek, Sem.run_bind, run_indexAt_sl hT b o l.length cap k h0 (by omega)]; rfl, b, _, _, rfl, RowC.get hr h1, hat.mid _ _⟩
theorem pj_index_arr {T n sz b o : Nat} {x y : Operand} {i : Int} {s : Slot} (hx : Has Γ x (val (.pointer (some ⟨b, o, none⟩)))) (hy : Has Γ y s) (hs : IsInt s i) (h0 : 0 ≤ i) (h1 : i < n) (hT : arrB c.P T n sz = true) :
    PJ c ⟨d, .indexAddr T x y, ty, pos, aft, g⟩ Γ H (val (.pointer (some ⟨b, o + i.toNat * sz, none⟩))) :=
  pj_of fun m hs2 a w hg _ _ ho => by
    have e : a.eval x = _ := hx m a (ho x (by simp [Op.operands]))
    obtain ⟨k, ek⟩ := hs m _ (hy m a (ho y (by simp [Op.operands])))
    exact ⟨_, by simp only [execOp, e, ek, Sem.run_bind, run_indexAt_arr hT b o k h0 h1]; rfl, rfl⟩
theorem pj_index_to {T n : Nat} {x y : Operand} {R : Rep α} {v : Vector α n} {i : Int} {s : Slot} (hx : Has Γ x (ptrTo (vec n R) v)) (hy : Has Γ y s) (hs : IsInt s i) (h0 : 0 ≤ i) (h1 : i.toNat < n) (hT : arrB c.P T n R.n = true) :
    PJ c ⟨d, .indexAddr T x y, ty, pos, aft, g⟩ Γ H (ptrTo R v[i.toNat]) :=
  pj_of fun m hs2 a w hg _ _ ho => by
    obtain ⟨b, o, ds, e, hr, hat⟩ := hx m a (ho x (by simp [Op.operands]))
    obtain ⟨k, ek⟩ := hs m _ (hy m a (ho y (by simp [Op.operands])))
    exact ⟨_, by simp only [execOp, e, ek, Sem.run_bind, run_indexAt_arr hT b o k h0 (show i < (n : Int) by omega)]; rfl, b, _, _, rfl, (Path.at n R i.toNat h1).get_ok hr, hat.mid _ _⟩
theorem run_part {P : Program} {T n off : Nat} {ag : Bool} {cs : List Value} (hT : tyB P T ag n = true) (h1 : ag = false → n = 1) (hf : off + n ≤ cs.length) (w : World) :
    (part T cs.toArray off).run P w = .ok (ofCells ag ((cs.drop off).take n)) w := by
  have ha := tyB_agg hT w
  have hs := szB_run (tyB_size hT) w
  simp only [part, Sem.run_bind, ha, Result.andThen_ok]
  cases ag with
  | true =>
    simp [hs, ofCells]

  | false =>
    have := h1 rfl
    subst this
    have hlt : off < cs.length := by omega
    simp only [Bool.false_eq_true, if_false]
    rw [show cs.toArray[off]? = some cs[off] by simp [hlt]]
    simp only [ofCells, Sem.run_pure]
    rw [List.drop_eq_getElem_cons hlt]
    rfl
/-! ## Lengths -/
theorem run_len {P : Program} {T ty : TypeId} {sz : Nat} (hT : slB P T sz = true) (a : Option Addr) (n cap : Nat) (w : World) :
    (Builtin.len_ #[T] ty #[.slice a n cap]).run P w = .ok (goInt n) w := by
  obtain ⟨e, hu, _⟩ := slB_of hT
  simp [Builtin.len_, run_underlying hu]
theorem pj_len_of {T : TypeId} {x : Operand} {n : Nat} {s : Slot} {sz : Nat} (hx : Has Γ x s) (hs : ∀ m hs v, Sat H m hs → s.p m v → ∃ a cap, v = .slice a n cap) (hT : slB c.P T sz = true) :
    PJ c ⟨d, .call { callee := .builtin .len, args := #[x], argTypes := #[T] }, ty, pos, aft, g⟩ Γ H (i64.slot (n : Int)) :=
  pj_of fun m hs2 a w hg _ hsat ho => by
    obtain ⟨a0, cap, e⟩ := hs m hs2 _ hsat (hx m a (ho x (by simp [Op.operands, Call.operands])))
    refine ⟨goInt n, ?_, i64_p.2 rfl⟩
    have hl := run_len (ty := ty) hT a0 n cap w
    simp only [execOp, resolve, Sem.run_bind, Sem.run_pure, Result.andThen_ok, invoke, builtin]
    simp only [List.map_toArray, List.map_cons, List.map_nil, e, hl, Result.andThen_ok]
theorem pj_len_sl {T : TypeId} {x : Operand} {R : Rep α} {l : List α} {sz : Nat} (hx : Has Γ x ((sl R).slot l)) (hT : slB c.P T sz = true) :
    PJ c ⟨d, .call { callee := .builtin .len, args := #[x], argTypes := #[T] }, ty, pos, aft, g⟩ Γ H (i64.slot (l.length : Int)) :=
  pj_len_of hx (fun m hs v _ ⟨a, cap, e, _⟩ => by simp only [List.cons.injEq, and_true] at e; exact ⟨a, cap, e⟩) hT
theorem pj_len_own {T T0 : TypeId} {x : Operand} {v : Value} {R : Rep α} {l : List α} {sz : Nat} (hx : Has Γ x (ov v)) (hk : Pick H (own T0 R v l) H') (hT : slB c.P T sz = true) :
    PJ c ⟨d, .call { callee := .builtin .len, args := #[x], argTypes := #[T] }, ty, pos, aft, g⟩ Γ H (i64.slot (l.length : Int)) :=
  pj_len_of hx (fun m hs u hsat hu => by
    obtain ⟨h1, h2, _, ho, _⟩ := hsat.pick hk
    obtain ⟨a, cap, e, _⟩ := own.shape ho
    exact ⟨a, cap, (ov_p.1 hu).1.trans e⟩) hT
/-! ## Slicing -/
inductive OptI (Γ : Env) : Option Operand → Option Int → Prop
  | no : OptI Γ none none
  | yes {x : Operand} {s : Slot} {i : Int} : Has Γ x s → IsInt s i → OptI Γ (some x) (some i)
theorem OptI.val {x : Option Operand} {i : Option Int} (h : OptI Γ x i) {m : Mem} {a : Act} (ho : ∀ y, x = some y → Opd Γ m a y) :
    (x.map a.eval = none ∧ i = none) ∨ ∃ k n, x.map a.eval = some (.int k n) ∧ i = some n := by
  cases h with
  | no => exact .inl ⟨rfl, rfl⟩
  | yes h k =>
    obtain ⟨kk, e⟩ := k _ _ (h m a (ho _ rfl))
    exact .inr ⟨kk, _, by simp [e], rfl⟩
theorem run_sliceBounds {P : Program} {isS : Bool} {len cap : Nat} {lo hi : Option Value} {l h : Option Int} (hlo : (lo = none ∧ l = none) ∨ ∃ k n, lo = some (.int k n) ∧ l = some n)
    (hhi : (hi = none ∧ h = none) ∨ ∃ k n, hi = some (.int k n) ∧ h = some n) (h0 : 0 ≤ l.getD 0) (h1 : l.getD 0 ≤ h.getD len) (h2 : h.getD len ≤ cap) (w : World) :
    (Instr.sliceBounds isS len cap lo hi none).run P w = .ok ((l.getD 0).toNat, (h.getD len).toNat, cap) w := by
  have hb : ∀ (k : IntKind) (n : Int) (y : Nat) (code : BoundsCode), 0 ≤ n → n ≤ y → (Instr.sliceBound (.int k n) y code).run P w = .ok n.toNat w := by
    intro k n y code h0 h1
    simp [Instr.sliceBound, asIntOf, h0, h1]
  unfold Instr.sliceBounds
  rcases hhi with ⟨rfl, rfl⟩ | ⟨k, n, rfl, rfl⟩ <;> rcases hlo with ⟨rfl, rfl⟩ | ⟨k', n', rfl, rfl⟩
  · simp
  · simp only [Option.getD_some, Option.getD_none] at h0 h1 h2 ⊢
    simp [hb k' n' len _ h0 h1]
  · simp only [Option.getD_some, Option.getD_none] at h0 h1 h2 ⊢
    simp [hb k n cap _ (by omega) h2]
  · simp only [Option.getD_some, Option.getD_none] at h0 h1 h2 ⊢
    have e1 := hb k n cap (if isS = true then .sliceAcap else .sliceAlen) (by omega) h2
    have e2 := hb k' n' n.toNat .sliceB h0 (by omega)
    simp [e1, e2]
theorem run_slice_sl {P : Program} {T sz : Nat} (hT : slB P T sz = true) {a : Option Addr} {len cap : Nat} {lo hi : Option Value} {l h : Option Int}
    (hlo : (lo = none ∧ l = none) ∨ ∃ k n, lo = some (.int k n) ∧ l = some n)
    (hhi : (hi = none ∧ h = none) ∨ ∃ k n, hi = some (.int k n) ∧ h = some n) (h0 : 0 ≤ l.getD 0) (h1 : l.getD 0 ≤ h.getD len) (h2 : h.getD len ≤ cap) (w : World) :
    (Instr.sliceAt T (.slice a len cap) lo hi none).run P w =
      .ok (.slice (if cap = (l.getD 0).toNat then a else a.map (·.add ((l.getD 0).toNat * sz))) ((h.getD len).toNat - (l.getD 0).toNat) (cap - (l.getD 0).toNat)) w := by
  obtain ⟨e, hu, hs⟩ := slB_of hT
  have hz := szB_run hs w
  have hb := run_sliceBounds (P := P) (isS := true) hlo hhi h0 h1 h2 w
  simp only [Instr.sliceAt, Sem.run_bind, run_underlying hu, Result.andThen_ok, Instr.slice, hb, hz, Sem.run_pure]
theorem pj_slice_sl {T : TypeId} {x : Operand} {lo hi : Option Operand} {R : Rep α} {xs : List α} {l h : Option Int} (hx : Has Γ x ((sl R).slot xs)) (hlo : OptI Γ lo l) (hhi : OptI Γ hi h)
    (h0 : 0 ≤ l.getD 0) (h1 : l.getD 0 ≤ h.getD xs.length) (h2 : h.getD xs.length ≤ xs.length) (hT : slB c.P T R.n = true) :
    PJ c ⟨d, .slice T x lo hi none, ty, pos, aft, g⟩ Γ H ((sl R).slot ((xs.take (h.getD xs.length).toNat).drop (l.getD 0).toNat)) :=
  pj_of fun m hs2 a w hg _ _ ho => by
    obtain ⟨a0, cap, e, hc, hrow⟩ := hx m a (ho x (by simp [Op.operands]))
    simp only [List.cons.injEq, and_true] at e
    have hlo' := hlo.val (m := m) (a := a) (fun y hy => ho y (by subst hy; simp [Op.operands]))
    have hhi' := hhi.val (m := m) (a := a) (fun y hy => ho y (by subst hy; simp [Op.operands]))
    have hr := run_slice_sl (P := c.P) hT (a := a0) (cap := cap) hlo' hhi' h0 h1 (by omega) w
    refine ⟨_, by simp only [execOp, e, Option.map_none, Sem.run_bind, hr]; rfl, ?_⟩
    have hlen : ((xs.take (h.getD xs.length).toNat).drop (l.getD 0).toNat).length = (h.getD xs.length).toNat - (l.getD 0).toNat := by
      rw [List.length_drop, List.length_take, Nat.min_eq_left (by omega)]
    refine ⟨_, _, by rw [hlen], by rw [hlen]; omega, ?_⟩
    by_cases hE : (xs.take (h.getD xs.length).toNat).drop (l.getD 0).toNat = []
    · exact .inl hE
    · refine .inr ?_
      have hpos : (l.getD 0).toNat < (h.getD xs.length).toNat := by
        rcases Nat.lt_or_ge (l.getD 0).toNat (h.getD xs.length).toNat with h | h
        · exact h
        · exact absurd (List.length_eq_zero_iff.1 (by rw [hlen]; omega)) hE
      rcases hrow with rfl | ⟨b, o, row, rfl, hrw, hat⟩
      · simp at hE
      · refine ⟨b, o + (l.getD 0).toNat * R.n, (row.take ((h.getD xs.length).toNat * R.n)).drop ((l.getD 0).toNat * R.n), ?_, (hrw.take _).drop _, ?_⟩
        · rw [if_neg (by omega)]; simp [Addr.add_lit]
        · rw [List.drop_take]; exact hat.mid _ _
/-- A slice of an array of the call's own: its very value. -/
theorem pj_slice_arr {T n sz b o : Nat} {x : Operand} {lo hi : Option Operand} {l h : Option Int} (hx : Has Γ x (val (.pointer (some ⟨b, o, none⟩)))) (hlo : OptI Γ lo l) (hhi : OptI Γ hi h)
    (h0 : 0 ≤ l.getD 0) (h1 : l.getD 0 ≤ h.getD n) (h2 : h.getD n ≤ n) (h3 : l.getD 0 < n) (hT : arrB c.P T n sz = true) :
    PJ c ⟨d, .slice T x lo hi none, ty, pos, aft, g⟩ Γ H (val (.slice (some ⟨b, o + (l.getD 0).toNat * sz, none⟩) ((h.getD n).toNat - (l.getD 0).toNat) (n - (l.getD 0).toNat))) :=
  pj_of fun m hs2 a w hg _ _ ho => by
    have e : a.eval x = _ := hx m a (ho x (by simp [Op.operands]))
    have hlo' := hlo.val (m := m) (a := a) (fun y hy => ho y (by subst hy; simp [Op.operands]))
    have hhi' := hhi.val (m := m) (a := a) (fun y hy => ho y (by subst hy; simp [Op.operands]))
    obtain ⟨el, hu, hs⟩ := arrB_of hT
    have hz := szB_run hs w
    have hb := run_sliceBounds (P := c.P) (isS := false) hlo' hhi' h0 h1 h2 w
    refine ⟨_, by
      simp only [execOp, e, Option.map_none, Sem.run_bind, Instr.sliceAt, run_underlying hu, Result.andThen_ok, Instr.sureAddr, Sem.run_pure, hb, hz]
      rw [if_neg (by omega)], ?_⟩
    simp [val, Addr.add_lit]
/-! ## Tuples -/
theorem pj_extract {x : Operand} {i : Nat} {ss : List Slot} {s : Slot} (hx : Has Γ x (tup ss)) (hi : ss[i]? = some s) : PJ c ⟨d, .extract x i, ty, pos, aft, g⟩ Γ H s :=
  pj_of fun m hs a w _ _ _ ho => by
    obtain ⟨vs, e, hv⟩ := hx m a (ho x (by simp [Op.operands]))
    have key : ∀ (ss : List Slot) (vs : List Value) (i : Nat), All2 m ss vs → ss[i]? = some s → ∃ v, vs[i]? = some v ∧ s.p m v := by
      intro ss
      induction ss with
      | nil => intro vs i _ h; simp at h
      | cons t ts ih =>
        intro vs i ⟨v, vs', e, p, q⟩ h
        subst e
        cases i with
        | zero => simp at h; subst h; exact ⟨v, rfl, p⟩
        | succ i => exact ih vs' i q (by simpa using h)
    obtain ⟨v, hv', hp⟩ := key ss vs i hv hi
    exact ⟨v, by simp [execOp, e, Instr.extract, hv'], hp⟩
theorem pj_nilCheck_ptr {x : Operand} {a0 : Addr} (hx : Has Γ x (val (.pointer (some a0)))) : PJ c ⟨d, .nilCheck x, ty, pos, aft, g⟩ Γ H (val (.pointer (some a0))) :=
  pj_of fun m hs a w _ _ _ ho => by
    have e : a.eval x = _ := hx m a (ho x (by simp [Op.operands]))
    exact ⟨_, by simp only [execOp, e]; rfl, rfl⟩
end
end Go.Sl
