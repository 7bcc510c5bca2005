import Derived.Test.YtodeiommhponnaaDoorOp7
set_option linter.unusedSimpArgs false
set_option linter.unusedVariables false
set_option linter.unusedSectionVars false
namespace Go.Sl
section
variable {c : Ctx} {full : Array Oper} {l : List Oper} {Γ Γ' : Env} {H H' : List Ent} {K : Act → World → Prop} {d : Tmp} {od : Option Tmp} {ty : TypeId} {pos : String} {aft : Array Edge} {g : Option (Nat × Bool)} {α β : Type}
/-! ## == on structs and arrays -/
/-- '==' at type T is equality of what R stands for; n: how deep. -/
def EqOK (P : Program) (T : TypeId) (R : Rep α) (n : Nat) : Prop :=
  ∀ k, n ≤ k → ∀ m cs ds x y w, R.rel m cs x → R.rel m ds y → ∃ b : Bool, (Op.equalIn k T (ofCells R.ag cs) (ofCells R.ag ds)).run P w = .ok b w ∧ (b = true ↔ x = y)
theorem eq_un {P : Program} {T : TypeId} {k : IntKind} {b : Nat} (h : P.underlying T = some (.int k)) : EqOK P T (un k b) 1 := by
  intro n hn m cs ds x y w hx hy
  cases hx; cases hy
  match n, hn with
  | n + 1, _ => exact ⟨(x.toNat : Int) == y.toNat, by simp [Op.equalIn, run_underlying h, ofCells, un], by simp [← BitVec.toNat_inj]; omega⟩
theorem eq_vec {P : Program} {T e N n : Nat} {R : Rep α} (h : P.underlying T = some (.array N e)) (he : tyB P e R.ag R.n = true) (hR : EqOK P e R n) : EqOK P T (vec N R) (n + 1) := by
  intro k hk m cs ds x y w hx hy
  match k, hk with
  | k + 1, hk =>
    have hk' : n ≤ k := by omega
    have hz : ∀ w : World, (sizeOf e).run P w = .ok R.n w := fun w => szB_run (tyB_size he) w
    have hcl := (vec N R).len hx
    have hdl := (vec N R).len hy
    -- the loop, from the j-th element on
    have loop : ∀ r j, j + r = N → ∃ b : Bool, (∀ w : World, (forIn (m := Sem) (List.range' j r) ((none, ()) : Option Bool × Unit) (fun i (_ : Option Bool × Unit) => do
        let a ← part e cs.toArray (i * R.n)
        let b ← part e ds.toArray (i * R.n)
        let q ← Op.equalIn k e a b
        if (!q) = true then pure (ForInStep.done (some false, ())) else pure (ForInStep.yield (none, ())))).run P w = .ok (if b then (none, ()) else (some false, ())) w) ∧ (b = true ↔ ∀ i, (h : i < N) → j ≤ i → x[i] = y[i]) := by
      intro r
      induction r with
      | zero =>
        intro j hj
        refine ⟨true, fun w => by simp, ?_⟩
        constructor
        · intro _ i hi hji; omega
        · intro _; rfl
      | succ r ih =>
        intro j hj
        have hjN : j < N := by omega
        obtain ⟨b, hb, hiff⟩ := ih (j + 1) (by omega)
        have hpx := (Path.at N R j hjN).get_ok hx
        have hpy := (Path.at N R j hjN).get_ok hy
        have h1 : ∀ w : World, (part e cs.toArray (j * R.n)).run P w = .ok (ofCells R.ag ((cs.drop (j * R.n)).take R.n)) w := fun w => run_part he R.one (by rw [hcl]; exact (Path.at N R j hjN).fits) w
        have h2 : ∀ w : World, (part e ds.toArray (j * R.n)).run P w = .ok (ofCells R.ag ((ds.drop (j * R.n)).take R.n)) w := fun w => run_part he R.one (by rw [hdl]; exact (Path.at N R j hjN).fits) w
        have hq : ∃ q : Bool, (∀ w : World, (Op.equalIn k e (ofCells R.ag ((cs.drop (j * R.n)).take R.n)) (ofCells R.ag ((ds.drop (j * R.n)).take R.n))).run P w = .ok q w) ∧ (q = true ↔ x[j] = y[j]) := by
          by_cases hxy : x[j] = y[j]
          · refine ⟨true, fun w => ?_, by simp [hxy]⟩
            obtain ⟨q, hq, hqi⟩ := hR k hk' m _ _ _ _ w hpx hpy
            rw [hq, hqi.2 hxy]
          · refine ⟨false, fun w => ?_, by simp [hxy]⟩
            obtain ⟨q, hq, hqi⟩ := hR k hk' m _ _ _ _ w hpx hpy
            cases q with
            | true => exact absurd (hqi.1 rfl) hxy
            | false => exact hq
        obtain ⟨q, hq, hqi⟩ := hq
        cases q with
        | true =>
          refine ⟨b, fun w => ?_, ?_⟩
          · rw [List.range'_succ, List.forIn_cons]
            simp only [Sem.run_bind, h1, h2, hq, Result.andThen_ok, Bool.not_true, Bool.false_eq_true, if_false, Sem.run_pure]
            exact hb w
          · rw [hiff]
            constructor
            · intro h i hi hji
              by_cases hij : i = j
              · subst hij; exact hqi.1 rfl
              · exact h i hi (by omega)
            · intro h i hi hji; exact h i hi (by omega)
        | false =>
          refine ⟨false, fun w => ?_, ?_⟩
          · rw [List.range'_succ, List.forIn_cons]
            simp only [Sem.run_bind, h1, h2, hq, Result.andThen_ok, Bool.not_false, if_true, Sem.run_pure]
            rfl
          · constructor
            · intro h; cases h
            · intro h; exact hqi.2 (h j hjN (Nat.le_refl _))
    obtain ⟨b, hb, hiff⟩ := loop N 0 (by omega)
    refine ⟨b, ?_, ?_⟩
    · have hrange : ([0:N] : Std.Legacy.Range).toList = List.range' 0 N := by simp [Std.Legacy.Range.toList]
      simp only [Op.equalIn, Sem.run_bind, run_underlying h, Result.andThen_ok, ofCells, vec, hz]
      rw [Std.Legacy.Range.forIn_eq_forIn_range']
      have hsz : ([0:N] : Std.Legacy.Range).size = N := by simp [Std.Legacy.Range.size]
      simp only [hsz]
      have := hb w
      rw [this]
      cases b <;> rfl
    · rw [hiff]
      constructor
      · intro h; ext i hi; exact h i hi (Nat.zero_le _)
      · intro h i hi _; rw [h]
/-- The parts of a struct, one behind the other. -/
inductive EqFs (P : Program) : List Field → Nat → {α : Type} → Rep α → Nat → Prop
  | one {α : Type} {f : Field} {off n : Nat} {R : Rep α} : f.offset = off → (f.name == "_") = false → tyB P f.type R.ag R.n = true → EqOK P f.type R n → EqFs P [f] off R n
  | cons {α β : Type} {f : Field} {fs : List Field} {off n : Nat} {R : Rep α} {S : Rep β} : f.offset = off → (f.name == "_") = false → tyB P f.type R.ag R.n = true → EqOK P f.type R n → EqFs P fs (off + R.n) S n → EqFs P (f :: fs) off (prod R S) n
theorem EqFs.run {P : Program} {n k : Nat} (hk : n ≤ k) {fs : List Field} {off : Nat} {R : Rep α} (h : EqFs P fs off R n) :
    ∀ {m : Mem} {xs ys cs ds : List Value} {x y : α}, xs.length = off + R.n → ys.length = off + R.n → R.rel m cs x → R.rel m ds y → xs.drop off = cs → ys.drop off = ds →
      ∃ b : Bool, (∀ w : World, (forIn (m := Sem) fs ((none, ()) : Option Bool × Unit) (fun (f : Field) (_ : Option Bool × Unit) => do
        if f.name ≠ "_" then
          let a ← part f.type xs.toArray f.offset
          let b ← part f.type ys.toArray f.offset
          let q ← Op.equalIn k f.type a b
          if (!q) = true then pure (ForInStep.done (some false, ())) else pure (ForInStep.yield (none, ()))
        else pure (ForInStep.yield (none, ())))).run P w = .ok (if b then (none, ()) else (some false, ())) w) ∧ (b = true ↔ x = y) := by
  induction h with
  | @one α f off n R ho hnm hT hE =>
    intro m xs ys cs ds x y hxl hyl hx hy hxd hyd
    have hne : f.name ≠ "_" := by simpa using hnm
    have h1 : ∀ w : World, (part f.type xs.toArray f.offset).run P w = .ok (ofCells R.ag cs) w := fun w => by
      have := run_part (cs := xs) (off := f.offset) hT R.one (by rw [hxl, ho]; exact Nat.le_refl _) w
      rw [this, ho, hxd, List.take_of_length_le (Nat.le_of_eq (R.len hx))]
    have h2 : ∀ w : World, (part f.type ys.toArray f.offset).run P w = .ok (ofCells R.ag ds) w := fun w => by
      have := run_part (cs := ys) (off := f.offset) hT R.one (by rw [hyl, ho]; exact Nat.le_refl _) w
      rw [this, ho, hyd, List.take_of_length_le (Nat.le_of_eq (R.len hy))]
    by_cases hxy : x = y
    · refine ⟨true, fun w => ?_, by simp [hxy]⟩
      obtain ⟨q, hq, hqi⟩ := hE k hk m _ _ _ _ w hx hy
      rw [hqi.2 hxy] at hq
      simp only [List.forIn_cons, List.forIn_nil, hne, ne_eq, not_false_iff, if_true, Sem.run_bind, h1, h2, hq, Result.andThen_ok, Bool.not_true, Bool.false_eq_true, if_false, Sem.run_pure]
    · refine ⟨false, fun w => ?_, by simp [hxy]⟩
      obtain ⟨q, hq, hqi⟩ := hE k hk m _ _ _ _ w hx hy
      have hq0 : q = false := by
        cases q with
        | true => exact absurd (hqi.1 rfl) hxy
        | false => rfl
      rw [hq0] at hq
      simp only [List.forIn_cons, List.forIn_nil, hne, ne_eq, not_false_iff, if_true, Sem.run_bind, h1, h2, hq, Result.andThen_ok, Bool.not_false, Sem.run_pure, Bool.false_eq_true, if_false]
  | @cons α β f fs off n R S ho hnm hT hE _ ih =>
    intro m xs ys cs ds x y hxl hyl hx hy hxd hyd
    have hne : f.name ≠ "_" := by simpa using hnm
    obtain ⟨c1, c2, hc, hx1, hx2⟩ := hx
    obtain ⟨d1, d2, hd, hy1, hy2⟩ := hy
    have hpn : (prod R S).n = R.n + S.n := rfl
    rw [hpn] at hxl hyl
    have lc := R.len hx1
    have ld := R.len hy1
    have h1 : ∀ w : World, (part f.type xs.toArray f.offset).run P w = .ok (ofCells R.ag c1) w := fun w => by
      have := run_part (cs := xs) (off := f.offset) hT R.one (by rw [hxl, ho]; omega) w
      rw [this, ho, hxd, hc, List.take_left' lc]
    have h2 : ∀ w : World, (part f.type ys.toArray f.offset).run P w = .ok (ofCells R.ag d1) w := fun w => by
      have := run_part (cs := ys) (off := f.offset) hT R.one (by rw [hyl, ho]; omega) w
      rw [this, ho, hyd, hd, List.take_left' ld]
    obtain ⟨b, hb, hbi⟩ := ih hk (m := m) (xs := xs) (ys := ys) (cs := c2) (ds := d2) (x := x.2) (y := y.2) (by omega) (by omega) hx2 hy2
      (by rw [← List.drop_drop, hxd, hc, ← lc, List.drop_left]) (by rw [← List.drop_drop, hyd, hd, ← ld, List.drop_left])
    by_cases hxy : x.1 = y.1
    · refine ⟨b, fun w => ?_, ?_⟩
      · obtain ⟨q, hq, hqi⟩ := hE k hk m _ _ _ _ w hx1 hy1
        rw [hqi.2 hxy] at hq
        rw [List.forIn_cons]
        simp only [hne, ne_eq, not_false_iff, if_true, Sem.run_bind, h1, h2, hq, Result.andThen_ok, Bool.not_true, Bool.false_eq_true, if_false, Sem.run_pure]
        exact hb w
      · rw [hbi]
        constructor
        · intro h; exact Prod.ext hxy h
        · intro h; rw [h]
    · refine ⟨false, fun w => ?_, ?_⟩
      · obtain ⟨q, hq, hqi⟩ := hE k hk m _ _ _ _ w hx1 hy1
        have hq0 : q = false := by
          cases q with
          | true => exact absurd (hqi.1 rfl) hxy
          | false => rfl
        rw [hq0] at hq
        rw [List.forIn_cons]
        simp only [hne, ne_eq, not_false_iff, if_true, Sem.run_bind, h1, h2, hq, Result.andThen_ok, Bool.not_false, Sem.run_pure, Bool.false_eq_true, if_false]
      · constructor
        · intro h; cases h
        · intro h; exact absurd (by rw [h]) hxy
/-- eqGuard says nothing of plain data. -/
def eqGB (P : Program) (T : TypeId) : Bool := !(P.eqGuardType P.depth T)
theorem pj_eql {T yt : TypeId} {x y : Operand} {R : Rep α} {p q : α} [DecidableEq α] {n : Nat} (hE : EqOK c.P T R n) (hn : n ≤ 10000) (ha : R.ag = true) (hG : eqGB c.P T = true) (hx : Has Γ x (R.slot p)) (hy : Has Γ y (R.slot q)) :
    PJ c ⟨od, .binOp .eql T x y yt, ty, pos, aft, g⟩ Γ H (bl.slot (decide (p = q))) :=
  pj_bin hx hy fun m u v w hu hv => by
    simp only [Rep.slot, Rep.is, ha] at hu hv
    obtain ⟨cs, rfl, hr⟩ := hu
    obtain ⟨ds, rfl, hs⟩ := hv
    obtain ⟨b, hb, hbi⟩ := hE 10000 hn m cs ds p q w hr hs
    simp only [ofCells, ha] at hb
    have hg : (c.P.eqGuardType c.P.depth T) = false := by simpa [eqGB] using hG
    refine ⟨.bool b, ?_, bl_p.2 (by congr 1; rw [Bool.eq_iff_iff, hbi]; simp)⟩
    have e1 : (eqGuard .eql T x y (.agg cs.toArray) (.agg ds.toArray)).run c.P w = .ok () w := by
      simp only [eqGuard, Bool.not_true, Bool.false_eq_true, if_false, Sem.run_bind, run_program, Result.andThen_ok, hg, Bool.not_false, if_true, Sem.run_pure]
    rw [Sem.run_bind, e1, Result.andThen_ok]
    simp only [binOp, Op.equal, Op.maxDepth, Sem.run_bind, hb, Result.andThen_ok, Sem.run_pure]
theorem pj_neq {T yt : TypeId} {x y : Operand} {R : Rep α} {p q : α} [DecidableEq α] {n : Nat} (hE : EqOK c.P T R n) (hn : n ≤ 10000) (ha : R.ag = true) (hG : eqGB c.P T = true) (hx : Has Γ x (R.slot p)) (hy : Has Γ y (R.slot q)) :
    PJ c ⟨od, .binOp .neq T x y yt, ty, pos, aft, g⟩ Γ H (bl.slot (!decide (p = q))) :=
  pj_bin hx hy fun m u v w hu hv => by
    simp only [Rep.slot, Rep.is, ha] at hu hv
    obtain ⟨cs, rfl, hr⟩ := hu
    obtain ⟨ds, rfl, hs⟩ := hv
    obtain ⟨b, hb, hbi⟩ := hE 10000 hn m cs ds p q w hr hs
    simp only [ofCells, ha] at hb
    have hg : (c.P.eqGuardType c.P.depth T) = false := by simpa [eqGB] using hG
    refine ⟨.bool (!b), ?_, bl_p.2 (by congr 2; rw [Bool.eq_iff_iff, hbi]; simp)⟩
    have e1 : (eqGuard .neq T x y (.agg cs.toArray) (.agg ds.toArray)).run c.P w = .ok () w := by
      simp only [eqGuard, Bool.not_true, Bool.false_eq_true, if_false, Sem.run_bind, run_program, Result.andThen_ok, hg, Bool.not_false, if_true, Sem.run_pure]
    rw [Sem.run_bind, e1, Result.andThen_ok]
    simp only [binOp, Op.equal, Op.maxDepth, Sem.run_bind, hb, Result.andThen_ok, Sem.run_pure]
/-! ## A pointer against nil -/
theorem run_ptr_nil {P : Program} {T E : TypeId} (h : P.underlying T = some (.pointer E)) (a : Option Addr) (w : World) :
    (binOp .eql T (.pointer a) (.pointer none)).run P w = .ok (.bool a.isNone) w ∧ (binOp .neq T (.pointer a) (.pointer none)).run P w = .ok (.bool (!a.isNone)) w := by
  have key : ∀ n, (Op.equalIn (n + 1) T (.pointer a) (.pointer none)).run P w = .ok a.isNone w := by
    intro n
    cases a with
    | none => simp only [Op.equalIn, Sem.run_bind, run_underlying h, Result.andThen_ok, Sem.run_pure]
    | some a => simp only [Op.equalIn, Sem.run_bind, run_underlying h, Result.andThen_ok, Sem.run_pure]; rfl
  have h2 := key 9999
  constructor <;> (simp only [binOp, Op.equal, Op.maxDepth, Sem.run_bind, h2, Result.andThen_ok, Sem.run_pure])
theorem pj_eq_nil {T yt E : TypeId} {x : Operand} {R : Rep α} {p : Option α} (hT : c.P.underlying T = some (.pointer E)) (hx : Has Γ x ((ptr R).slot p)) :
    PJ c ⟨od, .binOp .eql T x (.const (.pointer none)) yt, ty, pos, aft, g⟩ Γ H (bl.slot p.isNone) :=
  pj_bin hx (has_val (v := .pointer none)) fun m u v w hu hv => by
    cases hv
    cases p with
    | none =>
      simp only [Rep.slot, Rep.is, ptr] at hu; simp only [List.cons.injEq, and_true] at hu; subst hu
      exact ⟨_, by simp only [Sem.run_bind, eqGuard_at_pointer, Sem.run_pure, Result.andThen_ok]; exact (run_ptr_nil hT none w).1, bl_p.2 rfl⟩
    | some p =>
      obtain ⟨b, o, ds, e, _⟩ := hu
      simp only [List.cons.injEq, and_true] at e; subst e
      exact ⟨_, by simp only [Sem.run_bind, eqGuard_at_pointer, Sem.run_pure, Result.andThen_ok]; exact (run_ptr_nil hT _ w).1, bl_p.2 rfl⟩
/-- A very pointer (also nil). -/
theorem pj_eq_nil_val {T yt E : TypeId} {x : Operand} {a0 : Option Addr} (hT : c.P.underlying T = some (.pointer E)) (hx : Has Γ x (val (.pointer a0))) :
    PJ c ⟨od, .binOp .eql T x (.const (.pointer none)) yt, ty, pos, aft, g⟩ Γ H (bl.slot a0.isNone) :=
  pj_bin hx (has_val (v := .pointer none)) fun m u v w hu hv => by
    cases hu; cases hv
    exact ⟨_, by simp only [Sem.run_bind, eqGuard_at_pointer, Sem.run_pure, Result.andThen_ok]; exact (run_ptr_nil hT a0 w).1, bl_p.2 rfl⟩
/-! ## copy into an array of the call's own -/
theorem j_copy_arr {DT ST T b lo n cap N : Nat} {x y : Operand} {R : Rep α} {v : Vector α N} {xs : List α} (hx : Has Γ x (val (.slice (some ⟨b, lo * R.n, none⟩) n cap))) (hk : Pick H (box b T (vec N R) v) H') (hy : Src c Γ H y R xs) (hlo : lo + n ≤ N)
    (hT : slB c.P DT R.n = true) (hN : Nat.blt d c.N = true)
    (k : OpsJ c full l ((d, i64.slot ((min xs.length n : Nat) : Int)) :: Γ) (box b T (vec N R) (vput v lo (xs.take n)) :: H') K) :
    OpsJ c full (⟨some d, .call { callee := .builtin .copy, args := #[x, y], argTypes := #[DT, ST] }, ty, pos, aft, none⟩ :: l) Γ H K := by
  refine j_step rfl ?_ k
  intro m hs a w hg _ hsat he hn
  have ex : a.eval x = _ := hx m a (he.opd x)
  obtain ⟨a0, cap0, ey, hsrc⟩ := hy m hs a w hg hsat (he.opd y)
  obtain ⟨g1, g2, hpm, ⟨cs, hcs, hr⟩, hs2⟩ := hsat.pick hk
  subst hcs
  have hg' := hg.perm hpm
  obtain ⟨e, hu, hsz⟩ := slB_of hT
  have hsize := szB_run hsz w
  obtain ⟨row, hrun1, hrow, hrun2⟩ := Src.run (P := c.P) (R := R) (cap := cap0) hsrc (min xs.length n) (Nat.min_le_left _ _)
  have hrl := hrow.length
  have htl : (xs.take (min xs.length n)).length = min xs.length n := by rw [List.length_take, Nat.min_eq_left (Nat.min_le_left _ _)]
  have htake : xs.take (min xs.length n) = xs.take n := by
    rcases Nat.le_total xs.length n with h | h
    · rw [Nat.min_eq_left h, List.take_length, List.take_of_length_le h]
    · rw [Nat.min_eq_right h]
  have hcl := (vec N R).len hr
  have hvn : (vec N R).n = N * R.n := rfl
  have hlen : lo * R.n + row.length ≤ cs.length := by
    rw [hrl, htl, hcl, hvn, ← Nat.add_mul]
    exact Nat.mul_le_mul_right _ (by have := Nat.min_le_right xs.length n; omega)
  have hst := run_storeCells (P := c.P) (b := b) (o := lo * R.n) (T := T) row 0 cs w hrow.cell (hg'.blk (b, T, cs) (by simp)) (by simpa using hlen)
  simp only [Nat.add_zero] at hst
  have hfc : (Builtin.firstCells R.n (min xs.length n) (.slice a0 xs.length cap0)).run c.P w = .ok row.toArray w := hrun2
  have hcopy : (Builtin.copy_ #[DT, ST] ty #[.slice (some ⟨b, lo * R.n, none⟩) n cap, .slice a0 xs.length cap0]).run c.P w = .ok (goInt ((min xs.length n : Nat) : Int)) (setBlk w b T (cs.take (lo * R.n) ++ row ++ cs.drop (lo * R.n + row.length))) := by
    simp only [Builtin.copy_, List.getElem?_toArray, List.getElem?_cons_zero, List.getElem?_cons_succ]
    simp only [Sem.run_bind, run_underlying hu, Result.andThen_ok, Builtin.lenOf, Sem.run_pure, hsize]
    have e3 : Nat.min xs.length n = min xs.length n := rfl
    rw [e3]
    simp only [hfc, Result.andThen_ok, Sem.run_bind, hst, Sem.run_pure]
  have hrun : (execOp a.eval ⟨some d, .call { callee := .builtin .copy, args := #[x, y], argTypes := #[DT, ST] }, ty, pos, aft, none⟩).run c.P w = .ok (.value (goInt ((min xs.length n : Nat) : Int))) (setBlk w b T (cs.take (lo * R.n) ++ row ++ cs.drop (lo * R.n + row.length))) := by
    simp only [execOp, resolve, Sem.run_bind, Sem.run_pure, Result.andThen_ok, invoke, builtin]
    simp only [List.map_toArray, List.map_cons, List.map_nil, ex, ey, hcopy, Result.andThen_ok]
  rw [hrun]
  refine ⟨m, (b, T, cs.take (lo * R.n) ++ row ++ cs.drop (lo * R.n + row.length)) :: g2, hg'.setBlk _, he.put (by rw [hn]; simpa [Nat.blt_eq] using hN) (i64_p.2 rfl), ⟨[_], g2, rfl, ⟨_, rfl, ?_⟩, hs2⟩, Frm.ofPerm hpm (Frm.setBlk (by simp [Hp.bs]))⟩
  show RowC R m _ (vput v lo (xs.take n)).toList
  have hle2 : lo + (xs.take n).length ≤ N := by rw [List.length_take]; have := Nat.min_le_left n xs.length; omega
  rw [vput_toList v lo _ hle2, ← htake]
  have hr' : RowC R m cs v.toList := hr
  have h1 := RowC.take lo hr'
  have h2 := RowC.drop (lo + (xs.take (min xs.length n)).length) hr'
  have e4 : lo * R.n + row.length = (lo + (xs.take (min xs.length n)).length) * R.n := by rw [hrl, Nat.add_mul]
  rw [e4]
  exact (h1.append hrow).append h2
end
end Go.Sl
