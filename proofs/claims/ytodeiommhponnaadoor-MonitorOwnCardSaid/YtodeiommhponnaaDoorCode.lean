import Derived.Test.YtodeiommhponnaaDoorDraw2
set_option linter.unusedSimpArgs false
set_option linter.unusedVariables false
set_option linter.unusedSectionVars false
namespace Go.Sl
/-! ## Code -/
def wpAll (r : Option Nat) (P : Program) (Q : Exit → Act → World → Prop) : List Code → Act → World → Prop
  | [] => Q .normal
  | x :: k => x.wpIn (fen r) 0 P (Exit.then (wpAll r P Q k) Q)
def Run (c : Ctx) (Q : Exit → Act → World → Prop) (k : List Code) (Γ : Env) (H : List Ent) : Prop := ∀ a w, St c Γ H a w → wpAll c.ro c.P Q k a w
section
variable {c : Ctx} {Γ Γ' : Env} {H H' : List Ent} {Q : Exit → Act → World → Prop} {k : List Code}
theorem run_nil (h : ∀ a w, St c Γ H a w → Q .normal a w) : Run c Q [] Γ H := h
theorem run_seq {x y : Code} (h : Run c Q (x :: y :: k) Γ H) : Run c Q (.seq x y :: k) Γ H := by
  intro a w hst
  refine wpIn_seq (wpIn_mono (h a w hst) fun e a' w' he => ?_)
  cases e <;> exact he
theorem run_skip (h : Run c Q k Γ H) : Run c Q (.skip :: k) Γ H := fun a w hst => wpIn_skip (h a w hst)
theorem run_sub (h : SubE Γ Γ') (r : Run c Q k Γ' H) : Run c Q k Γ H := fun a w hst => r a w (hst.sub h)
theorem run_keep (h : Keep H H') (r : Run c Q k Γ H') : Run c Q k Γ H := fun a w hst => r a w (hst.keep h)
theorem run_text {id : Nat} {l : List Oper} (h : OpsJ c l.toArray l Γ H (wpAll c.ro c.P Q k)) : Run c Q (.region id l.toArray false :: k) Γ H :=
  fun a w hst => wpIn_region_lit (h a w _ (fun _ _ h => h) hst)
theorem j_end {full : Array Oper} (h : Run c Q k Γ H) : OpsJ c full [] Γ H (wpAll c.ro c.P Q k) := fun a w Q' hQ hst => hQ a w (h a w hst)
theorem run_draw {id n : Nat} {L : List Oper} {σ : List Slot} (hm : c.P.follows .mixedOrders = true) (hB : drawB L n = true) (hn : Nat.ble n L.length = true) (hN : dstB c.N (L.take n) = true) (hR : RJ c L H 0 (L.take n) Γ σ none)
    (h : OpsJ c L.toArray (L.drop n) (envUp Γ (L.take n) σ) H (wpAll c.ro c.P Q k)) : Run c Q (.region id L.toArray true :: k) Γ H :=
  fun a w hst => r_draw hst hm hB hn hN hR h
theorem run_cond {x : Operand} {A B : Code} {b : Bool} (hx : Has Γ x (bl.slot b)) (h1 : b = true → Run c Q (A :: k) Γ H) (h2 : b = false → Run c Q (B :: k) Γ H) : Run c Q (.cond x A B :: k) Γ H := by
  intro a w hst
  have hst' := hst
  obtain ⟨_, _, m, hs, _, _, he, _⟩ := hst'
  have hv := bl_p.1 (hx m a (he.opd x))
  exact wpIn_cond_split hv (fun hb => h1 hb a w hst) (fun hb => h2 hb a w hst)
def BQ (id : Nat) (n : Act → World → Prop) (Q : Exit → Act → World → Prop) : Exit → Act → World → Prop
  | .normal, a, w => n a w
  | .exit id', a, w => if id' = id then n a w else Q (.exit id') a w
  | e, a, w => Q e a w
theorem run_block {id : Nat} {x : Code} (h : Run c (BQ id (wpAll c.ro c.P Q k) Q) [x] Γ H) : Run c Q (.block id x :: k) Γ H := by
  intro a w hst
  refine wpIn_block (wpIn_mono (h a w hst) fun e a' w' he => ?_)
  cases e with
  | normal => exact he
  | exit id' =>
    simp only [Exit.then, BQ, Exit.inBlock] at he ⊢
    split <;> simp_all
  | _ => exact he
theorem run_exit {id : Nat} (h : ∀ a w, St c Γ H a w → Q (.exit id) a w) : Run c Q (.exit id :: k) Γ H := fun a w hst => wpIn_exit (h a w hst)
theorem run_ret (h : ∀ a w, St c Γ H a w → Q .ret a w) : Run c Q (.ret :: k) Γ H := fun a w hst => wpIn_ret (h a w hst)
theorem bq_exit {id : Nat} {n : Act → World → Prop} {a : Act} {w : World} (h : n a w) : BQ id n Q (.exit id) a w := by simp only [BQ, if_true]; exact h
end
/-! ## Loops -/
/-- How a round may end. -/
def LQ {σ ρ : Type} (id : Nat) (I : σ → Act → World → Prop) (R : ρ → Act → World → Prop) (r : LR σ ρ) (e : Exit) (a : Act) (w : World) : Prop :=
  match r with
  | .next s => e = .normal ∧ I s a w
  | .brk s => e = .exit id ∧ I s a w
  | .ret x => e = .ret ∧ R x a w
theorem rounds_of {P : Program} {ro : Option Nat} {Q : Exit → Act → World → Prop} {σ ρ : Type} {f : σ → Option (LR σ ρ)} {I : σ → Act → World → Prop} {R : ρ → Act → World → Prop} {id : Nat} {body : Code}
    (step : ∀ s r a w, f s = some r → I s a w → body.wpIn (fen ro) 0 P (LQ id I R r) a w) :
    ∀ (n : Nat) (s : σ) (out : σ ⊕ ρ) (a : Act) (w : World), loopO f n s = some out → I s a w → (∀ s' a w, out = .inl s' → I s' a w → Q (.exit id) a w) → (∀ x a w, out = .inr x → R x a w → Q .ret a w) → Code.roundsIn (fen ro) 0 P body Q n a w := by
  intro n
  induction n with
  | zero => intro s out a w h; cases h
  | succ n ih =>
    intro s out a w h hI h1 h2
    rw [roundsIn_succ]
    unfold loopO at h
    cases hf : f s with
    | none => rw [hf] at h; cases h
    | some r =>
      rw [hf] at h
      refine wpIn_mono (step s r a w hf hI) fun e a' w' hq => ?_
      cases r with
      | next s' => obtain ⟨rfl, hI'⟩ := hq; exact ih s' out a' w' h hI' h1 h2
      | brk s' => obtain ⟨rfl, hI'⟩ := hq; simp only [Option.some.injEq] at h; exact h1 s' a' w' h.symm hI'
      | ret x => obtain ⟨rfl, hR⟩ := hq; simp only [Option.some.injEq] at h; exact h2 x a' w' h.symm hR
section
variable {c : Ctx} {Γ Γ' : Env} {H H' : List Ent} {Q : Exit → Act → World → Prop} {k : List Code}
/-- A loop, left by the exit of its block or by a return. 'ι': what is new from round to round. -/
theorem run_loop {σ ρ ι : Type} {f : σ → Option (LR σ ρ)} {Γi : ι → σ → Env} {Hi : ι → σ → List Ent} {R : ρ → Act → World → Prop} {id n : Nat} {body : Code} {s0 : σ} {out : σ ⊕ ρ} (hl : loopO f n s0 = some out)
    (i0 : ι) (h0 : ∀ a w, St c Γ H a w → St c (Γi i0 s0) (Hi i0 s0) a w)
    (step : ∀ i s r, f s = some r → Run c (LQ id (fun s a w => ∃ i, St c (Γi i s) (Hi i s) a w) R r) [body] (Γi i s) (Hi i s))
    (h1 : ∀ i s, out = .inl s → Run c Q k (Γi i s) (Hi i s)) (h2 : ∀ x a w, out = .inr x → R x a w → Q .ret a w) : Run c Q (.block id (.loop body) :: k) Γ H := by
  refine run_block fun a w hst => ?_
  refine wpIn_loop_rounds n (rounds_of (I := fun s a w => ∃ i, St c (Γi i s) (Hi i s) a w) (R := R) (id := id) (f := f) ?_ n s0 out a w hl ⟨i0, h0 a w hst⟩ ?_ ?_)
  · rintro s r a w hf ⟨i, hI⟩
    refine wpIn_mono (step i s r hf a w hI) fun e a' w' hq => ?_
    cases e <;> exact hq
  · rintro s' a w ho ⟨i, hI⟩
    exact bq_exit (h1 i s' ho a w hI)
  · intro x a w ho hR
    exact h2 x a w ho hR
end
/-! ## Returns -/
section
variable {c : Ctx} {Γ Γ' : Env} {H H' : List Ent} {a : Act} {w : World} {ι : Type} {ρ : ι → Slot} {ε : ι → List Ent} {fn : Func}
def resOf (tmps : Array Value) : ResultVar → Sem Value
  | .tmp t => pure (tmps.getD t undef)
  | .cell ad t => do loadVar t (← asAddr (tmps.getD ad undef))
theorem results_eq (fn : Func) (tmps : Array Value) : results fn tmps = (do let vs ← fn.results.mapM (resOf tmps); pure (if h : vs.size = 1 then vs[0] else .tuple vs)) := by
  unfold results
  have : (fun (r : ResultVar) => (match r with
    | .tmp t => pure (tmps.getD t undef)
    | .cell a t => do loadVar t (← asAddr (tmps.getD a undef)) : Sem Value)) = resOf tmps := by
    funext r; cases r <;> rfl
  rw [← this]
  rfl
/-- What a result's place gives. -/
inductive ResJ (c : Ctx) (Γ : Env) (H : List Ent) : ResultVar → Slot → Prop
  | tmp {t : Nat} {s : Slot} : lk Γ t = some s → ResJ c Γ H (.tmp t) s
  | cell {t b : Nat} {T T0 : TypeId} {α : Type} {R : Rep α} {x : α} {H' : List Ent} : lk Γ t = some (val (.pointer (some ⟨b, 0, none⟩))) → Pick H (box b T0 R x) H' → tyB c.P T R.ag R.n = true → ResJ c Γ H (.cell t T) (R.slot x)
theorem ResJ.run {r : ResultVar} {s : Slot} (h : ResJ c Γ H r s) {m : Mem} {hs : Hp} (hg : Good m hs w) (hsat : Sat H m hs) (he : EnvOK Γ m a) :
    ∃ v, (resOf a.tmps r).run c.P w = .ok v w ∧ s.p m v := by
  cases h with
  | tmp h => exact ⟨_, rfl, he _ _ h⟩
  | @cell t b T T0 α R x H' h hk hT =>
    have e : a.tmps.getD t undef = _ := he t _ h
    obtain ⟨cs, hmem, hr⟩ := Sat.box (w := w) hsat hk
    refine ⟨ofCells R.ag cs, ?_, Rep.is_of hr⟩
    have := run_loadVar_cells (P := c.P) (w := w) (b := b) (o := 0) hT (R.len hr) R.one (fun j v ev => by rw [Nat.zero_add]; exact hg.cells hmem j v ev)
    simp only [Instr.loadAt, Instr.sureAddr, pure_bind] at this
    simp only [resOf, e, asAddr, pure_bind]
    exact this
inductive ResL (c : Ctx) (Γ : Env) (H : List Ent) : List ResultVar → List Slot → Prop
  | nil : ResL c Γ H [] []
  | cons {r : ResultVar} {s : Slot} {rs : List ResultVar} {ss : List Slot} : ResJ c Γ H r s → ResL c Γ H rs ss → ResL c Γ H (r :: rs) (s :: ss)
theorem ResL.run {rs : List ResultVar} {ss : List Slot} (h : ResL c Γ H rs ss) {m : Mem} {hs : Hp} (hg : Good m hs w) (hsat : Sat H m hs) (he : EnvOK Γ m a) :
    ∃ vs : List Value, (rs.mapM (resOf a.tmps)).run c.P w = .ok vs w ∧ All2 m ss vs ∧ vs.length = rs.length := by
  induction h with
  | nil => exact ⟨[], by simp, rfl, rfl⟩
  | cons h1 _ ih =>
    obtain ⟨vs, hrun, hall, hlen⟩ := ih
    obtain ⟨v, hv, hs'⟩ := h1.run hg hsat he
    refine ⟨v :: vs, ?_, ⟨v, vs, rfl, hs', hall⟩, by simp [hlen]⟩
    rw [List.mapM_cons]
    simp only [Sem.run_bind, hv, Result.andThen_ok, hrun, Sem.run_pure]
theorem results_run {rs : List ResultVar} {vs : List Value} (hr : fn.results = rs.toArray) (h : (rs.mapM (resOf a.tmps)).run c.P w = .ok vs w) :
    (results fn a.tmps).run c.P w = .ok (if h : vs.toArray.size = 1 then vs.toArray[0] else .tuple vs.toArray) w := by
  rw [results_eq, hr, Sem.run_bind, Array.mapM_eq_mapM_toList, Sem.run_map]
  show (((List.mapM (resOf a.tmps) rs).run c.P w).andThen _ |>.andThen _) = _
  rw [h]
  rfl
/-- One result. -/
theorem q_ret1 {r : ResultVar} {s : Slot} (hst : St c Γ H a w) (hr : fn.results = #[r]) (hj : ResJ c Γ H r s) (i : ι) (hs : ∀ m v, s.p m v → (ρ i).p m v) (hk : Keep H (ε i)) (hds : c.mm = false := by rfl) : bodyPost c.P fn (Post c ρ ε) .ret a w := by
  obtain ⟨hd, hn, m, hsh, hg, hG, he, hsat, hf⟩ := hst
  obtain ⟨vs, hrun, hall, hlen⟩ := (ResL.cons hj .nil).run hg hsat he
  have := results_run (fn := fn) (rs := [r]) hr hrun
  obtain ⟨v, vs', rfl, hv, hnil⟩ := hall
  cases hnil
  obtain ⟨rr, hs', hp, q⟩ := hsat.keep hk
  have hg' := hg.perm hp
  refine ⟨hd.none hds, v, by simpa using this, v, m, hs', i, rfl, hg'.sub, hs m v hv, q, (hf.perm hp).sub fun b hb => by rw [Hp.bs_append]; exact List.mem_append.2 (.inr hb)⟩
/-- No result, or more than one. -/
theorem q_retN {rs : List ResultVar} {ss : List Slot} (hst : St c Γ H a w) (hr : fn.results = rs.toArray) (hj : ResL c Γ H rs ss) (h1 : Nat.beq rs.length 1 = false) (i : ι) (hs : ∀ m v, (tup ss).p m v → (ρ i).p m v) (hk : Keep H (ε i)) (hds : c.mm = false := by rfl) : bodyPost c.P fn (Post c ρ ε) .ret a w := by
  obtain ⟨hd, hn, m, hsh, hg, hG, he, hsat, hf⟩ := hst
  obtain ⟨vs, hrun, hall, hlen⟩ := hj.run hg hsat he
  have := results_run (fn := fn) hr hrun
  have hne : ¬ vs.toArray.size = 1 := by
    intro h
    have : rs.length = 1 := by rw [← hlen]; simpa using h
    rw [this] at h1; cases h1
  rw [dif_neg hne] at this
  obtain ⟨rr, hs', hp, q⟩ := hsat.keep hk
  have hg' := hg.perm hp
  exact ⟨hd.none hds, _, this, _, m, hs', i, rfl, hg'.sub, hs m _ ⟨vs, rfl, hall⟩, q, (hf.perm hp).sub fun b hb => by rw [Hp.bs_append]; exact List.mem_append.2 (.inr hb)⟩
end
/-! ## A function's body -/
theorem ctr_of_run {P : Program} {G : GP} {f : FuncId} {fn : Func} {code : Code} {A : List Slot} {E : List Ent} {ι : Type} {ρ : ι → Slot} {ε : ι → List Ent}
    (hf : P.funcs[f]? = some fn) (hb : fn.body = some code) (N : Nat) (hN : fn.ntmps = N) (hA : Nat.ble A.length N = true)
    (h : ∀ (m0 : Mem) (w0 : World) (b0 : List Nat), Run ⟨P, N, G, m0, w0, b0, none, false⟩ (bodyPost P fn (Post ⟨P, N, G, m0, w0, b0, none, false⟩ ρ ε)) [code] (envOf 0 A) E) : Ctr P G f A E ρ ε := by
  refine ctr_of_body hf hb hN hA ?_
  rintro ⟨P', N', G', m0, w0, b0, ro', ds'⟩ rfl rfl rfl rfl rfl a w hst
  refine wpIn_mono (h m0 w0 b0 a w hst) fun e a' w' he => ?_
  cases e <;> exact he
end Go.Sl
