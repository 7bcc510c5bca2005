import Derived.Test.YtodeiommhponnaaDoorCode
import Derived.Test.YtodeiommhponnaaDoorOp8
set_option linter.unusedSimpArgs false
set_option linter.unusedVariables false
set_option linter.unusedSectionVars false
namespace Go.Sl
/-! ## What the printed proofs lean on -/
theorem bool_tf (b : Bool) : b = true ∨ b = false := by cases b <;> simp
theorem bl_isx {e want : Bool} (h : e = want) : ∀ (m : Mem) (v : Value), (bl.slot e).p m v → v = .bool want := fun _ _ hv => h ▸ bl_p.1 hv
theorem gd_yes {e want : Bool} (h : e = want) : (e == want) = true := by simp [h]
theorem gd_no {e want : Bool} (h : e = !want) : (e == want) = false := by subst h; cases want <;> rfl
theorem vget_eq {α : Type} {n : Nat} {v : Vector α n} {i : Int} {x : α} (h : vget v i = some x) (hi : i.toNat < n) : v[i.toNat] = x := (vget_some h).2.2
theorem vget_lt {α : Type} {n : Nat} {v : Vector α n} {i : Int} {x : α} (h : vget v i = some x) : i < (n : Int) := by obtain ⟨h0, h1, _⟩ := vget_some h; omega
theorem lget_eq {α : Type} {l : List α} {i : Int} {x : α} (h : lget l i = some x) (hi : i.toNat < l.length) : l[i.toNat] = x := (lget_some h).2.2
theorem lt_nat {i : Int} {n : Nat} (h : 0 ≤ i ∧ i < (n : Int)) : i.toNat < n := by omega
section
variable {α β : Type}
theorem Path.eqs {R : Rep α} {off : Nat} {S : Rep β} {get : α → β} {set set' : α → β → α} (h : Path R off S get set) (e : ∀ x y, set x y = set' x y) : Path R off S get set' :=
  ⟨h.fits, h.get_ok, fun hr hd => by rw [← e]; exact h.set_ok hr hd⟩
theorem Path.atI (n : Nat) (R : Rep α) (i : Nat) (hi : i < n) : Path (vec n R) (i * R.n) R (fun x => x[i]) (fun x y => x.setIfInBounds i y) :=
  (Path.at n R i hi).eqs fun x y => by
    apply Vector.ext; intro j hj; simp [Vector.getElem_set, Vector.getElem_setIfInBounds]
theorem EqOK.mono {P : Program} {T : TypeId} {R : Rep α} {n n' : Nat} (hn : n ≤ n') (h : EqOK P T R n) : EqOK P T R n' := fun k hk => h k (Nat.le_trans hn hk)
variable {c : Ctx} {full : Array Oper} {l : List Oper} {Γ Γ' : Env} {H H' : List Ent} {K : Act → World → Prop} {d : Tmp} {od : Option Tmp} {ty : TypeId} {pos : String} {aft : Array Edge} {g : Option (Nat × Bool)}
theorem has_ovnil : Has Γ (.const (.slice none 0 0)) (ov (.slice none 0 0)) := fun _ _ _ => ov_slice
/-- A guarded operation that is done. -/
theorem j_pure_y {o : Oper} {j t : Nat} {want : Bool} {s s' : Slot} (h : PJ c o Γ H s) (hg : o.guard = some (j, want)) (hj : (full[j]?).bind (·.dst) = some t) (hNt : Nat.blt t c.N = true) (hl : lk Γ t = some s')
    (hb : ∀ m v, s'.p m v → v = .bool want) (hd : o.dst = some d) (hN : Nat.blt d c.N = true) (k : OpsJ c full l ((d, s) :: Γ) H K) : OpsJ c full (o :: l) Γ H K :=
  j_guard_yes hg hj hNt hl hb (j_pure (o := { o with guard := none }) (d := d) (s := s) (fun m hs a w h1 h2 h3 h4 => h m hs a w h1 h2 h3 h4) rfl hd hN k)
theorem j_joinx {ι : Type} {Γ' : ι → Env} {H' : ι → List Ent} (n : Nat) (hJ : ∀ i, OpsJ c full (l.drop n) (Γ' i) (H' i) K) (h : (∀ i, OpsJ c full (l.drop n) (Γ' i) (H' i) K) → OpsJ c full l Γ H K) : OpsJ c full l Γ H K := h hJ
theorem j_to (h1 : SubE Γ Γ') (h2 : Keep H H') (k : OpsJ c full l Γ' H' K) : OpsJ c full l Γ H K := j_sub h1 (j_keepH h2 k)
/-- A slice of the call's own, empty. -/
theorem j_assign_nil {T : TypeId} (R : Rep α) (hN : Nat.blt d c.N = true) (k : ∀ v, OpsJ c full l ((d, ov v) :: Γ) (own T R v [] :: H) K) :
    OpsJ c full (⟨some d, .assign (.const (.slice none 0 0)), ty, pos, aft, none⟩ :: l) Γ H K :=
  j_own_nil T R none (j_pure (pj_assign has_ovnil) rfl rfl hN (k _))
theorem j_store_boxx {T T0 : TypeId} {x y : Operand} {b off : Nat} {R : Rep α} {S : Rep β} {r r' : α} {z : β} {get : α → β} {set : α → β → α} (hx : Has Γ x (val (.pointer (some ⟨b, off, none⟩))))
    (hy : Has Γ y (S.slot z)) (hk : Pick H (box b T0 R r) H') (hp : Path R off S get set) (hT : szB c.P T S.n = true) (e : set r z = r')
    (k : OpsJ c full l Γ (box b T0 R r' :: H') K) : OpsJ c full (⟨none, .store T x y, ty, pos, aft, none⟩ :: l) Γ H K := j_store_box hx hy hk hp hT (e ▸ k)
theorem pj_load_gx {T : TypeId} {n : Nat} {R : Rep α} {y : α} (h : ∀ m, c.G.p m → GAt n R y m) (hT : tyB c.P T R.ag R.n = true) : PJ c ⟨od, .load T (.global n), ty, pos, aft, g⟩ Γ H (R.slot y) := pj_load_global h hT
theorem pj_index_gx {T n N : Nat} {y : Operand} {R : Rep α} {v : Vector α N} {i : Int} {s : Slot} {z : α} (hG : ∀ m, c.G.p m → GAt n (vec N R) v m) (hy : Has Γ y s) (hs : IsInt s i) (h : vget v i = some z) (hT : arrB c.P T N R.n = true) :
    PJ c ⟨od, .indexAddr T (.global n) y, ty, pos, aft, g⟩ Γ H (ptrTo R z) := by
  obtain ⟨h0, h1, rfl⟩ := vget_some h
  refine pj_of fun m hs2 a w hg hGm _ ho => ?_
  obtain ⟨ds, hr, hat⟩ := hG m hGm
  obtain ⟨k, ek⟩ := hs m _ (hy m a (ho y (by simp [Op.operands])))
  have e : a.eval (.global n) = .pointer (some ⟨n, 0, none⟩) := rfl
  exact ⟨_, by simp only [execOp, e, ek, Sem.run_bind, run_indexAt_arr hT n 0 k h0 (show i < (N : Int) by omega)]; rfl, n, _, _, rfl, (Path.at N R i.toNat h1).get_ok hr, hat.mid _ _⟩
/-- A slice of a whole array, or of its end. -/
theorem pj_slice_arrc {T n sz b lo : Nat} {x : Operand} {lo' hi' : Option Operand} {p q : Option Int} (hx : Has Γ x (val (.pointer (some ⟨b, 0, none⟩)))) (hlo : OptI Γ lo' p) (hhi : OptI Γ hi' q) (len cap : Nat)
    (h : (decide (0 ≤ p.getD 0) && decide (p.getD 0 ≤ q.getD n) && decide (q.getD n ≤ n) && decide (p.getD 0 < n) && Nat.beq (p.getD 0).toNat lo && Nat.beq ((q.getD n).toNat - lo) len && Nat.beq (n - lo) cap) = true) (hT : arrB c.P T n sz = true) :
    PJ c ⟨od, .slice T x lo' hi' none, ty, pos, aft, g⟩ Γ H (val (.slice (some ⟨b, lo * sz, none⟩) len cap)) := by
  simp only [Bool.and_eq_true, decide_eq_true_eq] at h
  obtain ⟨⟨⟨⟨⟨⟨h0, h1⟩, h2⟩, h3⟩, h4⟩, h5⟩, h6⟩ := h
  have h4 := Nat.eq_of_beq_eq_true h4
  have h5 := Nat.eq_of_beq_eq_true h5
  have h6 := Nat.eq_of_beq_eq_true h6
  subst h4
  have := pj_slice_arr (c := c) (Γ := Γ) (H := H) (d := od) (ty := ty) (pos := pos) (aft := aft) (g := g) hx hlo hhi h0 h1 h2 h3 hT
  rw [Nat.zero_add, h5, h6] at this
  exact this
theorem PJ.eqs {o : Oper} {s s' : Slot} (h : PJ c o Γ H s) (e : s = s') : PJ c o Γ H s' := e ▸ h
end
/-! ## Code: ends -/
section
variable {c : Ctx} {Γ Γ' : Env} {H H' : List Ent} {Q : Exit → Act → World → Prop} {k k' : List Code} {id id' : Nat} {n : Act → World → Prop}
theorem run_to (h1 : SubE Γ Γ') (h2 : Keep H H') (r : Run c Q k Γ' H') : Run c Q k Γ H := run_sub h1 (run_keep h2 r)
theorem run_endblock (h : Run c Q k Γ H) : Run c (BQ id (wpAll c.ro c.P Q k) Q) [] Γ H := run_nil fun a w hst => h a w hst
theorem run_ret0 (h : ∀ Qf : Act → World → Prop, (∀ a w, Qf a w → Q .ret a w) → (∀ a w, Q .ret a w → Qf a w) → Run c Q k Γ H) : Run c Q k Γ H := h (Q .ret) (fun _ _ h => h) (fun _ _ h => h)
theorem run_joinx {ι : Type} {x : Code} {Γ' : ι → Env} {H' : ι → List Ent} (hJ : ∀ i, Run c Q k (Γ' i) (H' i)) (h : (∀ i, Run c Q k (Γ' i) (H' i)) → Run c Q (x :: k) Γ H) : Run c Q (x :: k) Γ H := h hJ
section
variable {σ ρ ι : Type} {Γi : ι → σ → Env} {Hi : ι → σ → List Ent} {R : ρ → Act → World → Prop}
theorem run_next {s : σ} (i : ι) (h1 : SubE Γ (Γi i s)) (h2 : Keep H (Hi i s)) : Run c (LQ id (fun s a w => ∃ i, St c (Γi i s) (Hi i s) a w) R (.next s)) [] Γ H :=
  run_nil fun a w hst => ⟨rfl, i, (hst.sub h1).keep h2⟩
theorem run_brk {s : σ} (i : ι) (h1 : SubE Γ (Γi i s)) (h2 : Keep H (Hi i s)) : Run c (LQ id (fun s a w => ∃ i, St c (Γi i s) (Hi i s) a w) R (.brk s)) (.exit id :: k) Γ H :=
  run_exit fun a w hst => ⟨rfl, i, (hst.sub h1).keep h2⟩
/-- A loop that is left by its exit alone. -/
theorem run_loopS {f : σ → Option (LR σ Empty)} {m : Nat} {body : Code} {s0 s1 : σ} (hl : loopS f m s0 = some s1)
    (i0 : ι) (h0 : ∀ a w, St c Γ H a w → St c (Γi i0 s0) (Hi i0 s0) a w)
    (step : ∀ i s r, f s = some r → Run c (LQ id (fun s a w => ∃ i, St c (Γi i s) (Hi i s) a w) (fun (_ : Empty) _ _ => True) r) [body] (Γi i s) (Hi i s))
    (h1 : ∀ i, Run c Q k (Γi i s1) (Hi i s1)) : Run c Q (.block id (.loop body) :: k) Γ H := by
  obtain ⟨o, ho, hs⟩ := loopS_some hl
  refine run_loop (Γi := Γi) (Hi := Hi) ho i0 h0 step ?_ (fun x => x.elim)
  rintro i s rfl
  cases hs
  exact h1 i
end
end
end Go.Sl
