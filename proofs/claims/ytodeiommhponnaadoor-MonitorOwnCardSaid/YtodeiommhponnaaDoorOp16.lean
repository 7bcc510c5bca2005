import Derived.Test.YtodeiommhponnaaDoorOp15
set_option linter.unusedSimpArgs false
set_option linter.unusedVariables false
set_option linter.unusedSectionVars false
namespace Go.Sl
/-! ## Slices whose cells an entity owns; what they hold lies in memory that stays -/
def AtE (e : Ent) (b o : Nat) (row : List Value) : Prop := ∀ m h, e.p m h → Held m h → At m b o row
theorem AtE.mid {e : Ent} {b o : Nat} {row : List Value} (h : AtE e b o row) (k n : Nat) : AtE e b (o + k) ((row.drop k).take n) := fun m hs he hh => (h m hs he hh).mid k n
theorem AtE.cells {e : Ent} {H H' : List Ent} {m : Mem} {hs : Hp} {w : World} {b o : Nat} {row : List Value} (h : AtE e b o row) (hg : Good m hs w) (hsat : Sat H m hs) (hk : Pick H e H') (j : Nat) (v : Value) (ev : row[j]? = some v) : w.cell? ⟨b, o + j, none⟩ = some v := by
  obtain ⟨h1, h2, hp, he, hsat2⟩ := hsat.pick hk
  obtain ⟨hgM, hle, hh⟩ := extP (hg.perm hp)
  exact hgM.mem _ _ _ (h _ _ (e.mono hle he) hh j v ev)
section
variable {α β γ : Type}
def slH (e : Ent) (R : Rep α) : Rep (List α) where
  n := 1
  ag := false
  rel := fun m cs l => ∃ a cap, cs = [.slice a l.length cap] ∧ l.length ≤ cap ∧ (l = [] ∨ ∃ b o row, a = some ⟨b, o, none⟩ ∧ RowC R m row l ∧ AtE e b o row)
  mono := fun hm ⟨a, cap, e, hc, h⟩ => ⟨a, cap, e, hc, h.imp id fun ⟨b, o, row, e', p, q⟩ => ⟨b, o, row, e', p.mono hm, q⟩⟩
  len := fun ⟨a, cap, e, _, _⟩ => by rw [e]; rfl
  cell := fun ⟨a, cap, e, _, _⟩ v hv => by rw [e] at hv; simp at hv; subst hv; rfl
  one := fun _ => rfl
theorem zero_slH {e : Ent} {R : Rep α} : ZeroR (slH e R) [] [.slice none 0 0] := fun _ => ⟨none, 0, rfl, Nat.le_refl _, .inl rfl⟩
def ptrE (e : Ent) (R : Rep α) (x : α) : Slot where
  p := fun m v => ∃ b o ds, v = .pointer (some ⟨b, o, none⟩) ∧ R.rel m ds x ∧ AtE e b o ds
  mono := fun hm ⟨b, o, ds, e, p, q⟩ => ⟨b, o, ds, e, R.mono hm p, q⟩
/-- What holds an own slice's cells as long as it stays. -/
def LE (e : Ent) (R R' : Rep α) : Prop := R'.ag = R.ag ∧ ∀ m cs x m' h, Mle m m' → e.p m' h → Held m' h → R.rel m cs x → R'.rel m' cs x
theorem LE.refl {e : Ent} (R : Rep α) : LE e R R := ⟨rfl, fun _ _ _ _ _ hm _ _ h => R.mono hm h⟩
theorem LE.sl {e : Ent} (R : Rep α) : LE e (slH e R) (sl R) := ⟨rfl, fun m cs x m' h hm he hh ⟨a, cap, e1, hc, k⟩ => ⟨a, cap, e1, hc, k.imp id fun ⟨b, o, row, e', p, q⟩ => ⟨b, o, row, e', p.mono hm, q _ _ he hh⟩⟩⟩
theorem LE.prod {e : Ent} {R R' : Rep α} {S S' : Rep β} (h : LE e R R') (k : LE e S S') : LE e (prod R S) (prod R' S') := ⟨rfl, fun m cs x m' hs hm he hh ⟨c1, c2, e1, p, q⟩ => ⟨c1, c2, e1, h.2 _ _ _ _ _ hm he hh p, k.2 _ _ _ _ _ hm he hh q⟩⟩
theorem LE.lnt {e : Ent} {R R' : Rep α} (h : LE e R R') {x : α} {m : Mem} {v : Value} (hv : (R.slot x).p m v) : (Go.Sl.lnt [e] (R'.slot x)).p m v := by
  intro m' hs hle hsat hh
  obtain ⟨g1, g2, rfl, hg1, rfl⟩ := hsat
  rw [List.append_nil] at hh
  simp only [Rep.slot, Rep.is, h.1] at hv ⊢
  split at hv
  · rename_i ha
    obtain ⟨cs, e1, hr⟩ := hv
    exact ⟨cs, e1, h.2 _ _ _ _ _ hle hg1 hh hr⟩
  · exact h.2 _ _ _ _ _ hle hg1 hh hv
variable {c : Ctx} {full : Array Oper} {l : List Oper} {Γ Γ' : Env} {H H' : List Ent} {K : Act → World → Prop} {d : Tmp} {od : Option Tmp} {ty : TypeId} {pos : String} {aft : Array Edge} {g : Option (Nat × Bool)} {e : Ent}
theorem pj_len_slE {T : TypeId} {x : Operand} {R : Rep α} {l : List α} {sz : Nat} (hx : Has Γ x ((slH e R).slot l)) (hT : slB c.P T sz = true) :
    PJ c ⟨od, .call { callee := .builtin .len, args := #[x], argTypes := #[T] }, ty, pos, aft, g⟩ Γ H (i64.slot (l.length : Int)) :=
  pj_len_of hx (fun m hs v _ ⟨a, cap, e, _⟩ => by simp only [List.cons.injEq, and_true] at e; exact ⟨a, cap, e⟩) hT
theorem pj_index_slE {T : TypeId} {x y : Operand} {R : Rep α} {xs : List α} {i : Int} {s : Slot} {z : α} (hx : Has Γ x ((slH e R).slot xs)) (hy : Has Γ y s) (hs : IsInt s i) (h : lget xs i = some z) (hT : slB c.P T R.n = true) :
    PJ c ⟨od, .indexAddr T x y, ty, pos, aft, g⟩ Γ H (ptrE e R z) := by
  obtain ⟨h0, h1, rfl⟩ := lget_some h
  exact pj_of fun m hs2 a w hg _ _ ho => by
    obtain ⟨a0, cap, e, hc, hrow⟩ := hx m a (ho x (by simp [Op.operands]))
    obtain ⟨k, ek⟩ := hs m _ (hy m a (ho y (by simp [Op.operands])))
    simp only [List.cons.injEq, and_true] at e
    rcases hrow with rfl | ⟨b, o, row, rfl, hr, hat⟩
    · simp at h1
    · refine ⟨_, by simp only [execOp, e, ek, Sem.run_bind, run_indexAt_sl hT b o xs.length cap k h0 (by omega)]; rfl, b, _, _, rfl, RowC.get hr h1, hat.mid _ _⟩
theorem pj_field_E {S f off : Nat} {x : Operand} {R : Rep α} {Q : Rep β} {y : α} {get : α → β} {set : α → β → α} (hx : Has Γ x (ptrE e R y)) (hp : Path R off Q get set) (hf : fldB c.P S f off = true) :
    PJ c ⟨od, .fieldAddr S x f, ty, pos, aft, g⟩ Γ H (ptrE e Q (get y)) :=
  pj_of fun m hs a w hg _ _ ho => by
    obtain ⟨b, o, ds, e, hr, hat⟩ := hx m a (ho x (by simp [Op.operands]))
    exact ⟨_, by simp only [execOp, e, Sem.run_bind, fldB_run hf]; rfl, b, o + off, _, rfl, hp.get_ok hr, hat.mid _ _⟩
theorem pj_load_E {T : TypeId} {x : Operand} {R : Rep α} {y : α} (hx : Has Γ x (ptrE e R y)) (hk : Pick H e H') (hT : tyB c.P T R.ag R.n = true) : PJ c ⟨od, .load T x, ty, pos, aft, g⟩ Γ H (R.slot y) :=
  pj_of fun m hs a w hg _ hsat ho => by
    obtain ⟨b, o, ds, e, hr, hat⟩ := hx m a (ho x (by simp [Op.operands]))
    refine ⟨ofCells R.ag ds, ?_, Rep.is_of hr⟩
    simp only [execOp, e, Sem.run_bind, run_loadVar_cells hT (R.len hr) R.one (fun j v e => hat.cells hg hsat hk j v e)]
    rfl
theorem pj_slice_slE {T : TypeId} {x : Operand} {lo hi : Option Operand} {R : Rep α} {xs r : List α} {p q : Option Int} (hx : Has Γ x ((slH e R).slot xs)) (hlo : OptI Γ lo p) (hhi : OptI Γ hi q)
    (h : lslice xs (p.getD 0) (q.getD xs.length) = some r) (hT : slB c.P T R.n = true) : PJ c ⟨od, .slice T x lo hi none, ty, pos, aft, g⟩ Γ H ((slH e R).slot r) := by
  obtain ⟨h0, h1, h2, rfl⟩ := lslice_some h
  exact pj_of fun m hs2 a w hg _ _ ho => by
    obtain ⟨a0, cap, e, hc, hrow⟩ := hx m a (ho x (by simp [Op.operands]))
    simp only [List.cons.injEq, and_true] at e
    have hlo' := hlo.val (m := m) (a := a) (fun y hy => ho y (by subst hy; simp [Op.operands]))
    have hhi' := hhi.val (m := m) (a := a) (fun y hy => ho y (by subst hy; simp [Op.operands]))
    have hr := run_slice_sl (P := c.P) hT (a := a0) (cap := cap) hlo' hhi' h0 h1 (by omega) w
    refine ⟨_, by simp only [execOp, e, Option.map_none, Sem.run_bind, hr]; rfl, ?_⟩
    have hlen : ((xs.take (q.getD xs.length).toNat).drop (p.getD 0).toNat).length = (q.getD xs.length).toNat - (p.getD 0).toNat := by
      rw [List.length_drop, List.length_take, Nat.min_eq_left (by omega)]
    refine ⟨_, _, by rw [hlen], by rw [hlen]; omega, ?_⟩
    by_cases hE : (xs.take (q.getD xs.length).toNat).drop (p.getD 0).toNat = []
    · exact .inl hE
    · refine .inr ?_
      have hpos : (p.getD 0).toNat < (q.getD xs.length).toNat := by
        rcases Nat.lt_or_ge (p.getD 0).toNat (q.getD xs.length).toNat with h | h
        · exact h
        · exact absurd (List.length_eq_zero_iff.1 (by rw [hlen]; omega)) hE
      rcases hrow with rfl | ⟨b, o, row, rfl, hrw, hat⟩
      · simp at hE
      · refine ⟨b, o + (p.getD 0).toNat * R.n, (row.take ((q.getD xs.length).toNat * R.n)).drop ((p.getD 0).toNat * R.n), ?_, (hrw.take _).drop _, ?_⟩
        · rw [if_neg (by omega)]; simp [Addr.add_lit]
        · rw [List.drop_take]; exact hat.mid _ _
theorem src_E {x : Operand} {R : Rep α} {xs : List α} (hx : Has Γ x ((slH e R).slot xs)) (hk : Pick H e H') : Src c Γ H x R xs := by
  intro m hs a w hg hsat he
  obtain ⟨a0, cap, e, hc, h⟩ := hx m a he
  simp only [List.cons.injEq, and_true] at e
  exact ⟨a0, cap, e, h.imp id fun ⟨b, o, row, e', p, q⟩ => ⟨b, o, row, e', p, fun j v ev => q.cells hg hsat hk j v ev⟩⟩
theorem pj_isnil_E {T yt E : TypeId} {x : Operand} {R : Rep α} {l : List α} (hT : c.P.underlying T = some (.slice E)) (hx : Has Γ x ((slH e R).slot l)) :
    PJ c ⟨od, .binOp .eql T x (.const (.slice none 0 0)) yt, ty, pos, aft, g⟩ Γ H (isnil l) :=
  pj_bin hx (has_val (v := .slice none 0 0)) fun m u v w hu hv => by
    cases hv
    obtain ⟨a, cap, e, hc, h⟩ := hu
    simp only [List.cons.injEq, and_true] at e; subst e
    refine ⟨.bool a.isNone, ?_, ?_⟩
    · have e1 : (eqGuard .eql T x (.const (.slice none 0 0)) (.slice a l.length cap) (.slice none 0 0)).run c.P w = .ok () w := by
        simp only [eqGuard]; rfl
      rw [Sem.run_bind, e1, Result.andThen_ok]
      exact run_sl_nil hT _ _ _ _
    · cases a with
      | none =>
        refine .inl ⟨rfl, h.elim id ?_⟩
        rintro ⟨b, o, row, e', _⟩; cases e'
      | some a => exact .inr rfl
theorem j_lendE {T : TypeId} {R : Rep α} {v : Value} {xs : List α} {t : Nat} (hk : Pick H (own T R v xs) H') (ht : lk Γ t = some (ov v))
    (k : ∀ h0, OpsJ c full l ((t, (slH (exE (own T R v xs) h0) R).slot xs) :: Γ) (exE (own T R v xs) h0 :: H') K) : OpsJ c full l Γ H K := by
  intro a w Q hQ hst
  obtain ⟨hd, hn, m, hs, hg, hG, he, hsat, hf⟩ := hst
  obtain ⟨h1, h2, hp, hown, hsat2⟩ := hsat.pick hk
  refine k h1 a w Q hQ ⟨hd, hn, m, h1 ++ h2, hg.perm hp, hG, ?_, ⟨h1, h2, rfl, ⟨hown, rfl⟩, hsat2⟩, hf.perm hp⟩
  intro u s e
  by_cases hu : t = u
  · subst hu
    rw [lk_cons_self] at e; cases e
    have e1 : a.tmps.getD t undef = v := (ov_p.1 (he t _ ht)).1
    rw [e1]
    rcases hown with ⟨rfl, rfl, ad, rfl⟩ | ⟨b, cap, row, spare, rfl, rfl, hr, hcap, hlen⟩
    · exact ⟨ad, 0, rfl, Nat.le_refl _, .inl rfl⟩
    · refine ⟨_, cap, rfl, hcap, .inr ⟨b, 0, row, rfl, hr, ?_⟩⟩
      rintro m' h' ⟨_, rfl⟩ hh j u hj
      have := hh (b, T, row ++ spare) (by simp) j u
      rw [Nat.zero_add] at this ⊢
      refine this ?_
      rw [List.getElem?_append_left (List.getElem?_eq_some_iff.1 hj).1]; exact hj
  · rw [lk_cons_ne hu] at e
    exact he u s e
/-- A call that reads what an entity holds, and leaves it. -/
theorem pj_callX {f : FuncId} {args : List Operand} {ats : Array TypeId} {A : List Slot} {s : Slot} {ι : Type} (hA : HasL Γ args A) (hk : Pick H e H') (hE : ExactE e) (hf : callB c.P f = true)
    (hC : Ctr c.P c.G f A [e] (fun _ : ι => s) (fun _ => [e])) : PJ c ⟨od, .call { callee := .value (.func f), args := args.toArray, argTypes := ats }, ty, pos, aft, g⟩ Γ H s := by
  intro m hs a w hg hG hsat ho
  rw [run_call hf a.eval (.func f) (has_func (Γ := Γ) m a trivial)]
  have hall := hA.all (m := m) (a := a) (fun y hy => ho y (by simp [Op.operands, Call.operands, hy]))
  obtain ⟨h1, h2, hp, he, hsat2⟩ := hsat.pick hk
  have hg1 := hg.perm hp
  have hn := hg1.nodup
  rw [Hp.bs_append, List.nodup_append] at hn
  have hg0 : Good m h1 w := ⟨hg.mem, hn.1, fun x hx => hg1.blk x (by simp [hx]), fun x hx => hg1.free x (by simp [hx])⟩
  refine (hC m w (args.map a.eval) h1 hg0 hG hall ⟨h1, [], by simp, he, rfl⟩).mono ?_
  rintro en w' ⟨v, m', hs', i, rfl, hg', hv, ⟨g1, g2, rfl, he', rfl⟩, hf'⟩
  rw [List.append_nil] at hg' hf'
  obtain ⟨h0, h0e⟩ := hE
  have e1 := h0e _ _ he
  have e2 := h0e _ _ he'
  subst e1; subst e2
  have hold : ∀ b', b' < w.heap.size → w'.heap[b']? = w.heap[b']? ∧ ∀ o, m' b' o = m b' o := by
    intro b' hlt
    by_cases hb : b' ∈ g1.bs
    · obtain ⟨x, hx, rfl⟩ := List.mem_map.1 hb
      exact ⟨by rw [hg'.blk x hx, hg0.blk x hx], fun o => by rw [hg'.free x hx, hg0.free x hx]⟩
    · exact hf'.old b' hlt hb
  refine ⟨v, rfl, m', ?_, hv, ⟨hf'.os, hf'.tape, hf'.output, hf'.size, fun b' hlt _ => hold b' hlt, (fun b hb => by cases hb), hf'.le⟩⟩
  refine ⟨hg'.mem, hg.nodup, fun x hx => ?_, fun x hx o => ?_⟩
  · have hlt := hg.ltb (List.mem_map_of_mem (f := (·.1)) hx)
    rw [(hold x.1 hlt).1]
    exact hg.blk x hx
  · have hlt := hg.ltb (List.mem_map_of_mem (f := (·.1)) hx)
    rw [(hold x.1 hlt).2 o]
    exact hg.free x hx o
end
theorem Ctr.frozeE {β : Type} {P : Program} {G : GP} {f : FuncId} {A : List Slot} {e : Ent} {T' : TypeId} {R' : Rep β} {xs : List β} (h : Ctr P G f A [e] (fun v : Value => ov v) (fun v => [e, own T' R' v xs])) :
    Ctr P G f A [e] (fun _ : Unit => (sl R').slot xs) (fun _ => [e]) := by
  intro m w vs hs hg hG hA hsat
  refine (h m w vs hs hg hG hA hsat).mono ?_
  rintro en w' ⟨v, m', hs', i, rfl, hg', hv, ⟨h1, h2, rfl, hb, h3, h4, rfl, ho, h4e⟩, hf'⟩
  cases h4e
  rw [List.append_nil] at hg' hf'
  have hp : (h1 ++ h3).Perm (h3 ++ h1) := List.perm_append_comm
  obtain ⟨m2, hle, hg2, hv2, hf2, _⟩ := own.froze ho (hg'.perm hp) (hf'.perm hp)
  have : v = i := (ov_p.1 hv).1
  subst this
  exact ⟨v, m2, h1, (), rfl, hg2, hv2, ⟨h1, [], by simp, Ent.mono _ hle hb, rfl⟩, hf2⟩
section
variable {α β : Type} {c : Ctx} {full : Array Oper} {l : List Oper} {Γ : Env} {H H' : List Ent} {K : Act → World → Prop} {d : Tmp} {ty : TypeId} {pos : String} {aft : Array Edge}
/-- A call that reads a variable; its outcome is the caller's own. -/
theorem j_callRo {f : FuncId} {args : List Operand} {ats : Array TypeId} {A : List Slot} {b : Nat} {T T' : TypeId} {R : Rep α} {R' : Rep β} {x : α} {xs : List β} (hA : HasL Γ args A) (hk : Pick H (box b T R x) H') (hf : callB c.P f = true)
    (hC : ∀ cs, Ctr c.P c.G f A [box b T (exr R cs) x] (fun v : Value => ov v) (fun v => [box b T (exr R cs) x, own T' R' v xs])) (hN : Nat.blt d c.N = true)
    (k : ∀ v, OpsJ c full l ((d, ov v) :: Γ) (box b T R x :: own T' R' v xs :: H') K) : OpsJ c full (⟨some d, .call { callee := .value (.func f), args := args.toArray, argTypes := ats }, ty, pos, aft, none⟩ :: l) Γ H K := by
  intro a w Q hQ hst
  obtain ⟨hd, hn, m, hs, hg, hG, he, ⟨h1, h2, rfl, ⟨cs, rfl, hr⟩, hsat2⟩, hf'⟩ := hst.pick hk
  refine j_call (H := box b T (exr R cs) x :: H') hA hf (hC cs) (.cons .here .nil) hN (fun v => ?_) a w Q hQ ⟨hd, hn, m, _, hg, hG, he, ⟨_, h2, rfl, ⟨cs, rfl, rfl, hr⟩, hsat2⟩, hf'⟩
  intro a w Q hQ hst
  obtain ⟨hd, hn, m, hs, hg, hG, he, hsat, hf'⟩ := hst
  exact k v a w Q hQ ⟨hd, hn, m, hs, hg, hG, he, (XW.ex .refl).sat hsat, hf'⟩
end
end Go.Sl
