import Derived.Test.YtodeiommhponnaaDoorOp4
set_option linter.unusedSimpArgs false
set_option linter.unusedVariables false
set_option linter.unusedSectionVars false
namespace Go.Sl
section
variable {c : Ctx} {full : Array Oper} {l : List Oper} {Γ Γ' : Env} {H H' : List Ent} {K : Act → World → Prop} {d : Tmp} {od : Option Tmp} {ty : TypeId} {pos : String} {aft : Array Edge} {g : Option (Nat × Bool)} {α β : Type}
/-! ## Calls -/
def HasL (Γ : Env) : List Operand → List Slot → Prop
  | [], ss => ss = []
  | x :: xs, ss => ∃ s ss', ss = s :: ss' ∧ Has Γ x s ∧ HasL Γ xs ss'
theorem hasL_nil : HasL Γ [] [] := rfl
theorem hasL_cons {x : Operand} {xs : List Operand} {s : Slot} {ss : List Slot} (h : Has Γ x s) (k : HasL Γ xs ss) : HasL Γ (x :: xs) (s :: ss) := ⟨s, ss, rfl, h, k⟩
theorem HasL.all {m : Mem} {a : Act} : ∀ {xs : List Operand} {ss : List Slot}, HasL Γ xs ss → (∀ x ∈ xs, Opd Γ m a x) → All2 m ss (xs.map a.eval)
  | [], _, h, _ => by cases h; rfl
  | x :: xs, _, ⟨s, ss', e, h, k⟩, ho => by subst e; exact ⟨_, _, rfl, h m a (ho x (by simp)), HasL.all k (fun y hy => ho y (by simp [hy]))⟩
def callB (P : Program) (f : FuncId) : Bool :=
  match P.funcs[f]? with
  | some fn => fn.name != "runtime.NumGoroutine" && fn.body.isSome
  | none => false
theorem run_callFunc {P : Program} {f : FuncId} (h : callB P f = true) (args : Array Value) (w : World) : (callFunc f args).run P w = .ok (.enter f args) w := by
  unfold callB at h
  split at h
  · rename_i fn hf
    simp only [Bool.and_eq_true] at h
    obtain ⟨h1, h2⟩ := h
    have e1 : (fn.name == "runtime.NumGoroutine") = false := by simpa [bne] using h1
    have e2 : fn.body.isNone = false := by cases hb : fn.body <;> simp [hb] at h2 ⊢
    simp only [callFunc, Sem.run_bind, run_program, Result.andThen_ok, hf, e1, Bool.false_eq_true, if_false, e2, Sem.run_pure]
  · cases h
theorem run_call {P : Program} {f : FuncId} (h : callB P f = true) (ρ : Operand → Value) (x : Operand) (hx : ρ x = .func (.func f) #[] #[]) (args : List Operand) (ats : Array TypeId) (w : World) (od : Option Tmp) (g : Option (Nat × Bool)) :
    (execOp ρ ⟨od, .call { callee := .value x, args := args.toArray, argTypes := ats }, ty, pos, aft, g⟩).run P w = .ok (.enter f (args.map ρ).toArray) w := by
  simp only [execOp, resolve, Sem.run_bind, hx, Deferred.ofValue, Sem.run_pure, Result.andThen_ok, invoke]
  rw [run_callFunc h]
  simp
theorem PJ_call {x : Operand} {f : FuncId} {args : List Operand} {ats : Array TypeId} {A : List Slot} {ι : Type} {s : Slot} {ε : ι → List Ent} (hx : Has Γ x (val (.func (.func f) #[] #[]))) (hA : HasL Γ args A) (hf : callB c.P f = true)
    (hC : Ctr c.P c.G f A [] (fun _ : ι => s) (fun _ => [])) : PJ c ⟨od, .call { callee := .value x, args := args.toArray, argTypes := ats }, ty, pos, aft, g⟩ Γ H s := by
  intro m hs a w hg hG hsat ho
  have hxe : a.eval x = _ := hx m a (ho x (by simp [Op.operands, Call.operands]))
  rw [run_call hf a.eval x hxe]
  have hall := hA.all (m := m) (a := a) (fun y hy => ho y (by simp [Op.operands, Call.operands, hy]))
  have hg0 : Good m [] w := ⟨hg.mem, List.nodup_nil, (fun _ h => by cases h), (fun _ h => by cases h)⟩
  refine (hC m w (args.map a.eval) [] hg0 hG hall rfl).mono ?_
  rintro e w' ⟨v, m', hs', i, rfl, hg', hv, hsat', hf'⟩
  cases hsat'
  refine ⟨v, rfl, m', ?_, hv, hf'⟩
  refine ⟨hg'.mem, hg.nodup, fun x hx => ?_, fun x hx o => ?_⟩
  · have hlt := hg.ltb (List.mem_map_of_mem (f := (·.1)) hx)
    rw [(hf'.old x.1 hlt (by simp [Hp.bs])).1]
    exact hg.blk x hx
  · have hlt := hg.ltb (List.mem_map_of_mem (f := (·.1)) hx)
    rw [(hf'.old x.1 hlt (by simp [Hp.bs])).2 o]
    exact hg.free x hx o
theorem pj_call {f : FuncId} {args : List Operand} {ats : Array TypeId} {A : List Slot} {s : Slot} (hA : HasL Γ args A) (hf : callB c.P f = true)
    (hC : Ctr c.P c.G f A [] (fun _ : Unit => s) (fun _ => [])) : PJ c ⟨od, .call { callee := .value (.func f), args := args.toArray, argTypes := ats }, ty, pos, aft, g⟩ Γ H s :=
  PJ_call (ε := fun _ : Unit => []) has_func hA hf hC
/-! ### Lending -/
def ext (m : Mem) (hs : Hp) : Mem := fun b o => match hs.find? (fun h => h.1 == b) with | some h => h.2.2[o]? | none => m b o
theorem ext_mem {m : Mem} {hs : Hp} {b : Nat} {T : TypeId} {cs : List Value} (hn : hs.bs.Nodup) (h : (b, T, cs) ∈ hs) (o : Nat) : ext m hs b o = cs[o]? := by
  have : hs.find? (fun h => h.1 == b) = some (b, T, cs) := by
    induction hs with
    | nil => cases h
    | cons x xs ih =>
      simp only [Hp.bs, List.map_cons, List.nodup_cons] at hn
      rcases List.mem_cons.1 h with rfl | h'
      · simp
      · have hne : x.1 ≠ b := fun e => hn.1 (by rw [e]; exact List.mem_map_of_mem (f := (·.1)) h')
        rw [List.find?_cons_of_neg (by simpa using hne)]
        exact ih hn.2 h'
  simp [ext, this]
theorem ext_not {m : Mem} {hs : Hp} {b : Nat} (h : b ∉ hs.bs) (o : Nat) : ext m hs b o = m b o := by
  have : hs.find? (fun h => h.1 == b) = none := by
    rw [List.find?_eq_none]
    intro x hx e
    exact h (by have : x.1 = b := by simpa using e
                rw [← this]; exact List.mem_map_of_mem (f := (·.1)) hx)
  simp [ext, this]
theorem ext_le {m : Mem} {hs : Hp} {w : World} (hg : Good m hs w) : Mle m (ext m hs) := by
  intro b o v e
  by_cases hb : b ∈ hs.bs
  · obtain ⟨x, hx, rfl⟩ := List.mem_map.1 hb
    rw [hg.free x hx o] at e; cases e
  · rw [ext_not hb]; exact e
theorem Good.ext {m : Mem} {hs : Hp} {w : World} (hg : Good m hs w) : Good (ext m hs) [] w where
  mem := fun b o v e => by
    by_cases hb : b ∈ hs.bs
    · obtain ⟨x, hx, rfl⟩ := List.mem_map.1 hb
      rw [ext_mem (T := x.2.1) (cs := x.2.2) hg.nodup hx] at e
      exact hg.cells (T := x.2.1) (cs := x.2.2) hx o v e
    · rw [ext_not hb] at e; exact hg.mem b o v e
  nodup := List.nodup_nil
  blk := fun _ h => by cases h
  free := fun _ h => by cases h
/-- An argument that is lent: it reads as 's' while the call's own memory is seen as memory that stays. -/
def HasB (c : Ctx) (Γ : Env) (H : List Ent) (x : Operand) (s : Slot) : Prop :=
  ∀ m hs a w, Good m hs w → Sat H m hs → Opd Γ m a x → s.p (ext m hs) (a.eval x)
theorem hasB_of {x : Operand} {s : Slot} (h : Has Γ x s) : HasB c Γ H x s := fun m hs a w hg _ ho => s.mono (ext_le hg) (h m a ho)
theorem hasB_arr {x : Operand} {T b lo n cap N : Nat} {R : Rep α} {v : Vector α N} (hx : Has Γ x (val (.slice (some ⟨b, lo * R.n, none⟩) n cap))) (hk : Pick H (box b T (vec N R) v) H') (hn : lo + n ≤ N) (hc : n ≤ cap) :
    HasB c Γ H x ((sl R).slot ((v.toList.drop lo).take n)) := by
  intro m hs a w hg hsat ho
  have e : a.eval x = _ := hx m a ho
  rw [e]
  obtain ⟨cs, hmem, hr⟩ := Sat.box (w := w) hsat hk
  have hlen : ((v.toList.drop lo).take n).length = n := by simp; omega
  refine ⟨_, cap, by rw [hlen], by rw [hlen]; exact hc, .inr ⟨b, lo * R.n, (cs.drop (lo * R.n)).take (n * R.n), rfl, ((RowC.drop lo hr).take n).mono (ext_le hg), fun j u ev => ?_⟩⟩
  rw [ext_mem (T := T) (cs := cs) hg.nodup hmem]
  rw [List.getElem?_take] at ev
  split at ev
  · rwa [List.getElem?_drop] at ev
  · cases ev
def HasBL (c : Ctx) (Γ : Env) (H : List Ent) : List Operand → List Slot → Prop
  | [], ss => ss = []
  | x :: xs, ss => ∃ s ss', ss = s :: ss' ∧ HasB c Γ H x s ∧ HasBL c Γ H xs ss'
theorem hasBL_nil : HasBL c Γ H [] [] := rfl
theorem hasBL_cons {x : Operand} {xs : List Operand} {s : Slot} {ss : List Slot} (h : HasB c Γ H x s) (k : HasBL c Γ H xs ss) : HasBL c Γ H (x :: xs) (s :: ss) := ⟨s, ss, rfl, h, k⟩
theorem HasBL.all {m : Mem} {a : Act} {hs : Hp} {w : World} (hg : Good m hs w) (hsat : Sat H m hs) : ∀ {xs : List Operand} {ss : List Slot}, HasBL c Γ H xs ss → (∀ x ∈ xs, Opd Γ m a x) → All2 (ext m hs) ss (xs.map a.eval)
  | [], _, h, _ => by cases h; rfl
  | x :: xs, _, ⟨s, ss', e, h, k⟩, ho => by subst e; exact ⟨_, _, rfl, h m hs a w hg hsat (ho x (by simp)), HasBL.all hg hsat k (fun y hy => ho y (by simp [hy]))⟩
/-- Behind a lent call: the memory without the blocks that were lent. -/
def cut (m' m : Mem) (bs : List Nat) : Mem := fun b o => if b ∈ bs then m b o else m' b o
theorem lent {m m' : Mem} {hs hs' : Hp} {w w' : World} (hg : Good m hs w) (hg' : Good m' hs' w') (hf : Frm w w' (ext m hs) m' [] hs'.bs) :
    Good (cut m' m hs.bs) (hs' ++ hs) w' ∧ Frm w w' m (cut m' m hs.bs) hs.bs (hs' ++ hs).bs := by
  have hold : ∀ x ∈ hs, w'.heap[x.1]? = w.heap[x.1]? := fun x hx => (hf.old x.1 (hg.ltb (List.mem_map_of_mem (f := (·.1)) hx)) (by simp)).1
  have hdis : ∀ b ∈ hs'.bs, b ∉ hs.bs := fun b hb h2 => by
    have h1 := (hf.own b hb).resolve_left (by simp)
    exact absurd (hg.ltb h2) (Nat.not_lt.2 h1)
  refine ⟨⟨fun b o v e => ?_, ?_, fun x hx => ?_, fun x hx o => ?_⟩, ?_⟩
  · unfold cut at e
    split at e
    · rename_i hb
      obtain ⟨x, hx, rfl⟩ := List.mem_map.1 hb
      rw [hg.free x hx o] at e; cases e
    · exact hg'.mem b o v e
  · rw [Hp.bs_append]
    exact List.nodup_append.2 ⟨hg'.nodup, hg.nodup, fun x hx y hy e => hdis x hx (e ▸ hy)⟩
  · rcases List.mem_append.1 hx with hx | hx
    · exact hg'.blk x hx
    · rw [hold x hx]; exact hg.blk x hx
  · rcases List.mem_append.1 hx with hx | hx
    · have : x.1 ∉ hs.bs := hdis x.1 (List.mem_map_of_mem (f := (·.1)) hx)
      simp only [cut, if_neg this]
      exact hg'.free x hx o
    · have : x.1 ∈ hs.bs := List.mem_map_of_mem (f := (·.1)) hx
      simp only [cut, if_pos this]
      exact hg.free x hx o
  · refine ⟨hf.os, hf.tape, hf.output, hf.size, fun b hb hn => ⟨(hf.old b hb (by simp)).1, fun o => ?_⟩, fun b hb => ?_, fun b o v e => ?_⟩
    · simp only [cut, if_neg hn]
      rw [(hf.old b hb (by simp)).2 o, ext_not hn]
    · rw [Hp.bs_append, List.mem_append] at hb
      rcases hb with hb | hb
      · exact .inr ((hf.own b hb).resolve_left (by simp))
      · exact .inl hb
    · unfold cut
      split
      · exact e
      · exact hf.le b o v (ext_le hg b o v e)
theorem pj_callB {f : FuncId} {args : List Operand} {ats : Array TypeId} {A : List Slot} {s : Slot} (hA : HasBL c Γ H args A) (hf : callB c.P f = true)
    (hC : Ctr c.P c.G f A [] (fun _ : Unit => s) (fun _ => [])) (hs : s.flat) : PJ c ⟨od, .call { callee := .value (.func f), args := args.toArray, argTypes := ats }, ty, pos, aft, g⟩ Γ H s := by
  intro m hs2 a w hg hG hsat ho
  rw [run_call hf a.eval (.func f) rfl]
  have hall := hA.all (m := m) (a := a) hg hsat (fun y hy => ho y (by simp [Op.operands, Call.operands, hy]))
  refine (hC (ext m hs2) w (args.map a.eval) [] hg.ext (c.G.mono (ext_le hg) hG) hall rfl).mono ?_
  rintro e w' ⟨v, m', hs', i, rfl, hg', hv, hsat', hf'⟩
  cases hsat'
  obtain ⟨h1, h2⟩ := lent hg hg' hf'
  refine ⟨v, rfl, cut m' m hs2.bs, by simpa using h1, hs _ _ _ hv, ?_⟩
  refine { h2 with old := fun b hb _ => ?_, own := fun b hb => by cases hb }
  by_cases hbb : b ∈ hs2.bs
  · refine ⟨(hf'.old b hb (by simp [Hp.bs])).1, fun o => ?_⟩
    simp only [cut, if_pos hbb]
  · exact h2.old b hb hbb
def Ent.flat (e : Ent) : Prop := ∀ m m' h, e.p m h → e.p m' h
theorem Sat.flat {m m' : Mem} : ∀ {H : List Ent} {hs : Hp}, (∀ e ∈ H, e.flat) → Sat H m hs → Sat H m' hs
  | [], _, _, h => h
  | e :: _, _, k, ⟨h1, h2, he, p, q⟩ => ⟨h1, h2, he, k e (by simp) _ _ _ p, Sat.flat (fun e h => k e (by simp [h])) q⟩
/-- Which entities go, and which stay. -/
inductive Parts : List Ent → List Ent → List Ent → Prop
  | nil {H : List Ent} : Parts H [] H
  | cons {H H1 H2 E : List Ent} {e : Ent} : Pick H e H1 → Parts H1 E H2 → Parts H (e :: E) H2
theorem Sat.parts {H E H' : List Ent} (k : Parts H E H') : ∀ {m : Mem} {hs : Hp}, Sat H m hs → ∃ h1 h2, hs.Perm (h1 ++ h2) ∧ Sat E m h1 ∧ Sat H' m h2 := by
  induction k with
  | nil => intro m hs h; exact ⟨[], hs, List.Perm.refl _, rfl, h⟩
  | cons k _ ih =>
    intro m hs h
    obtain ⟨h1, h2, hp, p, q⟩ := h.pick k
    obtain ⟨g1, g2, hp2, p2, q2⟩ := ih q
    exact ⟨h1 ++ g1, g2, hp.trans (by rw [List.append_assoc]; exact List.Perm.append_left h1 hp2), ⟨h1, g1, rfl, p, p2⟩, q2⟩
/-- A call that is handed what it may write. -/
theorem j_call {f : FuncId} {args : List Operand} {ats : Array TypeId} {A : List Slot} {E : List Ent} {ι : Type} {ρ : ι → Slot} {ε : ι → List Ent} (hA : HasL Γ args A) (hf : callB c.P f = true)
    (hC : Ctr c.P c.G f A E ρ ε) (hE : Parts H E H') (hN : Nat.blt d c.N = true)
    (k : ∀ i, OpsJ c full l ((d, ρ i) :: Γ) (ε i ++ H') K) : OpsJ c full (⟨some d, .call { callee := .value (.func f), args := args.toArray, argTypes := ats }, ty, pos, aft, none⟩ :: l) Γ H K := by
  refine j_step_ex (Γ2 := fun i => (d, ρ i) :: Γ) (H2 := fun i => ε i ++ H') rfl ?_ k
  intro m hs2 a w hg hG hsat hen hn
  rw [run_call hf a.eval (.func f) rfl]
  have hall := hA.all (m := m) (a := a) (fun y _ => hen.opd y)
  obtain ⟨h1, h2, hp, hs1, hs3⟩ := hsat.parts hE
  have hgp := hg.perm hp
  have hg1 : Good m h1 w := Good.sub (hs := h2) (hgp.perm List.perm_append_comm)
  refine (hC m w (args.map a.eval) h1 hg1 hG hall hs1).mono ?_
  rintro e w' ⟨v, m', hs', i, rfl, hg', hv, hsat', hf'⟩
  have hnd := hgp.nodup
  rw [Hp.bs_append] at hnd
  have hdj := (List.nodup_append.1 hnd).2.2
  have hn2 : ∀ x ∈ h2, x.1 ∉ Hp.bs h1 := fun x hx h => hdj x.1 h x.1 (List.mem_map_of_mem (f := (·.1)) hx) rfl
  have hl2 : ∀ x ∈ h2, x.1 < w.heap.size := fun x hx => hgp.ltb (by rw [Hp.bs_append]; exact List.mem_append.2 (.inr (List.mem_map_of_mem (f := (·.1)) hx)))
  have hg3 : Good m' (hs' ++ h2) w' := by
    refine ⟨hg'.mem, ?_, fun x hx => ?_, fun x hx o => ?_⟩
    · rw [Hp.bs_append]
      refine List.nodup_append.2 ⟨hg'.nodup, (List.nodup_append.1 hnd).2.1, fun b hb b' hb' e => ?_⟩
      subst e
      obtain ⟨x, hx, rfl⟩ := List.mem_map.1 hb'
      rcases hf'.own x.1 hb with h | h
      · exact hn2 x hx h
      · exact absurd (hl2 x hx) (Nat.not_lt.2 h)
    · rcases List.mem_append.1 hx with hx | hx
      · exact hg'.blk x hx
      · rw [(hf'.old x.1 (hl2 x hx) (hn2 x hx)).1]; exact hgp.blk x (List.mem_append.2 (.inr hx))
    · rcases List.mem_append.1 hx with hx | hx
      · exact hg'.free x hx o
      · rw [(hf'.old x.1 (hl2 x hx) (hn2 x hx)).2 o]; exact hgp.free x (List.mem_append.2 (.inr hx)) o
  refine ⟨v, rfl, i, m', hs' ++ h2, hg3, (hen.mono hf'.le).put (by rw [hn]; simpa [Nat.blt_eq] using hN) hv, hsat'.append (hs3.mono hf'.le), ?_⟩
  refine Frm.ofPerm hp ?_
  rw [Hp.bs_append, Hp.bs_append]
  exact hf'.wide (Hp.bs h2)
/-! ### Contracts, said otherwise -/
/-- An outcome that is the caller's own, made one that stays. -/
theorem Ctr.froze {P : Program} {G : GP} {f : FuncId} {A : List Slot} {E : List Ent} {T : TypeId} {R : Rep α} {xs : List α} (h : Ctr P G f A E (fun v : Value => ov v) (fun v => [own T R v xs])) :
    Ctr P G f A E (fun _ : Unit => (sl R).slot xs) (fun _ => []) := by
  intro m w vs hs hg hG hA hsat
  refine (h m w vs hs hg hG hA hsat).mono ?_
  rintro e w' ⟨v, m', hs', i, rfl, hg', hv, ⟨h1, h2, rfl, ho, h2e⟩, hf'⟩
  cases h2e
  obtain ⟨m2, hle, hg2, hv2, hf2, _⟩ := own.froze ho hg' hf'
  have : v = i := (ov_p.1 hv).1
  subst this
  exact ⟨v, m2, [], (), rfl, hg2, hv2, rfl, hf2⟩
/-- The same beside another outcome. -/
theorem Ctr.froze2 {P : Program} {G : GP} {f : FuncId} {A : List Slot} {E : List Ent} {T : TypeId} {R : Rep α} {xs : List α} {s : Slot} (h : Ctr P G f A E (fun v : Value => tup [ov v, s]) (fun v => [own T R v xs])) :
    Ctr P G f A E (fun _ : Unit => tup [(sl R).slot xs, s]) (fun _ => []) := by
  intro m w vs hs hg hG hA hsat
  refine (h m w vs hs hg hG hA hsat).mono ?_
  rintro e w' ⟨v, m', hs', i, rfl, hg', ⟨us, rfl, v1, us2, rfl, hv1, v2, us3, rfl, hv2, rfl⟩, ⟨h1, h2, rfl, ho, h2e⟩, hf'⟩
  cases h2e
  obtain ⟨m2, hle, hg2, hv2', hf2, _⟩ := own.froze ho hg' hf'
  have : v1 = i := (ov_p.1 hv1).1
  subst this
  exact ⟨_, m2, [], (), rfl, hg2, ⟨_, rfl, _, _, rfl, hv2', _, _, rfl, s.mono hle hv2, rfl⟩, rfl, hf2⟩
end
end Go.Sl
