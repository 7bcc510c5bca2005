import Derived.Test.YtodeiommhponnaaDoorDraw2
set_option linter.unusedSimpArgs false
set_option linter.unusedVariables false
set_option linter.unusedSectionVars false
namespace Go.Sl
/-! ## A region that draws its order and writes: each writer belongs to a line; the lines share nothing -/
/-- AN OPERATION THAT WRITES. -/
def WJ (c : Ctx) (o : Oper) (Γ : Env) (H : List Ent) {ι : Type} (V2 : ι → Env) (H2 : ι → List Ent) : Prop :=
  ∀ m hs a w, Good m hs w → c.G.p m → Sat H m hs → OpdOK o Γ m a → a.tmps.size = c.N →
    Upon c.P (fun v w' => ∃ i m' hs', Good m' hs' w' ∧ EnvOK (V2 i) m' (a.put o.dst v) ∧ Sat (H2 i) m' hs' ∧ Frm w w' m m' hs.bs hs'.bs) ((execOp a.eval o).run c.P w)
theorem WJ.frame {c : Ctx} {o : Oper} {Γ : Env} {H : List Ent} {ι : Type} {V2 : ι → Env} {H2 : ι → List Ent} (E : List Ent) (h : WJ c o Γ H V2 H2) : WJ c o Γ (H ++ E) V2 (fun i => H2 i ++ E) := by
  intro m hs a w hg hG hsat ho hn
  obtain ⟨h1, h2, rfl, hs1, hs2⟩ := Sat.split hsat
  have hg1 : Good m h1 w := Good.sub (hs := h2) (hg.perm List.perm_append_comm)
  refine Upon.mono (h m h1 a w hg1 hG hs1 ho hn) ?_
  rintro v w' ⟨i, m', h1', hg', he', hsat', hf⟩
  have hnd := hg.nodup
  rw [Hp.bs_append, List.nodup_append] at hnd
  have hdis : ∀ b ∈ Hp.bs h2, b ∉ Hp.bs h1 := fun b hb hb1 => hnd.2.2 b hb1 b hb rfl
  have hlt : ∀ b ∈ Hp.bs h2, b < w.heap.size := fun b hb => hg.ltb (by rw [Hp.bs_append]; exact List.mem_append.2 (.inr hb))
  refine ⟨i, m', h1' ++ h2, ⟨hg'.mem, ?_, ?_, ?_⟩, he', Sat.append hsat' (hs2.mono hf.le), ?_⟩
  · rw [Hp.bs_append, List.nodup_append]
    refine ⟨hg'.nodup, hnd.2.1, fun b hb b' hb' e => ?_⟩
    subst e
    rcases hf.own b hb with h | h
    · exact hdis b hb' h
    · have := hlt b hb'; omega
  · intro x hx
    rcases List.mem_append.1 hx with hx | hx
    · exact hg'.blk x hx
    · have hb : x.1 ∈ Hp.bs h2 := List.mem_map.2 ⟨x, hx, rfl⟩
      rw [(hf.old x.1 (hlt _ hb) (hdis _ hb)).1]
      exact hg.blk x (List.mem_append.2 (.inr hx))
  · intro x hx o'
    rcases List.mem_append.1 hx with hx | hx
    · exact hg'.free x hx o'
    · have hb : x.1 ∈ Hp.bs h2 := List.mem_map.2 ⟨x, hx, rfl⟩
      rw [(hf.old x.1 (hlt _ hb) (hdis _ hb)).2]
      exact hg.free x (List.mem_append.2 (.inr hx)) o'
  · rw [Hp.bs_append, Hp.bs_append]; exact hf.wide _
structure LSt where
  ν : Type
  E : ν → List Ent
  V : ν → Env
def LSt.of (E : List Ent) : LSt := ⟨Unit, fun _ => E, fun _ => []⟩
structure Line where
  ini : List Ent
  st : List (Nat × LSt)
def atL (X : Nat → Bool) (s : LSt) : List (Nat × LSt) → LSt
  | [] => s
  | (k, s') :: r => bif X k then atL X s' r else s
def Line.at (X : Nat → Bool) (L : Line) : LSt := atL X (.of L.ini) L.st
def LnSat (ok : LSt → List Ent → Prop) (X : Nat → Bool) : List Line → List (List Ent) → Prop
  | [], Es => Es = []
  | L :: Ls, Es => ∃ E Es', Es = E :: Es' ∧ ok (L.at X) E ∧ LnSat ok X Ls Es'
theorem LnSat.imp {ok ok' : LSt → List Ent → Prop} {X X' : Nat → Bool} : ∀ {Ls : List Line} {Es : List (List Ent)}, (∀ L ∈ Ls, ∀ E, ok (L.at X) E → ok' (L.at X') E) → LnSat ok X Ls Es → LnSat ok' X' Ls Es
  | [], _, _, h => h
  | L :: Ls, Es, h1, ⟨E, Es', e, h2, h⟩ => ⟨E, Es', e, h1 L (by simp) E h2, LnSat.imp (fun L' hL => h1 L' (by simp [hL])) h⟩
/-- One line picked out. -/
theorem LnSat.pick {ok : LSt → List Ent → Prop} {X : Nat → Bool} : ∀ {Ls : List Line} {Es : List (List Ent)} {p : Nat} {L : Line}, LnSat ok X Ls Es → Ls[p]? = some L →
    ∃ E R, Es.flatten.Perm (E ++ R) ∧ ok (L.at X) E ∧
      ∀ {ok' : LSt → List Ent → Prop} {X' : Nat → Bool} (E2 : List Ent), (∀ q L', q ≠ p → Ls[q]? = some L' → ∀ E, ok (L'.at X) E → ok' (L'.at X') E) → ok' (L.at X') E2 →
        ∃ Es', Es'.flatten.Perm (E2 ++ R) ∧ LnSat ok' X' Ls Es'
  | [], _, p, L, _, hp => by simp at hp
  | L0 :: Ls, Es, p, L, ⟨E, Es', e, h0, h⟩, hp => by
    subst e
    cases p with
    | zero =>
      simp only [List.getElem?_cons_zero, Option.some.injEq] at hp
      subst hp
      refine ⟨E, Es'.flatten, by rw [List.flatten_cons], h0, ?_⟩
      intro ok' X' E2 h1 h3
      refine ⟨E2 :: Es', by rw [List.flatten_cons], _, _, rfl, h3, ?_⟩
      refine h.imp (fun L' hL => ?_)
      obtain ⟨q, hq⟩ := List.getElem?_of_mem hL
      exact h1 (q + 1) L' (by omega) (by simpa using hq)
    | succ p =>
      obtain ⟨E1, R, hperm, he1, hk⟩ := LnSat.pick h (by simpa using hp)
      refine ⟨E1, E ++ R, ?_, he1, ?_⟩
      · rw [List.flatten_cons]
        refine (List.Perm.append_left E hperm).trans ?_
        rw [← List.append_assoc, ← List.append_assoc]
        exact List.Perm.append_right R List.perm_append_comm
      · intro ok' X' E2 h1 h3
        obtain ⟨Es2, hp2, hl2⟩ := hk E2 (fun q L' hq hL => h1 (q + 1) L' (by omega) (by simpa using hL)) h3
        refine ⟨E :: Es2, ?_, E, Es2, rfl, h1 0 L0 (by omega) (by simp) E h0, hl2⟩
        rw [List.flatten_cons]
        refine (List.Perm.append_left E hp2).trans ?_
        rw [← List.append_assoc, ← List.append_assoc]
        exact List.Perm.append_right R List.perm_append_comm
theorem Sat.perm {m : Mem} {H H' : List Ent} (p : H.Perm H') : ∀ {hs : Hp}, Sat H m hs → ∃ hs', hs.Perm hs' ∧ Sat H' m hs' := by
  induction p with
  | nil => intro hs h; exact ⟨hs, List.Perm.refl _, h⟩
  | cons x _ ih =>
    rintro hs ⟨h1, h2, rfl, p, q⟩
    obtain ⟨h2', hp, hq⟩ := ih q
    exact ⟨h1 ++ h2', List.Perm.append_left h1 hp, h1, h2', rfl, p, hq⟩
  | swap x y l =>
    rintro hs ⟨h1, _, rfl, p, h2, h3, rfl, q, r⟩
    refine ⟨h2 ++ (h1 ++ h3), ?_, h2, h1 ++ h3, rfl, q, h1, h3, rfl, p, r⟩
    rw [← List.append_assoc, ← List.append_assoc]
    exact List.Perm.append_right h3 List.perm_append_comm
  | trans _ _ ih1 ih2 =>
    intro hs h
    obtain ⟨h1, p1, q1⟩ := ih1 h
    obtain ⟨h2, p2, q2⟩ := ih2 q1
    exact ⟨h2, p1.trans p2, q2⟩
/-- What the state before the step k of a line is, and what is behind it. -/
inductive StepOf : LSt → List (Nat × LSt) → Nat → LSt → LSt → Prop
  | here {s s' : LSt} {k : Nat} {r : List (Nat × LSt)} : StepOf s ((k, s') :: r) k s s'
  | next {s s1 t t' : LSt} {k k1 : Nat} {r : List (Nat × LSt)} : StepOf s1 r k t t' → StepOf s ((k1, s1) :: r) k t t'
def chainB (full : List Oper) : List Nat → Bool
  | [] => true
  | [_] => true
  | k :: k' :: r => (match full[k']? with | some o => (edges o).any (Nat.beq k) | none => false) && Nat.blt k k' && chainB full (k' :: r)
def GuardOK (full : List Oper) (o : Oper) (Γ : Env) : Prop := o.guard = none ∨ GuardIs full o Γ true
inductive RL (c : Ctx) (full : List Oper) (H : List Ent) (Ls : List Line) : Nat → List Oper → Env → List Slot → Prop
  | nil {k : Nat} {Γ : Env} : RL c full H Ls k [] Γ []
  | read {k : Nat} {o : Oper} {os : List Oper} {Γ : Env} {s : Slot} {σ : List Slot} :
    (Ls.all fun L => L.st.all fun x => !Nat.beq x.1 k) = true → OK1 c full H o Γ s → RL c full H Ls (k + 1) os (push o.dst s Γ) σ → RL c full H Ls k (o :: os) Γ (s :: σ)
  | pre (p : Nat) {L : Line} {k k1 : Nat} {s1 : LSt} {r : List (Nat × LSt)} {o o1 : Oper} {os : List Oper} {Γ : Env} {s : Slot} {σ : List Slot} :
    (Ls.all fun L => L.st.all fun x => !Nat.beq x.1 k) = true → Ls[p]? = some L → L.st = (k1, s1) :: r → full[k1]? = some o1 → (edges o1).any (Nat.beq k) = true →
    OK1 c full (L.ini ++ H) o Γ s → RL c full H Ls (k + 1) os (push o.dst s Γ) σ → RL c full H Ls k (o :: os) Γ (s :: σ)
  | step (p : Nat) {L : Line} {k : Nat} {t t' : LSt} {o : Oper} {os : List Oper} {Γ : Env} {s : Slot} {σ : List Slot} :
    Ls[p]? = some L → StepOf (.of L.ini) L.st k t t' → GuardOK full o Γ →
    (∀ ν : t.ν, ∃ (ι : Type) (V2 : ι → Env) (up : ι → t'.ν), WJ c o (t.V ν ++ Γ) (t.E ν ++ H) V2 (fun i => t'.E (up i) ++ H) ∧ (∀ i, t'.V (up i) = V2 i ++ t.V ν) ∧ (∀ i m a, EnvOK (V2 i) m a → ∀ d, o.dst = some d → s.p m (a.tmps.getD d undef)) ∧ ∀ i d s', lk (V2 i) d = some s' → o.dst = some d) →
    RL c full H Ls (k + 1) os (push o.dst s Γ) σ → RL c full H Ls k (o :: os) Γ (s :: σ)

theorem lk_append (A B : Env) (t : Nat) : lk (A ++ B) t = (lk A t).or (lk B t) := by
  induction A with
  | nil => rfl
  | cons p A ih =>
    obtain ⟨t', s⟩ := p
    by_cases h : t' = t
    · subst h; rw [List.cons_append, lk_cons_self, lk_cons_self]; rfl
    · rw [List.cons_append, lk_cons_ne h, lk_cons_ne h, ih]
theorem RL.at {c : Ctx} {full : List Oper} {H : List Ent} {Ls : List Line} {k : Nat} {l : List Oper} {Γ : Env} {σ : List Slot} (h : RL c full H Ls k l Γ σ) :
    ∀ i o, l[i]? = some o → ∃ s Γi, σ[i]? = some s ∧ (∀ t, lk Γi t = cur l σ Γ (fun _ => true) i t) ∧
      (((Ls.all fun L => L.st.all fun x => !Nat.beq x.1 (k + i)) = true ∧ (OK1 c full H o Γi s ∨
        ∃ (p : Nat) (L : Line) (k1 : Nat) (s1 : LSt) (r : List (Nat × LSt)) (o1 : Oper), Ls[p]? = some L ∧ L.st = (k1, s1) :: r ∧ full[k1]? = some o1 ∧ (edges o1).any (Nat.beq (k + i)) = true ∧ OK1 c full (L.ini ++ H) o Γi s)) ∨
      ∃ (p : Nat) (L : Line) (t t' : LSt), Ls[p]? = some L ∧ StepOf (.of L.ini) L.st (k + i) t t' ∧ GuardOK full o Γi ∧
        (∀ ν : t.ν, ∃ (ι : Type) (V2 : ι → Env) (up : ι → t'.ν), WJ c o (t.V ν ++ Γi) (t.E ν ++ H) V2 (fun i => t'.E (up i) ++ H) ∧ (∀ i, t'.V (up i) = V2 i ++ t.V ν) ∧ (∀ i m a, EnvOK (V2 i) m a → ∀ d, o.dst = some d → s.p m (a.tmps.getD d undef)) ∧ ∀ i d s', lk (V2 i) d = some s' → o.dst = some d)) := by
  induction h with
  | nil => intro i o h; simp at h
  | @read k o os Γ s σ h0 h1 h2 ih =>
    intro i p hi
    cases i with
    | zero =>
      simp only [List.getElem?_cons_zero, Option.some.injEq] at hi
      subst hi
      exact ⟨s, Γ, rfl, fun t => rfl, .inl ⟨h0, .inl h1⟩⟩
    | succ i =>
      obtain ⟨s', Γi, hs, hl, hc⟩ := ih i p (by simpa using hi)
      refine ⟨s', Γi, by simpa using hs, fun t => by rw [hl t, cur_all_cons], ?_⟩
      rw [show k + (i + 1) = k + 1 + i by omega]; exact hc
  | @pre p L k k1 s1 r o o1 os Γ s σ h0 hp hst hf he h1 h2 ih =>
    intro i p' hi
    cases i with
    | zero =>
      simp only [List.getElem?_cons_zero, Option.some.injEq] at hi
      subst hi
      exact ⟨s, Γ, rfl, fun t => rfl, .inl ⟨h0, .inr ⟨p, L, k1, s1, r, o1, hp, hst, hf, he, h1⟩⟩⟩
    | succ i =>
      obtain ⟨s', Γi, hs, hl, hc⟩ := ih i p' (by simpa using hi)
      refine ⟨s', Γi, by simpa using hs, fun t => by rw [hl t, cur_all_cons], ?_⟩
      rw [show k + (i + 1) = k + 1 + i by omega]; exact hc
  | @step p L k t t' o os Γ s σ hp hst hg hw h2 ih =>
    intro i p' hi
    cases i with
    | zero =>
      simp only [List.getElem?_cons_zero, Option.some.injEq] at hi
      subst hi
      exact ⟨s, Γ, rfl, fun t => rfl, .inr ⟨p, L, t, t', hp, hst, hg, hw⟩⟩
    | succ i =>
      obtain ⟨s', Γi, hs, hl, hc⟩ := ih i p' (by simpa using hi)
      refine ⟨s', Γi, by simpa using hs, fun t => by rw [hl t, cur_all_cons], ?_⟩
      rw [show k + (i + 1) = k + 1 + i by omega]; exact hc
theorem RL.len {c : Ctx} {full : List Oper} {H : List Ent} {Ls : List Line} {k : Nat} {l : List Oper} {Γ : Env} {σ : List Slot} (h : RL c full H Ls k l Γ σ) : l.length = σ.length := by
  induction h with
  | nil => rfl
  | read _ _ _ ih => simp [ih]
  | pre _ _ _ _ _ _ _ _ ih => simp [ih]
  | step _ _ _ _ _ _ ih => simp [ih]
def KeysIn (l : List Oper) (X : Nat → Bool) (V : Env) : Prop := ∀ t s, lk V t = some s → ∃ k o, l[k]? = some o ∧ X k = true ∧ o.dst = some t
def LOk (l : List Oper) (X : Nat → Bool) (m : Mem) (a : Act) (st : LSt) (E : List Ent) : Prop := ∃ ν, E = st.E ν ∧ EnvOK (st.V ν) m a ∧ KeysIn l X (st.V ν)
section
variable {c : Ctx} {Γ : Env} {H : List Ent} {a : Act} {w : World} {Q : Exit → Act → World → Prop} {l rest : List Oper} {σ : List Slot} {Ls : List Line} {X : Nat → Bool}
def LInv (c : Ctx) (l : List Oper) (σ : List Slot) (Ls : List Line) (Γ : Env) (H : List Ent) (X : Nat → Bool) (a : Act) (w : World) : Prop :=
  Dfr c a.defers w ∧ a.tmps.size = c.N ∧ ∃ m hs, Good m hs w ∧ c.G.p m ∧ (∀ t s, cur l σ Γ X l.length t = some s → s.p m (a.tmps.getD t undef)) ∧ Frm c.w0 w c.m0 m c.b0 hs.bs ∧
    ∃ Es, Sat (Es.flatten ++ H) m hs ∧ LnSat (LOk l X m a) X Ls Es
theorem atL_upd_ne {X : Nat → Bool} {i : Nat} : ∀ (st : List (Nat × LSt)) (s : LSt), (st.all fun x => !Nat.beq x.1 i) = true → atL (upd X i) s st = atL X s st
  | [], _, _ => rfl
  | (k, s') :: r, s, h => by
    simp only [List.all_cons, Bool.and_eq_true, Bool.not_eq_true', beq_eq_false_iff_ne] at h
    have hk : k ≠ i := by intro e; subst e; simp at h
    simp only [atL, upd, if_neg hk]
    rw [atL_upd_ne r s' h.2]
theorem StepOf.mem {s : LSt} {st : List (Nat × LSt)} {k : Nat} {t t' : LSt} (h : StepOf s st k t t') : ∃ x ∈ st, x.1 = k := by
  induction h with
  | here => exact ⟨_, List.mem_cons_self, rfl⟩
  | next _ ih => obtain ⟨x, hx, e⟩ := ih; exact ⟨x, by simp [hx], e⟩
/-- The steps of a line stand one behind the other. -/
theorem chain_at {full : List Oper} {X : Nat → Bool} {i : Nat} {o : Oper} (hcl : ∀ j p, full[j]? = some p → X j = true → ∀ e ∈ edges p, X e = true) (hi : full[i]? = some o) (hX : X i = false) (he : ∀ j ∈ edges o, X j = true)
    {s : LSt} {st : List (Nat × LSt)} {t t' : LSt} (h : StepOf s st i t t') (hc : chainB full (st.map (·.1)) = true) :
    (∀ x, st.head? = some x → X x.1 = true ∨ x.1 = i) ∧ atL X s st = t ∧ atL (upd X i) s st = t' := by
  induction h with
  | @here s s' k r =>
    refine ⟨fun x hx => .inr (by simp at hx; rw [← hx]), by simp [atL, hX], ?_⟩
    have : atL (upd X k) s' r = s' := by
      cases r with
      | nil => rfl
      | cons y r =>
        simp only [List.map_cons, chainB, Bool.and_eq_true] at hc
        obtain ⟨⟨hc1, hc2⟩, _⟩ := hc
        have hlt : k < y.1 := by simpa [Nat.blt_eq] using hc2
        cases hy : full[y.1]? with
        | none => rw [hy] at hc1; cases hc1
        | some p =>
          rw [hy] at hc1
          have hmem : k ∈ edges p := by
            simp only [List.any_eq_true] at hc1
            obtain ⟨z, hz, e⟩ := hc1
            rw [Nat.eq_of_beq_eq_true e]; exact hz
          have hXy : X y.1 = false := by
            cases hXy : X y.1 with
            | false => rfl
            | true => have := hcl y.1 p hy hXy k hmem; rw [hX] at this; cases this
          have hne : y.1 ≠ k := by omega
          simp only [atL, upd, if_neg hne, hXy, cond_false]
    simp only [atL, upd, if_true, cond_true]
    exact this
  | @next s s1 t t' k k1 r h ih =>
    have hc' : chainB full (r.map (·.1)) = true := by
      cases r with
      | nil => rfl
      | cons y r => simp only [List.map_cons, chainB, Bool.and_eq_true] at hc; exact hc.2
    obtain ⟨ih1, ih2, ih3⟩ := ih hi hX hc'
    have hXk1 : X k1 = true := by
      cases r with
      | nil => cases h
      | cons y r =>
        simp only [List.map_cons, chainB, Bool.and_eq_true] at hc
        obtain ⟨⟨hc1, hc2⟩, _⟩ := hc
        cases hy : full[y.1]? with
        | none => rw [hy] at hc1; cases hc1
        | some p =>
          rw [hy] at hc1
          have hmem : k1 ∈ edges p := by
            simp only [List.any_eq_true] at hc1
            obtain ⟨z, hz, e⟩ := hc1
            rw [Nat.eq_of_beq_eq_true e]; exact hz
          rcases ih1 y rfl with h2 | h2
          · exact hcl y.1 p hy h2 k1 hmem
          · rw [h2] at hy
            rw [hi] at hy; cases hy
            exact he k1 hmem
    have hne : k1 ≠ k := fun e => by rw [e, hX] at hXk1; cases hXk1
    refine ⟨fun x hx => .inl (by simp at hx; rw [← hx]; exact hXk1), by simp only [atL, hXk1, cond_true]; exact ih2, ?_⟩
    simp only [atL, upd, if_neg hne, hXk1, cond_true]
    exact ih3
def disjB : List Line → Bool
  | [] => true
  | L :: r => (r.all fun L' => L'.st.all fun y => L.st.all fun x => !Nat.beq x.1 y.1) && disjB r
theorem disjB_of : ∀ {Ls : List Line} {p q : Nat} {L L' : Line}, disjB Ls = true → Ls[p]? = some L → Ls[q]? = some L' → p ≠ q → ∀ x ∈ L.st, ∀ y ∈ L'.st, x.1 ≠ y.1
  | [], p, q, L, L', _, hp, _, _ => by simp at hp
  | L0 :: r, p, q, L, L', h, hp, hq, hne => by
    simp only [disjB, Bool.and_eq_true, List.all_eq_true, Bool.not_eq_true'] at h
    cases p with
    | zero =>
      simp only [List.getElem?_cons_zero, Option.some.injEq] at hp
      subst hp
      cases q with
      | zero => exact absurd rfl hne
      | succ q =>
        intro x hx y hy e
        have := h.1 L' (List.mem_of_getElem? (by simpa using hq)) y hy x hx
        rw [e] at this; simp at this
    | succ p =>
      cases q with
      | zero =>
        simp only [List.getElem?_cons_zero, Option.some.injEq] at hq
        subst hq
        intro x hx y hy e
        have := h.1 L (List.mem_of_getElem? (by simpa using hp)) x hx y hy
        rw [e] at this; simp at this
      | succ q => exact disjB_of h.2 (by simpa using hp) (by simpa using hq) (by omega)
def linesB (l : List Oper) (Ls : List Line) : Bool := (Ls.all fun L => chainB l (L.st.map (·.1)) && L.st.all fun x => Nat.blt x.1 l.length) && disjB Ls
theorem KeysIn.mono {X X' : Nat → Bool} {V : Env} (h : ∀ k, X k = true → X' k = true) (hk : KeysIn l X V) : KeysIn l X' V := fun t s e => by
  obtain ⟨k, o, h1, h2, h3⟩ := hk t s e; exact ⟨k, o, h1, h _ h2, h3⟩
theorem linv_step {i : Nat} {o : Oper} {K : Act → World → Prop} (hB : drawB (l ++ rest) l.length = true) (hN : dstB c.N l = true) (hU : distB l = true) (hL : linesB l Ls = true) (hR : RL c (l ++ rest) H Ls 0 l Γ σ)
    (hi : l[i]? = some o) (hX : X i = false) (he : ∀ j ∈ edges o, X j = true) (hcl : ∀ j p, l[j]? = some p → X j = true → ∀ e ∈ edges p, X e = true)
    (hD : LInv c l σ Ls Γ H X a w) (hK : ∀ a' w', LInv c l σ Ls Γ H (upd X i) a' w' → K a' w') : wpOpIn (fen c.ro) 0 c.P (l ++ rest).toArray Q i K a w := by
  have hlt : i < l.length := (List.getElem?_eq_some_iff.1 hi).1
  have hfull : ∀ {j p}, l[j]? = some p → (l ++ rest)[j]? = some p := fun {j p} h => by
    rw [List.getElem?_append_left (List.getElem?_eq_some_iff.1 h).1]; exact h
  have hfi := hfull hi
  have hop : (l ++ rest).toArray[i]? = some o := by simpa using hfi
  obtain ⟨s, Γi, hs, hlk, hcase⟩ := hR.at i o hi
  obtain ⟨hdf, hn, m, hs2, hg, hG, hcur, hfr, Es, hsat, hln⟩ := hD
  have hafter : ∀ t ∈ names (l ++ rest) o, ∀ j p, i < j → l[j]? = some p → p.dst = some t → X j = false := by
    intro t ht j p hij hp hd
    cases hXj : X j with
    | false => rfl
    | true =>
      have := (drawB_conf hB hfi (hfull hp) (by omega) hd ht).2 hij
      have := hcl j p hp hXj i this
      rw [hX] at this; cases this
  have hknown : ∀ t ∈ names (l ++ rest) o, cur l σ Γ X l.length t = lk Γi t := by
    intro t ht
    rw [hlk t, cur_notin l.length (by omega : i ≤ l.length), cur_allin i]
    · intro j p hj hp hd
      exact he j ((drawB_conf hB hfi (hfull hp) (by omega) hd ht).1 hj)
    · intro j p h1 h2 hp hd
      by_cases hji : j = i
      · subst hji; exact hX
      · exact hafter t ht j p (by omega) hp hd
  have hopV : ∀ (V : Env), EnvOK V m a → OpdOK o (V ++ Γi) m a := by
    intro V hV x hx
    cases x with
    | tmp t =>
      intro s' e
      have ht : t ∈ names (l ++ rest) o := by
        simp only [names, List.mem_append]
        refine .inl (.inr ?_)
        simp only [tmpsOf, List.mem_filterMap]
        exact ⟨.tmp t, by simpa using hx, rfl⟩
      rw [lk_append] at e
      cases hv : lk V t with
      | some s1 => rw [hv] at e; cases e; exact hV t _ hv
      | none => rw [hv] at e; exact hcur t s' (by rw [hknown t ht]; exact e)
    | _ => trivial
  have hopd : OpdOK o Γi m a := hopV [] (fun t s e => by cases e)
  have hdN : ∀ d, o.dst = some d → d < a.tmps.size := by
    intro d hd
    simp only [dstB, List.all_eq_true] at hN
    have := hN o (List.mem_of_getElem? hi)
    rw [hd] at this
    rw [hn]; simpa [Nat.blt_eq] using this
  have hnew : ∀ {m' : Mem} {v : Value}, Mle m m' → (∀ d, o.dst = some d → s.p m' v) → ∀ t s', cur l σ Γ (upd X i) l.length t = some s' → s'.p m' ((a.put o.dst v).tmps.getD t undef) := by
    intro m' v hle hv t s' e
    by_cases hd : o.dst = some t
    · have ht : t ∈ names (l ++ rest) o := by simp [names, hd]
      rw [cur_notin l.length (by omega : i + 1 ≤ l.length)] at e
      · rw [cur] at e
        simp only [hi, hs, upd, if_true, hd, beq_self_eq_true, Bool.and_self] at e
        cases e
        rw [hd, put_getD_self (hdN t hd)]
        exact hv t hd
      · intro j p h1 h2 hp hdp
        have hji : j ≠ i := by omega
        simp only [upd, if_neg hji]
        exact hafter t ht j p (by omega) hp hdp
    · have e' : cur l σ Γ X l.length t = some s' := by
        rw [← e]
        refine cur_put_other l.length fun j p hj hp hdp => ?_
        by_cases hji : j = i
        · subst hji
          rw [hi] at hp; cases hp
          exact absurd hdp hd
        · simp [upd, hji]
      have hgd : (a.put o.dst v).tmps.getD t undef = a.tmps.getD t undef := by
        cases hdd : o.dst with
        | none => rfl
        | some d => exact put_getD_ne (fun e => hd (by rw [hdd, e]))
      rw [hgd]
      exact s'.mono hle (hcur t s' e')
  have hXu : ∀ k, X k = true → upd X i k = true := fun k hk => by simp only [upd]; split <;> simp [hk]
  -- what the lines know stays
  have hkeep : ∀ {V : Env} {m' : Mem} {v : Value}, Mle m m' → EnvOK V m a → KeysIn l X V → EnvOK V m' (a.put o.dst v) := by
    intro V m' v hle hV hk t s' e
    have hne : o.dst ≠ some t := by
      intro hd
      obtain ⟨k, p, h1, h2, h3⟩ := hk t s' e
      have := distB_of hU hi h1 hd h3
      rw [this, h2] at hX; cases hX
    have hgd : (a.put o.dst v).tmps.getD t undef = a.tmps.getD t undef := by
      cases hdd : o.dst with
      | none => rfl
      | some d => exact put_getD_ne (fun e => hne (by rw [hdd, e]))
    rw [hgd]
    exact s'.mono hle (hV t s' e)
  unfold wpOpIn
  rw [hop]
  simp only []
  have hLs : ∀ L ∈ Ls, chainB l (L.st.map (·.1)) = true ∧ ∀ x ∈ L.st, x.1 < l.length := by
    intro L hLm
    simp only [linesB, Bool.and_eq_true, List.all_eq_true] at hL
    have := hL.1 L hLm
    exact ⟨this.1, fun x hx => by simpa [Nat.blt_eq] using this.2 x hx⟩
  have hdisj : disjB Ls = true := by simp only [linesB, Bool.and_eq_true] at hL; exact hL.2
  have hguard : ∀ {yes : Bool}, GuardIs (l ++ rest) o Γi yes → Region.wanted o (yielded (l ++ rest).toArray a.tmps) = yes := by
    rintro yes ⟨j, want, b, t, s', hgd, hj, hl, hb, hy⟩
    have ht : t ∈ names (l ++ rest) o := by simp [names, gTmp, hgd, hj]
    have hv := hb m _ (hcur t s' (by rw [hknown t ht]; exact hl))
    have hlt2 : t < a.tmps.size := by
      rcases Nat.lt_or_ge t a.tmps.size with h | h
      · exact h
      · have : a.tmps.getD t undef = undef := by simp [Array.getD, Nat.not_lt.2 h]
        rw [this] at hv; cases hv
    have hyv : yielded (l ++ rest).toArray a.tmps j = some b := by
      simp only [yielded, List.getElem?_toArray, hj, Option.bind_some, Array.getElem?_eq_getElem hlt2]
      simp only [Array.getD, hlt2, dite_true] at hv
      simp only [Array.getInternal_eq_getElem] at hv
      rw [hv]
    simp only [Region.wanted, hgd, hyv]
    rw [← hy]; cases b <;> cases want <;> rfl
  rcases hcase with ⟨hnot, hok⟩ | ⟨p, L, t, t', hp, hst, hgd, hstep⟩
  · rw [Nat.zero_add] at hnot
    have hat : ∀ L ∈ Ls, L.at (upd X i) = L.at X := fun L hLm => atL_upd_ne _ _ (by rw [List.all_eq_true] at hnot; exact hnot L hLm)
    have hln2 : ∀ {m' : Mem} {v : Value}, Mle m m' → LnSat (LOk l (upd X i) m' (a.put o.dst v)) (upd X i) Ls Es := by
      intro m' v hle
      refine hln.imp fun L hLm E hE => ?_
      rw [hat L hLm]
      obtain ⟨ν, e, hV, hk⟩ := hE
      exact ⟨ν, e, hkeep hle hV hk, hk.mono hXu⟩
    have hrun : ∀ {H0 : List Ent}, (∃ R, (Es.flatten ++ H).Perm (H0 ++ R)) → PJ c o Γi H0 s → o.wpIn (fen c.ro) 0 c.P a w K Q := by
      rintro H0 ⟨R, hpm⟩ hpj
      obtain ⟨hs3, hp3, hsat3⟩ := Sat.perm (hpm.trans List.perm_append_comm) hsat
      refine Upon.wp ((hpj.frame R) m hs3 a w (hg.perm hp3) hG hsat3 hopd) ?_
      rintro v w' ⟨m', hg', hv, hf⟩
      refine hK _ _ ⟨by rw [put_defers]; exact hdf.step hg (hf.keepOwn _), by rw [put_size]; exact hn, m', hs2, hg'.perm hp3.symm, c.G.mono hf.le hG, hnew hf.le (fun _ _ => hv), hfr.trans (hf.keepOwn _), Es, hsat.frm hf, hln2 hf.le⟩
    have hundef : GuardUndef (l ++ rest) o Γi → Region.wanted o (yielded (l ++ rest).toArray a.tmps) = false := by
      rintro ⟨j, want, t, hgd, hj, hl⟩
      have ht : t ∈ names (l ++ rest) o := by simp [names, gTmp, hgd, hj]
      have hv : a.tmps.getD t undef = undef := hcur t _ (by rw [hknown t ht]; exact hl)
      have hyv : yielded (l ++ rest).toArray a.tmps j = none := by
        simp only [yielded, List.getElem?_toArray, hj, Option.bind_some]
        by_cases hlt : t < a.tmps.size
        · simp only [Array.getElem?_eq_getElem hlt]
          simp only [Array.getD, hlt, dite_true] at hv
          simp only [Array.getInternal_eq_getElem] at hv
          rw [hv]; rfl
        · simp [Array.getElem?_eq_none (Nat.not_lt.1 hlt)]
      simp only [Region.wanted, hgd, hyv]; rfl
    have hfin : ∀ {H0 : List Ent}, (∃ R, (Es.flatten ++ H).Perm (H0 ++ R)) → OK1 c (l ++ rest) H0 o Γi s → (if Region.wanted o (yielded (l ++ rest).toArray a.tmps) = true then o.wpIn (fen c.ro) 0 c.P a w K Q else (∀ f, o.about c.P w a.eval = some f → (fen c.ro).fn f) ∧ K (a.put o.dst undef) w) := by
      intro H0 hpm hok
      cases hok with
      | plain hgd hpj =>
        have hw : Region.wanted o (yielded (l ++ rest).toArray a.tmps) = true := by simp [Region.wanted, hgd]
        rw [if_pos hw]
        exact hrun hpm hpj
      | yes hgd hpj =>
        rw [if_pos (hguard hgd)]
        exact hrun hpm hpj
      | no hgd =>
        have hw := hguard hgd
        rw [if_neg (by rw [hw]; simp)]
        exact ⟨fun f _ => fen_fn _ f, hK _ _ ⟨by rw [put_defers]; exact hdf, by rw [put_size]; exact hn, m, hs2, hg, hG, hnew (Mle.refl m) (fun _ _ => rfl), hfr, Es, hsat, hln2 (Mle.refl m)⟩⟩
      | undef hgd =>
        have hw := hundef hgd
        rw [if_neg (by rw [hw]; simp)]
        exact ⟨fun f _ => fen_fn _ f, hK _ _ ⟨by rw [put_defers]; exact hdf, by rw [put_size]; exact hn, m, hs2, hg, hG, hnew (Mle.refl m) (fun _ _ => rfl), hfr, Es, hsat, hln2 (Mle.refl m)⟩⟩
    rcases hok with hok | ⟨p, L, k1, s1, r, o1, hp, hst, hk1, hed, hok⟩
    · exact hfin ⟨Es.flatten, List.perm_append_comm⟩ hok
    · -- the line has not begun
      have hk1l : k1 < l.length := (hLs L (List.mem_of_getElem? hp)).2 (k1, s1) (by rw [hst]; simp)
      rw [List.getElem?_append_left hk1l] at hk1
      have hXk : X k1 = false := by
        cases hXk : X k1 with
        | false => rfl
        | true =>
          have hmem : i ∈ edges o1 := by
            simp only [List.any_eq_true, Nat.zero_add] at hed
            obtain ⟨z, hz, e⟩ := hed
            rw [Nat.eq_of_beq_eq_true e]; exact hz
          have := hcl k1 o1 hk1 hXk i hmem
          rw [hX] at this; cases this
      have hLat : L.at X = .of L.ini := by simp [Line.at, hst, atL, hXk]
      obtain ⟨E, R, hperm, hok2, _⟩ := hln.pick hp
      rw [hLat] at hok2
      obtain ⟨ν, rfl, _, _⟩ := hok2
      refine hfin (H0 := L.ini ++ H) ⟨R, ?_⟩ hok
      have : Es.flatten.Perm (L.ini ++ R) := hperm
      refine (List.Perm.append_right H this).trans ?_
      rw [List.append_assoc, List.append_assoc]
      exact List.Perm.append_left _ List.perm_append_comm
  · have hw : Region.wanted o (yielded (l ++ rest).toArray a.tmps) = true := by
      rcases hgd with hgd | hgd
      · simp [Region.wanted, hgd]
      · exact hguard hgd
    rw [if_pos hw]
    rw [Nat.zero_add] at hst
    have hLm := List.mem_of_getElem? hp
    obtain ⟨_, hat1, hat2⟩ := chain_at hcl hi hX he hst (hLs L hLm).1
    obtain ⟨E, R, hperm, hok, hk⟩ := hln.pick hp
    have hat1' : L.at X = t := hat1
    have hat2' : L.at (upd X i) = t' := hat2
    rw [hat1'] at hok
    obtain ⟨ν, rfl, hV, hkeys⟩ := hok
    obtain ⟨ι, V2, up, hwj, hup, hs1, hdst⟩ := hstep ν
    have hpm : (Es.flatten ++ H).Perm ((t.E ν ++ H) ++ R) := by
      refine (List.Perm.append_right H hperm).trans ?_
      rw [List.append_assoc, List.append_assoc]
      exact List.Perm.append_left _ List.perm_append_comm
    obtain ⟨hs3, hp3, hsat3⟩ := Sat.perm hpm hsat
    refine (Upon.wp ((hwj.frame R) m hs3 a w (hg.perm hp3) hG hsat3 (hopV _ hV) hn) ?_)
    rintro v w' ⟨j, m', hs4, hg', heV, hsat4, hf⟩
    have hother : ∀ q L', q ≠ p → Ls[q]? = some L' → ∀ E, LOk l X m a (L'.at X) E → LOk l (upd X i) m' (a.put o.dst v) (L'.at (upd X i)) E := by
      intro q L' hq hL' E hE
      have hne : (L'.st.all fun x => !Nat.beq x.1 i) = true := by
        rw [List.all_eq_true]
        intro x hx
        obtain ⟨y, hy, e⟩ := hst.mem
        have := disjB_of hdisj hp hL' (fun e => hq e.symm) y hy x hx
        rw [e] at this
        simp only [Bool.not_eq_true', beq_eq_false_iff_ne]
        cases hb : Nat.beq x.1 i with
        | false => rfl
        | true => exact absurd (Nat.eq_of_beq_eq_true hb).symm this
      rw [show L'.at (upd X i) = L'.at X from atL_upd_ne _ _ hne]
      obtain ⟨ν', e, hV', hk'⟩ := hE
      exact ⟨ν', e, hkeep hf.le hV' hk', hk'.mono hXu⟩
    obtain ⟨Es', hpE, hlnE⟩ := hk (ok' := LOk l (upd X i) m' (a.put o.dst v)) (X' := upd X i) (t'.E (up j)) hother (by
      rw [hat2']
      refine ⟨up j, rfl, ?_, ?_⟩
      · rw [hup]
        intro t1 s1 e
        rw [lk_append] at e
        cases hv : lk (V2 j) t1 with
        | some s2 => rw [hv] at e; cases e; exact heV t1 _ hv
        | none => rw [hv] at e; exact hkeep hf.le hV hkeys t1 s1 e
      · rw [hup]
        intro t1 s1 e
        rw [lk_append] at e
        cases hv : lk (V2 j) t1 with
        | some s2 => exact ⟨i, o, hi, by simp [upd], hdst j t1 s2 hv⟩
        | none => rw [hv] at e; exact hkeys.mono hXu t1 s1 e)
    have hpm2 : ((t'.E (up j) ++ H) ++ R).Perm (Es'.flatten ++ H) := by
      refine List.Perm.trans ?_ (List.Perm.append_right H hpE.symm)
      rw [List.append_assoc, List.append_assoc]
      exact List.Perm.append_left _ List.perm_append_comm
    obtain ⟨hs5, hp5, hsat5⟩ := Sat.perm hpm2 hsat4
    refine hK _ _ ⟨by rw [put_defers]; exact hdf.step hg (Frm.ofPerm hp3 hf), by rw [put_size]; exact hn, m', hs5, hg'.perm hp5, c.G.mono hf.le hG, ?_, hfr.trans ((Frm.ofPerm hp3 hf).perm hp5), Es', hsat5, hlnE⟩
    refine hnew hf.le fun d hd => ?_
    have := hs1 j m' (a.put o.dst v) heV d hd
    rwa [hd, put_getD_self (hdN d hd)] at this
theorem draw_gen {Inv : (Nat → Bool) → Act → World → Prop} (hB : drawB (l ++ rest) l.length = true)
    (hstep : ∀ (X : Nat → Bool) (i : Nat) (o : Oper) (K : Act → World → Prop) (a : Act) (w : World), l[i]? = some o → X i = false → (∀ j ∈ edges o, X j = true) → (∀ j p, l[j]? = some p → X j = true → ∀ e ∈ edges p, X e = true) → Inv X a w →
      (∀ a' w', Inv (upd X i) a' w' → K a' w') → wpOpIn (fen c.ro) 0 c.P (l ++ rest).toArray Q i K a w)
    (hend : ∀ X a w, (∀ i, i < l.length → X i = true) → Inv X a w → wpListIn (fen c.ro) 0 c.P (l ++ rest).toArray Q rest a w) :
    ∀ (fuel : Nat) (listed : Array Bool) (a : Act) (w : World), listed.size = (l ++ rest).length → left (l ++ rest).length (Xof listed) ≤ fuel →
      (((∀ i, l.length ≤ i → Xof listed i = false) ∧ (∀ j p, l[j]? = some p → Xof listed j = true → ∀ e ∈ edges p, Xof listed e = true) ∧ Inv (Xof listed) a w) ∨
        (∃ p, l.length ≤ p ∧ p ≤ (l ++ rest).length ∧ (∀ i, i < (l ++ rest).length → Xof listed i = decide (i < p)) ∧ wpListIn (fen c.ro) 0 c.P (l ++ rest).toArray Q ((l ++ rest).drop p) a w)) →
      wpAnyIn (fen c.ro) 0 c.P .any (l ++ rest).toArray Q fuel listed a w := by
  -- a first part that is done is a second part that has begun
  have conv : ∀ {listed : Array Bool} {a : Act} {w : World}, (∀ i, l.length ≤ i → Xof listed i = false) → Inv (Xof listed) a w → (∀ i, i < l.length → Xof listed i = true) →
      ∃ p, l.length ≤ p ∧ p ≤ (l ++ rest).length ∧ (∀ i, i < (l ++ rest).length → Xof listed i = decide (i < p)) ∧ wpListIn (fen c.ro) 0 c.P (l ++ rest).toArray Q ((l ++ rest).drop p) a w := by
    intro listed a w h1 h2 h3
    refine ⟨l.length, Nat.le_refl _, by simp, fun i _ => ?_, ?_⟩
    · by_cases hi : i < l.length
      · simp [hi, h3 i hi]
      · simp [hi, h1 i (by omega)]
    · rw [List.drop_left']
      · exact hend _ a w h3 h2
      · rfl
  intro fuel
  induction fuel with
  | zero =>
    intro listed a w hsz hleft hinv
    have hall := left_zero (Nat.le_zero.1 hleft)
    have hemp : Region.ready .any (l ++ rest).toArray listed = [] := by
      rw [List.eq_nil_iff_forall_not_mem]
      intro i hi
      obtain ⟨o, ho, hX, _⟩ := (mem_ready hsz).1 hi
      rw [hall i (List.getElem?_eq_some_iff.1 ho).1] at hX; cases hX
    refine ⟨hemp, ?_⟩
    obtain ⟨p, hp1, hp2, hp3, hp4⟩ : ∃ p, l.length ≤ p ∧ p ≤ (l ++ rest).length ∧ (∀ i, i < (l ++ rest).length → Xof listed i = decide (i < p)) ∧ wpListIn (fen c.ro) 0 c.P (l ++ rest).toArray Q ((l ++ rest).drop p) a w := by
      rcases hinv with ⟨h1, _, h2⟩ | h
      · exact conv h1 h2 (fun i hi => hall i (by simp; omega))
      · exact h
    have hpe : p = (l ++ rest).length := by
      rcases Nat.lt_or_ge p (l ++ rest).length with h | h
      · have := hp3 p h
        rw [hall p h] at this; simp at this
      · omega
    rw [hpe, List.drop_length] at hp4
    exact hp4
  | succ fuel ih =>
    intro listed a w hsz hleft hinv
    -- nothing is ready: all is done
    have hdone : Region.ready .any (l ++ rest).toArray listed = [] → ∀ i, i < (l ++ rest).length → Xof listed i = true := by
      intro hemp i
      induction i using Nat.strongRecOn with
      | _ i ihi =>
        intro hi
        cases hX : Xof listed i with
        | true => rfl
        | false =>
          have : i ∈ Region.ready .any (l ++ rest).toArray listed := (mem_ready hsz).2 ⟨(l ++ rest)[i], List.getElem?_eq_getElem hi, hX, fun j hj => by
            have hji := drawB_back hB (List.getElem?_eq_getElem hi) j hj
            exact ihi j hji (by omega)⟩
          rw [hemp] at this; cases this
    refine ⟨fun hemp => ?_, fun i hi => ?_⟩
    · have hall := hdone hemp
      obtain ⟨p, hp1, hp2, hp3, hp4⟩ : ∃ p, l.length ≤ p ∧ p ≤ (l ++ rest).length ∧ (∀ i, i < (l ++ rest).length → Xof listed i = decide (i < p)) ∧ wpListIn (fen c.ro) 0 c.P (l ++ rest).toArray Q ((l ++ rest).drop p) a w := by
        rcases hinv with ⟨h1, _, h2⟩ | h
        · exact conv h1 h2 (fun i hi => hall i (by simp; omega))
        · exact h
      have hpe : p = (l ++ rest).length := by
        rcases Nat.lt_or_ge p (l ++ rest).length with h | h
        · have := hp3 p h
          rw [hall p h] at this; simp at this
        · omega
      rw [hpe, List.drop_length] at hp4
      exact hp4
    · obtain ⟨o, ho, hX, hedge⟩ := (mem_ready hsz).1 hi
      have hilt := (List.getElem?_eq_some_iff.1 ho).1
      have hsz' : (listed.setIfInBounds i true).size = (l ++ rest).length := by simpa using hsz
      have hXu := Xof_upd (listed := listed) (i := i) (by omega)
      have hleft' : left (l ++ rest).length (Xof (listed.setIfInBounds i true)) ≤ fuel := by
        rw [hXu]; have := left_upd hilt hX; omega
      -- which part?
      have hB' : (∃ p, l.length ≤ p ∧ p ≤ (l ++ rest).length ∧ (∀ i, i < (l ++ rest).length → Xof listed i = decide (i < p)) ∧ wpListIn (fen c.ro) 0 c.P (l ++ rest).toArray Q ((l ++ rest).drop p) a w) →
          wpOpIn (fen c.ro) 0 c.P (l ++ rest).toArray Q i (wpAnyIn (fen c.ro) 0 c.P .any (l ++ rest).toArray Q fuel (listed.setIfInBounds i true)) a w := by
        rintro ⟨p, hp1, hp2, hp3, hp4⟩
        have hip : ¬ i < p := by
          intro h
          have := hp3 i hilt
          rw [hX] at this; simp [h] at this
        have hpi : p = i := by
          rcases Nat.lt_or_ge p i with h | h
          · have := drawB_last hB ho (by omega) (X := Xof listed) hedge (fun j q hj hXj e he => by
              have hjl := (List.getElem?_eq_some_iff.1 hj).1
              rw [hp3 j hjl] at hXj
              have hjp : j < p := by simpa using hXj
              have hej := drawB_back hB hj e he
              rw [hp3 e (by omega)]; simp; omega) p h
            rw [hp3 p (by omega)] at this
            simp at this
          · omega
        subst hpi
        rw [List.drop_eq_getElem_cons hilt] at hp4
        have hoe : (l ++ rest)[p] = o := (List.getElem?_eq_some_iff.1 ho).2
        rw [hoe] at hp4
        have hop : (l ++ rest).toArray[p]? = some o := by simpa using ho
        have : wpOpIn (fen c.ro) 0 c.P (l ++ rest).toArray Q p (wpListIn (fen c.ro) 0 c.P (l ++ rest).toArray Q ((l ++ rest).drop (p + 1))) a w := by
          unfold wpOpIn
          rw [hop]
          exact hp4
        refine wpOpIn_mono (fun a' w' h' => ?_) this
        refine ih _ a' w' hsz' hleft' (.inr ⟨p + 1, by omega, by omega, fun j hj => ?_, h'⟩)
        rw [hXu]
        by_cases hjp : j = p
        · simp [upd, hjp]
        · simp only [upd, if_neg hjp, hp3 j hj]
          congr 1
          rw [eq_iff_iff]; omega
      rcases hinv with ⟨h1, h2, h3⟩ | h
      · by_cases hil : i < l.length
        · have hol : l[i]? = some o := by rwa [List.getElem?_append_left hil] at ho
          refine hstep _ _ _ _ _ _ hol hX hedge h2 h3 fun a' w' hD => ?_
          refine ih _ a' w' hsz' hleft' (.inl ⟨fun j hj => ?_, fun j p hp hj e he => ?_, by rw [hXu]; exact hD⟩)
          · rw [hXu]
            have : j ≠ i := by omega
            simp only [upd, if_neg this]
            exact h1 j hj
          · rw [hXu] at hj ⊢
            simp only [upd] at hj ⊢
            split
            · rfl
            · by_cases hji : j = i
              · subst hji
                rw [hol] at hp; cases hp
                exact hedge e he
              · rw [if_neg hji] at hj
                exact h2 j p hp hj e he
        · refine hB' (conv h1 h3 fun j hj => ?_)
          refine drawB_last hB ho (by omega) (X := Xof listed) hedge (fun j' q hj' hXj e he => ?_) j (by omega)
          have hjl : j' < l.length := by
            rcases Nat.lt_or_ge j' l.length with h | h
            · exact h
            · rw [h1 j' h] at hXj; cases hXj
          exact h2 j' q (by rwa [List.getElem?_append_left hjl] at hj') hXj e he
      · exact hB' h
def Line.fin (L : Line) : LSt := atL (fun _ => true) (.of L.ini) L.st
def FinOK (K : Env → List Ent → Prop) : List Line → Env → List Ent → Prop
  | [], V, E => K V E
  | L :: Ls, V, E => ∀ ν : (L.fin).ν, FinOK K Ls ((L.fin).V ν ++ V) (E ++ (L.fin).E ν)
theorem FinOK.use {K : Env → List Ent → Prop} {l : List Oper} {X : Nat → Bool} {m : Mem} {a : Act} : ∀ {Ls : List Line} {V : Env} {E : List Ent} {Es : List (List Ent)}, FinOK K Ls V E → LnSat (LOk l X m a) (fun _ => true) Ls Es → EnvOK V m a →
    ∃ V', K V' (E ++ Es.flatten) ∧ EnvOK V' m a
  | [], V, E, Es, h, hl, hV => by
    cases hl
    exact ⟨V, by rw [List.flatten_nil, List.append_nil]; exact h, hV⟩
  | L :: Ls, V, E, Es, h, ⟨E1, Es', e, ⟨ν, e1, hV1, _⟩, hl⟩, hV => by
    subst e
    obtain ⟨V', hk, hv⟩ := FinOK.use (h ν) hl (fun t s e => by
      rw [lk_append] at e
      cases hv : lk ((L.fin).V ν) t with
      | some s1 => rw [hv] at e; cases e; exact hV1 t _ hv
      | none => rw [hv] at e; exact hV t s e)
    refine ⟨V', ?_, hv⟩
    have e1' : E1 = (L.fin).E ν := e1
    rw [List.flatten_cons, ← List.append_assoc, e1']
    exact hk
theorem lnSat_ini {l : List Oper} {m : Mem} {a : Act} {X : Nat → Bool} (hX : ∀ i, X i = false) : ∀ (Ls : List Line), LnSat (LOk l X m a) X Ls (Ls.map (·.ini))
  | [] => rfl
  | L :: Ls => by
    refine ⟨L.ini, Ls.map (·.ini), rfl, ?_, lnSat_ini hX Ls⟩
    have : L.at X = .of L.ini := by
      unfold Line.at
      cases hs : L.st with
      | nil => rfl
      | cons y r => simp [atL, hX]
    rw [this]
    exact ⟨(), rfl, (fun t s e => by cases e), (fun t s e => by cases e)⟩
theorem atL_congr {X X' : Nat → Bool} : ∀ (st : List (Nat × LSt)) (s : LSt), (∀ x ∈ st, X x.1 = X' x.1) → atL X s st = atL X' s st
  | [], _, _ => rfl
  | (k, s') :: r, s, h => by
    simp only [atL, h (k, s') (by simp)]
    rw [atL_congr r s' fun x hx => h x (by simp [hx])]
/-- A REGION THAT DRAWS ITS ORDER, AND WRITES. -/
theorem r_drawL {id n : Nat} {L : List Oper} {Ls : List Line} (hst : St c Γ ((Ls.map (·.ini)).flatten ++ H) a w) (hm : c.P.follows .mixedOrders = true) (hB : drawB L n = true) (hn : Nat.ble n L.length = true) (hN : dstB c.N (L.take n) = true) (hU : distB (L.take n) = true)
    (hL : linesB (L.take n) Ls = true) (hR : RL c L H Ls 0 (L.take n) Γ σ)
    (k : FinOK (fun V E => OpsJ c L.toArray (L.drop n) (V ++ envUp Γ (L.take n) σ) (E ++ H) (Q .normal)) Ls [] []) : (Code.region id L.toArray true).wpIn (fen c.ro) 0 c.P Q a w := by
  have hlen : (L.take n).length = n := by rw [List.length_take]; have := Nat.ble_eq ▸ hn; omega
  have e := list_split L n
  have hLs : ∀ L' ∈ Ls, ∀ x ∈ L'.st, x.1 < (L.take n).length := by
    intro L' hLm x hx
    simp only [linesB, Bool.and_eq_true, List.all_eq_true] at hL
    simpa [Nat.blt_eq] using (hL.1 L' hLm).2 x hx
  have main := draw_gen (c := c) (Q := Q) (l := L.take n) (rest := L.drop n) (Inv := LInv c (L.take n) σ Ls Γ H) (by rw [← e, hlen]; exact hB)
    (fun X i o K a w hi hX he hcl hD hK => linv_step (by rw [← e, hlen]; exact hB) hN hU hL (by rw [← e]; exact hR) hi hX he hcl hD hK)
    (fun X a w hall ⟨hdf, hn, m, hs, hg, hG, hcur, hfr, Es, hsat, hln⟩ => by
      rw [← e]
      have hln' : LnSat (LOk (L.take n) X m a) (fun _ => true) Ls Es := by
        refine hln.imp fun L' hLm E hE => ?_
        rw [show L'.at (fun _ => true) = L'.at X from atL_congr _ _ fun x hx => (hall _ (hLs L' hLm x hx)).symm]
        exact hE
      obtain ⟨V, hk, hV⟩ := FinOK.use k hln' (fun t s e => by cases e)
      refine hk a w Q (fun _ _ h => h) ⟨hdf, hn, m, hs, hg, hG, fun t s h => ?_, by simpa using hsat, hfr⟩
      rw [lk_append] at h
      cases hv : lk V t with
      | some s1 => rw [hv] at h; cases h; exact hV t _ hv
      | none =>
        rw [hv] at h
        refine hcur t s ?_
        rw [← h]
        show _ = lk _ t
        rw [cur_final Γ _ σ hR.len t]
        exact cur_put_other _ fun j o hj _ _ => hall j hj)
  refine wpIn_region_any hm ?_
  rw [← e] at main
  obtain ⟨hdf, hn', m, hs, hg, hG, he, hsat, hf⟩ := hst
  have hX0 : ∀ i, Xof (Array.replicate L.toArray.size false) i = false := by
    intro i; simp only [Xof, Array.getD]; split <;> simp
  refine main _ _ a w.drew (by simp) (Nat.le_trans (List.countP_le_length) (by simp)) (.inl ⟨(fun i _ => hX0 i), (fun j p _ hj => by rw [hX0] at hj; cases hj), hdf.step hg (Frm.drew _ _ _), hn', m, hs, hg.drew, hG, (fun t s h => he t s ?_), hf.trans (Frm.drew _ _ _), _, hsat, lnSat_ini hX0 Ls⟩)
  rw [← h, cur_notin _ (Nat.zero_le _) fun j o _ _ _ _ => hX0 j]
  rfl
end
end Go.Sl
