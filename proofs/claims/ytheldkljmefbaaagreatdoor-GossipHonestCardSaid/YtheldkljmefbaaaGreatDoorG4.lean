import Derived.Test.YtheldkljmefbaaaGreatDoorG3
import Derived.Laws.BytesArg
import Derived.Laws.StructEq
import Derived.MapKept
import Derived.RangeFuncLeaves
import Derived.Lib.AppendZerosOnto
import Derived.Lib.Overlaps
import Derived.Laws.Externs
import Derived.WalkKit
import Derived.ProofKit
import Derived.OpenShut
import Derived.Carry
import Derived.SevenTiedAt
import Derived.Deep.DeepHandedRow
import Derived.Lib.LaidTab
set_option linter.unusedSimpArgs false
set_option linter.unusedVariables false
set_option linter.unusedSectionVars false
namespace Go.Sl
def WJ (c : Ctx) (o : Oper) (Γ : Env) (H : List Ent) {ι : Type} (V2 : ι → Env) (H2 : ι → List Ent) : Prop :=
 ∀ m hs a w, JM m hs w → c.G.p m → Sat H m hs → QdF o Γ m a → a.tmps.size = c.N →
  WB c.P (fun v w' => ∃ i m' hs', JM m' hs' w' ∧ Y1 (V2 i) m' (a.put o.dst v) ∧ Sat (H2 i) m' hs' ∧ Frm w w' m m' hs.bs hs'.bs) ((execOp a.eval o).run c.P w)
theorem WJ.frame {c : Ctx} {o : Oper} {Γ : Env} {H : List Ent} {ι : Type} {V2 : ι → Env} {H2 : ι → List Ent} (E : List Ent) (h : WJ c o Γ H V2 H2) : WJ c o Γ (H ++ E) V2 (fun i => H2 i ++ E) := by
 intro m hs a w hg hG hsat ho hn
 obtain ⟨h1, h2, rfl, hs1, hs2⟩ := Sat.split hsat
 have hg1 : JM m h1 w := JM.sub (hs := h2) (hg.perm List.perm_append_comm)
 refine WB.mono (h m h1 a w hg1 hG hs1 ho hn) ?_
 rintro v w' ⟨i, m', h1', hg', he', hsat', hf⟩
 have hnd := hg.nodup
 rw [Hp.bs_append, List.nodup_append] at hnd
 have hdis : ∀ b ∈ Hp.bs h2, b ∉ Hp.bs h1 := fun b hb hb1 => hnd.2.2 b hb1 b hb rfl
 have hlt : ∀ b ∈ Hp.bs h2, b < w.heap.size := fun b hb => hg.ltb (by rw [Hp.bs_append]; exact List.mem_append.2 (.inr hb))
 refine ⟨i, m', h1' ++ h2, ⟨hg'.mem, ?_, ?_, ?_⟩, he', Sat.append hsat' (hs2.mono hf.le), ?_⟩
 ·rw [Hp.bs_append, List.nodup_append]
  refine ⟨hg'.nodup, hnd.2.1, fun b hb b' hb' e => ?_⟩
  subst e
  rcases hf.own b hb with h | h
  ·exact hdis b hb' h
  ·have := hlt b hb'; omega
 ·intro x hx
  rcases List.mem_append.1 hx with hx | hx
  ·exact hg'.blk x hx
  ·have hb : x.1 ∈ Hp.bs h2 := List.mem_map.2 ⟨x, hx, rfl⟩
   rw [(hf.old x.1 (hlt _ hb) (hdis _ hb)).1]
   exact hg.blk x (List.mem_append.2 (.inr hx))
 ·intro x hx o'
  rcases List.mem_append.1 hx with hx | hx
  ·exact hg'.free x hx o'
  ·have hb : x.1 ∈ Hp.bs h2 := List.mem_map.2 ⟨x, hx, rfl⟩
   rw [(hf.old x.1 (hlt _ hb) (hdis _ hb)).2]
   exact hg.free x (List.mem_append.2 (.inr hx)) o'
 ·rw [Hp.bs_append, Hp.bs_append]; exact hf.wide _
structure LSt where
 ν : Type
 E : ν → List Ent
 V : ν → Env
def LSt.of (E : List Ent) : LSt := ⟨Unit, fun _ => E, fun _ => []⟩
structure Line where
 ini : List Ent
 st : List (Nat × LSt)
def atL (X : Nat → Bool) (s : LSt) : List (Nat × LSt) → LSt
 | [] => s
 | (k, s') :: r => bif X k then atL X s' r else s
def Line.at (X : Nat → Bool) (L : Line) : LSt := atL X (.of L.ini) L.st
def Wu (ok : LSt → List Ent → Prop) (X : Nat → Bool) : List Line → List (List Ent) → Prop
 | [], Es => Es = []
 | L :: Ls, Es => ∃ E Es', Es = E :: Es' ∧ ok (L.at X) E ∧ Wu ok X Ls Es'
theorem Wu.imp {ok ok' : LSt → List Ent → Prop} {X X' : Nat → Bool} : ∀ {Ls : List Line} {Es : List (List Ent)}, (∀ L ∈ Ls, ∀ E, ok (L.at X) E → ok' (L.at X') E) → Wu ok X Ls Es → Wu ok' X' Ls Es
 | [], _, _, h => h
 | L :: Ls, Es, h1, ⟨E, Es', e, h2, h⟩ => ⟨E, Es', e, h1 L (by simp) E h2, Wu.imp (fun L' hL => h1 L' (by simp [hL])) h⟩
theorem Wu.pick {ok : LSt → List Ent → Prop} {X : Nat → Bool} : ∀ {Ls : List Line} {Es : List (List Ent)} {p : Nat} {L : Line}, Wu ok X Ls Es → Ls[p]? = some L →
  ∃ E R, Es.flatten.Perm (E ++ R) ∧ ok (L.at X) E ∧
   ∀ {ok' : LSt → List Ent → Prop} {X' : Nat → Bool} (E2 : List Ent), (∀ q L', q ≠ p → Ls[q]? = some L' → ∀ E, ok (L'.at X) E → ok' (L'.at X') E) → ok' (L.at X') E2 →
    ∃ Es', Es'.flatten.Perm (E2 ++ R) ∧ Wu ok' X' Ls Es'
 | [], _, p, L, _, hp => by simp at hp
 | L0 :: Ls, Es, p, L, ⟨E, Es', e, h0, h⟩, hp => by
  subst e
  cases p with
  | zero =>
   simp only [List.getElem?_cons_zero, Option.some.injEq] at hp
   subst hp
   refine ⟨E, Es'.flatten, by rw [List.flatten_cons], h0, ?_⟩
   intro ok' X' E2 h1 h3
   refine ⟨E2 :: Es', by rw [List.flatten_cons], _, _, rfl, h3, ?_⟩
   refine h.imp (fun L' hL => ?_)
   obtain ⟨q, hq⟩ := List.getElem?_of_mem hL
   exact h1 (q + 1) L' (by omega) (by simpa using hq)
  | succ p =>
   obtain ⟨E1, R, hperm, he1, hk⟩ := Wu.pick h (by simpa using hp)
   refine ⟨E1, E ++ R, ?_, he1, ?_⟩
   ·rw [List.flatten_cons]
    refine (List.Perm.append_left E hperm).trans ?_
    rw [← List.append_assoc, ← List.append_assoc]
    exact List.Perm.append_right R List.perm_append_comm
   ·intro ok' X' E2 h1 h3
    obtain ⟨Es2, hp2, hl2⟩ := hk E2 (fun q L' hq hL => h1 (q + 1) L' (by omega) (by simpa using hL)) h3
    refine ⟨E :: Es2, ?_, E, Es2, rfl, h1 0 L0 (by omega) (by simp) E h0, hl2⟩
    rw [List.flatten_cons]
    refine (List.Perm.append_left E hp2).trans ?_
    rw [← List.append_assoc, ← List.append_assoc]
    exact List.Perm.append_right R List.perm_append_comm
theorem Sat.perm {m : Mem} {H H' : List Ent} (p : H.Perm H') : ∀ {hs : Hp}, Sat H m hs → ∃ hs', hs.Perm hs' ∧ Sat H' m hs' := by
 induction p with
 | nil => intro hs h; exact ⟨hs, List.Perm.refl _, h⟩
 | cons x _ ih =>
  rintro hs ⟨h1, h2, rfl, p, q⟩
  obtain ⟨h2', hp, hq⟩ := ih q
  exact ⟨h1 ++ h2', List.Perm.append_left h1 hp, h1, h2', rfl, p, hq⟩
 | swap x y l =>
  rintro hs ⟨h1, _, rfl, p, h2, h3, rfl, q, r⟩
  refine ⟨h2 ++ (h1 ++ h3), ?_, h2, h1 ++ h3, rfl, q, h1, h3, rfl, p, r⟩
  rw [← List.append_assoc, ← List.append_assoc]
  exact List.Perm.append_right h3 List.perm_append_comm
 | trans _ _ ih1 ih2 =>
  intro hs h
  obtain ⟨h1, p1, q1⟩ := ih1 h
  obtain ⟨h2, p2, q2⟩ := ih2 q1
  exact ⟨h2, p1.trans p2, q2⟩
inductive StepOf : LSt → List (Nat × LSt) → Nat → LSt → LSt → Prop
 | here {s s' : LSt} {k : Nat} {r : List (Nat × LSt)} : StepOf s ((k, s') :: r) k s s'
 | next {s s1 t t' : LSt} {k k1 : Nat} {r : List (Nat × LSt)} : StepOf s1 r k t t' → StepOf s ((k1, s1) :: r) k t t'
def BP (full : List Oper) : List Nat → Bool
 | [] => true
 | [_] => true
 | k :: k' :: r => (match full[k']? with | some o => (Xw o).any (Nat.beq k) | none => false) && Nat.blt k k' && BP full (k' :: r)
def QgJ (full : List Oper) (o : Oper) (Γ : Env) : Prop := o.guard = none ∨ W8 full o Γ true
inductive RL (c : Ctx) (full : List Oper) (H : List Ent) (Ls : List Line) : Nat → List Oper → Env → List Slot → Prop
 | nil {k : Nat} {Γ : Env} : RL c full H Ls k [] Γ []
 | read {k : Nat} {o : Oper} {os : List Oper} {Γ : Env} {s : Slot} {σ : List Slot} :
  (Ls.all fun L => L.st.all fun x => !Nat.beq x.1 k) = true → OK1 c full H o Γ s → RL c full H Ls (k + 1) os (push o.dst s Γ) σ → RL c full H Ls k (o :: os) Γ (s :: σ)
 | pre (p : Nat) {L : Line} {k k1 : Nat} {s1 : LSt} {r : List (Nat × LSt)} {o o1 : Oper} {os : List Oper} {Γ : Env} {s : Slot} {σ : List Slot} :
  (Ls.all fun L => L.st.all fun x => !Nat.beq x.1 k) = true → Ls[p]? = some L → L.st = (k1, s1) :: r → full[k1]? = some o1 → (Xw o1).any (Nat.beq k) = true →
  OK1 c full (L.ini ++ H) o Γ s → RL c full H Ls (k + 1) os (push o.dst s Γ) σ → RL c full H Ls k (o :: os) Γ (s :: σ)
 | step (p : Nat) {L : Line} {k : Nat} {t t' : LSt} {o : Oper} {os : List Oper} {Γ : Env} {s : Slot} {σ : List Slot} :
  Ls[p]? = some L → StepOf (.of L.ini) L.st k t t' → QgJ full o Γ →
  (∀ ν : t.ν, ∃ (ι : Type) (V2 : ι → Env) (up : ι → t'.ν), WJ c o (t.V ν ++ Γ) (t.E ν ++ H) V2 (fun i => t'.E (up i) ++ H) ∧ (∀ i, t'.V (up i) = V2 i ++ t.V ν) ∧ (∀ i m a, Y1 (V2 i) m a → ∀ d, o.dst = some d → s.p m (a.tmps.getD d undef)) ∧ ∀ i d s', lk (V2 i) d = some s' → o.dst = some d) →
  RL c full H Ls (k + 1) os (push o.dst s Γ) σ → RL c full H Ls k (o :: os) Γ (s :: σ)
theorem WU (A B : Env) (t : Nat) : lk (A ++ B) t = (lk A t).or (lk B t) := by
 induction A with
 | nil => rfl
 | cons p A ih =>
  obtain ⟨t', s⟩ := p
  by_cases h : t' = t
  ·subst h; rw [List.cons_append, Zs, Zs]; rfl
  ·rw [List.cons_append, Yw h, Yw h, ih]
theorem RL.at {c : Ctx} {full : List Oper} {H : List Ent} {Ls : List Line} {k : Nat} {l : List Oper} {Γ : Env} {σ : List Slot} (h : RL c full H Ls k l Γ σ) :
  ∀ i o, l[i]? = some o → ∃ s Γi, σ[i]? = some s ∧ (∀ t, lk Γi t = cur l σ Γ (fun _ => true) i t) ∧
   (((Ls.all fun L => L.st.all fun x => !Nat.beq x.1 (k + i)) = true ∧ (OK1 c full H o Γi s ∨
    ∃ (p : Nat) (L : Line) (k1 : Nat) (s1 : LSt) (r : List (Nat × LSt)) (o1 : Oper), Ls[p]? = some L ∧ L.st = (k1, s1) :: r ∧ full[k1]? = some o1 ∧ (Xw o1).any (Nat.beq (k + i)) = true ∧ OK1 c full (L.ini ++ H) o Γi s)) ∨
   ∃ (p : Nat) (L : Line) (t t' : LSt), Ls[p]? = some L ∧ StepOf (.of L.ini) L.st (k + i) t t' ∧ QgJ full o Γi ∧
    (∀ ν : t.ν, ∃ (ι : Type) (V2 : ι → Env) (up : ι → t'.ν), WJ c o (t.V ν ++ Γi) (t.E ν ++ H) V2 (fun i => t'.E (up i) ++ H) ∧ (∀ i, t'.V (up i) = V2 i ++ t.V ν) ∧ (∀ i m a, Y1 (V2 i) m a → ∀ d, o.dst = some d → s.p m (a.tmps.getD d undef)) ∧ ∀ i d s', lk (V2 i) d = some s' → o.dst = some d)) := by
 induction h with
 | nil => intro i o h; simp at h
 | @read k o os Γ s σ h0 h1 h2 ih =>
  intro i p hi
  cases i with
  | zero =>
   simp only [List.getElem?_cons_zero, Option.some.injEq] at hi
   subst hi
   exact ⟨s, Γ, rfl, fun t => rfl, .inl ⟨h0, .inl h1⟩⟩
  | succ i =>
   obtain ⟨s', Γi, hs, hl, hc⟩ := ih i p (by simpa using hi)
   refine ⟨s', Γi, by simpa using hs, fun t => by rw [hl t, Vj], ?_⟩
   rw [show k + (i + 1) = k + 1 + i by omega]; exact hc
 | @pre p L k k1 s1 r o o1 os Γ s σ h0 hp hst hf he h1 h2 ih =>
  intro i p' hi
  cases i with
  | zero =>
   simp only [List.getElem?_cons_zero, Option.some.injEq] at hi
   subst hi
   exact ⟨s, Γ, rfl, fun t => rfl, .inl ⟨h0, .inr ⟨p, L, k1, s1, r, o1, hp, hst, hf, he, h1⟩⟩⟩
  | succ i =>
   obtain ⟨s', Γi, hs, hl, hc⟩ := ih i p' (by simpa using hi)
   refine ⟨s', Γi, by simpa using hs, fun t => by rw [hl t, Vj], ?_⟩
   rw [show k + (i + 1) = k + 1 + i by omega]; exact hc
 | @step p L k t t' o os Γ s σ hp hst hg hw h2 ih =>
  intro i p' hi
  cases i with
  | zero =>
   simp only [List.getElem?_cons_zero, Option.some.injEq] at hi
   subst hi
   exact ⟨s, Γ, rfl, fun t => rfl, .inr ⟨p, L, t, t', hp, hst, hg, hw⟩⟩
  | succ i =>
   obtain ⟨s', Γi, hs, hl, hc⟩ := ih i p' (by simpa using hi)
   refine ⟨s', Γi, by simpa using hs, fun t => by rw [hl t, Vj], ?_⟩
   rw [show k + (i + 1) = k + 1 + i by omega]; exact hc
theorem RL.len {c : Ctx} {full : List Oper} {H : List Ent} {Ls : List Line} {k : Nat} {l : List Oper} {Γ : Env} {σ : List Slot} (h : RL c full H Ls k l Γ σ) : l.length = σ.length := by
 induction h with
 | nil => rfl
 | read _ _ _ ih => simp [ih]
 | pre _ _ _ _ _ _ _ _ ih => simp [ih]
 | step _ _ _ _ _ _ ih => simp [ih]
def QcQ (l : List Oper) (X : Nat → Bool) (V : Env) : Prop := ∀ t s, lk V t = some s → ∃ k o, l[k]? = some o ∧ X k = true ∧ o.dst = some t
def LOk (l : List Oper) (X : Nat → Bool) (m : Mem) (a : Act) (st : LSt) (E : List Ent) : Prop := ∃ ν, E = st.E ν ∧ Y1 (st.V ν) m a ∧ QcQ l X (st.V ν)
section
variable {c : Ctx} {Γ : Env} {H : List Ent} {a : Act} {w : World} {Q : Exit → Act → World → Prop} {l rest : List Oper} {σ : List Slot} {Ls : List Line} {X : Nat → Bool}
def QkY (c : Ctx) (l : List Oper) (σ : List Slot) (Ls : List Line) (Γ : Env) (H : List Ent) (X : Nat → Bool) (a : Act) (w : World) : Prop :=
 Dfr c a.defers w ∧ a.tmps.size = c.N ∧ ∃ m hs, JM m hs w ∧ c.G.p m ∧ (∀ t s, cur l σ Γ X l.length t = some s → s.p m (a.tmps.getD t undef)) ∧ Frm c.w0 w c.m0 m c.b0 hs.bs ∧
  ∃ Es, Sat (Es.flatten ++ H) m hs ∧ Wu (LOk l X m a) X Ls Es
theorem q9 {X : Nat → Bool} {i : Nat} : ∀ (st : List (Nat × LSt)) (s : LSt), (st.all fun x => !Nat.beq x.1 i) = true → atL (upd X i) s st = atL X s st
 | [], _, _ => rfl
 | (k, s') :: r, s, h => by
  simp only [List.all_cons, Bool.and_eq_true, Bool.not_eq_true', beq_eq_false_iff_ne] at h
  have hk : k ≠ i := by intro e; subst e; simp at h
  simp only [atL, upd, if_neg hk]
  rw [q9 r s' h.2]
theorem StepOf.mem {s : LSt} {st : List (Nat × LSt)} {k : Nat} {t t' : LSt} (h : StepOf s st k t t') : ∃ x ∈ st, x.1 = k := by
 induction h with
 | here => exact ⟨_, List.mem_cons_self, rfl⟩
 | next _ ih => obtain ⟨x, hx, e⟩ := ih; exact ⟨x, by simp [hx], e⟩
theorem QiQ {full : List Oper} {X : Nat → Bool} {i : Nat} {o : Oper} (hcl : ∀ j p, full[j]? = some p → X j = true → ∀ e ∈ Xw p, X e = true) (hi : full[i]? = some o) (hX : X i = false) (he : ∀ j ∈ Xw o, X j = true)
  {s : LSt} {st : List (Nat × LSt)} {t t' : LSt} (h : StepOf s st i t t') (hc : BP full (st.map (·.1)) = true) :
  (∀ x, st.head? = some x → X x.1 = true ∨ x.1 = i) ∧ atL X s st = t ∧ atL (upd X i) s st = t' := by
 induction h with
 | @here s s' k r =>
  refine ⟨fun x hx => .inr (by simp at hx; rw [← hx]), by simp [atL, hX], ?_⟩
  have : atL (upd X k) s' r = s' := by
   cases r with
   | nil => rfl
   | cons y r =>
    simp only [List.map_cons, BP, Bool.and_eq_true] at hc
    obtain ⟨⟨hc1, hc2⟩, _⟩ := hc
    have hlt : k < y.1 := by simpa [Nat.blt_eq] using hc2
    cases hy : full[y.1]? with
    | none => rw [hy] at hc1; cases hc1
    | some p =>
     rw [hy] at hc1
     have hmem : k ∈ Xw p := by
      simp only [List.any_eq_true] at hc1
      obtain ⟨z, hz, e⟩ := hc1
      rw [Nat.eq_of_beq_eq_true e]; exact hz
     have hXy : X y.1 = false := by
      cases hXy : X y.1 with
      | false => rfl
      | true => have := hcl y.1 p hy hXy k hmem; rw [hX] at this; cases this
     have hne : y.1 ≠ k := by omega
     simp only [atL, upd, if_neg hne, hXy, cond_false]
  simp only [atL, upd, if_true, cond_true]
  exact this
 | @next s s1 t t' k k1 r h ih =>
  have hc' : BP full (r.map (·.1)) = true := by
   cases r with
   | nil => rfl
   | cons y r => simp only [List.map_cons, BP, Bool.and_eq_true] at hc; exact hc.2
  obtain ⟨ih1, ih2, ih3⟩ := ih hi hX hc'
  have hXk1 : X k1 = true := by
   cases r with
   | nil => cases h
   | cons y r =>
    simp only [List.map_cons, BP, Bool.and_eq_true] at hc
    obtain ⟨⟨hc1, hc2⟩, _⟩ := hc
    cases hy : full[y.1]? with
    | none => rw [hy] at hc1; cases hc1
    | some p =>
     rw [hy] at hc1
     have hmem : k1 ∈ Xw p := by
      simp only [List.any_eq_true] at hc1
      obtain ⟨z, hz, e⟩ := hc1
      rw [Nat.eq_of_beq_eq_true e]; exact hz
     rcases ih1 y rfl with h2 | h2
     ·exact hcl y.1 p hy h2 k1 hmem
     ·rw [h2] at hy
      rw [hi] at hy; cases hy
      exact he k1 hmem
  have hne : k1 ≠ k := fun e => by rw [e, hX] at hXk1; cases hXk1
  refine ⟨fun x hx => .inl (by simp at hx; rw [← hx]; exact hXk1), by simp only [atL, hXk1, cond_true]; exact ih2, ?_⟩
  simp only [atL, upd, if_neg hne, hXk1, cond_true]
  exact ih3
def Qe7 : List Line → Bool
 | [] => true
 | L :: r => (r.all fun L' => L'.st.all fun y => L.st.all fun x => !Nat.beq x.1 y.1) && Qe7 r
theorem QeW : ∀ {Ls : List Line} {p q : Nat} {L L' : Line}, Qe7 Ls = true → Ls[p]? = some L → Ls[q]? = some L' → p ≠ q → ∀ x ∈ L.st, ∀ y ∈ L'.st, x.1 ≠ y.1
 | [], p, q, L, L', _, hp, _, _ => by simp at hp
 | L0 :: r, p, q, L, L', h, hp, hq, hne => by
  simp only [Qe7, Bool.and_eq_true, List.all_eq_true, Bool.not_eq_true'] at h
  cases p with
  | zero =>
   simp only [List.getElem?_cons_zero, Option.some.injEq] at hp
   subst hp
   cases q with
   | zero => exact absurd rfl hne
   | succ q =>
    intro x hx y hy e
    have := h.1 L' (List.mem_of_getElem? (by simpa using hq)) y hy x hx
    rw [e] at this; simp at this
  | succ p =>
   cases q with
   | zero =>
    simp only [List.getElem?_cons_zero, Option.some.injEq] at hq
    subst hq
    intro x hx y hy e
    have := h.1 L (List.mem_of_getElem? (by simpa using hp)) x hx y hy
    rw [e] at this; simp at this
   | succ q => exact QeW h.2 (by simpa using hp) (by simpa using hq) (by omega)
def qT (l : List Oper) (Ls : List Line) : Bool := (Ls.all fun L => BP l (L.st.map (·.1)) && L.st.all fun x => Nat.blt x.1 l.length) && Qe7 Ls
theorem QcQ.mono {X X' : Nat → Bool} {V : Env} (h : ∀ k, X k = true → X' k = true) (hk : QcQ l X V) : QcQ l X' V := fun t s e => by
 obtain ⟨k, o, h1, h2, h3⟩ := hk t s e; exact ⟨k, o, h1, h _ h2, h3⟩
theorem Qht {i : Nat} {o : Oper} {K : Act → World → Prop} (hB : UL (l ++ rest) l.length = true) (hN : Qcm c.N l = true) (hU : Qbs l = true) (hL : qT l Ls = true) (hR : RL c (l ++ rest) H Ls 0 l Γ σ)
  (hi : l[i]? = some o) (hX : X i = false) (he : ∀ j ∈ Xw o, X j = true) (hcl : ∀ j p, l[j]? = some p → X j = true → ∀ e ∈ Xw p, X e = true)
  (hD : QkY c l σ Ls Γ H X a w) (hK : ∀ a' w', QkY c l σ Ls Γ H (upd X i) a' w' → K a' w') : wpOpIn (fen c.ro) 0 c.P (l ++ rest).toArray Q i K a w := by
 have hlt : i < l.length := (List.getElem?_eq_some_iff.1 hi).1
 have hfull : ∀ {j p}, l[j]? = some p → (l ++ rest)[j]? = some p := fun {j p} h => by
  rw [List.getElem?_append_left (List.getElem?_eq_some_iff.1 h).1]; exact h
 have hfi := hfull hi
 have hop : (l ++ rest).toArray[i]? = some o := by simpa using hfi
 obtain ⟨s, Γi, hs, hlk, hcase⟩ := hR.at i o hi
 obtain ⟨hdf, hn, m, hs2, hg, hG, hcur, hfr, Es, hsat, hln⟩ := hD
 have hafter : ∀ t ∈ VF (l ++ rest) o, ∀ j p, i < j → l[j]? = some p → p.dst = some t → X j = false := by
  intro t ht j p hij hp hd
  cases hXj : X j with
  | false => rfl
  | true =>
   have := (Bk hB hfi (hfull hp) (by omega) hd ht).2 hij
   have := hcl j p hp hXj i this
   rw [hX] at this; cases this
 have hknown : ∀ t ∈ VF (l ++ rest) o, cur l σ Γ X l.length t = lk Γi t := by
  intro t ht
  rw [hlk t, U0 l.length (by omega : i ≤ l.length), QdE i]
  ·intro j p hj hp hd
   exact he j ((Bk hB hfi (hfull hp) (by omega) hd ht).1 hj)
  ·intro j p h1 h2 hp hd
   by_cases hji : j = i
   ·subst hji; exact hX
   ·exact hafter t ht j p (by omega) hp hd
 have hopV : ∀ (V : Env), Y1 V m a → QdF o (V ++ Γi) m a := by
  intro V hV x hx
  cases x with
  | tmp t =>
   intro s' e
   have ht : t ∈ VF (l ++ rest) o := by
    simp only [VF, List.mem_append]
    refine .inl (.inr ?_)
    simp only [QgA, List.mem_filterMap]
    exact ⟨.tmp t, by simpa using hx, rfl⟩
   rw [WU] at e
   cases hv : lk V t with
   | some s1 => rw [hv] at e; cases e; exact hV t _ hv
   | none => rw [hv] at e; exact hcur t s' (by rw [hknown t ht]; exact e)
  | _ => trivial
 have hopd : QdF o Γi m a := hopV [] (fun t s e => by cases e)
 have hdN : ∀ d, o.dst = some d → d < a.tmps.size := by
  intro d hd
  simp only [Qcm, List.all_eq_true] at hN
  have := hN o (List.mem_of_getElem? hi)
  rw [hd] at this
  rw [hn]; simpa [Nat.blt_eq] using this
 have hnew : ∀ {m' : Mem} {v : Value}, Mle m m' → (∀ d, o.dst = some d → s.p m' v) → ∀ t s', cur l σ Γ (upd X i) l.length t = some s' → s'.p m' ((a.put o.dst v).tmps.getD t undef) := by
  intro m' v hle hv t s' e
  by_cases hd : o.dst = some t
  ·have ht : t ∈ VF (l ++ rest) o := by simp [VF, hd]
   rw [U0 l.length (by omega : i + 1 ≤ l.length)] at e
   ·rw [cur] at e
    simp only [hi, hs, upd, if_true, hd, beq_self_eq_true, Bool.and_self] at e
    cases e
    rw [hd, Vw (hdN t hd)]
    exact hv t hd
   ·intro j p h1 h2 hp hdp
    have hji : j ≠ i := by omega
    simp only [upd, if_neg hji]
    exact hafter t ht j p (by omega) hp hdp
  ·have e' : cur l σ Γ X l.length t = some s' := by
    rw [← e]
    refine Um l.length fun j p hj hp hdp => ?_
    by_cases hji : j = i
    ·subst hji
     rw [hi] at hp; cases hp
     exact absurd hdp hd
    ·simp [upd, hji]
   have hgd : (a.put o.dst v).tmps.getD t undef = a.tmps.getD t undef := by
    cases hdd : o.dst with
    | none => rfl
    | some d => exact Ux (fun e => hd (by rw [hdd, e]))
   rw [hgd]
   exact s'.mono hle (hcur t s' e')
 have hXu : ∀ k, X k = true → upd X i k = true := fun k hk => by simp only [upd]; split <;> simp [hk]
 -- what the lines know stays
 have hkeep : ∀ {V : Env} {m' : Mem} {v : Value}, Mle m m' → Y1 V m a → QcQ l X V → Y1 V m' (a.put o.dst v) := by
  intro V m' v hle hV hk t s' e
  have hne : o.dst ≠ some t := by
   intro hd
   obtain ⟨k, p, h1, h2, h3⟩ := hk t s' e
   have := QeR hU hi h1 hd h3
   rw [this, h2] at hX; cases hX
  have hgd : (a.put o.dst v).tmps.getD t undef = a.tmps.getD t undef := by
   cases hdd : o.dst with
   | none => rfl
   | some d => exact Ux (fun e => hne (by rw [hdd, e]))
  rw [hgd]
  exact s'.mono hle (hV t s' e)
 unfold wpOpIn
 rw [hop]
 simp only []
 have hLs : ∀ L ∈ Ls, BP l (L.st.map (·.1)) = true ∧ ∀ x ∈ L.st, x.1 < l.length := by
  intro L hLm
  simp only [qT, Bool.and_eq_true, List.all_eq_true] at hL
  have := hL.1 L hLm
  exact ⟨this.1, fun x hx => by simpa [Nat.blt_eq] using this.2 x hx⟩
 have hdisj : Qe7 Ls = true := by simp only [qT, Bool.and_eq_true] at hL; exact hL.2
 have hguard : ∀ {yes : Bool}, W8 (l ++ rest) o Γi yes → Region.wanted o (yielded (l ++ rest).toArray a.tmps) = yes := by
  rintro yes ⟨j, want, b, t, s', hgd, hj, hl, hb, hy⟩
  have ht : t ∈ VF (l ++ rest) o := by simp [VF, QiY, hgd, hj]
  have hv := hb m _ (hcur t s' (by rw [hknown t ht]; exact hl))
  have hlt2 : t < a.tmps.size := by
   rcases Nat.lt_or_ge t a.tmps.size with h | h
   ·exact h
   ·have : a.tmps.getD t undef = undef := by simp [Array.getD, Nat.not_lt.2 h]
    rw [this] at hv; cases hv
  have hyv : yielded (l ++ rest).toArray a.tmps j = some b := by
   simp only [yielded, List.getElem?_toArray, hj, Option.bind_some, Array.getElem?_eq_getElem hlt2]
   simp only [Array.getD, hlt2, dite_true] at hv
   simp only [Array.getInternal_eq_getElem] at hv
   rw [hv]
  simp only [Region.wanted, hgd, hyv]
  rw [← hy]; cases b <;> cases want <;> rfl
 rcases hcase with ⟨hnot, hok⟩ | ⟨p, L, t, t', hp, hst, hgd, hstep⟩
 ·rw [Nat.zero_add] at hnot
  have hat : ∀ L ∈ Ls, L.at (upd X i) = L.at X := fun L hLm => q9 _ _ (by rw [List.all_eq_true] at hnot; exact hnot L hLm)
  have hln2 : ∀ {m' : Mem} {v : Value}, Mle m m' → Wu (LOk l (upd X i) m' (a.put o.dst v)) (upd X i) Ls Es := by
   intro m' v hle
   refine hln.imp fun L hLm E hE => ?_
   rw [hat L hLm]
   obtain ⟨ν, e, hV, hk⟩ := hE
   exact ⟨ν, e, hkeep hle hV hk, hk.mono hXu⟩
  have hrun : ∀ {H0 : List Ent}, (∃ R, (Es.flatten ++ H).Perm (H0 ++ R)) → PJ c o Γi H0 s → o.wpIn (fen c.ro) 0 c.P a w K Q := by
   rintro H0 ⟨R, hpm⟩ hpj
   obtain ⟨hs3, hp3, hsat3⟩ := Sat.perm (hpm.trans List.perm_append_comm) hsat
   refine WB.wp ((hpj.frame R) m hs3 a w (hg.perm hp3) hG hsat3 hopd) ?_
   rintro v w' ⟨m', hg', hv, hf⟩
   refine hK _ _ ⟨by rw [Yh]; exact hdf.step hg (hf.keepOwn _), by rw [Xr]; exact hn, m', hs2, hg'.perm hp3.symm, c.G.mono hf.le hG, hnew hf.le (fun _ _ => hv), hfr.trans (hf.keepOwn _), Es, hsat.frm hf, hln2 hf.le⟩
  have hundef : qU (l ++ rest) o Γi → Region.wanted o (yielded (l ++ rest).toArray a.tmps) = false := by
   rintro ⟨j, want, t, hgd, hj, hl⟩
   have ht : t ∈ VF (l ++ rest) o := by simp [VF, QiY, hgd, hj]
   have hv : a.tmps.getD t undef = undef := hcur t _ (by rw [hknown t ht]; exact hl)
   have hyv : yielded (l ++ rest).toArray a.tmps j = none := by
    simp only [yielded, List.getElem?_toArray, hj, Option.bind_some]
    by_cases hlt : t < a.tmps.size
    ·simp only [Array.getElem?_eq_getElem hlt]
     simp only [Array.getD, hlt, dite_true] at hv
     simp only [Array.getInternal_eq_getElem] at hv
     rw [hv]; rfl
    ·simp [Array.getElem?_eq_none (Nat.not_lt.1 hlt)]
   simp only [Region.wanted, hgd, hyv]; rfl
  have hfin : ∀ {H0 : List Ent}, (∃ R, (Es.flatten ++ H).Perm (H0 ++ R)) → OK1 c (l ++ rest) H0 o Γi s → (if Region.wanted o (yielded (l ++ rest).toArray a.tmps) = true then o.wpIn (fen c.ro) 0 c.P a w K Q else (∀ f, o.about c.P w a.eval = some f → (fen c.ro).fn f) ∧ K (a.put o.dst undef) w) := by
   intro H0 hpm hok
   cases hok with
   | plain hgd hpj =>
    have hw : Region.wanted o (yielded (l ++ rest).toArray a.tmps) = true := by simp [Region.wanted, hgd]
    rw [if_pos hw]
    exact hrun hpm hpj
   | yes hgd hpj =>
    rw [if_pos (hguard hgd)]
    exact hrun hpm hpj
   | no hgd =>
    have hw := hguard hgd
    rw [if_neg (by rw [hw]; simp)]
    exact ⟨fun f _ => Qaa _ f, hK _ _ ⟨by rw [Yh]; exact hdf, by rw [Xr]; exact hn, m, hs2, hg, hG, hnew (Mle.refl m) (fun _ _ => rfl), hfr, Es, hsat, hln2 (Mle.refl m)⟩⟩
   | undef hgd =>
    have hw := hundef hgd
    rw [if_neg (by rw [hw]; simp)]
    exact ⟨fun f _ => Qaa _ f, hK _ _ ⟨by rw [Yh]; exact hdf, by rw [Xr]; exact hn, m, hs2, hg, hG, hnew (Mle.refl m) (fun _ _ => rfl), hfr, Es, hsat, hln2 (Mle.refl m)⟩⟩
  rcases hok with hok | ⟨p, L, k1, s1, r, o1, hp, hst, hk1, hed, hok⟩
  ·exact hfin ⟨Es.flatten, List.perm_append_comm⟩ hok
  ·-- the line has not begun
   have hk1l : k1 < l.length := (hLs L (List.mem_of_getElem? hp)).2 (k1, s1) (by rw [hst]; simp)
   rw [List.getElem?_append_left hk1l] at hk1
   have hXk : X k1 = false := by
    cases hXk : X k1 with
    | false => rfl
    | true =>
     have hmem : i ∈ Xw o1 := by
      simp only [List.any_eq_true, Nat.zero_add] at hed
      obtain ⟨z, hz, e⟩ := hed
      rw [Nat.eq_of_beq_eq_true e]; exact hz
     have := hcl k1 o1 hk1 hXk i hmem
     rw [hX] at this; cases this
   have hLat : L.at X = .of L.ini := by simp [Line.at, hst, atL, hXk]
   obtain ⟨E, R, hperm, hok2, _⟩ := hln.pick hp
   rw [hLat] at hok2
   obtain ⟨ν, rfl, _, _⟩ := hok2
   refine hfin (H0 := L.ini ++ H) ⟨R, ?_⟩ hok
   have : Es.flatten.Perm (L.ini ++ R) := hperm
   refine (List.Perm.append_right H this).trans ?_
   rw [List.append_assoc, List.append_assoc]
   exact List.Perm.append_left _ List.perm_append_comm
 ·have hw : Region.wanted o (yielded (l ++ rest).toArray a.tmps) = true := by
   rcases hgd with hgd | hgd
   ·simp [Region.wanted, hgd]
   ·exact hguard hgd
  rw [if_pos hw]
  rw [Nat.zero_add] at hst
  have hLm := List.mem_of_getElem? hp
  obtain ⟨_, hat1, hat2⟩ := QiQ hcl hi hX he hst (hLs L hLm).1
  obtain ⟨E, R, hperm, hok, hk⟩ := hln.pick hp
  have hat1' : L.at X = t := hat1
  have hat2' : L.at (upd X i) = t' := hat2
  rw [hat1'] at hok
  obtain ⟨ν, rfl, hV, hkeys⟩ := hok
  obtain ⟨ι, V2, up, hwj, hup, hs1, hdst⟩ := hstep ν
  have hpm : (Es.flatten ++ H).Perm ((t.E ν ++ H) ++ R) := by
   refine (List.Perm.append_right H hperm).trans ?_
   rw [List.append_assoc, List.append_assoc]
   exact List.Perm.append_left _ List.perm_append_comm
  obtain ⟨hs3, hp3, hsat3⟩ := Sat.perm hpm hsat
  refine (WB.wp ((hwj.frame R) m hs3 a w (hg.perm hp3) hG hsat3 (hopV _ hV) hn) ?_)
  rintro v w' ⟨j, m', hs4, hg', heV, hsat4, hf⟩
  have hother : ∀ q L', q ≠ p → Ls[q]? = some L' → ∀ E, LOk l X m a (L'.at X) E → LOk l (upd X i) m' (a.put o.dst v) (L'.at (upd X i)) E := by
   intro q L' hq hL' E hE
   have hne : (L'.st.all fun x => !Nat.beq x.1 i) = true := by
    rw [List.all_eq_true]
    intro x hx
    obtain ⟨y, hy, e⟩ := hst.mem
    have := QeW hdisj hp hL' (fun e => hq e.symm) y hy x hx
    rw [e] at this
    simp only [Bool.not_eq_true', beq_eq_false_iff_ne]
    cases hb : Nat.beq x.1 i with
    | false => rfl
    | true => exact absurd (Nat.eq_of_beq_eq_true hb).symm this
   rw [show L'.at (upd X i) = L'.at X from q9 _ _ hne]
   obtain ⟨ν', e, hV', hk'⟩ := hE
   exact ⟨ν', e, hkeep hf.le hV' hk', hk'.mono hXu⟩
  obtain ⟨Es', hpE, hlnE⟩ := hk (ok' := LOk l (upd X i) m' (a.put o.dst v)) (X' := upd X i) (t'.E (up j)) hother (by
   rw [hat2']
   refine ⟨up j, rfl, ?_, ?_⟩
   ·rw [hup]
    intro t1 s1 e
    rw [WU] at e
    cases hv : lk (V2 j) t1 with
    | some s2 => rw [hv] at e; cases e; exact heV t1 _ hv
    | none => rw [hv] at e; exact hkeep hf.le hV hkeys t1 s1 e
   ·rw [hup]
    intro t1 s1 e
    rw [WU] at e
    cases hv : lk (V2 j) t1 with
    | some s2 => exact ⟨i, o, hi, by simp [upd], hdst j t1 s2 hv⟩
    | none => rw [hv] at e; exact hkeys.mono hXu t1 s1 e)
  have hpm2 : ((t'.E (up j) ++ H) ++ R).Perm (Es'.flatten ++ H) := by
   refine List.Perm.trans ?_ (List.Perm.append_right H hpE.symm)
   rw [List.append_assoc, List.append_assoc]
   exact List.Perm.append_left _ List.perm_append_comm
  obtain ⟨hs5, hp5, hsat5⟩ := Sat.perm hpm2 hsat4
  refine hK _ _ ⟨by rw [Yh]; exact hdf.step hg (Frm.ofPerm hp3 hf), by rw [Xr]; exact hn, m', hs5, hg'.perm hp5, c.G.mono hf.le hG, ?_, hfr.trans ((Frm.ofPerm hp3 hf).perm hp5), Es', hsat5, hlnE⟩
  refine hnew hf.le fun d hd => ?_
  have := hs1 j m' (a.put o.dst v) heV d hd
  rwa [hd, Vw (hdN d hd)] at this
theorem QiE {Inv : (Nat → Bool) → Act → World → Prop} (hB : UL (l ++ rest) l.length = true)
  (hstep : ∀ (X : Nat → Bool) (i : Nat) (o : Oper) (K : Act → World → Prop) (a : Act) (w : World), l[i]? = some o → X i = false → (∀ j ∈ Xw o, X j = true) → (∀ j p, l[j]? = some p → X j = true → ∀ e ∈ Xw p, X e = true) → Inv X a w →
   (∀ a' w', Inv (upd X i) a' w' → K a' w') → wpOpIn (fen c.ro) 0 c.P (l ++ rest).toArray Q i K a w)
  (hend : ∀ X a w, (∀ i, i < l.length → X i = true) → Inv X a w → wpListIn (fen c.ro) 0 c.P (l ++ rest).toArray Q rest a w) :
  ∀ (fuel : Nat) (listed : Array Bool) (a : Act) (w : World), listed.size = (l ++ rest).length → left (l ++ rest).length (Xof listed) ≤ fuel →
   (((∀ i, l.length ≤ i → Xof listed i = false) ∧ (∀ j p, l[j]? = some p → Xof listed j = true → ∀ e ∈ Xw p, Xof listed e = true) ∧ Inv (Xof listed) a w) ∨
    (∃ p, l.length ≤ p ∧ p ≤ (l ++ rest).length ∧ (∀ i, i < (l ++ rest).length → Xof listed i = decide (i < p)) ∧ wpListIn (fen c.ro) 0 c.P (l ++ rest).toArray Q ((l ++ rest).drop p) a w)) →
   wpAnyIn (fen c.ro) 0 c.P .any (l ++ rest).toArray Q fuel listed a w := by
 -- a first part that is done is a second part that has begun
 have conv : ∀ {listed : Array Bool} {a : Act} {w : World}, (∀ i, l.length ≤ i → Xof listed i = false) → Inv (Xof listed) a w → (∀ i, i < l.length → Xof listed i = true) →
   ∃ p, l.length ≤ p ∧ p ≤ (l ++ rest).length ∧ (∀ i, i < (l ++ rest).length → Xof listed i = decide (i < p)) ∧ wpListIn (fen c.ro) 0 c.P (l ++ rest).toArray Q ((l ++ rest).drop p) a w := by
  intro listed a w h1 h2 h3
  refine ⟨l.length, Nat.le_refl _, by simp, fun i _ => ?_, ?_⟩
  ·by_cases hi : i < l.length
   ·simp [hi, h3 i hi]
   ·simp [hi, h1 i (by omega)]
  ·rw [List.drop_left']
   ·exact hend _ a w h3 h2
   ·rfl
 intro fuel
 induction fuel with
 | zero =>
  intro listed a w hsz hleft hinv
  have hall := Qdr (Nat.le_zero.1 hleft)
  have hemp : Region.ready .any (l ++ rest).toArray listed = [] := by
   rw [List.eq_nil_iff_forall_not_mem]
   intro i hi
   obtain ⟨o, ho, hX, _⟩ := (UZ hsz).1 hi
   rw [hall i (List.getElem?_eq_some_iff.1 ho).1] at hX; cases hX
  refine ⟨hemp, ?_⟩
  obtain ⟨p, hp1, hp2, hp3, hp4⟩ : ∃ p, l.length ≤ p ∧ p ≤ (l ++ rest).length ∧ (∀ i, i < (l ++ rest).length → Xof listed i = decide (i < p)) ∧ wpListIn (fen c.ro) 0 c.P (l ++ rest).toArray Q ((l ++ rest).drop p) a w := by
   rcases hinv with ⟨h1, _, h2⟩ | h
   ·exact conv h1 h2 (fun i hi => hall i (by simp; omega))
   ·exact h
  have hpe : p = (l ++ rest).length := by
   rcases Nat.lt_or_ge p (l ++ rest).length with h | h
   ·have := hp3 p h
    rw [hall p h] at this; simp at this
   ·omega
  rw [hpe, List.drop_length] at hp4
  exact hp4
 | succ fuel ih =>
  intro listed a w hsz hleft hinv
  -- nothing is ready: all is done
  have hdone : Region.ready .any (l ++ rest).toArray listed = [] → ∀ i, i < (l ++ rest).length → Xof listed i = true := by
   intro hemp i
   induction i using Nat.strongRecOn with
   | _ i ihi =>
    intro hi
    cases hX : Xof listed i with
    | true => rfl
    | false =>
     have : i ∈ Region.ready .any (l ++ rest).toArray listed := (UZ hsz).2 ⟨(l ++ rest)[i], List.getElem?_eq_getElem hi, hX, fun j hj => by
      have hji := Bd hB (List.getElem?_eq_getElem hi) j hj
      exact ihi j hji (by omega)⟩
     rw [hemp] at this; cases this
  refine ⟨fun hemp => ?_, fun i hi => ?_⟩
  ·have hall := hdone hemp
   obtain ⟨p, hp1, hp2, hp3, hp4⟩ : ∃ p, l.length ≤ p ∧ p ≤ (l ++ rest).length ∧ (∀ i, i < (l ++ rest).length → Xof listed i = decide (i < p)) ∧ wpListIn (fen c.ro) 0 c.P (l ++ rest).toArray Q ((l ++ rest).drop p) a w := by
    rcases hinv with ⟨h1, _, h2⟩ | h
    ·exact conv h1 h2 (fun i hi => hall i (by simp; omega))
    ·exact h
   have hpe : p = (l ++ rest).length := by
    rcases Nat.lt_or_ge p (l ++ rest).length with h | h
    ·have := hp3 p h
     rw [hall p h] at this; simp at this
    ·omega
   rw [hpe, List.drop_length] at hp4
   exact hp4
  ·obtain ⟨o, ho, hX, hedge⟩ := (UZ hsz).1 hi
   have hilt := (List.getElem?_eq_some_iff.1 ho).1
   have hsz' : (listed.setIfInBounds i true).size = (l ++ rest).length := by simpa using hsz
   have hXu := QgQ (listed := listed) (i := i) (by omega)
   have hleft' : left (l ++ rest).length (Xof (listed.setIfInBounds i true)) ≤ fuel := by
    rw [hXu]; have := Qfi hilt hX; omega
   -- which part?
   have hB' : (∃ p, l.length ≤ p ∧ p ≤ (l ++ rest).length ∧ (∀ i, i < (l ++ rest).length → Xof listed i = decide (i < p)) ∧ wpListIn (fen c.ro) 0 c.P (l ++ rest).toArray Q ((l ++ rest).drop p) a w) →
     wpOpIn (fen c.ro) 0 c.P (l ++ rest).toArray Q i (wpAnyIn (fen c.ro) 0 c.P .any (l ++ rest).toArray Q fuel (listed.setIfInBounds i true)) a w := by
    rintro ⟨p, hp1, hp2, hp3, hp4⟩
    have hip : ¬ i < p := by
     intro h
     have := hp3 i hilt
     rw [hX] at this; simp [h] at this
    have hpi : p = i := by
     rcases Nat.lt_or_ge p i with h | h
     ·have := W5 hB ho (by omega) (X := Xof listed) hedge (fun j q hj hXj e he => by
       have hjl := (List.getElem?_eq_some_iff.1 hj).1
       rw [hp3 j hjl] at hXj
       have hjp : j < p := by simpa using hXj
       have hej := Bd hB hj e he
       rw [hp3 e (by omega)]; simp; omega) p h
      rw [hp3 p (by omega)] at this
      simp at this
     ·omega
    subst hpi
    rw [List.drop_eq_getElem_cons hilt] at hp4
    have hoe : (l ++ rest)[p] = o := (List.getElem?_eq_some_iff.1 ho).2
    rw [hoe] at hp4
    have hop : (l ++ rest).toArray[p]? = some o := by simpa using ho
    have : wpOpIn (fen c.ro) 0 c.P (l ++ rest).toArray Q p (wpListIn (fen c.ro) 0 c.P (l ++ rest).toArray Q ((l ++ rest).drop (p + 1))) a w := by
     unfold wpOpIn
     rw [hop]
     exact hp4
    refine wpOpIn_mono (fun a' w' h' => ?_) this
    refine ih _ a' w' hsz' hleft' (.inr ⟨p + 1, by omega, by omega, fun j hj => ?_, h'⟩)
    rw [hXu]
    by_cases hjp : j = p
    ·simp [upd, hjp]
    ·simp only [upd, if_neg hjp, hp3 j hj]
     congr 1
     rw [eq_iff_iff]; omega
   rcases hinv with ⟨h1, h2, h3⟩ | h
   ·by_cases hil : i < l.length
    ·have hol : l[i]? = some o := by rwa [List.getElem?_append_left hil] at ho
     refine hstep _ _ _ _ _ _ hol hX hedge h2 h3 fun a' w' hD => ?_
     refine ih _ a' w' hsz' hleft' (.inl ⟨fun j hj => ?_, fun j p hp hj e he => ?_, by rw [hXu]; exact hD⟩)
     ·rw [hXu]
      have : j ≠ i := by omega
      simp only [upd, if_neg this]
      exact h1 j hj
     ·rw [hXu] at hj ⊢
      simp only [upd] at hj ⊢
      split
      ·rfl
      ·by_cases hji : j = i
       ·subst hji
        rw [hol] at hp; cases hp
        exact hedge e he
       ·rw [if_neg hji] at hj
        exact h2 j p hp hj e he
    ·refine hB' (conv h1 h3 fun j hj => ?_)
     refine W5 hB ho (by omega) (X := Xof listed) hedge (fun j' q hj' hXj e he => ?_) j (by omega)
     have hjl : j' < l.length := by
      rcases Nat.lt_or_ge j' l.length with h | h
      ·exact h
      ·rw [h1 j' h] at hXj; cases hXj
     exact h2 j' q (by rwa [List.getElem?_append_left hjl] at hj') hXj e he
   ·exact hB' h
def Line.fin (L : Line) : LSt := atL (fun _ => true) (.of L.ini) L.st
def QbA (K : Env → List Ent → Prop) : List Line → Env → List Ent → Prop
 | [], V, E => K V E
 | L :: Ls, V, E => ∀ ν : (L.fin).ν, QbA K Ls ((L.fin).V ν ++ V) (E ++ (L.fin).E ν)
theorem QbA.use {K : Env → List Ent → Prop} {l : List Oper} {X : Nat → Bool} {m : Mem} {a : Act} : ∀ {Ls : List Line} {V : Env} {E : List Ent} {Es : List (List Ent)}, QbA K Ls V E → Wu (LOk l X m a) (fun _ => true) Ls Es → Y1 V m a →
  ∃ V', K V' (E ++ Es.flatten) ∧ Y1 V' m a
 | [], V, E, Es, h, hl, hV => by
  cases hl
  exact ⟨V, by rw [List.flatten_nil, List.append_nil]; exact h, hV⟩
 | L :: Ls, V, E, Es, h, ⟨E1, Es', e, ⟨ν, e1, hV1, _⟩, hl⟩, hV => by
  subst e
  obtain ⟨V', hk, hv⟩ := QbA.use (h ν) hl (fun t s e => by
   rw [WU] at e
   cases hv : lk ((L.fin).V ν) t with
   | some s1 => rw [hv] at e; cases e; exact hV1 t _ hv
   | none => rw [hv] at e; exact hV t s e)
  refine ⟨V', ?_, hv⟩
  have e1' : E1 = (L.fin).E ν := e1
  rw [List.flatten_cons, ← List.append_assoc, e1']
  exact hk
theorem Qdn {l : List Oper} {m : Mem} {a : Act} {X : Nat → Bool} (hX : ∀ i, X i = false) : ∀ (Ls : List Line), Wu (LOk l X m a) X Ls (Ls.map (·.ini))
 | [] => rfl
 | L :: Ls => by
  refine ⟨L.ini, Ls.map (·.ini), rfl, ?_, Qdn hX Ls⟩
  have : L.at X = .of L.ini := by
   unfold Line.at
   cases hs : L.st with
   | nil => rfl
   | cons y r => simp [atL, hX]
  rw [this]
  exact ⟨(), rfl, (fun t s e => by cases e), (fun t s e => by cases e)⟩
theorem Qdo {X X' : Nat → Bool} : ∀ (st : List (Nat × LSt)) (s : LSt), (∀ x ∈ st, X x.1 = X' x.1) → atL X s st = atL X' s st
 | [], _, _ => rfl
 | (k, s') :: r, s, h => by
  simp only [atL, h (k, s') (by simp)]
  rw [Qdo r s' fun x hx => h x (by simp [hx])]
theorem QjI {id n : Nat} {L : List Oper} {Ls : List Line} (hst : St c Γ ((Ls.map (·.ini)).flatten ++ H) a w) (hm : c.P.follows .mixedOrders = true) (hB : UL L n = true) (hn : Nat.ble n L.length = true) (hN : Qcm c.N (L.take n) = true) (hU : Qbs (L.take n) = true)
  (hL : qT (L.take n) Ls = true) (hR : RL c L H Ls 0 (L.take n) Γ σ)
  (k : QbA (fun V E => Jc c L.toArray (L.drop n) (V ++ Qay Γ (L.take n) σ) (E ++ H) (Q .normal)) Ls [] []) : (Code.region id L.toArray true).wpIn (fen c.ro) 0 c.P Q a w := by
 have hlen : (L.take n).length = n := by rw [List.length_take]; have := Nat.ble_eq ▸ hn; omega
 have e := QcL L n
 have hLs : ∀ L' ∈ Ls, ∀ x ∈ L'.st, x.1 < (L.take n).length := by
  intro L' hLm x hx
  simp only [qT, Bool.and_eq_true, List.all_eq_true] at hL
  simpa [Nat.blt_eq] using (hL.1 L' hLm).2 x hx
 have main := QiE (c := c) (Q := Q) (l := L.take n) (rest := L.drop n) (Inv := QkY c (L.take n) σ Ls Γ H) (by rw [← e, hlen]; exact hB)
  (fun X i o K a w hi hX he hcl hD hK => Qht (by rw [← e, hlen]; exact hB) hN hU hL (by rw [← e]; exact hR) hi hX he hcl hD hK)
  (fun X a w hall ⟨hdf, hn, m, hs, hg, hG, hcur, hfr, Es, hsat, hln⟩ => by
   rw [← e]
   have hln' : Wu (LOk (L.take n) X m a) (fun _ => true) Ls Es := by
    refine hln.imp fun L' hLm E hE => ?_
    rw [show L'.at (fun _ => true) = L'.at X from Qdo _ _ fun x hx => (hall _ (hLs L' hLm x hx)).symm]
    exact hE
   obtain ⟨V, hk, hV⟩ := QbA.use k hln' (fun t s e => by cases e)
   refine hk a w Q (fun _ _ h => h) ⟨hdf, hn, m, hs, hg, hG, fun t s h => ?_, by simpa using hsat, hfr⟩
   rw [WU] at h
   cases hv : lk V t with
   | some s1 => rw [hv] at h; cases h; exact hV t _ hv
   | none =>
    rw [hv] at h
    refine hcur t s ?_
    rw [← h]
    show _ = lk _ t
    rw [Qdz Γ _ σ hR.len t]
    exact Um _ fun j o hj _ _ => hall j hj)
 refine wpIn_region_any hm ?_
 rw [← e] at main
 obtain ⟨hdf, hn', m, hs, hg, hG, he, hsat, hf⟩ := hst
 have hX0 : ∀ i, Xof (Array.replicate L.toArray.size false) i = false := by
  intro i; simp only [Xof, Array.getD]; split <;> simp
 refine main _ _ a w.drew (by simp) (Nat.le_trans (List.countP_le_length) (by simp)) (.inl ⟨(fun i _ => hX0 i), (fun j p _ hj => by rw [hX0] at hj; cases hj), hdf.step hg (Frm.drew _ _ _), hn', m, hs, hg.drew, hG, (fun t s h => he t s ?_), hf.trans (Frm.drew _ _ _), _, hsat, Qdn hX0 Ls⟩)
 rw [← h, U0 _ (Nat.zero_le _) fun j o _ _ _ _ => hX0 j]
 rfl
end
end Go.Sl
namespace Go.Sl
theorem QhZ {d : Nat} {s : Slot} {m : Mem} {v : Value} {a : Act} (hd : d < a.tmps.size) (hv : s.p m v) : Y1 [(d, s)] m (a.put (some d) v) := by
 intro t s' e
 by_cases h : d = t
 ·subst h; rw [Zs] at e; cases e; rw [Vw hd]; exact hv
 ·rw [Yw h] at e; cases e
theorem QlY {m : Mem} {a : Act} : Y1 [] m a := fun t s e => by cases e
section
variable {c : Ctx} {Γ : Env} {H H' : List Ent} {d : Tmp} {od : Option Tmp} {ty : TypeId} {pos : String} {aft : Array Edge} {g : Option (Nat × Bool)} {α β : Type}
theorem QaV {n N k : Nat} (h : Nat.blt n N = true) (e : k = N) : n < k := by rw [e]; simpa [Nat.blt_eq] using h
theorem qj {T : TypeId} {R : Rep α} {x : α} {cs : List Value} (hz : X5 R x cs) (hT : KI c.P T = some cs) (hN : Nat.blt d c.N = true) :
  WJ c ⟨some d, .alloc T, ty, pos, aft, g⟩ Γ H (fun b : Nat => [(d, val (.pointer (some ⟨b, 0, none⟩)))]) (fun b => box b T R x :: H) := by
 intro m hs a w hg _ hsat ho hn
 obtain ⟨v, hv, hc⟩ := WM hT w
 have hr : (execOp a.eval ⟨some d, .alloc T, ty, pos, aft, g⟩).run c.P w = .ok (.value (.pointer (some ⟨w.heap.size, 0, none⟩))) (w.alloc (.cells cs.toArray T)) := by
  simp [execOp, Instr.alloc, hv, newVar, newRow, hc]
 rw [hr]
 exact ⟨w.heap.size, m, _, hg.newOwn T cs, QhZ (QaV hN hn) rfl, ⟨[(w.heap.size, T, cs)], hs, rfl, ⟨cs, rfl, hz m⟩, hsat⟩, Frm.alloc _ _ _ _⟩
theorem qd {T T0 : TypeId} {x y : Operand} {b off : Nat} {R : Rep α} {S : Rep β} {r r' : α} {z : β} {get : α → β} {set : α → β → α} (hx : Has Γ x (val (.pointer (some ⟨b, off, none⟩))))
  (hy : Has Γ y (S.slot z)) (hk : Pick H (box b T0 R r) H') (hp : Path R off S get set) (hT : szB c.P T S.n = true) (e : set r z = r') :
  WJ c ⟨none, .store T x y, ty, pos, aft, g⟩ Γ H (fun _ : Unit => []) (fun _ => box b T0 R r' :: H') := by
 intro m hs a w hg _ hsat ho hn
 subst e
 have e : a.eval x = _ := hx m a (ho x (by simp [Op.operands]))
 obtain ⟨ds, hc, hd⟩ := Rep.is_cells (hy m a (ho y (by simp [Op.operands])))
 obtain ⟨h1, h2, hpm, ⟨cs, rfl, hr⟩, hs2⟩ := hsat.pick hk
 have hg' := hg.perm hpm
 have hlen : off + S.n ≤ cs.length := by rw [R.len hr]; exact hp.fits
 have hrun : (execOp a.eval ⟨none, .store T x y, ty, pos, aft, g⟩).run c.P w = .ok .skip (setBlk w b T0 (cs.take off ++ ds ++ cs.drop (off + S.n))) := by
  simp only [execOp, e, Sem.run_bind, VY hT hc (S.len hd) (S.cell hd) (hg'.blk (b, T0, cs) (by simp)) hlen]
  rfl
 rw [hrun]
 refine ⟨(), m, (b, T0, cs.take off ++ ds ++ cs.drop (off + S.n)) :: h2, hg'.setBlk _, QlY, ⟨[_], h2, rfl, ⟨_, rfl, hp.set_ok hr hd⟩, hs2⟩, ?_⟩
 exact Frm.ofPerm hpm (Frm.setBlk (by simp [Hp.bs]))
theorem Qc7 {ST XT T E : TypeId} {x y : Operand} {R : Rep α} {v : Value} {ys xs : List α} (hx : Has Γ x (ov v)) (hk : Pick H (own T R v ys) H') (hy : Src c Γ H y R xs)
  (hT : slE c.P ST T R.n = true) (hX : c.P.underlying XT = some (.slice E)) (hb : ys.length + xs.length ≤ 4294967296) (hN : Nat.blt d c.N = true) :
  WJ c ⟨some d, .call { callee := .builtin .append, args := #[x, y], argTypes := #[ST, XT] }, ty, pos, aft, g⟩ Γ H (fun v' => [(d, ov v')]) (fun v' => own T R v' (ys ++ xs) :: H') := by
 intro m hs a w hg _ hsat ho hn
 have ex : a.eval x = v := (Uv.1 (hx m a (ho x (by simp [Op.operands, Call.operands])))).1
 obtain ⟨a0, cap0, ey, hsrc⟩ := hy m hs a w hg hsat (ho y (by simp [Op.operands, Call.operands]))
 obtain ⟨h1, h2, hpm, hown, hs2⟩ := hsat.pick hk
 have hsrc' : xs = [] ∨ ∃ b o row, a0 = some ⟨b, o, none⟩ ∧ JP R m row xs ∧ ∀ j v, row[j]? = some v → w.cell? ⟨b, o + j, none⟩ = some v := hsrc
 obtain ⟨v', h1', w', hrun, ho', hg', hf'⟩ := Qck (rt := ty) (cap0 := cap0) hT hX (hg.perm hpm) hown hsrc' hb
 have hr : (execOp a.eval ⟨some d, .call { callee := .builtin .append, args := #[x, y], argTypes := #[ST, XT] }, ty, pos, aft, g⟩).run c.P w = .ok (.value v') w' := by
  simp only [execOp, resolve, Sem.run_bind, Sem.run_pure, Result.andThen_ok, invoke, builtin]
  simp only [List.map_toArray, List.map_cons, List.map_nil, ex, ey, hrun, Result.andThen_ok]
 rw [hr]
 exact ⟨v', m, h1' ++ h2, hg', QhZ (QaV hN hn) (Uv.2 ⟨rfl, own.one ho'⟩), ⟨h1', h2, rfl, ho', hs2⟩, Frm.ofPerm hpm hf'⟩
theorem Qle {f : FuncId} {args : List Operand} {ats : Array TypeId} {A : List Slot} {E : List Ent} {ι : Type} {ρ : ι → Slot} {ε : ι → List Ent} (hA : UF Γ args A) (hf : K1 c.P f = true)
  (hC : Ctr c.P c.G f A E ρ ε) (hE : Parts H E H') (hN : Nat.blt d c.N = true) :
  WJ c ⟨some d, .call { callee := .value (.func f), args := args.toArray, argTypes := ats }, ty, pos, aft, g⟩ Γ H (fun i => [(d, ρ i)]) (fun i => ε i ++ H') := by
 intro m hs2 a w hg hG hsat ho hn
 rw [KG hf a.eval (.func f) rfl]
 have hall := hA.all (m := m) (a := a) (fun y hy => ho y (by simp [Op.operands, Call.operands, hy]))
 obtain ⟨h1, h2, hp, hs1, hs3⟩ := hsat.parts hE
 have hgp := hg.perm hp
 have hg1 : JM m h1 w := JM.sub (hs := h2) (hgp.perm List.perm_append_comm)
 refine (hC m w (args.map a.eval) h1 hg1 hG hall hs1).mono ?_
 rintro e w' ⟨v, m', hs', i, rfl, hg', hv, hsat', hf'⟩
 have hnd := hgp.nodup
 rw [Hp.bs_append] at hnd
 have hdj := (List.nodup_append.1 hnd).2.2
 have hn2 : ∀ x ∈ h2, x.1 ∉ Hp.bs h1 := fun x hx h => hdj x.1 h x.1 (List.mem_map_of_mem (f := (·.1)) hx) rfl
 have hl2 : ∀ x ∈ h2, x.1 < w.heap.size := fun x hx => hgp.ltb (by rw [Hp.bs_append]; exact List.mem_append.2 (.inr (List.mem_map_of_mem (f := (·.1)) hx)))
 have hg3 : JM m' (hs' ++ h2) w' := by
  refine ⟨hg'.mem, ?_, fun x hx => ?_, fun x hx o => ?_⟩
  ·rw [Hp.bs_append]
   refine List.nodup_append.2 ⟨hg'.nodup, (List.nodup_append.1 hnd).2.1, fun b hb b' hb' e => ?_⟩
   subst e
   obtain ⟨x, hx, rfl⟩ := List.mem_map.1 hb'
   rcases hf'.own x.1 hb with h | h
   ·exact hn2 x hx h
   ·exact absurd (hl2 x hx) (Nat.not_lt.2 h)
  ·rcases List.mem_append.1 hx with hx | hx
   ·exact hg'.blk x hx
   ·rw [(hf'.old x.1 (hl2 x hx) (hn2 x hx)).1]; exact hgp.blk x (List.mem_append.2 (.inr hx))
  ·rcases List.mem_append.1 hx with hx | hx
   ·exact hg'.free x hx o
   ·rw [(hf'.old x.1 (hl2 x hx) (hn2 x hx)).2 o]; exact hgp.free x (List.mem_append.2 (.inr hx)) o
 refine ⟨v, rfl, i, m', hs' ++ h2, hg3, QhZ (QaV hN hn) hv, hsat'.append (hs3.mono hf'.le), ?_⟩
 refine Frm.ofPerm hp ?_
 rw [Hp.bs_append, Hp.bs_append]
 exact hf'.wide (Hp.bs h2)
theorem Qeu {ST T n : Nat} {R : Rep α} {ps : List (Nat × Operand)} {zs : List α} (h : BuildS Γ R 0 ps zs) (hn : n = zs.length) (hs : Nat.ble (n * R.n) 16777216 = true) (hT : slE c.P ST T R.n = true) (hN : Nat.blt d c.N = true) :
  WJ c ⟨some d, .buildSlice ST n ps.toArray, ty, pos, aft, g⟩ Γ H (fun v => [(d, ov v)]) (fun v => own T R v zs :: H) := by
 intro m hs2 a w hg _ hsat ho hN'
 have hop : ∀ p ∈ ps, Opd Γ m a p.2 := fun p hp => ho p.2 (by simp only [Op.operands]; simp; exact ⟨p.1, hp⟩)
 obtain ⟨cs, hr, hrun⟩ := K0 (P := c.P) (w := w) hT hn (by simpa [Nat.ble_eq] using hs) h hop
 have e : (execOp a.eval ⟨some d, .buildSlice ST n ps.toArray, ty, pos, aft, g⟩).run c.P w = .ok (.value (.slice (some ⟨w.heap.size, 0, none⟩) n n)) (w.alloc (.cells cs.toArray T)) := by
  show (do let v ← Instr.buildSlice ST n (ps.toArray.map fun (p : Nat × Operand) => (p.1, a.eval p.2)); pure (Next.value v) : Sem Next).run c.P w = _
  rw [Sem.run_bind, hrun]; rfl
 rw [e]
 refine ⟨_, m, _, hg.newOwn T cs, QhZ (QaV hN hN') U5, ⟨[(w.heap.size, T, cs)], hs2, rfl, .inr ⟨w.heap.size, n, cs, [], by rw [hn], by simp, hr, by omega, ?_⟩, hsat⟩, Frm.alloc _ _ _ _⟩
 rw [List.append_nil, hr.length, hn]
end
end Go.Sl
namespace Go.Sl
section
variable {c : Ctx} {full : Array Oper} {l : List Oper} {Γ Γ' : Env} {H H' : List Ent} {K : Act → World → Prop} {d : Tmp} {od : Option Tmp} {ty : TypeId} {pos : String} {aft : Array Edge} {g : Option (Nat × Bool)} {α β : Type}
theorem Qbq {o : Oper} {j d t : Nat} {want b : Bool} {s : Slot} (hg : o.guard = some (j, want)) (hj : (full[j]?).bind (·.dst) = some t) (hN : Nat.blt t c.N = true)
  (hl : lk Γ t = some s) (hb : ∀ m v, s.p m v → v = .bool b) (hne : (b == want) = false) (hd : o.dst = some d)
  (hN' : Nat.blt d c.N = true) (k : Jc c full l ((d, val undef) :: Γ) H K) : Jc c full (o :: l) Γ H K := by
 intro a w Q hQ hst
 have hst' := hst
 obtain ⟨hdf, hn, m, hs, hgd, hG, he, hsat, hf⟩ := hst
 have hv := hb m _ (he t s hl)
 have hlt : t < a.tmps.size := by rw [hn]; simpa [Nat.blt_eq] using hN
 have hy : yielded full a.tmps j = some b := by
  simp only [yielded, hj, Option.bind_some, Array.getElem?_eq_getElem hlt]
  simp only [Array.getD, hlt, dite_true] at hv
  simp only [Array.getInternal_eq_getElem] at hv
  rw [hv]
 have hk := k (a.put o.dst undef) w Q hQ ⟨by rw [Yh]; exact hdf, by rw [Xr]; exact hn, m, hs, hgd, hG, by
  rw [hd]; exact he.put (by rw [hn]; simpa [Nat.blt_eq] using hN') rfl, hsat, hf⟩
 have hne' : b ≠ want := by simpa using hne
 have hw : Region.wanted o (yielded full a.tmps) = false := by simp [Region.wanted, hg, hy, hne']
 simp only [wpListIn, hw, Bool.false_eq_true, if_false]
 exact ⟨fun f _ => Qaa _ f, hk⟩
theorem qG {o : Oper} {j d t : Nat} {want : Bool} (hg : o.guard = some (j, want)) (hj : (full[j]?).bind (·.dst) = some t)
  (hl : lk Γ t = some (val undef)) (hd : o.dst = some d)
  (hN' : Nat.blt d c.N = true) (k : Jc c full l ((d, val undef) :: Γ) H K) : Jc c full (o :: l) Γ H K := by
 intro a w Q hQ hst
 have hst' := hst
 obtain ⟨hdf, hn, m, hs, hgd, hG, he, hsat, hf⟩ := hst
 have hv : a.tmps.getD t undef = undef := he t _ hl
 have hy : yielded full a.tmps j = none := by
  simp only [yielded, hj, Option.bind_some]
  by_cases hlt : t < a.tmps.size
  ·simp only [Array.getElem?_eq_getElem hlt]
   simp only [Array.getD, hlt, dite_true] at hv
   simp only [Array.getInternal_eq_getElem] at hv
   rw [hv]; rfl
  ·simp [Array.getElem?_eq_none (Nat.not_lt.1 hlt)]
 have hk := k (a.put o.dst undef) w Q hQ ⟨by rw [Yh]; exact hdf, by rw [Xr]; exact hn, m, hs, hgd, hG, by
  rw [hd]; exact he.put (by rw [hn]; simpa [Nat.blt_eq] using hN') rfl, hsat, hf⟩
 have hw : Region.wanted o (yielded full a.tmps) = false := by simp [Region.wanted, hg, hy]
 simp only [wpListIn, hw, Bool.false_eq_true, if_false]
 exact ⟨fun f _ => Qaa _ f, hk⟩
theorem Qkt {k : IntKind} {b : Nat} {t : TypeId} {x : Operand} {p : BitVec b} (hk : k.bits = b) (hs : k.signed = false) (hx : Has Γ x ((un k b).slot p)) : PJ c ⟨od, .unOp .neg t x, ty, pos, aft, g⟩ Γ H ((un k b).slot (-p)) :=
 YE fun m hs2 a w _ _ _ ho => by
  have e : a.eval x = _ := X8.1 (hx m a (ho x (by simp [Op.operands])))
  refine ⟨.int k (k.wrap (0 - (p.toNat : Int))), by simp [execOp, e, Op.unary, Op.intArith], X8.2 ?_⟩
  rw [Int.zero_sub]
  rw [Kp hk hs]
  congr 2
  have : BitVec.ofInt b (-(p.toNat : Int)) = -p := by
   apply BitVec.eq_of_toInt_eq
   rw [BitVec.toInt_ofInt, BitVec.toInt_neg]
   simp [BitVec.toInt_eq_toNat_bmod]
  rw [this]
theorem Q0 {T : TypeId} {R : Rep α} {x : α} {y : Operand} (hy : Has Γ y (R.slot x)) : PJ c ⟨od, .box T y, ty, pos, aft, g⟩ Γ H (Qt R x) := by
 intro m hs a w hg _ hsat ho
 obtain ⟨cs, hc, hr⟩ := Rep.is_cells (hy m a (ho y (by simp [Op.operands])))
 have hrun : (execOp a.eval ⟨od, .box T y, ty, pos, aft, g⟩).run c.P w = .ok (.value (.pointer (some ⟨w.heap.size, 0, none⟩))) (w.alloc (.cells cs.toArray T)) := by
  simp [execOp, Instr.box, newVar, newRow, hc]
 rw [hrun]
 have hg1 := hg.newOwn T cs
 have hle := hg1.le_put
 refine ⟨m.put w.heap.size cs, hg1.freeze, ⟨_, 0, cs, rfl, R.mono hle hr, Mem.at_put m _ cs⟩, ?_⟩
 exact (Frm.alloc w m [] (.cells cs.toArray T)).freeze hle
theorem JC {x : Operand} {R : Rep α} {p : Option α} {y : α} (hx : Has Γ x ((ptr R).slot p)) (hp : p = some y) : PJ c ⟨od, .nilCheck x, ty, pos, aft, g⟩ Γ H (Qt R y) := by
 subst hp; exact Qc2 (QhJ hx)
theorem QbC {T n : Nat} {x : Operand} {lo hi : Option Operand} {R : Rep α} {v : Vector α n} {p q : Option Int} {r : List α} (hx : Has Γ x (Qt (vec n R) v)) (hlo : OptI Γ lo p) (hhi : OptI Γ hi q)
  (h : YJ v.toList (p.getD 0) (q.getD n) = some r) (hlt : p.getD 0 < n) (hT : q7 c.P T n R.n = true) : PJ c ⟨od, .slice T x lo hi none, ty, pos, aft, g⟩ Γ H ((sl R).slot r) :=
 YE fun m hs2 a w hg _ _ ho => by
  obtain ⟨h0, h1, h2, h3⟩ := B0 h
  have h2' : q.getD n ≤ (n : Int) := by simpa using h2
  obtain ⟨b, o, ds, e, hr, hat⟩ := hx m a (ho x (by simp [Op.operands]))
  have hlo' := hlo.val (m := m) (a := a) (fun y hy => ho y (by subst hy; simp [Op.operands]))
  have hhi' := hhi.val (m := m) (a := a) (fun y hy => ho y (by subst hy; simp [Op.operands]))
  obtain ⟨el, hu, hs⟩ := Qax hT
  have hz := V8 hs w
  have hb := UG (P := c.P) (isS := false) hlo' hhi' h0 h1 h2' w
  refine ⟨.slice (some ⟨b, o + (p.getD 0).toNat * R.n, none⟩) ((q.getD n).toNat - (p.getD 0).toNat) (n - (p.getD 0).toNat), by
   simp only [execOp, e, Option.map_none, Sem.run_bind, Instr.sliceAt, run_underlying hu, Result.andThen_ok, Instr.sureAddr, Sem.run_pure, hb, hz]
   rw [if_neg (by omega)]
   simp [Addr.add_lit], ?_⟩
  have hrow : JP R m ds v.toList := hr
  have hlen : r.length = (q.getD n).toNat - (p.getD 0).toNat := by
   rw [← h3]; simp; omega
  refine ⟨_, n - (p.getD 0).toNat, by rw [hlen], by rw [hlen]; omega, .inr ⟨b, _, (ds.drop ((p.getD 0).toNat * R.n)).take (((q.getD n).toNat - (p.getD 0).toNat) * R.n), rfl, ?_, hat.mid _ _⟩⟩
  have := (hrow.drop (p.getD 0).toNat).take ((q.getD n).toNat - (p.getD 0).toNat)
  rw [← h3, List.drop_take]
  exact this
theorem JA {T n : Nat} {x : Operand} {R : Rep α} {v : Vector α n} (hx : Has Γ x (Qt (vec n R) v)) (hn : 0 < n) (hT : q7 c.P T n R.n = true) : PJ c ⟨od, .slice T x none none none, ty, pos, aft, g⟩ Γ H ((sl R).slot v.toList) :=
 QbC (p := none) (q := none) hx .no .no (by simp only [YJ, Option.getD_none]; rw [if_pos (by simp)]; simp [List.take_of_length_le]) (by simpa using hn) hT
def Qbd {n : Nat} (x : Vector α n) : Nat → List α → Vector α n
 | _, [] => x
 | k, z :: zs => Qbd (x.setIfInBounds k z) (k + 1) zs
theorem qD {n : Nat} : ∀ (zs : List α) (x : Vector α n) (k : Nat), k + zs.length ≤ n → (Qbd x k zs).toList = x.toList.take k ++ zs ++ x.toList.drop (k + zs.length)
 | [], x, k, _ => by simp [Qbd]
 | z :: zs, x, k, h => by
  simp only [List.length_cons] at h
  have hk : k < n := by omega
  rw [Qbd, qD zs _ (k + 1) (by omega)]
  have e : (x.setIfInBounds k z).toList = x.toList.set k z := by simp [Vector.toList_setIfInBounds]
  rw [e, List.take_set, List.drop_set]
  have e1 : x.toList.take (k + 1) = x.toList.take k ++ [x[k]] := by
   rw [List.take_succ_eq_append_getElem (by simpa using hk)]; simp
  rw [e1]
  have hl : (x.toList.take k).length = k := by simp; omega
  have e2 : ((x.toList.take k ++ [x[k]]).set k z) = x.toList.take k ++ [z] := by
   rw [List.set_append]; simp [hl]
  rw [e2, if_pos (by omega)]
  simp only [List.append_assoc, List.singleton_append, List.length_cons]
  rw [show k + 1 + zs.length = k + (zs.length + 1) by omega]
theorem Qgj {n : Nat} (zs : List α) (h : zs.length = n) (x : Vector α n) : Qbd x 0 zs = ⟨zs.toArray, by simpa using h⟩ := by
 apply Vector.toList_inj.1
 rw [qD zs x 0 (by omega)]
 simp only [List.take_zero, List.nil_append, Nat.zero_add]
 rw [List.drop_of_length_le (by simp; omega)]
 simp [Vector.toList]
theorem Qe6 {P : Program} {T n sz : Nat} (h : q7 P T n sz = true) (i : Nat) : Ko P T i = some (i * sz, sz) := by
 obtain ⟨e, hu, hs⟩ := Qax h
 unfold Ko
 rw [hu]
 simp only [szB] at hs
 cases hi : P.info? e with
 | none => rw [hi] at hs; cases hs
 | some t => rw [hi] at hs; simp only [beq_iff_eq] at hs; simp [hi, hs]
theorem Qct {T n : Nat} {R : Rep α} (hT : q7 c.P T n R.n = true) : ∀ {ps : List (Nat × Operand)} {zs : List α} {k : Nat} (x : Vector α n), BuildS Γ R k ps zs → k + zs.length ≤ n → BuildJ c.P T Γ (vec n R) ps x (Qbd x k zs)
 | _, _, k, x, .nil, _ => .nil
 | _, _, k, x, .cons hy hr, h => by
  simp only [List.length_cons] at h
  exact .cons hy (Path.atI n R k (by omega)) (Qe6 hT k) (Qct hT _ hr (by omega))
theorem Qgu {P : Program} {T n sz : Nat} (h : q7 P T n sz = true) : QaX P T = true := by
 obtain ⟨e, hu, hs⟩ := Qax h
 unfold QaX
 rw [hu]
 simp only [szB] at hs
 show (P.info? e).isSome = true
 cases hi : P.info? e with
 | none => rw [hi] at hs; cases hs
 | some t => rfl
theorem Ur {T n : Nat} {R : Rep α} {z0 : α} {zs : List α} {v : Vector α n} {ps : List (Nat × Operand)} {zc : List Value} (hz : X5 (vec n R) (Vector.replicate n z0) zc) (hZ : KI c.P T = some zc) (h : BuildS Γ R 0 ps zs) (hT : q7 c.P T n R.n = true) (hv : v.toList = zs) :
  PJ c ⟨od, .build T ps.toArray, ty, pos, aft, g⟩ Γ H ((vec n R).slot v) := by
 have hl : zs.length = n := by rw [← hv]; simp
 have := JZ (c := c) (Γ := Γ) (H := H) (od := od) (ty := ty) (pos := pos) (aft := aft) (g := g) hz hZ (Qgu hT) rfl (Qct hT (Vector.replicate n z0) h (by omega))
 rw [Qgj zs hl] at this
 have e : v = ⟨zs.toArray, by simpa using hl⟩ := by
  apply Vector.toList_inj.1
  rw [hv]; simp [Vector.toList]
 rw [e]; exact this
def fnS (f : FuncId) (ss : List Slot) : Slot where
 p := fun m v => ∃ cs : List Value, v = .func (.func f) #[] cs.toArray ∧ UA m ss cs
 mono := fun hm ⟨cs, e, h⟩ => ⟨cs, e, h.mono hm⟩
theorem Qju {f : FuncId} : Has Γ (.func f) (fnS f []) := fun m a _ => ⟨[], rfl, rfl⟩
theorem Wy {f : FuncId} {xs : List Operand} {ss : List Slot} (h : UF Γ xs ss) : PJ c ⟨od, .makeFunc (.func f) #[] xs.toArray, ty, pos, aft, g⟩ Γ H (fnS f ss) :=
 YE fun m hs a w _ _ _ ho => by
  have hall := h.all (m := m) (a := a) (fun y hy => ho y (by simp [Op.operands, hy]))
  refine ⟨.func (.func f) #[] ((xs.map a.eval).toArray), ?_, xs.map a.eval, rfl, hall⟩
  simp [execOp, Instr.makeFunc, Sem.run_bind]
theorem Qe0 {P : Program} {f : FuncId} (h : K1 P f = true) (ρ : Operand → Value) (x : Operand) (cs : List Value) (hx : ρ x = .func (.func f) #[] cs.toArray) (args : List Operand) (ats : Array TypeId) (w : World) (od : Option Tmp) (g : Option (Nat × Bool)) :
  (execOp ρ ⟨od, .call { callee := .value x, args := args.toArray, argTypes := ats }, ty, pos, aft, g⟩).run P w = .ok (.enter f (args.map ρ ++ cs).toArray) w := by
 simp only [execOp, resolve, Sem.run_bind, hx, Deferred.ofValue, Sem.run_pure, Result.andThen_ok, invoke]
 simp only [List.map_toArray, Array.empty_append, List.append_toArray]
 rw [Bj h]; rfl
theorem UA.append {m : Mem} : ∀ {ss ss' : List Slot} {vs vs' : List Value}, UA m ss vs → UA m ss' vs' → UA m (ss ++ ss') (vs ++ vs')
 | [], _, _, _, h, k => by cases h; exact k
 | s :: ss, _, _, _, ⟨v, vs', e, p, q⟩, k => by subst e; exact ⟨v, _, rfl, p, UA.append q k⟩
theorem QcS {x : Operand} {f : FuncId} {args : List Operand} {ats : Array TypeId} {A ss : List Slot} {ι : Type} {s : Slot} (hx : Has Γ x (fnS f ss)) (hA : UF Γ args A) (hf : K1 c.P f = true)
  (hC : Ctr c.P c.G f (A ++ ss) [] (fun _ : ι => s) (fun _ => [])) : PJ c ⟨od, .call { callee := .value x, args := args.toArray, argTypes := ats }, ty, pos, aft, g⟩ Γ H s := by
 intro m hs a w hg hG hsat ho
 obtain ⟨cs, hxe, hcs⟩ := hx m a (ho x (by simp [Op.operands, Call.operands]))
 rw [Qe0 hf a.eval x cs hxe]
 have hall := hA.all (m := m) (a := a) (fun y hy => ho y (by simp [Op.operands, Call.operands, hy]))
 have hg0 : JM m [] w := ⟨hg.mem, List.nodup_nil, (fun _ h => by cases h), (fun _ h => by cases h)⟩
 refine (hC m w (args.map a.eval ++ cs) [] hg0 hG (hall.append hcs) rfl).mono ?_
 rintro e w' ⟨v, m', hs', i, rfl, hg', hv, hsat', hf'⟩
 cases hsat'
 refine ⟨v, rfl, m', ?_, hv, hf'⟩
 refine ⟨hg'.mem, hg.nodup, fun h hh => ?_, fun h hh o => ?_⟩
 ·have hb := List.mem_map_of_mem (f := (·.1)) hh
  rw [(hf'.old h.1 (hg.ltb hb) (by simp [Hp.bs])).1]; exact hg.blk h hh
 ·have hb := List.mem_map_of_mem (f := (·.1)) hh
  rw [(hf'.old h.1 (hg.ltb hb) (by simp [Hp.bs])).2]; exact hg.free h hh o
end
end Go.Sl
namespace Go.Sl
section
variable {c : Ctx} {full : Array Oper} {l : List Oper} {Γ Γ' : Env} {H H' : List Ent} {K : Act → World → Prop} {Q : Exit → Act → World → Prop} {k : List Code} {α β : Type}
theorem Qhz {id n : Nat} {L : List Oper} {Ls : List Line} {σ : List Slot} (hm : c.P.follows .mixedOrders = true) (hB : UL L n = true) (hn : Nat.ble n L.length = true) (hN : Qcm c.N (L.take n) = true) (hU : Qbs (L.take n) = true)
  (hL : qT (L.take n) Ls = true) (hR : RL c L H Ls 0 (L.take n) Γ σ)
  (h : QbA (fun V E => Jc c L.toArray (L.drop n) (V ++ Qay Γ (L.take n) σ) (E ++ H) (WR c.ro c.P Q k)) Ls [] []) : Run c Q (.region id L.toArray true :: k) Γ ((Ls.map (·.ini)).flatten ++ H) :=
 fun a w hst => QjI hst hm hB hn hN hU hL hR h
theorem Bh {κ : Type} {d : Nat} {s : κ → Slot} : ∀ (i : κ) (d' : Nat) (s' : Slot), lk [(d, s i)] d' = some s' → some d = some d' := by
 intro i d' s' e
 by_cases h : d = d'
 ·rw [h]
 ·rw [Yw h] at e; cases e
theorem QhG {κ : Type} {o : Option Nat} : ∀ (i : κ) (d' : Nat) (s' : Slot), lk ([] : Env) d' = some s' → o = some d' := fun _ _ _ e => by cases e
theorem VJ {κ : Type} {V2 : κ → Env} {o : Option Nat} : ∀ (i : κ) (m : Mem) (a : Act), Y1 (V2 i) m a → ∀ d, o = some d → any.p m (a.tmps.getD d undef) := fun _ _ _ _ _ _ => trivial
theorem Qcp {κ : Type} {d : Nat} {s : Slot} : ∀ (i : κ) (m : Mem) (a : Act), Y1 ((fun _ : κ => [(d, s)]) i) m a → ∀ d', some d = some d' → s.p m (a.tmps.getD d' undef) := fun i m a h d' e => by cases e; exact h d s (Zs _ _ _)
theorem Qba {κ : Type} {V2 : κ → Env} {s : Slot} : ∀ (i : κ) (m : Mem) (a : Act), Y1 (V2 i) m a → ∀ d, (none : Option Nat) = some d → s.p m (a.tmps.getD d undef) := fun _ _ _ _ _ e => by cases e
theorem Jd {T : TypeId} {R : Rep α} {b t : Nat} {x : α} (hk : Pick H (box b T R x) H') (ht : Imp Γ t (val (.pointer (some ⟨b, 0, none⟩))))
  (k : Jc c full l ((t, Qt R x) :: Γ) H' K) : Jc c full l Γ H K := by
 intro a w Q hQ hst
 have h := hst.freezeBox [t] hk (fun u hu => by rw [List.mem_singleton.1 hu]; exact ht)
 obtain ⟨hd, hn, m, hs, hg, hG, he, hsat, hf⟩ := h
 refine k a w Q hQ ⟨hd, hn, m, hs, hg, hG, ?_, hsat, hf⟩
 have he' : Y1 ((t, (ptr R).slot (some x)) :: Γ) m a := he
 intro u s e
 by_cases hu : t = u
 ·subst hu
  rw [Zs] at e; cases e
  obtain ⟨b', o, ds, e1, hr, hat⟩ := he' t _ (Zs _ _ _)
  simp only [List.cons.injEq, and_true] at e1
  exact ⟨b', o, ds, e1, hr, hat⟩
 ·rw [Yw hu] at e
  exact he' u s (by rw [Yw hu]; exact e)
def str : Rep (List (BitVec 8)) where
 n := 1
 ag := false
 rel := fun _ cs x => ∃ s : ByteArray, cs = [.string s] ∧ s.data.toList.map UInt8.toBitVec = x
 mono := fun _ h => h
 len := fun ⟨s, e, _⟩ => by rw [e]; rfl
 cell := fun ⟨s, e, _⟩ v hv => by rw [e] at hv; simp at hv; subst hv; rfl
 one := fun _ => rfl
end
end Go.Sl
namespace Go.Sl
def QkN {α : Type} (l : List α) : Slot := ⟨fun _ v => (v = .bool true ∧ l = []) ∨ v = .bool false, fun _ h => h⟩
theorem Qgb {P : Program} {T E : TypeId} (h : P.underlying T = some (.slice E)) (a : Option Addr) (n k : Nat) (w : World) :
  (binOp .eql T (.slice a n k) (.slice none 0 0)).run P w = .ok (.bool a.isNone) w := by
 have key : ∀ n', (Op.equalIn (n' + 1) T (.slice a n k) (.slice none 0 0)).run P w = .ok a.isNone w := by
  intro n'
  cases a with
  | none => simp only [Op.equalIn, Sem.run_bind, run_underlying h, Result.andThen_ok, Sem.run_pure]
  | some a => simp only [Op.equalIn, Sem.run_bind, run_underlying h, Result.andThen_ok, Sem.run_pure]; rfl
 have h2 := key 9999
 simp only [binOp, Op.equal, Op.maxDepth, Sem.run_bind, h2, Result.andThen_ok, Sem.run_pure]
section
variable {c : Ctx} {Γ : Env} {H : List Ent} {od : Option Tmp} {ty : TypeId} {pos : String} {aft : Array Edge} {g : Option (Nat × Bool)} {α : Type} {Q : Exit → Act → World → Prop} {k : List Code}
theorem QiA {T yt E : TypeId} {x : Operand} {R : Rep α} {l : List α} (hT : c.P.underlying T = some (.slice E)) (hx : Has Γ x ((sl R).slot l)) :
  PJ c ⟨od, .binOp .eql T x (.const (.slice none 0 0)) yt, ty, pos, aft, g⟩ Γ H (QkN l) :=
 ZU hx (QbT (v := .slice none 0 0)) fun m u v w hu hv => by
  cases hv
  obtain ⟨a, cap, e, hc, h⟩ := hu
  simp only [List.cons.injEq, and_true] at e; subst e
  refine ⟨.bool a.isNone, ?_, ?_⟩
  ·have e1 : (eqGuard .eql T x (.const (.slice none 0 0)) (.slice a l.length cap) (.slice none 0 0)).run c.P w = .ok () w := by
    simp only [eqGuard]; rfl
   rw [Sem.run_bind, e1, Result.andThen_ok]
   exact Qgb hT _ _ _ _
  ·cases a with
   | none =>
    refine .inl ⟨rfl, h.elim id ?_⟩
    rintro ⟨b, o, row, e', _⟩; cases e'
   | some a => exact .inr rfl
theorem Qed {x : Operand} {A B : Code} {l : List α} (hx : Has Γ x (QkN l)) (h1 : l = [] → Run c Q (A :: k) Γ H) (h2 : Run c Q (B :: k) Γ H) : Run c Q (.cond x A B :: k) Γ H := by
 intro a w hst
 have hst' := hst
 obtain ⟨_, _, m, hs, _, _, he, _⟩ := hst'
 rcases hx m a (he.opd x) with ⟨hv, hl⟩ | hv
 ·exact wpIn_cond_split hv (fun _ => h1 hl a w hst) (fun hb => by cases hb)
 ·exact wpIn_cond_split hv (fun hb => by cases hb) (fun _ => h2 a w hst)
end
end Go.Sl
namespace Go.Sl
def exr {α : Type} (R : Rep α) (cs : List Value) : Rep α where
 n := R.n
 ag := R.ag
 rel := fun m ds x => ds = cs ∧ R.rel m ds x
 mono := fun hm ⟨e, h⟩ => ⟨e, R.mono hm h⟩
 len := fun ⟨_, h⟩ => R.len h
 cell := fun ⟨_, h⟩ => R.cell h
 one := R.one
inductive XW : List Ent → List Ent → Prop
 | refl {H : List Ent} : XW H H
 | ex {α : Type} {b : Nat} {T : TypeId} {R : Rep α} {cs : List Value} {x : α} {H H' : List Ent} : XW H H' → XW (box b T (exr R cs) x :: H) (box b T R x :: H')
 | keep {e : Ent} {H H' : List Ent} : XW H H' → XW (e :: H) (e :: H')
theorem XW.sat {H H' : List Ent} (h : XW H H') : ∀ {m : Mem} {hs : Hp}, Sat H m hs → Sat H' m hs := by
 induction h with
 | refl => exact fun h => h
 | ex _ ih => rintro m hs ⟨h1, h2, e, ⟨cs', e', h⟩, q⟩; exact ⟨h1, h2, e, ⟨cs', e', h.2⟩, ih q⟩
 | keep _ ih => rintro m hs ⟨h1, h2, e, p, q⟩; exact ⟨h1, h2, e, p, ih q⟩
section
variable {c : Ctx} {Γ : Env} {H H' : List Ent} {od : Option Tmp} {ty : TypeId} {pos : String} {aft : Array Edge} {g : Option (Nat × Bool)} {α β : Type}
theorem PJ.xw {o : Oper} {s : Slot} (h : XW H H') (k : PJ c o Γ H' s) : PJ c o Γ H s := fun m hs a w hg hG hsat ho => k m hs a w hg hG (h.sat hsat) ho
theorem Vo {f : FuncId} {args : List Operand} {ats : Array TypeId} {A : List Slot} {s : Slot} {ι : Type} {b : Nat} {T : TypeId} {R : Rep α} {x : α} (hA : UF Γ args A) (hk : Pick H (box b T R x) H') (hf : K1 c.P f = true)
  (hC : ∀ cs, Ctr c.P c.G f A [box b T (exr R cs) x] (fun _ : ι => s) (fun _ => [box b T (exr R cs) x])) : PJ c ⟨od, .call { callee := .value (.func f), args := args.toArray, argTypes := ats }, ty, pos, aft, g⟩ Γ H s := by
 intro m hs a w hg hG hsat ho
 rw [KG hf a.eval (.func f) (QaM (Γ := Γ) m a trivial)]
 have hall := hA.all (m := m) (a := a) (fun y hy => ho y (by simp [Op.operands, Call.operands, hy]))
 obtain ⟨cs, hmem, hr⟩ := Sat.box (w := w) hsat hk
 have hg0 : JM m [(b, T, cs)] w := ⟨hg.mem, by simp [Hp.bs], (fun h hh => by rw [List.mem_singleton.1 hh]; exact hg.blk _ hmem), (fun h hh => by rw [List.mem_singleton.1 hh]; exact hg.free _ hmem)⟩
 refine (hC cs m w (args.map a.eval) [(b, T, cs)] hg0 hG hall ⟨[(b, T, cs)], [], rfl, ⟨cs, rfl, rfl, hr⟩, rfl⟩).mono ?_
 rintro e w' ⟨v, m', hs', i, rfl, hg', hv, ⟨h1, h2, rfl, ⟨cs', rfl, rfl, hr'⟩, rfl⟩, hf'⟩
 have hb' : w'.heap[b]? = w.heap[b]? := by
  rw [hg.blk _ hmem, hg'.blk (b, T, cs') (by simp)]
 have hbm : ∀ o, m' b o = m b o := fun o => by
  rw [hg.free _ hmem o, hg'.free (b, T, cs') (by simp) o]
 have hold : ∀ b', b' < w.heap.size → w'.heap[b']? = w.heap[b']? ∧ ∀ o, m' b' o = m b' o := by
  intro b' hlt
  by_cases e : b' = b
  ·subst e; exact ⟨hb', hbm⟩
  ·exact hf'.old b' hlt (by simpa [Hp.bs] using e)
 refine ⟨v, rfl, m', ?_, hv, ⟨hf'.os, hf'.tape, hf'.output, hf'.size, fun b' hlt _ => hold b' hlt, (fun b hb => by cases hb), hf'.le⟩⟩
 refine ⟨hg'.mem, hg.nodup, fun x hx => ?_, fun x hx o => ?_⟩
 ·have hlt := hg.ltb (List.mem_map_of_mem (f := (·.1)) hx)
  rw [(hold x.1 hlt).1]
  exact hg.blk x hx
 ·have hlt := hg.ltb (List.mem_map_of_mem (f := (·.1)) hx)
  rw [(hold x.1 hlt).2 o]
  exact hg.free x hx o
end
theorem Ctr.frozeR {α β : Type} {P : Program} {G : GP} {f : FuncId} {A : List Slot} {b : Nat} {T T' : TypeId} {R : Rep α} {R' : Rep β} {x : α} {xs : List β} (h : ∀ cs, Ctr P G f A [box b T (exr R cs) x] (fun v : Value => ov v) (fun v => [box b T (exr R cs) x, own T' R' v xs])) :
  ∀ cs, Ctr P G f A [box b T (exr R cs) x] (fun _ : Unit => (sl R').slot xs) (fun _ => [box b T (exr R cs) x]) := by
 intro cs m w vs hs hg hG hA hsat
 refine (h cs m w vs hs hg hG hA hsat).mono ?_
 rintro e w' ⟨v, m', hs', i, rfl, hg', hv, ⟨h1, h2, rfl, hb, h3, h4, rfl, ho, h4e⟩, hf'⟩
 cases h4e
 rw [List.append_nil] at hg' hf'
 have hp : (h1 ++ h3).Perm (h3 ++ h1) := List.perm_append_comm
 obtain ⟨m2, hle, hg2, hv2, hf2, _⟩ := own.froze ho (hg'.perm hp) (hf'.perm hp)
 have : v = i := (Uv.1 hv).1
 subst this
 exact ⟨v, m2, h1, (), rfl, hg2, hv2, ⟨h1, [], by simp, Ent.mono _ hle hb, rfl⟩, hf2⟩
end Go.Sl
namespace Go.Sl
def QaK {κ : Type} (H : κ → List Ent) : Ent := ⟨fun m hs => ∃ i, Sat (H i) m hs, fun hm ⟨i, h⟩ => ⟨i, h.mono hm⟩⟩
theorem Qb6 {E : Ent} {m : Mem} {hs : Hp} : Sat [E] m hs ↔ E.p m hs := by
 constructor
 ·rintro ⟨h1, h2, rfl, h, rfl⟩; rw [List.append_nil]; exact h
 ·intro h; exact ⟨hs, [], by simp, h, rfl⟩
theorem Qem {w : World} {a : Addr} {v : Value} {o : Obj} (h : w.cell? a = some v) (ho : w.heap[a.block]? = some o) : o.isCells = true := by
 unfold World.cell? at h
 rw [ho] at h
 cases o <;> first | rfl | (simp at h)
theorem QeK {w : World} {l : Nat} {o o' : Obj} {a : Addr} {v : Value} (h : w.cell? a = some v) (ho : w.heap[l]? = some o) (hc : o.isCells = false) : (w.putObj l o').cell? a = some v := by
 have hne : a.block ≠ l := fun e => by
  have := Qem h (by rw [e]; exact ho)
  rw [hc] at this; cases this
 have : (w.putObj l o').heap[a.block]? = w.heap[a.block]? := World.putObj_heap_other hne
 unfold World.cell? at h ⊢
 rw [this]; exact h
theorem JM.ne {m : Mem} {hs : Hp} {w : World} (hg : JM m hs w) {l : Nat} {o : Obj} (ho : w.heap[l]? = some o) (hc : o.isCells = false) : l ∉ hs.bs := by
 intro h
 obtain ⟨x, hx, rfl⟩ := List.mem_map.1 h
 have := hg.blk x hx
 rw [ho] at this
 have := Option.some.inj this
 subst this
 cases hc
theorem JM.putObj {m : Mem} {hs : Hp} {w : World} (hg : JM m hs w) {l : Nat} {o o' : Obj} (ho : w.heap[l]? = some o) (hc : o.isCells = false) : JM m hs (w.putObj l o') where
 mem := fun b k v h => QeK (hg.mem b k v h) ho hc
 nodup := hg.nodup
 blk := fun h hh => by
  have hne : h.1 ≠ l := fun e => hg.ne ho hc (by rw [← e]; exact List.mem_map_of_mem (f := (·.1)) hh)
  rw [World.putObj_heap_other hne]; exact hg.blk h hh
 free := hg.free
theorem JM.allocObj {m : Mem} {hs : Hp} {w : World} (hg : JM m hs w) (o : Obj) : JM m hs (w.alloc o) where
 mem := fun b k v h => (World.cell?_alloc_lt w _ ⟨b, k, none⟩ (hg.lt h)).trans (hg.mem b k v h)
 nodup := hg.nodup
 blk := fun h hh => (Va (hg.ltb (List.mem_map_of_mem (f := (·.1)) hh))).trans (hg.blk h hh)
 free := hg.free
def Qag (P : Program) (G : GP) (l : Nat) (r : Loop) (s : Slot) (E E' : Ent) : Prop :=
 ∀ m w hs v, w.heap[l]? = some (.loop r) → JM m hs w → G.p m → s.p m v → E.p m hs →
  ∃ tmps, (Instr.yield l #[v]).run P w = .ok (.round l r.fn tmps r.assign r.body) w ∧
   RoundIn Fence.wide 0 P l r.fn tmps r.assign r.body w fun e w' => e = .returned (.bool true) ∧ ∃ m' hs', JM m' hs' w' ∧ E'.p m' hs' ∧ Frm w w' m m' hs.bs hs'.bs
abbrev yv (l : Nat) : Value := .func (.yield l) #[] #[]
def Qgs (P : Program) (G : GP) (l : Nat) (r : Loop) (f : FuncId) (A : List Slot) (E : List Ent) {ι : Type} (ρ : ι → Slot) (ε : ι → List Ent) : Prop :=
 ∀ m w vs hs, w.heap[l]? = some (.loop r) → JM m hs w → G.p m → UA m A vs → Sat E m hs →
  Calls P f vs.toArray w fun e w' => ∃ v m' hs' i, e = .returned v ∧ JM m' hs' w' ∧ (ρ i).p m' v ∧ Sat (ε i) m' hs' ∧ Frm w w' m m' hs.bs hs'.bs
theorem Wq {P : Program} {G : GP} {l : Nat} {r : Loop} {f : FuncId} {fn : Func} {code : Code} {A : List Slot} {E : List Ent} {ι : Type} {ρ : ι → Slot} {ε : ι → List Ent}
  (hf : P.funcs[f]? = some fn) (hb : fn.body = some code) (N : Nat) (hN : fn.ntmps = N) (hA : Nat.ble A.length N = true)
  (h : ∀ (m0 : Mem) (w0 : World) (b0 : List Nat), w0.heap[l]? = some (.loop r) → l ∉ b0 → Run ⟨P, N, G, m0, w0, b0, none, false⟩ (bodyPost P fn (QaZ ⟨P, N, G, m0, w0, b0, none, false⟩ ρ ε)) [code] (Bo 0 A) E) : Qgs P G l r f A E ρ ε := by
 intro m w vs hs hl hg hG hvs hsat
 have hst : St ⟨P, N, G, m, w, hs.bs, none, false⟩ (Bo 0 A) E { tmps := vs.toArray ++ Array.replicate (fn.ntmps - vs.toArray.size) undef, defers := [] } w := by
  refine ⟨rfl, ?_, m, hs, hg, hG, ?_, hsat, Frm.refl _ _ _⟩
  ·have := hvs.length
   simp only [Array.size_append, List.size_toArray, Array.size_replicate, hN, this]
   have := Nat.ble_eq ▸ hA
   omega
  ·intro t s e
   have := QaC A 0 vs [] (List.replicate (fn.ntmps - vs.toArray.size) undef) hvs rfl t s e
   have e2 : (([] : List Value) ++ vs ++ List.replicate (fn.ntmps - vs.toArray.size) undef).toArray = vs.toArray ++ Array.replicate (fn.ntmps - vs.toArray.size) undef := by simp
   rw [e2] at this
   exact this
 have hw : code.wpIn (fen none) 0 P (bodyPost P fn (QaZ ⟨P, N, G, m, w, hs.bs, none, false⟩ ρ ε)) { tmps := vs.toArray ++ Array.replicate (fn.ntmps - vs.toArray.size) undef, defers := [] } w := by
  refine wpIn_mono (h m w hs.bs hl (hg.ne hl rfl) _ w hst) fun e a' w' he => ?_
  cases e <;> exact he
 exact (calls_of_wp (R := QaZ ⟨P, N, G, m, w, hs.bs, none, false⟩ ρ ε) hf hb (wpIn_wide.1 hw)).mono fun e w' hp => hp
section
variable {c : Ctx} {full : Array Oper} {l : List Oper} {Γ Γ' : Env} {H H' : List Ent} {K : Act → World → Prop} {d : Tmp} {od : Option Tmp} {ty : TypeId} {pos : String} {aft : Array Edge} {g : Option (Nat × Bool)} {α β : Type}
theorem QcG {P : Program} {ρ : Operand → Value} {x : Operand} {L : Nat} (hx : ρ x = yv L) (args : List Operand) (ats : Array TypeId) (w : World) (od : Option Tmp) (g : Option (Nat × Bool)) (n : Next) (w' : World)
  (h : (Instr.yield L (args.map ρ).toArray).run P w = .ok n w') :
  (execOp ρ ⟨od, .call { callee := .value x, args := args.toArray, argTypes := ats }, ty, pos, aft, g⟩).run P w = .ok n w' := by
 simp only [execOp, resolve, Sem.run_bind, hx, Deferred.ofValue, Sem.run_pure, Result.andThen_ok, invoke]
 simp only [List.map_toArray, Array.empty_append, List.append_toArray, Array.append_empty]
 exact h
theorem QgM {L : Nat} {r : Loop} {x y : Operand} {ats : Array TypeId} {s : Slot} {E E' : Ent} (hx : Has Γ x (val (yv L))) (hy : Has Γ y s) (hl : c.w0.heap[L]? = some (.loop r)) (hb : L ∉ c.b0)
  (hY : Qag c.P c.G L r s E E') (hN : Nat.blt d c.N = true) (k : Jc c full l ((d, bl.slot true) :: Γ) [E'] K) :
  Jc c full (⟨some d, .call { callee := .value x, args := [y].toArray, argTypes := ats }, ty, pos, aft, none⟩ :: l) Γ [E] K := by
 intro a w Q hQ ⟨hdf, hn, m, hs, hgd, hG, he, hsat, hf⟩
 refine wpListIn_plain rfl fun K' hK' => ?_
 have hlt : L < c.w0.heap.size := (Array.getElem?_eq_some_iff.1 hl).1
 have hlw : w.heap[L]? = some (.loop r) := (hf.old L hlt hb).1.trans hl
 obtain ⟨tmps, hrun, hround⟩ := hY m w hs (a.eval y) hlw hgd hG (hy m a (he.opd y)) (Qb6.1 hsat)
 refine WB.wp (k := fun v w' => v = .bool true ∧ ∃ m' hs', JM m' hs' w' ∧ E'.p m' hs' ∧ Frm w w' m m' hs.bs hs'.bs) ?_ ?_
 ·rw [QcG (hx m a (he.opd x)) [y] ats w (some d) none _ _ hrun]
  refine hround.mono ?_
  rintro e w' ⟨rfl, h⟩
  exact ⟨_, rfl, rfl, h⟩
 ·rintro v w' ⟨rfl, m', hs', hg', hE', hfr⟩
  refine hK' _ _ (k _ w' Q hQ ⟨by rw [Yh]; exact hdf.step hgd hfr, by rw [Xr]; exact hn, m', hs', hg', c.G.mono hfr.le hG, ?_, Qb6.2 hE', hf.trans hfr⟩)
  exact (he.mono hfr.le).put (by rw [hn]; simpa [Nat.blt_eq] using hN) (K2.2 rfl)
theorem Qhb {L : Nat} {r : Loop} {f : FuncId} {args : List Operand} {ats : Array TypeId} {A : List Slot} {E E' : List Ent} {ι : Type} {s : Slot} (hA : UF Γ args A) (hf : K1 c.P f = true) (hl : c.w0.heap[L]? = some (.loop r)) (hb : L ∉ c.b0)
  (hC : Qgs c.P c.G L r f A E (fun _ : ι => s) (fun _ => E')) (hN : Nat.blt d c.N = true) (k : Jc c full l ((d, s) :: Γ) E' K) :
  Jc c full (⟨some d, .call { callee := .value (.func f), args := args.toArray, argTypes := ats }, ty, pos, aft, none⟩ :: l) Γ E K := by
 intro a w Q hQ ⟨hdf, hn, m, hs, hgd, hG, he, hsat, hfr0⟩
 refine wpListIn_plain rfl fun K' hK' => ?_
 have hlt : L < c.w0.heap.size := (Array.getElem?_eq_some_iff.1 hl).1
 have hlw : w.heap[L]? = some (.loop r) := (hfr0.old L hlt hb).1.trans hl
 refine WB.wp (k := fun v w' => ∃ m' hs', JM m' hs' w' ∧ s.p m' v ∧ Sat E' m' hs' ∧ Frm w w' m m' hs.bs hs'.bs) ?_ ?_
 ·rw [KG hf a.eval (.func f) (QaM (Γ := Γ) m a trivial)]
  have hall := hA.all (m := m) (a := a) (fun y hy => he.opd y)
  refine (hC m w (args.map a.eval) hs hlw hgd hG hall hsat).mono ?_
  rintro e w' ⟨v, m', hs', i, rfl, hg', hv, hsat', hfr⟩
  exact ⟨v, rfl, m', hs', hg', hv, hsat', hfr⟩
 ·rintro v w' ⟨m', hs', hg', hv, hsat', hfr⟩
  refine hK' _ _ (k _ w' Q hQ ⟨by rw [Yh]; exact hdf.step hgd hfr, by rw [Xr]; exact hn, m', hs', hg', c.G.mono hfr.le hG, ?_, hsat', hfr0.trans hfr⟩)
  exact (he.mono hfr.le).put (by rw [hn]; simpa [Nat.blt_eq] using hN) hv
theorem Frm.round {w2 w3 w5 : World} {m2 m3 m5 : Mem} {b2 b3 b5 : List Nat} {L : Nat} {o0 o1 : Obj} (h1 : Frm w2 w3 m2 m3 b2 b3) (h2 : Frm (w3.putObj L o1) w5 m3 m5 b3 b5) (hl : w2.heap[L]? = some o0) (hb : L ∉ b2) :
  Frm w2 (w5.putObj L o0) m2 m5 b2 b5 := by
 have hlt : L < w2.heap.size := (Array.getElem?_eq_some_iff.1 hl).1
 have hs2 := h2.size
 rw [World.putObj_size] at hs2
 have hs1 := h1.size
 refine ⟨h2.os.trans h1.os, h2.tape.trans h1.tape, h2.output.trans h1.output, by rw [World.putObj_size]; omega, fun b hbl hn => ?_, fun b h => ?_, h1.le.trans h2.le⟩
 ·have k1 := h1.old b hbl hn
  have hn3 : b ∉ b3 := fun e => (h1.own b e).elim hn (fun e' => absurd hbl (Nat.not_lt.2 e'))
  have k2 := h2.old b (by rw [World.putObj_size]; omega) hn3
  refine ⟨?_, fun o => (k2.2 o).trans (k1.2 o)⟩
  by_cases e : b = L
  ·subst e
   rw [World.putObj_heap_same (by omega), hl]
  ·rw [World.putObj_heap_other e, k2.1, World.putObj_heap_other e]; exact k1.1
 ·rcases h2.own b h with h | h
  ·exact h1.own b h
  ·rw [World.putObj_size] at h; exact .inr (by omega)
theorem Frm.behind {w w1 w3 : World} {m m3 : Mem} {b b3 : List Nat} {L : Nat} {o : Obj} (h0 : ∀ k, k < w.heap.size → w1.heap[k]? = w.heap[k]?) (hos : w1.os = w.os) (ht : w1.tape = w.tape) (ho : w1.output = w.output) (hsz : w.heap.size ≤ w1.heap.size) (hL : w.heap.size ≤ L) (h : Frm w1 w3 m m3 b b3) :
  Frm w (w3.putObj L o) m m3 b b3 := by
 have hs := h.size
 refine ⟨h.os.trans hos, h.tape.trans ht, h.output.trans ho, by rw [World.putObj_size]; omega, fun k hk hn => ?_, fun k hk => (h.own k hk).imp id (fun e => by omega), h.le⟩
 have k1 := h.old k (by omega) hn
 exact ⟨by rw [World.putObj_heap_other (by omega), k1.1, h0 k hk], k1.2⟩
theorem W7 {T T0 : TypeId} {x y : Operand} {b : Nat} {v' : Value} {R : Rep α} {z : α} (hx : Has Γ x (val (.pointer (some ⟨b, 0, none⟩))))
  (hy : Has Γ y (ov v')) (hk : Pick H (box b T0 R z) H') (hn1 : Nat.beq R.n 1 = true) (hT : szB c.P T 1 = true)
  (k : Jc c full l Γ (box b T0 (exv v') () :: H') K) : Jc c full (⟨none, .store T x y, ty, pos, aft, none⟩ :: l) Γ H K := by
 refine Bz rfl ?_ k
 intro m hs a w hg _ hsat he hn
 have e : a.eval x = _ := hx m a (he.opd x)
 obtain ⟨ey, h1'⟩ := Uv.1 (hy m a (he.opd y))
 obtain ⟨h1, h2, hpm, ⟨cs, rfl, hr⟩, hs2⟩ := hsat.pick hk
 have hg' := hg.perm hpm
 have hl1 : cs.length = 1 := by rw [R.len hr]; exact Nat.eq_of_beq_eq_true hn1
 obtain ⟨v, rfl⟩ : ∃ v, cs = [v] := by
  match cs, hl1 with
  | [v], _ => exact ⟨v, rfl⟩
 have hc : (a.eval y).cells = [v'].toArray := by rw [ey]; exact KF h1'
 have hrun : (execOp a.eval ⟨none, .store T x y, ty, pos, aft, none⟩).run c.P w = .ok .skip (setBlk w b T0 (([v] : List Value).take 0 ++ [v'] ++ ([v] : List Value).drop (0 + 1))) := by
  simp only [execOp, e, Sem.run_bind, VY (o := 0) (cs := [v]) (ds := [v']) hT hc rfl (by simpa using h1') (hg'.blk (b, T0, [v]) (by simp)) (by simp)]
  rfl
 rw [hrun]
 refine ⟨m, (b, T0, _) :: h2, hg'.setBlk _, he, ⟨[_], h2, rfl, ⟨_, rfl, by simp, h1'⟩, hs2⟩, ?_⟩
 exact Frm.ofPerm hpm (Frm.setBlk (by simp [Hp.bs]))
def GP.upon (G : GP) (m1 : Mem) : GP := ⟨fun m => G.p m ∧ Mle m1 m, fun hm h => ⟨G.mono hm h.1, h.2.trans hm⟩⟩
theorem WE {c : Ctx} {Q : Exit → Act → World → Prop} {k : List Code} {x : Operand} {gf : FuncId} {ss : List Slot} {p : Tmp} {assign body : Code}
  {σ α κ : Type} {Es : κ → σ → List Ent} {s0 r : σ} (i0 : κ) {sd : α → Slot} {y : σ → α → Option σ} {ι : Type} {ρ : ι → Slot} {Γ1 : α → Env}
  (hx : Has Γ x (fnS gf ss)) (hf : K1 c.P gf = true) (hp : Nat.blt p c.N = true)
  (hH : Keep H (Es i0 s0))
  (hC : ∀ (l : Nat) (rc : Loop) (G' : GP), (∀ m, G'.p m → c.G.p m) → (∀ s d s', y s d = some s' → Qag c.P G' l rc (sd d) (QaK fun i => Es i s) (QaK fun i => Es i s')) → Qgs c.P G' l rc gf (val (yv l) :: ss) [QaK fun i => Es i s0] ρ (fun _ => [QaK fun i => Es i r]))
  (hA : ∀ (l : Nat) (m1 : Mem) (w1 : World) (b1 : List Nat) i s d s', y s d = some s' → Run ⟨c.P, c.N, c.G, m1, w1, b1, some l, false⟩ (fun e a w => e = .normal ∧ St ⟨c.P, c.N, c.G, m1, w1, b1, some l, false⟩ (Γ1 d) (Es i s) a w) [assign] ((p, sd d) :: Γ) (Es i s))
  (hB : ∀ (l : Nat) (m1 : Mem) (w1 : World) (b1 : List Nat) i s d s', y s d = some s' → Run ⟨c.P, c.N, c.G, m1, w1, b1, some l, false⟩ (fun e a w => e = .normal ∧ ∃ i', St ⟨c.P, c.N, c.G, m1, w1, b1, some l, false⟩ [] (Es i' s') a w) [body] (Γ1 d) (Es i s))
  (hK : ∀ i, Run c Q k Γ (Es i r)) (hro : c.ro = none := by rfl) (hmm : c.mm = true := by rfl) :
  Run c Q (.rangeFunc x #[p] assign body :: k) Γ H := by
 obtain ⟨P, N, G, m0, w0, b0, ro, mm⟩ := c
 simp only at hro hmm
 subst hro hmm
 intro a w hst
 obtain ⟨hd, hn, m, hs, hg, hG, he, hsat, hfr⟩ := hst.keep hH
 simp only at hn hG hfr hf hp
 obtain ⟨Ds, hDs, hDn, hDm⟩ := (show ∃ Ds : List Nat, a.defers = Ds.map QkF ∧ Ds.Nodup ∧ ∀ D ∈ Ds, w0.heap.size ≤ D ∧ w.heap[D]? = some (.deferred (some [])) from hd)
 refine wpIn_rangeFunc ?_
 intro fn _
 obtain ⟨caps, hxe, hcaps⟩ := hx m a (he.opd x)
 let D := w.heap.size
 let L := w.heap.size + 1
 let rc : Loop := { state := .ready, pending := none, fn, tmps := a.tmps, params := #[p], assign, body, defers := D }
 let w1 := (w.alloc (.deferred (some []))).alloc (.loop rc)
 have hD1 : w1.heap[D]? = some (.deferred (some [])) := (Va (by simp [D])).trans (World.alloc_heap_new w _)
 have hL1 : w1.heap[L]? = some (.loop rc) := by
  have := World.alloc_heap_new (w.alloc (.deferred (some []))) (.loop rc); rwa [World.size_alloc] at this
 have hg1 : JM m hs w1 := (hg.allocObj _).allocObj _
 have hsz1 : w1.heap.size = w.heap.size + 2 := by simp [w1]
 refine ⟨L, [⟨.collected D, #[]⟩], w1, ⟨.fn (.func gf) caps.toArray, #[yv L]⟩, w1, gf, (yv L :: caps).toArray, w1, run_enterLoop_outer fn a.tmps #[p] assign body, ?_, fun _ _ => trivial, ?_, (fun h => by cases h), ?_⟩
 ·simp only [resolve, hxe]
  simp [go_sem]
 ·simp only [invoke]
  simp only [List.append_toArray, Array.empty_append]
  rw [Bj hf]; rfl
 ·refine Qbu.2 ?_
  have hY : ∀ s d s', y s d = some s' → Qag P (G.upon m) L rc (sd d) (QaK fun i => Es i s) (QaK fun i => Es i s') := by
   intro s d s' hy m2 w2 hs2 v hl2 hg2 hG2 hv hE2
   obtain ⟨hGa, hle⟩ := hG2
   obtain ⟨i2, hE2⟩ := hE2
   refine ⟨a.tmps.setIfInBounds p v, by rw [run_yield hl2 (by simp [rc])]; simp [rc], ?_⟩
   refine roundIn_of_wpIn trivial ?_
   have hlt2 : L < w2.heap.size := (Array.getElem?_eq_some_iff.1 hl2).1
   have hnb := hg2.ne hl2 rfl
   have hpn : p < a.tmps.size := by rw [hn]; simpa [Nat.blt_eq] using hp
   have hst2 : St ⟨P, N, G, m2, w2, hs2.bs, some L, false⟩ ((p, sd d) :: Γ) (Es i2 s) ⟨a.tmps.setIfInBounds p v, []⟩ w2 := by
    refine ⟨rfl, by simpa using hn, m2, hs2, hg2, hGa, ?_, hE2, Frm.refl _ _ _⟩
    have := (he.mono hle).put (d := p) (s := sd d) (v := v) hpn hv
    exact this
   refine wpIn_mono (hA L m2 w2 hs2.bs i2 s d s' hy _ w2 hst2) ?_
   intro e a3 w3 hq
   cases e with
   | normal =>
    obtain ⟨_, hd3, hn3, m3, hs3, hg3, hG3, he3, hsat3, hfr3⟩ := hq
    have hd3 : a3.defers = [] := hd3
    have hl3 : w3.heap[L]? = some (.loop rc) := (hfr3.old L hlt2 hnb).1.trans hl2
    have hlt3 : L < w3.heap.size := (Array.getElem?_eq_some_iff.1 hl3).1
    have hnb3 := hg3.ne hl3 rfl
    have hl4 : (w3.putObj L (.loop { rc with state := .busy })).heap[L]? = some (.loop { rc with state := .busy }) := World.putObj_heap_same hlt3
    refine ⟨_, run_beginRound hl3 rfl, ?_⟩
    have hst4 : St ⟨P, N, G, m3, w3.putObj L (.loop { rc with state := .busy }), hs3.bs, some L, false⟩ (Γ1 d) (Es i2 s) a3 (w3.putObj L (.loop { rc with state := .busy })) :=
     ⟨hd3, hn3, m3, hs3, hg3.putObj hl3 rfl, hG3, he3, hsat3, Frm.refl _ _ _⟩
    refine wpIn_mono (hB L m3 _ hs3.bs i2 s d s' hy a3 _ hst4) ?_
    intro e a5 w5 hq5
    cases e with
    | normal =>
     obtain ⟨_, i5, hd5, hn5, m5, hs5, hg5, hG5, he5, hsat5, hfr5⟩ := hq5
     have hl5 : w5.heap[L]? = some (.loop { rc with state := .busy }) := (hfr5.old L (by simpa using hlt3) hnb3).1.trans hl4
     have hre := run_endRound (P := P) none hl5
     refine ⟨_, _, hre, rfl, m5, hs5, hg5.putObj hl5 rfl, ⟨i5, hsat5⟩, ?_⟩
     exact Frm.round hfr3 hfr5 hl2 hnb
    | _ => exact absurd hq5.1 (by simp)
   | _ => exact absurd hq.1 (by simp)
  have hc := hC L rc (G.upon m) (fun m h => h.1) hY m w1 (yv L :: caps) hs hL1 hg1 ⟨hG, Mle.refl m⟩ ⟨_, _, rfl, rfl, hcaps⟩ (Qb6.2 ⟨i0, hsat⟩)
  refine hc.mono ?_
  rintro e w3 ⟨v, m3, hs3, i, rfl, hg3, hv, hsat3, hf3⟩
  have hL3 : w3.heap[L]? = some (.loop rc) := (hf3.old L (by rw [hsz1]; simp [L]) (hg1.ne hL1 rfl)).1.trans hL1
  have hD3 : w3.heap[D]? = some (.deferred (some [])) := (hf3.old D (by rw [hsz1]; simp [D]) (hg1.ne hD1 rfl)).1.trans hD1
  have hLs : L < w3.heap.size := (Array.getElem?_eq_some_iff.1 hL3).1
  refine ⟨none, _, run_endLoop hL3 (by simp [rc]), ?_⟩
  have hfb : Frm w (w3.putObj L (.loop { rc with state := .exhausted })) m m3 hs.bs hs3.bs :=
   Frm.behind (fun k hk => (Va (by simp; omega)).trans (Va hk)) rfl rfl rfl (by rw [hsz1]; omega) (by simp [L]) hf3
  obtain ⟨i3, hsat3⟩ := Qb6.1 hsat3
  refine hK i3 _ _ ⟨?_, hn, m3, hs3, hg3.putObj hL3 rfl, G.mono hf3.le hG, he.mono hf3.le, hsat3, hfr.trans hfb⟩
  refine ⟨D :: Ds, by simp [hDs], ?_, ?_⟩
  ·refine List.nodup_cons.2 ⟨fun h => ?_, hDn⟩
   have := (Array.getElem?_eq_some_iff.1 (hDm D h).2).1
   simp [D] at this
  ·intro D' hD'
   rcases List.mem_cons.1 hD' with rfl | hD'
   ·refine ⟨hfr.size, ?_⟩
    rw [World.putObj_heap_other (by simp [D, L])]; exact hD3
   ·obtain ⟨h1, h2⟩ := hDm D' hD'
    have hlt := (Array.getElem?_eq_some_iff.1 h2).1
    exact ⟨h1, (hfb.old D' hlt (hg.ne h2 rfl)).1.trans h2⟩
end
theorem BH {P : Program} {G : GP} {f : FuncId} {fn : Func} {code : Code} {A : List Slot} {E : List Ent} {ι : Type} {ρ : ι → Slot} {ε : ι → List Ent}
  (hf : P.funcs[f]? = some fn) (hb : fn.body = some code) (N : Nat) (hN : fn.ntmps = N) (hA : Nat.ble A.length N = true)
  (h : ∀ (m0 : Mem) (w0 : World) (b0 : List Nat), Run ⟨P, N, G, m0, w0, b0, none, true⟩ (bodyPostM Fence.wide 0 P fn (QaZ ⟨P, N, G, m0, w0, b0, none, true⟩ ρ ε)) [code] (Bo 0 A) E) : Ctr P G f A E ρ ε := by
 intro m w vs hs hg hG hvs hsat
 have hst : St ⟨P, N, G, m, w, hs.bs, none, true⟩ (Bo 0 A) E { tmps := vs.toArray ++ Array.replicate (fn.ntmps - vs.toArray.size) undef, defers := [] } w := by
  refine ⟨⟨[], rfl, List.nodup_nil, fun _ h => by cases h⟩, ?_, m, hs, hg, hG, ?_, hsat, Frm.refl _ _ _⟩
  ·have := hvs.length
   simp only [Array.size_append, List.size_toArray, Array.size_replicate, hN, this]
   have := Nat.ble_eq ▸ hA
   omega
  ·intro t s e
   have := QaC A 0 vs [] (List.replicate (fn.ntmps - vs.toArray.size) undef) hvs rfl t s e
   have e2 : (([] : List Value) ++ vs ++ List.replicate (fn.ntmps - vs.toArray.size) undef).toArray = vs.toArray ++ Array.replicate (fn.ntmps - vs.toArray.size) undef := by simp
   rw [e2] at this
   exact this
 have hw : code.wpIn Fence.wide 0 P (bodyPostM Fence.wide 0 P fn (QaZ ⟨P, N, G, m, w, hs.bs, none, true⟩ ρ ε)) { tmps := vs.toArray ++ Array.replicate (fn.ntmps - vs.toArray.size) undef, defers := [] } w := by
  refine wpIn_mono (h m w hs.bs _ w hst) fun e a' w' he => ?_
  cases e <;> exact he
 exact (callsIn_wide.1 (callsIn_of_wp_marks (R := QaZ ⟨P, N, G, m, w, hs.bs, none, true⟩ ρ ε) hf hb trivial hw)).mono fun e w' hp => hp
theorem QaD {P : Program} {fn : Func} {tmps : Array Value} {R : Ending → World → Prop} {w0 : World} {m : Mem} {hs : Hp} : ∀ (Ds : List Nat) (w : World), Ds.Nodup → (∀ D ∈ Ds, w0.heap.size ≤ D ∧ w.heap[D]? = some (.deferred (some []))) → JM m hs w →
  (∀ w', JM m hs w' → w0.heap.size ≤ w'.heap.size → w'.os = w.os → w'.tape = w.tape → w'.output = w.output → w'.heap.size = w.heap.size → (∀ b, b < w0.heap.size → w'.heap[b]? = w.heap[b]?) → ∃ v, (results fn tmps).run P w' = .ok v w' ∧ R (.returned v) w') → w0.heap.size ≤ w.heap.size →
  LeavesInM Fence.wide 0 P fn tmps R (Ds.map QkF) .returning w
 | [], w, _, _, hg, h, hw => h w hg hw rfl rfl rfl rfl fun _ _ => rfl
 | D :: Ds, w, hn, hD, hg, h, hw => by
  obtain ⟨hDs, hD0⟩ := hD D (by simp)
  have hlt := (Array.getElem?_eq_some_iff.1 hD0).1
  refine ⟨by simp, .inl ⟨D, _, rfl, run_takeDeferred hD0, QaD (w0 := w0) Ds (w.putObj D (.deferred none)) (List.nodup_cons.1 hn).2 (fun D' hD' => ?_) (hg.putObj hD0 rfl) (fun w' hg' hs' h1 h2 h3 h4 h5 => ?_) (by rw [World.putObj_size]; exact hw)⟩⟩
  ·have hne : D' ≠ D := fun e => (List.nodup_cons.1 hn).1 (e ▸ hD')
   obtain ⟨h1, h2⟩ := hD D' (by simp [hD'])
   exact ⟨h1, by rw [World.putObj_heap_other hne]; exact h2⟩
  ·refine h w' hg' hs' h1 h2 h3 (by rw [h4, World.putObj_size]) fun b hb => ?_
   rw [h5 b hb, World.putObj_heap_other (by omega)]
section
variable {c : Ctx} {Γ : Env} {H : List Ent} {a : Act} {w : World} {ι : Type} {ρ : ι → Slot} {ε : ι → List Ent} {fn : Func}
theorem B7 {r : ResultVar} {s : Slot} (hst : St c Γ H a w) (hr : fn.results = #[r]) (hj : ResJ c Γ H r s) (i : ι) (hs : ∀ m v, s.p m v → (ρ i).p m v) (hk : Keep H (ε i)) (hmm : c.mm = true := by rfl) :
  bodyPostM Fence.wide 0 c.P fn (QaZ c ρ ε) .ret a w := by
 obtain ⟨hd, hn, m, hsh, hg, hG, he, hsat, hf⟩ := hst
 obtain ⟨Ds, hDs, hDn, hDm⟩ : ∃ Ds : List Nat, a.defers = Ds.map QkF ∧ Ds.Nodup ∧ ∀ D ∈ Ds, c.w0.heap.size ≤ D ∧ w.heap[D]? = some (.deferred (some [])) := by
  unfold Dfr at hd; rw [hmm] at hd; exact hd
 show LeavesInM Fence.wide 0 c.P fn a.tmps _ a.defers .returning w
 rw [hDs]
 refine QaD (w0 := c.w0) (m := m) (hs := hsh) Ds w hDn hDm hg (fun w' hg2 _ h1 h2 h3 h4 h5 => ?_) hf.size
 obtain ⟨vs, hrun, hall, hlen⟩ := (ResL.cons hj .nil).run hg2 hsat he
 have hres := BW (fn := fn) (rs := [r]) hr hrun
 obtain ⟨v, vs', rfl, hv, hnil⟩ := hall
 cases hnil
 obtain ⟨rr, hs', hp, q⟩ := hsat.keep hk
 have hg' := hg2.perm hp
 refine ⟨v, by simpa using hres, v, m, hs', i, rfl, hg'.sub, hs m v hv, q, ?_⟩
 have hF : Frm c.w0 w c.m0 m c.b0 (Hp.bs hs') := (hf.perm hp).sub fun b hb => by rw [Hp.bs_append]; exact List.mem_append.2 (.inr hb)
 exact ⟨h1.trans hF.os, h2.trans hF.tape, h3.trans hF.output, by rw [h4]; exact hF.size, fun b hb hn => ⟨(h5 b hb).trans (hF.old b hb hn).1, (hF.old b hb hn).2⟩, hF.own, hF.le⟩
end
end Go.Sl
namespace Go.Sl
section
variable {c : Ctx} {full : Array Oper} {l : List Oper} {Γ Γ' : Env} {H H' : List Ent} {K : Act → World → Prop} {d : Tmp} {od : Option Tmp} {ty : TypeId} {pos : String} {aft : Array Edge} {g : Option (Nat × Bool)} {α β : Type}
theorem Qfu {P : Program} {w : World} {m : Mem} {hs : Hp} {ST XT T rt E : TypeId} {R : Rep α} {ys xs : List α} {av a0 : Option Addr} {cap0 : Nat}
  (hT : slE P ST T R.n = true) (hX : P.underlying XT = some (.slice E)) (hg : JM m hs w)
  (hys : ys = [] ∨ ∃ b o row, av = some ⟨b, o, none⟩ ∧ JP R m row ys ∧ ∀ j v, row[j]? = some v → w.cell? ⟨b, o + j, none⟩ = some v)
  (hsrc : xs = [] ∨ ∃ b o row, a0 = some ⟨b, o, none⟩ ∧ JP R m row xs ∧ ∀ j v, row[j]? = some v → w.cell? ⟨b, o + j, none⟩ = some v) (hb : 0 < xs.length ∧ ys.length + xs.length ≤ 4294967296) :
  ∃ v' h1' w', (Builtin.append_ #[ST, XT] rt #[.slice av ys.length ys.length, .slice a0 xs.length cap0]).run P w = .ok v' w' ∧ (own T R v' (ys ++ xs)).p m h1' ∧ JM m (h1' ++ hs) w' ∧ Frm w w' m m hs.bs (Hp.bs (h1' ++ hs)) := by
 obtain ⟨hu, i, z, hi, hsz, hb0, hb1, hz, hzc⟩ := qQ hT
 obtain ⟨rowo, _, hro, hrunO⟩ := Src.run (P := P) (R := R) (w := w.drew) (cap := ys.length) (m := m) (a0 := av) (xs := ys) hys ys.length (Nat.le_refl _)
 rw [List.take_length] at hro
 obtain ⟨rx', _, hrx', hrun'⟩ := Src.run (P := P) (R := R) (w := w.drew) (cap := cap0) (m := m) (a0 := a0) (xs := xs) hsrc xs.length (Nat.le_refl _)
 rw [List.take_length] at hrx'
 have hfit : ¬ ys.length + xs.length ≤ ys.length := by omega
 have hcap := Kn (ys.length + xs.length) ys.length (by omega)
 have hnb : ¬ (Builtin.nextslicecap (ys.length + xs.length) ys.length * i.bytes > 2 ^ 48) := by
  have h1 : Builtin.nextslicecap (ys.length + xs.length) ys.length ≤ 4 * 4294967296 + 4096 := by omega
  have h2 : Builtin.nextslicecap (ys.length + xs.length) ys.length * i.bytes ≤ (4 * 4294967296 + 4096) * 4096 := Nat.mul_le_mul h1 hb1
  have h3 : (4 * 4294967296 + 4096) * 4096 ≤ 2 ^ 48 := by decide
  omega
 obtain ⟨newCap, hnc, happ⟩ := Qav (P := P) (rt := rt) (z := z) hu hX hi hsz hz hb0 hfit hnb hrunO hrun'
 have hzc' : z.cells.size = R.n := hzc
 let rest := (Builtin.zeroCells z.cells (newCap - (ys.length + xs.length))).toList
 have hrl : rest.length = (newCap - (ys.length + xs.length)) * R.n := by simp [rest, Builtin.zeroCells, hzc']
 have hcs : rowo.toArray ++ rx'.toArray ++ Builtin.zeroCells z.cells (newCap - (ys.length + xs.length)) = ((rowo ++ rx') ++ rest).toArray := by
  simp [rest]
 rw [hcs] at happ
 refine ⟨_, [(w.heap.size, T, (rowo ++ rx') ++ rest)], _, happ, .inr ⟨w.heap.size, newCap, rowo ++ rx', rest, by simp, rfl, hro.append hrx', by simpa using hnc, ?_⟩, ?_, ?_⟩
 ·rw [List.length_append, List.length_append, hro.length, hrx'.length, hrl, ← Nat.add_mul, ← Nat.add_mul]
  congr 1; omega
 ·exact hg.drew.newOwn T _
 ·exact (Frm.drew w m _).trans (Frm.alloc w.drew m hs.bs (.cells ((rowo ++ rx') ++ rest).toArray T))
theorem QdU {ST XT T E : TypeId} {x y : Operand} {R : Rep α} {ad : Option Addr} {n : Nat} {ys xs : List α} (hx : Has Γ x (val (.slice ad n n))) (hxs : Src c Γ H x R ys) (hy : Src c Γ H y R xs)
  (hT : slE c.P ST T R.n = true) (hX : c.P.underlying XT = some (.slice E)) (hb : 0 < xs.length ∧ ys.length + xs.length ≤ 4294967296) {m : Mem} {hs : Hp} {a : Act} {w : World} (hg : JM m hs w) (hsat : Sat H m hs) (hox : Opd Γ m a x) (hoy : Opd Γ m a y) :
  ∃ v' h1' w', (execOp a.eval ⟨some d, .call { callee := .builtin .append, args := #[x, y], argTypes := #[ST, XT] }, ty, pos, aft, g⟩).run c.P w = .ok (.value v') w' ∧ (own T R v' (ys ++ xs)).p m h1' ∧ JM m (h1' ++ hs) w' ∧ Frm w w' m m hs.bs (Hp.bs (h1' ++ hs)) := by
 obtain ⟨av, cap, ex, hys⟩ := hxs m hs a w hg hsat hox
 have ex2 : a.eval x = _ := hx m a hox
 rw [ex] at ex2
 obtain ⟨rfl, rfl, rfl⟩ : av = ad ∧ ys.length = n ∧ cap = ys.length := by
  injection ex2 with h1 h2 h3; exact ⟨h1, h2, by omega⟩
 obtain ⟨a0, cap0, ey, hsrc⟩ := hy m hs a w hg hsat hoy
 obtain ⟨v', h1', w', hrun, ho', hg', hf'⟩ := Qfu (rt := ty) (cap0 := cap0) hT hX hg hys hsrc hb
 refine ⟨v', h1', w', ?_, ho', hg', hf'⟩
 simp only [execOp, resolve, Sem.run_bind, Sem.run_pure, Result.andThen_ok, invoke, builtin]
 simp only [List.map_toArray, List.map_cons, List.map_nil, ex, ey, hrun, Result.andThen_ok]
theorem QhB {ST XT T E : TypeId} {x y : Operand} {R : Rep α} {ad : Option Addr} {n : Nat} {ys xs : List α} (hx : Has Γ x (val (.slice ad n n))) (hxs : Src c Γ H x R ys) (hy : Src c Γ H y R xs)
  (hT : slE c.P ST T R.n = true) (hX : c.P.underlying XT = some (.slice E)) (hb : 0 < xs.length ∧ ys.length + xs.length ≤ 4294967296) (hN : Nat.blt d c.N = true) :
  WJ c ⟨some d, .call { callee := .builtin .append, args := #[x, y], argTypes := #[ST, XT] }, ty, pos, aft, g⟩ Γ H (fun v' => [(d, ov v')]) (fun v' => own T R v' (ys ++ xs) :: H) := by
 intro m hs a w hg _ hsat ho hn
 obtain ⟨v', h1', w', hr, ho', hg', hf'⟩ := QdU (d := d) (ty := ty) (pos := pos) (aft := aft) hx hxs hy hT hX hb hg hsat (ho x (by simp [Op.operands, Call.operands])) (ho y (by simp [Op.operands, Call.operands]))
 rw [hr]
 exact ⟨v', m, h1' ++ hs, hg', QhZ (QaV hN hn) (Uv.2 ⟨rfl, own.one ho'⟩), ⟨h1', hs, rfl, ho', hsat⟩, hf'⟩
theorem QiW : Has Γ (.const (.slice none 0 0)) (val (.slice none 0 0)) := fun _ _ _ => rfl
theorem QcB : Has Γ (.const (.pointer none)) (val (.pointer none)) := fun _ _ _ => rfl
theorem QgB {x : Operand} (h : Has Γ x (val (.slice none 0 0))) : Has Γ x (ov (.slice none 0 0)) := fun m a ho => Uv.2 ⟨h m a ho, rfl⟩
theorem Qkm {P : Program} {T ty : TypeId} {sz : Nat} (hT : slB P T sz = true) (a : Option Addr) (n cap : Nat) (w : World) :
  (Builtin.cap_ #[T] ty #[.slice a n cap]).run P w = .ok (goInt cap) w := by
 obtain ⟨e, hu, _⟩ := BS hT
 simp [Builtin.cap_, run_underlying hu]
theorem qO {T : TypeId} {x : Operand} {a0 : Option Addr} {n cap sz : Nat} (hx : Has Γ x (val (.slice a0 n cap))) (hT : slB c.P T sz = true) :
  PJ c ⟨some d, .call { callee := .builtin .cap, args := #[x], argTypes := #[T] }, ty, pos, aft, g⟩ Γ H (i64.slot (cap : Int)) :=
 YE fun m hs a w _ _ _ ho => by
  have e : a.eval x = _ := hx m a (ho x (by simp [Op.operands, Call.operands]))
  refine ⟨goInt cap, ?_, ZE.2 rfl⟩
  have hl := Qkm (ty := ty) hT a0 n cap w
  simp only [execOp, resolve, Sem.run_bind, Sem.run_pure, Result.andThen_ok, invoke, builtin]
  simp only [List.map_toArray, List.map_cons, List.map_nil, e, hl, Result.andThen_ok]
theorem Qen {T sz : Nat} {x y : Operand} {s : Slot} (hx : Has Γ x (val (.slice none 0 0))) (hy : Has Γ y s) (hs : Ka s 0) (hT : slB c.P T sz = true) :
  PJ c ⟨od, .slice T x none (some y) none, ty, pos, aft, g⟩ Γ H (val (.slice none 0 0)) :=
 YE fun m hs2 a w _ _ _ ho => by
  have e : a.eval x = _ := hx m a (ho x (by simp [Op.operands]))
  obtain ⟨kk, ek⟩ := hs m _ (hy m a (ho y (by simp [Op.operands])))
  have hr := V7 (P := c.P) hT (a := none) (len := 0) (cap := 0) (lo := none) (hi := some (.int kk 0)) (l := none) (h := some 0) (.inl ⟨rfl, rfl⟩) (.inr ⟨kk, 0, rfl, rfl⟩) (by simp) (by simp) (by simp) w
  simp only [Option.getD_none, Option.getD_some, Int.toNat_zero, if_true, Nat.sub_self] at hr
  refine ⟨.slice none 0 0, ?_, rfl⟩
  simp only [execOp, e, Option.map_none, Option.map_some, ek, Sem.run_bind, hr, Result.andThen_ok, Sem.run_pure]
theorem QjB {S : ByteArray} {xs : List (BitVec 8)} (h : S.data.toList.map UInt8.toBitVec = xs) : Has Γ (.const (.string S)) (str.slot xs) := fun _ _ _ => ⟨S, rfl, h⟩
theorem Qd4 {T : TypeId} {x y : Operand} {s : Slot} {xs : List (BitVec 8)} {i : Int} {z : BitVec 8} (hx : Has Γ x (str.slot xs)) (hy : Has Γ y s) (hs : Ka s i) (h : ZC xs i = some z) (hT : c.P.underlying T = some .string) :
  PJ c ⟨od, .index T x y, ty, pos, aft, g⟩ Γ H (u8.slot z) :=
 YE fun m hs2 a w _ _ _ ho => by
  obtain ⟨S, eS, hS⟩ := hx m a (ho x (by simp [Op.operands]))
  simp only [List.cons.injEq, and_true] at eS
  obtain ⟨kk, ek⟩ := hs m _ (hy m a (ho y (by simp [Op.operands])))
  obtain ⟨h0, hi, hz⟩ := Q4 h
  subst hS
  simp only [List.length_map, Array.length_toList] at hi
  have hb : S[i.toNat]? = some (S.data[i.toNat]) := by
   have : i.toNat < S.size := hi
   simp [getElem?_pos, this]; rfl
  refine ⟨.int .u8 (S.data[i.toNat]).toNat, ?_, X8.2 ?_⟩
  ·simp only [execOp, eS, ek, Instr.index, Sem.run_bind, asIntOf, Sem.run_pure, Result.andThen_ok, run_underlying hT, h0, if_true, hb]
  ·rw [← hz]; simp
theorem QcA (cs : Array Value) (n : Nat) : (Builtin.zeroCells cs (n + 1)).toList = (Builtin.zeroCells cs n).toList ++ cs.toList := by
 unfold Builtin.zeroCells
 simp only [Array.toList_map, Array.toList_range, Nat.add_mul, Nat.one_mul, List.range_add, List.map_append, List.map_map]
 congr 1
 apply List.ext_getElem?
 intro t
 by_cases ht : t < cs.size
 ·simp [ht, Nat.mul_add_mod_self_right, Nat.mod_eq_of_lt ht]
 ·simp [ht]
theorem Un {R : Rep α} {z : α} {cs : Array Value} (hz : X5 R z cs.toList) (m : Mem) : ∀ n, JP R m (Builtin.zeroCells cs n).toList (List.replicate n z)
 | 0 => by simp [Builtin.zeroCells, JP]
 | n + 1 => by
  rw [QcA, List.replicate_succ']
  exact (Un hz m n).append (JP.single (hz m))
theorem Qc1 {P : Program} {w : World} {m : Mem} {hs : Hp} {ST XT T rt : TypeId} {R : Rep α} {z : α} {zc : List Value} {n : Int}
  (hT : slE P ST T R.n = true) (hX : P.underlying XT = some (.int .i64)) (hz : X5 R z zc) (hzB : KI P T = some zc) (hR : Nat.blt 0 R.n = true) (hg : JM m hs w) (h0 : 0 < n) (h1 : n ≤ 4294967296) :
  ∃ v' h1' w', (Builtin.append_ #[ST, XT] rt #[.slice none 0 0, .int .i64 n]).run P w = .ok v' w' ∧ (own T R v' (List.replicate n.toNat z)).p m h1' ∧ JM m (h1' ++ hs) w' ∧ Frm w w' m m hs.bs (Hp.bs (h1' ++ hs)) := by
 obtain ⟨hu, i, zv, hi, hsz, hb0, hb1, hzi, hzc⟩ := qQ hT
 have hzl : zv.cells.toList = zc := by
  unfold KI at hzB
  simp [hi, hzi] at hzB
  exact hzB
 have hti : ∀ w : World, (typeInfo T).run P w = .ok i w := fun w => by simp [typeInfo, hi]
 have hsize : ∀ w : World, (sizeOf T).run P w = .ok R.n w := fun w => by simp [sizeOf, hti, hsz]
 have hzv : ∀ w : World, (zeroValue T).run P w = .ok zv w := fun w => by simp [zeroValue, hti, hzi]
 have hn : IntKind.i64.wrap n = n := IntWalk.i64_in n (by omega)
 have hbig : ¬ n * (i.bytes : Int) > 2 ^ 48 := by
  have h48 : (2 : Int) ^ 48 = 281474976710656 := by decide
  have : n * (i.bytes : Int) ≤ 4294967296 * 4096 := Int.mul_le_mul h1 (by omega) (by omega) (by decide)
  rw [h48]; omega
 have hneg : ¬ n < 0 := by omega
 have hfit : ¬ (0 + n.toNat ≤ 0) := by omega
 have hcap := Kn (0 + n.toNat) 0 (by omega)
 have hnb : ¬ (Builtin.nextslicecap (0 + n.toNat) 0 * i.bytes > 2 ^ 48) := by
  have h1 : Builtin.nextslicecap (0 + n.toNat) 0 ≤ 4 * 4294967296 + 4096 := by omega
  have h2 : Builtin.nextslicecap (0 + n.toNat) 0 * i.bytes ≤ (4 * 4294967296 + 4096) * 4096 := Nat.mul_le_mul h1 hb1
  have h3 : (4 * 4294967296 + 4096) * 4096 ≤ 2 ^ 48 := by decide
  omega
 have hmax : ¬ (((0 + n.toNat : Nat) : Int) > IntKind.i64.max) := by
  have : IntKind.i64.max = 9223372036854775807 := by decide
  rw [this]; omega
 have hpos : ¬ n.toNat * R.n = 0 := by
  have : 0 < R.n := by simpa [Nat.blt_eq] using hR
  intro h; rcases Nat.mul_eq_zero.1 h with h | h <;> omega
 have hch : (choose (.appendCap (0 + n.toNat) 0 T)).run P w = .ok ((Question.appendCap (0 + n.toNat) 0 T).cut (w.tape w.drawn (.appendCap (0 + n.toNat) 0 T))) w.drew := by
  rw [run_choose]; rfl
 let newCap := (Question.appendCap (0 + n.toNat) 0 T).cut (w.tape w.drawn (.appendCap (0 + n.toNat) 0 T))
 have hnc : n.toNat ≤ newCap := by
  have : 0 + n.toNat ≤ newCap := Nat.le_add_right _ _
  omega
 let cs := (Builtin.zeroCells zv.cells n.toNat).toList ++ (Builtin.zeroCells zv.cells (newCap - (0 + n.toNat))).toList
 have hrun : (Builtin.append_ #[ST, XT] rt #[.slice none 0 0, .int .i64 n]).run P w = .ok (.slice (some ⟨w.heap.size, 0, none⟩) (0 + n.toNat) newCap) (w.drew.alloc (.cells cs.toArray T)) := by
  simp only [Builtin.append_, List.getElem?_toArray, List.getElem?_cons_zero, List.getElem?_cons_succ]
  simp only [Sem.run_bind, run_underlying hu, run_underlying hX, Result.andThen_ok, hsize, Sem.run_pure, Bool.not_true, if_true, asInt, asIntOf, hn, hneg, if_false, hti, hbig, hfit, hmax, false_and, hnb, hch, run_askRoom, Builtin.firstCells, hpos, hzv, newRow, run_newObj, Bool.false_eq_true]
  have : cs.toArray = #[] ++ Builtin.zeroCells zv.cells n.toNat ++ Builtin.zeroCells zv.cells (newCap - (0 + n.toNat)) := by simp [cs]
  rw [this]
  rfl
 have hz' : X5 R z zv.cells.toList := by rw [hzl]; exact hz
 refine ⟨_, [(w.heap.size, T, cs)], _, hrun, .inr ⟨w.heap.size, newCap, (Builtin.zeroCells zv.cells n.toNat).toList, (Builtin.zeroCells zv.cells (newCap - (0 + n.toNat))).toList, by simp, rfl, Un hz' m _, by simpa using hnc, ?_⟩, hg.drew.newOwn T _, (Frm.drew w m _).trans (Frm.alloc w.drew m hs.bs _)⟩
 rw [List.length_append, (Un hz' m n.toNat).length, (Un hz' m (newCap - (0 + n.toNat))).length, List.length_replicate, List.length_replicate, ← Nat.add_mul]
 congr 1; omega
theorem Qef {ST XT T : TypeId} {x y : Operand} {R : Rep α} {z : α} {zc : List Value} {n : Int} (hx : Has Γ x (val (.slice none 0 0))) (hy : Has Γ y (i64.slot n)) (h0 : 0 < n ∧ n ≤ 4294967296)
  (hT : slE c.P ST T R.n = true) (hX : c.P.underlying XT = some (.int .i64)) (hz : X5 R z zc) (hzB : KI c.P T = some zc) (hR : Nat.blt 0 R.n = true) (hN : Nat.blt d c.N = true)
  (k : ∀ v', Jc c full l ((d, ov v') :: Γ) (own T R v' (List.replicate n.toNat z) :: H) K) :
  Jc c full (⟨some d, .call { callee := .builtin .append, args := #[x, y], argTypes := #[ST, XT] }, ty, pos, aft, none⟩ :: l) Γ H K := by
 refine VD (Γ2 := fun v' => (d, ov v') :: Γ) (H2 := fun v' => own T R v' (List.replicate n.toNat z) :: H) rfl ?_ k
 intro m hs a w hg _ hsat he hn
 have ex : a.eval x = _ := hx m a (he.opd x)
 have ey := ZE.1 (hy m a (he.opd y))
 obtain ⟨v', h1', w', hrun, ho', hg', hf'⟩ := Qc1 (rt := ty) hT hX hz hzB hR hg h0.1 h0.2
 have hr : (execOp a.eval ⟨some d, .call { callee := .builtin .append, args := #[x, y], argTypes := #[ST, XT] }, ty, pos, aft, none⟩).run c.P w = .ok (.value v') w' := by
  simp only [execOp, resolve, Sem.run_bind, Sem.run_pure, Result.andThen_ok, invoke, builtin]
  simp only [List.map_toArray, List.map_cons, List.map_nil, ex, ey, hrun, Result.andThen_ok]
 rw [hr]
 exact ⟨v', m, h1' ++ hs, hg', he.put (by rw [hn]; simpa [Nat.blt_eq] using hN) (Uv.2 ⟨rfl, own.one ho'⟩), ⟨h1', hs, rfl, ho', hsat⟩, hf'⟩
theorem St.freezeIn {a : Act} {w : World} {T Tb b : Nat} {R : Rep α} {v : Value} {xs : List α} {β' : Type} {S : Rep β} {S' : Rep β'} {y : β} {y' : β'} {H1 H2 : List Ent} (hk : Pick H (own T R v xs) H1) (hk2 : Pick H1 (box b Tb S y) H2)
  (hc : ∀ m cs, ((sl R).slot xs).p m v → S.rel m cs y → S'.rel m cs y') (h : St c Γ H a w) : St c Γ (box b Tb S' y' :: H2) a w := by
 obtain ⟨hd, hn, m, hs, hg, hG, he, ⟨h1, h2, rfl, ho, hsat⟩, hf⟩ := h.pick hk
 obtain ⟨m', hle, hg', hv, hf', _⟩ := own.froze ho hg hf
 have hd' : Dfr c a.defers w := hd
 obtain ⟨g1, g2, hp, ⟨cs, rfl, hr⟩, q⟩ := (hsat.mono hle).pick hk2
 exact ⟨hd', hn, m', _, hg'.perm hp, c.G.mono hle hG, he.mono hle, ⟨_, g2, rfl, ⟨cs, rfl, hc m' cs hv hr⟩, q⟩, hf'.perm hp⟩
theorem QfN {T Tb b : Nat} {R : Rep α} {v : Value} {xs : List α} {β' : Type} {S : Rep β} {S' : Rep β'} {y : β} (y' : β') {H1 H2 : List Ent} (hk : Pick H (own T R v xs) H1) (hk2 : Pick H1 (box b Tb S y) H2)
  (hc : ∀ m cs, ((sl R).slot xs).p m v → S.rel m cs y → S'.rel m cs y') (k : Jc c full l Γ (box b Tb S' y' :: H2) K) : Jc c full l Γ H K := fun a w Q hQ hst => k a w Q hQ (hst.freezeIn hk hk2 hc)
theorem Qar {Q : Exit → Act → World → Prop} {k : List Code} {T Tb b : Nat} {R : Rep α} {v : Value} {xs : List α} {β' : Type} {S : Rep β} {S' : Rep β'} {y : β} (y' : β') {H1 H2 : List Ent} (hk : Pick H (own T R v xs) H1) (hk2 : Pick H1 (box b Tb S y) H2)
  (hc : ∀ m cs, ((sl R).slot xs).p m v → S.rel m cs y → S'.rel m cs y') (r : Run c Q k Γ (box b Tb S' y' :: H2)) : Run c Q k Γ H := fun a w hst => r a w (hst.freezeIn hk hk2 hc)
theorem Qkp {v : Value} {R : Rep α} {xs : List α} {m : Mem} {cs : List Value} (h : ((sl R).slot xs).p m v) (k : (exv v).rel m cs ()) : (sl R).rel m cs xs := by
 rw [k.1]; exact h
theorem Qdf {Q : Exit → Act → World → Prop} {k : List Code} {T : TypeId} {R : Rep α} {b : Nat} {x : α} (ts : List Nat) (hk : Pick H (box b T R x) H') (ht : ∀ t ∈ ts, Imp Γ t (val (.pointer (some ⟨b, 0, none⟩))))
  (r : Run c Q k (ts.map (fun t => (t, (ptr R).slot (some x))) ++ Γ) H') : Run c Q k Γ H := fun a w hst => r a w (hst.freezeBox ts hk ht)
def QlR (b : Nat) : Option α → Slot
 | none => val (.pointer none)
 | some _ => val (.pointer (some ⟨b, 0, none⟩))
def QlW (b T : Nat) (R : Rep α) : Option α → List Ent
 | none => []
 | some x => [box b T R x]
end
end Go.Sl
namespace Go.Sl
section
variable {c : Ctx} {full : Array Oper} {l : List Oper} {Γ Γ' : Env} {H H' : List Ent} {K : Act → World → Prop} {d : Tmp} {od : Option Tmp} {ty : TypeId} {pos : String} {aft : Array Edge} {g : Option (Nat × Bool)} {α β : Type}
theorem Qfe {ST T : TypeId} {x y : Operand} {R : Rep α} {z : α} {zc : List Value} {n cp : Int} (hx : Has Γ x (i64.slot n)) (hy : Has Γ y (i64.slot cp)) (h0 : 0 ≤ n) (h1 : n ≤ cp) (h2 : cp ≤ 4294967296)
  (hT : slE c.P ST T R.n = true) (hz : X5 R z zc) (hzB : KI c.P T = some zc) (hN : Nat.blt d c.N = true) :
  WJ c ⟨some d, .makeSlice ST x y, ty, pos, aft, g⟩ Γ H (fun v => [(d, ov v)]) (fun v => own T R v (List.replicate n.toNat z) :: H) := by
 intro m hs a w hg _ hsat ho hN'
 have ex := ZE.1 (hx m a (ho x (by simp [Op.operands])))
 have ey := ZE.1 (hy m a (ho y (by simp [Op.operands])))
 obtain ⟨hu, i, zv, hi, hsz, hb0, hb1, hzi, hzc⟩ := qQ hT
 have hti : ∀ w : World, (typeInfo T).run c.P w = .ok i w := fun w => by simp [typeInfo, hi]
 have hsize : ∀ w : World, (sizeOf T).run c.P w = .ok R.n w := fun w => by simp [sizeOf, hti, hsz]
 have hzv : ∀ w : World, (zeroValue T).run c.P w = .ok zv w := fun w => by simp [zeroValue, hti, hzi]
 have hzl : zv.cells.toList = zc := by
  unfold KI at hzB
  simp [hi, hzi] at hzB
  exact hzB
 have hn : IntKind.i64.wrap n = n := IntWalk.i64_in n (by omega)
 have hc : IntKind.i64.wrap cp = cp := IntWalk.i64_in cp (by omega)
 have hbig : ¬ (i.bytes : Int) * cp > 2 ^ 48 := by
  have h48 : (2 : Int) ^ 48 = 281474976710656 := by decide
  have : (i.bytes : Int) * cp ≤ 4096 * 4294967296 := Int.mul_le_mul (by omega) h2 (by omega) (by decide)
  rw [h48]; omega
 have hneg : ¬ cp < 0 := by omega
 have hneg2 : ¬ n < 0 := by omega
 have hgt : ¬ n > cp := by omega
 let zz := if cp.toNat * R.n = 0 then #[] else zv.cells
 let cells := ((Array.range (cp.toNat * R.n)).map (zz[· % zz.size]!)).toList
 have hrun : (Instr.makeSlice ST (.int .i64 n) (.int .i64 cp)).run c.P w = .ok (.slice (some ⟨w.heap.size, 0, none⟩) n.toNat cp.toNat) (w.alloc (.cells cells.toArray T)) := by
  simp only [Instr.makeSlice, Sem.run_bind, run_underlying hu, Result.andThen_ok, asInt, asIntOf, Sem.run_pure, hti, hn, hc, hneg, hneg2, hbig, hgt, decide_false, Bool.or_false, Bool.false_eq_true, if_false, run_askRoom, hsize]
  by_cases hE : cp.toNat * R.n = 0
  ·simp only [hE, if_true, Sem.run_pure, Result.andThen_ok, newRow, Sem.run_bind, run_newObj]
   simp only [cells, zz, hE, if_true, Array.toArray_toList]
   rfl
  ·simp only [hE, if_false, Sem.run_bind, hzv, Result.andThen_ok, Sem.run_pure, newRow, run_newObj]
   simp only [cells, zz, hE, if_false, Array.toArray_toList]
   rfl
 have e : (execOp a.eval ⟨some d, .makeSlice ST x y, ty, pos, aft, g⟩).run c.P w = .ok (.value (.slice (some ⟨w.heap.size, 0, none⟩) n.toNat cp.toNat)) (w.alloc (.cells cells.toArray T)) := by
  simp only [execOp, ex, ey, Sem.run_bind, hrun]; rfl
 rw [e]
 have hcl : cells.length = cp.toNat * R.n := by simp [cells]
 have hrow : ∀ j, j ≤ cp.toNat → JP R m (cells.take (j * R.n)) (List.replicate j z) := by
  intro j hj
  induction j with
  | zero => simp [JP]
  | succ j ih =>
   have ih := ih (by omega)
   rw [List.replicate_succ', Nat.add_mul, Nat.one_mul, List.take_add]
   refine ih.append (JP.single ?_)
   have : (cells.drop (j * R.n)).take R.n = zc := by
    apply List.ext_getElem?
    intro t
    rw [List.getElem?_take]
    split
    ·rename_i ht
     rw [List.getElem?_drop]
     have hbnd : j * R.n + t < cp.toNat * R.n := by
      have : (j + 1) * R.n ≤ cp.toNat * R.n := Nat.mul_le_mul_right _ hj
      rw [Nat.add_mul, Nat.one_mul] at this
      omega
     have hE : cp.toNat * R.n ≠ 0 := by omega
     have hRn : zv.cells.size = R.n := hzc
     simp only [cells, zz, hE, if_false]
     rw [Array.getElem?_toList, Array.getElem?_map, Array.getElem?_range, if_pos hbnd]
     simp only [Option.map_some, hRn]
     have hmod : (j * R.n + t) % R.n = t := by rw [Nat.mul_add_mod_self_right]; exact Nat.mod_eq_of_lt ht
     rw [hmod, ← hzl]
     have htl : t < zv.cells.size := by omega
     simp [htl]
    ·rename_i ht
     have : zc.length = R.n := by rw [← hzl]; simpa using hzc
     rw [List.getElem?_eq_none (by omega)]
   rw [this]; exact hz m
 have hsplit : cells = cells.take (n.toNat * R.n) ++ cells.drop (n.toNat * R.n) := (List.take_append_drop _ _).symm
 refine ⟨_, m, _, hg.newOwn T cells, QhZ (QaV hN hN') U5, ⟨[(w.heap.size, T, cells)], hs, rfl, .inr ⟨w.heap.size, cp.toNat, cells.take (n.toNat * R.n), cells.drop (n.toNat * R.n), by simp, by rw [← hsplit], hrow _ (by omega), by simp; omega, by rw [← hsplit, hcl]⟩, hsat⟩, Frm.alloc _ _ _ _⟩
def SE {α α' : Type} (R : Rep α) (r : α) (off : Nat) (v' : Value) (R' : Rep α') (r' : α') : Prop :=
 R'.n = R.n ∧ off + 1 ≤ R.n ∧ ∀ m cs, v'.oneCell' = true → R.rel m cs r → R'.rel m (cs.take off ++ [v'] ++ cs.drop (off + 1)) r'
theorem qa {v v' : Value} : SE (exv v) () 0 v' (exv v') () := ⟨rfl, Nat.le_refl _, fun m cs hv h => by
 rw [h.1]; exact ⟨rfl, hv⟩⟩
theorem Qit {α' : Type} {R : Rep α} {r : α} {off : Nat} {v' : Value} {R' : Rep α'} {r' : α'} (S : Rep β) (y : β) (h : SE R r off v' R' r') : SE (prod R S) (r, y) off v' (prod R' S) (r', y) := by
 obtain ⟨h1, h2, h3⟩ := h
 refine ⟨by simp [prod, h1], by simp [prod]; omega, ?_⟩
 rintro m cs hv ⟨e1, e2, rfl, p, q⟩
 have hl := R.len p
 refine ⟨e1.take off ++ [v'] ++ e1.drop (off + 1), e2, ?_, h3 m e1 hv p, q⟩
 rw [List.take_append_of_le_length (by omega), List.drop_append_of_le_length (by omega)]
 simp
theorem KV {α' : Type} {S : Rep α} {r : α} {off : Nat} {v' : Value} {S' : Rep α'} {r' : α'} (R : Rep β) (x : β) (h : SE S r off v' S' r') : SE (prod R S) (x, r) (R.n + off) v' (prod R S') (x, r') := by
 obtain ⟨h1, h2, h3⟩ := h
 refine ⟨by simp [prod, h1], by simp [prod]; omega, ?_⟩
 rintro m cs hv ⟨e1, e2, rfl, p, q⟩
 have hl := R.len p
 refine ⟨e1, e2.take off ++ [v'] ++ e2.drop (off + 1), ?_, p, h3 m e2 hv q⟩
 rw [List.take_append, List.drop_append]
 have a1 : e1.take (R.n + off) = e1 := List.take_of_length_le (by omega)
 have a2 : e1.drop (R.n + off + 1) = [] := List.drop_of_length_le (by omega)
 rw [a1, a2, hl, show R.n + off - R.n = off by omega, show R.n + off + 1 - R.n = off + 1 by omega]
 simp
theorem U4 {α' : Type} {T T0 : TypeId} {x y : Operand} {b off : Nat} {v' : Value} {R : Rep α} {r : α} {R' : Rep α'} (r' : α') (hx : Has Γ x (val (.pointer (some ⟨b, off, none⟩))))
  (hy : Has Γ y (ov v')) (hk : Pick H (box b T0 R r) H') (hs : SE R r off v' R' r') (hT : szB c.P T 1 = true)
  (k : Jc c full l Γ (box b T0 R' r' :: H') K) : Jc c full (⟨none, .store T x y, ty, pos, aft, none⟩ :: l) Γ H K := by
 refine Bz rfl ?_ k
 intro m hs' a w hg _ hsat he hn
 have e : a.eval x = _ := hx m a (he.opd x)
 obtain ⟨ey, h1'⟩ := Uv.1 (hy m a (he.opd y))
 obtain ⟨h1, h2, hpm, ⟨cs, rfl, hr⟩, hs2⟩ := hsat.pick hk
 have hg' := hg.perm hpm
 obtain ⟨s1, s2, s3⟩ := hs
 have hl1 : off + [v'].length ≤ cs.length := by rw [R.len hr]; exact s2
 have hc : (a.eval y).cells = [v'].toArray := by rw [ey]; exact KF h1'
 have hrun : (execOp a.eval ⟨none, .store T x y, ty, pos, aft, none⟩).run c.P w = .ok .skip (setBlk w b T0 (cs.take off ++ [v'] ++ cs.drop (off + 1))) := by
  simp only [execOp, e, Sem.run_bind, VY (o := off) (cs := cs) (ds := [v']) hT hc rfl (by simpa using h1') (hg'.blk (b, T0, cs) (by simp)) hl1]
  rfl
 rw [hrun]
 refine ⟨m, (b, T0, _) :: h2, hg'.setBlk _, he, ⟨[_], h2, rfl, ⟨_, rfl, s3 m cs h1' hr⟩, hs2⟩, ?_⟩
 exact Frm.ofPerm hpm (Frm.setBlk (by simp [Hp.bs]))
theorem Qbw {α' : Type} {T T0 : TypeId} {x y : Operand} {b : Nat} {R : Rep α} {r : α} {S : Rep α'} {z : α'} (hx : Has Γ x (val (.pointer (some ⟨b, 0, none⟩))))
  (hy : Has Γ y (S.slot z)) (hk : Pick H (box b T0 R r) H') (hn1 : Nat.beq R.n S.n = true) (hT : szB c.P T S.n = true)
  (k : Jc c full l Γ (box b T0 S z :: H') K) : Jc c full (⟨none, .store T x y, ty, pos, aft, none⟩ :: l) Γ H K := by
 refine Bz rfl ?_ k
 intro m hs' a w hg _ hsat he hn
 have e : a.eval x = _ := hx m a (he.opd x)
 obtain ⟨ds, hc, hd⟩ := Rep.is_cells (hy m a (he.opd y))
 obtain ⟨h1, h2, hpm, ⟨cs, rfl, hr⟩, hs2⟩ := hsat.pick hk
 have hg' := hg.perm hpm
 have hRS : R.n = S.n := Nat.eq_of_beq_eq_true hn1
 have hlc : cs.length = S.n := by rw [R.len hr, hRS]
 have hrun : (execOp a.eval ⟨none, .store T x y, ty, pos, aft, none⟩).run c.P w = .ok .skip (setBlk w b T0 (cs.take 0 ++ ds ++ cs.drop (0 + S.n))) := by
  simp only [execOp, e, Sem.run_bind, VY (o := 0) (cs := cs) (ds := ds) hT hc (S.len hd) (S.cell hd) (hg'.blk (b, T0, cs) (by simp)) (by rw [hlc]; omega)]
  rfl
 rw [hrun]
 have e0 : cs.take 0 ++ ds ++ cs.drop (0 + S.n) = ds := by simp [List.drop_of_length_le (Nat.le_of_eq hlc)]
 rw [e0]
 refine ⟨m, (b, T0, _) :: h2, hg'.setBlk _, he, ⟨[_], h2, rfl, ⟨_, rfl, hd⟩, hs2⟩, ?_⟩
 exact Frm.ofPerm hpm (Frm.setBlk (by simp [Hp.bs]))
def CV {γ β β' : Type} (R : Rep γ) (v : Value) (xs : List γ) (S : Rep β) (y : β) (S' : Rep β') (y' : β') : Prop := ∀ m cs, ((sl R).slot xs).p m v → S.rel m cs y → S'.rel m cs y'
section
variable {γ β' : Type} {R : Rep γ} {v : Value} {xs : List γ} {S : Rep β} {y : β} {S' : Rep β'} {y' : β'}
theorem Xv : CV R v xs (exv v) () (sl R) xs := fun m cs h k => Qkp h k
theorem VE {δ : Type} (T : Rep δ) (z : δ) (h : CV R v xs S y S' y') : CV R v xs (prod S T) (y, z) (prod S' T) (y', z) := fun m cs hv ⟨e1, e2, e, p, q⟩ => ⟨e1, e2, e, h m e1 hv p, q⟩
theorem Jt {δ : Type} (T : Rep δ) (z : δ) (h : CV R v xs S y S' y') : CV R v xs (prod T S) (z, y) (prod T S') (z, y') := fun m cs hv ⟨e1, e2, e, p, q⟩ => ⟨e1, e2, e, p, h m e2 hv q⟩
end
def SX {α α1 β : Type} (R : Rep α) (x : α) (off : Nat) (S : Rep β) (z : β) (R1 : Rep α1) (x1 : α1) : Prop :=
 R1.n = R.n ∧ off + S.n ≤ R.n ∧ ∀ m cs ds, R.rel m cs x → S.rel m ds z → R1.rel m (cs.take off ++ ds ++ cs.drop (off + S.n)) x1
theorem QjE {R : Rep α} {x : α} {off : Nat} {S : Rep β} {z : β} {get : α → β} {set : α → β → α} (h : Path R off S get set) : SX R x off S z R (set x z) := ⟨rfl, h.fits, fun _ _ _ p q => h.set_ok p q⟩
theorem KQ {R : Rep α} {x x1 : α} {off : Nat} {S : Rep β} {z : β} {get : α → β} {set : α → β → α} (h : Path R off S get set) (e : set x z = x1) : SX R x off S z R x1 := by
 subst e; exact QjE h
theorem QlI {α' : Type} {R : Rep α} {r : α} {off : Nat} {v' : Value} {R' : Rep α'} {r' : α'} (h : SE R r off v' R' r') : SX R r off (exv v') () R' r' := ⟨h.1, h.2.1, fun m cs ds p q => by
 obtain ⟨rfl, hv⟩ := q
 exact h.2.2 m cs hv p⟩
inductive BuildX (P : Program) (T : TypeId) (Γ : Env) : {α α' : Type} → (R : Rep α) → α → List (Nat × Operand) → (R' : Rep α') → α' → Prop
 | nil {α : Type} {R : Rep α} {x : α} : BuildX P T Γ R x [] R x
 | cons {α α' β α1 : Type} {i off : Nat} {y : Operand} {S : Rep β} {z : β} {ps : List (Nat × Operand)} {R : Rep α} {x : α} {R1 : Rep α1} {x1 : α1} {R' : Rep α'} {r : α'} :
  Has Γ y (S.slot z) → SX R x off S z R1 x1 → Ko P T i = some (off, S.n) → BuildX P T Γ R1 x1 ps R' r → BuildX P T Γ R x ((i, y) :: ps) R' r
theorem BuildX.fill {P : Program} {T : TypeId} {α' : Type} {R : Rep α} {R' : Rep α'} {m : Mem} {a : Act} {ps : List (Nat × Operand)} {x : α} {r : α'} (h : BuildX P T Γ R x ps R' r) :
  ∀ {cs : List Value} {place : Nat → Option (Nat × Nat)}, R.rel m cs x → (∀ i p, Ko P T i = some p → place i = some p) → (∀ p ∈ ps, Opd Γ m a p.2) →
  ∃ cs', Instr.fill place cs.toArray (ps.map fun p => (p.1, a.eval p.2)) = some cs'.toArray ∧ R'.rel m cs' r := by
 induction h with
 | nil => intro cs place hr _ _; exact ⟨cs, rfl, hr⟩
 | @cons α α' β α1 i off y S z ps R x R1 x1 R' r hy hp hpl _ ih =>
  intro cs place hr WC ho
  obtain ⟨ds, hc, hd⟩ := Rep.is_cells (hy m a (ho (i, y) (by simp)))
  have hdl := S.len hd
  have hcl := R.len hr
  have hfit := hp.2.1
  obtain ⟨cs', he, hr'⟩ := ih (cs := cs.take off ++ ds ++ cs.drop (off + S.n)) (hp.2.2 m cs ds hr hd) WC (fun p hp => ho p (by simp [hp]))
  refine ⟨cs', ?_, hr'⟩
  simp only [List.map_cons, Instr.fill, WC i _ hpl, hc]
  have hsz : ds.toArray.size = S.n := by simp [hdl]
  have hcond : ¬ (ds.toArray.size ≠ S.n ∨ off + ds.toArray.size > cs.toArray.size) := by
   rintro (h | h)
   ·exact h hsz
   ·simp at h; omega
  have hbool : (decide (ds.toArray.size ≠ S.n) || decide (off + ds.toArray.size > cs.toArray.size)) = false := by
   simp only [Bool.or_eq_false_iff, decide_eq_false_iff_not]
   exact ⟨fun h => h hsz, by simp; omega⟩
  have hf := UX off ds 0 cs (by omega)
  have hz : Array.foldl (fun cs (p : Value × Nat) => cs.setIfInBounds (off + p.2) p.1) cs.toArray ds.toArray.zipIdx = (cs.take off ++ ds ++ cs.drop (off + S.n)).toArray := by
   rw [← Array.foldl_toList, Array.toList_zipIdx]
   rw [hf]; simp [hdl]
  rw [if_neg (by simpa using hcond)]
  first
   | (rw [hz]; exact he)
   | (simp only [] at hz ⊢; rw [hz]; exact he)
theorem qf {α' : Type} {T : TypeId} {R : Rep α} {R' : Rep α'} {x : α} {r : α'} {ps : List (Nat × Operand)} {zc : List Value} (hz : X5 R x zc) (hT : KI c.P T = some zc) (hB : QaX c.P T = true) (ha : R'.ag = true) (h : BuildX c.P T Γ R x ps R' r) :
  PJ c ⟨od, .build T ps.toArray, ty, pos, aft, g⟩ Γ H (R'.slot r) :=
 YE fun m hs a w _ _ _ ho => by
  obtain ⟨zv, hzv, hzc⟩ := WM hT w
  have hop : ∀ p ∈ ps, Opd Γ m a p.2 := fun p hp => ho p.2 (by
   simp only [Op.operands]
   simp only [List.mem_toArray, List.mem_map]
   exact ⟨p, hp, rfl⟩)
  have hpl : ∀ (place : Nat → Option (Nat × Nat)), (∀ i p, Ko c.P T i = some p → place i = some p) → ∃ cs', Instr.fill place zc.toArray (ps.map fun p => (p.1, a.eval p.2)) = some cs'.toArray ∧ R'.rel m cs' r :=
   fun place hp => h.fill (hz m) hp hop
  have UH : ((ps.toArray.map fun (p : Nat × Operand) => (p.1, a.eval p.2))).toList = ps.map fun p => (p.1, a.eval p.2) := by simp
  unfold QaX at hB
  split at hB
  ·rename_i fs hu
   have hall : ∀ f ∈ fs.toList, (c.P.info? f.type).isSome = true := List.all_eq_true.1 hB
   obtain ⟨cs', hfill, hr⟩ := hpl ((fs.toList.map fun f => (f.offset, ((c.P.info? f.type).map (·.size)).getD 0)).toArray[·]?) (by
    intro i p hp
    simp only [Ko, hu] at hp
    simp only [List.getElem?_toArray, List.getElem?_map, Array.getElem?_toList]
    cases hf : fs[i]? with
    | none => rw [hf] at hp; simp at hp
    | some f =>
     rw [hf] at hp
     simp only [Option.bind_some] at hp
     cases hi : c.P.info? f.type with
     | none => rw [hi] at hp; simp at hp
     | some t => rw [hi] at hp; simp only [Option.map_some] at hp ⊢; simpa [hi] using hp)
   have hmm : (fs.mapM fun f => do pure (f.offset, ← sizeOf f.type) : Sem (Array (Nat × Nat))).run c.P w = .ok (fs.toList.map fun f => (f.offset, ((c.P.info? f.type).map (·.size)).getD 0)).toArray w := by
    have := BV (P := c.P) (w := w) fs.toList hall
    rw [Array.mapM_eq_mapM_toList, Sem.run_map, this]
    rfl
   have hrun : (Instr.build T (ps.toArray.map fun (p : Nat × Operand) => (p.1, a.eval p.2))).run c.P w = .ok (.agg cs'.toArray) w := by
    simp only [Instr.build, Sem.run_bind, hzv, Result.andThen_ok, run_underlying hu, hzc, UH, hmm, hfill, Sem.run_pure]
   refine ⟨.agg cs'.toArray, ?_, ?_⟩
   ·show (do let v ← Instr.build T (ps.toArray.map fun (p : Nat × Operand) => (p.1, a.eval p.2)); pure (Next.value v) : Sem Next).run c.P w = _
    rw [Sem.run_bind, hrun]; rfl
   ·simp only [Rep.slot, Rep.is, ha]; exact ⟨cs', rfl, hr⟩
  ·rename_i n e hu
   obtain ⟨t, ht⟩ := Option.isSome_iff_exists.1 hB
   obtain ⟨cs', hfill, hr⟩ := hpl (fun i => some (i * t.size, t.size)) (by
    intro i p hp
    simp only [Ko, hu, ht, Option.map_some] at hp
    exact hp)
   have hs : (sizeOf e).run c.P w = .ok t.size w := by simp [sizeOf, typeInfo, ht]
   have hrun : (Instr.build T (ps.toArray.map fun (p : Nat × Operand) => (p.1, a.eval p.2))).run c.P w = .ok (.agg cs'.toArray) w := by
    simp only [Instr.build, Sem.run_bind, hzv, Result.andThen_ok, run_underlying hu, hzc, UH, hs, hfill, Sem.run_pure]
   refine ⟨.agg cs'.toArray, ?_, ?_⟩
   ·show (do let v ← Instr.build T (ps.toArray.map fun (p : Nat × Operand) => (p.1, a.eval p.2)); pure (Next.value v) : Sem Next).run c.P w = _
    rw [Sem.run_bind, hrun]; rfl
   ·simp only [Rep.slot, Rep.is, ha]; exact ⟨cs', rfl, hr⟩
  ·cases hB
theorem QjH {x y : Operand} {ts : Array TypeId} {p q : Int} (hx : Has Γ x (i64.slot p)) (hy : Has Γ y (i64.slot q)) :
  PJ c ⟨od, .call { callee := .builtin .min, args := #[x, y], argTypes := ts }, ty, pos, aft, g⟩ Γ H (i64.slot (if q < p then q else p)) :=
 YE fun m hs a w _ _ _ ho => by
  have ex := ZE.1 (hx m a (ho x (by simp [Op.operands, Call.operands])))
  have ey := ZE.1 (hy m a (ho y (by simp [Op.operands, Call.operands])))
  refine ⟨.int .i64 (if q < p then q else p), ?_, ZE.2 rfl⟩
  simp only [execOp, resolve, Sem.run_bind, Sem.run_pure, Result.andThen_ok, invoke, builtin]
  simp only [List.map_toArray, List.map_cons, List.map_nil, ex, ey, run_min_int2, Result.andThen_ok]
theorem QaG {ST T : TypeId} {x y : Operand} {R : Rep α} {z : α} {zc : List Value} {n cp : Int} {zs : List α} (hx : Has Γ x (i64.slot n)) (hy : Has Γ y (i64.slot cp)) (h0 : 0 ≤ n) (h1 : n ≤ cp) (h2 : cp ≤ 4294967296)
  (hT : slE c.P ST T R.n = true) (hz : X5 R z zc) (hzB : KI c.P T = some zc) (e : List.replicate n.toNat z = zs) (hN : Nat.blt d c.N = true)
  (k : ∀ v, Jc c full l ((d, ov v) :: Γ) (own T R v zs :: H) K) : Jc c full (⟨some d, .makeSlice ST x y, ty, pos, aft, none⟩ :: l) Γ H K := by
 subst e; exact Uy hx hy h0 h1 h2 hT hz hzB hN k
theorem Qd9 {ST T : TypeId} {x y : Operand} {R : Rep α} {z : α} {zc : List Value} {n cp : Int} {zs : List α} (hx : Has Γ x (i64.slot n)) (hy : Has Γ y (i64.slot cp)) (h0 : 0 ≤ n) (h1 : n ≤ cp) (h2 : cp ≤ 4294967296)
  (hT : slE c.P ST T R.n = true) (hz : X5 R z zc) (hzB : KI c.P T = some zc) (e : List.replicate n.toNat z = zs) (hN : Nat.blt d c.N = true) :
  WJ c ⟨some d, .makeSlice ST x y, ty, pos, aft, g⟩ Γ H (fun v => [(d, ov v)]) (fun v => own T R v zs :: H) := by
 subst e; exact Qfe hx hy h0 h1 h2 hT hz hzB hN
theorem UQ {T T0 : TypeId} {x y : Operand} {v : Value} (R : Rep α) (i : Nat) {xs : List α} {z : α} (hx : Has Γ x (Bn v (i * R.n))) (hy : Has Γ y (R.slot z)) (hk : Pick H (own T0 R v xs) H') (h1 : i < xs.length) (hT : szB c.P T R.n = true)
  (k : Jc c full l Γ (own T0 R v (xs.set i z) :: H') K) : Jc c full (⟨none, .store T x y, ty, pos, aft, none⟩ :: l) Γ H K :=
 QeG (off := 0) (by simpa using hx) hy hk h1 (Path.all R) hT k
theorem YW {T T0 : TypeId} {x : Operand} {v : Value} (R : Rep α) (i : Nat) {xs : List α} (hx : Has Γ x (Bn v (i * R.n))) (hk : Pick H (own T0 R v xs) H') (h1 : i < xs.length)
  (hT : tyB c.P T R.ag R.n = true) : PJ c ⟨od, .load T x, ty, pos, aft, g⟩ Γ H (R.slot xs[i]) :=
 Qbv (off := 0) (by simpa using hx) hk h1 (Path.all R) hT
end
end Go.Sl
namespace Go.Sl
def exE (e : Ent) (h0 : Hp) : Ent := ⟨fun m hs => e.p m hs ∧ hs = h0, fun hm h => ⟨e.mono hm h.1, h.2⟩⟩
inductive LU (e : Ent) (Γ : Env) : Env → Prop
 | nil : LU e Γ []
 | cons {t : Nat} {s s0 : Slot} {U : Env} : lk Γ t = some s0 → (∀ m v, s0.p m v → (lnt [e] s).p m v) → LU e Γ U → LU e Γ ((t, s) :: U)
theorem LU.opd {e : Ent} {Γ U : Env} (h : LU e Γ U) {m M : Mem} {a : Act} {h1 : Hp} (hle : Mle m M) (he : e.p M h1) (hh : Qgg M h1) {t : Nat} (ho : ∀ s, lk Γ t = some s → s.p m (a.tmps.getD t undef)) :
  ∀ s, lk (U ++ Γ) t = some s → s.p M (a.tmps.getD t undef) := by
 induction h with
 | nil => exact fun s e => s.mono hle (ho s e)
 | @cons t' s' s0 U hl hs0 _ ih =>
  intro s e'
  by_cases ht : t' = t
  ·subst ht
   rw [List.cons_append, Zs] at e'
   cases e'
   exact hs0 _ _ (ho _ hl) M h1 hle ⟨h1, [], by simp, he, rfl⟩ hh
  ·rw [List.cons_append, Yw ht] at e'
   exact ih s e'
theorem QlU {m : Mem} {h1 h2 : Hp} {w : World} (hg : JM m (h1 ++ h2) w) : JM (ext m h1) h2 w ∧ Mle m (ext m h1) ∧ Qgg (ext m h1) h1 := by
 have hn := hg.nodup
 rw [Hp.bs_append, List.nodup_append] at hn
 have hg1 : JM m h1 w := ⟨hg.mem, hn.1, fun x hx => hg.blk x (by simp [hx]), fun x hx => hg.free x (by simp [hx])⟩
 refine ⟨⟨hg1.ext.mem, hn.2.1, fun x hx => hg.blk x (by simp [hx]), fun x hx o => ?_⟩, KT hg1, ?_⟩
 ·rw [QbV (fun h => hn.2.2 _ h _ (List.mem_map_of_mem (f := (·.1)) hx) rfl)]
  exact hg.free x (by simp [hx]) o
 ·rintro ⟨b, T, cs⟩ hb j v e
  rw [Nat.zero_add, WA hn.1 hb]; exact e
section
variable {c : Ctx} {full : Array Oper} {l : List Oper} {Γ Γ' : Env} {H H' : List Ent} {K : Act → World → Prop} {d : Tmp} {od : Option Tmp} {ty : TypeId} {pos : String} {aft : Array Edge} {g : Option (Nat × Bool)} {α β : Type}
theorem WI {S f off k n : Nat} {x : Operand} {v : Value} (hx : Has Γ x (Bn v (k * n))) (hf : QdP c.P S f off = true) : PJ c ⟨od, .fieldAddr S x f, ty, pos, aft, g⟩ Γ H (Bn v (k * n + (0 + off))) := by
 rw [Nat.zero_add]; exact QaJ hx hf
theorem qH {S f off k n o1 : Nat} {x : Operand} {v : Value} (hx : Has Γ x (Bn v (k * n + o1))) (hf : QdP c.P S f off = true) : PJ c ⟨od, .fieldAddr S x f, ty, pos, aft, g⟩ Γ H (Bn v (k * n + (o1 + off))) := by
 rw [← Nat.add_assoc]; exact QaJ hx hf
theorem W4 {T T0 off : Nat} {x : Operand} {v : Value} (R : Rep α) {S : Rep β} {xs : List α} {y : α} {z : β} {get : α → β} {set : α → β → α} (i : Int) (hx : Has Γ x (Bn v (i.toNat * R.n + off))) (hk : Pick H (own T0 R v xs) H') (h : ZC xs i = some y) (hp : Path R off S get set)
  (hT : tyB c.P T S.ag S.n = true) (e : get y = z) : PJ c ⟨od, .load T x, ty, pos, aft, g⟩ Γ H (S.slot z) := by
 obtain ⟨h0, h1, rfl⟩ := Q4 h
 subst e
 exact Qbv hx hk h1 hp hT
end
end Go.Sl
namespace Go.Sl
def AtE (e : Ent) (b o : Nat) (row : List Value) : Prop := ∀ m h, e.p m h → Qgg m h → At m b o row
theorem AtE.mid {e : Ent} {b o : Nat} {row : List Value} (h : AtE e b o row) (k n : Nat) : AtE e b (o + k) ((row.drop k).take n) := fun m hs he hh => (h m hs he hh).mid k n
theorem AtE.cells {e : Ent} {H H' : List Ent} {m : Mem} {hs : Hp} {w : World} {b o : Nat} {row : List Value} (h : AtE e b o row) (hg : JM m hs w) (hsat : Sat H m hs) (hk : Pick H e H') (j : Nat) (v : Value) (ev : row[j]? = some v) : w.cell? ⟨b, o + j, none⟩ = some v := by
 obtain ⟨h1, h2, hp, he, hsat2⟩ := hsat.pick hk
 obtain ⟨hgM, hle, hh⟩ := QlU (hg.perm hp)
 exact hgM.mem _ _ _ (h _ _ (e.mono hle he) hh j v ev)
section
variable {α β γ : Type}
def slH (e : Ent) (R : Rep α) : Rep (List α) where
 n := 1
 ag := false
 rel := fun m cs l => ∃ a cap, cs = [.slice a l.length cap] ∧ l.length ≤ cap ∧ (l = [] ∨ ∃ b o row, a = some ⟨b, o, none⟩ ∧ JP R m row l ∧ AtE e b o row)
 mono := fun hm ⟨a, cap, e, hc, h⟩ => ⟨a, cap, e, hc, h.imp id fun ⟨b, o, row, e', p, q⟩ => ⟨b, o, row, e', p.mono hm, q⟩⟩
 len := fun ⟨a, cap, e, _, _⟩ => by rw [e]; rfl
 cell := fun ⟨a, cap, e, _, _⟩ v hv => by rw [e] at hv; simp at hv; subst hv; rfl
 one := fun _ => rfl
def LE (e : Ent) (R R' : Rep α) : Prop := R'.ag = R.ag ∧ ∀ m cs x m' h, Mle m m' → e.p m' h → Qgg m' h → R.rel m cs x → R'.rel m' cs x
theorem LE.refl {e : Ent} (R : Rep α) : LE e R R := ⟨rfl, fun _ _ _ _ _ hm _ _ h => R.mono hm h⟩
theorem LE.sl {e : Ent} (R : Rep α) : LE e (slH e R) (sl R) := ⟨rfl, fun m cs x m' h hm he hh ⟨a, cap, e1, hc, k⟩ => ⟨a, cap, e1, hc, k.imp id fun ⟨b, o, row, e', p, q⟩ => ⟨b, o, row, e', p.mono hm, q _ _ he hh⟩⟩⟩
theorem LE.prod {e : Ent} {R R' : Rep α} {S S' : Rep β} (h : LE e R R') (k : LE e S S') : LE e (prod R S) (prod R' S') := ⟨rfl, fun m cs x m' hs hm he hh ⟨c1, c2, e1, p, q⟩ => ⟨c1, c2, e1, h.2 _ _ _ _ _ hm he hh p, k.2 _ _ _ _ _ hm he hh q⟩⟩
theorem LE.lnt {e : Ent} {R R' : Rep α} (h : LE e R R') {x : α} {m : Mem} {v : Value} (hv : (R.slot x).p m v) : (Go.Sl.lnt [e] (R'.slot x)).p m v := by
 intro m' hs hle hsat hh
 obtain ⟨g1, g2, rfl, hg1, rfl⟩ := hsat
 rw [List.append_nil] at hh
 simp only [Rep.slot, Rep.is, h.1] at hv ⊢
 split at hv
 ·rename_i ha
  obtain ⟨cs, e1, hr⟩ := hv
  exact ⟨cs, e1, h.2 _ _ _ _ _ hle hg1 hh hr⟩
 ·exact h.2 _ _ _ _ _ hle hg1 hh hv
variable {c : Ctx} {full : Array Oper} {l : List Oper} {Γ Γ' : Env} {H H' : List Ent} {K : Act → World → Prop} {d : Tmp} {od : Option Tmp} {ty : TypeId} {pos : String} {aft : Array Edge} {g : Option (Nat × Bool)} {e : Ent}
end
section
variable {α β : Type} {c : Ctx} {full : Array Oper} {l : List Oper} {Γ : Env} {H H' : List Ent} {K : Act → World → Prop} {d : Tmp} {ty : TypeId} {pos : String} {aft : Array Edge}
end
end Go.Sl
namespace Go.Sl
section
variable {P : Program} {b : Frame} {a : Act} {k : List Item} {cs : List Frame} {w : World}
theorem Ky {c : Code} : step P (lone (b.atR a (.code (.scope c) :: k)) cs w) = .next (lone (b.atR a (.code c :: .inScope c :: k)) cs w) :=
 step_lone_go (by simp [stepG, stepG.exec, Frame.atR])
theorem Qdk {c : Code} : step P (lone (b.atR a (.inScope c :: k)) cs w) = .next (lone (b.atR a k) cs w) :=
 step_lone_go (by simp [stepG, stepG.exec, Frame.atR])
end
theorem Qf6 {F : Fence} {n : Nat} {P : Program} {Q : Exit → Act → World → Prop} {a : Act} {w : World} {c : Code} (h : c.wpIn F n P (Exit.noGoto Q) a w) : (Code.scope c).wpIn F n P Q a w := by
 intro b k cs hro hb hr
 have h0 : (lone (b.atR a (.code (.scope c) :: k)) cs w).fenced P F := fenced_calm hb hr rfl
 obtain ⟨e, a₁, w₁, hq, harr⟩ := h b (.inScope c :: k) cs hro hb hr
 cases e with
 | normal => exact ⟨.normal, a₁, w₁, hq, .head h0 Ky (StepsIn.trans harr (.one (fenced_calm hb hr rfl) Qdk))⟩
 | exit id =>
  have hx : exitTo id (.inScope c :: k) = exitTo id k := by simp [exitTo]
  exact ⟨_, a₁, w₁, hq, fun k' hk => .head h0 Ky (harr.1 k' (by rw [hx]; exact hk)),
   fun hr' hk => let ⟨k₁, h1, h2⟩ := harr.2 hr' (by rw [hx]; exact hk); ⟨k₁, h1, .head h0 Ky h2⟩⟩
 | goto l => exact hq.elim
 | ret => exact ⟨_, a₁, w₁, hq, .of_steps (.one h0 Ky) harr⟩
 | panic ch => exact ⟨_, a₁, w₁, hq, .of_steps (.one h0 Ky) harr⟩
 | outgrown => exact ⟨_, a₁, w₁, hq, .of_steps (.one h0 Ky) harr⟩
section
variable {c : Ctx} {Γ : Env} {H : List Ent} {Q : Exit → Act → World → Prop} {k : List Code}
theorem Qh3 {l : Nat} (h : Run c Q k Γ H) : Run c Q (.label l :: k) Γ H := fun a w hst => wpIn_label (h a w hst)
end
def NG (Q : Exit → Act → World → Prop) : Prop := ∀ l a w, ¬ Q (.goto l) a w
theorem QlF {σ ρ : Type} {id : Nat} {I : σ → Act → World → Prop} {R : ρ → Act → World → Prop} {r : LR σ ρ} : NG (LQ id I R r) := by
 intro l a w h
 cases r with
 | next s => exact absurd h.1 (by simp)
 | brk s => exact absurd h.1 (by simp)
 | ret x => exact absurd h.1 (by simp)
theorem QlA {id : Nat} {n : Act → World → Prop} {Q : Exit → Act → World → Prop} (h : NG Q) : NG (BQ id n Q) := fun l a w hq => h l a w hq
section
variable {c : Ctx} {Γ : Env} {H : List Ent} {Q : Exit → Act → World → Prop} {k : List Code}
theorem Qh4 {x : Code} (hn : NG Q) (h : Run c Q (x :: k) Γ H) : Run c Q (.scope x :: k) Γ H := fun a w hst =>
 Qf6 (wpIn_mono (h a w hst) fun e a' w' he => by
  cases e with
  | goto l => exact absurd he (hn l a' w')
  | _ => exact he)
end
def Ocv {β β' : Type} (H : List Ent) (S : Rep β) (y : β) (S' : Rep β') (y' : β') : Prop := ∀ m hs w, JM m hs w → Sat H m hs → ∀ cs, S.rel (ext m hs) cs y → S'.rel (ext m hs) cs y'
section
variable {α β β' β1 : Type} {c : Ctx} {Γ : Env} {H H' : List Ent}
theorem KJ {S : Rep β} {y : β} : Ocv H S y S y := fun _ _ _ _ _ _ h => h
theorem Qkv {T : TypeId} {v : Value} {R : Rep α} {xs : List α} (hk : Pick H (own T R v xs) H') {m : Mem} {hs : Hp} {w : World} (hg : JM m hs w) (hsat : Sat H m hs) : ((sl R).slot xs).p (ext m hs) v := by
 obtain ⟨h1, h2, hp, ho, _⟩ := hsat.pick hk
 rcases ho with ⟨rfl, _, ad, rfl⟩ | ⟨b, cap, row, spare, rfl, rfl, hr, hc, hl⟩
 ·exact ⟨ad, 0, rfl, Nat.le_refl _, .inl rfl⟩
 ·refine ⟨_, cap, rfl, hc, .inr ⟨b, 0, row, rfl, hr.mono (KT hg), fun j u ev => ?_⟩⟩
  rw [WA (T := T) (cs := row ++ spare) hg.nodup (hp.mem_iff.2 (by simp)), Nat.zero_add, List.getElem?_append_left]
  ·exact ev
  ·exact (List.getElem?_eq_some_iff.1 ev).1
theorem Zh {T : TypeId} {v : Value} {R : Rep α} {xs : List α} {S : Rep β} {y : β} {S1 : Rep β1} {y1 : β1} {S' : Rep β'} {y' : β'} (hk : Pick H (own T R v xs) H') (hc : CV R v xs S y S1 y1) (h : Ocv H S1 y1 S' y') : Ocv H S y S' y' :=
 fun m hs w hg hsat cs hr => h m hs w hg hsat cs (hc _ _ (Qkv hk hg hsat) hr)
theorem KN {x : Operand} {b : Nat} {T : TypeId} {S : Rep β} {y : β} {R : Rep β'} {r : β'} (hx : Has Γ x (val (.pointer (some ⟨b, 0, none⟩)))) (hk : Pick H (box b T S y) H') (ho : Ocv H S y R r) : QeY c Γ H x ((ptr R).slot (some r)) := by
 intro m hs a w hg hsat hop
 have e : a.eval x = _ := hx m a hop
 rw [e]
 obtain ⟨cs, hmem, hr⟩ := Sat.box (w := w) hsat hk
 exact ⟨b, 0, cs, rfl, ho m hs w hg hsat cs (S.mono (KT hg) hr), fun j u ev => by rw [WA (T := T) (cs := cs) hg.nodup hmem, Nat.zero_add]; exact ev⟩
end
def XE (H H' : List Ent) : Prop := ∀ m hs, Sat H m hs → Sat H' m hs
theorem JF {H : List Ent} : XE H H := fun _ _ h => h
theorem QM {e : Ent} {h0 : Hp} {H H' : List Ent} (h : XE H H') : XE (exE e h0 :: H) (e :: H') := fun m hs ⟨h1, h2, e1, p, q⟩ => ⟨h1, h2, e1, p.1, h m h2 q⟩
theorem Jh {e : Ent} {H H' : List Ent} (h : XE H H') : XE (e :: H) (e :: H') := fun m hs ⟨h1, h2, e1, p, q⟩ => ⟨h1, h2, e1, p, h m h2 q⟩
def Qb9 (E : List Ent) : Prop := ∃ h0, ∀ m hs, Sat E m hs → hs = h0
theorem Qgh : Qb9 [] := ⟨[], fun _ _ h => h⟩
theorem Wz {e : Ent} {h0 : Hp} {E : List Ent} (h : Qb9 E) : Qb9 (exE e h0 :: E) := by
 obtain ⟨g0, hg⟩ := h
 refine ⟨h0 ++ g0, fun m hs hs' => ?_⟩
 obtain ⟨h1, h2, rfl, ⟨_, rfl⟩, q⟩ := hs'
 rw [hg m h2 q]
section
variable {c : Ctx} {Γ : Env} {H H' : List Ent} {od : Option Tmp} {ty : TypeId} {pos : String} {aft : Array Edge} {g : Option (Nat × Bool)}
theorem PJ.xe {o : Oper} {s : Slot} (h : XE H H') (k : PJ c o Γ H' s) : PJ c o Γ H s := fun m hs a w hg hG hsat ho => k m hs a w hg hG (h m hs hsat) ho
theorem QdI {κ ι : Type} {f : FuncId} {args : List Operand} {ats : Array TypeId} {A : List Slot} {s : Slot} {E0 : List Ent} (E : κ → List Ent) (hA : UF Γ args A) (hk : Parts H E0 H') (hX : ∀ m hs, Sat E0 m hs → ∃ i, Sat (E i) m hs) (hE : ∀ i, Qb9 (E i)) (hf : K1 c.P f = true)
  (hC : ∀ i, Ctr c.P c.G f A (E i) (fun _ : ι => s) (fun _ => E i)) : PJ c ⟨od, .call { callee := .value (.func f), args := args.toArray, argTypes := ats }, ty, pos, aft, g⟩ Γ H s := by
 intro m hs a w hg hG hsat ho
 rw [KG hf a.eval (.func f) (QaM (Γ := Γ) m a trivial)]
 have hall := hA.all (m := m) (a := a) (fun y hy => ho y (by simp [Op.operands, Call.operands, hy]))
 obtain ⟨h1, h2, hp, he0, hsat2⟩ := hsat.parts hk
 obtain ⟨i, he⟩ := hX _ _ he0
 have hg1 := hg.perm hp
 have hn := hg1.nodup
 rw [Hp.bs_append, List.nodup_append] at hn
 have hg0 : JM m h1 w := ⟨hg.mem, hn.1, fun x hx => hg1.blk x (by simp [hx]), fun x hx => hg1.free x (by simp [hx])⟩
 refine (hC i m w (args.map a.eval) h1 hg0 hG hall he).mono ?_
 rintro en w' ⟨v, m', hs', i', rfl, hg', hv, he', hf'⟩
 obtain ⟨h0, h0e⟩ := hE i
 have e1 := h0e _ _ he
 have e2 := h0e _ _ he'
 subst e1; subst e2
 have hold : ∀ b', b' < w.heap.size → w'.heap[b']? = w.heap[b']? ∧ ∀ o, m' b' o = m b' o := by
  intro b' hlt
  by_cases hb : b' ∈ Hp.bs hs'
  ·obtain ⟨x, hx, rfl⟩ := List.mem_map.1 hb
   exact ⟨by rw [hg'.blk x hx, hg0.blk x hx], fun o => by rw [hg'.free x hx, hg0.free x hx]⟩
  ·exact hf'.old b' hlt hb
 refine ⟨v, rfl, m', ?_, hv, ⟨hf'.os, hf'.tape, hf'.output, hf'.size, fun b' hlt _ => hold b' hlt, (fun b hb => by cases hb), hf'.le⟩⟩
 refine ⟨hg'.mem, hg.nodup, fun x hx => ?_, fun x hx o => ?_⟩
 ·have hlt := hg.ltb (List.mem_map_of_mem (f := (·.1)) hx)
  rw [(hold x.1 hlt).1]
  exact hg.blk x hx
 ·have hlt := hg.ltb (List.mem_map_of_mem (f := (·.1)) hx)
  rw [(hold x.1 hlt).2 o]
  exact hg.free x hx o
end
theorem QiU {e1 e2 e3 e4 : Ent} (m : Mem) (hs : Hp) (h : Sat [e1, e2, e3, e4] m hs) : ∃ i : Hp × Hp × Hp × Hp, Sat [exE e1 i.1, exE e2 i.2.1, exE e3 i.2.2.1, exE e4 i.2.2.2] m hs := by
 obtain ⟨h1, r1, rfl, p1, h2, r2, rfl, p2, h3, r3, rfl, p3, h4, r4, rfl, p4, rfl⟩ := h
 exact ⟨(h1, h2, h3, h4), h1, _, rfl, ⟨p1, rfl⟩, h2, _, rfl, ⟨p2, rfl⟩, h3, _, rfl, ⟨p3, rfl⟩, h4, _, rfl, ⟨p4, rfl⟩, rfl⟩
theorem QeX {e1 e2 e3 e4 : Ent} (i : Hp × Hp × Hp × Hp) : Qb9 [exE e1 i.1, exE e2 i.2.1, exE e3 i.2.2.1, exE e4 i.2.2.2] := Wz (Wz (Wz (Wz Qgh)))
theorem Ctr.frozeL {β : Type} {P : Program} {G : GP} {f : FuncId} {A : List Slot} {E : List Ent} {T' : TypeId} {R' : Rep β} {xs : List β} (h : Ctr P G f A E (fun v : Value => ov v) (fun v => E ++ [own T' R' v xs])) :
  Ctr P G f A E (fun _ : Unit => (sl R').slot xs) (fun _ => E) := by
 intro m w vs hs hg hG hA hsat
 refine (h m w vs hs hg hG hA hsat).mono ?_
 rintro en w' ⟨v, m', hs', i, rfl, hg', hv, hsat', hf'⟩
 obtain ⟨h1, h2, rfl, hb, h3, h4, rfl, ho, h4e⟩ := hsat'.split
 cases h4e
 rw [List.append_nil] at hg' hf'
 have hp : (h1 ++ h3).Perm (h3 ++ h1) := List.perm_append_comm
 obtain ⟨m2, hle, hg2, hv2, hf2, _⟩ := own.froze ho (hg'.perm hp) (hf'.perm hp)
 have : v = i := (Uv.1 hv).1
 subst this
 exact ⟨v, m2, h1, (), rfl, hg2, hv2, hb.mono hle, hf2⟩
end Go.Sl
namespace Go.Sl
section
variable {α : Type}
def Vt (R : Rep α) (m : Mem) : List Value → List (Option α) → Prop
 | cs, [] => cs = []
 | cs, z :: zs => ∃ c cs', cs = c ++ cs' ∧ c.length = R.n ∧ (∀ x, z = some x → R.rel m c x) ∧ Vt R m cs' zs
theorem Vt.mono {R : Rep α} {m m' : Mem} (hm : Mle m m') : ∀ {zs : List (Option α)} {cs : List Value}, Vt R m cs zs → Vt R m' cs zs
 | [], _, h => h
 | _ :: _, _, ⟨c, cs', e, l, p, q⟩ => ⟨c, cs', e, l, fun x hx => R.mono hm (p x hx), Vt.mono hm q⟩
theorem Vt.length {R : Rep α} {m : Mem} : ∀ {zs : List (Option α)} {cs : List Value}, Vt R m cs zs → cs.length = zs.length * R.n
 | [], _, h => by cases h; simp
 | _ :: zs, _, ⟨c, cs', e, l, p, q⟩ => by
  subst e
  rw [List.length_append, l, Vt.length q, List.length_cons, Nat.add_mul, Nat.one_mul, Nat.add_comm]
theorem Vt.append {R : Rep α} {m : Mem} : ∀ {xs ys : List (Option α)} {cs ds : List Value}, Vt R m cs xs → Vt R m ds ys → Vt R m (cs ++ ds) (xs ++ ys)
 | [], _, _, _, h, k => by cases h; simpa using k
 | _ :: _, _, _, _, ⟨c, cs', e, l, p, q⟩, k => ⟨c, cs' ++ _, by subst e; simp, l, p, Vt.append q k⟩
theorem Vt.split {R : Rep α} {m : Mem} : ∀ {xs ys : List (Option α)} {cs : List Value}, Vt R m cs (xs ++ ys) → ∃ c1 c2, cs = c1 ++ c2 ∧ Vt R m c1 xs ∧ Vt R m c2 ys
 | [], _, cs, h => ⟨[], cs, rfl, rfl, h⟩
 | _ :: _, _, _, ⟨c, cs', e, l, p, q⟩ => by
  obtain ⟨c1, c2, e2, h1, h2⟩ := Vt.split q
  exact ⟨c ++ c1, c2, by subst e; subst e2; simp, ⟨c, c1, rfl, l, p, h1⟩, h2⟩
theorem Vt.cut {R : Rep α} {m : Mem} {zs : List (Option α)} {cs : List Value} (k : Nat) (h : Vt R m cs zs) : Vt R m (cs.take (k * R.n)) (zs.take k) ∧ Vt R m (cs.drop (k * R.n)) (zs.drop k) := by
 rw [← List.take_append_drop k zs] at h
 obtain ⟨c1, c2, rfl, h1, h2⟩ := h.split
 rcases Nat.le_total k zs.length with hk | hk
 ·have hl := h1.length
  rw [List.length_take, Nat.min_eq_left hk] at hl
  rw [List.take_left' hl, List.drop_left' hl]
  exact ⟨h1, h2⟩
 ·have hl := h1.length
  have h2' := h2
  rw [List.drop_of_length_le hk] at h2' ⊢
  have e : c2 = [] := h2'
  subst e
  rw [List.length_take, Nat.min_eq_right hk] at hl
  have : c1.length ≤ k * R.n := by rw [hl]; exact Nat.mul_le_mul_right _ hk
  rw [List.append_nil, List.take_of_length_le this, List.drop_of_length_le this]
  exact ⟨h1, rfl⟩
theorem Vt.of {R : Rep α} {m : Mem} : ∀ {xs : List α} {cs : List Value}, JP R m cs xs → Vt R m cs (xs.map some)
 | [], _, h => h
 | _ :: _, _, ⟨c, cs', e, p, q⟩ => ⟨c, cs', e, R.len p, fun x hx => by cases hx; exact p, Vt.of q⟩
theorem Vt.to {R : Rep α} {m : Mem} : ∀ {xs : List α} {cs : List Value}, Vt R m cs (xs.map some) → JP R m cs xs
 | [], _, h => h
 | _ :: _, _, ⟨c, cs', e, l, p, q⟩ => ⟨c, cs', e, p _ rfl, Vt.to q⟩
theorem Vt.nones {R : Rep α} {m : Mem} : ∀ (k : Nat) {cs : List Value}, cs.length = k * R.n → Vt R m cs (List.replicate k none)
 | 0, cs, h => show cs = [] by simpa using h
 | k + 1, cs, h => by
  rw [Nat.add_mul, Nat.one_mul] at h
  exact ⟨cs.take R.n, cs.drop R.n, (List.take_append_drop _ _).symm, by rw [List.length_take]; omega, fun x hx => by simp at hx, Vt.nones k (by rw [List.length_drop]; omega)⟩
def arr (b : Nat) (T : TypeId) (R : Rep α) (zs : List (Option α)) : Ent where
 p := fun m hs => ∃ cs, hs = [(b, T, cs)] ∧ Vt R m cs zs
 mono := fun hm ⟨cs, e, h⟩ => ⟨cs, e, h.mono hm⟩
theorem Qjz {T : TypeId} {R : Rep α} {v : Value} {xs : List α} {m : Mem} {hs : Hp} (h : (own T R v xs).p m hs) (hne : xs ≠ []) :
  ∃ b k, v = .slice (some ⟨b, 0, none⟩) xs.length (xs.length + k) ∧ (arr b T R (xs.map some ++ List.replicate k none)).p m hs := by
 obtain ⟨b, cap, row, spare, hv, rfl, hr, hc, hl⟩ := own.at h hne
 have hrl := hr.length
 refine ⟨b, cap - xs.length, by rw [hv]; congr 1; omega, _, rfl, (Vt.of hr).append (Vt.nones _ ?_)⟩
 rw [List.length_append, hrl] at hl
 rw [Nat.sub_mul]; omega
theorem QjN {b : Nat} {T : TypeId} {R : Rep α} {xs : List α} {k : Nat} {m : Mem} {hs : Hp} (h : (arr b T R (xs.map some ++ List.replicate k none)).p m hs) :
  (own T R (.slice (some ⟨b, 0, none⟩) xs.length (xs.length + k)) xs).p m hs := by
 obtain ⟨cs, rfl, hr⟩ := h
 have hl := hr.length
 obtain ⟨c1, c2, rfl, h1, h2⟩ := hr.split
 refine .inr ⟨b, xs.length + k, c1, c2, rfl, rfl, Vt.to h1, by omega, ?_⟩
 rw [hl]; simp
variable {c : Ctx} {full : Array Oper} {l : List Oper} {Γ Γ' : Env} {H H' : List Ent} {K : Act → World → Prop} {d : Tmp} {od : Option Tmp} {ty : TypeId} {pos : String} {aft : Array Edge} {g : Option (Nat × Bool)}
theorem QdJ {T : TypeId} {R : Rep α} {v : Value} {xs : List α} (hk : Pick H (own T R v xs) H') (hne : xs ≠ [])
  (k : ∀ b n, v = .slice (some ⟨b, 0, none⟩) xs.length (xs.length + n) → Jc c full l Γ (arr b T R (xs.map some ++ List.replicate n none) :: H') K) : Jc c full l Γ H K := by
 intro a w Q hQ hst
 obtain ⟨hd, hn, m, hs, hg, hG, he, ⟨h1, h2, rfl, hown, hsat2⟩, hf⟩ := hst.pick hk
 obtain ⟨b, n, hv, ha⟩ := Qjz hown hne
 exact k b n hv a w Q hQ ⟨hd, hn, m, _, hg, hG, he, ⟨h1, h2, rfl, ha, hsat2⟩, hf⟩
theorem QdV {Q : Exit → Act → World → Prop} {kk : List Code} {b : Nat} {T : TypeId} {R : Rep α} {zs : List (Option α)} (xs : List α) (n : Nat) (hk : Pick H (arr b T R zs) H') (hz : zs = xs.map some ++ List.replicate n none)
  (r : Run c Q kk Γ (own T R (.slice (some ⟨b, 0, none⟩) xs.length (xs.length + n)) xs :: H')) : Run c Q kk Γ H := by
 subst hz
 intro a w hst
 obtain ⟨hd, hn, m, hs, hg, hG, he, ⟨h1, h2, rfl, ha, hsat2⟩, hf⟩ := hst.pick hk
 exact r a w ⟨hd, hn, m, _, hg, hG, he, ⟨h1, h2, rfl, QjN ha, hsat2⟩, hf⟩
theorem Ku {x : Operand} {v : Value} (h : Has Γ x (ov v)) : Has Γ x (val v) := fun m a ho => (Uv.1 (h m a ho)).1
def Qlo (c : Ctx) (Γ : Env) (H : List Ent) (x : Operand) (R : Rep α) (N : Nat) (xs : List α) : Prop :=
 ∀ m hs a w, JM m hs w → Sat H m hs → Opd Γ m a x → ∃ a0 cap, a.eval x = .slice a0 N cap ∧ (xs = [] ∨ ∃ b o row, a0 = some ⟨b, o, none⟩ ∧ JP R m row xs ∧ ∀ j v, row[j]? = some v → w.cell? ⟨b, o + j, none⟩ = some v)
theorem Qaj {x : Operand} {b lo N cap : Nat} {T : TypeId} {R : Rep α} {zs : List (Option α)} {xs : List α} (hx : Has Γ x (val (.slice (some ⟨b, lo * R.n, none⟩) N cap))) (hk : Pick H (arr b T R zs) H') (h : (zs.drop lo).take xs.length = xs.map some) : Qlo c Γ H x R N xs := by
 intro m hs a w hg hsat he
 have e : a.eval x = _ := hx m a he
 obtain ⟨h1, h2, hp, ⟨cs, rfl, hr⟩, _⟩ := hsat.pick hk
 have hmem : (b, T, cs) ∈ hs := hp.mem_iff.2 (by simp)
 have h3 := ((hr.cut lo).2.cut xs.length).1
 rw [h] at h3
 refine ⟨_, cap, e, .inr ⟨b, lo * R.n, _, rfl, Vt.to h3, fun j u ev => ?_⟩⟩
 rw [List.getElem?_take] at ev
 split at ev
 ·rw [List.getElem?_drop] at ev; exact hg.cells hmem _ _ ev
 ·cases ev
theorem QbX {DT ST T : TypeId} {b lo n cap N : Nat} {x y : Operand} {R : Rep α} {zs : List (Option α)} {xs : List α} (hx : Has Γ x (val (.slice (some ⟨b, lo * R.n, none⟩) n cap))) (hk : Pick H (arr b T R zs) H') (hy : Qlo c Γ H y R N xs) (hmin : min N n = xs.length) (hlo : lo + xs.length ≤ zs.length)
  (hT : slB c.P DT R.n = true) (hN : Nat.blt d c.N = true)
  (k : Jc c full l ((d, i64.slot ((xs.length : Nat) : Int)) :: Γ) (arr b T R (zs.take lo ++ xs.map some ++ zs.drop (lo + xs.length)) :: H') K) :
  Jc c full (⟨some d, .call { callee := .builtin .copy, args := #[x, y], argTypes := #[DT, ST] }, ty, pos, aft, none⟩ :: l) Γ H K := by
 refine Bz rfl ?_ k
 intro m hs a w hg _ hsat he hn
 have ex : a.eval x = _ := hx m a (he.opd x)
 obtain ⟨a0, cap0, ey, hsrc⟩ := hy m hs a w hg hsat (he.opd y)
 obtain ⟨g1, g2, hpm, ⟨cs, hcs, hr⟩, hs2⟩ := hsat.pick hk
 subst hcs
 have hg' := hg.perm hpm
 obtain ⟨e, hu, hsz⟩ := BS hT
 have hsize := V8 hsz w
 obtain ⟨row, hrun1, hrow, _⟩ := Src.run (P := c.P) (R := R) (cap := cap0) hsrc xs.length (Nat.le_refl _)
 rw [List.take_length] at hrow
 have hrl := hrow.length
 have hcl := hr.length
 have hlen : lo * R.n + row.length ≤ cs.length := by
  rw [hrl, hcl, ← Nat.add_mul]
  exact Nat.mul_le_mul_right _ hlo
 have hst := VX (P := c.P) (b := b) (o := lo * R.n) (T := T) row 0 cs w hrow.cell (hg'.blk (b, T, cs) (by simp)) (by simpa using hlen)
 simp only [Nat.add_zero] at hst
 have hfc : (Builtin.firstCells R.n xs.length (.slice a0 N cap0)).run c.P w = .ok row.toArray w := by
  rw [← hrun1]; cases a0 <;> rfl
 have hcopy : (Builtin.copy_ #[DT, ST] ty #[.slice (some ⟨b, lo * R.n, none⟩) n cap, .slice a0 N cap0]).run c.P w = .ok (goInt ((xs.length : Nat) : Int)) (setBlk w b T (cs.take (lo * R.n) ++ row ++ cs.drop (lo * R.n + row.length))) := by
  simp only [Builtin.copy_, List.getElem?_toArray, List.getElem?_cons_zero, List.getElem?_cons_succ]
  simp only [Sem.run_bind, run_underlying hu, Result.andThen_ok, Builtin.lenOf, Sem.run_pure, hsize]
  have e3 : Nat.min N n = xs.length := hmin
  rw [e3]
  simp only [hfc, Result.andThen_ok, Sem.run_bind, hst, Sem.run_pure]
 have hrun : (execOp a.eval ⟨some d, .call { callee := .builtin .copy, args := #[x, y], argTypes := #[DT, ST] }, ty, pos, aft, none⟩).run c.P w = .ok (.value (goInt ((xs.length : Nat) : Int))) (setBlk w b T (cs.take (lo * R.n) ++ row ++ cs.drop (lo * R.n + row.length))) := by
  simp only [execOp, resolve, Sem.run_bind, Sem.run_pure, Result.andThen_ok, invoke, builtin]
  simp only [List.map_toArray, List.map_cons, List.map_nil, ex, ey, hcopy, Result.andThen_ok]
 rw [hrun]
 refine ⟨m, (b, T, cs.take (lo * R.n) ++ row ++ cs.drop (lo * R.n + row.length)) :: g2, hg'.setBlk _, he.put (by rw [hn]; simpa [Nat.blt_eq] using hN) (ZE.2 rfl), ⟨[_], g2, rfl, ⟨_, rfl, ?_⟩, hs2⟩, Frm.ofPerm hpm (Frm.setBlk (by simp [Hp.bs]))⟩
 have e4 : lo * R.n + row.length = (lo + xs.length) * R.n := by rw [hrl, Nat.add_mul]
 rw [e4]
 exact (((hr.cut lo).1.append (Vt.of hrow)).append (hr.cut _).2)
theorem Qd2 {T sz b o n cap : Nat} {x : Operand} {lo hi : Option Operand} {p q : Option Int} (hx : Has Γ x (val (.slice (some ⟨b, o, none⟩) n cap))) (hlo : OptI Γ lo p) (hhi : OptI Γ hi q) (p' q' : Nat)
  (hp : p.getD 0 = (p' : Int)) (hq : q.getD n = (q' : Int)) (h1 : p' ≤ q') (h2 : q' ≤ cap) (h3 : p' < cap) (hT : slB c.P T sz = true) :
  PJ c ⟨od, .slice T x lo hi none, ty, pos, aft, g⟩ Γ H (val (.slice (some ⟨b, o + p' * sz, none⟩) (q' - p') (cap - p'))) :=
 YE fun m hs2 a w hg _ _ ho => by
  have e : a.eval x = _ := hx m a (ho x (by simp [Op.operands]))
  have hlo' := hlo.val (m := m) (a := a) (fun y hy => ho y (by subst hy; simp [Op.operands]))
  have hhi' := hhi.val (m := m) (a := a) (fun y hy => ho y (by subst hy; simp [Op.operands]))
  have hr := V7 (P := c.P) hT (a := some ⟨b, o, none⟩) (len := n) (cap := cap) hlo' hhi' (by omega) (by omega) (by omega) w
  refine ⟨_, by simp only [execOp, e, Option.map_none, Sem.run_bind, hr]; rfl, ?_⟩
  rw [hp, hq, Int.toNat_natCast, Int.toNat_natCast, if_neg (by omega)]
  simp [Addr.add_lit, val]
end
end Go.Sl
namespace Go.Sl
section
variable {α β : Type} {c : Ctx} {full : Array Oper} {l : List Oper} {Γ Γ' : Env} {H H' H1 : List Ent} {K : Act → World → Prop} {d : Tmp} {od : Option Tmp} {ty : TypeId} {pos : String} {aft : Array Edge} {g : Option (Nat × Bool)}
theorem Qe3 {f : FuncId} {fn : Func} {tS tR : TypeId} {b1 o1 n1 c1 b2 o2 n2 c2 sz : Nat} {T1 T2 : TypeId} {x y : Operand} {ats : Array TypeId} {R1 : Rep α} {R2 : Rep β} {z1 : List (Option α)} {z2 : List (Option β)}
  (hfn : c.P.funcs[f]? = some fn) (hname : (fn.name == "runtime.NumGoroutine") = false) (hb : fn.body.isNone = true) (hn : Extern.findNext fn = none) (he : Extern.find fn = some (Extern.SlicesOverlaps.overlaps #[tS, tS] #[tR])) (hT : slB c.P tS sz = true)
  (hx : Has Γ x (val (.slice (some ⟨b1, o1, none⟩) n1 c1))) (hy : Has Γ y (val (.slice (some ⟨b2, o2, none⟩) n2 c2))) (hk1 : Pick H (arr b1 T1 R1 z1) H1) (hk2 : Pick H1 (arr b2 T2 R2 z2) H') (hz : 0 < z2.length * R2.n) :
  PJ c ⟨od, .call { callee := .value (.func f), args := #[x, y], argTypes := ats }, ty, pos, aft, g⟩ Γ H (bl.slot false) :=
 YE fun m hs2 a w hg _ hsat ho => by
  have ex : a.eval x = _ := hx m a (ho x (by simp [Op.operands, Call.operands]))
  have ey : a.eval y = _ := hy m a (ho y (by simp [Op.operands, Call.operands]))
  obtain ⟨g1, g2, hp, ⟨cs1, rfl, hr1⟩, hsat1⟩ := hsat.pick hk1
  obtain ⟨g3, g4, hp2, ⟨cs2, rfl, hr2⟩, _⟩ := hsat1.pick hk2
  have hp3 : hs2.Perm ((b1, T1, cs1) :: (b2, T2, cs2) :: g4) := hp.trans (List.Perm.cons _ hp2)
  have hg' := hg.perm hp3
  have hne : b1 ≠ b2 := by
   have := hg'.nodup
   simp only [Hp.bs, List.map_cons, List.nodup_cons, List.mem_cons, not_or] at this
   exact this.1.1
  have hb1 := hg'.blk (b1, T1, cs1) (by simp)
  have hb2 := hg'.blk (b2, T2, cs2) (by simp)
  have hl2 : cs2.length ≠ 0 := by rw [hr2.length]; omega
  obtain ⟨e, hu, hsz⟩ := BS hT
  have hov : (Extern.SlicesOverlaps.overlaps #[tS, tS] #[tR] #[.slice (some ⟨b1, o1, none⟩) n1 c1, .slice (some ⟨b2, o2, none⟩) n2 c2]).run c.P w = .ok (.bool false) w :=
   Lib.run_overlaps_apart w tS tR e hu sz (fun w => V8 hsz w) ⟨b1, o1, none⟩ ⟨b2, o2, none⟩ n1 c1 n2 c2 hne T1 T2 cs1.length cs2.length (by simp [World.shape?, hb1]) (by simp [World.shape?, hb2]) hl2 (by simp [World.frozen?, hb1]) (by simp [World.frozen?, hb1])
  have hcf := run_callFunc_extern hfn hname hb hn he #[.slice (some ⟨b1, o1, none⟩) n1 c1, .slice (some ⟨b2, o2, none⟩) n2 c2] w
  rw [hov] at hcf
  refine ⟨.bool false, ?_, K2.2 rfl⟩
  have ef : a.eval (.func f) = .func (.func f) #[] #[] := rfl
  simp only [execOp, resolve, Sem.run_bind, ef, Deferred.ofValue, Sem.run_pure, Result.andThen_ok, invoke]
  simp only [List.map_toArray, List.map_cons, List.map_nil, ex, ey]
  exact hcf
theorem QhA {ST NT T : TypeId} {kn : IntKind} {x y : Operand} {b i cap k : Nat} {R : Rep α} {zs : List (Option α)} (hx : Has Γ x (val (.slice (some ⟨b, 0, none⟩) i cap))) (hk : Pick H (arr b T R zs) H') (hy : Has Γ y (i64.slot (k : Int)))
  (hi : i ≤ zs.length) (h0 : 0 < k) (hcap : cap < i + k) (hbig : i + k ≤ 4294967296) (hT : slE c.P ST T R.n = true) (hR : Nat.blt 0 R.n = true) (hNT : c.P.underlying NT = some (.int kn)) (hN : Nat.blt d c.N = true)
  (kk : ∀ b' e, Jc c full l ((d, val (.slice (some ⟨b', 0, none⟩) (i + k) (i + k + e))) :: Γ) (arr b' T R (zs.take i ++ List.replicate (k + e) none) :: arr b T R zs :: H') K) :
  Jc c full (⟨some d, .call { callee := .builtin .append, args := #[x, y], argTypes := #[ST, NT] }, ty, pos, aft, none⟩ :: l) Γ H K := by
 refine VD (ι := Nat × Nat) (Γ2 := fun p => (d, val (.slice (some ⟨p.1, 0, none⟩) (i + k) (i + k + p.2))) :: Γ) (H2 := fun p => arr p.1 T R (zs.take i ++ List.replicate (k + p.2) none) :: arr b T R zs :: H') rfl ?_ (fun p => kk p.1 p.2)
 intro m hs a w hg _ hsat he hn
 have ex : a.eval x = _ := hx m a (he.opd x)
 have ey : a.eval y = .int .i64 (k : Int) := ZE.1 (hy m a (he.opd y))
 obtain ⟨h1, h2, hpm, ⟨cs, rfl, hr⟩, hs2⟩ := hsat.pick hk
 have hg' := hg.perm hpm
 obtain ⟨hu, inf, z, hinf, hsz, hb0, hb1, hz, hzc⟩ := qQ hT
 have hRn : 0 < R.n := by simpa [Nat.blt_eq] using hR
 have hcut := (hr.cut i).1
 have hcl : (cs.take (i * R.n)).length = i * R.n := by rw [hcut.length, List.length_take, Nat.min_eq_left hi]
 have hold : (Builtin.firstCells inf.size i (.slice (some ⟨b, 0, none⟩) i cap)).run c.P w.drew = .ok (cs.take (i * R.n)).toArray w.drew := by
  rw [hsz]
  have := run_loadCells_list (P := c.P) w.drew ⟨b, 0, none⟩ (cs.take (i * R.n)) (fun j u e => by
   rw [Addr.add_lit, Nat.zero_add]
   rw [List.getElem?_take] at e
   split at e
   ·exact hg'.drew.cells (T := T) (cs := cs) (by simp) j u e
   ·cases e)
  rw [hcl] at this
  exact this
 have hnc := Kn (i + k) cap hcap
 have hfit : Builtin.nextslicecap (i + k) cap * inf.bytes ≤ 281474976710656 := by
  have h1 : Builtin.nextslicecap (i + k) cap ≤ 4 * 4294967296 + 4096 := by omega
  have h2 : Builtin.nextslicecap (i + k) cap * inf.bytes ≤ (4 * 4294967296 + 4096) * 4096 := Nat.mul_le_mul h1 hb1
  have h3 : (4 * 4294967296 + 4096) * 4096 ≤ 281474976710656 := by decide
  omega
 have h48 : k * inf.bytes ≤ 281474976710656 := by
  have h2 : k * inf.bytes ≤ 4294967296 * 4096 := Nat.mul_le_mul (by omega) hb1
  omega
 have happ := Lib.run_append_grow_zeros (P := c.P) w ST NT ty T inf z .i64 kn hu hNT hinf hz (some ⟨b, 0, none⟩) i cap (cs.take (i * R.n)) hold k h0 (by omega) hcap (by omega) h48 hfit
 obtain ⟨G, hG⟩ : ∃ G, G = grownCap w (i + k) cap T := ⟨_, rfl⟩
 have hGe : i + k ≤ G := by rw [hG]; exact grownCap_ge w _ _ _
 rw [← hG] at happ
 let rest := (Builtin.zeroCells z.cells k).toList ++ (Builtin.zeroCells z.cells (G - (i + k))).toList
 have hzc' : z.cells.size = R.n := hzc
 have hrl : rest.length = (k + (G - (i + k))) * R.n := by simp [rest, Builtin.zeroCells, hzc', Nat.add_mul]
 have hcs : (cs.take (i * R.n)).toArray ++ Builtin.zeroCells z.cells k ++ Builtin.zeroCells z.cells (G - (i + k)) = (cs.take (i * R.n) ++ rest).toArray := by
  simp [rest]
 rw [hcs] at happ
 have hrun : (execOp a.eval ⟨some d, .call { callee := .builtin .append, args := #[x, y], argTypes := #[ST, NT] }, ty, pos, aft, none⟩).run c.P w = .ok (.value (.slice (some ⟨w.heap.size, 0, none⟩) (i + k) G)) (w.drew.alloc (.cells (cs.take (i * R.n) ++ rest).toArray T)) := by
  simp only [execOp, resolve, Sem.run_bind, Sem.run_pure, Result.andThen_ok, invoke, builtin]
  simp only [List.map_toArray, List.map_cons, List.map_nil, ex, ey, happ, Result.andThen_ok]
 rw [hrun]
 have hGG : i + k + (G - (i + k)) = G := by omega
 refine ⟨(w.heap.size, G - (i + k)), m, (w.heap.size, T, cs.take (i * R.n) ++ rest) :: (b, T, cs) :: h2, ?_, ?_, ⟨[_], _, rfl, ⟨_, rfl, hcut.append (Vt.nones _ hrl)⟩, [_], h2, rfl, ⟨cs, rfl, hr⟩, hs2⟩, ?_⟩
 ·exact hg'.drew.newOwn T _
 ·refine he.put (by rw [hn]; simpa [Nat.blt_eq] using hN) ?_
  show _ = _
  rw [hGG]
 ·have h3 := Frm.alloc w.drew m (Hp.bs ((b, T, cs) :: h2)) (.cells (cs.take (i * R.n) ++ rest).toArray T)
  have h4 : Frm w w.drew m m hs.bs (Hp.bs ((b, T, cs) :: h2)) := (Frm.drew w m _).sub fun b hb => by
   exact ((hpm.map _).mem_iff).2 hb
  exact h4.trans h3
end
end Go.Sl
namespace Go.Sl
section
variable {α β : Type} {c : Ctx} {full : Array Oper} {l : List Oper} {Γ Γ' : Env} {H H' H1 : List Ent} {K : Act → World → Prop} {d : Tmp} {od : Option Tmp} {ty : TypeId} {pos : String} {aft : Array Edge} {g : Option (Nat × Bool)}
theorem Qbk {T T0 sz : Nat} {x y : Operand} {R : Rep α} {v : Value} {xs : List α} {s : Slot} {i : Int} (hx : Has Γ x (ov v)) (hk : Pick H (own T0 R v xs) H') (hy : Has Γ y s) (hs : Ka s i) (h0 : 0 ≤ i) (h1 : i ≤ (xs.length : Int)) (hT : slB c.P T sz = true) :
  PJ c ⟨od, .slice T x (some y) none none, ty, pos, aft, g⟩ Γ H any :=
 YE fun m hs2 a w hg _ hsat ho => by
  have e : a.eval x = v := (Uv.1 (hx m a (ho x (by simp [Op.operands])))).1
  obtain ⟨k, ek⟩ := hs m _ (hy m a (ho y (by simp [Op.operands])))
  obtain ⟨g1, g2, _, hown, _⟩ := hsat.pick hk
  obtain ⟨a0, cap, hv, hc⟩ := own.shape hown
  subst hv
  have hr := V7 (P := c.P) hT (a := a0) (len := xs.length) (cap := cap) (lo := some (.int k i)) (hi := none) (l := some i) (h := none) (.inr ⟨k, i, rfl, rfl⟩) (.inl ⟨rfl, rfl⟩) h0 h1 (by simp; omega) w
  exact ⟨_, by simp only [execOp, e, ek, Option.map_none, Option.map_some, Sem.run_bind, hr]; rfl, trivial⟩
theorem YX {T sz b n cap : Nat} {x : Operand} {lo hi : Option Operand} {p q : Option Int} (hx : Has Γ x (val (.slice (some ⟨b, 0, none⟩) n cap))) (hlo : OptI Γ lo p) (hhi : OptI Γ hi q) (p' q' : Nat)
  (hp : p.getD 0 = (p' : Int)) (hq : q.getD n = (q' : Int)) (h1 : p' ≤ q') (h2 : q' ≤ cap) (h3 : p' < cap) (hT : slB c.P T sz = true) :
  PJ c ⟨od, .slice T x lo hi none, ty, pos, aft, g⟩ Γ H (val (.slice (some ⟨b, p' * sz, none⟩) (q' - p') (cap - p'))) := by
 have := Qd2 (c := c) (H := H) (od := od) (ty := ty) (pos := pos) (aft := aft) (g := g) hx hlo hhi p' q' hp hq h1 h2 h3 hT
 rwa [Nat.zero_add] at this
theorem qI {Q : Exit → Act → World → Prop} {kk : List Code} {b : Nat} {T : TypeId} {R : Rep α} {zs : List (Option α)} (xs : List α) (n n' cap' : Nat) (hk : Pick H (arr b T R zs) H') (hz : zs = xs.map some ++ List.replicate n none) (hn : n' = xs.length) (hc : cap' = xs.length + n)
  (r : Run c Q kk Γ (own T R (.slice (some ⟨b, 0, none⟩) n' cap') xs :: H')) : Run c Q kk Γ H := by
 subst hn; subst hc; exact QdV xs n hk hz r
end
theorem QiH {α : Type} (s : List α) (y : α) (i e n1 : Nat) (hi : i ≤ s.length) :
  let zs0 := (s.map some ++ List.replicate n1 none).take i ++ List.replicate ((s.length + 1 - i) + e) (none : Option α)
  let zs1 := zs0.take i ++ [y].map some ++ zs0.drop (i + [y].length)
  zs1.take (i + 1) ++ (s.drop i).map some ++ zs1.drop ((i + 1) + (s.drop i).length) = (s.take i ++ [y] ++ s.drop i).map some ++ List.replicate e none := by
 intro zs0 zs1
 have hA : (s.map some ++ List.replicate n1 none).take i = (s.take i).map some := by
  rw [List.take_append_of_le_length (by simpa using hi), List.map_take]
 have hAl : ((s.take i).map (some : α → Option α)).length = i := by simp; omega
 have e1 : zs1 = (s.take i).map some ++ [some y] ++ List.replicate ((s.length - i) + e) none := by
  show ((s.map some ++ List.replicate n1 none).take i ++ _).take i ++ _ ++ ((s.map some ++ List.replicate n1 none).take i ++ _).drop (i + 1) = _
  rw [hA, List.take_left' hAl, ← List.drop_drop, List.drop_left' hAl, List.drop_replicate]
  congr 2
  omega
 rw [e1]
 have hBl : ((s.take i).map some ++ [some y]).length = i + 1 := by rw [List.length_append, hAl]; rfl
 rw [List.take_left' hBl, ← List.drop_drop, List.drop_left' hBl, List.drop_replicate, List.length_drop]
 have : s.length - i + e - (s.length - i) = e := by omega
 rw [this]
 simp
theorem QhC {α : Type} (s : List α) (y : α) (i n1 : Nat) (hi : i < s.length) (hn : 0 < n1) :
  let zs0 := s.map some ++ List.replicate n1 (none : Option α)
  let zs1 := zs0.take (i + 1) ++ (s.drop i).map some ++ zs0.drop ((i + 1) + (s.drop i).length)
  zs1.take i ++ [y].map some ++ zs1.drop (i + [y].length) = (s.take i ++ [y] ++ s.drop i).map some ++ List.replicate (n1 - 1) none := by
 intro zs0 zs1
 have hsl : (s.map (some : α → Option α)).length = s.length := by simp
 have e0 : zs0.take (i + 1) = (s.take (i + 1)).map some := by
  show (s.map some ++ _).take (i + 1) = _
  rw [List.take_append_of_le_length (by rw [hsl]; exact hi), List.map_take]
 have e2 : zs0.drop ((i + 1) + (s.drop i).length) = List.replicate (n1 - 1) none := by
  show (s.map some ++ _).drop _ = _
  rw [List.length_drop, show i + 1 + (s.length - i) = s.length + 1 by omega, ← List.drop_drop, List.drop_left' hsl, List.drop_replicate]
 have e1 : zs1 = (s.take i).map some ++ ([some s[i]] ++ ((s.drop i).map some ++ List.replicate (n1 - 1) none)) := by
  show zs0.take (i + 1) ++ _ ++ zs0.drop _ = _
  rw [e0, e2, List.take_succ_eq_append_getElem hi, List.map_append, List.append_assoc, List.append_assoc]
  rfl
 have hAl : ((s.take i).map (some : α → Option α)).length = i := by simp; omega
 rw [e1, List.take_left' hAl, ← List.drop_drop, List.drop_left' hAl]
 simp
theorem Qjp {α : Type} {s v r : List α} {i : Int} (h : (if 0 ≤ i ∧ i ≤ (s.length : Int) ∧ v.length = 1 ∧ s.length ≤ 1000000 then some (s.take i.toNat ++ v ++ s.drop i.toNat) else none) = some r) : ∃ (n : Nat) (y : α), i = (n : Int) ∧ n ≤ s.length ∧ v = [y] ∧ s.length ≤ 1000000 ∧ r = s.take n ++ [y] ++ s.drop n := by
 split at h
 ·rename_i hc
  obtain ⟨h0, h1, h2, h3⟩ := hc
  obtain ⟨y, rfl⟩ := List.length_eq_one_iff.1 h2
  exact ⟨i.toNat, y, by omega, by omega, rfl, h3, (Option.some.inj h).symm⟩
 ·cases h
end Go.Sl
namespace Go.Sl
def LQX {σ ρ : Type} (id id2 : Nat) (I : σ → Act → World → Prop) (R : ρ → Act → World → Prop) (r : LR σ ρ) (e : Exit) (a : Act) (w : World) : Prop :=
 match r with
 | .next s => e = .normal ∧ I s a w
 | .brk s => e = .exit id ∧ I s a w
 | .ret x => e = .exit id2 ∧ R x a w
theorem QfU {P : Program} {ro : Option Nat} {Q : Exit → Act → World → Prop} {σ ρ : Type} {f : σ → Option (LR σ ρ)} {I : σ → Act → World → Prop} {R : ρ → Act → World → Prop} {id id2 : Nat} {body : Code}
  (step : ∀ s r a w, f s = some r → I s a w → body.wpIn (fen ro) 0 P (LQX id id2 I R r) a w) :
  ∀ (n : Nat) (s : σ) (out : σ ⊕ ρ) (a : Act) (w : World), Z2 f n s = some out → I s a w → (∀ s' a w, out = .inl s' → I s' a w → Q (.exit id) a w) → (∀ x a w, out = .inr x → R x a w → Q (.exit id2) a w) → Code.roundsIn (fen ro) 0 P body Q n a w := by
 intro n
 induction n with
 | zero => intro s out a w h; cases h
 | succ n ih =>
  intro s out a w h hI h1 h2
  rw [roundsIn_succ]
  unfold Z2 at h
  cases hf : f s with
  | none => rw [hf] at h; cases h
  | some r =>
   rw [hf] at h
   refine wpIn_mono (step s r a w hf hI) fun e a' w' hq => ?_
   cases r with
   | next s' => obtain ⟨rfl, hI'⟩ := hq; exact ih s' out a' w' h hI' h1 h2
   | brk s' => obtain ⟨rfl, hI'⟩ := hq; simp only [Option.some.injEq] at h; exact h1 s' a' w' h.symm hI'
   | ret x => obtain ⟨rfl, hR⟩ := hq; simp only [Option.some.injEq] at h; exact h2 x a' w' h.symm hR
section
variable {c : Ctx} {Γ Γ' : Env} {H H' : List Ent} {Q : Exit → Act → World → Prop} {k : List Code}
theorem Qhl {σ ι : Type} {f : σ → Option (LR σ σ)} {Γi : ι → σ → Env} {Hi : ι → σ → List Ent} {id id2 n : Nat} {body : Code} {s0 : σ} {out : σ ⊕ σ} (hl : Z2 f n s0 = some out) (hne : Nat.beq id2 id = false)
  (i0 : ι) (h0 : ∀ a w, St c Γ H a w → St c (Γi i0 s0) (Hi i0 s0) a w)
  (step : ∀ i s r, f s = some r → Run c (LQX id id2 (fun s a w => ∃ i, St c (Γi i s) (Hi i s) a w) (fun s a w => ∃ i, St c (Γi i s) (Hi i s) a w) r) [body] (Γi i s) (Hi i s))
  (h1 : ∀ i s, out = .inl s → Run c Q k (Γi i s) (Hi i s)) (h2 : ∀ i s a w, out = .inr s → St c (Γi i s) (Hi i s) a w → Q (.exit id2) a w) : Run c Q (.block id (.loop body) :: k) Γ H := by
 refine QJ fun a w hst => ?_
 refine wpIn_loop_rounds n (QfU (I := fun s a w => ∃ i, St c (Γi i s) (Hi i s) a w) (R := fun s a w => ∃ i, St c (Γi i s) (Hi i s) a w) (id := id) (id2 := id2) (f := f) ?_ n s0 out a w hl ⟨i0, h0 a w hst⟩ ?_ ?_)
 ·rintro s r a w hf ⟨i, hI⟩
  refine wpIn_mono (step i s r hf a w hI) fun e a' w' hq => ?_
  cases e <;> exact hq
 ·rintro s' a w ho ⟨i, hI⟩
  exact Qb0 (h1 i s' ho a w hI)
 ·rintro s' a w ho ⟨i, hI⟩
  exact Qac hne (h2 i s' a w ho hI)
section
variable {σ ι : Type} {id id2 : Nat} {Γi : ι → σ → Env} {Hi : ι → σ → List Ent}
theorem Qhj {s : σ} (i : ι) (h1 : SubE Γ (Γi i s)) (h2 : Keep H (Hi i s)) : Run c (LQX id id2 (fun s a w => ∃ i, St c (Γi i s) (Hi i s) a w) (fun s a w => ∃ i, St c (Γi i s) (Hi i s) a w) (.next s)) [] Γ H :=
 YV fun a w hst => ⟨rfl, i, (hst.sub h1).keep h2⟩
theorem Qi1 {s : σ} (i : ι) (h1 : SubE Γ (Γi i s)) (h2 : Keep H (Hi i s)) : Run c (LQX id id2 (fun s a w => ∃ i, St c (Γi i s) (Hi i s) a w) (fun s a w => ∃ i, St c (Γi i s) (Hi i s) a w) (.brk s)) (.exit id :: k) Γ H :=
 BX fun a w hst => ⟨rfl, i, (hst.sub h1).keep h2⟩
theorem Qj1 {s : σ} {a : Act} {w : World} (i : ι) (h1 : SubE Γ (Γi i s)) (h2 : Keep H (Hi i s)) (hst : St c Γ H a w) : LQX id id2 (fun s a w => ∃ i, St c (Γi i s) (Hi i s) a w) (fun s a w => ∃ i, St c (Γi i s) (Hi i s) a w) (.ret s) (.exit id2) a w :=
 ⟨rfl, i, (hst.sub h1).keep h2⟩
end
end
end Go.Sl
namespace Go.Sl
open Go.ChangeShapes Go.WideShapes Go.ChangeAt Go.RowKit
def qK (W : World) : Mem := fun b o => W.cell? ⟨b, o, none⟩
theorem QgC (W : World) : JM (qK W) [] W := ⟨fun _ _ _ h => h, List.nodup_nil, (fun _ h => by cases h), (fun _ h => by cases h)⟩
structure Bulk (H : Type) where
 b : DataW H → Nat
 all : List (DataW H) → Nat
 one : ∀ d, 1 ≤ b d
 nil : 0 ≤ all []
 cons : ∀ d r, all (d :: r) = b d + all r
 slice : ∀ e s, all e + 1 ≤ b (.slice e s)
 agg : ∀ ps, all ps ≤ b (.agg ps)
section
variable {α β : Type}
def Qgf (f : α → Nat) : List α → Nat
 | [] => 0
 | x :: r => f x + Qgf f r
def RR (P : Program) (T : TypeId) (R : Rep α) (wf : α → Prop) (sz : α → Nat) : Prop :=
 P.cellsOf T = R.n ∧ ∀ {H : Type} {enc : TypeId × Value → H} {w : World} {base : Nat} {sp : Nat → Bool} {held : Bool} {fuel : Nat} {cs : List Value} {x : DataW H × List MemPlace},
  DataW.trod enc P w base sp held fuel T cs = some x → ∃ y : α, R.rel (qK w) cs y ∧ wf y ∧ ∀ B : Bulk H, sz y ≤ B.b x.1
def wfT (_ : α) : Prop := True
def wfL (p : α → Prop) (l : List α) : Prop := l.length ≤ 9223372036854775807 ∧ ∀ x ∈ l, p x
def wfP (p : α → Prop) (q : β → Prop) (x : α × β) : Prop := p x.1 ∧ q x.2
def sz1 (_ : α) : Nat := 1
def szL (f : α → Nat) (l : List α) : Nat := Qgf f l + 1
def szP (f : α → Nat) (g : β → Nat) (x : α × β) : Nat := f x.1 + g x.2
theorem QlO {P : Program} {T : TypeId} {k : IntKind} {b : Nat} (h : P.underlying T = some (.int k)) (hc : P.cellsOf T = 1) (hk : k.bits = b) (hs : k.signed = false) : RR P T (un k b) wfT sz1 := by
 refine ⟨hc, fun {H enc w base sp held fuel cs x} hx => ?_⟩
 obtain ⟨n, rfl, rfl, hw⟩ := DataW.trod_int h hx
 simp only [Lit.wf, IntKind.min, IntKind.max, hs, Bool.false_eq_true, if_false, Bool.and_eq_true, decide_eq_true_eq] at hw
 have hn : ((BitVec.ofInt b n).toNat : Int) = n := by
  rw [← Kp hk hs]
  unfold IntKind.wrap
  simp only [hs, Bool.false_and, Bool.false_eq_true, if_false]
  rw [Int.emod_eq_of_lt hw.1 (by omega)]
 exact ⟨BitVec.ofInt b n, by show [Value.int k n] = [Value.int k ((BitVec.ofInt b n).toNat : Int)]; rw [hn], trivial, fun B => B.one _⟩
theorem Qcd {P : Program} {e : TypeId} {R : Rep α} {wf : α → Prop} {sz : α → Nat} (h : RR P e R wf sz) {H : Type} {enc : TypeId × Value → H} {w : World} {base : Nat} {sp : Nat → Bool} {held : Bool} {fuel : Nat} :
  ∀ {xs : List (DataW H × List MemPlace)} {cs : List Value}, cs.length = xs.length * R.n → (∀ i, i < xs.length → DataW.trod enc P w base sp held fuel e ((cs.drop (i * R.n)).take R.n) = xs[i]?) →
   ∃ ys : List α, ys.length = xs.length ∧ JP R (qK w) cs ys ∧ (∀ y ∈ ys, wf y) ∧ ∀ B : Bulk H, Qgf sz ys ≤ B.all (xs.map (·.1))
 | [], cs, hl, _ => ⟨[], rfl, by simpa [JP] using hl, (fun y hy => by cases hy), fun B => by simp [Qgf]⟩
 | x :: xs, cs, hl, hx => by
  have h0 := hx 0 (by simp)
  simp only [Nat.zero_mul, List.drop_zero, List.getElem?_cons_zero] at h0
  obtain ⟨y, hr, hw, hb⟩ := h.2 h0
  simp only [List.length_cons, Nat.add_mul, Nat.one_mul] at hl
  obtain ⟨ys, hyl, hrow, hwf, hB⟩ := Qcd h (xs := xs) (cs := cs.drop R.n) (by rw [List.length_drop]; omega) (fun i hi => by
   have := hx (i + 1) (by simp; omega)
   rw [List.drop_drop]
   simp only [List.getElem?_cons_succ] at this
   rw [← this, Nat.add_mul, Nat.one_mul, Nat.add_comm R.n])
  refine ⟨y :: ys, by simp [hyl], ⟨cs.take R.n, cs.drop R.n, (List.take_append_drop _ _).symm, hr, hrow⟩, ?_, fun B => ?_⟩
  ·intro z hz
   rcases List.mem_cons.1 hz with rfl | hz
   ·exact hw
   ·exact hwf z hz
  ·rw [List.map_cons, B.cons]
   have := hb B; have := hB B
   simp only [Qgf]; omega
inductive RRF (P : Program) : List Field → Nat → {α : Type} → Rep α → (α → Prop) → (α → Nat) → Prop
 | one {α : Type} {f : Field} {off : Nat} {R : Rep α} {wf : α → Prop} {sz : α → Nat} : f.offset = off → RR P f.type R wf sz → RRF P [f] off R wf sz
 | cons {α β : Type} {f : Field} {fs : List Field} {off : Nat} {R : Rep α} {S : Rep β} {wf : α → Prop} {sz : α → Nat} {wf' : β → Prop} {sz' : β → Nat} : f.offset = off → RR P f.type R wf sz → RRF P fs (off + R.n) S wf' sz' → RRF P (f :: fs) off (prod R S) (wfP wf wf') (szP sz sz')
theorem RRF.run {P : Program} {H : Type} {enc : TypeId × Value → H} {w : World} {base : Nat} {sp : Nat → Bool} {held : Bool} {fuel : Nat} {cs : List Value} {fs : List Field} {off : Nat} {R : Rep α} {wf : α → Prop} {sz : α → Nat} (h : RRF P fs off R wf sz) :
  ∀ {xs : List (DataW H × List MemPlace)}, cs.length = off + R.n → xs.length = fs.length → (∀ (i : Nat) (f : Field), fs[i]? = some f → DataW.trod enc P w base sp held fuel f.type ((cs.drop f.offset).take (P.cellsOf f.type)) = xs[i]?) →
   ∃ y : α, R.rel (qK w) (cs.drop off) y ∧ wf y ∧ ∀ B : Bulk H, sz y ≤ B.all (xs.map (·.1)) := by
 induction h with
 | @one α f off R wf sz ho hr =>
  intro xs hl hxl hx
  have h0 := hx 0 f rfl
  rw [ho, hr.1, List.take_of_length_le (by rw [List.length_drop]; omega)] at h0
  match xs, hxl with
  | [x], _ =>
   obtain ⟨y, h1, h2, h3⟩ := hr.2 h0
   exact ⟨y, h1, h2, fun B => by have := h3 B; simp only [List.map_cons, List.map_nil, B.cons]; omega⟩
 | @cons α β f fs off R S wf sz wf' sz' ho hr _ ih =>
  intro xs hl hxl hx
  have h0 := hx 0 f rfl
  rw [ho, hr.1] at h0
  match xs, hxl with
  | x :: xs, hxl =>
   obtain ⟨y, h1, h2, h3⟩ := hr.2 h0
   obtain ⟨z, k1, k2, k3⟩ := ih (xs := xs) (by rw [hl]; show off + (R.n + S.n) = _; omega) (by simpa using hxl) (fun i g hg => by
    have := hx (i + 1) g (by simpa using hg)
    simpa using this)
   refine ⟨(y, z), ⟨_, _, ?_, h1, k1⟩, ⟨h2, k2⟩, fun B => ?_⟩
   ·rw [← List.drop_drop, List.take_append_drop]
   ·have := h3 B; have := k3 B
    simp only [List.map_cons, B.cons, szP]; omega
theorem QlM {P : Program} {T e : TypeId} {R : Rep α} {wf : α → Prop} {sz : α → Nat} (hu : P.underlying T = some (.slice e)) (hc : P.cellsOf T = 1) (hn : 0 < R.n) (h : RR P e R wf sz) : RR P T (sl R) (wfL wf) (szL sz) := by
 refine ⟨hc, fun {H enc w base sp held fuel cs x} hx => ?_⟩
 rcases DataW.trod_slice hu hx with ⟨rfl, rfl⟩ | ⟨a, len, cap, elems, rest, n, rfl, rfl, rfl, hb, hlc, hcm, hel, hi, _, _⟩
 ·exact ⟨[], ⟨none, 0, rfl, Nat.le_refl _, .inl rfl⟩, ⟨by simp, (fun y hy => by cases hy)⟩, fun B => by have := B.one (.nil : DataW H); simp [szL, Qgf]; omega⟩
 ·subst hel
  have hcm' : cap ≤ 9223372036854775807 := by unfold maxLen at hcm; omega
  cases elems with
  | nil =>
   exact ⟨[], ⟨_, _, rfl, by simp, .inl rfl⟩, ⟨by simp, (fun y hy => by cases hy)⟩, fun B => by have := B.slice ([] : List (DataW H)) (rest.map (·.1)); have := B.nil; simp only [szL, Qgf, List.map_nil]; omega⟩
  | cons x0 el =>
   -- the block's cells
   have hcell : ∀ i, i < (x0 :: el).length → ∃ c, w.cells? base (a.add (i * R.n)) R.n = some c ∧ DataW.trod enc P w base sp held n e c = (x0 :: el)[i]? := by
    intro i hlt
    have := hi i hlt
    rw [h.1] at this
    rw [List.getElem?_eq_getElem hlt] at this ⊢
    obtain ⟨c, h1, h2⟩ := Option.bind_eq_some_iff.1 this
    exact ⟨c, h1, h2⟩
   have hspot : a.spot = none := by
    obtain ⟨c, h1, _⟩ := hcell 0 (by simp)
    obtain ⟨_, hl, hk⟩ := World.cells?_some h1
    have := hk 0 hn
    rw [List.getElem?_eq_getElem (by omega)] at this
    unfold World.cell? at this
    simp only [Nat.zero_mul, Addr.add, if_true] at this
    split at this
    ·split at this
     ·cases this
     ·rename_i hs; simpa using hs
    ·cases this
   obtain ⟨b, o, s⟩ := a
   simp only at hspot
   subst hspot
   -- the row
   have key : ∀ (k : Nat), k ≤ (x0 :: el).length → ∃ row : List Value, row.length = k * R.n ∧ At (qK w) b o row ∧ ∀ i, i < k → DataW.trod enc P w base sp held n e ((row.drop (i * R.n)).take R.n) = (x0 :: el)[i]? := by
    intro k
    induction k with
    | zero => intro _; exact ⟨[], by simp, fun j v e => by simp at e, fun i h => by omega⟩
    | succ k ih =>
     intro hk
     obtain ⟨row, hrl, hat, hrd⟩ := ih (by omega)
     obtain ⟨c, h1, h2⟩ := hcell k (by omega)
     obtain ⟨_, hl, hkk⟩ := World.cells?_some h1
     refine ⟨row ++ c, by rw [List.length_append, hrl, hl, Nat.add_mul, Nat.one_mul], ?_, ?_⟩
     ·intro j v e
      by_cases hj : j < row.length
      ·rw [List.getElem?_append_left hj] at e; exact hat j v e
      ·rw [List.getElem?_append_right (by omega)] at e
       have hj2 : j - row.length < R.n := by rw [← hl]; exact (List.getElem?_eq_some_iff.1 e).1
       have := hkk (j - row.length) hj2
       rw [e, Addr.add_lit, Addr.add_lit] at this
       show w.cell? _ = _
       rw [← this]
       congr 2; omega
     ·intro i hi
      by_cases hik : i < k
      ·rw [← hrd i hik]
       have hle : (i + 1) * R.n ≤ k * R.n := Nat.mul_le_mul_right _ hik
       rw [Nat.add_mul, Nat.one_mul] at hle
       rw [List.drop_append_of_le_length (by omega), List.take_append_of_le_length (by rw [List.length_drop]; omega)]
      ·have : i = k := by omega
       subst this
       rw [List.drop_append_of_le_length (by omega), List.drop_of_length_le (by omega), List.nil_append, List.take_of_length_le (by omega)]
       exact h2
   obtain ⟨row, hrl, hat, hrd⟩ := key _ (Nat.le_refl _)
   obtain ⟨ys, hyl, hrow, hwf, hB⟩ := Qcd h (xs := x0 :: el) (cs := row) hrl (fun i hi => hrd i hi)
   refine ⟨ys, ⟨_, cap, by rw [hyl], by rw [hyl]; exact hlc, .inr ⟨b, o, row, rfl, hrow, hat⟩⟩, ⟨by rw [hyl]; omega, hwf⟩, fun B => ?_⟩
   have := hB B
   have := B.slice ((x0 :: el).map (·.1)) (rest.map (·.1))
   simp only [szL]
   show _ ≤ B.b (.slice _ _)
   omega
theorem Qk2 {P : Program} {T : TypeId} {R : Rep α} {wf : α → Prop} {sz : α → Nat} (h : RR P T R wf sz) (hag : ∀ {w : World} {base : Nat} {v : Value}, Value.okWide P w .any base T v → (R.ag = true → ∃ cs, v = .agg cs) ∧ (R.ag = false → v.oneCell' = true))
  {H : Type} {enc : TypeId × Value → H} {w : World} {base b2 : Nat} {sp : Nat → Bool} {held : Bool} {v : Value} {d : DataW H} {ps : List MemPlace} (hv : Value.okWide P w .any b2 T v) (hd : DataW.Trod enc P w base sp held T v d ps) :
  ∃ y : α, (R.slot y).p (qK w) v ∧ wf y ∧ ∀ B : Bulk H, sz y ≤ B.b d := by
 obtain ⟨fuel, hf⟩ := hd
 obtain ⟨y, hr, hw, hB⟩ := h.2 hf
 refine ⟨y, ?_, hw, hB⟩
 show R.is (qK w) v y
 unfold Rep.is
 cases hb : R.ag with
 | true =>
  obtain ⟨cs, rfl⟩ := (hag hv).1 hb
  exact ⟨cs.toList, rfl, hr⟩
 | false =>
  have := KF ((hag hv).2 hb)
  rw [this] at hr
  exact hr
theorem QlC {P : Program} {T e : TypeId} {R : Rep α} (h : P.underlying T = some (.slice e)) (hR : R.ag = false) {w : World} {base : Nat} {v : Value} (hv : Value.okWide P w .any base T v) : (R.ag = true → ∃ cs, v = .agg cs) ∧ (R.ag = false → v.oneCell' = true) := by
 obtain ⟨_, _, _, rfl⟩ := okWide_slice h hv
 exact ⟨(fun e => by rw [hR] at e; cases e), fun _ => rfl⟩
mutual
def UB {H : Type} : DataW H → List Value
 | .lit (.int k n) => [.int k n]
 | .agg ps => Wr ps
 | _ => []
def Wr {H : Type} : List (DataW H) → List Value
 | [] => []
 | d :: r => UB d ++ Wr r
end
def FL (P : Program) (T n : Nat) : Prop := P.cellsOf T = n ∧
 ∀ {H : Type} {enc : TypeId × Value → H} {w : World} {base : Nat} {sp : Nat → Bool} {held : Bool} {fuel : Nat} {cs : List Value} {x : DataW H × List MemPlace}, DataW.trod enc P w base sp held fuel T cs = some x → cs = UB x.1
theorem qV {P : Program} {T : TypeId} {k : IntKind} (h : P.underlying T = some (.int k)) (hc : P.cellsOf T = 1) : FL P T 1 := by
 refine ⟨hc, fun {H enc w base sp held fuel cs x} hx => ?_⟩
 obtain ⟨n, rfl, rfl, hw⟩ := DataW.trod_int h hx
 rfl
theorem Qfj {P : Program} {e n : Nat} (h : FL P e n) {H : Type} {enc : TypeId × Value → H} {w : World} {base : Nat} {sp : Nat → Bool} {held : Bool} {fuel : Nat} :
  ∀ {xs : List (DataW H × List MemPlace)} {cs : List Value}, cs.length = xs.length * n → (∀ i, i < xs.length → DataW.trod enc P w base sp held fuel e ((cs.drop (i * n)).take n) = xs[i]?) → cs = Wr (xs.map (·.1))
 | [], cs, hl, _ => by simpa [Wr] using hl
 | x :: xs, cs, hl, hx => by
  have h0 := hx 0 (by simp)
  simp only [Nat.zero_mul, List.drop_zero, List.getElem?_cons_zero] at h0
  have h1 := h.2 h0
  simp only [List.length_cons, Nat.add_mul, Nat.one_mul] at hl
  have h2 := Qfj h (xs := xs) (cs := cs.drop n) (by rw [List.length_drop]; omega) (fun i hi => by
   have := hx (i + 1) (by simp; omega)
   rw [List.drop_drop]
   simp only [List.getElem?_cons_succ] at this
   rw [← this, Nat.add_mul, Nat.one_mul, Nat.add_comm n])
  rw [List.map_cons, Wr, ← h1, ← h2, List.take_append_drop]
theorem QcE {P : Program} {T e n k : Nat} (hu : P.underlying T = some (.array n e)) (hc : P.cellsOf T = n * k) (h : FL P e k) : FL P T (n * k) := by
 refine ⟨hc, fun {H enc w base sp held fuel cs x} hx => ?_⟩
 cases fuel with
 | zero => simp [DataW.trod] at hx
 | succ fuel =>
  simp only [DataW.trod, hu] at hx
  split at hx
  ·rename_i hl
   obtain ⟨xs, hm, rfl⟩ := Option.map_eq_some_iff.1 hx
   have hxl : xs.length = n := by simpa using Go.Lib.mapM_length hm
   rw [hc] at hl
   rw [UB]
   exact Qfj h (by rw [hxl]; exact hl) (fun i hi => by
    obtain ⟨b, hb, hf⟩ := Go.Lib.mapM_at hm i i (by rw [List.getElem?_range (by omega)])
    rw [h.1] at hf
    rw [hf, hb])
  ·cases hx
inductive FLF (P : Program) : List Field → Nat → Nat → Prop
 | nil {off : Nat} : FLF P [] off off
 | cons {f : Field} {fs : List Field} {off n top : Nat} : f.offset = off → FL P f.type n → FLF P fs (off + n) top → FLF P (f :: fs) off top
theorem FLF.run {P : Program} {H : Type} {enc : TypeId × Value → H} {w : World} {base : Nat} {sp : Nat → Bool} {held : Bool} {fuel : Nat} {cs : List Value} {fs : List Field} {off top : Nat} (h : FLF P fs off top) :
  ∀ {xs : List (DataW H × List MemPlace)}, cs.length = top → xs.length = fs.length → (∀ (i : Nat) (f : Field), fs[i]? = some f → DataW.trod enc P w base sp held fuel f.type ((cs.drop f.offset).take (P.cellsOf f.type)) = xs[i]?) →
   cs.drop off = Wr (xs.map (·.1)) := by
 induction h with
 | nil => intro xs hl hxl _; cases xs with
  | nil => simp [Wr, List.drop_of_length_le (Nat.le_of_eq hl)]
  | cons => simp at hxl
 | @cons f fs off n top ho hr _ ih =>
  intro xs hl hxl hx
  have h0 := hx 0 f rfl
  rw [ho, hr.1] at h0
  match xs, hxl with
  | x :: xs, hxl =>
   have h1 := hr.2 h0
   have h2 := ih (xs := xs) hl (by simpa using hxl) (fun i g hg => by
    have := hx (i + 1) g (by simpa using hg)
    simpa using this)
   rw [List.map_cons, Wr, ← h1, ← h2, ← List.drop_drop, List.take_append_drop]
theorem Qhq {P : Program} {T n : Nat} {fs : Array Field} (hu : P.underlying T = some (.struct fs)) (hc : P.cellsOf T = n) (h : FLF P fs.toList 0 n) : FL P T n := by
 refine ⟨hc, fun {H enc w base sp held fuel cs x} hx => ?_⟩
 obtain ⟨xs, k, rfl, rfl, hl, hxl, hi⟩ := DataW.trod_struct hu hx
 have := h.run (xs := xs) (by rw [hl, hc]) (by simpa using hxl) (fun i f hf => hi i f (by simpa using hf))
 simpa [UB] using this
theorem Qco {P : Program} {W : World} {nm : String} {d : DataW Unit} {r : List (String × DataW Unit)} {ps : List MemPlace} (h : DataW.LaidVars P W ((nm, d) :: r) ps) {g T n : Nat} (hg : P.globalNamed nm = some g) (hT : (P.globals[g]?).map (·.type) = some T)
  (hF : FL P T n) {R : Rep α} {x : α} (hR : ∀ m, R.rel m (UB d) x) : GAt g R x (qK W) ∧ ∃ q, DataW.LaidVars P W r q := by
 obtain ⟨g', t, cs, fuel, p, q, h1, h2, h3, h4, h5, _⟩ := h
 obtain rfl := Option.some.inj (hg.symm.trans h1)
 obtain rfl := Option.some.inj (hT.symm.trans h2)
 have hcs := hF.2 h4
 refine ⟨⟨UB d, hR _, fun j v e => ?_⟩, q, h5⟩
 have hcs' : cs.toList = UB d := hcs
 rw [← hcs'] at e
 show W.cell? ⟨g, 0 + j, none⟩ = some v
 rw [Nat.zero_add, World.var?_cell h1 h3 j, ← e]
 simp
theorem Qeg {W W' : World} {m m' : Mem} {bs' : List Nat} (h : Frm W W' m m' [] bs') : Below W.heap.size W W' := ⟨h.os, h.tape, h.output, h.size, fun k hk => (h.old k hk (by simp)).1⟩
theorem Qf5 {H : Type} {enc : TypeId × Value → H} {P : Program} {f : Func} {s : ChangeSpec} {apart fresh handsOn again : Bool} {W W' : World} {args : Array Value} {v : Value} {ds : List (DataW H)} {before : List MemPlace}
  (hW : DataW.Whole enc P f.params.toList s.vars apart W args.toList ds [] before) (hvn : s.vars = []) (hb : Below W.heap.size W W')
  (hl : laidOutB P = true) (hread : (f.params.toList.all fun t => P.readableRec t && Nat.blt t P.types.size) = true)
  (hres : ∀ (b : Nat) (sp : Nat → Bool) (hd : Bool), DataW.TrodAll enc P W' b sp hd f.resultTypes.toList (v.resultList f.resultTypes.size) (s.fn H (ds ++ [])).results [])
  (hargs : (s.fn H (ds ++ [])).args = ds) (hvars : (s.fn H (ds ++ [])).vars = [])
  (hok : ∀ (j : Nat) (t : TypeId) (r : Value), f.resultTypes[j]? = some t → (v.resultList f.resultTypes.size)[j]? = some r → Value.okWide P W' .any 0 t r) :
  s.post enc P f apart fresh handsOn again W args v W' := by
 have hW0 := hW
 have hlt : ∀ p ∈ before, p.block < W.heap.size := fun p hp => hW.lt p hp
 obtain ⟨pa, pv, hA, hV, rfl, hz, hn⟩ := hW
 rw [hvn] at hV
 obtain rfl : pv = [] := hV
 have hstay : ∀ (ts : List TypeId) (vs : List Value) (es : List (DataW H)) (p : List MemPlace), (∀ t ∈ ts, P.readableRec t = true ∧ t < P.types.size) → (∀ x ∈ p, x.block < W.heap.size) → DataW.TrodAll enc P W 0 (fun _ => true) true ts vs es p →
   DataW.TrodAll enc P W' 0 (fun b => decide (b < W.heap.size)) true ts vs es p := by
  intro ts
  induction ts with
  | nil => intro vs es p _ _ h; obtain ⟨rfl, rfl, rfl⟩ := trodAll_nil h; rfl
  | cons t ts ih =>
   intro vs es p ht hp h
   obtain ⟨v, vs', d, ds', a, b, rfl, rfl, rfl, h1, h2⟩ := trodAll_cons h
   exact ⟨a, b, Below.trod hl (ht t (by simp)).1 (ht t (by simp)).2 h1 hb (fun x hx => hp x (by simp [hx])), ih _ _ _ (fun u hu => ht u (by simp [hu])) (fun x hx => hp x (by simp [hx])) h2, rfl⟩
 have hall : ∀ t ∈ f.params.toList, P.readableRec t = true ∧ t < P.types.size := by
  intro t ht
  have := List.all_eq_true.1 hread t ht
  simpa [Nat.blt_eq] using this
 have hA' := hstay _ _ _ _ hall (fun x hx => hlt x (by simp [hx])) hA
 have hfz : ∀ b off, b < W.heap.size → W'.frozen? ⟨b, off, none⟩ = W.frozen? ⟨b, off, none⟩ := by
  intro b off h
  unfold World.frozen?
  simp only [hb.block b h]
 have hold : ∀ p ∈ pa ++ [], (fun b => decide (b < W.heap.size)) p.block = true := fun p hp => by simpa using hlt p hp
 have hkeep : W.keptBut W' (fun _ => False) := by
  refine ⟨hb.os, hb.output, fun i hi => ?_⟩
  rw [hb.block i hi]
  split <;> simp_all
 refine ⟨ds, [], pa ++ [], [], pa, [], hW0, hres _ _ _, by rw [hargs]; exact hA', by rw [hvn, hvars]; rfl, World.keptBut_mono (fun p hp => hp.elim) hkeep, fun _ => ?_⟩
 have hA2 : DataW.TrodAll enc P W' 0 (fun _ => true) true f.params.toList args.toList ds pa := by
  have hstay2 : ∀ (ts : List TypeId) (vs : List Value) (es : List (DataW H)) (p : List MemPlace), (∀ t ∈ ts, P.readableRec t = true ∧ t < P.types.size) → (∀ x ∈ p, x.block < W.heap.size) → DataW.TrodAll enc P W 0 (fun _ => true) true ts vs es p →
    DataW.TrodAll enc P W' 0 (fun _ => true) true ts vs es p := by
   intro ts
   induction ts with
   | nil => intro vs es p _ _ h; obtain ⟨rfl, rfl, rfl⟩ := trodAll_nil h; rfl
   | cons t ts ih =>
    intro vs es p ht hp h
    obtain ⟨v, vs', d, ds', a, b, rfl, rfl, rfl, h1, h2⟩ := trodAll_cons h
    exact ⟨a, b, WideElems.Trod_stays hl (ht t (by simp)).1 (ht t (by simp)).2 h1 (fun x hx => hb.same (hp x (by simp [hx]))) (fun x hx => rfl), ih _ _ _ (fun u hu => ht u (by simp [hu])) (fun x hx => hp x (by simp [hx])) h2, rfl⟩
  exact hstay2 _ _ _ _ hall (fun x hx => hlt x (by simp [hx])) hA
 refine ⟨hok, (s.fn H (ds ++ [])).results ++ (s.fn H (ds ++ [])).args, (s.fn H (ds ++ [])).vars, ([] ++ pa) ++ [], ⟨[] ++ pa, [], trodAll_append (by rw [hargs]; exact hA2) (hres _ _ _), by rw [hvn, hvars]; rfl, rfl, ?_, ?_⟩, ?_⟩
 ·intro b off hp
  have hp' : MemPlace.cell b off ∈ pa ++ [] := by simpa using hp
  rw [hfz b off (hlt _ hp')]
  exact hz b off (by simpa using hp)
 ·intro ha
  have := hn ha
  simpa using this
 ·intro p hp _
  simpa using hp
end
end Go.Sl
namespace Go.Sl
section
variable {c : Ctx} {full : Array Oper} {l : List Oper} {Γ Γ' : Env} {H H' : List Ent} {K : Act → World → Prop} {d : Tmp} {od : Option Tmp} {ty : TypeId} {pos : String} {aft : Array Edge} {g : Option (Nat × Bool)} {α β : Type} {Q : Exit → Act → World → Prop} {k : List Code}
theorem SubE.k1 {t1 : Tmp} {s1 : Slot} (h1 : lk Γ t1 = some s1 := by exact rfl) : SubE Γ [(t1, s1)] := (.cons (.of_lk h1) .nil)
theorem SubE.k2 {t1 t2 : Tmp} {s1 s2 : Slot} (h1 : lk Γ t1 = some s1 := by exact rfl) (h2 : lk Γ t2 = some s2 := by exact rfl) : SubE Γ [(t1, s1), (t2, s2)] := (.cons (.of_lk h1) (.cons (.of_lk h2) .nil))
theorem SubE.k3 {t1 t2 t3 : Tmp} {s1 s2 s3 : Slot} (h1 : lk Γ t1 = some s1 := by exact rfl) (h2 : lk Γ t2 = some s2 := by exact rfl) (h3 : lk Γ t3 = some s3 := by exact rfl) : SubE Γ [(t1, s1), (t2, s2), (t3, s3)] := (.cons (.of_lk h1) (.cons (.of_lk h2) (.cons (.of_lk h3) .nil)))
theorem SubE.k4 {t1 t2 t3 t4 : Tmp} {s1 s2 s3 s4 : Slot} (h1 : lk Γ t1 = some s1 := by exact rfl) (h2 : lk Γ t2 = some s2 := by exact rfl) (h3 : lk Γ t3 = some s3 := by exact rfl) (h4 : lk Γ t4 = some s4 := by exact rfl) : SubE Γ [(t1, s1), (t2, s2), (t3, s3), (t4, s4)] := (.cons (.of_lk h1) (.cons (.of_lk h2) (.cons (.of_lk h3) (.cons (.of_lk h4) .nil))))
theorem SubE.k5 {t1 t2 t3 t4 t5 : Tmp} {s1 s2 s3 s4 s5 : Slot} (h1 : lk Γ t1 = some s1 := by exact rfl) (h2 : lk Γ t2 = some s2 := by exact rfl) (h3 : lk Γ t3 = some s3 := by exact rfl) (h4 : lk Γ t4 = some s4 := by exact rfl) (h5 : lk Γ t5 = some s5 := by exact rfl) : SubE Γ [(t1, s1), (t2, s2), (t3, s3), (t4, s4), (t5, s5)] := (.cons (.of_lk h1) (.cons (.of_lk h2) (.cons (.of_lk h3) (.cons (.of_lk h4) (.cons (.of_lk h5) .nil)))))
theorem SubE.k6 {t1 t2 t3 t4 t5 t6 : Tmp} {s1 s2 s3 s4 s5 s6 : Slot} (h1 : lk Γ t1 = some s1 := by exact rfl) (h2 : lk Γ t2 = some s2 := by exact rfl) (h3 : lk Γ t3 = some s3 := by exact rfl) (h4 : lk Γ t4 = some s4 := by exact rfl) (h5 : lk Γ t5 = some s5 := by exact rfl) (h6 : lk Γ t6 = some s6 := by exact rfl) : SubE Γ [(t1, s1), (t2, s2), (t3, s3), (t4, s4), (t5, s5), (t6, s6)] := (.cons (.of_lk h1) (.cons (.of_lk h2) (.cons (.of_lk h3) (.cons (.of_lk h4) (.cons (.of_lk h5) (.cons (.of_lk h6) .nil))))))
theorem SubE.k7 {t1 t2 t3 t4 t5 t6 t7 : Tmp} {s1 s2 s3 s4 s5 s6 s7 : Slot} (h1 : lk Γ t1 = some s1 := by exact rfl) (h2 : lk Γ t2 = some s2 := by exact rfl) (h3 : lk Γ t3 = some s3 := by exact rfl) (h4 : lk Γ t4 = some s4 := by exact rfl) (h5 : lk Γ t5 = some s5 := by exact rfl) (h6 : lk Γ t6 = some s6 := by exact rfl) (h7 : lk Γ t7 = some s7 := by exact rfl) : SubE Γ [(t1, s1), (t2, s2), (t3, s3), (t4, s4), (t5, s5), (t6, s6), (t7, s7)] := (.cons (.of_lk h1) (.cons (.of_lk h2) (.cons (.of_lk h3) (.cons (.of_lk h4) (.cons (.of_lk h5) (.cons (.of_lk h6) (.cons (.of_lk h7) .nil)))))))
theorem SubE.k8 {t1 t2 t3 t4 t5 t6 t7 t8 : Tmp} {s1 s2 s3 s4 s5 s6 s7 s8 : Slot} (h1 : lk Γ t1 = some s1 := by exact rfl) (h2 : lk Γ t2 = some s2 := by exact rfl) (h3 : lk Γ t3 = some s3 := by exact rfl) (h4 : lk Γ t4 = some s4 := by exact rfl) (h5 : lk Γ t5 = some s5 := by exact rfl) (h6 : lk Γ t6 = some s6 := by exact rfl) (h7 : lk Γ t7 = some s7 := by exact rfl) (h8 : lk Γ t8 = some s8 := by exact rfl) : SubE Γ [(t1, s1), (t2, s2), (t3, s3), (t4, s4), (t5, s5), (t6, s6), (t7, s7), (t8, s8)] := (.cons (.of_lk h1) (.cons (.of_lk h2) (.cons (.of_lk h3) (.cons (.of_lk h4) (.cons (.of_lk h5) (.cons (.of_lk h6) (.cons (.of_lk h7) (.cons (.of_lk h8) .nil))))))))
theorem SubE.k9 {t1 t2 t3 t4 t5 t6 t7 t8 t9 : Tmp} {s1 s2 s3 s4 s5 s6 s7 s8 s9 : Slot} (h1 : lk Γ t1 = some s1 := by exact rfl) (h2 : lk Γ t2 = some s2 := by exact rfl) (h3 : lk Γ t3 = some s3 := by exact rfl) (h4 : lk Γ t4 = some s4 := by exact rfl) (h5 : lk Γ t5 = some s5 := by exact rfl) (h6 : lk Γ t6 = some s6 := by exact rfl) (h7 : lk Γ t7 = some s7 := by exact rfl) (h8 : lk Γ t8 = some s8 := by exact rfl) (h9 : lk Γ t9 = some s9 := by exact rfl) : SubE Γ [(t1, s1), (t2, s2), (t3, s3), (t4, s4), (t5, s5), (t6, s6), (t7, s7), (t8, s8), (t9, s9)] := (.cons (.of_lk h1) (.cons (.of_lk h2) (.cons (.of_lk h3) (.cons (.of_lk h4) (.cons (.of_lk h5) (.cons (.of_lk h6) (.cons (.of_lk h7) (.cons (.of_lk h8) (.cons (.of_lk h9) .nil)))))))))
theorem SubE.k10 {t1 t2 t3 t4 t5 t6 t7 t8 t9 t10 : Tmp} {s1 s2 s3 s4 s5 s6 s7 s8 s9 s10 : Slot} (h1 : lk Γ t1 = some s1 := by exact rfl) (h2 : lk Γ t2 = some s2 := by exact rfl) (h3 : lk Γ t3 = some s3 := by exact rfl) (h4 : lk Γ t4 = some s4 := by exact rfl) (h5 : lk Γ t5 = some s5 := by exact rfl) (h6 : lk Γ t6 = some s6 := by exact rfl) (h7 : lk Γ t7 = some s7 := by exact rfl) (h8 : lk Γ t8 = some s8 := by exact rfl) (h9 : lk Γ t9 = some s9 := by exact rfl) (h10 : lk Γ t10 = some s10 := by exact rfl) : SubE Γ [(t1, s1), (t2, s2), (t3, s3), (t4, s4), (t5, s5), (t6, s6), (t7, s7), (t8, s8), (t9, s9), (t10, s10)] := (.cons (.of_lk h1) (.cons (.of_lk h2) (.cons (.of_lk h3) (.cons (.of_lk h4) (.cons (.of_lk h5) (.cons (.of_lk h6) (.cons (.of_lk h7) (.cons (.of_lk h8) (.cons (.of_lk h9) (.cons (.of_lk h10) .nil))))))))))
theorem SubE.k11 {t1 t2 t3 t4 t5 t6 t7 t8 t9 t10 t11 : Tmp} {s1 s2 s3 s4 s5 s6 s7 s8 s9 s10 s11 : Slot} (h1 : lk Γ t1 = some s1 := by exact rfl) (h2 : lk Γ t2 = some s2 := by exact rfl) (h3 : lk Γ t3 = some s3 := by exact rfl) (h4 : lk Γ t4 = some s4 := by exact rfl) (h5 : lk Γ t5 = some s5 := by exact rfl) (h6 : lk Γ t6 = some s6 := by exact rfl) (h7 : lk Γ t7 = some s7 := by exact rfl) (h8 : lk Γ t8 = some s8 := by exact rfl) (h9 : lk Γ t9 = some s9 := by exact rfl) (h10 : lk Γ t10 = some s10 := by exact rfl) (h11 : lk Γ t11 = some s11 := by exact rfl) : SubE Γ [(t1, s1), (t2, s2), (t3, s3), (t4, s4), (t5, s5), (t6, s6), (t7, s7), (t8, s8), (t9, s9), (t10, s10), (t11, s11)] := (.cons (.of_lk h1) (.cons (.of_lk h2) (.cons (.of_lk h3) (.cons (.of_lk h4) (.cons (.of_lk h5) (.cons (.of_lk h6) (.cons (.of_lk h7) (.cons (.of_lk h8) (.cons (.of_lk h9) (.cons (.of_lk h10) (.cons (.of_lk h11) .nil)))))))))))
theorem SubE.k12 {t1 t2 t3 t4 t5 t6 t7 t8 t9 t10 t11 t12 : Tmp} {s1 s2 s3 s4 s5 s6 s7 s8 s9 s10 s11 s12 : Slot} (h1 : lk Γ t1 = some s1 := by exact rfl) (h2 : lk Γ t2 = some s2 := by exact rfl) (h3 : lk Γ t3 = some s3 := by exact rfl) (h4 : lk Γ t4 = some s4 := by exact rfl) (h5 : lk Γ t5 = some s5 := by exact rfl) (h6 : lk Γ t6 = some s6 := by exact rfl) (h7 : lk Γ t7 = some s7 := by exact rfl) (h8 : lk Γ t8 = some s8 := by exact rfl) (h9 : lk Γ t9 = some s9 := by exact rfl) (h10 : lk Γ t10 = some s10 := by exact rfl) (h11 : lk Γ t11 = some s11 := by exact rfl) (h12 : lk Γ t12 = some s12 := by exact rfl) : SubE Γ [(t1, s1), (t2, s2), (t3, s3), (t4, s4), (t5, s5), (t6, s6), (t7, s7), (t8, s8), (t9, s9), (t10, s10), (t11, s11), (t12, s12)] := (.cons (.of_lk h1) (.cons (.of_lk h2) (.cons (.of_lk h3) (.cons (.of_lk h4) (.cons (.of_lk h5) (.cons (.of_lk h6) (.cons (.of_lk h7) (.cons (.of_lk h8) (.cons (.of_lk h9) (.cons (.of_lk h10) (.cons (.of_lk h11) (.cons (.of_lk h12) .nil))))))))))))
theorem Keep.h1 {e1 : Ent} : Keep (e1 :: H) [e1] := (.cons .here .nil)
theorem Parts.h1 {e1 : Ent} : Parts (e1 :: H) [e1] H := (.cons .here .nil)
theorem Keep.h2 {e1 e2 : Ent} : Keep (e1 :: e2 :: H) [e1, e2] := (.cons .here (.cons .here .nil))
theorem Parts.h2 {e1 e2 : Ent} : Parts (e1 :: e2 :: H) [e1, e2] H := (.cons .here (.cons .here .nil))
theorem Keep.h3 {e1 e2 e3 : Ent} : Keep (e1 :: e2 :: e3 :: H) [e1, e2, e3] := (.cons .here (.cons .here (.cons .here .nil)))
theorem Parts.h3 {e1 e2 e3 : Ent} : Parts (e1 :: e2 :: e3 :: H) [e1, e2, e3] H := (.cons .here (.cons .here (.cons .here .nil)))
theorem Keep.h4 {e1 e2 e3 e4 : Ent} : Keep (e1 :: e2 :: e3 :: e4 :: H) [e1, e2, e3, e4] := (.cons .here (.cons .here (.cons .here (.cons .here .nil))))
theorem Parts.h4 {e1 e2 e3 e4 : Ent} : Parts (e1 :: e2 :: e3 :: e4 :: H) [e1, e2, e3, e4] H := (.cons .here (.cons .here (.cons .here (.cons .here .nil))))
theorem Keep.h5 {e1 e2 e3 e4 e5 : Ent} : Keep (e1 :: e2 :: e3 :: e4 :: e5 :: H) [e1, e2, e3, e4, e5] := (.cons .here (.cons .here (.cons .here (.cons .here (.cons .here .nil)))))
theorem Parts.h5 {e1 e2 e3 e4 e5 : Ent} : Parts (e1 :: e2 :: e3 :: e4 :: e5 :: H) [e1, e2, e3, e4, e5] H := (.cons .here (.cons .here (.cons .here (.cons .here (.cons .here .nil)))))
theorem Keep.h6 {e1 e2 e3 e4 e5 e6 : Ent} : Keep (e1 :: e2 :: e3 :: e4 :: e5 :: e6 :: H) [e1, e2, e3, e4, e5, e6] := (.cons .here (.cons .here (.cons .here (.cons .here (.cons .here (.cons .here .nil))))))
theorem Parts.h6 {e1 e2 e3 e4 e5 e6 : Ent} : Parts (e1 :: e2 :: e3 :: e4 :: e5 :: e6 :: H) [e1, e2, e3, e4, e5, e6] H := (.cons .here (.cons .here (.cons .here (.cons .here (.cons .here (.cons .here .nil))))))
theorem Keep.h7 {e1 e2 e3 e4 e5 e6 e7 : Ent} : Keep (e1 :: e2 :: e3 :: e4 :: e5 :: e6 :: e7 :: H) [e1, e2, e3, e4, e5, e6, e7] := (.cons .here (.cons .here (.cons .here (.cons .here (.cons .here (.cons .here (.cons .here .nil)))))))
theorem Parts.h7 {e1 e2 e3 e4 e5 e6 e7 : Ent} : Parts (e1 :: e2 :: e3 :: e4 :: e5 :: e6 :: e7 :: H) [e1, e2, e3, e4, e5, e6, e7] H := (.cons .here (.cons .here (.cons .here (.cons .here (.cons .here (.cons .here (.cons .here .nil)))))))
theorem Keep.h8 {e1 e2 e3 e4 e5 e6 e7 e8 : Ent} : Keep (e1 :: e2 :: e3 :: e4 :: e5 :: e6 :: e7 :: e8 :: H) [e1, e2, e3, e4, e5, e6, e7, e8] := (.cons .here (.cons .here (.cons .here (.cons .here (.cons .here (.cons .here (.cons .here (.cons .here .nil))))))))
theorem Parts.h8 {e1 e2 e3 e4 e5 e6 e7 e8 : Ent} : Parts (e1 :: e2 :: e3 :: e4 :: e5 :: e6 :: e7 :: e8 :: H) [e1, e2, e3, e4, e5, e6, e7, e8] H := (.cons .here (.cons .here (.cons .here (.cons .here (.cons .here (.cons .here (.cons .here (.cons .here .nil))))))))
theorem Keep.h9 {e1 e2 e3 e4 e5 e6 e7 e8 e9 : Ent} : Keep (e1 :: e2 :: e3 :: e4 :: e5 :: e6 :: e7 :: e8 :: e9 :: H) [e1, e2, e3, e4, e5, e6, e7, e8, e9] := (.cons .here (.cons .here (.cons .here (.cons .here (.cons .here (.cons .here (.cons .here (.cons .here (.cons .here .nil)))))))))
theorem Parts.h9 {e1 e2 e3 e4 e5 e6 e7 e8 e9 : Ent} : Parts (e1 :: e2 :: e3 :: e4 :: e5 :: e6 :: e7 :: e8 :: e9 :: H) [e1, e2, e3, e4, e5, e6, e7, e8, e9] H := (.cons .here (.cons .here (.cons .here (.cons .here (.cons .here (.cons .here (.cons .here (.cons .here (.cons .here .nil)))))))))
theorem Keep.h10 {e1 e2 e3 e4 e5 e6 e7 e8 e9 e10 : Ent} : Keep (e1 :: e2 :: e3 :: e4 :: e5 :: e6 :: e7 :: e8 :: e9 :: e10 :: H) [e1, e2, e3, e4, e5, e6, e7, e8, e9, e10] := (.cons .here (.cons .here (.cons .here (.cons .here (.cons .here (.cons .here (.cons .here (.cons .here (.cons .here (.cons .here .nil))))))))))
theorem Parts.h10 {e1 e2 e3 e4 e5 e6 e7 e8 e9 e10 : Ent} : Parts (e1 :: e2 :: e3 :: e4 :: e5 :: e6 :: e7 :: e8 :: e9 :: e10 :: H) [e1, e2, e3, e4, e5, e6, e7, e8, e9, e10] H := (.cons .here (.cons .here (.cons .here (.cons .here (.cons .here (.cons .here (.cons .here (.cons .here (.cons .here (.cons .here .nil))))))))))
theorem tl1 {t1 : Tmp} {s1 : Slot} (h1 : lk Γ t1 = some s1 := by exact rfl) : UF Γ [.tmp t1] [s1] := (Zo (Zu h1) Q3)
theorem tl2 {t1 t2 : Tmp} {s1 s2 : Slot} (h1 : lk Γ t1 = some s1 := by exact rfl) (h2 : lk Γ t2 = some s2 := by exact rfl) : UF Γ [.tmp t1, .tmp t2] [s1, s2] := (Zo (Zu h1) (Zo (Zu h2) Q3))
theorem tl3 {t1 t2 t3 : Tmp} {s1 s2 s3 : Slot} (h1 : lk Γ t1 = some s1 := by exact rfl) (h2 : lk Γ t2 = some s2 := by exact rfl) (h3 : lk Γ t3 = some s3 := by exact rfl) : UF Γ [.tmp t1, .tmp t2, .tmp t3] [s1, s2, s3] := (Zo (Zu h1) (Zo (Zu h2) (Zo (Zu h3) Q3)))
theorem tl4 {t1 t2 t3 t4 : Tmp} {s1 s2 s3 s4 : Slot} (h1 : lk Γ t1 = some s1 := by exact rfl) (h2 : lk Γ t2 = some s2 := by exact rfl) (h3 : lk Γ t3 = some s3 := by exact rfl) (h4 : lk Γ t4 = some s4 := by exact rfl) : UF Γ [.tmp t1, .tmp t2, .tmp t3, .tmp t4] [s1, s2, s3, s4] := (Zo (Zu h1) (Zo (Zu h2) (Zo (Zu h3) (Zo (Zu h4) Q3))))
theorem tl5 {t1 t2 t3 t4 t5 : Tmp} {s1 s2 s3 s4 s5 : Slot} (h1 : lk Γ t1 = some s1 := by exact rfl) (h2 : lk Γ t2 = some s2 := by exact rfl) (h3 : lk Γ t3 = some s3 := by exact rfl) (h4 : lk Γ t4 = some s4 := by exact rfl) (h5 : lk Γ t5 = some s5 := by exact rfl) : UF Γ [.tmp t1, .tmp t2, .tmp t3, .tmp t4, .tmp t5] [s1, s2, s3, s4, s5] := (Zo (Zu h1) (Zo (Zu h2) (Zo (Zu h3) (Zo (Zu h4) (Zo (Zu h5) Q3)))))
theorem tl6 {t1 t2 t3 t4 t5 t6 : Tmp} {s1 s2 s3 s4 s5 s6 : Slot} (h1 : lk Γ t1 = some s1 := by exact rfl) (h2 : lk Γ t2 = some s2 := by exact rfl) (h3 : lk Γ t3 = some s3 := by exact rfl) (h4 : lk Γ t4 = some s4 := by exact rfl) (h5 : lk Γ t5 = some s5 := by exact rfl) (h6 : lk Γ t6 = some s6 := by exact rfl) : UF Γ [.tmp t1, .tmp t2, .tmp t3, .tmp t4, .tmp t5, .tmp t6] [s1, s2, s3, s4, s5, s6] := (Zo (Zu h1) (Zo (Zu h2) (Zo (Zu h3) (Zo (Zu h4) (Zo (Zu h5) (Zo (Zu h6) Q3))))))
theorem jq {o : Oper} {s : Slot} (h : PJ c o Γ H s) (k : Jc c full l ((d, s) :: Γ) H K) (hg : o.guard = none := by exact rfl) (hd : o.dst = some d := by exact rfl) (hN : Nat.blt d c.N = true := by exact rfl) : Jc c full (o :: l) Γ H K := Qaf h hg hd hN k
theorem jm {t : Tmp} {s : Slot} (k : Jc c full l ((d, s) :: Γ) H K) (h : lk Γ t = some s := by exact rfl) (hN : Nat.blt d c.N = true := by exact rfl) : Jc c full (⟨some d, .move (.tmp t), ty, pos, aft, none⟩ :: l) Γ H K := Qaf (Qb4 (Zu h)) rfl rfl hN k
theorem ja {t : Tmp} {s : Slot} (k : Jc c full l ((d, s) :: Γ) H K) (h : lk Γ t = some s := by exact rfl) (hN : Nat.blt d c.N = true := by exact rfl) : Jc c full (⟨some d, .assign (.tmp t), ty, pos, aft, none⟩ :: l) Γ H K := Qaf (QaY (Zu h)) rfl rfl hN k
theorem jl {T : TypeId} {t : Tmp} {R : Rep α} {y : α} (k : Jc c full l ((d, R.slot y) :: Γ) H K) (h : lk Γ t = some (Qt R y) := by exact rfl) (hT : tyB c.P T R.ag R.n = true := by kernel_rfl) (hN : Nat.blt d c.N = true := by exact rfl) : Jc c full (⟨some d, .load T (.tmp t), ty, pos, aft, none⟩ :: l) Γ H K := Qaf (Qad (Zu h) hT) rfl rfl hN k
theorem jx {t : Tmp} {i : Nat} {ss : List Slot} {s : Slot} (k : Jc c full l ((d, s) :: Γ) H K) (h : lk Γ t = some (tup ss) := by exact rfl) (hi : ss[i]? = some s := by exact rfl) (hN : Nat.blt d c.N = true := by exact rfl) : Jc c full (⟨some d, .extract (.tmp t) i, ty, pos, aft, none⟩ :: l) Γ H K := Qaf (Wc (Zu h) hi) rfl rfl hN k
theorem jn {o : Oper} {j t : Nat} {b : Bool} (e : b = false) (k : Jc c full l ((d, val undef) :: Γ) H K) (hg : o.guard = some (j, true) := by exact rfl) (hj : (full[j]?).bind (·.dst) = some t := by exact rfl) (hN : Nat.blt t c.N = true := by exact rfl) (hl : lk Γ t = some (bl.slot b) := by exact rfl) (hd : o.dst = some d := by exact rfl) (hN' : Nat.blt d c.N = true := by exact rfl) : Jc c full (o :: l) Γ H K := Qbq hg hj hN hl (QdO e) rfl hd hN' k
theorem jN {o : Oper} {j t : Nat} {b : Bool} (e : b = true) (k : Jc c full l ((d, val undef) :: Γ) H K) (hg : o.guard = some (j, false) := by exact rfl) (hj : (full[j]?).bind (·.dst) = some t := by exact rfl) (hN : Nat.blt t c.N = true := by exact rfl) (hl : lk Γ t = some (bl.slot b) := by exact rfl) (hd : o.dst = some d := by exact rfl) (hN' : Nat.blt d c.N = true := by exact rfl) : Jc c full (o :: l) Γ H K := Qbq hg hj hN hl (QdO e) rfl hd hN' k
theorem jz {o : Oper} {j t : Nat} {want b : Bool} {s : Slot} (h : PJ c o Γ H s) (e : b = want) (k : Jc c full l ((d, s) :: Γ) H K) (hg : o.guard = some (j, want) := by exact rfl) (hj : (full[j]?).bind (·.dst) = some t := by exact rfl) (hN : Nat.blt t c.N = true := by exact rfl) (hl : lk Γ t = some (bl.slot b) := by exact rfl) (hd : o.dst = some d := by exact rfl) (hN' : Nat.blt d c.N = true := by exact rfl) : Jc c full (o :: l) Γ H K :=
 Qjh h hg hj hN hl (QdO e) hd hN' k
theorem RJ.p {full : List Oper} {kk : Nat} {o : Oper} {os : List Oper} {s : Slot} {σ : List Slot} {al : Option (Nat × Nat × (Nat → Ent))} (h : PJ c o Γ H s) (k : RJ c full H (kk + 1) os (push o.dst s Γ) σ al) (hg : o.guard = none := by exact rfl) : RJ c full H kk (o :: os) Γ (s :: σ) al := .read (.plain hg h) k
theorem RJ.m {full : List Oper} {kk : Nat} {t : Tmp} {os : List Oper} {s : Slot} {σ : List Slot} {al : Option (Nat × Nat × (Nat → Ent))} (h : lk Γ t = some s) (k : RJ c full H (kk + 1) os (push od s Γ) σ al) : RJ c full H kk (⟨od, .move (.tmp t), ty, pos, aft, none⟩ :: os) Γ (s :: σ) al := .read (.plain rfl (Qb4 (Zu h))) k
theorem RL.p {full : List Oper} {Ls : List Line} {kk : Nat} {o : Oper} {os : List Oper} {s : Slot} {σ : List Slot} (h : PJ c o Γ H s) (k : RL c full H Ls (kk + 1) os (push o.dst s Γ) σ) (h0 : (Ls.all fun L => L.st.all fun x => !Nat.beq x.1 kk) = true := by exact rfl) (hg : o.guard = none := by exact rfl) : RL c full H Ls kk (o :: os) Γ (s :: σ) := .read h0 (.plain hg h) k
theorem RL.m {full : List Oper} {Ls : List Line} {kk : Nat} {t : Tmp} {os : List Oper} {s : Slot} {σ : List Slot} (h : lk Γ t = some s) (k : RL c full H Ls (kk + 1) os (push od s Γ) σ) (h0 : (Ls.all fun L => L.st.all fun x => !Nat.beq x.1 kk) = true := by exact rfl) : RL c full H Ls kk (⟨od, .move (.tmp t), ty, pos, aft, none⟩ :: os) Γ (s :: σ) := .read h0 (.plain rfl (Qb4 (Zu h))) k
theorem gY {full : List Oper} {o : Oper} {j t : Nat} {want b : Bool} (e : b = want) (hg : o.guard = some (j, want) := by exact rfl) (hj : (full[j]?).bind (·.dst) = some t := by exact rfl) (hl : lk Γ t = some (bl.slot b) := by exact rfl) : W8 full o Γ true := ⟨j, want, b, t, _, hg, hj, hl, fun _ _ => K2.1, Qk3 e⟩
theorem gN {full : List Oper} {o : Oper} {j t : Nat} {b : Bool} (e : b = false) (hg : o.guard = some (j, true) := by exact rfl) (hj : (full[j]?).bind (·.dst) = some t := by exact rfl) (hl : lk Γ t = some (bl.slot b) := by exact rfl) : W8 full o Γ false := ⟨j, true, b, t, _, hg, hj, hl, fun _ _ => K2.1, Qls e⟩
theorem rd {id n : Nat} {L : List Oper} {σ : List Slot} (hR : RJ c L H 0 (L.take n) Γ σ none)
  (h : Jc c L.toArray (L.drop n) (Qay Γ (L.take n) σ) H (WR c.ro c.P Q k)) (hm : c.P.follows .mixedOrders = true := by kernel_rfl) (hB : UL L n = true := by kernel_rfl) (hn : Nat.ble n L.length = true := by kernel_rfl) (hN : Qcm c.N (L.take n) = true := by kernel_rfl) : Run c Q (.region id L.toArray true :: k) Γ H := Qi8 hm hB hn hN hR h
theorem rdL {id n : Nat} {L : List Oper} {Ls : List Line} {σ : List Slot} (hR : RL c L H Ls 0 (L.take n) Γ σ)
  (h : QbA (fun V E => Jc c L.toArray (L.drop n) (V ++ Qay Γ (L.take n) σ) (E ++ H) (WR c.ro c.P Q k)) Ls [] []) (hm : c.P.follows .mixedOrders = true := by kernel_rfl) (hB : UL L n = true := by kernel_rfl) (hn : Nat.ble n L.length = true := by kernel_rfl) (hN : Qcm c.N (L.take n) = true := by kernel_rfl) (hU : Qbs (L.take n) = true := by kernel_rfl)
  (hL : qT (L.take n) Ls = true := by exact rfl) : Run c Q (.region id L.toArray true :: k) Γ ((Ls.map (·.ini)).flatten ++ H) := Qhz hm hB hn hN hU hL hR h
theorem jc {f : FuncId} {args : List Operand} {ats : Array TypeId} {A : List Slot} {E : List Ent} {ι : Type} {ρ : ι → Slot} {ε : ι → List Ent} (hA : UF Γ args A) (hC : Ctr c.P c.G f A E ρ ε) (hE : Parts H E H')
  (k : ∀ i, Jc c full l ((d, ρ i) :: Γ) (ε i ++ H') K) (hf : K1 c.P f = true := by kernel_rfl) (hN : Nat.blt d c.N = true := by exact rfl) : Jc c full (⟨some d, .call { callee := .value (.func f), args := args.toArray, argTypes := ats }, ty, pos, aft, none⟩ :: l) Γ H K := Qk9 hA hf hC hE hN k
theorem pc {f : FuncId} {args : List Operand} {ats : Array TypeId} {A : List Slot} {s : Slot} (hA : UF Γ args A) (hC : Ctr c.P c.G f A [] (fun _ : Unit => s) (fun _ => [])) (hf : K1 c.P f = true := by kernel_rfl) : PJ c ⟨od, .call { callee := .value (.func f), args := args.toArray, argTypes := ats }, ty, pos, aft, g⟩ Γ H s := Qka hA hf hC
theorem wc {f : FuncId} {args : List Operand} {ats : Array TypeId} {A : List Slot} {E : List Ent} {ι : Type} {ρ : ι → Slot} {ε : ι → List Ent} (hA : UF Γ args A) (hC : Ctr c.P c.G f A E ρ ε) (hE : Parts H E H') (hf : K1 c.P f = true := by kernel_rfl) (hN : Nat.blt d c.N = true := by exact rfl) :
  WJ c ⟨some d, .call { callee := .value (.func f), args := args.toArray, argTypes := ats }, ty, pos, aft, g⟩ Γ H (fun i => [(d, ρ i)]) (fun i => ε i ++ H') := Qle hA hf hC hE hN
theorem pft {S f off : Nat} {x : Operand} {R : Rep α} {Q : Rep β} {y : α} {get : α → β} {set : α → β → α} (hx : Has Γ x (Qt R y)) (hp : Path R off Q get set) (hf : QdP c.P S f off = true := by kernel_rfl) : PJ c ⟨od, .fieldAddr S x f, ty, pos, aft, g⟩ Γ H (Qt Q (get y)) := Qfq hx hp hf
theorem pfp {S f off b o : Nat} {x : Operand} (hx : Has Γ x (val (.pointer (some ⟨b, o, none⟩)))) (hf : QdP c.P S f off = true := by kernel_rfl) : PJ c ⟨od, .fieldAddr S x f, ty, pos, aft, g⟩ Γ H (val (.pointer (some ⟨b, o + off, none⟩))) := Qeq hx hf
theorem plb {T T0 : TypeId} {x : Operand} {b off : Nat} {R : Rep α} {S : Rep β} {y : α} {get : α → β} {set : α → β → α} (hx : Has Γ x (val (.pointer (some ⟨b, off, none⟩)))) (hk : Pick H (box b T0 R y) H') (hp : Path R off S get set) (hT : tyB c.P T S.ag S.n = true := by kernel_rfl) : PJ c ⟨od, .load T x, ty, pos, aft, g⟩ Γ H (S.slot (get y)) := QeU hx hk hp hT
theorem plt {T : TypeId} {x : Operand} {R : Rep α} {y : α} (hx : Has Γ x (Qt R y)) (hT : tyB c.P T R.ag R.n = true := by kernel_rfl) : PJ c ⟨od, .load T x, ty, pos, aft, g⟩ Γ H (R.slot y) := Qad hx hT
theorem pix {T : TypeId} {x y : Operand} {R : Rep α} {xs : List α} {i : Int} {s : Slot} {z : α} (hx : Has Γ x ((sl R).slot xs)) (hy : Has Γ y s) (hs : Ka s i) (h : ZC xs i = some z) (hT : slB c.P T R.n = true := by kernel_rfl) : PJ c ⟨od, .indexAddr T x y, ty, pos, aft, g⟩ Γ H (Qt R z) := Qet hx hy hs h hT
theorem jk {T T0 : TypeId} {x y : Operand} {b off : Nat} {R : Rep α} {S : Rep β} {r r' : α} {z : β} {get : α → β} {set : α → β → α} (hx : Has Γ x (val (.pointer (some ⟨b, off, none⟩)))) (hy : Has Γ y (S.slot z)) (hk : Pick H (box b T0 R r) H') (hp : Path R off S get set)
  (k : Jc c full l Γ (box b T0 R r' :: H') K) (hT : szB c.P T S.n = true := by kernel_rfl) (e : set r z = r' := by exact rfl) : Jc c full (⟨none, .store T x y, ty, pos, aft, none⟩ :: l) Γ H K := ZF hx hy hk hp hT e k
theorem al {T : TypeId} {R : Rep α} {x : α} {cs : List Value} (hz : X5 R x cs) (k : ∀ b, Jc c full l ((d, val (.pointer (some ⟨b, 0, none⟩))) :: Γ) (box b T R x :: H) K) (hT : KI c.P T = some cs := by kernel_rfl) (hN : Nat.blt d c.N = true := by exact rfl) : Jc c full (⟨some d, .alloc T, ty, pos, aft, none⟩ :: l) Γ H K := QjL hz hT hN k
theorem pk1 {t : Tmp} {y z : Operand} {b x r : Bool} (e : b = true) (hy : Has Γ y (bl.slot x)) (q : x = r) (h : lk Γ t = some (bl.slot b) := by exact rfl) : PJ c ⟨od, .pick (.tmp t) y z, ty, pos, aft, g⟩ Γ H (bl.slot r) := (QbZ (t := any) (Zu h) (fun _ => hy) (fun he => absurd (e.symm.trans he) (by decide))).eqv q
theorem pk2 {t : Tmp} {y z : Operand} {b x r : Bool} (e : b = false) (hz : Has Γ z (bl.slot x)) (q : x = r) (h : lk Γ t = some (bl.slot b) := by exact rfl) : PJ c ⟨od, .pick (.tmp t) y z, ty, pos, aft, g⟩ Γ H (bl.slot r) := (QbZ (t := any) (Zu h) (fun he => absurd (e.symm.trans he) (by decide)) (fun _ => hz)).eqv q
theorem Path.a {R : Rep α} : Path R 0 R (fun x => x) (fun _ y => y) := .all R
theorem Path.f {R : Rep α} {S : Rep β} : Path (prod R S) 0 R (fun x => x.1) (fun x y => (y, x.2)) := .fst R S
theorem Path.s {R : Rep α} {S : Rep β} : Path (prod R S) R.n S (fun x => x.2) (fun x y => (x.1, y)) := .snd R S
theorem Path.t {γ : Type} {R : Rep α} {S : Rep β} {T : Rep γ} {o1 o2 : Nat} {g1 : α → β} {s1 : α → β → α} {g2 : β → γ} {s2 : β → γ → β} (h : Path R o1 S g1 s1) (k : Path S o2 T g2 s2) : Path R (o1 + o2) T (fun x => g2 (g1 x)) (fun x z => s1 x (s2 (g1 x) z)) := .then h k
theorem bs {α β : Type} {o : Option α} {f : α → Option β} {r : β} (h : Option.bind o f = some r) : ∃ x, o = some x ∧ f x = some r := bind_some h
end
section
variable {c : Ctx} {Γ : Env} {H H' : List Ent} {a : Act} {w : World} {ι : Type} {ρ : ι → Slot} {ε : ι → List Ent} {fn : Func}
end
end Go.Sl
