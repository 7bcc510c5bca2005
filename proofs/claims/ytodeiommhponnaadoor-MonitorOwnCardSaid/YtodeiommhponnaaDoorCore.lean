import Derived.WalkKit
import Derived.RangeFuncKeeps
import Derived.OrdersIn
import Derived.LoopNIn
import Derived.DefersIn
import Derived.Test.YtodeiommhponnaaDoorBase
set_option linter.unusedSimpArgs false
set_option linter.unusedVariables false
namespace Go.Sl

/-! ## Memory that stays -/
abbrev Mem := Nat → Nat → Option Value
def Mle (m m' : Mem) : Prop := ∀ b o v, m b o = some v → m' b o = some v
theorem Mle.refl (m : Mem) : Mle m m := fun _ _ _ h => h
theorem Mle.trans {a b c : Mem} (h : Mle a b) (k : Mle b c) : Mle a c := fun _ _ _ e => k _ _ _ (h _ _ _ e)

structure Slot where
  p : Mem → Value → Prop
  mono : ∀ {m m' : Mem} {v : Value}, Mle m m' → p m v → p m' v

abbrev Env := List (Nat × Slot)
def lk : Env → Nat → Option Slot
  | [], _ => none
  | (t', s) :: Γ, t => bif Nat.beq t' t then some s else lk Γ t
def EnvOK (Γ : Env) (m : Mem) (a : Act) : Prop := ∀ t s, lk Γ t = some s → s.p m (a.tmps.getD t undef)

abbrev Hp := List (Nat × TypeId × List Value)
def Hp.bs (hs : Hp) : List Nat := hs.map (·.1)
structure Ent where
  p : Mem → Hp → Prop
  mono : ∀ {m m' : Mem} {h : Hp}, Mle m m' → p m h → p m' h
def Sat : List Ent → Mem → Hp → Prop
  | [], _, hs => hs = []
  | e :: es, m, hs => ∃ h1 h2, hs = h1 ++ h2 ∧ e.p m h1 ∧ Sat es m h2
theorem Sat.mono {m m' : Mem} (hm : Mle m m') : ∀ {H : List Ent} {hs : Hp}, Sat H m hs → Sat H m' hs
  | [], _, h => h
  | _ :: _, _, ⟨h1, h2, e, p, q⟩ => ⟨h1, h2, e, Ent.mono _ hm p, Sat.mono hm q⟩
theorem Sat.append {m : Mem} : ∀ {H1 H2 : List Ent} {h1 h2 : Hp}, Sat H1 m h1 → Sat H2 m h2 → Sat (H1 ++ H2) m (h1 ++ h2)
  | [], _, _, _, h, k => by cases h; simpa using k
  | e :: _, _, _, _, ⟨a, b, he, p, q⟩, k => ⟨a, b ++ _, by simp [he], p, Sat.append q k⟩
theorem Sat.split {m : Mem} : ∀ {H1 H2 : List Ent} {hs : Hp}, Sat (H1 ++ H2) m hs → ∃ h1 h2, hs = h1 ++ h2 ∧ Sat H1 m h1 ∧ Sat H2 m h2
  | [], _, hs, h => ⟨[], hs, rfl, rfl, h⟩
  | e :: _, _, _, ⟨a, b, he, p, q⟩ => by
    obtain ⟨c, d, hb, r, s⟩ := Sat.split q
    exact ⟨a ++ c, d, by simp [he, hb], ⟨a, c, rfl, p, r⟩, s⟩

structure Good (m : Mem) (hs : Hp) (w : World) : Prop where
  mem : ∀ b o v, m b o = some v → w.cell? ⟨b, o, none⟩ = some v
  nodup : hs.bs.Nodup
  blk : ∀ h ∈ hs, w.heap[h.1]? = some (.cells h.2.2.toArray h.2.1 (0, 0))
  free : ∀ h ∈ hs, ∀ o, m h.1 o = none
/-- w' is w but for the blocks 'bs' and new ones. -/
structure Frm (w w' : World) (m m' : Mem) (bs bs' : List Nat) : Prop where
  os : w'.os = w.os
  tape : w'.tape = w.tape
  output : w'.output = w.output
  size : w.heap.size ≤ w'.heap.size
  old : ∀ b, b < w.heap.size → b ∉ bs → w'.heap[b]? = w.heap[b]? ∧ ∀ o, m' b o = m b o
  own : ∀ b ∈ bs', b ∈ bs ∨ w.heap.size ≤ b
  le : Mle m m'
theorem Frm.refl (w : World) (m : Mem) (bs : List Nat) : Frm w w m m bs bs := ⟨rfl, rfl, rfl, Nat.le_refl _, fun _ _ _ => ⟨rfl, fun _ => rfl⟩, fun _ h => .inl h, Mle.refl _⟩
theorem Frm.trans {w w1 w2 : World} {m m1 m2 : Mem} {b0 b1 b2 : List Nat} (h : Frm w w1 m m1 b0 b1) (k : Frm w1 w2 m1 m2 b1 b2) : Frm w w2 m m2 b0 b2 where
  os := k.os.trans h.os
  tape := k.tape.trans h.tape
  output := k.output.trans h.output
  size := Nat.le_trans h.size k.size
  old := fun b hb hn => by
    have h1 := h.old b hb hn
    have hn1 : b ∉ b1 := fun e => (h.own b e).elim hn (fun e' => absurd hb (Nat.not_lt.2 e'))
    have h2 := k.old b (Nat.lt_of_lt_of_le hb h.size) hn1
    exact ⟨h2.1.trans h1.1, fun o => (h2.2 o).trans (h1.2 o)⟩
  own := fun b hb => (k.own b hb).elim (h.own b) (fun e => .inr (Nat.le_trans h.size e))
  le := h.le.trans k.le
theorem Frm.sub {w w1 : World} {m m1 : Mem} {b0 b1 b2 : List Nat} (h : Frm w w1 m m1 b0 b1) (k : ∀ b ∈ b2, b ∈ b1) : Frm w w1 m m1 b0 b2 :=
  { h with own := fun b hb => h.own b (k b hb) }
/-- A frame around: blocks that are owned besides. -/
theorem Frm.wide {w w1 : World} {m m1 : Mem} {b0 b1 : List Nat} (r : List Nat) (h : Frm w w1 m m1 b0 b1) : Frm w w1 m m1 (b0 ++ r) (b1 ++ r) :=
  { h with
    old := fun b hb hn => h.old b hb (fun e => hn (List.mem_append.2 (.inl e)))
    own := fun b hb => (List.mem_append.1 hb).elim (fun e => (h.own b e).imp (fun e => List.mem_append.2 (.inl e)) id) (fun e => .inl (List.mem_append.2 (.inr e))) }

structure GP where
  p : Mem → Prop
  mono : ∀ {m m' : Mem}, Mle m m' → p m → p m'
structure Ctx where
  P : Program
  N : Nat
  G : GP
  m0 : Mem
  w0 : World
  b0 : List Nat
  ro : Option Nat := none
  mm : Bool := false
/-- The fence of a plain activation, or of a loop's round. -/
def fen (r : Option Nat) : Fence := { Fence.wide with round := r }
theorem fen_fn (r : Option Nat) (f : FuncId) : (fen r).fn f := trivial
theorem fen_depth (r : Option Nat) : (fen r).depth.isSome = true → 1 ≤ 0 := fun h => by cases h
theorem callsIn_fen {r : Option Nat} {n : Nat} {P : Program} {f : FuncId} {args : Array Value} {w : World} {R : Ending → World → Prop} : CallsIn (fen r) n P f args w R ↔ Calls P f args w R := callsIn_wide (n := n)

/-- The marks that loops over functions have left among the deferred calls ('mm': there may be such). -/
abbrev coll (D : Nat) : Deferred := ⟨.collected D, #[]⟩
def Dfr (c : Ctx) (ds : List Deferred) (w : World) : Prop :=
  match c.mm with
  | false => ds = []
  | true => ∃ Ds : List Nat, ds = Ds.map coll ∧ Ds.Nodup ∧ ∀ D ∈ Ds, c.w0.heap.size ≤ D ∧ w.heap[D]? = some (.deferred (some []))
theorem Good.neD {m : Mem} {hs : Hp} {w : World} (hg : Good m hs w) {l : Nat} {o : Obj} (ho : w.heap[l]? = some o) (hc : o.isCells = false) : l ∉ hs.bs := by
  intro h
  obtain ⟨x, hx, rfl⟩ := List.mem_map.1 h
  have := hg.blk x hx
  rw [ho] at this
  have := Option.some.inj this
  subst this
  cases hc
theorem Dfr.step {c : Ctx} {ds : List Deferred} {w w' : World} {m m' : Mem} {hs : Hp} {bs : List Nat} (h : Dfr c ds w) (hg : Good m hs w) (hf : Frm w w' m m' hs.bs bs) : Dfr c ds w' := by
  unfold Dfr at *
  cases hm : c.mm with
  | false => rw [hm] at h; exact h
  | true =>
    rw [hm] at h
    obtain ⟨Ds, e, hn, hD⟩ := h
    refine ⟨Ds, e, hn, fun D hd => ⟨(hD D hd).1, ?_⟩⟩
    have h1 := (hD D hd).2
    exact (hf.old D (Array.getElem?_eq_some_iff.1 h1).1 (hg.neD h1 rfl)).1.trans h1
theorem Dfr.none {c : Ctx} {ds : List Deferred} {w : World} (h : Dfr c ds w) (hm : c.mm = false) : ds = [] := by
  unfold Dfr at h; rw [hm] at h; exact h
def St (c : Ctx) (Γ : Env) (H : List Ent) (a : Act) (w : World) : Prop :=
  Dfr c a.defers w ∧ a.tmps.size = c.N ∧ ∃ m hs, Good m hs w ∧ c.G.p m ∧ EnvOK Γ m a ∧ Sat H m hs ∧ Frm c.w0 w c.m0 m c.b0 hs.bs

/-! ## Moves of the state that cost nothing -/
theorem EnvOK.mono {Γ : Env} {m m' : Mem} {a : Act} (hm : Mle m m') (h : EnvOK Γ m a) : EnvOK Γ m' a := fun t s e => s.mono hm (h t s e)
theorem lk_cons_self (d : Nat) (s : Slot) (Γ : Env) : lk ((d, s) :: Γ) d = some s := by simp [lk]
theorem lk_cons_ne {d t : Nat} (h : d ≠ t) (s : Slot) (Γ : Env) : lk ((d, s) :: Γ) t = lk Γ t := by
  show (bif Nat.beq d t then some s else lk Γ t) = lk Γ t
  cases hb : Nat.beq d t
  · rfl
  · exact absurd (Nat.eq_of_beq_eq_true hb) h
theorem put_getD_self {a : Act} {d : Nat} {v : Value} (h : d < a.tmps.size) : (a.put (some d) v).tmps.getD d undef = v := by
  simp [Act.put, Array.getD, h]
theorem put_getD_ne {a : Act} {d t : Nat} {v : Value} (h : d ≠ t) : (a.put (some d) v).tmps.getD t undef = a.tmps.getD t undef := by
  simp only [Act.put, Array.getD]
  by_cases ht : t < a.tmps.size
  · simp [ht, Array.getElem_setIfInBounds, h]
  · simp [ht]
theorem EnvOK.put {Γ : Env} {m : Mem} {a : Act} {d : Nat} {s : Slot} {v : Value} (h : EnvOK Γ m a) (hd : d < a.tmps.size) (hv : s.p m v) :
    EnvOK ((d, s) :: Γ) m (a.put (some d) v) := by
  intro t s' e
  by_cases ht : d = t
  · subst ht
    rw [lk_cons_self] at e
    cases e
    rw [put_getD_self hd]
    exact hv
  · rw [lk_cons_ne ht] at e
    rw [put_getD_ne ht]
    exact h t s' e
theorem put_size (a : Act) (d : Option Nat) (v : Value) : (a.put d v).tmps.size = a.tmps.size := by
  cases d <;> simp [Act.put]
theorem put_defers (a : Act) (d : Option Nat) (v : Value) : (a.put d v).defers = a.defers := by
  cases d <;> simp [Act.put]
inductive Pick {α : Type} : List α → α → List α → Prop
  | here {e : α} {t : List α} : Pick (e :: t) e t
  | next {x e : α} {t t' : List α} : Pick t e t' → Pick (x :: t) e (x :: t')
theorem Pick.perm {α : Type} {l : List α} {e : α} {r : List α} (h : Pick l e r) : l.Perm (e :: r) := by
  induction h with
  | here => exact List.Perm.refl _
  | next _ ih => exact (List.Perm.cons _ ih).trans (List.Perm.swap _ _ _)
theorem Sat.pick {m : Mem} {H : List Ent} {e : Ent} {H' : List Ent} (k : Pick H e H') : ∀ {hs : Hp}, Sat H m hs → ∃ h1 h2, hs.Perm (h1 ++ h2) ∧ e.p m h1 ∧ Sat H' m h2 := by
  induction k with
  | here => intro hs ⟨h1, h2, he, p, q⟩; exact ⟨h1, h2, he ▸ List.Perm.refl _, p, q⟩
  | next _ ih =>
    intro hs ⟨h1, h2, he, p, q⟩
    obtain ⟨g1, g2, hp, r, s⟩ := ih q
    refine ⟨g1, h1 ++ g2, ?_, r, h1, g2, rfl, p, s⟩
    rw [he]
    exact ((List.Perm.append_left h1 hp).trans (by rw [← List.append_assoc, ← List.append_assoc]; exact List.Perm.append_right g2 List.perm_append_comm))
theorem Good.perm {m : Mem} {hs hs' : Hp} {w : World} (h : Good m hs w) (p : hs.Perm hs') : Good m hs' w where
  mem := h.mem
  nodup := (p.map _).nodup_iff.1 h.nodup
  blk := fun x hx => h.blk x (p.mem_iff.2 hx)
  free := fun x hx => h.free x (p.mem_iff.2 hx)
theorem Good.sub {m : Mem} {hs hs' : Hp} {w : World} (h : Good m (hs ++ hs') w) : Good m hs' w where
  mem := h.mem
  nodup := by
    have := h.nodup
    simp only [Hp.bs, List.map_append] at this
    exact (List.nodup_append.1 this).2.1
  blk := fun x hx => h.blk x (List.mem_append.2 (.inr hx))
  free := fun x hx => h.free x (List.mem_append.2 (.inr hx))
theorem Hp.bs_append (a b : Hp) : Hp.bs (a ++ b) = a.bs ++ b.bs := List.map_append
theorem Frm.perm {w w1 : World} {m m1 : Mem} {b0 : List Nat} {hs hs' : Hp} (h : Frm w w1 m m1 b0 hs.bs) (p : hs.Perm hs') : Frm w w1 m m1 b0 hs'.bs :=
  h.sub fun b hb => ((p.map _).mem_iff).2 hb

section
variable {c : Ctx} {Γ Γ' : Env} {H H' : List Ent} {a : Act} {w : World}
theorem St.pick {e : Ent} (h : St c Γ H a w) (k : Pick H e H') : St c Γ (e :: H') a w := by
  obtain ⟨hd, hn, m, hs, hg, hG, he, hsat, hf⟩ := h
  obtain ⟨h1, h2, hp, p, q⟩ := hsat.pick k
  exact ⟨hd, hn, m, h1 ++ h2, hg.perm hp, hG, he, ⟨h1, h2, rfl, p, q⟩, hf.perm hp⟩
theorem St.drop {e : Ent} (h : St c Γ (e :: H) a w) : St c Γ H a w := by
  obtain ⟨hd, hn, m, hs, hg, hG, he, ⟨h1, h2, rfl, _, q⟩, hf⟩ := h
  exact ⟨hd, hn, m, h2, hg.sub, hG, he, q, hf.sub fun b hb => by rw [Hp.bs_append]; exact List.mem_append.2 (.inr hb)⟩
/-- What of the entities is kept, in which order. -/
inductive Keep : List Ent → List Ent → Prop
  | nil {H : List Ent} : Keep H []
  | cons {H H1 H2 : List Ent} {e : Ent} : Pick H e H1 → Keep H1 H2 → Keep H (e :: H2)
theorem Sat.keep {H H' : List Ent} (k : Keep H H') : ∀ {m : Mem} {hs : Hp}, Sat H m hs → ∃ r hs', hs.Perm (r ++ hs') ∧ Sat H' m hs' := by
  induction k with
  | nil => intro m hs _; exact ⟨hs, [], by simp, rfl⟩
  | cons k _ ih =>
    intro m hs h
    obtain ⟨h1, h2, hp, p, q⟩ := h.pick k
    obtain ⟨r, h3, hp2, q3⟩ := ih q
    refine ⟨r, h1 ++ h3, hp.trans ((List.Perm.append_left h1 hp2).trans ?_), h1, h3, rfl, p, q3⟩
    rw [← List.append_assoc, ← List.append_assoc]
    exact List.Perm.append_right h3 List.perm_append_comm
theorem St.keep (h : St c Γ H a w) (k : Keep H H') : St c Γ H' a w := by
  obtain ⟨hd, hn, m, hs, hg, hG, he, hsat, hf⟩ := h
  obtain ⟨r, hs', hp, q⟩ := hsat.keep k
  have hg' := hg.perm hp
  exact ⟨hd, hn, m, hs', hg'.sub, hG, he, q, (hf.perm hp).sub fun b hb => by rw [Hp.bs_append]; exact List.mem_append.2 (.inr hb)⟩

/-- What of the slots is kept, or said otherwise. -/
def Imp (Γ : Env) (t : Nat) (s : Slot) : Prop := ∀ m a, EnvOK Γ m a → s.p m (a.tmps.getD t undef)
inductive SubE : Env → Env → Prop
  | nil {Γ : Env} : SubE Γ []
  | cons {Γ Γ' : Env} {t : Nat} {s : Slot} : Imp Γ t s → SubE Γ Γ' → SubE Γ ((t, s) :: Γ')
theorem Imp.of_lk {Γ : Env} {t : Nat} {s : Slot} (h : lk Γ t = some s) : Imp Γ t s := fun _ _ e => e t s h
theorem SubE.ok {Γ Γ' : Env} (h : SubE Γ Γ') : ∀ {m : Mem} {a : Act}, EnvOK Γ m a → EnvOK Γ' m a := by
  induction h with
  | nil => intro m a _ t s e; simp [lk] at e
  | @cons Γ' t s h1 _ ih =>
    intro m a he t' s' e
    by_cases ht : t = t'
    · subst ht
      rw [lk_cons_self] at e
      cases e
      exact h1 m a he
    · rw [lk_cons_ne ht] at e
      exact ih he t' s' e
theorem St.sub (h : St c Γ H a w) (k : SubE Γ Γ') : St c Γ' H a w := by
  obtain ⟨hd, hn, m, hs, hg, hG, he, hsat, hf⟩ := h
  exact ⟨hd, hn, m, hs, hg, hG, k.ok he, hsat, hf⟩
end

/-! ## Operations -/
/-- An operation that comes to a value. -/
def Upon (P : Program) (k : Value → World → Prop) : Result Next → Prop
  | .ok (.value v) w => k v w
  | .ok .skip w => k undef w
  | .ok (.enter f args) w => Calls P f args w fun e w' => ∃ v, e = .returned v ∧ k v w'
  | .ok (.round l f tmps assign body) w => RoundIn Fence.wide 0 P l f tmps assign body w fun e w' => ∃ v, e = .returned v ∧ k v w'
  | _ => False
theorem Upon.noDefer {P : Program} {o : Oper} {ρ : Operand → Value} {w : World} {k : Value → World → Prop} (h : Upon P k ((execOp ρ o).run P w)) : ∀ c, o.op ≠ .defer c := by
  intro c hc
  unfold execOp at h
  rw [hc] at h
  simp only [Sem.run_bind] at h
  generalize (resolve ρ c _).run P w = r at h
  cases r with
  | halt x w' => exact h.elim
  | ok d w' => exact h.elim
theorem Upon.wp {P : Program} {r : Option Nat} {o : Oper} {a : Act} {w : World} {k : Value → World → Prop} {K : Act → World → Prop} {Q : Exit → Act → World → Prop}
    (h : Upon P k ((execOp a.eval o).run P w)) (hk : ∀ v w', k v w' → K (a.put o.dst v) w') : o.wpIn (fen r) 0 P a w K Q := by
  refine ⟨fun f _ => fen_fn r f, ?_⟩
  rw [Oper.semAt_eq _ _ _ h.noDefer]
  generalize (execOp a.eval o).run P w = r at h
  cases r with
  | halt x w' => exact h.elim
  | ok n w' =>
    cases n with
    | value v => exact hk _ _ h
    | skip => exact hk _ _ h
    | enter f args =>
      refine ⟨fen_depth _, callsIn_fen.2 (Calls.mono h ?_)⟩
      rintro e w'' ⟨v, rfl, hv⟩
      exact hk _ _ hv
    | round l f tmps assign body =>
      refine ⟨fen_depth _, RoundIn.mono h ?_⟩
      rintro e w'' ⟨v, rfl, hv⟩
      exact hk _ _ hv
    | _ => exact h.elim
theorem Upon.mono {P : Program} {k k' : Value → World → Prop} {r : Result Next} (h : Upon P k r) (hk : ∀ v w, k v w → k' v w) : Upon P k' r := by
  cases r with
  | halt x w' => exact h.elim
  | ok n w' =>
    cases n with
    | value v => exact hk _ _ h
    | skip => exact hk _ _ h
    | enter f args =>
      refine Calls.mono h ?_
      rintro e w'' ⟨v, rfl, hv⟩
      exact ⟨v, rfl, hk _ _ hv⟩
    | round l f tmps assign body =>
      refine RoundIn.mono h ?_
      rintro e w'' ⟨v, rfl, hv⟩
      exact ⟨v, rfl, hk _ _ hv⟩
    | _ => exact h.elim

def Opd (Γ : Env) (m : Mem) (a : Act) : Operand → Prop
  | .tmp t => ∀ s, lk Γ t = some s → s.p m (a.tmps.getD t undef)
  | _ => True
def OpdOK (o : Oper) (Γ : Env) (m : Mem) (a : Act) : Prop := ∀ x ∈ o.op.operands, Opd Γ m a x
theorem EnvOK.opd {Γ : Env} {m : Mem} {a : Act} (h : EnvOK Γ m a) (x : Operand) : Opd Γ m a x := by
  cases x <;> simp only [Opd]
  exact fun s e => h _ s e
def Has (Γ : Env) (x : Operand) (s : Slot) : Prop := ∀ m a, Opd Γ m a x → s.p m (a.eval x)
theorem has_tmp {Γ : Env} {t : Nat} {s : Slot} (h : lk Γ t = some s) : Has Γ (.tmp t) s := fun _ _ k => k s h

/-- AN OPERATION THAT ONLY READS (or makes new memory that stays): it comes to a value of the slot 's', wherever its operands are as Γ says. -/
def PJ (c : Ctx) (o : Oper) (Γ : Env) (H : List Ent) (s : Slot) : Prop :=
  ∀ m hs a w, Good m hs w → c.G.p m → Sat H m hs → OpdOK o Γ m a →
    Upon c.P (fun v w' => ∃ m', Good m' hs w' ∧ s.p m' v ∧ Frm w w' m m' [] []) ((execOp a.eval o).run c.P w)

/-- AN OPERATION OF A STRAIGHT RUN. -/
def OpsJ (c : Ctx) (full : Array Oper) (l : List Oper) (Γ : Env) (H : List Ent) (K : Act → World → Prop) : Prop :=
  ∀ a w Q, (∀ a' w', K a' w' → Q .normal a' w') → St c Γ H a w → wpListIn (fen c.ro) 0 c.P full Q l a w

theorem Sat.frm {H : List Ent} {m m' : Mem} {hs : Hp} {w w' : World} (h : Sat H m hs) (f : Frm w w' m m' [] []) : Sat H m' hs := h.mono f.le
theorem Frm.keepOwn {w w' : World} {m m' : Mem} (f : Frm w w' m m' [] []) (bs : List Nat) : Frm w w' m m' bs bs := by simpa using f.wide bs

section
variable {c : Ctx} {full : Array Oper} {l : List Oper} {Γ Γ' : Env} {H H' : List Ent} {K : Act → World → Prop}
theorem j_pure {o : Oper} {d : Nat} {s : Slot} (h : PJ c o Γ H s) (hg : o.guard = none) (hd : o.dst = some d) (hN : Nat.blt d c.N = true)
    (k : OpsJ c full l ((d, s) :: Γ) H K) : OpsJ c full (o :: l) Γ H K := by
  intro a w Q hQ ⟨hdf, hn, m, hs, hgd, hG, he, hsat, hf⟩
  refine wpListIn_plain hg fun K' hK' => ?_
  refine Upon.wp (h m hs a w hgd hG hsat fun x _ => he.opd x) ?_
  rintro v w' ⟨m', hgd', hv, hfr⟩
  refine hK' _ _ (k _ w' Q hQ ⟨by rw [put_defers]; exact hdf.step hgd (hfr.keepOwn _), by rw [put_size]; exact hn, m', hs, hgd', c.G.mono hfr.le hG, ?_, hsat.frm hfr, hf.trans (hfr.keepOwn _)⟩)
  rw [hd]
  exact (he.mono hfr.le).put (by rw [hn]; simpa [Nat.blt_eq] using hN) hv
theorem j_keepH (h : Keep H H') (k : OpsJ c full l Γ H' K) : OpsJ c full l Γ H K := fun a w Q hQ hst => k a w Q hQ (hst.keep h)
theorem j_sub (h : SubE Γ Γ') (k : OpsJ c full l Γ' H K) : OpsJ c full l Γ H K := fun a w Q hQ hst => k a w Q hQ (hst.sub h)

/-- A guard that says yes. -/
theorem j_guard_yes {o : Oper} {j : Nat} {want : Bool} {t : Nat} {s : Slot} (hg : o.guard = some (j, want)) (hj : (full[j]?).bind (·.dst) = some t) (hN : Nat.blt t c.N = true)
    (hl : lk Γ t = some s) (hb : ∀ m v, s.p m v → v = .bool want)
    (k : OpsJ c full ({ o with guard := none } :: l) Γ H K) : OpsJ c full (o :: l) Γ H K := by
  intro a w Q hQ hst
  have hst' := hst
  obtain ⟨hdf, hn, m, hs, hgd, hG, he, hsat, hf⟩ := hst
  have hv := hb m _ (he t s hl)
  have hlt : t < a.tmps.size := by rw [hn]; simpa [Nat.blt_eq] using hN
  have hy : yielded full a.tmps j = some want := by
    simp only [yielded, hj, Option.bind_some, Array.getElem?_eq_getElem hlt]
    simp only [Array.getD, hlt, dite_true] at hv
    simp only [Array.getInternal_eq_getElem] at hv
    rw [hv]
  have hk := k a w Q hQ hst'
  have hw : Region.wanted o (yielded full a.tmps) = true := by simp [Region.wanted, hg, hy]
  have hw' : Region.wanted { o with guard := none } (yielded full a.tmps) = true := rfl
  simp only [wpListIn, hw, hw', if_true] at hk ⊢
  exact hk
end

/-! ## Code -/
section
variable {c : Ctx} {Γ Γ' : Env} {H H' : List Ent} {a : Act} {w : World} {Q : Exit → Act → World → Prop}
end

/-! ## Contracts -/
def All2 (m : Mem) : List Slot → List Value → Prop
  | [], vs => vs = []
  | s :: ss, vs => ∃ v vs', vs = v :: vs' ∧ s.p m v ∧ All2 m ss vs'
theorem All2.mono {m m' : Mem} (hm : Mle m m') : ∀ {ss : List Slot} {vs : List Value}, All2 m ss vs → All2 m' ss vs
  | [], _, h => h
  | s :: _, _, ⟨v, vs', e, p, q⟩ => ⟨v, vs', e, s.mono hm p, All2.mono hm q⟩
/-- A FUNCTION's CONTRACT. -/
def Ctr (P : Program) (G : GP) (f : FuncId) (A : List Slot) (E : List Ent) {ι : Type} (ρ : ι → Slot) (ε : ι → List Ent) : Prop :=
  ∀ m w vs hs, Good m hs w → G.p m → All2 m A vs → Sat E m hs →
    Calls P f vs.toArray w fun e w' => ∃ v m' hs' i, e = .returned v ∧ Good m' hs' w' ∧ (ρ i).p m' v ∧ Sat (ε i) m' hs' ∧ Frm w w' m m' hs.bs hs'.bs

/-- What stands behind a body's walk. -/
def Post (c : Ctx) {ι : Type} (ρ : ι → Slot) (ε : ι → List Ent) (e : Ending) (w' : World) : Prop :=
  ∃ v m' hs' i, e = .returned v ∧ Good m' hs' w' ∧ (ρ i).p m' v ∧ Sat (ε i) m' hs' ∧ Frm c.w0 w' c.m0 m' c.b0 hs'.bs
def envOf : Nat → List Slot → Env
  | _, [] => []
  | k, s :: ss => (k, s) :: envOf (k + 1) ss
theorem lk_envOf {m : Mem} : ∀ (ss : List Slot) (k : Nat) (vs pre post : List Value), All2 m ss vs → pre.length = k →
    ∀ t s, lk (envOf k ss) t = some s → s.p m ((pre ++ vs ++ post).toArray.getD t undef)
  | [], _, _, _, _, _, _, _, _, e => by simp [envOf, lk] at e
  | s0 :: ss, k, vs, pre, post, ⟨v, vs', hvs, p, q⟩, hk, t, s, e => by
    subst hvs
    by_cases ht : k = t
    · subst ht
      simp only [envOf, lk_cons_self] at e
      cases e
      have : (pre ++ (v :: vs') ++ post).toArray.getD k undef = v := by
        simp [Array.getD, ← hk]
      rw [this]; exact p
    · simp only [envOf] at e
      rw [lk_cons_ne ht] at e
      have := lk_envOf ss (k + 1) vs' (pre ++ [v]) post q (by simp [hk]) t s e
      simpa using this
theorem All2.length {m : Mem} : ∀ {ss : List Slot} {vs : List Value}, All2 m ss vs → vs.length = ss.length
  | [], _, h => by cases h; rfl
  | _ :: _, _, ⟨_, _, e, _, q⟩ => by subst e; simp [q.length]
theorem ctr_of_body {P : Program} {G : GP} {f : FuncId} {fn : Func} {code : Code} {N : Nat} {A : List Slot} {E : List Ent} {ι : Type} {ρ : ι → Slot} {ε : ι → List Ent}
    (hf : P.funcs[f]? = some fn) (hb : fn.body = some code) (hN : fn.ntmps = N) (hA : Nat.ble A.length N = true)
    (h : ∀ c : Ctx, c.P = P → c.N = N → c.G = G → c.ro = none → c.mm = false → ∀ a w, St c (envOf 0 A) E a w → code.wpIn (fen none) 0 P (bodyPost P fn (Post c ρ ε)) a w) : Ctr P G f A E ρ ε := by
  intro m w vs hs hg hG hvs hsat
  have hst : St ⟨P, N, G, m, w, hs.bs, none, false⟩ (envOf 0 A) E { tmps := vs.toArray ++ Array.replicate (fn.ntmps - vs.toArray.size) undef, defers := [] } w := by
    refine ⟨rfl, ?_, m, hs, hg, hG, ?_, hsat, Frm.refl _ _ _⟩
    · have := hvs.length
      simp only [Array.size_append, List.size_toArray, Array.size_replicate, hN, this]
      have := Nat.ble_eq ▸ hA
      omega
    · intro t s e
      have := lk_envOf A 0 vs [] (List.replicate (fn.ntmps - vs.toArray.size) undef) hvs rfl t s e
      have e2 : (([] : List Value) ++ vs ++ List.replicate (fn.ntmps - vs.toArray.size) undef).toArray = vs.toArray ++ Array.replicate (fn.ntmps - vs.toArray.size) undef := by simp
      rw [e2] at this
      exact this
  have hw := h ⟨P, N, G, m, w, hs.bs, none, false⟩ rfl rfl rfl rfl rfl _ w hst
  have hc := calls_of_wp (R := Post ⟨P, N, G, m, w, hs.bs, none, false⟩ ρ ε) hf hb (wpIn_wide.1 hw)
  refine hc.mono ?_
  intro e w' hp
  exact hp

end Go.Sl
