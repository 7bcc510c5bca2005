import Derived.WalkKit
import Derived.RangeFuncKeeps
import Derived.OrdersIn
import Derived.LoopNIn
import Derived.DefersIn
import Derived.Orders
/-! The words of the models: plain Lean, no program in sight. -/
set_option linter.unusedVariables false
namespace Go.Sl
/-- int's arithmetic wraps. -/
def w64 (n : Int) : Int := (n + 9223372036854775808) % 18446744073709551616 - 9223372036854775808
theorem w64_eq {n : Int} (h : -9223372036854775808 ≤ n ∧ n < 9223372036854775808) : w64 n = n := by unfold w64; omega
def iand (p q : Int) : Int := w64 ((BitVec.ofInt 64 p &&& BitVec.ofInt 64 q).toNat : Int)
def ixor (p q : Int) : Int := w64 ((BitVec.ofInt 64 p ^^^ BitVec.ofInt 64 q).toNat : Int)
def ishl (p : Int) (n : Int) : Int := w64 (p * 2 ^ (min n.toNat 64))
def ishr (p : Int) (n : Int) : Int := p.fdiv (2 ^ (min n.toNat 64))
def lget {α : Type} (l : List α) (i : Int) : Option α := if 0 ≤ i then l[i.toNat]? else none
def vget {α : Type} {n : Nat} (v : Vector α n) (i : Int) : Option α := if 0 ≤ i then v[i.toNat]? else none
def lslice {α : Type} (l : List α) (lo hi : Int) : Option (List α) := if 0 ≤ lo ∧ lo ≤ hi ∧ hi ≤ l.length then some ((l.take hi.toNat).drop lo.toNat) else none
/-- A slice to (a pointer to) an array. -/
def toVec {α : Type} (n : Nat) (l : List α) (h : n ≤ l.length) : Vector α n := ⟨(l.take n).toArray, by simp [Nat.min_eq_left h]⟩
theorem toVec_toList {α : Type} (n : Nat) (l : List α) (h : n ≤ l.length) : (toVec n l h).toList = l.take n := by simp [toVec]
def toVecO {α : Type} (n : Nat) (l : List α) : Option (Vector α n) := if h : n ≤ l.length then some (toVec n l h) else none
/-- What a copy into an array leaves. -/
def vput {α : Type} {n : Nat} (v : Vector α n) (lo : Nat) (l : List α) : Vector α n :=
  if h : lo + l.length ≤ n then ⟨(v.toList.take lo ++ l ++ v.toList.drop (lo + l.length)).toArray, by simp; omega⟩ else v
theorem vput_toList {α : Type} {n : Nat} (v : Vector α n) (lo : Nat) (l : List α) (h : lo + l.length ≤ n) : (vput v lo l).toList = v.toList.take lo ++ l ++ v.toList.drop (lo + l.length) := by
  unfold vput; rw [dif_pos h]; simp
inductive LR (σ ρ : Type) where
  | next (s : σ)
  | brk (s : σ)
  | ret (r : ρ)
def loopO {σ ρ : Type} (f : σ → Option (LR σ ρ)) : Nat → σ → Option (σ ⊕ ρ)
  | 0, _ => none
  | n + 1, s => match f s with
    | none => none
    | some (.next s') => loopO f n s'
    | some (.brk s') => some (.inl s')
    | some (.ret r) => some (.inr r)
/-- A loop that never returns. -/
def loopS {σ : Type} (f : σ → Option (LR σ Empty)) (n : Nat) (s : σ) : Option σ :=
  match loopO f n s with
  | none => none
  | some (.inl s') => some s'
  | some (.inr e) => e.elim
theorem loopS_some {σ : Type} {f : σ → Option (LR σ Empty)} {n : Nat} {s s' : σ} (h : loopS f n s = some s') : ∃ o, loopO f n s = some o ∧ o = .inl s' := by
  unfold loopS at h
  split at h
  · cases h
  · rename_i s2 he; cases h; exact ⟨_, he, rfl⟩
  · rename_i e _; exact e.elim
/-- How many rounds a loop may go: more than any goes. -/
def FU : Nat := 4611686018427387904
/-- Room for what an append makes. -/
def AP : Nat := 4294967296
theorem bind_some {α β : Type} {o : Option α} {f : α → Option β} {r : β} (h : Option.bind o f = some r) : ∃ x, o = some x ∧ f x = some r := Option.bind_eq_some_iff.1 h
theorem grd_some {α : Type} {c : Prop} [Decidable c] {x : Option α} {r : α} (h : (if c then x else none) = some r) : c ∧ x = some r := by
  by_cases hc : c
  · rw [if_pos hc] at h; exact ⟨hc, h⟩
  · rw [if_neg hc] at h; cases h
theorem bt {α : Type} {b : Bool} {x y r : α} (hb : b = true) (h : (if b = true then x else y) = r) : x = r := by rwa [if_pos hb] at h
theorem bf {α : Type} {b : Bool} {x y r : α} (hb : b = false) (h : (if b = true then x else y) = r) : y = r := by rwa [if_neg (by rw [hb]; decide)] at h
theorem lget_some {α : Type} {l : List α} {i : Int} {x : α} (h : lget l i = some x) : 0 ≤ i ∧ ∃ hi : i.toNat < l.length, l[i.toNat] = x := by
  unfold lget at h
  split at h
  · rename_i h0; obtain ⟨h1, h2⟩ := List.getElem?_eq_some_iff.1 h; exact ⟨h0, h1, h2⟩
  · cases h
theorem vget_some {α : Type} {n : Nat} {v : Vector α n} {i : Int} {x : α} (h : vget v i = some x) : 0 ≤ i ∧ ∃ hi : i.toNat < n, v[i.toNat] = x := by
  unfold vget at h
  split at h
  · rename_i h0; obtain ⟨h1, h2⟩ := Vector.getElem?_eq_some_iff.1 h; exact ⟨h0, h1, h2⟩
  · cases h
theorem lslice_some {α : Type} {l r : List α} {lo hi : Int} (h : lslice l lo hi = some r) : 0 ≤ lo ∧ lo ≤ hi ∧ hi ≤ l.length ∧ (l.take hi.toNat).drop lo.toNat = r := by
  obtain ⟨⟨h0, h1, h2⟩, h3⟩ := grd_some h
  exact ⟨h0, h1, h2, Option.some.inj h3⟩
theorem toVecO_some {α : Type} {n : Nat} {l : List α} {v : Vector α n} (h : toVecO n l = some v) : ∃ hl : n ≤ l.length, toVec n l hl = v := by
  unfold toVecO at h
  split at h
  · rename_i hl; exact ⟨hl, Option.some.inj h⟩
  · cases h
end Go.Sl
set_option linter.unusedSimpArgs false
namespace Go.Sl

/-! ## Memory that stays -/
abbrev Mem := Nat → Nat → Option Value
def Mle (m m' : Mem) : Prop := ∀ b o v, m b o = some v → m' b o = some v
theorem Mle.refl (m : Mem) : Mle m m := fun _ _ _ h => h
theorem Mle.trans {a b c : Mem} (h : Mle a b) (k : Mle b c) : Mle a c := fun _ _ _ e => k _ _ _ (h _ _ _ e)

structure Slot where
  p : Mem → Value → Prop
  mono : ∀ {m m' : Mem} {v : Value}, Mle m m' → p m v → p m' v

abbrev Env := List (Nat × Slot)
def lk : Env → Nat → Option Slot
  | [], _ => none
  | (t', s) :: Γ, t => bif Nat.beq t' t then some s else lk Γ t
def EnvOK (Γ : Env) (m : Mem) (a : Act) : Prop := ∀ t s, lk Γ t = some s → s.p m (a.tmps.getD t undef)

abbrev Hp := List (Nat × TypeId × List Value)
def Hp.bs (hs : Hp) : List Nat := hs.map (·.1)
structure Ent where
  p : Mem → Hp → Prop
  mono : ∀ {m m' : Mem} {h : Hp}, Mle m m' → p m h → p m' h
def Sat : List Ent → Mem → Hp → Prop
  | [], _, hs => hs = []
  | e :: es, m, hs => ∃ h1 h2, hs = h1 ++ h2 ∧ e.p m h1 ∧ Sat es m h2
theorem Sat.mono {m m' : Mem} (hm : Mle m m') : ∀ {H : List Ent} {hs : Hp}, Sat H m hs → Sat H m' hs
  | [], _, h => h
  | _ :: _, _, ⟨h1, h2, e, p, q⟩ => ⟨h1, h2, e, Ent.mono _ hm p, Sat.mono hm q⟩
theorem Sat.append {m : Mem} : ∀ {H1 H2 : List Ent} {h1 h2 : Hp}, Sat H1 m h1 → Sat H2 m h2 → Sat (H1 ++ H2) m (h1 ++ h2)
  | [], _, _, _, h, k => by cases h; simpa using k
  | e :: _, _, _, _, ⟨a, b, he, p, q⟩, k => ⟨a, b ++ _, by simp [he], p, Sat.append q k⟩
theorem Sat.split {m : Mem} : ∀ {H1 H2 : List Ent} {hs : Hp}, Sat (H1 ++ H2) m hs → ∃ h1 h2, hs = h1 ++ h2 ∧ Sat H1 m h1 ∧ Sat H2 m h2
  | [], _, hs, h => ⟨[], hs, rfl, rfl, h⟩
  | e :: _, _, _, ⟨a, b, he, p, q⟩ => by
    obtain ⟨c, d, hb, r, s⟩ := Sat.split q
    exact ⟨a ++ c, d, by simp [he, hb], ⟨a, c, rfl, p, r⟩, s⟩

structure Good (m : Mem) (hs : Hp) (w : World) : Prop where
  mem : ∀ b o v, m b o = some v → w.cell? ⟨b, o, none⟩ = some v
  nodup : hs.bs.Nodup
  blk : ∀ h ∈ hs, w.heap[h.1]? = some (.cells h.2.2.toArray h.2.1 (0, 0))
  free : ∀ h ∈ hs, ∀ o, m h.1 o = none
/-- w' is w but for the blocks 'bs' and new ones. -/
structure Frm (w w' : World) (m m' : Mem) (bs bs' : List Nat) : Prop where
  os : w'.os = w.os
  tape : w'.tape = w.tape
  output : w'.output = w.output
  size : w.heap.size ≤ w'.heap.size
  old : ∀ b, b < w.heap.size → b ∉ bs → w'.heap[b]? = w.heap[b]? ∧ ∀ o, m' b o = m b o
  own : ∀ b ∈ bs', b ∈ bs ∨ w.heap.size ≤ b
  le : Mle m m'
theorem Frm.refl (w : World) (m : Mem) (bs : List Nat) : Frm w w m m bs bs := ⟨rfl, rfl, rfl, Nat.le_refl _, fun _ _ _ => ⟨rfl, fun _ => rfl⟩, fun _ h => .inl h, Mle.refl _⟩
theorem Frm.trans {w w1 w2 : World} {m m1 m2 : Mem} {b0 b1 b2 : List Nat} (h : Frm w w1 m m1 b0 b1) (k : Frm w1 w2 m1 m2 b1 b2) : Frm w w2 m m2 b0 b2 where
  os := k.os.trans h.os
  tape := k.tape.trans h.tape
  output := k.output.trans h.output
  size := Nat.le_trans h.size k.size
  old := fun b hb hn => by
    have h1 := h.old b hb hn
    have hn1 : b ∉ b1 := fun e => (h.own b e).elim hn (fun e' => absurd hb (Nat.not_lt.2 e'))
    have h2 := k.old b (Nat.lt_of_lt_of_le hb h.size) hn1
    exact ⟨h2.1.trans h1.1, fun o => (h2.2 o).trans (h1.2 o)⟩
  own := fun b hb => (k.own b hb).elim (h.own b) (fun e => .inr (Nat.le_trans h.size e))
  le := h.le.trans k.le
theorem Frm.sub {w w1 : World} {m m1 : Mem} {b0 b1 b2 : List Nat} (h : Frm w w1 m m1 b0 b1) (k : ∀ b ∈ b2, b ∈ b1) : Frm w w1 m m1 b0 b2 :=
  { h with own := fun b hb => h.own b (k b hb) }
/-- A frame around: blocks that are owned besides. -/
theorem Frm.wide {w w1 : World} {m m1 : Mem} {b0 b1 : List Nat} (r : List Nat) (h : Frm w w1 m m1 b0 b1) : Frm w w1 m m1 (b0 ++ r) (b1 ++ r) :=
  { h with
    old := fun b hb hn => h.old b hb (fun e => hn (List.mem_append.2 (.inl e)))
    own := fun b hb => (List.mem_append.1 hb).elim (fun e => (h.own b e).imp (fun e => List.mem_append.2 (.inl e)) id) (fun e => .inl (List.mem_append.2 (.inr e))) }

structure GP where
  p : Mem → Prop
  mono : ∀ {m m' : Mem}, Mle m m' → p m → p m'
structure Ctx where
  P : Program
  N : Nat
  G : GP
  m0 : Mem
  w0 : World
  b0 : List Nat
  ro : Option Nat := none
  mm : Bool := false
/-- The fence of a plain activation, or of a loop's round. -/
def fen (r : Option Nat) : Fence := { Fence.wide with round := r }
theorem fen_fn (r : Option Nat) (f : FuncId) : (fen r).fn f := trivial
theorem fen_depth (r : Option Nat) : (fen r).depth.isSome = true → 1 ≤ 0 := fun h => by cases h
theorem callsIn_fen {r : Option Nat} {n : Nat} {P : Program} {f : FuncId} {args : Array Value} {w : World} {R : Ending → World → Prop} : CallsIn (fen r) n P f args w R ↔ Calls P f args w R := callsIn_wide (n := n)

/-- The marks that loops over functions have left among the deferred calls ('mm': there may be such). -/
abbrev coll (D : Nat) : Deferred := ⟨.collected D, #[]⟩
def Dfr (c : Ctx) (ds : List Deferred) (w : World) : Prop :=
  match c.mm with
  | false => ds = []
  | true => ∃ Ds : List Nat, ds = Ds.map coll ∧ Ds.Nodup ∧ ∀ D ∈ Ds, c.w0.heap.size ≤ D ∧ w.heap[D]? = some (.deferred (some []))
theorem Good.neD {m : Mem} {hs : Hp} {w : World} (hg : Good m hs w) {l : Nat} {o : Obj} (ho : w.heap[l]? = some o) (hc : o.isCells = false) : l ∉ hs.bs := by
  intro h
  obtain ⟨x, hx, rfl⟩ := List.mem_map.1 h
  have := hg.blk x hx
  rw [ho] at this
  have := Option.some.inj this
  subst this
  cases hc
theorem Dfr.step {c : Ctx} {ds : List Deferred} {w w' : World} {m m' : Mem} {hs : Hp} {bs : List Nat} (h : Dfr c ds w) (hg : Good m hs w) (hf : Frm w w' m m' hs.bs bs) : Dfr c ds w' := by
  unfold Dfr at *
  cases hm : c.mm with
  | false => rw [hm] at h; exact h
  | true =>
    rw [hm] at h
    obtain ⟨Ds, e, hn, hD⟩ := h
    refine ⟨Ds, e, hn, fun D hd => ⟨(hD D hd).1, ?_⟩⟩
    have h1 := (hD D hd).2
    exact (hf.old D (Array.getElem?_eq_some_iff.1 h1).1 (hg.neD h1 rfl)).1.trans h1
theorem Dfr.none {c : Ctx} {ds : List Deferred} {w : World} (h : Dfr c ds w) (hm : c.mm = false) : ds = [] := by
  unfold Dfr at h; rw [hm] at h; exact h
def St (c : Ctx) (Γ : Env) (H : List Ent) (a : Act) (w : World) : Prop :=
  Dfr c a.defers w ∧ a.tmps.size = c.N ∧ ∃ m hs, Good m hs w ∧ c.G.p m ∧ EnvOK Γ m a ∧ Sat H m hs ∧ Frm c.w0 w c.m0 m c.b0 hs.bs

/-! ## Moves of the state that cost nothing -/
theorem EnvOK.mono {Γ : Env} {m m' : Mem} {a : Act} (hm : Mle m m') (h : EnvOK Γ m a) : EnvOK Γ m' a := fun t s e => s.mono hm (h t s e)
theorem lk_cons_self (d : Nat) (s : Slot) (Γ : Env) : lk ((d, s) :: Γ) d = some s := by simp [lk]
theorem lk_cons_ne {d t : Nat} (h : d ≠ t) (s : Slot) (Γ : Env) : lk ((d, s) :: Γ) t = lk Γ t := by
  show (bif Nat.beq d t then some s else lk Γ t) = lk Γ t
  cases hb : Nat.beq d t
  · rfl
  · exact absurd (Nat.eq_of_beq_eq_true hb) h
theorem put_getD_self {a : Act} {d : Nat} {v : Value} (h : d < a.tmps.size) : (a.put (some d) v).tmps.getD d undef = v := by
  simp [Act.put, Array.getD, h]
theorem put_getD_ne {a : Act} {d t : Nat} {v : Value} (h : d ≠ t) : (a.put (some d) v).tmps.getD t undef = a.tmps.getD t undef := by
  simp only [Act.put, Array.getD]
  by_cases ht : t < a.tmps.size
  · simp [ht, Array.getElem_setIfInBounds, h]
  · simp [ht]
theorem EnvOK.put {Γ : Env} {m : Mem} {a : Act} {d : Nat} {s : Slot} {v : Value} (h : EnvOK Γ m a) (hd : d < a.tmps.size) (hv : s.p m v) :
    EnvOK ((d, s) :: Γ) m (a.put (some d) v) := by
  intro t s' e
  by_cases ht : d = t
  · subst ht
    rw [lk_cons_self] at e
    cases e
    rw [put_getD_self hd]
    exact hv
  · rw [lk_cons_ne ht] at e
    rw [put_getD_ne ht]
    exact h t s' e
theorem put_size (a : Act) (d : Option Nat) (v : Value) : (a.put d v).tmps.size = a.tmps.size := by
  cases d <;> simp [Act.put]
theorem put_defers (a : Act) (d : Option Nat) (v : Value) : (a.put d v).defers = a.defers := by
  cases d <;> simp [Act.put]
inductive Pick {α : Type} : List α → α → List α → Prop
  | here {e : α} {t : List α} : Pick (e :: t) e t
  | next {x e : α} {t t' : List α} : Pick t e t' → Pick (x :: t) e (x :: t')
theorem Pick.perm {α : Type} {l : List α} {e : α} {r : List α} (h : Pick l e r) : l.Perm (e :: r) := by
  induction h with
  | here => exact List.Perm.refl _
  | next _ ih => exact (List.Perm.cons _ ih).trans (List.Perm.swap _ _ _)
theorem Sat.pick {m : Mem} {H : List Ent} {e : Ent} {H' : List Ent} (k : Pick H e H') : ∀ {hs : Hp}, Sat H m hs → ∃ h1 h2, hs.Perm (h1 ++ h2) ∧ e.p m h1 ∧ Sat H' m h2 := by
  induction k with
  | here => intro hs ⟨h1, h2, he, p, q⟩; exact ⟨h1, h2, he ▸ List.Perm.refl _, p, q⟩
  | next _ ih =>
    intro hs ⟨h1, h2, he, p, q⟩
    obtain ⟨g1, g2, hp, r, s⟩ := ih q
    refine ⟨g1, h1 ++ g2, ?_, r, h1, g2, rfl, p, s⟩
    rw [he]
    exact ((List.Perm.append_left h1 hp).trans (by rw [← List.append_assoc, ← List.append_assoc]; exact List.Perm.append_right g2 List.perm_append_comm))
theorem Good.perm {m : Mem} {hs hs' : Hp} {w : World} (h : Good m hs w) (p : hs.Perm hs') : Good m hs' w where
  mem := h.mem
  nodup := (p.map _).nodup_iff.1 h.nodup
  blk := fun x hx => h.blk x (p.mem_iff.2 hx)
  free := fun x hx => h.free x (p.mem_iff.2 hx)
theorem Good.sub {m : Mem} {hs hs' : Hp} {w : World} (h : Good m (hs ++ hs') w) : Good m hs' w where
  mem := h.mem
  nodup := by
    have := h.nodup
    simp only [Hp.bs, List.map_append] at this
    exact (List.nodup_append.1 this).2.1
  blk := fun x hx => h.blk x (List.mem_append.2 (.inr hx))
  free := fun x hx => h.free x (List.mem_append.2 (.inr hx))
theorem Hp.bs_append (a b : Hp) : Hp.bs (a ++ b) = a.bs ++ b.bs := List.map_append
theorem Frm.perm {w w1 : World} {m m1 : Mem} {b0 : List Nat} {hs hs' : Hp} (h : Frm w w1 m m1 b0 hs.bs) (p : hs.Perm hs') : Frm w w1 m m1 b0 hs'.bs :=
  h.sub fun b hb => ((p.map _).mem_iff).2 hb

section
variable {c : Ctx} {Γ Γ' : Env} {H H' : List Ent} {a : Act} {w : World}
theorem St.pick {e : Ent} (h : St c Γ H a w) (k : Pick H e H') : St c Γ (e :: H') a w := by
  obtain ⟨hd, hn, m, hs, hg, hG, he, hsat, hf⟩ := h
  obtain ⟨h1, h2, hp, p, q⟩ := hsat.pick k
  exact ⟨hd, hn, m, h1 ++ h2, hg.perm hp, hG, he, ⟨h1, h2, rfl, p, q⟩, hf.perm hp⟩
theorem St.drop {e : Ent} (h : St c Γ (e :: H) a w) : St c Γ H a w := by
  obtain ⟨hd, hn, m, hs, hg, hG, he, ⟨h1, h2, rfl, _, q⟩, hf⟩ := h
  exact ⟨hd, hn, m, h2, hg.sub, hG, he, q, hf.sub fun b hb => by rw [Hp.bs_append]; exact List.mem_append.2 (.inr hb)⟩
/-- What of the entities is kept, in which order. -/
inductive Keep : List Ent → List Ent → Prop
  | nil {H : List Ent} : Keep H []
  | cons {H H1 H2 : List Ent} {e : Ent} : Pick H e H1 → Keep H1 H2 → Keep H (e :: H2)
theorem Sat.keep {H H' : List Ent} (k : Keep H H') : ∀ {m : Mem} {hs : Hp}, Sat H m hs → ∃ r hs', hs.Perm (r ++ hs') ∧ Sat H' m hs' := by
  induction k with
  | nil => intro m hs _; exact ⟨hs, [], by simp, rfl⟩
  | cons k _ ih =>
    intro m hs h
    obtain ⟨h1, h2, hp, p, q⟩ := h.pick k
    obtain ⟨r, h3, hp2, q3⟩ := ih q
    refine ⟨r, h1 ++ h3, hp.trans ((List.Perm.append_left h1 hp2).trans ?_), h1, h3, rfl, p, q3⟩
    rw [← List.append_assoc, ← List.append_assoc]
    exact List.Perm.append_right h3 List.perm_append_comm
theorem St.keep (h : St c Γ H a w) (k : Keep H H') : St c Γ H' a w := by
  obtain ⟨hd, hn, m, hs, hg, hG, he, hsat, hf⟩ := h
  obtain ⟨r, hs', hp, q⟩ := hsat.keep k
  have hg' := hg.perm hp
  exact ⟨hd, hn, m, hs', hg'.sub, hG, he, q, (hf.perm hp).sub fun b hb => by rw [Hp.bs_append]; exact List.mem_append.2 (.inr hb)⟩

/-- What of the slots is kept, or said otherwise. -/
def Imp (Γ : Env) (t : Nat) (s : Slot) : Prop := ∀ m a, EnvOK Γ m a → s.p m (a.tmps.getD t undef)
inductive SubE : Env → Env → Prop
  | nil {Γ : Env} : SubE Γ []
  | cons {Γ Γ' : Env} {t : Nat} {s : Slot} : Imp Γ t s → SubE Γ Γ' → SubE Γ ((t, s) :: Γ')
theorem Imp.of_lk {Γ : Env} {t : Nat} {s : Slot} (h : lk Γ t = some s) : Imp Γ t s := fun _ _ e => e t s h
theorem SubE.ok {Γ Γ' : Env} (h : SubE Γ Γ') : ∀ {m : Mem} {a : Act}, EnvOK Γ m a → EnvOK Γ' m a := by
  induction h with
  | nil => intro m a _ t s e; simp [lk] at e
  | @cons Γ' t s h1 _ ih =>
    intro m a he t' s' e
    by_cases ht : t = t'
    · subst ht
      rw [lk_cons_self] at e
      cases e
      exact h1 m a he
    · rw [lk_cons_ne ht] at e
      exact ih he t' s' e
theorem St.sub (h : St c Γ H a w) (k : SubE Γ Γ') : St c Γ' H a w := by
  obtain ⟨hd, hn, m, hs, hg, hG, he, hsat, hf⟩ := h
  exact ⟨hd, hn, m, hs, hg, hG, k.ok he, hsat, hf⟩
end

/-! ## Operations -/
/-- An operation that comes to a value. -/
def Upon (P : Program) (k : Value → World → Prop) : Result Next → Prop
  | .ok (.value v) w => k v w
  | .ok .skip w => k undef w
  | .ok (.enter f args) w => Calls P f args w fun e w' => ∃ v, e = .returned v ∧ k v w'
  | .ok (.round l f tmps assign body) w => RoundIn Fence.wide 0 P l f tmps assign body w fun e w' => ∃ v, e = .returned v ∧ k v w'
  | _ => False
theorem Upon.noDefer {P : Program} {o : Oper} {ρ : Operand → Value} {w : World} {k : Value → World → Prop} (h : Upon P k ((execOp ρ o).run P w)) : ∀ c, o.op ≠ .defer c := by
  intro c hc
  unfold execOp at h
  rw [hc] at h
  simp only [Sem.run_bind] at h
  generalize (resolve ρ c _).run P w = r at h
  cases r with
  | halt x w' => exact h.elim
  | ok d w' => exact h.elim
theorem Upon.wp {P : Program} {r : Option Nat} {o : Oper} {a : Act} {w : World} {k : Value → World → Prop} {K : Act → World → Prop} {Q : Exit → Act → World → Prop}
    (h : Upon P k ((execOp a.eval o).run P w)) (hk : ∀ v w', k v w' → K (a.put o.dst v) w') : o.wpIn (fen r) 0 P a w K Q := by
  refine ⟨fun f _ => fen_fn r f, ?_⟩
  rw [Oper.semAt_eq _ _ _ h.noDefer]
  generalize (execOp a.eval o).run P w = r at h
  cases r with
  | halt x w' => exact h.elim
  | ok n w' =>
    cases n with
    | value v => exact hk _ _ h
    | skip => exact hk _ _ h
    | enter f args =>
      refine ⟨fen_depth _, callsIn_fen.2 (Calls.mono h ?_)⟩
      rintro e w'' ⟨v, rfl, hv⟩
      exact hk _ _ hv
    | round l f tmps assign body =>
      refine ⟨fen_depth _, RoundIn.mono h ?_⟩
      rintro e w'' ⟨v, rfl, hv⟩
      exact hk _ _ hv
    | _ => exact h.elim
theorem Upon.mono {P : Program} {k k' : Value → World → Prop} {r : Result Next} (h : Upon P k r) (hk : ∀ v w, k v w → k' v w) : Upon P k' r := by
  cases r with
  | halt x w' => exact h.elim
  | ok n w' =>
    cases n with
    | value v => exact hk _ _ h
    | skip => exact hk _ _ h
    | enter f args =>
      refine Calls.mono h ?_
      rintro e w'' ⟨v, rfl, hv⟩
      exact ⟨v, rfl, hk _ _ hv⟩
    | round l f tmps assign body =>
      refine RoundIn.mono h ?_
      rintro e w'' ⟨v, rfl, hv⟩
      exact ⟨v, rfl, hk _ _ hv⟩
    | _ => exact h.elim

def Opd (Γ : Env) (m : Mem) (a : Act) : Operand → Prop
  | .tmp t => ∀ s, lk Γ t = some s → s.p m (a.tmps.getD t undef)
  | _ => True
def OpdOK (o : Oper) (Γ : Env) (m : Mem) (a : Act) : Prop := ∀ x ∈ o.op.operands, Opd Γ m a x
theorem EnvOK.opd {Γ : Env} {m : Mem} {a : Act} (h : EnvOK Γ m a) (x : Operand) : Opd Γ m a x := by
  cases x <;> simp only [Opd]
  exact fun s e => h _ s e
def Has (Γ : Env) (x : Operand) (s : Slot) : Prop := ∀ m a, Opd Γ m a x → s.p m (a.eval x)
theorem has_tmp {Γ : Env} {t : Nat} {s : Slot} (h : lk Γ t = some s) : Has Γ (.tmp t) s := fun _ _ k => k s h

/-- AN OPERATION THAT ONLY READS (or makes new memory that stays): it comes to a value of the slot 's', wherever its operands are as Γ says. -/
def PJ (c : Ctx) (o : Oper) (Γ : Env) (H : List Ent) (s : Slot) : Prop :=
  ∀ m hs a w, Good m hs w → c.G.p m → Sat H m hs → OpdOK o Γ m a →
    Upon c.P (fun v w' => ∃ m', Good m' hs w' ∧ s.p m' v ∧ Frm w w' m m' [] []) ((execOp a.eval o).run c.P w)

/-- AN OPERATION OF A STRAIGHT RUN. -/
def OpsJ (c : Ctx) (full : Array Oper) (l : List Oper) (Γ : Env) (H : List Ent) (K : Act → World → Prop) : Prop :=
  ∀ a w Q, (∀ a' w', K a' w' → Q .normal a' w') → St c Γ H a w → wpListIn (fen c.ro) 0 c.P full Q l a w

theorem Sat.frm {H : List Ent} {m m' : Mem} {hs : Hp} {w w' : World} (h : Sat H m hs) (f : Frm w w' m m' [] []) : Sat H m' hs := h.mono f.le
theorem Frm.keepOwn {w w' : World} {m m' : Mem} (f : Frm w w' m m' [] []) (bs : List Nat) : Frm w w' m m' bs bs := by simpa using f.wide bs

section
variable {c : Ctx} {full : Array Oper} {l : List Oper} {Γ Γ' : Env} {H H' : List Ent} {K : Act → World → Prop}
theorem j_pure {o : Oper} {d : Nat} {s : Slot} (h : PJ c o Γ H s) (hg : o.guard = none) (hd : o.dst = some d) (hN : Nat.blt d c.N = true)
    (k : OpsJ c full l ((d, s) :: Γ) H K) : OpsJ c full (o :: l) Γ H K := by
  intro a w Q hQ ⟨hdf, hn, m, hs, hgd, hG, he, hsat, hf⟩
  refine wpListIn_plain hg fun K' hK' => ?_
  refine Upon.wp (h m hs a w hgd hG hsat fun x _ => he.opd x) ?_
  rintro v w' ⟨m', hgd', hv, hfr⟩
  refine hK' _ _ (k _ w' Q hQ ⟨by rw [put_defers]; exact hdf.step hgd (hfr.keepOwn _), by rw [put_size]; exact hn, m', hs, hgd', c.G.mono hfr.le hG, ?_, hsat.frm hfr, hf.trans (hfr.keepOwn _)⟩)
  rw [hd]
  exact (he.mono hfr.le).put (by rw [hn]; simpa [Nat.blt_eq] using hN) hv
theorem j_keepH (h : Keep H H') (k : OpsJ c full l Γ H' K) : OpsJ c full l Γ H K := fun a w Q hQ hst => k a w Q hQ (hst.keep h)
theorem j_sub (h : SubE Γ Γ') (k : OpsJ c full l Γ' H K) : OpsJ c full l Γ H K := fun a w Q hQ hst => k a w Q hQ (hst.sub h)

/-- A guard that says yes. -/
theorem j_guard_yes {o : Oper} {j : Nat} {want : Bool} {t : Nat} {s : Slot} (hg : o.guard = some (j, want)) (hj : (full[j]?).bind (·.dst) = some t) (hN : Nat.blt t c.N = true)
    (hl : lk Γ t = some s) (hb : ∀ m v, s.p m v → v = .bool want)
    (k : OpsJ c full ({ o with guard := none } :: l) Γ H K) : OpsJ c full (o :: l) Γ H K := by
  intro a w Q hQ hst
  have hst' := hst
  obtain ⟨hdf, hn, m, hs, hgd, hG, he, hsat, hf⟩ := hst
  have hv := hb m _ (he t s hl)
  have hlt : t < a.tmps.size := by rw [hn]; simpa [Nat.blt_eq] using hN
  have hy : yielded full a.tmps j = some want := by
    simp only [yielded, hj, Option.bind_some, Array.getElem?_eq_getElem hlt]
    simp only [Array.getD, hlt, dite_true] at hv
    simp only [Array.getInternal_eq_getElem] at hv
    rw [hv]
  have hk := k a w Q hQ hst'
  have hw : Region.wanted o (yielded full a.tmps) = true := by simp [Region.wanted, hg, hy]
  have hw' : Region.wanted { o with guard := none } (yielded full a.tmps) = true := rfl
  simp only [wpListIn, hw, hw', if_true] at hk ⊢
  exact hk
end

/-! ## Code -/
section
variable {c : Ctx} {Γ Γ' : Env} {H H' : List Ent} {a : Act} {w : World} {Q : Exit → Act → World → Prop}
end

/-! ## Contracts -/
def All2 (m : Mem) : List Slot → List Value → Prop
  | [], vs => vs = []
  | s :: ss, vs => ∃ v vs', vs = v :: vs' ∧ s.p m v ∧ All2 m ss vs'
theorem All2.mono {m m' : Mem} (hm : Mle m m') : ∀ {ss : List Slot} {vs : List Value}, All2 m ss vs → All2 m' ss vs
  | [], _, h => h
  | s :: _, _, ⟨v, vs', e, p, q⟩ => ⟨v, vs', e, s.mono hm p, All2.mono hm q⟩
/-- A FUNCTION's CONTRACT. -/
def Ctr (P : Program) (G : GP) (f : FuncId) (A : List Slot) (E : List Ent) {ι : Type} (ρ : ι → Slot) (ε : ι → List Ent) : Prop :=
  ∀ m w vs hs, Good m hs w → G.p m → All2 m A vs → Sat E m hs →
    Calls P f vs.toArray w fun e w' => ∃ v m' hs' i, e = .returned v ∧ Good m' hs' w' ∧ (ρ i).p m' v ∧ Sat (ε i) m' hs' ∧ Frm w w' m m' hs.bs hs'.bs

/-- What stands behind a body's walk. -/
def Post (c : Ctx) {ι : Type} (ρ : ι → Slot) (ε : ι → List Ent) (e : Ending) (w' : World) : Prop :=
  ∃ v m' hs' i, e = .returned v ∧ Good m' hs' w' ∧ (ρ i).p m' v ∧ Sat (ε i) m' hs' ∧ Frm c.w0 w' c.m0 m' c.b0 hs'.bs
def envOf : Nat → List Slot → Env
  | _, [] => []
  | k, s :: ss => (k, s) :: envOf (k + 1) ss
theorem lk_envOf {m : Mem} : ∀ (ss : List Slot) (k : Nat) (vs pre post : List Value), All2 m ss vs → pre.length = k →
    ∀ t s, lk (envOf k ss) t = some s → s.p m ((pre ++ vs ++ post).toArray.getD t undef)
  | [], _, _, _, _, _, _, _, _, e => by simp [envOf, lk] at e
  | s0 :: ss, k, vs, pre, post, ⟨v, vs', hvs, p, q⟩, hk, t, s, e => by
    subst hvs
    by_cases ht : k = t
    · subst ht
      simp only [envOf, lk_cons_self] at e
      cases e
      have : (pre ++ (v :: vs') ++ post).toArray.getD k undef = v := by
        simp [Array.getD, ← hk]
      rw [this]; exact p
    · simp only [envOf] at e
      rw [lk_cons_ne ht] at e
      have := lk_envOf ss (k + 1) vs' (pre ++ [v]) post q (by simp [hk]) t s e
      simpa using this
theorem All2.length {m : Mem} : ∀ {ss : List Slot} {vs : List Value}, All2 m ss vs → vs.length = ss.length
  | [], _, h => by cases h; rfl
  | _ :: _, _, ⟨_, _, e, _, q⟩ => by subst e; simp [q.length]
theorem ctr_of_body {P : Program} {G : GP} {f : FuncId} {fn : Func} {code : Code} {N : Nat} {A : List Slot} {E : List Ent} {ι : Type} {ρ : ι → Slot} {ε : ι → List Ent}
    (hf : P.funcs[f]? = some fn) (hb : fn.body = some code) (hN : fn.ntmps = N) (hA : Nat.ble A.length N = true)
    (h : ∀ c : Ctx, c.P = P → c.N = N → c.G = G → c.ro = none → c.mm = false → ∀ a w, St c (envOf 0 A) E a w → code.wpIn (fen none) 0 P (bodyPost P fn (Post c ρ ε)) a w) : Ctr P G f A E ρ ε := by
  intro m w vs hs hg hG hvs hsat
  have hst : St ⟨P, N, G, m, w, hs.bs, none, false⟩ (envOf 0 A) E { tmps := vs.toArray ++ Array.replicate (fn.ntmps - vs.toArray.size) undef, defers := [] } w := by
    refine ⟨rfl, ?_, m, hs, hg, hG, ?_, hsat, Frm.refl _ _ _⟩
    · have := hvs.length
      simp only [Array.size_append, List.size_toArray, Array.size_replicate, hN, this]
      have := Nat.ble_eq ▸ hA
      omega
    · intro t s e
      have := lk_envOf A 0 vs [] (List.replicate (fn.ntmps - vs.toArray.size) undef) hvs rfl t s e
      have e2 : (([] : List Value) ++ vs ++ List.replicate (fn.ntmps - vs.toArray.size) undef).toArray = vs.toArray ++ Array.replicate (fn.ntmps - vs.toArray.size) undef := by simp
      rw [e2] at this
      exact this
  have hw := h ⟨P, N, G, m, w, hs.bs, none, false⟩ rfl rfl rfl rfl rfl _ w hst
  have hc := calls_of_wp (R := Post ⟨P, N, G, m, w, hs.bs, none, false⟩ ρ ε) hf hb (wpIn_wide.1 hw)
  refine hc.mono ?_
  intro e w' hp
  exact hp

end Go.Sl
namespace Go.Sl

structure Rep (α : Type) where
  n : Nat
  ag : Bool
  rel : Mem → List Value → α → Prop
  mono : ∀ {m m' : Mem} {cs : List Value} {x : α}, Mle m m' → rel m cs x → rel m' cs x
  len : ∀ {m : Mem} {cs : List Value} {x : α}, rel m cs x → cs.length = n
  cell : ∀ {m : Mem} {cs : List Value} {x : α}, rel m cs x → ∀ v ∈ cs, v.oneCell' = true
  one : ag = false → n = 1

section
variable {α β : Type}
def Rep.is (R : Rep α) (m : Mem) (v : Value) (x : α) : Prop :=
  match R.ag with
  | true => ∃ cs : List Value, v = .agg cs.toArray ∧ R.rel m cs x
  | false => R.rel m [v] x
theorem Rep.is_mono (R : Rep α) {m m' : Mem} {v : Value} {x : α} (hm : Mle m m') (h : R.is m v x) : R.is m' v x := by
  unfold Rep.is at *
  cases hb : R.ag with
  | true => simp only [hb] at h ⊢; obtain ⟨cs, e, hr⟩ := h; exact ⟨cs, e, R.mono hm hr⟩
  | false => simp only [hb] at h ⊢; exact R.mono hm h
def Rep.slot (R : Rep α) (x : α) : Slot := ⟨fun m v => R.is m v x, fun hm h => R.is_mono hm h⟩
theorem cells_of_one {v : Value} (h : v.oneCell' = true) : v.cells = #[v] := by
  cases v <;> first | rfl | (simp [Value.oneCell'] at h)
theorem Rep.is_cells {R : Rep α} {m : Mem} {v : Value} {x : α} (h : R.is m v x) : ∃ cs : List Value, v.cells = cs.toArray ∧ R.rel m cs x := by
  unfold Rep.is at h
  cases hb : R.ag with
  | true => simp only [hb] at h; obtain ⟨cs, rfl, hr⟩ := h; exact ⟨cs, rfl, hr⟩
  | false => simp only [hb] at h; exact ⟨[v], cells_of_one (R.cell h v (by simp)), h⟩
/-- The value of some cells. -/
def ofCells (ag : Bool) (cs : List Value) : Value :=
  match ag with
  | true => .agg cs.toArray
  | false => cs.headD undef
theorem Rep.is_of {R : Rep α} {m : Mem} {cs : List Value} {x : α} (h : R.rel m cs x) : R.is m (ofCells R.ag cs) x := by
  unfold Rep.is ofCells
  cases hb : R.ag with
  | true => exact ⟨cs, rfl, h⟩
  | false =>
    have := R.len h
    rw [R.one hb] at this
    match cs, this with
    | [v], _ => exact h

/-! ## Rows of cells -/
def RowC (R : Rep α) (m : Mem) : List Value → List α → Prop
  | cs, [] => cs = []
  | cs, x :: xs => ∃ c cs', cs = c ++ cs' ∧ R.rel m c x ∧ RowC R m cs' xs
theorem RowC.mono {R : Rep α} {m m' : Mem} (hm : Mle m m') : ∀ {xs : List α} {cs : List Value}, RowC R m cs xs → RowC R m' cs xs
  | [], _, h => h
  | _ :: _, _, ⟨c, cs', e, p, q⟩ => ⟨c, cs', e, R.mono hm p, RowC.mono hm q⟩
theorem RowC.length {R : Rep α} {m : Mem} : ∀ {xs : List α} {cs : List Value}, RowC R m cs xs → cs.length = xs.length * R.n
  | [], _, h => by simp [RowC] at h; simp [h]
  | _ :: xs, _, ⟨c, cs', e, p, q⟩ => by
    rw [e, List.length_append, R.len p, RowC.length q, List.length_cons, Nat.add_mul, Nat.one_mul, Nat.add_comm]
theorem RowC.cell {R : Rep α} {m : Mem} : ∀ {xs : List α} {cs : List Value}, RowC R m cs xs → ∀ v ∈ cs, v.oneCell' = true
  | [], _, h, v, hv => by simp [RowC] at h; simp [h] at hv
  | _ :: xs, _, ⟨c, cs', e, p, q⟩, v, hv => by
    rw [e, List.mem_append] at hv
    exact hv.elim (R.cell p v) (RowC.cell q v)
theorem RowC.append {R : Rep α} {m : Mem} : ∀ {xs ys : List α} {cs ds : List Value}, RowC R m cs xs → RowC R m ds ys → RowC R m (cs ++ ds) (xs ++ ys)
  | [], _, _, _, h, k => by simp [RowC] at h; simpa [h] using k
  | _ :: _, _, _, _, ⟨c, cs', e, p, q⟩, k => ⟨c, cs' ++ _, by rw [e, List.append_assoc], p, RowC.append q k⟩
theorem RowC.split {R : Rep α} {m : Mem} : ∀ {xs ys : List α} {cs : List Value}, RowC R m cs (xs ++ ys) →
    RowC R m (cs.take (xs.length * R.n)) xs ∧ RowC R m (cs.drop (xs.length * R.n)) ys
  | [], ys, cs, h => by simpa [RowC] using h
  | x :: xs, ys, cs, ⟨c, cs', e, p, q⟩ => by
    have ⟨h1, h2⟩ := RowC.split q
    have hl := R.len p
    have e1 : (x :: xs).length * R.n = c.length + xs.length * R.n := by rw [List.length_cons, Nat.add_mul, hl]; omega
    rw [e1, e]
    refine ⟨⟨c, cs'.take (xs.length * R.n), ?_, p, h1⟩, ?_⟩
    · rw [List.take_append]; simp [List.take_of_length_le]
    · rw [List.drop_append]; simpa [List.drop_of_length_le] using h2
theorem RowC.single {R : Rep α} {m : Mem} {x : α} {cs : List Value} (h : R.rel m cs x) : RowC R m cs [x] := ⟨cs, [], by simp, h, rfl⟩
theorem RowC.of_single {R : Rep α} {m : Mem} {x : α} {cs : List Value} (h : RowC R m cs [x]) : R.rel m cs x := by
  obtain ⟨c, cs', e, p, q⟩ := h
  simp [RowC] at q
  subst q
  simpa [e] using p
theorem list_mid {xs : List α} {i : Nat} (h : i < xs.length) : xs = xs.take i ++ ([xs[i]] ++ xs.drop (i + 1)) := by
  rw [List.singleton_append, ← List.drop_eq_getElem_cons h, List.take_append_drop]
theorem RowC.get {R : Rep α} {m : Mem} {xs : List α} {cs : List Value} {i : Nat} (h : RowC R m cs xs) (hi : i < xs.length) :
    R.rel m ((cs.drop (i * R.n)).take R.n) xs[i] := by
  rw [list_mid hi] at h
  have ⟨_, h2⟩ := RowC.split h
  have ⟨h3, _⟩ := RowC.split h2
  have := h3.of_single
  simpa [Nat.min_eq_left (Nat.le_of_lt hi)] using this
theorem RowC.set {R : Rep α} {m : Mem} {xs : List α} {cs ds : List Value} {i : Nat} {y : α} (h : RowC R m cs xs) (hi : i < xs.length) (hy : R.rel m ds y) :
    RowC R m (cs.take (i * R.n) ++ ds ++ cs.drop (i * R.n + R.n)) (xs.set i y) := by
  have e : xs.set i y = xs.take i ++ ([y] ++ xs.drop (i + 1)) := by
    rw [List.set_eq_take_append_cons_drop, if_pos hi, List.singleton_append]
  rw [e, List.append_assoc]
  rw [list_mid hi] at h
  have ⟨h1, h2⟩ := RowC.split h
  have ⟨_, h4⟩ := RowC.split h2
  have el : (List.take i xs).length = i := by simp [Nat.min_eq_left (Nat.le_of_lt hi)]
  rw [el] at h1 h4
  refine h1.append (RowC.append (RowC.single hy) ?_)
  simpa [List.drop_drop] using h4
theorem RowC.take {R : Rep α} {m : Mem} {xs : List α} {cs : List Value} (k : Nat) (h : RowC R m cs xs) : RowC R m (cs.take (k * R.n)) (xs.take k) := by
  by_cases hk : k ≤ xs.length
  · have h' := h
    rw [← List.take_append_drop k xs] at h'
    have := (RowC.split h').1
    simpa [Nat.min_eq_left hk] using this
  · have hx : xs.take k = xs := List.take_of_length_le (by omega)
    have hl := h.length
    have : cs.take (k * R.n) = cs := List.take_of_length_le (by rw [hl]; exact Nat.mul_le_mul_right _ (by omega))
    rw [hx, this]; exact h
theorem RowC.drop {R : Rep α} {m : Mem} {xs : List α} {cs : List Value} (k : Nat) (h : RowC R m cs xs) : RowC R m (cs.drop (k * R.n)) (xs.drop k) := by
  by_cases hk : k ≤ xs.length
  · have h' := h
    rw [← List.take_append_drop k xs] at h'
    have := (RowC.split h').2
    simpa [Nat.min_eq_left hk] using this
  · have hx : xs.drop k = [] := List.drop_of_length_le (by omega)
    have hl := h.length
    have : cs.drop (k * R.n) = [] := List.drop_of_length_le (by rw [hl]; exact Nat.mul_le_mul_right _ (by omega))
    rw [hx, this]; rfl
/-- Cells that lie in memory that stays. -/
def At (m : Mem) (b o : Nat) (cs : List Value) : Prop := ∀ j v, cs[j]? = some v → m b (o + j) = some v
theorem At.mono {m m' : Mem} {b o : Nat} {cs : List Value} (hm : Mle m m') (h : At m b o cs) : At m' b o cs := fun j v e => hm _ _ _ (h j v e)
theorem At.mid {m : Mem} {b o : Nat} {cs : List Value} (k n : Nat) (h : At m b o cs) : At m b (o + k) ((cs.drop k).take n) := by
  intro j v e
  rw [List.getElem?_take] at e
  split at e
  · rw [List.getElem?_drop] at e
    have := h (k + j) v e
    rwa [← Nat.add_assoc] at this
  · cases e

/-! ## Representations -/
def i64 : Rep Int where
  n := 1
  ag := false
  rel := fun _ cs x => cs = [.int .i64 x]
  mono := fun _ h => h
  len := fun h => by subst h; rfl
  cell := fun h v hv => by subst h; simp at hv; subst hv; rfl
  one := fun _ => rfl
def un (k : IntKind) (w : Nat) : Rep (BitVec w) where
  n := 1
  ag := false
  rel := fun _ cs x => cs = [.int k (x.toNat : Int)]
  mono := fun _ h => h
  len := fun h => by subst h; rfl
  cell := fun h v hv => by subst h; simp at hv; subst hv; rfl
  one := fun _ => rfl
abbrev u8 : Rep (BitVec 8) := un .u8 8
abbrev u32 : Rep (BitVec 32) := un .u32 32
abbrev u64 : Rep (BitVec 64) := un .u64 64
def bl : Rep Bool where
  n := 1
  ag := false
  rel := fun _ cs x => cs = [.bool x]
  mono := fun _ h => h
  len := fun h => by subst h; rfl
  cell := fun h v hv => by subst h; simp at hv; subst hv; rfl
  one := fun _ => rfl
/-- A value that is that very one (a slice of the call's own ..). -/
def exv (v : Value) : Rep Unit where
  n := 1
  ag := false
  rel := fun _ cs _ => cs = [v] ∧ v.oneCell' = true
  mono := fun _ h => h
  len := fun h => by rw [h.1]; rfl
  cell := fun h' v' hv => by rw [h'.1] at hv; simp at hv; subst hv; exact h'.2
  one := fun _ => rfl
def vec (n : Nat) (R : Rep α) : Rep (Vector α n) where
  n := n * R.n
  ag := true
  rel := fun m cs x => RowC R m cs x.toList
  mono := fun hm h => h.mono hm
  len := fun h => by rw [h.length, Vector.length_toList]
  cell := fun h => h.cell
  one := fun h => by cases h
def prod (R : Rep α) (S : Rep β) : Rep (α × β) where
  n := R.n + S.n
  ag := true
  rel := fun m cs x => ∃ c d, cs = c ++ d ∧ R.rel m c x.1 ∧ S.rel m d x.2
  mono := fun hm ⟨c, d, e, p, q⟩ => ⟨c, d, e, R.mono hm p, S.mono hm q⟩
  len := fun ⟨c, d, e, p, q⟩ => by rw [e, List.length_append, R.len p, S.len q]
  cell := fun ⟨c, d, e, p, q⟩ v hv => by rw [e, List.mem_append] at hv; exact hv.elim (R.cell p v) (S.cell q v)
  one := fun h => by cases h
/-- A struct of one field. -/
def only (R : Rep α) : Rep α := { R with ag := true, one := fun h => by cases h }
def sl (R : Rep α) : Rep (List α) where
  n := 1
  ag := false
  rel := fun m cs l => ∃ a cap, cs = [.slice a l.length cap] ∧ l.length ≤ cap ∧ (l = [] ∨ ∃ b o row, a = some ⟨b, o, none⟩ ∧ RowC R m row l ∧ At m b o row)
  mono := fun hm ⟨a, cap, e, hc, h⟩ => ⟨a, cap, e, hc, h.imp id fun ⟨b, o, row, e', p, q⟩ => ⟨b, o, row, e', p.mono hm, q.mono hm⟩⟩
  len := fun ⟨a, cap, e, _, _⟩ => by rw [e]; rfl
  cell := fun ⟨a, cap, e, _, _⟩ v hv => by rw [e] at hv; simp at hv; subst hv; rfl
  one := fun _ => rfl
/-- A pointer to a variable that stays; none: nil. -/
def ptr (R : Rep α) : Rep (Option α) where
  n := 1
  ag := false
  rel := fun m cs x => match x with
    | none => cs = [.pointer none]
    | some y => ∃ b o ds, cs = [.pointer (some ⟨b, o, none⟩)] ∧ R.rel m ds y ∧ At m b o ds
  mono := fun {m m' cs x} hm h => by
    cases x with
    | none => exact h
    | some y => obtain ⟨b, o, ds, e, p, q⟩ := h; exact ⟨b, o, ds, e, R.mono hm p, q.mono hm⟩
  len := fun {m cs x} h => by
    cases x with
    | none => rw [h]; rfl
    | some y => obtain ⟨b, o, ds, e, p, q⟩ := h; rw [e]; rfl
  cell := fun {m cs x} h v hv => by
    cases x with
    | none => rw [h] at hv; simp at hv; subst hv; rfl
    | some y => obtain ⟨b, o, ds, e, p, q⟩ := h; rw [e] at hv; simp at hv; subst hv; rfl
  one := fun _ => rfl

/-! ## Slots -/
def val (v : Value) : Slot := ⟨fun _ u => u = v, fun _ h => h⟩
def any : Slot := ⟨fun _ _ => True, fun _ _ => trivial⟩
/-- The address of a variable that stays. -/
def ptrTo (R : Rep α) (x : α) : Slot where
  p := fun m v => ∃ b o ds, v = .pointer (some ⟨b, o, none⟩) ∧ R.rel m ds x ∧ At m b o ds
  mono := fun hm ⟨b, o, ds, e, p, q⟩ => ⟨b, o, ds, e, R.mono hm p, q.mono hm⟩
def tup (ss : List Slot) : Slot where
  p := fun m v => ∃ vs : List Value, v = .tuple vs.toArray ∧ All2 m ss vs
  mono := fun hm ⟨vs, e, h⟩ => ⟨vs, e, h.mono hm⟩
abbrev ov (v : Value) : Slot := (exv v).slot ()
theorem ov_p {v u : Value} {m : Mem} : (ov v).p m u ↔ u = v ∧ v.oneCell' = true := by simp [Rep.slot, Rep.is, exv]
theorem ov_slice {ad : Option Addr} {n cap : Nat} {m : Mem} : (ov (.slice ad n cap)).p m (.slice ad n cap) := ov_p.2 ⟨rfl, rfl⟩
def Slot.flat (s : Slot) : Prop := ∀ m m' v, s.p m v → s.p m' v
def Rep.flat (R : Rep α) : Prop := ∀ m m' cs x, R.rel m cs x → R.rel m' cs x
theorem Rep.flat_slot {R : Rep α} (h : R.flat) (x : α) : (R.slot x).flat := by
  intro m m' v hv
  simp only [Rep.slot, Rep.is] at *
  cases hb : R.ag with
  | true => simp only [hb] at hv ⊢; obtain ⟨cs, e, hr⟩ := hv; exact ⟨cs, e, h _ _ _ _ hr⟩
  | false => simp only [hb] at hv ⊢; exact h _ _ _ _ hv
theorem flat_i64 : i64.flat := fun _ _ _ _ h => h
theorem flat_un (k : IntKind) (w : Nat) : (un k w).flat := fun _ _ _ _ h => h
theorem flat_bl : bl.flat := fun _ _ _ _ h => h
theorem RowC.flat {R : Rep α} (h : R.flat) {m m' : Mem} : ∀ {xs : List α} {cs : List Value}, RowC R m cs xs → RowC R m' cs xs
  | [], _, k => k
  | _ :: _, _, ⟨c, cs', e, p, q⟩ => ⟨c, cs', e, h _ _ _ _ p, RowC.flat h q⟩
theorem flat_vec {R : Rep α} (n : Nat) (h : R.flat) : (vec n R).flat := fun _ _ _ _ k => k.flat h
theorem flat_exv (v : Value) : (exv v).flat := fun _ _ _ _ h => h
theorem All2.flat {m m' : Mem} : ∀ {ss : List Slot} {vs : List Value}, (∀ s ∈ ss, s.flat) → All2 m ss vs → All2 m' ss vs
  | [], _, _, h => h
  | s :: _, _, hs, ⟨v, vs', e, p, q⟩ => ⟨v, vs', e, hs s (by simp) _ _ _ p, All2.flat (fun s h => hs s (by simp [h])) q⟩
theorem flat_tup {ss : List Slot} (h : ∀ s ∈ ss, s.flat) : (tup ss).flat := fun _ _ _ ⟨vs, e, k⟩ => ⟨vs, e, k.flat h⟩

/-! ## Parts of a variable -/
structure Path (R : Rep α) (off : Nat) (S : Rep β) (get : α → β) (set : α → β → α) : Prop where
  fits : off + S.n ≤ R.n
  get_ok : ∀ {m : Mem} {cs : List Value} {x : α}, R.rel m cs x → S.rel m ((cs.drop off).take S.n) (get x)
  set_ok : ∀ {m : Mem} {cs ds : List Value} {x : α} {y : β}, R.rel m cs x → S.rel m ds y → R.rel m (cs.take off ++ ds ++ cs.drop (off + S.n)) (set x y)
theorem Path.all (R : Rep α) : Path R 0 R (fun x => x) (fun _ y => y) where
  fits := by simp
  get_ok := fun {m cs x} h => by
    have := R.len h
    simpa [List.take_of_length_le (Nat.le_of_eq this)] using h
  set_ok := fun {m cs ds x y} h k => by
    have := R.len h
    simpa [List.drop_of_length_le (Nat.le_of_eq this)] using k
theorem Path.fst (R : Rep α) (S : Rep β) : Path (prod R S) 0 R (fun x => x.1) (fun x y => (y, x.2)) where
  fits := by simp [prod]
  get_ok := fun {m cs x} ⟨c, d, e, p, q⟩ => by
    have := R.len p
    subst e
    simpa [List.take_append, List.take_of_length_le (Nat.le_of_eq this), this] using p
  set_ok := fun {m cs ds x y} ⟨c, d, e, p, q⟩ k => by
    have := R.len p
    subst e
    refine ⟨ds, d, ?_, k, q⟩
    simp [List.drop_append, ← this]
theorem Path.snd (R : Rep α) (S : Rep β) : Path (prod R S) R.n S (fun x => x.2) (fun x y => (x.1, y)) where
  fits := by simp [prod]
  get_ok := fun {m cs x} ⟨c, d, e, p, q⟩ => by
    have h1 := R.len p
    have h2 := S.len q
    subst e
    simpa [List.drop_append, ← h1, List.take_of_length_le (Nat.le_of_eq h2)] using q
  set_ok := fun {m cs ds x y} ⟨c, d, e, p, q⟩ k => by
    have h1 := R.len p
    have h2 := S.len q
    subst e
    refine ⟨c, ds, ?_, p, k⟩
    rw [List.take_append, List.drop_append]
    simp [← h1, ← h2, List.drop_of_length_le]
theorem Path.at (n : Nat) (R : Rep α) (i : Nat) (hi : i < n) : Path (vec n R) (i * R.n) R (fun x => x[i]) (fun x y => x.set i y) where
  fits := by
    show i * R.n + R.n ≤ n * R.n
    calc i * R.n + R.n = (i + 1) * R.n := by rw [Nat.add_mul, Nat.one_mul]
      _ ≤ n * R.n := Nat.mul_le_mul_right _ hi
  get_ok := fun {m cs x} h => by
    have := RowC.get h (i := i) (by simpa using hi)
    simpa using this
  set_ok := fun {m cs ds x y} h k => by
    have := RowC.set (i := i) h (by simpa using hi) k
    show RowC R m _ (x.set i y).toList
    simpa [Vector.toList_set] using this
theorem Path.then {γ : Type} {R : Rep α} {S : Rep β} {T : Rep γ} {o1 o2 : Nat} {g1 : α → β} {s1 : α → β → α} {g2 : β → γ} {s2 : β → γ → β}
    (h : Path R o1 S g1 s1) (k : Path S o2 T g2 s2) : Path R (o1 + o2) T (fun x => g2 (g1 x)) (fun x z => s1 x (s2 (g1 x) z)) where
  fits := by have := h.fits; have := k.fits; omega
  get_ok := fun {m cs x} hr => by
    have := k.get_ok (h.get_ok hr)
    rw [List.drop_take, List.drop_drop, List.take_take] at this
    have hk := k.fits
    rwa [Nat.min_eq_left (by omega)] at this
  set_ok := fun {m cs ds x z} hr hz => by
    have h1 := k.set_ok (h.get_ok hr) hz
    have h2 := h.set_ok hr h1
    have hl := R.len hr
    have hf := h.fits
    have kf := k.fits
    have dl := T.len hz
    have e : cs.take o1 ++ (((cs.drop o1).take S.n).take o2 ++ ds ++ ((cs.drop o1).take S.n).drop (o2 + T.n)) ++ cs.drop (o1 + S.n) = cs.take (o1 + o2) ++ ds ++ cs.drop (o1 + o2 + T.n) := by
      rw [List.take_take, Nat.min_eq_left (by omega), List.take_add]
      have e2 : ((cs.drop o1).take S.n).drop (o2 + T.n) ++ cs.drop (o1 + S.n) = cs.drop (o1 + o2 + T.n) := by
        rw [List.drop_take, List.drop_drop]
        have : cs.drop (o1 + S.n) = (cs.drop (o1 + (o2 + T.n))).drop (S.n - (o2 + T.n)) := by rw [List.drop_drop]; congr 1; omega
        rw [this, List.take_append_drop]
        congr 1; omega
      simp only [List.append_assoc] at *
      rw [e2]
    rw [e] at h2
    exact h2

/-! ## Entities -/
/-- A variable of the call's own. -/
def box (b : Nat) (T : TypeId) (R : Rep α) (x : α) : Ent where
  p := fun m hs => ∃ cs, hs = [(b, T, cs)] ∧ R.rel m cs x
  mono := fun hm ⟨cs, e, h⟩ => ⟨cs, e, R.mono hm h⟩
/-- A slice of the call's own: it may be appended to. 'T': the element's type. -/
def own (T : TypeId) (R : Rep α) (v : Value) (l : List α) : Ent where
  p := fun m hs => (l = [] ∧ hs = [] ∧ ∃ a, v = .slice a 0 0) ∨
    ∃ b cap row spare, v = .slice (some ⟨b, 0, none⟩) l.length cap ∧ hs = [(b, T, row ++ spare)] ∧ RowC R m row l ∧ l.length ≤ cap ∧ (row ++ spare).length = cap * R.n
  mono := fun hm h => h.imp id fun ⟨b, cap, row, spare, e, e', p, q⟩ => ⟨b, cap, row, spare, e, e', p.mono hm, q⟩
theorem own.one {T : TypeId} {R : Rep α} {v : Value} {l : List α} {m : Mem} {hs : Hp} (h : (own T R v l).p m hs) : v.oneCell' = true := by
  rcases h with ⟨rfl, _, a, rfl⟩ | ⟨b, cap, row, spare, rfl, _⟩ <;> rfl
theorem own.shape {T : TypeId} {R : Rep α} {v : Value} {l : List α} {m : Mem} {hs : Hp} (h : (own T R v l).p m hs) : ∃ a cap, v = .slice a l.length cap ∧ l.length ≤ cap := by
  rcases h with ⟨rfl, _, a, rfl⟩ | ⟨b, cap, row, spare, rfl, _, _, hc, _⟩
  · exact ⟨a, 0, rfl, Nat.le_refl _⟩
  · exact ⟨_, cap, rfl, hc⟩
end
end Go.Sl
namespace Go.Sl
/-! ## Integers -/
theorem w64_wrap (n : Int) : IntKind.i64.wrap n = w64 n := IntKind.wrap_i64 n
theorem wrap_un {k : IntKind} {w : Nat} (hk : k.bits = w) (hs : k.signed = false) (n : Int) : k.wrap n = ((BitVec.ofInt w n).toNat : Int) := by
  simp only [IntKind.wrap, hs, Bool.false_and, Bool.false_eq_true, if_false, BitVec.toNat_ofInt, hk]
  rw [Int.toNat_of_nonneg (Int.emod_nonneg _ (by have : (0 : Int) < 2 ^ w := Int.pow_pos (by decide); exact Int.ne_of_gt this))]
  norm_cast
theorem i64_p {x : Int} {m : Mem} {v : Value} : (i64.slot x).p m v ↔ v = .int .i64 x := by simp [Rep.slot, Rep.is, i64]
theorem i64_w {n : Int} {m : Mem} : (i64.slot (w64 n)).p m (.int .i64 (IntKind.i64.wrap n)) := i64_p.2 (by rw [w64_wrap])
theorem un_p {k : IntKind} {w : Nat} {x : BitVec w} {m : Mem} {v : Value} : ((un k w).slot x).p m v ↔ v = .int k (x.toNat : Int) := by simp [Rep.slot, Rep.is, un]
theorem bl_p {x : Bool} {m : Mem} {v : Value} : (bl.slot x).p m v ↔ v = .bool x := by simp [Rep.slot, Rep.is, bl]

section
variable {c : Ctx} {Γ : Env} {H H' : List Ent} {d : Option Tmp} {ty : TypeId} {pos : String} {aft : Array Edge} {g : Option (Nat × Bool)}
theorem has_i64 {n : Int} : Has Γ (.const (.int .i64 n)) (i64.slot n) := fun _ _ _ => i64_p.2 rfl
theorem has_un {k : IntKind} {w : Nat} {n : Int} {x : BitVec w} (h : n = (x.toNat : Int)) : Has Γ (.const (.int k n)) ((un k w).slot x) := fun _ _ _ => un_p.2 (by rw [← h]; rfl)
theorem has_bl {b : Bool} : Has Γ (.const (.bool b)) (bl.slot b) := fun _ _ _ => bl_p.2 rfl
theorem has_val {v : Value} : Has Γ (.const v) (val v) := fun _ _ _ => rfl
theorem has_func {f : FuncId} : Has Γ (.func f) (val (.func (.func f) #[] #[])) := fun _ _ _ => rfl
theorem has_nil {α : Type} {R : Rep α} : Has Γ (.const (.slice none 0 0)) ((sl R).slot []) := fun _ _ _ => ⟨none, 0, rfl, Nat.le_refl _, .inl rfl⟩
theorem has_nilp {α : Type} {R : Rep α} : Has Γ (.const (.pointer none)) ((ptr R).slot none) := fun _ _ _ => rfl
theorem pj_of {o : Oper} {s : Slot} (h : ∀ m hs a w, Good m hs w → c.G.p m → Sat H m hs → OpdOK o Γ m a → ∃ v, (execOp a.eval o).run c.P w = .ok (.value v) w ∧ s.p m v) : PJ c o Γ H s := by
  intro m hs a w hg hG hsat ho
  obtain ⟨v, e, hv⟩ := h m hs a w hg hG hsat ho
  rw [e]
  exact ⟨m, hg, hv, Frm.refl _ _ _⟩
/-- The slot of an outcome may be said otherwise. -/
theorem PJ.imp {o : Oper} {s s' : Slot} (h : PJ c o Γ H s) (k : ∀ m v, s.p m v → s'.p m v) : PJ c o Γ H s' := by
  intro m hs a w hg hG hsat ho
  exact (h m hs a w hg hG hsat ho).mono fun v w' ⟨m', hg', hv, hf⟩ => ⟨m', hg', k _ _ hv, hf⟩
theorem pj_move {x : Operand} {s : Slot} (hx : Has Γ x s) : PJ c ⟨d, .move x, ty, pos, aft, g⟩ Γ H s :=
  pj_of fun m hs a w _ _ _ ho => ⟨_, rfl, hx m a (ho x (by simp [Op.operands]))⟩
theorem pj_assign {x : Operand} {s : Slot} (hx : Has Γ x s) : PJ c ⟨d, .assign x, ty, pos, aft, g⟩ Γ H s :=
  pj_of fun m hs a w _ _ _ ho => ⟨_, rfl, hx m a (ho x (by simp [Op.operands]))⟩
theorem pj_pick {x y z : Operand} {b : Bool} {s t : Slot} (hx : Has Γ x (bl.slot b)) (hy : b = true → Has Γ y s) (hz : b = false → Has Γ z s) :
    PJ c ⟨d, .pick x y z, ty, pos, aft, g⟩ Γ H s := by
  refine pj_of fun m hs a w _ _ _ ho => ?_
  have e := bl_p.1 (hx m a (ho x (by simp [Op.operands])))
  cases b with
  | true => exact ⟨a.eval y, by simp [execOp, e, asBool], hy rfl m a (ho y (by simp [Op.operands]))⟩
  | false => exact ⟨a.eval z, by simp [execOp, e, asBool], hz rfl m a (ho z (by simp [Op.operands]))⟩
theorem pj_bin {op : BinOp} {t yt : TypeId} {x y : Operand} {s1 s2 s : Slot} (hx : Has Γ x s1) (hy : Has Γ y s2)
    (h : ∀ m u v w, s1.p m u → s2.p m v → ∃ r, (do eqGuard op t x y u v; binOp op t u v : Sem Value).run c.P w = .ok r w ∧ s.p m r) :
    PJ c ⟨d, .binOp op t x y yt, ty, pos, aft, g⟩ Γ H s := by
  refine pj_of fun m hs a w _ _ _ ho => ?_
  obtain ⟨r, e, hr⟩ := h m _ _ w (hx m a (ho x (by simp [Op.operands]))) (hy m a (ho y (by simp [Op.operands])))
  refine ⟨r, ?_, hr⟩
  simp only [execOp]
  rw [Sem.run_bind, e]
  rfl
/-! ### int -/
section
variable {t yt : TypeId} {x y : Operand} {p q : Int} (hx : Has Γ x (i64.slot p)) (hy : Has Γ y (i64.slot q))
include hx hy
theorem pj_iadd : PJ c ⟨d, .binOp .add t x y yt, ty, pos, aft, g⟩ Γ H (i64.slot (w64 (p + q))) :=
  pj_bin hx hy fun m u v w hu hv => by cases i64_p.1 hu; cases i64_p.1 hv; exact ⟨_, by simp [eqGuard_add, binOp_add, Op.intArith], i64_w⟩
theorem pj_isub : PJ c ⟨d, .binOp .sub t x y yt, ty, pos, aft, g⟩ Γ H (i64.slot (w64 (p - q))) :=
  pj_bin hx hy fun m u v w hu hv => by cases i64_p.1 hu; cases i64_p.1 hv; exact ⟨_, by simp [eqGuard_sub, binOp_sub, Op.intArith], i64_w⟩
theorem pj_imul : PJ c ⟨d, .binOp .mul t x y yt, ty, pos, aft, g⟩ Γ H (i64.slot (w64 (p * q))) :=
  pj_bin hx hy fun m u v w hu hv => by cases i64_p.1 hu; cases i64_p.1 hv; exact ⟨_, by simp [eqGuard_mul, binOp_mul, Op.intArith], i64_w⟩
theorem pj_iquo (hq : q ≠ 0) : PJ c ⟨d, .binOp .quo t x y yt, ty, pos, aft, g⟩ Γ H (i64.slot (w64 (p.tdiv q))) :=
  pj_bin hx hy fun m u v w hu hv => by cases i64_p.1 hu; cases i64_p.1 hv; exact ⟨_, by simp [eqGuard_quo, binOp_quo, Op.intDiv, hq], i64_w⟩
theorem pj_irem (hq : q ≠ 0) : PJ c ⟨d, .binOp .rem t x y yt, ty, pos, aft, g⟩ Γ H (i64.slot (p.tmod q)) :=
  pj_bin hx hy fun m u v w hu hv => by cases i64_p.1 hu; cases i64_p.1 hv; exact ⟨_, by simp [eqGuard_rem, binOp_rem, Op.intDiv, hq], i64_p.2 rfl⟩
theorem pj_ilss : PJ c ⟨d, .binOp .lss t x y yt, ty, pos, aft, g⟩ Γ H (bl.slot (decide (p < q))) :=
  pj_bin hx hy fun m u v w hu hv => by cases i64_p.1 hu; cases i64_p.1 hv; exact ⟨_, by simp [eqGuard_lss, binOp_lss], bl_p.2 rfl⟩
theorem pj_ileq : PJ c ⟨d, .binOp .leq t x y yt, ty, pos, aft, g⟩ Γ H (bl.slot (decide (p ≤ q))) :=
  pj_bin hx hy fun m u v w hu hv => by cases i64_p.1 hu; cases i64_p.1 hv; exact ⟨_, by simp [eqGuard_leq, binOp_leq], bl_p.2 rfl⟩
theorem pj_igtr : PJ c ⟨d, .binOp .gtr t x y yt, ty, pos, aft, g⟩ Γ H (bl.slot (decide (q < p))) :=
  pj_bin hx hy fun m u v w hu hv => by cases i64_p.1 hu; cases i64_p.1 hv; exact ⟨_, by simp [eqGuard_gtr, binOp_gtr], bl_p.2 rfl⟩
theorem pj_igeq : PJ c ⟨d, .binOp .geq t x y yt, ty, pos, aft, g⟩ Γ H (bl.slot (decide (q ≤ p))) :=
  pj_bin hx hy fun m u v w hu hv => by cases i64_p.1 hu; cases i64_p.1 hv; exact ⟨_, by simp [eqGuard_geq, binOp_geq], bl_p.2 rfl⟩
theorem pj_ieql : PJ c ⟨d, .binOp .eql t x y yt, ty, pos, aft, g⟩ Γ H (bl.slot (decide (p = q))) :=
  pj_bin hx hy fun m u v w hu hv => by cases i64_p.1 hu; cases i64_p.1 hv; exact ⟨_, by simp [eqGuard_at_int, binOp_eql]; rfl, bl_p.2 (by congr 1)⟩
theorem pj_ineq : PJ c ⟨d, .binOp .neq t x y yt, ty, pos, aft, g⟩ Γ H (bl.slot (!decide (p = q))) :=
  pj_bin hx hy fun m u v w hu hv => by cases i64_p.1 hu; cases i64_p.1 hv; exact ⟨_, by simp [eqGuard_at_int, binOp_neq]; rfl, bl_p.2 (by simp [bne]; congr 1)⟩
theorem pj_iand : PJ c ⟨d, .binOp .and t x y yt, ty, pos, aft, g⟩ Γ H (i64.slot (iand p q)) :=
  pj_bin hx hy fun m u v w hu hv => by cases i64_p.1 hu; cases i64_p.1 hv; exact ⟨_, by simp only [Sem.run_bind, eqGuard_at_int, Sem.run_pure, Result.andThen_ok, binOp_and, Op.intBits]; rfl, i64_w⟩
theorem pj_ixor : PJ c ⟨d, .binOp .xor t x y yt, ty, pos, aft, g⟩ Γ H (i64.slot (ixor p q)) :=
  pj_bin hx hy fun m u v w hu hv => by cases i64_p.1 hu; cases i64_p.1 hv; exact ⟨_, by simp only [Sem.run_bind, eqGuard_at_int, Sem.run_pure, Result.andThen_ok, binOp_xor, Op.intBits]; rfl, i64_w⟩
end
/-- A slot that holds an integer of whatever kind. -/
def IsInt (s : Slot) (n : Int) : Prop := ∀ m v, s.p m v → ∃ k, v = .int k n
theorem isInt_i64 {n : Int} : IsInt (i64.slot n) n := fun _ _ h => ⟨_, i64_p.1 h⟩
theorem isInt_un {k : IntKind} {w : Nat} {n : BitVec w} : IsInt ((un k w).slot n) (n.toNat : Int) := fun _ _ h => ⟨_, un_p.1 h⟩
theorem pj_ishl {t yt : TypeId} {x y : Operand} {p q : Int} {s : Slot} (hx : Has Γ x (i64.slot p)) (hy : Has Γ y s) (hs : IsInt s q) (hq : 0 ≤ q) :
    PJ c ⟨d, .binOp .shl t x y yt, ty, pos, aft, g⟩ Γ H (i64.slot (ishl p q)) :=
  pj_bin hx hy fun m u v w hu hv => by
    cases i64_p.1 hu; obtain ⟨k, rfl⟩ := hs m v hv
    have : ¬ q < 0 := by omega
    exact ⟨_, by simp only [Sem.run_bind, eqGuard_at_int, Sem.run_pure, Result.andThen_ok, binOp_shl, Op.shift, this, if_false]; rfl, i64_w⟩
theorem pj_ishr {t yt : TypeId} {x y : Operand} {p q : Int} {s : Slot} (hx : Has Γ x (i64.slot p)) (hy : Has Γ y s) (hs : IsInt s q) (hq : 0 ≤ q) :
    PJ c ⟨d, .binOp .shr t x y yt, ty, pos, aft, g⟩ Γ H (i64.slot (ishr p q)) :=
  pj_bin hx hy fun m u v w hu hv => by
    cases i64_p.1 hu; obtain ⟨k, rfl⟩ := hs m v hv
    have : ¬ q < 0 := by omega
    exact ⟨_, by simp only [Sem.run_bind, eqGuard_at_int, Sem.run_pure, Result.andThen_ok, binOp_shr, Op.shift, this, if_false]; rfl, i64_p.2 rfl⟩
/-! ### unsigned -/
set_option linter.unusedSectionVars false
section
variable {k : IntKind} {b : Nat} {t yt : TypeId} {x y : Operand} {p q : BitVec b} (hk : k.bits = b) (hs : k.signed = false) (hx : Has Γ x ((un k b).slot p)) (hy : Has Γ y ((un k b).slot q))
include hk hs hx hy
theorem pj_uadd : PJ c ⟨d, .binOp .add t x y yt, ty, pos, aft, g⟩ Γ H ((un k b).slot (p + q)) :=
  pj_bin hx hy fun m u v w hu hv => by
    cases un_p.1 hu; cases un_p.1 hv
    refine ⟨_, by simp [eqGuard_add, binOp_add, Op.intArith]; rfl, un_p.2 ?_⟩
    rw [wrap_un hk hs, ← Int.natCast_add, BitVec.ofInt_natCast, BitVec.toNat_ofNat, BitVec.toNat_add]
theorem pj_usub : PJ c ⟨d, .binOp .sub t x y yt, ty, pos, aft, g⟩ Γ H ((un k b).slot (p - q)) :=
  pj_bin hx hy fun m u v w hu hv => by
    cases un_p.1 hu; cases un_p.1 hv
    refine ⟨_, by simp [eqGuard_sub, binOp_sub, Op.intArith]; rfl, un_p.2 ?_⟩
    rw [wrap_un hk hs]; congr 3
    have e : (p.toNat : Int) - q.toNat = (p.toNat : Int) + - q.toNat := by omega
    rw [e, BitVec.ofInt_add, BitVec.ofInt_neg, BitVec.ofInt_natCast, BitVec.ofInt_natCast, BitVec.ofNat_toNat, BitVec.ofNat_toNat, BitVec.setWidth_eq, BitVec.setWidth_eq, BitVec.sub_eq_add_neg]
omit hk hs in
theorem pj_urem (hq : q.toNat ≠ 0) : PJ c ⟨d, .binOp .rem t x y yt, ty, pos, aft, g⟩ Γ H ((un k b).slot (p % q)) :=
  pj_bin hx hy fun m u v w hu hv => by
    cases un_p.1 hu; cases un_p.1 hv
    have : (q.toNat : Int) ≠ 0 := by omega
    refine ⟨_, by simp only [Sem.run_bind, eqGuard_rem, Sem.run_pure, Result.andThen_ok, binOp_rem, Op.intDiv, this, if_false]; rfl, un_p.2 ?_⟩
    rw [← Int.ofNat_tmod]; simp
theorem pj_uand : PJ c ⟨d, .binOp .and t x y yt, ty, pos, aft, g⟩ Γ H ((un k b).slot (p &&& q)) :=
  pj_bin hx hy fun m u v w hu hv => by
    cases un_p.1 hu; cases un_p.1 hv
    subst hk
    refine ⟨_, by simp only [Sem.run_bind, eqGuard_at_int, Sem.run_pure, Result.andThen_ok, binOp_and, Op.intBits]; rfl, un_p.2 ?_⟩
    rw [wrap_un rfl hs]; congr 3; simp
theorem pj_uor : PJ c ⟨d, .binOp .or t x y yt, ty, pos, aft, g⟩ Γ H ((un k b).slot (p ||| q)) :=
  pj_bin hx hy fun m u v w hu hv => by
    cases un_p.1 hu; cases un_p.1 hv
    subst hk
    refine ⟨_, by simp only [Sem.run_bind, eqGuard_at_int, Sem.run_pure, Result.andThen_ok, binOp_or, Op.intBits]; rfl, un_p.2 ?_⟩
    rw [wrap_un rfl hs]; congr 3; simp
theorem pj_uxor : PJ c ⟨d, .binOp .xor t x y yt, ty, pos, aft, g⟩ Γ H ((un k b).slot (p ^^^ q)) :=
  pj_bin hx hy fun m u v w hu hv => by
    cases un_p.1 hu; cases un_p.1 hv
    subst hk
    refine ⟨_, by simp only [Sem.run_bind, eqGuard_at_int, Sem.run_pure, Result.andThen_ok, binOp_xor, Op.intBits]; rfl, un_p.2 ?_⟩
    rw [wrap_un rfl hs]; congr 3; simp
omit hk hs
theorem pj_uneq : PJ c ⟨d, .binOp .neq t x y yt, ty, pos, aft, g⟩ Γ H (bl.slot (!decide (p = q))) :=
  pj_bin hx hy fun m u v w hu hv => by
    cases un_p.1 hu; cases un_p.1 hv
    exact ⟨_, by simp [eqGuard_at_int, binOp_neq]; rfl, bl_p.2 (by congr 1; rw [Bool.eq_iff_iff]; simp [← BitVec.toNat_inj]; omega)⟩
end
theorem pj_ushl {k : IntKind} {b : Nat} {t yt : TypeId} {x y : Operand} {p : BitVec b} {q : Int} {s : Slot} (hk : k.bits = b) (hsg : k.signed = false) (hx : Has Γ x ((un k b).slot p)) (hy : Has Γ y s) (hs : IsInt s q) (hq : 0 ≤ q) :
    PJ c ⟨d, .binOp .shl t x y yt, ty, pos, aft, g⟩ Γ H ((un k b).slot (p <<< q.toNat)) :=
  pj_bin hx hy fun m u v w hu hv => by
    cases un_p.1 hu; obtain ⟨k', rfl⟩ := hs m v hv
    have : ¬ q < 0 := by omega
    refine ⟨_, by simp only [Sem.run_bind, eqGuard_at_int, Sem.run_pure, Result.andThen_ok, binOp_shl, Op.shift, this, if_false]; rfl, un_p.2 ?_⟩
    rw [wrap_un hk hsg, hk]; congr 3
    apply BitVec.eq_of_toNat_eq
    rw [show (2 : Int) ^ min q.toNat b = ((2 ^ min q.toNat b : Nat) : Int) by simp, ← Int.natCast_mul, BitVec.ofInt_natCast, BitVec.toNat_ofNat, BitVec.toNat_shiftLeft, Nat.shiftLeft_eq]
    rcases Nat.le_total q.toNat b with h | h
    · rw [Nat.min_eq_left h]
    · rw [Nat.min_eq_right h, Nat.mul_mod_left]
      have : 2 ^ b ∣ p.toNat * 2 ^ q.toNat := Nat.dvd_mul_left_of_dvd (Nat.pow_dvd_pow 2 h) _
      exact (Nat.mod_eq_zero_of_dvd this).symm
theorem pj_ushr {k : IntKind} {b : Nat} {t yt : TypeId} {x y : Operand} {p : BitVec b} {q : Int} {s : Slot} (hk : k.bits = b) (hx : Has Γ x ((un k b).slot p)) (hy : Has Γ y s) (hs : IsInt s q) (hq : 0 ≤ q) :
    PJ c ⟨d, .binOp .shr t x y yt, ty, pos, aft, g⟩ Γ H ((un k b).slot (p >>> q.toNat)) :=
  pj_bin hx hy fun m u v w hu hv => by
    cases un_p.1 hu; obtain ⟨k', rfl⟩ := hs m v hv
    have : ¬ q < 0 := by omega
    refine ⟨_, by simp only [Sem.run_bind, eqGuard_at_int, Sem.run_pure, Result.andThen_ok, binOp_shr, Op.shift, this, if_false]; rfl, un_p.2 ?_⟩
    rw [hk]; congr 1
    rw [show (2 : Int) ^ min q.toNat b = ((2 ^ min q.toNat b : Nat) : Int) by simp, BitVec.toNat_ushiftRight, Nat.shiftRight_eq_div_pow]
    rw [Int.fdiv_eq_ediv_of_nonneg _ (Int.natCast_nonneg _)]
    rw [← Int.natCast_ediv]; congr 1
    rcases Nat.le_total q.toNat b with h | h
    · rw [Nat.min_eq_left h]
    · rw [Nat.min_eq_right h, Nat.div_eq_of_lt p.isLt, Nat.div_eq_of_lt (Nat.lt_of_lt_of_le p.isLt (Nat.pow_le_pow_right (by decide) h))]
/-! ### bool -/
theorem pj_not {x : Operand} {b : Bool} {t : TypeId} (hx : Has Γ x (bl.slot b)) : PJ c ⟨d, .unOp .not t x, ty, pos, aft, g⟩ Γ H (bl.slot (!b)) :=
  pj_of fun m hs a w _ _ _ ho => by
    have e := bl_p.1 (hx m a (ho x (by simp [Op.operands])))
    exact ⟨.bool (!b), by simp [execOp, e, Op.unary], bl_p.2 rfl⟩
/-! ### conversions -/
def intB (P : Program) (src dst : TypeId) (k : IntKind) : Bool :=
  (P.underlying src).isSome && (match P.underlying dst with | some (.int k') => k' == k | _ => false)
theorem intB_dst {P : Program} {src dst : TypeId} {k : IntKind} (h : intB P src dst k = true) : P.underlying dst = some (.int k) ∧ (P.underlying src).isSome = true := by
  simp only [intB, Bool.and_eq_true] at h
  obtain ⟨h1, h2⟩ := h
  refine ⟨?_, h1⟩
  split at h2
  · rename_i k' e; have : k' = k := by simpa using h2
    rw [e, this]
  · cases h2
theorem run_convert_k {P : Program} {src dst : TypeId} {k k' : IntKind} (h : intB P src dst k = true) (n : Int) (w : World) : (convert src dst (.int k' n)).run P w = .ok (.int k (k.wrap n)) w := by
  obtain ⟨h1, h2⟩ := intB_dst h
  obtain ⟨ds, hs⟩ := Option.isSome_iff_exists.1 h2
  simp [convert, run_underlying hs, run_underlying h1, Conv.intToInt]
theorem pj_conv {src dst : TypeId} {x : Operand} {s s' : Slot} {k : IntKind} {n : Int} (h : intB c.P src dst k = true) (hx : Has Γ x s) (hs : IsInt s n) (hs' : ∀ m, s'.p m (.int k (k.wrap n))) :
    PJ c ⟨d, .convert src dst x, ty, pos, aft, g⟩ Γ H s' :=
  pj_of fun m hs2 a w _ _ _ ho => by
    obtain ⟨k', e⟩ := hs m _ (hx m a (ho x (by simp [Op.operands])))
    exact ⟨_, by simp only [execOp, e, Sem.run_bind, run_convert_k h]; rfl, hs' m⟩
theorem pj_conv_i64 {src dst : TypeId} {x : Operand} {s : Slot} {n : Int} (h : intB c.P src dst .i64 = true) (hx : Has Γ x s) (hs : IsInt s n) :
    PJ c ⟨d, .convert src dst x, ty, pos, aft, g⟩ Γ H (i64.slot (w64 n)) := pj_conv h hx hs fun m => i64_w
theorem pj_conv_un {src dst : TypeId} {x : Operand} {s : Slot} {n : Int} {k : IntKind} {b : Nat} (hk : k.bits = b) (hsg : k.signed = false) (h : intB c.P src dst k = true) (hx : Has Γ x s) (hs : IsInt s n) :
    PJ c ⟨d, .convert src dst x, ty, pos, aft, g⟩ Γ H ((un k b).slot (BitVec.ofInt b n)) := pj_conv h hx hs fun m => un_p.2 (by rw [wrap_un hk hsg])
/-- From one unsigned kind to another one. -/
theorem pj_conv_uu {src dst : TypeId} {x : Operand} {k k' : IntKind} {b b' : Nat} {n : BitVec b'} (hk : k.bits = b) (hsg : k.signed = false) (h : intB c.P src dst k = true) (hx : Has Γ x ((un k' b').slot n)) :
    PJ c ⟨d, .convert src dst x, ty, pos, aft, g⟩ Γ H ((un k b).slot (n.setWidth b)) := pj_conv h hx isInt_un fun m => un_p.2 (by
      rw [wrap_un hk hsg]; congr 3; apply BitVec.eq_of_toNat_eq; simp)
/-- From a narrow unsigned kind to int. -/
theorem pj_conv_ui {src dst : TypeId} {x : Operand} {k : IntKind} {b : Nat} {n : BitVec b} (hb : b < 64) (h : intB c.P src dst .i64 = true) (hx : Has Γ x ((un k b).slot n)) :
    PJ c ⟨d, .convert src dst x, ty, pos, aft, g⟩ Γ H (i64.slot (n.toNat : Int)) := pj_conv h hx isInt_un fun m => i64_p.2 (by
      have h1 := n.isLt
      have h2 : 2 ^ b ≤ 2 ^ 63 := Nat.pow_le_pow_right (by decide) (by omega)
      have h3 : (2 : Nat) ^ 63 = 9223372036854775808 := by decide
      congr 1
      rw [w64_wrap]; exact w64_eq (by omega))
end
end Go.Sl
namespace Go.Sl
/-! ## Closed facts about types, as tests -/
def tyB (P : Program) (T : TypeId) (ag : Bool) (n : Nat) : Bool :=
  (match P.underlying T with | some (.struct _) | some (.array _ _) => ag | some _ => !ag | none => false) && (match P.info? T with | some i => i.size == n | none => false)
def szB (P : Program) (T : TypeId) (n : Nat) : Bool := match P.info? T with | some i => i.size == n | none => false
def fldB (P : Program) (S f off : Nat) : Bool :=
  match P.underlying S with
  | some (.struct fs) => match fs[f]? with
    | some fd => fd.offset == off && (match P.info? fd.type with | some i => i.size != 0 | none => false)
    | none => false
  | _ => false
def arrB (P : Program) (T n sz : Nat) : Bool :=
  match P.underlying T with
  | some (.array n' e) => n' == n && szB P e sz
  | _ => false
def slB (P : Program) (T sz : Nat) : Bool :=
  match P.underlying T with
  | some (.slice e) => szB P e sz
  | _ => false
theorem szB_run {P : Program} {T n : Nat} (h : szB P T n = true) (w : World) : (sizeOf T).run P w = .ok n w := by
  unfold szB at h
  cases hi : P.info? T with
  | none => rw [hi] at h; cases h
  | some i =>
    rw [hi] at h
    have : i.size = n := by simpa using h
    simp [sizeOf, typeInfo, hi, this]
theorem tyB_size {P : Program} {T n : Nat} {ag : Bool} (h : tyB P T ag n = true) : szB P T n = true := by
  simp only [tyB, Bool.and_eq_true] at h
  exact h.2
theorem tyB_agg {P : Program} {T n : Nat} {ag : Bool} (h : tyB P T ag n = true) (w : World) : (isAgg T).run P w = .ok ag w := by
  simp only [tyB, Bool.and_eq_true] at h
  obtain ⟨h1, _⟩ := h
  unfold isAgg
  cases hu : P.underlying T with
  | none => rw [hu] at h1; cases h1
  | some d =>
    rw [hu] at h1
    rw [Sem.run_bind, run_underlying hu]
    cases d <;> simp at h1 <;> simp [h1]
theorem arrB_of {P : Program} {T n sz : Nat} (h : arrB P T n sz = true) : ∃ e, P.underlying T = some (.array n e) ∧ szB P e sz = true := by
  unfold arrB at h
  split at h
  · rename_i n' e hu
    simp only [Bool.and_eq_true] at h
    have : n' = n := by simpa using h.1
    exact ⟨e, by rw [hu, this], h.2⟩
  · cases h
theorem slB_of {P : Program} {T sz : Nat} (h : slB P T sz = true) : ∃ e, P.underlying T = some (.slice e) ∧ szB P e sz = true := by
  unfold slB at h
  split at h
  · rename_i e hu; exact ⟨e, hu, h⟩
  · cases h
theorem fldB_run {P : Program} {S f off : Nat} (h : fldB P S f off = true) (b o : Nat) (w : World) :
    (Instr.fieldAt S (.pointer (some ⟨b, o, none⟩)) f).run P w = .ok (.pointer (some ⟨b, o + off, none⟩)) w := by
  unfold fldB at h
  split at h
  · rename_i fs hu
    split at h
    · rename_i fd hf
      simp only [Bool.and_eq_true] at h
      obtain ⟨h1, h2⟩ := h
      have e1 : fd.offset = off := by simpa using h1
      cases hi : P.info? fd.type with
      | none => rw [hi] at h2; cases h2
      | some i =>
        rw [hi] at h2
        have h3 : i.size ≠ 0 := by simpa using h2
        simp [Instr.fieldAt, run_underlying hu, hf, Instr.sureAddr, fieldPlace, sizeOf, typeInfo, hi, h3, Addr.add_lit, e1]
    · cases h
  · cases h

/-! ## Loads -/
theorem run_loadVar_cells {P : Program} {w : World} {T : TypeId} {ag : Bool} {n b o : Nat} {cs : List Value} (hT : tyB P T ag n = true) (hl : cs.length = n) (h1 : ag = false → n = 1)
    (h : ∀ j v, cs[j]? = some v → w.cell? ⟨b, o + j, none⟩ = some v) : (Instr.loadAt T (.pointer (some ⟨b, o, none⟩))).run P w = .ok (ofCells ag cs) w := by
  have ha := tyB_agg hT w
  have hs := szB_run (tyB_size hT) w
  simp only [Instr.loadAt, Instr.sureAddr, pure_bind, loadVar, Sem.run_bind, ha, Result.andThen_ok]
  cases ag with
  | true =>
    subst hl
    have := run_loadCells_list (P := P) w ⟨b, o, none⟩ cs (fun j v e => by rw [Addr.add_lit]; exact h j v e)
    simp [hs, this, ofCells]
  | false =>
    rw [h1 rfl] at hl
    match cs, hl with
    | [v], _ =>
      have := h 0 v rfl
      rw [Nat.add_zero] at this
      simp [run_load, this, ofCells]
section
variable {c : Ctx} {Γ : Env} {H H' : List Ent} {d : Option Tmp} {ty : TypeId} {pos : String} {aft : Array Edge} {g : Option (Nat × Bool)} {α β : Type}
theorem pj_load_to {T : TypeId} {x : Operand} {R : Rep α} {y : α} (hx : Has Γ x (ptrTo R y)) (hT : tyB c.P T R.ag R.n = true) : PJ c ⟨d, .load T x, ty, pos, aft, g⟩ Γ H (R.slot y) :=
  pj_of fun m hs a w hg _ _ ho => by
    obtain ⟨b, o, ds, e, hr, hat⟩ := hx m a (ho x (by simp [Op.operands]))
    refine ⟨ofCells R.ag ds, ?_, Rep.is_of hr⟩
    simp only [execOp, e, Sem.run_bind, run_loadVar_cells hT (R.len hr) R.one (fun j v e => hg.mem _ _ _ (hat j v e))]
    rfl
theorem Sat.box {m : Mem} {hs : Hp} {w : World} {b : Nat} {T0 : TypeId} {R : Rep α} {x : α} (hsat : Sat H m hs) (hk : Pick H (box b T0 R x) H') :
    ∃ cs, (b, T0, cs) ∈ hs ∧ R.rel m cs x := by
  obtain ⟨h1, h2, hp, ⟨cs, e, hr⟩, _⟩ := hsat.pick hk
  exact ⟨cs, hp.mem_iff.2 (by simp [e]), hr⟩
theorem Good.cells {m : Mem} {hs : Hp} {w : World} (hg : Good m hs w) {b : Nat} {T : TypeId} {cs : List Value} (h : (b, T, cs) ∈ hs) (j : Nat) (v : Value) (e : cs[j]? = some v) : w.cell? ⟨b, j, none⟩ = some v := by
  have := hg.blk _ h
  simp only [World.cell?, this]
  simpa using e
theorem pj_load_box {T T0 : TypeId} {x : Operand} {b off : Nat} {R : Rep α} {S : Rep β} {y : α} {get : α → β} {set : α → β → α} (hx : Has Γ x (val (.pointer (some ⟨b, off, none⟩))))
    (hk : Pick H (box b T0 R y) H') (hp : Path R off S get set) (hT : tyB c.P T S.ag S.n = true) : PJ c ⟨d, .load T x, ty, pos, aft, g⟩ Γ H (S.slot (get y)) :=
  pj_of fun m hs a w hg _ hsat ho => by
    have e : a.eval x = _ := hx m a (ho x (by simp [Op.operands]))
    obtain ⟨cs, hmem, hr⟩ := Sat.box (w := w) hsat hk
    have hr' := hp.get_ok hr
    refine ⟨ofCells S.ag ((cs.drop off).take S.n), ?_, Rep.is_of hr'⟩
    simp only [execOp, e, Sem.run_bind]
    rw [run_loadVar_cells hT (S.len hr') S.one]
    · rfl
    · intro j v ev
      rw [List.getElem?_take] at ev
      split at ev
      · rw [List.getElem?_drop] at ev; exact hg.cells hmem _ _ ev
      · cases ev
/-- A package-level variable that is laid. -/
def GAt (n : Nat) (R : Rep α) (x : α) (m : Mem) : Prop := ∃ cs, R.rel m cs x ∧ At m n 0 cs
theorem pj_load_global {T : TypeId} {n : Nat} {R : Rep α} {y : α} (h : ∀ m, c.G.p m → GAt n R y m) (hT : tyB c.P T R.ag R.n = true) : PJ c ⟨d, .load T (.global n), ty, pos, aft, g⟩ Γ H (R.slot y) :=
  pj_of fun m hs a w hg hG _ ho => by
    obtain ⟨cs, hr, hat⟩ := h m hG
    refine ⟨ofCells R.ag cs, ?_, Rep.is_of hr⟩
    have e : a.eval (.global n) = .pointer (some ⟨n, 0, none⟩) := rfl
    simp only [execOp, e, Sem.run_bind, run_loadVar_cells hT (R.len hr) R.one (fun j v e => hg.mem _ _ _ (hat j v e))]
    rfl
/-! ## Addresses -/
theorem pj_field_to {S f off : Nat} {x : Operand} {R : Rep α} {Q : Rep β} {y : α} {get : α → β} {set : α → β → α} (hx : Has Γ x (ptrTo R y)) (hp : Path R off Q get set) (hf : fldB c.P S f off = true) :
    PJ c ⟨d, .fieldAddr S x f, ty, pos, aft, g⟩ Γ H (ptrTo Q (get y)) :=
  pj_of fun m hs a w hg _ _ ho => by
    obtain ⟨b, o, ds, e, hr, hat⟩ := hx m a (ho x (by simp [Op.operands]))
    exact ⟨_, by simp only [execOp, e, Sem.run_bind, fldB_run hf]; rfl, b, o + off, _, rfl, hp.get_ok hr, hat.mid _ _⟩
theorem pj_field_ptr {S f off b o : Nat} {x : Operand} (hx : Has Γ x (val (.pointer (some ⟨b, o, none⟩)))) (hf : fldB c.P S f off = true) :
    PJ c ⟨d, .fieldAddr S x f, ty, pos, aft, g⟩ Γ H (val (.pointer (some ⟨b, o + off, none⟩))) :=
  pj_of fun m hs a w hg _ _ ho => by
    have e : a.eval x = _ := hx m a (ho x (by simp [Op.operands]))
    exact ⟨_, by simp only [execOp, e, Sem.run_bind, fldB_run hf]; rfl, rfl⟩
/-- A pointer to what stays, that is not nil. -/
theorem has_deref {x : Operand} {R : Rep α} {y : α} (hx : Has Γ x ((ptr R).slot (some y))) : Has Γ x (ptrTo R y) := by
  intro m a ho
  obtain ⟨b, o, ds, e, hr, hat⟩ := hx m a ho
  simp only [List.cons.injEq, and_true] at e
  exact ⟨b, o, ds, e, hr, hat⟩
theorem run_indexAt_arr {P : Program} {T n sz : Nat} (hT : arrB P T n sz = true) (b o : Nat) (k : IntKind) {i : Int} (h0 : 0 ≤ i) (h1 : i < n) (w : World) :
    (Instr.indexAt T (.pointer (some ⟨b, o, none⟩)) (.int k i)).run P w = .ok (.pointer (some ⟨b, o + i.toNat * sz, none⟩)) w := by
  obtain ⟨e, hu, hs⟩ := arrB_of hT
  have hr := szB_run hs w
  have : 0 ≤ i ∧ i < (n : Int) := ⟨h0, h1⟩
  simp [Instr.indexAt, asIntOf, run_underlying hu, Instr.sureAddr, this, hr, Addr.add_lit]
theorem run_indexAt_sl {P : Program} {T sz : Nat} (hT : slB P T sz = true) (b o n cap : Nat) (k : IntKind) {i : Int} (h0 : 0 ≤ i) (h1 : i < n) (w : World) :
    (Instr.indexAt T (.slice (some ⟨b, o, none⟩) n cap) (.int k i)).run P w = .ok (.pointer (some ⟨b, o + i.toNat * sz, none⟩)) w := by
  obtain ⟨e, hu, hs⟩ := slB_of hT
  have hr := szB_run hs w
  have : 0 ≤ i ∧ i < (n : Int) := ⟨h0, h1⟩
  simp [Instr.indexAt, asIntOf, run_underlying hu, this, hr, Addr.add_lit]
theorem pj_index_sl {T : TypeId} {x y : Operand} {R : Rep α} {l : List α} {i : Int} {s : Slot} (hx : Has Γ x ((sl R).slot l)) (hy : Has Γ y s) (hs : IsInt s i) (h0 : 0 ≤ i) (h1 : i.toNat < l.length) (hT : slB c.P T R.n = true) :
    PJ c ⟨d, .indexAddr T x y, ty, pos, aft, g⟩ Γ H (ptrTo R l[i.toNat]) :=
  pj_of fun m hs2 a w hg _ _ ho => by
    obtain ⟨a0, cap, e, hc, hrow⟩ := hx m a (ho x (by simp [Op.operands]))
    obtain ⟨k, ek⟩ := hs m _ (hy m a (ho y (by simp [Op.operands])))
    simp only [List.cons.injEq, and_true] at e
    rcases hrow with rfl | ⟨b, o, row, rfl, hr, hat⟩
    · simp at h1
    · refine ⟨_, by simp only [execOp, e, ek, Sem.run_bind, run_indexAt_sl hT b o l.length cap k h0 (by omega)]; rfl, b, _, _, rfl, RowC.get hr h1, hat.mid _ _⟩
theorem pj_index_arr {T n sz b o : Nat} {x y : Operand} {i : Int} {s : Slot} (hx : Has Γ x (val (.pointer (some ⟨b, o, none⟩)))) (hy : Has Γ y s) (hs : IsInt s i) (h0 : 0 ≤ i) (h1 : i < n) (hT : arrB c.P T n sz = true) :
    PJ c ⟨d, .indexAddr T x y, ty, pos, aft, g⟩ Γ H (val (.pointer (some ⟨b, o + i.toNat * sz, none⟩))) :=
  pj_of fun m hs2 a w hg _ _ ho => by
    have e : a.eval x = _ := hx m a (ho x (by simp [Op.operands]))
    obtain ⟨k, ek⟩ := hs m _ (hy m a (ho y (by simp [Op.operands])))
    exact ⟨_, by simp only [execOp, e, ek, Sem.run_bind, run_indexAt_arr hT b o k h0 h1]; rfl, rfl⟩
theorem pj_index_to {T n : Nat} {x y : Operand} {R : Rep α} {v : Vector α n} {i : Int} {s : Slot} (hx : Has Γ x (ptrTo (vec n R) v)) (hy : Has Γ y s) (hs : IsInt s i) (h0 : 0 ≤ i) (h1 : i.toNat < n) (hT : arrB c.P T n R.n = true) :
    PJ c ⟨d, .indexAddr T x y, ty, pos, aft, g⟩ Γ H (ptrTo R v[i.toNat]) :=
  pj_of fun m hs2 a w hg _ _ ho => by
    obtain ⟨b, o, ds, e, hr, hat⟩ := hx m a (ho x (by simp [Op.operands]))
    obtain ⟨k, ek⟩ := hs m _ (hy m a (ho y (by simp [Op.operands])))
    exact ⟨_, by simp only [execOp, e, ek, Sem.run_bind, run_indexAt_arr hT b o k h0 (show i < (n : Int) by omega)]; rfl, b, _, _, rfl, (Path.at n R i.toNat h1).get_ok hr, hat.mid _ _⟩
theorem run_part {P : Program} {T n off : Nat} {ag : Bool} {cs : List Value} (hT : tyB P T ag n = true) (h1 : ag = false → n = 1) (hf : off + n ≤ cs.length) (w : World) :
    (part T cs.toArray off).run P w = .ok (ofCells ag ((cs.drop off).take n)) w := by
  have ha := tyB_agg hT w
  have hs := szB_run (tyB_size hT) w
  simp only [part, Sem.run_bind, ha, Result.andThen_ok]
  cases ag with
  | true =>
    simp [hs, ofCells]

  | false =>
    have := h1 rfl
    subst this
    have hlt : off < cs.length := by omega
    simp only [Bool.false_eq_true, if_false]
    rw [show cs.toArray[off]? = some cs[off] by simp [hlt]]
    simp only [ofCells, Sem.run_pure]
    rw [List.drop_eq_getElem_cons hlt]
    rfl
/-! ## Lengths -/
theorem run_len {P : Program} {T ty : TypeId} {sz : Nat} (hT : slB P T sz = true) (a : Option Addr) (n cap : Nat) (w : World) :
    (Builtin.len_ #[T] ty #[.slice a n cap]).run P w = .ok (goInt n) w := by
  obtain ⟨e, hu, _⟩ := slB_of hT
  simp [Builtin.len_, run_underlying hu]
theorem pj_len_of {T : TypeId} {x : Operand} {n : Nat} {s : Slot} {sz : Nat} (hx : Has Γ x s) (hs : ∀ m hs v, Sat H m hs → s.p m v → ∃ a cap, v = .slice a n cap) (hT : slB c.P T sz = true) :
    PJ c ⟨d, .call { callee := .builtin .len, args := #[x], argTypes := #[T] }, ty, pos, aft, g⟩ Γ H (i64.slot (n : Int)) :=
  pj_of fun m hs2 a w hg _ hsat ho => by
    obtain ⟨a0, cap, e⟩ := hs m hs2 _ hsat (hx m a (ho x (by simp [Op.operands, Call.operands])))
    refine ⟨goInt n, ?_, i64_p.2 rfl⟩
    have hl := run_len (ty := ty) hT a0 n cap w
    simp only [execOp, resolve, Sem.run_bind, Sem.run_pure, Result.andThen_ok, invoke, builtin]
    simp only [List.map_toArray, List.map_cons, List.map_nil, e, hl, Result.andThen_ok]
theorem pj_len_sl {T : TypeId} {x : Operand} {R : Rep α} {l : List α} {sz : Nat} (hx : Has Γ x ((sl R).slot l)) (hT : slB c.P T sz = true) :
    PJ c ⟨d, .call { callee := .builtin .len, args := #[x], argTypes := #[T] }, ty, pos, aft, g⟩ Γ H (i64.slot (l.length : Int)) :=
  pj_len_of hx (fun m hs v _ ⟨a, cap, e, _⟩ => by simp only [List.cons.injEq, and_true] at e; exact ⟨a, cap, e⟩) hT
theorem pj_len_own {T T0 : TypeId} {x : Operand} {v : Value} {R : Rep α} {l : List α} {sz : Nat} (hx : Has Γ x (ov v)) (hk : Pick H (own T0 R v l) H') (hT : slB c.P T sz = true) :
    PJ c ⟨d, .call { callee := .builtin .len, args := #[x], argTypes := #[T] }, ty, pos, aft, g⟩ Γ H (i64.slot (l.length : Int)) :=
  pj_len_of hx (fun m hs u hsat hu => by
    obtain ⟨h1, h2, _, ho, _⟩ := hsat.pick hk
    obtain ⟨a, cap, e, _⟩ := own.shape ho
    exact ⟨a, cap, (ov_p.1 hu).1.trans e⟩) hT
theorem pj_len_val {T : TypeId} {x : Operand} {a0 : Option Addr} {n cap : Nat} {sz : Nat} (hx : Has Γ x (val (.slice a0 n cap))) (hT : slB c.P T sz = true) :
    PJ c ⟨d, .call { callee := .builtin .len, args := #[x], argTypes := #[T] }, ty, pos, aft, g⟩ Γ H (i64.slot (n : Int)) :=
  pj_len_of hx (fun m hs u _ hu => ⟨a0, cap, hu⟩) hT
/-! ## Slicing -/
inductive OptI (Γ : Env) : Option Operand → Option Int → Prop
  | no : OptI Γ none none
  | yes {x : Operand} {s : Slot} {i : Int} : Has Γ x s → IsInt s i → OptI Γ (some x) (some i)
theorem OptI.val {x : Option Operand} {i : Option Int} (h : OptI Γ x i) {m : Mem} {a : Act} (ho : ∀ y, x = some y → Opd Γ m a y) :
    (x.map a.eval = none ∧ i = none) ∨ ∃ k n, x.map a.eval = some (.int k n) ∧ i = some n := by
  cases h with
  | no => exact .inl ⟨rfl, rfl⟩
  | yes h k =>
    obtain ⟨kk, e⟩ := k _ _ (h m a (ho _ rfl))
    exact .inr ⟨kk, _, by simp [e], rfl⟩
theorem run_sliceBounds {P : Program} {isS : Bool} {len cap : Nat} {lo hi : Option Value} {l h : Option Int} (hlo : (lo = none ∧ l = none) ∨ ∃ k n, lo = some (.int k n) ∧ l = some n)
    (hhi : (hi = none ∧ h = none) ∨ ∃ k n, hi = some (.int k n) ∧ h = some n) (h0 : 0 ≤ l.getD 0) (h1 : l.getD 0 ≤ h.getD len) (h2 : h.getD len ≤ cap) (w : World) :
    (Instr.sliceBounds isS len cap lo hi none).run P w = .ok ((l.getD 0).toNat, (h.getD len).toNat, cap) w := by
  have hb : ∀ (k : IntKind) (n : Int) (y : Nat) (code : BoundsCode), 0 ≤ n → n ≤ y → (Instr.sliceBound (.int k n) y code).run P w = .ok n.toNat w := by
    intro k n y code h0 h1
    simp [Instr.sliceBound, asIntOf, h0, h1]
  unfold Instr.sliceBounds
  rcases hhi with ⟨rfl, rfl⟩ | ⟨k, n, rfl, rfl⟩ <;> rcases hlo with ⟨rfl, rfl⟩ | ⟨k', n', rfl, rfl⟩
  · simp
  · simp only [Option.getD_some, Option.getD_none] at h0 h1 h2 ⊢
    simp [hb k' n' len _ h0 h1]
  · simp only [Option.getD_some, Option.getD_none] at h0 h1 h2 ⊢
    simp [hb k n cap _ (by omega) h2]
  · simp only [Option.getD_some, Option.getD_none] at h0 h1 h2 ⊢
    have e1 := hb k n cap (if isS = true then .sliceAcap else .sliceAlen) (by omega) h2
    have e2 := hb k' n' n.toNat .sliceB h0 (by omega)
    simp [e1, e2]
theorem run_slice_sl {P : Program} {T sz : Nat} (hT : slB P T sz = true) {a : Option Addr} {len cap : Nat} {lo hi : Option Value} {l h : Option Int}
    (hlo : (lo = none ∧ l = none) ∨ ∃ k n, lo = some (.int k n) ∧ l = some n)
    (hhi : (hi = none ∧ h = none) ∨ ∃ k n, hi = some (.int k n) ∧ h = some n) (h0 : 0 ≤ l.getD 0) (h1 : l.getD 0 ≤ h.getD len) (h2 : h.getD len ≤ cap) (w : World) :
    (Instr.sliceAt T (.slice a len cap) lo hi none).run P w =
      .ok (.slice (if cap = (l.getD 0).toNat then a else a.map (·.add ((l.getD 0).toNat * sz))) ((h.getD len).toNat - (l.getD 0).toNat) (cap - (l.getD 0).toNat)) w := by
  obtain ⟨e, hu, hs⟩ := slB_of hT
  have hz := szB_run hs w
  have hb := run_sliceBounds (P := P) (isS := true) hlo hhi h0 h1 h2 w
  simp only [Instr.sliceAt, Sem.run_bind, run_underlying hu, Result.andThen_ok, Instr.slice, hb, hz, Sem.run_pure]
theorem pj_slice_sl {T : TypeId} {x : Operand} {lo hi : Option Operand} {R : Rep α} {xs : List α} {l h : Option Int} (hx : Has Γ x ((sl R).slot xs)) (hlo : OptI Γ lo l) (hhi : OptI Γ hi h)
    (h0 : 0 ≤ l.getD 0) (h1 : l.getD 0 ≤ h.getD xs.length) (h2 : h.getD xs.length ≤ xs.length) (hT : slB c.P T R.n = true) :
    PJ c ⟨d, .slice T x lo hi none, ty, pos, aft, g⟩ Γ H ((sl R).slot ((xs.take (h.getD xs.length).toNat).drop (l.getD 0).toNat)) :=
  pj_of fun m hs2 a w hg _ _ ho => by
    obtain ⟨a0, cap, e, hc, hrow⟩ := hx m a (ho x (by simp [Op.operands]))
    simp only [List.cons.injEq, and_true] at e
    have hlo' := hlo.val (m := m) (a := a) (fun y hy => ho y (by subst hy; simp [Op.operands]))
    have hhi' := hhi.val (m := m) (a := a) (fun y hy => ho y (by subst hy; simp [Op.operands]))
    have hr := run_slice_sl (P := c.P) hT (a := a0) (cap := cap) hlo' hhi' h0 h1 (by omega) w
    refine ⟨_, by simp only [execOp, e, Option.map_none, Sem.run_bind, hr]; rfl, ?_⟩
    have hlen : ((xs.take (h.getD xs.length).toNat).drop (l.getD 0).toNat).length = (h.getD xs.length).toNat - (l.getD 0).toNat := by
      rw [List.length_drop, List.length_take, Nat.min_eq_left (by omega)]
    refine ⟨_, _, by rw [hlen], by rw [hlen]; omega, ?_⟩
    by_cases hE : (xs.take (h.getD xs.length).toNat).drop (l.getD 0).toNat = []
    · exact .inl hE
    · refine .inr ?_
      have hpos : (l.getD 0).toNat < (h.getD xs.length).toNat := by
        rcases Nat.lt_or_ge (l.getD 0).toNat (h.getD xs.length).toNat with h | h
        · exact h
        · exact absurd (List.length_eq_zero_iff.1 (by rw [hlen]; omega)) hE
      rcases hrow with rfl | ⟨b, o, row, rfl, hrw, hat⟩
      · simp at hE
      · refine ⟨b, o + (l.getD 0).toNat * R.n, (row.take ((h.getD xs.length).toNat * R.n)).drop ((l.getD 0).toNat * R.n), ?_, (hrw.take _).drop _, ?_⟩
        · rw [if_neg (by omega)]; simp [Addr.add_lit]
        · rw [List.drop_take]; exact hat.mid _ _
/-- A slice of an array of the call's own: its very value. -/
theorem pj_slice_arr {T n sz b o : Nat} {x : Operand} {lo hi : Option Operand} {l h : Option Int} (hx : Has Γ x (val (.pointer (some ⟨b, o, none⟩)))) (hlo : OptI Γ lo l) (hhi : OptI Γ hi h)
    (h0 : 0 ≤ l.getD 0) (h1 : l.getD 0 ≤ h.getD n) (h2 : h.getD n ≤ n) (h3 : l.getD 0 < n) (hT : arrB c.P T n sz = true) :
    PJ c ⟨d, .slice T x lo hi none, ty, pos, aft, g⟩ Γ H (val (.slice (some ⟨b, o + (l.getD 0).toNat * sz, none⟩) ((h.getD n).toNat - (l.getD 0).toNat) (n - (l.getD 0).toNat))) :=
  pj_of fun m hs2 a w hg _ _ ho => by
    have e : a.eval x = _ := hx m a (ho x (by simp [Op.operands]))
    have hlo' := hlo.val (m := m) (a := a) (fun y hy => ho y (by subst hy; simp [Op.operands]))
    have hhi' := hhi.val (m := m) (a := a) (fun y hy => ho y (by subst hy; simp [Op.operands]))
    obtain ⟨el, hu, hs⟩ := arrB_of hT
    have hz := szB_run hs w
    have hb := run_sliceBounds (P := c.P) (isS := false) hlo' hhi' h0 h1 h2 w
    refine ⟨_, by
      simp only [execOp, e, Option.map_none, Sem.run_bind, Instr.sliceAt, run_underlying hu, Result.andThen_ok, Instr.sureAddr, Sem.run_pure, hb, hz]
      rw [if_neg (by omega)], ?_⟩
    simp [val, Addr.add_lit]
/-- A slice to (a pointer to) an array. -/
theorem pj_s2ap {T n e : Nat} {x : Operand} {R : Rep α} {l : List α} (hx : Has Γ x ((sl R).slot l)) (hl : n ≤ l.length) (hn : 0 < n) (hT : c.P.underlying T = some (.array n e)) :
    PJ c ⟨d, .sliceToArrayPointer T x, ty, pos, aft, g⟩ Γ H (ptrTo (vec n R) (toVec n l hl)) :=
  pj_of fun m hs2 a w hg _ _ ho => by
    obtain ⟨a0, cap, e, hc, hrow⟩ := hx m a (ho x (by simp [Op.operands]))
    simp only [List.cons.injEq, and_true] at e
    rcases hrow with rfl | ⟨b, o, row, rfl, hrw, hat⟩
    · simp at hl; omega
    · refine ⟨_, ?_, b, o, row.take (n * R.n), rfl, ?_, ?_⟩
      · have : ¬ l.length < n := by omega
        simp only [execOp, e, Sem.run_bind, Instr.arrayAt, run_underlying hT, Result.andThen_ok, this, if_false, Sem.run_pure]
      · show RowC R m _ (toVec n l hl).toList
        rw [toVec_toList]; exact hrw.take n
      · have := hat.mid 0 (n * R.n)
        simpa using this
/-! ## Tuples -/
theorem pj_extract {x : Operand} {i : Nat} {ss : List Slot} {s : Slot} (hx : Has Γ x (tup ss)) (hi : ss[i]? = some s) : PJ c ⟨d, .extract x i, ty, pos, aft, g⟩ Γ H s :=
  pj_of fun m hs a w _ _ _ ho => by
    obtain ⟨vs, e, hv⟩ := hx m a (ho x (by simp [Op.operands]))
    have key : ∀ (ss : List Slot) (vs : List Value) (i : Nat), All2 m ss vs → ss[i]? = some s → ∃ v, vs[i]? = some v ∧ s.p m v := by
      intro ss
      induction ss with
      | nil => intro vs i _ h; simp at h
      | cons t ts ih =>
        intro vs i ⟨v, vs', e, p, q⟩ h
        subst e
        cases i with
        | zero => simp at h; subst h; exact ⟨v, rfl, p⟩
        | succ i => exact ih vs' i q (by simpa using h)
    obtain ⟨v, hv', hp⟩ := key ss vs i hv hi
    exact ⟨v, by simp [execOp, e, Instr.extract, hv'], hp⟩
theorem pj_nilCheck_ptr {x : Operand} {a0 : Addr} (hx : Has Γ x (val (.pointer (some a0)))) : PJ c ⟨d, .nilCheck x, ty, pos, aft, g⟩ Γ H (val (.pointer (some a0))) :=
  pj_of fun m hs a w _ _ _ ho => by
    have e : a.eval x = _ := hx m a (ho x (by simp [Op.operands]))
    exact ⟨_, by simp only [execOp, e]; rfl, rfl⟩
theorem pj_nilCheck_to {x : Operand} {R : Rep α} {y : α} (hx : Has Γ x (ptrTo R y)) : PJ c ⟨d, .nilCheck x, ty, pos, aft, g⟩ Γ H (ptrTo R y) :=
  pj_of fun m hs a w _ _ _ ho => by
    obtain ⟨b, o, ds, e, hr⟩ := hx m a (ho x (by simp [Op.operands]))
    exact ⟨_, by simp only [execOp, e]; rfl, b, o, ds, rfl, hr⟩
end
end Go.Sl
namespace Go.Sl
/-! ## New blocks -/
theorem Good.lt {m : Mem} {hs : Hp} {w : World} (hg : Good m hs w) {b o : Nat} {v : Value} (h : m b o = some v) : b < w.heap.size :=
  World.block_lt_of_cell? w ⟨b, o, none⟩ (hg.mem b o v h)
theorem Good.ltb {m : Mem} {hs : Hp} {w : World} (hg : Good m hs w) {b : Nat} (h : b ∈ hs.bs) : b < w.heap.size := by
  obtain ⟨x, hx, rfl⟩ := List.mem_map.1 h
  have := hg.blk x hx
  rcases Nat.lt_or_ge x.1 w.heap.size with h | h
  · exact h
  · rw [Array.getElem?_eq_none h] at this; cases this
theorem heap_alloc_old {w : World} {o : Obj} {b : Nat} (h : b < w.heap.size) : (w.alloc o).heap[b]? = w.heap[b]? := by
  show (w.heap.push o)[b]? = _
  rw [Array.getElem?_push, if_neg (by omega)]
theorem heap_alloc_new {w : World} {o : Obj} : (w.alloc o).heap[w.heap.size]? = some o := by
  show (w.heap.push o)[w.heap.size]? = _
  rw [Array.getElem?_push, if_pos rfl]
theorem Good.drew {m : Mem} {hs : Hp} {w : World} (hg : Good m hs w) : Good m hs w.drew := ⟨hg.mem, hg.nodup, hg.blk, hg.free⟩
theorem Good.newOwn {m : Mem} {hs : Hp} {w : World} (hg : Good m hs w) (T : TypeId) (cs : List Value) : Good m ((w.heap.size, T, cs) :: hs) (w.alloc (.cells cs.toArray T)) where
  mem := fun b o v h => (World.cell?_alloc_lt w _ ⟨b, o, none⟩ (hg.lt h)).trans (hg.mem b o v h)
  nodup := by
    simp only [Hp.bs, List.map_cons, List.nodup_cons]
    exact ⟨fun h => Nat.lt_irrefl _ (hg.ltb h), hg.nodup⟩
  blk := fun x hx => by
    rcases List.mem_cons.1 hx with rfl | hx
    · exact heap_alloc_new
    · rw [heap_alloc_old (hg.ltb (List.mem_map_of_mem (f := (·.1)) hx))]; exact hg.blk x hx
  free := fun x hx o => by
    rcases List.mem_cons.1 hx with rfl | hx
    · cases h : m w.heap.size o with
      | none => rfl
      | some v => exact absurd (hg.lt h) (Nat.lt_irrefl _)
    · exact hg.free x hx o
theorem Frm.alloc (w : World) (m : Mem) (bs : List Nat) (o : Obj) : Frm w (w.alloc o) m m bs (w.heap.size :: bs) where
  os := rfl
  tape := rfl
  output := rfl
  size := by simp
  old := fun b hb _ => ⟨heap_alloc_old hb, fun _ => rfl⟩
  own := fun b hb => by
    rcases List.mem_cons.1 hb with rfl | hb
    · exact .inr (Nat.le_refl _)
    · exact .inl hb
  le := Mle.refl m
theorem Frm.drew (w : World) (m : Mem) (bs : List Nat) : Frm w w.drew m m bs bs := ⟨rfl, rfl, rfl, Nat.le_refl _, fun _ _ _ => ⟨rfl, fun _ => rfl⟩, fun _ h => .inl h, Mle.refl m⟩
/-- A block's cells made memory that stays. -/
def Mem.put (m : Mem) (b : Nat) (cs : List Value) : Mem := fun b' o => if b' = b then cs[o]? else m b' o
theorem Mem.le_put {m : Mem} {b : Nat} {cs : List Value} (h : ∀ o, m b o = none) : Mle m (m.put b cs) := by
  intro b' o v e
  unfold Mem.put
  split
  · rename_i hb; subst hb; rw [h o] at e; cases e
  · exact e
theorem Mem.at_put (m : Mem) (b : Nat) (cs : List Value) : At (m.put b cs) b 0 cs := by
  intro j v e
  simp [Mem.put, e]
/-- A block of the call's own, made to stay. -/
theorem Good.freeze {m : Mem} {hs : Hp} {w : World} {b : Nat} {T : TypeId} {cs : List Value} (hg : Good m ((b, T, cs) :: hs) w) : Good (m.put b cs) hs w where
  mem := fun b' o v h => by
    unfold Mem.put at h
    split at h
    · rename_i hb; subst hb; exact hg.cells (T := T) (cs := cs) (by simp) o v h
    · exact hg.mem b' o v h
  nodup := by
    have := hg.nodup
    simp only [Hp.bs, List.map_cons, List.nodup_cons] at this
    exact this.2
  blk := fun x hx => hg.blk x (List.mem_cons_of_mem _ hx)
  free := fun x hx o => by
    have := hg.nodup
    simp only [Hp.bs, List.map_cons, List.nodup_cons] at this
    have hne : x.1 ≠ b := fun e => this.1 (by rw [← e]; exact List.mem_map_of_mem (f := (·.1)) hx)
    simp only [Mem.put, if_neg hne]
    exact hg.free x (List.mem_cons_of_mem _ hx) o
theorem Good.le_put {m : Mem} {hs : Hp} {w : World} {b : Nat} {T : TypeId} {cs : List Value} (hg : Good m ((b, T, cs) :: hs) w) : Mle m (m.put b cs) := Mem.le_put (hg.free (b, T, cs) (by simp))
theorem Frm.freeze {w w1 : World} {m m1 : Mem} {b0 bs : List Nat} {b : Nat} {cs : List Value} (h : Frm w w1 m m1 b0 (b :: bs)) (hl : Mle m1 (m1.put b cs)) : Frm w w1 m (m1.put b cs) b0 bs where
  os := h.os
  tape := h.tape
  output := h.output
  size := h.size
  old := fun b' hb hn => ⟨(h.old b' hb hn).1, fun o => by
    have hne : b' ≠ b := fun e => by
      subst e
      exact (h.own b' (by simp)).elim hn (fun e => absurd hb (Nat.not_lt.2 e))
    simp only [Mem.put, if_neg hne]
    exact (h.old b' hb hn).2 o⟩
  own := fun b' hb => h.own b' (List.mem_cons_of_mem _ hb)
  le := h.le.trans hl
/-! ## Stores -/
def setBlk (w : World) (b : Nat) (T : TypeId) (cs : List Value) : World := { w with heap := w.heap.setIfInBounds b (.cells cs.toArray T (0, 0)) }
theorem setBlk_self {w : World} {b : Nat} {T : TypeId} {cs : List Value} (h : w.heap[b]? = some (.cells cs.toArray T (0, 0))) : setBlk w b T cs = w := by
  unfold setBlk
  have hlt : b < w.heap.size := by
    rcases Nat.lt_or_ge b w.heap.size with h' | h'
    · exact h'
    · rw [Array.getElem?_eq_none h'] at h; cases h
  have : w.heap.setIfInBounds b (.cells cs.toArray T (0, 0)) = w.heap := by
    apply Array.ext_getElem?
    intro i
    rw [Array.getElem?_setIfInBounds]
    split
    · rename_i e; subst e; rw [h]
    · rfl
  rw [this]
theorem setCell_eq {w : World} {b k : Nat} {T : TypeId} {cs : List Value} {v : Value} (h : w.heap[b]? = some (.cells cs.toArray T (0, 0))) :
    w.setCell ⟨b, k, none⟩ v = setBlk w b T (cs.set k v) := by
  unfold World.setCell setBlk
  congr 1
  apply Array.ext_getElem?
  intro i
  rw [Array.getElem?_modify, Array.getElem?_setIfInBounds]
  by_cases hi : b = i
  · subst hi
    have hlt : b < w.heap.size := by
      rcases Nat.lt_or_ge b w.heap.size with h' | h'
      · exact h'
      · rw [Array.getElem?_eq_none h'] at h; cases h
    have h' : w.heap[b] = .cells cs.toArray T (0, 0) := by simpa [hlt] using h
    simp [hlt, h']
  · simp [hi]
theorem setBlk_blk {w : World} {b : Nat} {T : TypeId} {cs cs' : List Value} (h : w.heap[b]? = some (.cells cs.toArray T (0, 0))) : (setBlk w b T cs').heap[b]? = some (.cells cs'.toArray T (0, 0)) := by
  have hlt : b < w.heap.size := by
    rcases Nat.lt_or_ge b w.heap.size with h' | h'
    · exact h'
    · rw [Array.getElem?_eq_none h'] at h; cases h
  simp [setBlk, Array.getElem?_setIfInBounds, hlt]
theorem setBlk_setBlk {w : World} {b : Nat} {T : TypeId} {cs cs' : List Value} : setBlk (setBlk w b T cs) b T cs' = setBlk w b T cs' := by
  unfold setBlk
  congr 1
  simp
theorem run_storeCells {P : Program} {b o : Nat} {T : TypeId} : ∀ (ds : List Value) (i : Nat) (cs : List Value) (w : World), (∀ v ∈ ds, v.oneCell' = true) →
    w.heap[b]? = some (.cells cs.toArray T (0, 0)) → o + i + ds.length ≤ cs.length →
    (storeCells ⟨b, o, none⟩ ds i).run P w = .ok () (setBlk w b T (cs.take (o + i) ++ ds ++ cs.drop (o + i + ds.length)))
  | [], i, cs, w, _, hb, _ => by
    simp only [storeCells, Sem.run_pure, List.append_nil, List.length_nil, Nat.add_zero, List.take_append_drop]
    rw [setBlk_self hb]
  | v :: ds, i, cs, w, hv, hb, hl => by
    simp only [List.length_cons] at hl
    have hlt : o + i < cs.length := by omega
    have hc : w.cell? ⟨b, o + i, none⟩ = some cs[o + i] := by simp [World.cell?, hb, hlt]
    have hf : w.frozen? ⟨b, o + i, none⟩ = false := by simp [World.frozen?, hb]
    have ih := run_storeCells (P := P) (b := b) (o := o) (T := T) ds (i + 1) (cs.set (o + i) v) (setBlk w b T (cs.set (o + i) v)) (fun u hu => hv u (List.mem_cons_of_mem _ hu)) (setBlk_blk hb) (by simp; omega)
    simp only [storeCells, Sem.run_bind, Addr.add_lit]
    rw [run_store P w _ v .plain (hv v (by simp)), hc]
    simp only [hf, Bool.false_eq_true, if_false, Result.andThen_ok, setCell_eq hb, ih, setBlk_setBlk]
    congr 2
    have e1 : (cs.set (o + i) v).take (o + (i + 1)) = cs.take (o + i) ++ [v] := by
      rw [show o + (i + 1) = (o + i) + 1 by omega, List.take_succ_eq_append_getElem (by simpa using hlt)]
      rw [List.take_set, List.set_eq_of_length_le (by simp; omega)]; simp
    have e2 : (cs.set (o + i) v).drop (o + (i + 1) + ds.length) = cs.drop (o + i + (v :: ds).length) := by
      rw [List.drop_set_of_lt (by omega)]; congr 1; simp; omega
    rw [e1, e2]; simp
theorem Good.setBlk {m : Mem} {hs : Hp} {w : World} {b : Nat} {T : TypeId} {cs : List Value} (cs' : List Value) (hg : Good m ((b, T, cs) :: hs) w) : Good m ((b, T, cs') :: hs) (setBlk w b T cs') where
  mem := fun b' o v h => by
    have hne : b' ≠ b := fun e => by subst e; rw [hg.free (b', T, cs) (by simp) o] at h; cases h
    have := hg.mem b' o v h
    have hbk : (Sl.setBlk w b T cs').heap[b']? = w.heap[b']? := by
      have hne' : b ≠ b' := fun e => hne e.symm
      simp [Sl.setBlk, Array.getElem?_setIfInBounds, hne']
    exact (World.cell?_of_block (w := w) (a := ⟨b', o, none⟩) hbk).trans this
  nodup := hg.nodup
  blk := fun x hx => by
    rcases List.mem_cons.1 hx with rfl | hx
    · exact setBlk_blk (hg.blk (b, T, cs) (by simp))
    · have hn := hg.nodup
      simp only [Hp.bs, List.map_cons, List.nodup_cons] at hn
      have hne : b ≠ x.1 := fun e => hn.1 (by rw [e]; exact List.mem_map_of_mem (f := (·.1)) hx)
      simp only [Sl.setBlk, Array.getElem?_setIfInBounds, if_neg hne]
      exact hg.blk x (List.mem_cons_of_mem _ hx)
  free := fun x hx o => by
    rcases List.mem_cons.1 hx with rfl | hx
    · exact hg.free (b, T, cs) (by simp) o
    · exact hg.free x (List.mem_cons_of_mem _ hx) o
theorem Frm.setBlk {w : World} {m : Mem} {b : Nat} {T : TypeId} {cs : List Value} {bs : List Nat} (hb : b ∈ bs) : Frm w (setBlk w b T cs) m m bs bs where
  os := rfl
  tape := rfl
  output := rfl
  size := by simp [Sl.setBlk]
  old := fun b' hb' hn => by
    have hne : b ≠ b' := fun e => hn (e ▸ hb)
    simp [Sl.setBlk, Array.getElem?_setIfInBounds, hne]
  own := fun b' h => .inl h
  le := Mle.refl m
theorem run_storeAt {P : Program} {w : World} {T T0 : TypeId} {n b o : Nat} {v : Value} {ds cs : List Value} (hT : szB P T n = true) (hv : v.cells = ds.toArray) (hl : ds.length = n) (h1 : ∀ v ∈ ds, v.oneCell' = true)
    (hb : w.heap[b]? = some (.cells cs.toArray T0 (0, 0))) (hn : o + n ≤ cs.length) :
    (Instr.storeAt T (.pointer (some ⟨b, o, none⟩)) v).run P w = .ok () (setBlk w b T0 (cs.take o ++ ds ++ cs.drop (o + n))) := by
  have hs := szB_run hT w
  have hst := run_storeCells (P := P) (o := o) ds 0 cs w h1 hb (by omega)
  simp only [Nat.add_zero, hl] at hst
  simp [Instr.storeAt, Instr.sureAddr, storeVar, hv, hs, hl, hst]

section
variable {c : Ctx} {full : Array Oper} {l : List Oper} {Γ Γ' : Env} {H H' : List Ent} {K : Act → World → Prop} {d : Tmp} {od : Option Tmp} {ty : TypeId} {pos : String} {aft : Array Edge} {α β : Type}
/-- The step of an operation that does more than read. -/
theorem j_step {o : Oper} {Γ2 : Env} {H2 : List Ent} (hg : o.guard = none)
    (h : ∀ m hs a w, Good m hs w → c.G.p m → Sat H m hs → EnvOK Γ m a → a.tmps.size = c.N →
      Upon c.P (fun v w' => ∃ m' hs', Good m' hs' w' ∧ EnvOK Γ2 m' (a.put o.dst v) ∧ Sat H2 m' hs' ∧ Frm w w' m m' hs.bs hs'.bs) ((execOp a.eval o).run c.P w))
    (k : OpsJ c full l Γ2 H2 K) : OpsJ c full (o :: l) Γ H K := by
  intro a w Q hQ ⟨hdf, hn, m, hs, hgd, hG, he, hsat, hf⟩
  refine wpListIn_plain hg fun K' hK' => ?_
  refine Upon.wp (h m hs a w hgd hG hsat he hn) ?_
  rintro v w' ⟨m', hs', hgd', he', hsat', hfr⟩
  exact hK' _ _ (k _ w' Q hQ ⟨by rw [put_defers]; exact hdf.step hgd hfr, by rw [put_size]; exact hn, m', hs', hgd', c.G.mono hfr.le hG, he', hsat', hf.trans hfr⟩)
/-- The same, where what comes next hangs on something new. -/
theorem j_step_ex {ι : Type} {o : Oper} {Γ2 : ι → Env} {H2 : ι → List Ent} (hg : o.guard = none)
    (h : ∀ m hs a w, Good m hs w → c.G.p m → Sat H m hs → EnvOK Γ m a → a.tmps.size = c.N →
      Upon c.P (fun v w' => ∃ i m' hs', Good m' hs' w' ∧ EnvOK (Γ2 i) m' (a.put o.dst v) ∧ Sat (H2 i) m' hs' ∧ Frm w w' m m' hs.bs hs'.bs) ((execOp a.eval o).run c.P w))
    (k : ∀ i, OpsJ c full l (Γ2 i) (H2 i) K) : OpsJ c full (o :: l) Γ H K := by
  intro a w Q hQ ⟨hdf, hn, m, hs, hgd, hG, he, hsat, hf⟩
  refine wpListIn_plain hg fun K' hK' => ?_
  refine Upon.wp (h m hs a w hgd hG hsat he hn) ?_
  rintro v w' ⟨i, m', hs', hgd', he', hsat', hfr⟩
  exact hK' _ _ (k i _ w' Q hQ ⟨by rw [put_defers]; exact hdf.step hgd hfr, by rw [put_size]; exact hn, m', hs', hgd', c.G.mono hfr.le hG, he', hsat', hf.trans hfr⟩)

/-- A type's zero. -/
def ZeroR (R : Rep α) (x : α) (cs : List Value) : Prop := ∀ m, R.rel m cs x
def zeroB (P : Program) (T : TypeId) : Option (List Value) := ((P.info? T).bind (·.zero)).map fun v => v.cells.toList
theorem zero_i64 : ZeroR i64 0 [.int .i64 0] := fun _ => rfl
theorem zero_un {k : IntKind} {w : Nat} : ZeroR (un k w) 0#w [.int k 0] := fun _ => by simp [un]
theorem zero_bl : ZeroR bl false [.bool false] := fun _ => rfl
theorem zero_sl {R : Rep α} : ZeroR (sl R) [] [.slice none 0 0] := fun _ => ⟨none, 0, rfl, Nat.le_refl _, .inl rfl⟩
theorem zero_ptr {R : Rep α} : ZeroR (ptr R) none [.pointer none] := fun _ => rfl
theorem zero_prod {R : Rep α} {S : Rep β} {x : α} {y : β} {cs ds : List Value} (h : ZeroR R x cs) (k : ZeroR S y ds) : ZeroR (prod R S) (x, y) (cs ++ ds) := fun m => ⟨cs, ds, rfl, h m, k m⟩
theorem zero_vec {R : Rep α} {x : α} {cs : List Value} (n : Nat) (h : ZeroR R x cs) : ZeroR (vec n R) (Vector.replicate n x) (List.replicate n cs).flatten := by
  intro m
  show RowC R m _ (Vector.replicate n x).toList
  have e : (Vector.replicate n x).toList = List.replicate n x := Vector.toList_replicate
  rw [e]
  clear e
  induction n with
  | zero => rfl
  | succ n ih => exact ⟨cs, _, rfl, h m, ih⟩
theorem zeroB_run {P : Program} {T : TypeId} {cs : List Value} (h : zeroB P T = some cs) (w : World) : ∃ v, (zeroValue T).run P w = .ok v w ∧ v.cells = cs.toArray := by
  unfold zeroB at h
  cases hi : P.info? T with
  | none => simp [hi] at h
  | some i =>
    cases hz : i.zero with
    | none => simp [hi, hz] at h
    | some v =>
      simp [hi, hz] at h
      exact ⟨v, by simp [zeroValue, typeInfo, hi, hz], by rw [← h]⟩
theorem j_alloc {T : TypeId} {R : Rep α} {x : α} {cs : List Value} (hz : ZeroR R x cs) (hT : zeroB c.P T = some cs) (hN : Nat.blt d c.N = true)
    (k : ∀ b, OpsJ c full l ((d, val (.pointer (some ⟨b, 0, none⟩))) :: Γ) (box b T R x :: H) K) : OpsJ c full (⟨some d, .alloc T, ty, pos, aft, none⟩ :: l) Γ H K := by
  refine j_step_ex (Γ2 := fun b => (d, val (.pointer (some ⟨b, 0, none⟩))) :: Γ) (H2 := fun b => box b T R x :: H) rfl ?_ k
  intro m hs a w hg _ hsat he hn
  obtain ⟨v, hv, hc⟩ := zeroB_run hT w
  have hr : (execOp a.eval ⟨some d, .alloc T, ty, pos, aft, none⟩).run c.P w = .ok (.value (.pointer (some ⟨w.heap.size, 0, none⟩))) (w.alloc (.cells cs.toArray T)) := by
    simp [execOp, Instr.alloc, hv, newVar, newRow, hc]
  rw [hr]
  exact ⟨w.heap.size, m, _, hg.newOwn T cs, he.put (by rw [hn]; simpa [Nat.blt_eq] using hN) rfl, ⟨[(w.heap.size, T, cs)], hs, rfl, ⟨cs, rfl, hz m⟩, hsat⟩, Frm.alloc _ _ _ _⟩
theorem j_box {T : TypeId} {R : Rep α} {x : α} {y : Operand} (hy : Has Γ y (R.slot x)) (hN : Nat.blt d c.N = true)
    (k : ∀ b, OpsJ c full l ((d, val (.pointer (some ⟨b, 0, none⟩))) :: Γ) (box b T R x :: H) K) : OpsJ c full (⟨some d, .box T y, ty, pos, aft, none⟩ :: l) Γ H K := by
  refine j_step_ex (Γ2 := fun b => (d, val (.pointer (some ⟨b, 0, none⟩))) :: Γ) (H2 := fun b => box b T R x :: H) rfl ?_ k
  intro m hs a w hg _ hsat he hn
  obtain ⟨cs, hc, hr⟩ := Rep.is_cells (hy m a (he.opd y))
  have hrun : (execOp a.eval ⟨some d, .box T y, ty, pos, aft, none⟩).run c.P w = .ok (.value (.pointer (some ⟨w.heap.size, 0, none⟩))) (w.alloc (.cells cs.toArray T)) := by
    simp [execOp, Instr.box, newVar, newRow, hc]
  rw [hrun]
  exact ⟨w.heap.size, m, _, hg.newOwn T cs, he.put (by rw [hn]; simpa [Nat.blt_eq] using hN) rfl, ⟨[(w.heap.size, T, cs)], hs, rfl, ⟨cs, rfl, hr⟩, hsat⟩, Frm.alloc _ _ _ _⟩
theorem Frm.ofPerm {w w' : World} {m m' : Mem} {hs hs1 : Hp} {bs' : List Nat} (p : hs.Perm hs1) (h : Frm w w' m m' hs1.bs bs') : Frm w w' m m' hs.bs bs' := by
  have e : ∀ b, b ∈ hs.bs ↔ b ∈ hs1.bs := fun b => (p.map _).mem_iff
  exact { h with old := fun b hb hn => h.old b hb (fun e' => hn ((e b).2 e')), own := fun b hb => (h.own b hb).imp (e b).2 id }
theorem j_store_box {T T0 : TypeId} {x y : Operand} {b off : Nat} {R : Rep α} {S : Rep β} {r : α} {z : β} {get : α → β} {set : α → β → α} (hx : Has Γ x (val (.pointer (some ⟨b, off, none⟩))))
    (hy : Has Γ y (S.slot z)) (hk : Pick H (box b T0 R r) H') (hp : Path R off S get set) (hT : szB c.P T S.n = true)
    (k : OpsJ c full l Γ (box b T0 R (set r z) :: H') K) : OpsJ c full (⟨none, .store T x y, ty, pos, aft, none⟩ :: l) Γ H K := by
  refine j_step rfl ?_ k
  intro m hs a w hg _ hsat he hn
  have e : a.eval x = _ := hx m a (he.opd x)
  obtain ⟨ds, hc, hd⟩ := Rep.is_cells (hy m a (he.opd y))
  obtain ⟨h1, h2, hpm, ⟨cs, rfl, hr⟩, hs2⟩ := hsat.pick hk
  have hg' := hg.perm hpm
  have hlen : off + S.n ≤ cs.length := by rw [R.len hr]; exact hp.fits
  have hrun : (execOp a.eval ⟨none, .store T x y, ty, pos, aft, none⟩).run c.P w = .ok .skip (setBlk w b T0 (cs.take off ++ ds ++ cs.drop (off + S.n))) := by
    simp only [execOp, e, Sem.run_bind, run_storeAt hT hc (S.len hd) (S.cell hd) (hg'.blk (b, T0, cs) (by simp)) hlen]
    rfl
  rw [hrun]
  refine ⟨m, (b, T0, cs.take off ++ ds ++ cs.drop (off + S.n)) :: h2, hg'.setBlk _, he, ⟨[_], h2, rfl, ⟨_, rfl, hp.set_ok hr hd⟩, hs2⟩, ?_⟩
  exact Frm.ofPerm hpm (Frm.setBlk (by simp [Hp.bs]))
end
end Go.Sl
namespace Go.Sl
section
variable {c : Ctx} {full : Array Oper} {l : List Oper} {Γ Γ' : Env} {H H' : List Ent} {K : Act → World → Prop} {d : Tmp} {od : Option Tmp} {ty : TypeId} {pos : String} {aft : Array Edge} {g : Option (Nat × Bool)} {α β : Type}
/-! ## Own slices and frozen ones, as states -/
theorem St.own_nil {a : Act} {w : World} (T : TypeId) (R : Rep α) (ad : Option Addr) (h : St c Γ H a w) : St c Γ (own T R (.slice ad 0 0) [] :: H) a w := by
  obtain ⟨hd, hn, m, hs, hg, hG, he, hsat, hf⟩ := h
  exact ⟨hd, hn, m, hs, hg, hG, he, ⟨[], hs, rfl, .inl ⟨rfl, rfl, ad, rfl⟩, hsat⟩, hf⟩
theorem j_own_nil {Γ : Env} (T : TypeId) (R : Rep α) (ad : Option Addr) (k : OpsJ c full l Γ (own T R (.slice ad 0 0) [] :: H) K) : OpsJ c full l Γ H K :=
  fun a w Q hQ hst => k a w Q hQ (hst.own_nil T R ad)
theorem own.froze {T : TypeId} {R : Rep α} {v : Value} {xs : List α} {m : Mem} {h1 h2 : Hp} {w : World} {w0 : World} {m0 : Mem} {b0 : List Nat} (ho : (own T R v xs).p m h1) (hg : Good m (h1 ++ h2) w) (hf : Frm w0 w m0 m b0 (Hp.bs (h1 ++ h2))) :
    ∃ m', Mle m m' ∧ Good m' h2 w ∧ ((sl R).slot xs).p m' v ∧ Frm w0 w m0 m' b0 h2.bs ∧ (∀ b, b ∉ h1.bs → ∀ o, m' b o = m b o) := by
  rcases ho with ⟨rfl, rfl, a, rfl⟩ | ⟨b, cap, row, spare, rfl, rfl, hr, hc, hl⟩
  · exact ⟨m, Mle.refl m, hg, ⟨a, 0, rfl, Nat.le_refl _, .inl rfl⟩, hf, fun _ _ _ => rfl⟩
  · have hle := hg.le_put
    refine ⟨m.put b (row ++ spare), hle, hg.freeze, ⟨_, cap, rfl, hc, .inr ⟨b, 0, row, rfl, hr.mono hle, ?_⟩⟩, hf.freeze hle, ?_⟩
    · intro j v e
      have := Mem.at_put m b (row ++ spare) j v (by rw [List.getElem?_append_left]; exact e; exact (List.getElem?_eq_some_iff.1 e).1)
      exact this
    · intro b' hb o
      have hne : b' ≠ b := fun e => hb (by simp [Hp.bs, e])
      simp [Mem.put, hne]
theorem envOK_map {Γ : Env} {m : Mem} {a : Act} {s s' : Slot} : ∀ (ts : List Nat), EnvOK Γ m a → (∀ t ∈ ts, s'.p m (a.tmps.getD t undef)) → EnvOK (ts.map (fun t => (t, s')) ++ Γ) m a
  | [], h, _ => h
  | t :: ts, h, k => by
    intro t' s2 e
    by_cases ht : t = t'
    · subst ht
      simp only [List.map_cons, List.cons_append, lk_cons_self] at e
      cases e
      exact k t (by simp)
    · simp only [List.map_cons, List.cons_append] at e
      rw [lk_cons_ne ht] at e
      exact envOK_map (s := s) ts h (fun u hu => k u (by simp [hu])) t' s2 e
/-- A slice of the call's own is made one that stays. -/
theorem St.freeze {a : Act} {w : World} {T : TypeId} {R : Rep α} {v : Value} {xs : List α} (ts : List Nat) (hk : Pick H (own T R v xs) H') (ht : ∀ t ∈ ts, Imp Γ t (ov v)) (h : St c Γ H a w) :
    St c (ts.map (fun t => (t, (sl R).slot xs)) ++ Γ) H' a w := by
  obtain ⟨hd, hn, m, hs, hg, hG, he, ⟨h1, h2, rfl, ho, hsat⟩, hf⟩ := h.pick hk
  obtain ⟨m', hle, hg', hv, hf', _⟩ := own.froze ho hg hf
  refine ⟨hd, hn, m', h2, hg', c.G.mono hle hG, envOK_map (s := ov v) ts (he.mono hle) (fun t h => ?_), hsat.mono hle, hf'⟩
  have : a.tmps.getD t undef = v := (ov_p.1 (ht t h m a he)).1
  rw [this]; exact hv
theorem j_freeze {T : TypeId} {R : Rep α} {v : Value} {xs : List α} (ts : List Nat) (hk : Pick H (own T R v xs) H') (ht : ∀ t ∈ ts, Imp Γ t (ov v))
    (k : OpsJ c full l (ts.map (fun t => (t, (sl R).slot xs)) ++ Γ) H' K) : OpsJ c full l Γ H K := fun a w Q hQ hst => k a w Q hQ (hst.freeze ts hk ht)
/-- A variable of the call's own is made one that stays. -/
theorem St.freezeBox {a : Act} {w : World} {T : TypeId} {R : Rep α} {b : Nat} {x : α} (ts : List Nat) (hk : Pick H (box b T R x) H') (ht : ∀ t ∈ ts, Imp Γ t (val (.pointer (some ⟨b, 0, none⟩)))) (h : St c Γ H a w) :
    St c (ts.map (fun t => (t, (ptr R).slot (some x))) ++ Γ) H' a w := by
  obtain ⟨hd, hn, m, hs, hg, hG, he, ⟨h1, h2, rfl, ⟨cs, rfl, hr⟩, hsat⟩, hf⟩ := h.pick hk
  have hle := hg.le_put
  refine ⟨hd, hn, m.put b cs, h2, hg.freeze, c.G.mono hle hG, envOK_map (s := val (.pointer (some ⟨b, 0, none⟩))) ts (he.mono hle) (fun t h => ?_), hsat.mono hle, hf.freeze hle⟩
  have : a.tmps.getD t undef = _ := ht t h m a he
  rw [this]
  exact ⟨b, 0, cs, rfl, R.mono hle hr, Mem.at_put m b cs⟩
/-! ## What an append or a copy reads -/
def Src (c : Ctx) (Γ : Env) (H : List Ent) (x : Operand) (R : Rep α) (xs : List α) : Prop :=
  ∀ m hs a w, Good m hs w → Sat H m hs → Opd Γ m a x → ∃ a0 cap, a.eval x = .slice a0 xs.length cap ∧ (xs = [] ∨ ∃ b o row, a0 = some ⟨b, o, none⟩ ∧ RowC R m row xs ∧ ∀ j v, row[j]? = some v → w.cell? ⟨b, o + j, none⟩ = some v)
theorem src_data {x : Operand} {R : Rep α} {xs : List α} (hx : Has Γ x ((sl R).slot xs)) : Src c Γ H x R xs := by
  intro m hs a w hg _ he
  obtain ⟨a0, cap, e, hc, h⟩ := hx m a he
  simp only [List.cons.injEq, and_true] at e
  exact ⟨a0, cap, e, h.imp id fun ⟨b, o, row, e', p, q⟩ => ⟨b, o, row, e', p, fun j v ev => hg.mem _ _ _ (q j v ev)⟩⟩
theorem src_own {x : Operand} {T : TypeId} {v : Value} {R : Rep α} {xs : List α} (hx : Has Γ x (ov v)) (hk : Pick H (own T R v xs) H') : Src c Γ H x R xs := by
  intro m hs a w hg hsat he
  have e : a.eval x = v := (ov_p.1 (hx m a he)).1
  obtain ⟨h1, h2, hp, ho, _⟩ := hsat.pick hk
  rw [e]
  rcases ho with ⟨rfl, _, ad, rfl⟩ | ⟨b, cap, row, spare, rfl, rfl, hr, hc, hl⟩
  · exact ⟨ad, 0, rfl, .inl rfl⟩
  · refine ⟨_, cap, rfl, .inr ⟨b, 0, row, rfl, hr, fun j u ev => ?_⟩⟩
    have hmem : (b, T, row ++ spare) ∈ hs := hp.mem_iff.2 (by simp)
    rw [Nat.zero_add]
    exact hg.cells hmem j u (by rw [List.getElem?_append_left]; exact ev; exact (List.getElem?_eq_some_iff.1 ev).1)
theorem src_arr {x : Operand} {T b lo n cap N : Nat} {R : Rep α} {v : Vector α N} (hx : Has Γ x (val (.slice (some ⟨b, lo * R.n, none⟩) n cap))) (hk : Pick H (box b T (vec N R) v) H') (hn : lo + n ≤ N) :
    Src c Γ H x R ((v.toList.drop lo).take n) := by
  intro m hs a w hg hsat he
  have e : a.eval x = _ := hx m a he
  obtain ⟨cs, hmem, hr⟩ := Sat.box (w := w) hsat hk
  have hlen : ((v.toList.drop lo).take n).length = n := by simp; omega
  refine ⟨_, cap, by rw [e, hlen], .inr ⟨b, lo * R.n, (cs.drop (lo * R.n)).take (n * R.n), rfl, (RowC.drop lo hr).take n, fun j u ev => ?_⟩⟩
  rw [List.getElem?_take] at ev
  split at ev
  · rw [List.getElem?_drop] at ev; exact hg.cells hmem _ _ ev
  · cases ev
theorem Src.run {R : Rep α} {xs : List α} {P : Program} {a0 : Option Addr} {m : Mem} {w : World} {cap : Nat}
    (h : xs = [] ∨ ∃ b o row, a0 = some ⟨b, o, none⟩ ∧ RowC R m row xs ∧ ∀ j v, row[j]? = some v → w.cell? ⟨b, o + j, none⟩ = some v) (k : Nat) (hk : k ≤ xs.length) :
    ∃ row, (Builtin.firstCells R.n k (.slice a0 k cap)).run P w = .ok row.toArray w ∧ RowC R m row (xs.take k) ∧ (Builtin.firstCells R.n k (.slice a0 xs.length cap)).run P w = .ok row.toArray w := by
  rcases h with rfl | ⟨b, o, row, rfl, hr, hcl⟩
  · have : k = 0 := by simpa using hk
    subst this
    refine ⟨[], ?_, rfl, ?_⟩ <;> (cases a0 <;> simp [Builtin.firstCells, loadCells, loadCellsFrom])
  · have hr' := hr.take k
    have hl : (row.take (k * R.n)).length = k * R.n := by
      rw [hr'.length, List.length_take, Nat.min_eq_left hk]
    have hrun : (loadCells ⟨b, o, none⟩ (k * R.n)).run P w = .ok (row.take (k * R.n)).toArray w := by
      have := run_loadCells_list (P := P) w ⟨b, o, none⟩ (row.take (k * R.n)) (fun j v e => by
        rw [Addr.add_lit]
        rw [List.getElem?_take] at e
        split at e
        · exact hcl j v e
        · cases e)
      rwa [hl] at this
    exact ⟨_, hrun, hr', hrun⟩

/-! ## append -/
/-- What is asked of a slice's type and its element's. -/
def slE (P : Program) (ST T n : Nat) : Bool :=
  (match P.underlying ST with
   | some (.slice e) => e == T
   | _ => false) && (match P.info? T with
   | some i => i.size == n && decide (0 < i.bytes) && decide (i.bytes ≤ 4096) && (match i.zero with | some v => v.cells.size == n | none => false)
   | none => false)
theorem slE_of {P : Program} {ST T n : Nat} (h : slE P ST T n = true) :
    P.underlying ST = some (.slice T) ∧ ∃ i v, P.info? T = some i ∧ i.size = n ∧ 0 < i.bytes ∧ i.bytes ≤ 4096 ∧ i.zero = some v ∧ v.cells.size = n := by
  simp only [slE, Bool.and_eq_true] at h
  obtain ⟨h1, h2⟩ := h
  constructor
  · split at h1
    · rename_i e hu; have : e = T := by simpa using h1
      rw [hu, this]
    · cases h1
  · split at h2
    · rename_i i hi
      simp only [Bool.and_eq_true, decide_eq_true_eq] at h2
      obtain ⟨⟨⟨h3, h4⟩, h5⟩, h6⟩ := h2
      split at h6
      · rename_i v hv
        exact ⟨i, v, hi, by simpa using h3, h4, h5, hv, by simpa using h6⟩
      · cases h6
    · cases h2
theorem nextslicecap_le (need old : Nat) (h : old < need) : Builtin.nextslicecap need old ≤ 4 * need + 4096 := by
  unfold Builtin.nextslicecap
  split
  · omega
  · split
    · omega
    · have key : ∀ r c, c ≤ 2 * need + 1000 → Builtin.growBy need r c ≤ 3 * need + 2000 := by
        intro r
        induction r with
        | zero => intro c hc; unfold Builtin.growBy; omega
        | succ r ih =>
          intro c hc
          unfold Builtin.growBy
          split
          · omega
          · exact ih _ (by omega)
      have := key 4 old (by omega)
      omega

theorem append_fits {P : Program} {w w' : World} {ST XT T rt E : TypeId} {size sLen sCap n c0 : Nat} {base a0 : Option Addr} {new : Array Value}
    (hu : P.underlying ST = some (.slice T)) (hX : P.underlying XT = some (.slice E)) (hsize : (sizeOf T).run P w = .ok size w) (hfit : sLen + n ≤ sCap)
    (hrun : (Builtin.firstCells size n (.slice a0 n c0)).run P w = .ok new w)
    (hst : (match base with | some a => storeCells (a.add (sLen * size)) new.toList | none => pure ()).run P w = .ok () w') :
    (Builtin.append_ #[ST, XT] rt #[.slice base sLen sCap, .slice a0 n c0]).run P w = .ok (.slice base (sLen + n) sCap) w' := by
  simp only [Builtin.append_, List.getElem?_toArray, List.getElem?_cons_zero, List.getElem?_cons_succ]
  simp only [Sem.run_bind, run_underlying hu, run_underlying hX, Result.andThen_ok, hsize, Sem.run_pure, Bool.false_eq_true, if_false, Builtin.lenOf, Bool.not_false, if_true, hfit, hrun]
  cases base with
  | none => simp only [Sem.run_pure, Result.ok.injEq, true_and] at hst; subst hst; rfl
  | some ad => simp only [Sem.run_bind, hst, Result.andThen_ok, Sem.run_pure]
theorem append_grows {P : Program} {w : World} {ST XT T rt E : TypeId} {size sLen sCap n c0 : Nat} {base a0 : Option Addr} {old new : Array Value} {i : TypeInfo} {z : Value}
    (hu : P.underlying ST = some (.slice T)) (hX : P.underlying XT = some (.slice E)) (hi : P.info? T = some i) (hsz : i.size = size) (hz : i.zero = some z) (hb0 : 0 < i.bytes) (hfit : ¬ sLen + n ≤ sCap)
    (hcap : ¬ (Builtin.nextslicecap (sLen + n) sCap * i.bytes > 2 ^ 48))
    (hold : (Builtin.firstCells size sLen (.slice base sLen sCap)).run P w.drew = .ok old w.drew)
    (hnew : (Builtin.firstCells size n (.slice a0 n c0)).run P w.drew = .ok new w.drew) :
    ∃ newCap, sLen + n ≤ newCap ∧ (Builtin.append_ #[ST, XT] rt #[.slice base sLen sCap, .slice a0 n c0]).run P w =
      .ok (.slice (some ⟨w.heap.size, 0, none⟩) (sLen + n) newCap) (w.drew.alloc (.cells (old ++ new ++ Builtin.zeroCells z.cells (newCap - (sLen + n))) T)) := by
  refine ⟨(Question.appendCap (sLen + n) sCap T).cut (w.tape w.drawn (.appendCap (sLen + n) sCap T)), Nat.le_add_right _ _, ?_⟩
  have hnm : ¬ (((sLen + n : Nat) : Int) > IntKind.i64.max ∧ (False ∨ i.bytes = 0)) := by
    rintro ⟨_, h | h⟩
    · exact h
    · omega
  have hti : ∀ w : World, (typeInfo T).run P w = .ok i w := fun w => by simp [typeInfo, hi]
  have hzv : ∀ w : World, (zeroValue T).run P w = .ok z w := fun w => by simp [zeroValue, hti, hz]
  have hsize : ∀ w : World, (sizeOf T).run P w = .ok size w := fun w => by simp [sizeOf, hti, hsz]
  have hch : (choose (.appendCap (sLen + n) sCap T)).run P w = .ok ((Question.appendCap (sLen + n) sCap T).cut (w.tape w.drawn (.appendCap (sLen + n) sCap T))) w.drew := by
    rw [run_choose]; rfl
  have hnm2 : ¬ (((sLen + n : Nat) : Int) > IntKind.i64.max ∧ ((false = true) ∨ i.bytes = 0)) := by simpa using hnm
  simp only [Builtin.append_, List.getElem?_toArray, List.getElem?_cons_zero, List.getElem?_cons_succ]
  simp only [Sem.run_bind, run_underlying hu, run_underlying hX, Result.andThen_ok, hsize, Sem.run_pure, Bool.false_eq_true, if_false, Builtin.lenOf, Bool.not_false, if_true, hfit, hti, hcap, hch, run_askRoom, hold, hnew, hzv, newRow]
  have hnm3 : ¬ (((sLen + n : Nat) : Int) > IntKind.i64.max ∧ (False ∨ i.bytes = 0)) := hnm
  simp only [hnm3, if_false, Sem.run_bind, hti, Result.andThen_ok, hcap, hch, run_askRoom, hold, hnew, hzv, run_newObj, Sem.run_pure, Sem.run_ite]
  rfl
theorem run_append {P : Program} {w : World} {m : Mem} {h1 h2 : Hp} {ST XT T rt E : TypeId} {R : Rep α} {v : Value} {ys xs : List α} {a0 : Option Addr} {cap0 : Nat}
    (hT : slE P ST T R.n = true) (hX : P.underlying XT = some (.slice E)) (hg : Good m (h1 ++ h2) w) (ho : (own T R v ys).p m h1)
    (hsrc : xs = [] ∨ ∃ b o row, a0 = some ⟨b, o, none⟩ ∧ RowC R m row xs ∧ ∀ j v, row[j]? = some v → w.cell? ⟨b, o + j, none⟩ = some v) (hb : ys.length + xs.length ≤ 4294967296) :
    ∃ v' h1' w', (Builtin.append_ #[ST, XT] rt #[v, .slice a0 xs.length cap0]).run P w = .ok v' w' ∧ (own T R v' (ys ++ xs)).p m h1' ∧ Good m (h1' ++ h2) w' ∧ Frm w w' m m (Hp.bs (h1 ++ h2)) (Hp.bs (h1' ++ h2)) := by
  obtain ⟨hu, i, z, hi, hsz, hb0, hb1, hz, hzc⟩ := slE_of hT
  obtain ⟨rx, hrunT, hrx, hrun⟩ := Src.run (P := P) (R := R) (cap := cap0) hsrc xs.length (Nat.le_refl _)
  rw [List.take_length] at hrx
  obtain ⟨av, capv, hv, hcv⟩ := own.shape ho
  have hsize : (sizeOf T).run P w = .ok R.n w := by simp [sizeOf, typeInfo, hi, hsz]
  by_cases hfit : ys.length + xs.length ≤ capv
  · rcases ho with ⟨rfl, rfl, ad, hv2⟩ | ⟨b, cap, row, spare, hv2, rfl, hr, hc, hl⟩
    · rw [hv2] at hv ⊢
      simp only [List.length_nil, Value.slice.injEq] at hv
      obtain ⟨_, _, rfl⟩ := hv
      have hx0 : xs = [] := by simpa using hfit
      subst hx0
      have hrx0 : rx = [] := by simpa [RowC] using hrx
      subst hrx0
      refine ⟨.slice ad 0 0, [], w, ?_, .inl ⟨rfl, rfl, ad, rfl⟩, by simpa using hg, by simpa using Frm.refl w m h2.bs⟩
      exact append_fits hu hX hsize (by simp) hrun (by cases ad <;> simp [storeCells])
    · rw [hv2] at hv ⊢
      simp only [Value.slice.injEq] at hv
      obtain ⟨_, _, rfl⟩ := hv
      have hlr := hr.length
      have hlx := hrx.length
      have hcells : (ys.length + xs.length) * R.n ≤ (row ++ spare).length := by rw [hl]; exact Nat.mul_le_mul_right _ hfit
      rw [Nat.add_mul] at hcells
      have hblk := hg.blk (b, T, row ++ spare) (by simp)
      have hst := run_storeCells (P := P) (b := b) (o := ys.length * R.n) (T := T) rx 0 (row ++ spare) w hrx.cell hblk (by rw [hlx]; omega)
      simp only [Nat.add_zero] at hst
      have etake : (row ++ spare).take (ys.length * R.n) = row := by rw [← hlr, List.take_left']; rfl
      rw [etake, List.append_assoc] at hst
      refine ⟨.slice (some ⟨b, 0, none⟩) (ys.length + xs.length) cap, [(b, T, row ++ (rx ++ (row ++ spare).drop (ys.length * R.n + rx.length)))], _, ?_, ?_, hg.setBlk _, Frm.setBlk (by simp [Hp.bs])⟩
      · exact append_fits hu hX hsize hfit hrun (by simpa [Addr.add_lit] using hst)
      · refine .inr ⟨b, cap, row ++ rx, (row ++ spare).drop (ys.length * R.n + rx.length), by simp, by simp, hr.append hrx, by simpa using hfit, ?_⟩
        rw [List.length_append, List.length_append, List.length_drop, hlx, hlr, hl]
        rw [hl] at hcells
        omega
  · have hro : (∃ rowo, RowC R m rowo ys ∧ (Builtin.firstCells R.n ys.length (.slice av ys.length capv)).run P (w.drew) = .ok rowo.toArray w.drew) := by
      rcases ho with ⟨rfl, rfl, ad, hv2⟩ | ⟨b, cap, row, spare, hv2, rfl, hr, hc, hl⟩
      · refine ⟨[], rfl, ?_⟩
        cases av <;> simp [Builtin.firstCells, loadCells, loadCellsFrom]
      · rw [hv2] at hv
        simp only [Value.slice.injEq] at hv
        obtain ⟨rfl, _, rfl⟩ := hv
        refine ⟨row, hr, ?_⟩
        have := run_loadCells_list (P := P) w.drew ⟨b, 0, none⟩ row (fun j u e => by
          rw [Addr.add_lit, Nat.zero_add]
          exact hg.drew.cells (T := T) (cs := row ++ spare) (by simp) j u (by rw [List.getElem?_append_left]; exact e; exact (List.getElem?_eq_some_iff.1 e).1))
        rw [hr.length] at this
        exact this
    obtain ⟨rowo, hro, hrunO⟩ := hro
    obtain ⟨rx', _, hrx', hrun'⟩ := Src.run (P := P) (R := R) (w := w.drew) (cap := cap0) (m := m) (a0 := a0) (xs := xs) hsrc xs.length (Nat.le_refl _)
    rw [List.take_length] at hrx'
    have hcap := nextslicecap_le (ys.length + xs.length) capv (by omega)
    have hnb : ¬ (Builtin.nextslicecap (ys.length + xs.length) capv * i.bytes > 2 ^ 48) := by
      have h1 : Builtin.nextslicecap (ys.length + xs.length) capv ≤ 4 * 4294967296 + 4096 := by omega
      have h2 : Builtin.nextslicecap (ys.length + xs.length) capv * i.bytes ≤ (4 * 4294967296 + 4096) * 4096 := Nat.mul_le_mul h1 hb1
      have h3 : (4 * 4294967296 + 4096) * 4096 ≤ 2 ^ 48 := by decide
      omega
    obtain ⟨newCap, hnc, happ⟩ := append_grows (P := P) (rt := rt) (z := z) hu hX hi hsz hz hb0 hfit hnb hrunO hrun'
    rw [hv]
    have hzc' : z.cells.size = R.n := hzc
    let rest := (Builtin.zeroCells z.cells (newCap - (ys.length + xs.length))).toList
    have hrl : rest.length = (newCap - (ys.length + xs.length)) * R.n := by simp [rest, Builtin.zeroCells, hzc']
    have hcs : rowo.toArray ++ rx'.toArray ++ Builtin.zeroCells z.cells (newCap - (ys.length + xs.length)) = ((rowo ++ rx') ++ rest).toArray := by
      simp [rest]
    rw [hcs] at happ
    refine ⟨_, [(w.heap.size, T, (rowo ++ rx') ++ rest)], _, happ, .inr ⟨w.heap.size, newCap, rowo ++ rx', rest, by simp, rfl, hro.append hrx', by simpa using hnc, ?_⟩, ?_, ?_⟩
    · rw [List.length_append, List.length_append, hro.length, hrx'.length, hrl, ← Nat.add_mul, ← Nat.add_mul]
      congr 1; omega
    · exact (Good.sub hg).drew.newOwn T _
    · have h3 := Frm.alloc w.drew m h2.bs (.cells ((rowo ++ rx') ++ rest).toArray T)
      have h4 : Frm w w.drew m m (Hp.bs (h1 ++ h2)) h2.bs := (Frm.drew w m _).sub fun b hb => by rw [Hp.bs_append]; exact List.mem_append.2 (.inr hb)
      exact h4.trans h3
theorem j_append {ST XT T E : TypeId} {x y : Operand} {R : Rep α} {v : Value} {ys xs : List α} (hx : Has Γ x (ov v)) (hk : Pick H (own T R v ys) H') (hy : Src c Γ H y R xs)
    (hT : slE c.P ST T R.n = true) (hX : c.P.underlying XT = some (.slice E)) (hb : ys.length + xs.length ≤ 4294967296) (hN : Nat.blt d c.N = true)
    (k : ∀ v', OpsJ c full l ((d, ov v') :: Γ) (own T R v' (ys ++ xs) :: H') K) :
    OpsJ c full (⟨some d, .call { callee := .builtin .append, args := #[x, y], argTypes := #[ST, XT] }, ty, pos, aft, none⟩ :: l) Γ H K := by
  refine j_step_ex (Γ2 := fun v' => (d, ov v') :: Γ) (H2 := fun v' => own T R v' (ys ++ xs) :: H') rfl ?_ k
  intro m hs a w hg _ hsat he hn
  have ex : a.eval x = v := (ov_p.1 (hx m a (he.opd x))).1
  obtain ⟨a0, cap0, ey, hsrc⟩ := hy m hs a w hg hsat (he.opd y)
  obtain ⟨h1, h2, hpm, ho, hs2⟩ := hsat.pick hk
  have hsrc' : xs = [] ∨ ∃ b o row, a0 = some ⟨b, o, none⟩ ∧ RowC R m row xs ∧ ∀ j v, row[j]? = some v → w.cell? ⟨b, o + j, none⟩ = some v := hsrc
  obtain ⟨v', h1', w', hrun, ho', hg', hf'⟩ := run_append (rt := ty) (cap0 := cap0) hT hX (hg.perm hpm) ho hsrc' hb
  have hr : (execOp a.eval ⟨some d, .call { callee := .builtin .append, args := #[x, y], argTypes := #[ST, XT] }, ty, pos, aft, none⟩).run c.P w = .ok (.value v') w' := by
    simp only [execOp, resolve, Sem.run_bind, Sem.run_pure, Result.andThen_ok, invoke, builtin]
    simp only [List.map_toArray, List.map_cons, List.map_nil, ex, ey, hrun, Result.andThen_ok]
  rw [hr]
  exact ⟨v', m, h1' ++ h2, hg', he.put (by rw [hn]; simpa [Nat.blt_eq] using hN) (ov_p.2 ⟨rfl, own.one ho'⟩), ⟨h1', h2, rfl, ho', hs2⟩, Frm.ofPerm hpm hf'⟩
end
end Go.Sl
namespace Go.Sl
section
variable {c : Ctx} {full : Array Oper} {l : List Oper} {Γ Γ' : Env} {H H' : List Ent} {K : Act → World → Prop} {d : Tmp} {od : Option Tmp} {ty : TypeId} {pos : String} {aft : Array Edge} {g : Option (Nat × Bool)} {α β : Type}
/-! ## Calls -/
def HasL (Γ : Env) : List Operand → List Slot → Prop
  | [], ss => ss = []
  | x :: xs, ss => ∃ s ss', ss = s :: ss' ∧ Has Γ x s ∧ HasL Γ xs ss'
theorem hasL_nil : HasL Γ [] [] := rfl
theorem hasL_cons {x : Operand} {xs : List Operand} {s : Slot} {ss : List Slot} (h : Has Γ x s) (k : HasL Γ xs ss) : HasL Γ (x :: xs) (s :: ss) := ⟨s, ss, rfl, h, k⟩
theorem HasL.all {m : Mem} {a : Act} : ∀ {xs : List Operand} {ss : List Slot}, HasL Γ xs ss → (∀ x ∈ xs, Opd Γ m a x) → All2 m ss (xs.map a.eval)
  | [], _, h, _ => by cases h; rfl
  | x :: xs, _, ⟨s, ss', e, h, k⟩, ho => by subst e; exact ⟨_, _, rfl, h m a (ho x (by simp)), HasL.all k (fun y hy => ho y (by simp [hy]))⟩
def callB (P : Program) (f : FuncId) : Bool :=
  match P.funcs[f]? with
  | some fn => fn.name != "runtime.NumGoroutine" && fn.body.isSome
  | none => false
theorem run_callFunc {P : Program} {f : FuncId} (h : callB P f = true) (args : Array Value) (w : World) : (callFunc f args).run P w = .ok (.enter f args) w := by
  unfold callB at h
  split at h
  · rename_i fn hf
    simp only [Bool.and_eq_true] at h
    obtain ⟨h1, h2⟩ := h
    have e1 : (fn.name == "runtime.NumGoroutine") = false := by simpa [bne] using h1
    have e2 : fn.body.isNone = false := by cases hb : fn.body <;> simp [hb] at h2 ⊢
    simp only [callFunc, Sem.run_bind, run_program, Result.andThen_ok, hf, e1, Bool.false_eq_true, if_false, e2, Sem.run_pure]
  · cases h
theorem run_call {P : Program} {f : FuncId} (h : callB P f = true) (ρ : Operand → Value) (x : Operand) (hx : ρ x = .func (.func f) #[] #[]) (args : List Operand) (ats : Array TypeId) (w : World) (od : Option Tmp) (g : Option (Nat × Bool)) :
    (execOp ρ ⟨od, .call { callee := .value x, args := args.toArray, argTypes := ats }, ty, pos, aft, g⟩).run P w = .ok (.enter f (args.map ρ).toArray) w := by
  simp only [execOp, resolve, Sem.run_bind, hx, Deferred.ofValue, Sem.run_pure, Result.andThen_ok, invoke]
  rw [run_callFunc h]
  simp
theorem PJ_call {x : Operand} {f : FuncId} {args : List Operand} {ats : Array TypeId} {A : List Slot} {ι : Type} {s : Slot} {ε : ι → List Ent} (hx : Has Γ x (val (.func (.func f) #[] #[]))) (hA : HasL Γ args A) (hf : callB c.P f = true)
    (hC : Ctr c.P c.G f A [] (fun _ : ι => s) (fun _ => [])) : PJ c ⟨od, .call { callee := .value x, args := args.toArray, argTypes := ats }, ty, pos, aft, g⟩ Γ H s := by
  intro m hs a w hg hG hsat ho
  have hxe : a.eval x = _ := hx m a (ho x (by simp [Op.operands, Call.operands]))
  rw [run_call hf a.eval x hxe]
  have hall := hA.all (m := m) (a := a) (fun y hy => ho y (by simp [Op.operands, Call.operands, hy]))
  have hg0 : Good m [] w := ⟨hg.mem, List.nodup_nil, (fun _ h => by cases h), (fun _ h => by cases h)⟩
  refine (hC m w (args.map a.eval) [] hg0 hG hall rfl).mono ?_
  rintro e w' ⟨v, m', hs', i, rfl, hg', hv, hsat', hf'⟩
  cases hsat'
  refine ⟨v, rfl, m', ?_, hv, hf'⟩
  refine ⟨hg'.mem, hg.nodup, fun x hx => ?_, fun x hx o => ?_⟩
  · have hlt := hg.ltb (List.mem_map_of_mem (f := (·.1)) hx)
    rw [(hf'.old x.1 hlt (by simp [Hp.bs])).1]
    exact hg.blk x hx
  · have hlt := hg.ltb (List.mem_map_of_mem (f := (·.1)) hx)
    rw [(hf'.old x.1 hlt (by simp [Hp.bs])).2 o]
    exact hg.free x hx o
theorem pj_call {f : FuncId} {args : List Operand} {ats : Array TypeId} {A : List Slot} {s : Slot} (hA : HasL Γ args A) (hf : callB c.P f = true)
    (hC : Ctr c.P c.G f A [] (fun _ : Unit => s) (fun _ => [])) : PJ c ⟨od, .call { callee := .value (.func f), args := args.toArray, argTypes := ats }, ty, pos, aft, g⟩ Γ H s :=
  PJ_call (ε := fun _ : Unit => []) has_func hA hf hC
/-! ### Lending -/
def ext (m : Mem) (hs : Hp) : Mem := fun b o => match hs.find? (fun h => h.1 == b) with | some h => h.2.2[o]? | none => m b o
theorem ext_mem {m : Mem} {hs : Hp} {b : Nat} {T : TypeId} {cs : List Value} (hn : hs.bs.Nodup) (h : (b, T, cs) ∈ hs) (o : Nat) : ext m hs b o = cs[o]? := by
  have : hs.find? (fun h => h.1 == b) = some (b, T, cs) := by
    induction hs with
    | nil => cases h
    | cons x xs ih =>
      simp only [Hp.bs, List.map_cons, List.nodup_cons] at hn
      rcases List.mem_cons.1 h with rfl | h'
      · simp
      · have hne : x.1 ≠ b := fun e => hn.1 (by rw [e]; exact List.mem_map_of_mem (f := (·.1)) h')
        rw [List.find?_cons_of_neg (by simpa using hne)]
        exact ih hn.2 h'
  simp [ext, this]
theorem ext_not {m : Mem} {hs : Hp} {b : Nat} (h : b ∉ hs.bs) (o : Nat) : ext m hs b o = m b o := by
  have : hs.find? (fun h => h.1 == b) = none := by
    rw [List.find?_eq_none]
    intro x hx e
    exact h (by have : x.1 = b := by simpa using e
                rw [← this]; exact List.mem_map_of_mem (f := (·.1)) hx)
  simp [ext, this]
theorem ext_le {m : Mem} {hs : Hp} {w : World} (hg : Good m hs w) : Mle m (ext m hs) := by
  intro b o v e
  by_cases hb : b ∈ hs.bs
  · obtain ⟨x, hx, rfl⟩ := List.mem_map.1 hb
    rw [hg.free x hx o] at e; cases e
  · rw [ext_not hb]; exact e
theorem Good.ext {m : Mem} {hs : Hp} {w : World} (hg : Good m hs w) : Good (ext m hs) [] w where
  mem := fun b o v e => by
    by_cases hb : b ∈ hs.bs
    · obtain ⟨x, hx, rfl⟩ := List.mem_map.1 hb
      rw [ext_mem (T := x.2.1) (cs := x.2.2) hg.nodup hx] at e
      exact hg.cells (T := x.2.1) (cs := x.2.2) hx o v e
    · rw [ext_not hb] at e; exact hg.mem b o v e
  nodup := List.nodup_nil
  blk := fun _ h => by cases h
  free := fun _ h => by cases h
/-- An argument that is lent: it reads as 's' while the call's own memory is seen as memory that stays. -/
def HasB (c : Ctx) (Γ : Env) (H : List Ent) (x : Operand) (s : Slot) : Prop :=
  ∀ m hs a w, Good m hs w → Sat H m hs → Opd Γ m a x → s.p (ext m hs) (a.eval x)
theorem hasB_of {x : Operand} {s : Slot} (h : Has Γ x s) : HasB c Γ H x s := fun m hs a w hg _ ho => s.mono (ext_le hg) (h m a ho)
theorem hasB_own {x : Operand} {T : TypeId} {v : Value} {R : Rep α} {xs : List α} (hx : Has Γ x (ov v)) (hk : Pick H (own T R v xs) H') : HasB c Γ H x ((sl R).slot xs) := by
  intro m hs a w hg hsat ho
  have e : a.eval x = v := (ov_p.1 (hx m a ho)).1
  rw [e]
  obtain ⟨h1, h2, hp, ho, _⟩ := hsat.pick hk
  rcases ho with ⟨rfl, _, ad, rfl⟩ | ⟨b, cap, row, spare, rfl, rfl, hr, hc, hl⟩
  · exact ⟨ad, 0, rfl, Nat.le_refl _, .inl rfl⟩
  · refine ⟨_, cap, rfl, hc, .inr ⟨b, 0, row, rfl, hr.mono (ext_le hg), fun j u ev => ?_⟩⟩
    rw [ext_mem (T := T) (cs := row ++ spare) hg.nodup (hp.mem_iff.2 (by simp)), Nat.zero_add, List.getElem?_append_left]
    · exact ev
    · exact (List.getElem?_eq_some_iff.1 ev).1
theorem hasB_arr {x : Operand} {T b lo n cap N : Nat} {R : Rep α} {v : Vector α N} (hx : Has Γ x (val (.slice (some ⟨b, lo * R.n, none⟩) n cap))) (hk : Pick H (box b T (vec N R) v) H') (hn : lo + n ≤ N) (hc : n ≤ cap) :
    HasB c Γ H x ((sl R).slot ((v.toList.drop lo).take n)) := by
  intro m hs a w hg hsat ho
  have e : a.eval x = _ := hx m a ho
  rw [e]
  obtain ⟨cs, hmem, hr⟩ := Sat.box (w := w) hsat hk
  have hlen : ((v.toList.drop lo).take n).length = n := by simp; omega
  refine ⟨_, cap, by rw [hlen], by rw [hlen]; exact hc, .inr ⟨b, lo * R.n, (cs.drop (lo * R.n)).take (n * R.n), rfl, ((RowC.drop lo hr).take n).mono (ext_le hg), fun j u ev => ?_⟩⟩
  rw [ext_mem (T := T) (cs := cs) hg.nodup hmem]
  rw [List.getElem?_take] at ev
  split at ev
  · rwa [List.getElem?_drop] at ev
  · cases ev
def HasBL (c : Ctx) (Γ : Env) (H : List Ent) : List Operand → List Slot → Prop
  | [], ss => ss = []
  | x :: xs, ss => ∃ s ss', ss = s :: ss' ∧ HasB c Γ H x s ∧ HasBL c Γ H xs ss'
theorem hasBL_nil : HasBL c Γ H [] [] := rfl
theorem hasBL_cons {x : Operand} {xs : List Operand} {s : Slot} {ss : List Slot} (h : HasB c Γ H x s) (k : HasBL c Γ H xs ss) : HasBL c Γ H (x :: xs) (s :: ss) := ⟨s, ss, rfl, h, k⟩
theorem HasBL.all {m : Mem} {a : Act} {hs : Hp} {w : World} (hg : Good m hs w) (hsat : Sat H m hs) : ∀ {xs : List Operand} {ss : List Slot}, HasBL c Γ H xs ss → (∀ x ∈ xs, Opd Γ m a x) → All2 (ext m hs) ss (xs.map a.eval)
  | [], _, h, _ => by cases h; rfl
  | x :: xs, _, ⟨s, ss', e, h, k⟩, ho => by subst e; exact ⟨_, _, rfl, h m hs a w hg hsat (ho x (by simp)), HasBL.all hg hsat k (fun y hy => ho y (by simp [hy]))⟩
/-- Behind a lent call: the memory without the blocks that were lent. -/
def cut (m' m : Mem) (bs : List Nat) : Mem := fun b o => if b ∈ bs then m b o else m' b o
theorem lent {m m' : Mem} {hs hs' : Hp} {w w' : World} (hg : Good m hs w) (hg' : Good m' hs' w') (hf : Frm w w' (ext m hs) m' [] hs'.bs) :
    Good (cut m' m hs.bs) (hs' ++ hs) w' ∧ Frm w w' m (cut m' m hs.bs) hs.bs (hs' ++ hs).bs := by
  have hold : ∀ x ∈ hs, w'.heap[x.1]? = w.heap[x.1]? := fun x hx => (hf.old x.1 (hg.ltb (List.mem_map_of_mem (f := (·.1)) hx)) (by simp)).1
  have hdis : ∀ b ∈ hs'.bs, b ∉ hs.bs := fun b hb h2 => by
    have h1 := (hf.own b hb).resolve_left (by simp)
    exact absurd (hg.ltb h2) (Nat.not_lt.2 h1)
  refine ⟨⟨fun b o v e => ?_, ?_, fun x hx => ?_, fun x hx o => ?_⟩, ?_⟩
  · unfold cut at e
    split at e
    · rename_i hb
      obtain ⟨x, hx, rfl⟩ := List.mem_map.1 hb
      rw [hg.free x hx o] at e; cases e
    · exact hg'.mem b o v e
  · rw [Hp.bs_append]
    exact List.nodup_append.2 ⟨hg'.nodup, hg.nodup, fun x hx y hy e => hdis x hx (e ▸ hy)⟩
  · rcases List.mem_append.1 hx with hx | hx
    · exact hg'.blk x hx
    · rw [hold x hx]; exact hg.blk x hx
  · rcases List.mem_append.1 hx with hx | hx
    · have : x.1 ∉ hs.bs := hdis x.1 (List.mem_map_of_mem (f := (·.1)) hx)
      simp only [cut, if_neg this]
      exact hg'.free x hx o
    · have : x.1 ∈ hs.bs := List.mem_map_of_mem (f := (·.1)) hx
      simp only [cut, if_pos this]
      exact hg.free x hx o
  · refine ⟨hf.os, hf.tape, hf.output, hf.size, fun b hb hn => ⟨(hf.old b hb (by simp)).1, fun o => ?_⟩, fun b hb => ?_, fun b o v e => ?_⟩
    · simp only [cut, if_neg hn]
      rw [(hf.old b hb (by simp)).2 o, ext_not hn]
    · rw [Hp.bs_append, List.mem_append] at hb
      rcases hb with hb | hb
      · exact .inr ((hf.own b hb).resolve_left (by simp))
      · exact .inl hb
    · unfold cut
      split
      · exact e
      · exact hf.le b o v (ext_le hg b o v e)
theorem pj_callB {f : FuncId} {args : List Operand} {ats : Array TypeId} {A : List Slot} {s : Slot} (hA : HasBL c Γ H args A) (hf : callB c.P f = true)
    (hC : Ctr c.P c.G f A [] (fun _ : Unit => s) (fun _ => [])) (hs : s.flat) : PJ c ⟨od, .call { callee := .value (.func f), args := args.toArray, argTypes := ats }, ty, pos, aft, g⟩ Γ H s := by
  intro m hs2 a w hg hG hsat ho
  rw [run_call hf a.eval (.func f) rfl]
  have hall := hA.all (m := m) (a := a) hg hsat (fun y hy => ho y (by simp [Op.operands, Call.operands, hy]))
  refine (hC (ext m hs2) w (args.map a.eval) [] hg.ext (c.G.mono (ext_le hg) hG) hall rfl).mono ?_
  rintro e w' ⟨v, m', hs', i, rfl, hg', hv, hsat', hf'⟩
  cases hsat'
  obtain ⟨h1, h2⟩ := lent hg hg' hf'
  refine ⟨v, rfl, cut m' m hs2.bs, by simpa using h1, hs _ _ _ hv, ?_⟩
  refine { h2 with old := fun b hb _ => ?_, own := fun b hb => by cases hb }
  by_cases hbb : b ∈ hs2.bs
  · refine ⟨(hf'.old b hb (by simp [Hp.bs])).1, fun o => ?_⟩
    simp only [cut, if_pos hbb]
  · exact h2.old b hb hbb
def Ent.flat (e : Ent) : Prop := ∀ m m' h, e.p m h → e.p m' h
theorem own_flat {T : TypeId} {R : Rep α} (h : R.flat) (v : Value) (xs : List α) : (own T R v xs).flat := fun m m' hs ho => ho.imp id fun ⟨b, cap, row, spare, e, e', p, q⟩ => ⟨b, cap, row, spare, e, e', p.flat h, q⟩
theorem Sat.flat {m m' : Mem} : ∀ {H : List Ent} {hs : Hp}, (∀ e ∈ H, e.flat) → Sat H m hs → Sat H m' hs
  | [], _, _, h => h
  | e :: _, _, k, ⟨h1, h2, he, p, q⟩ => ⟨h1, h2, he, k e (by simp) _ _ _ p, Sat.flat (fun e h => k e (by simp [h])) q⟩
/-- A lent call whose outcome is the caller's own. -/
theorem j_callB {f : FuncId} {args : List Operand} {ats : Array TypeId} {A : List Slot} {ι : Type} {ρ : ι → Slot} {ε : ι → List Ent} (hA : HasBL c Γ H args A) (hf : callB c.P f = true)
    (hC : Ctr c.P c.G f A [] ρ ε) (hs : ∀ i, (ρ i).flat) (he : ∀ i, ∀ e ∈ ε i, e.flat) (hN : Nat.blt d c.N = true)
    (k : ∀ i, OpsJ c full l ((d, ρ i) :: Γ) (ε i ++ H) K) : OpsJ c full (⟨some d, .call { callee := .value (.func f), args := args.toArray, argTypes := ats }, ty, pos, aft, none⟩ :: l) Γ H K := by
  refine j_step_ex (Γ2 := fun i => (d, ρ i) :: Γ) (H2 := fun i => ε i ++ H) rfl ?_ k
  intro m hs2 a w hg hG hsat hen hn
  rw [run_call hf a.eval (.func f) rfl]
  have hall := hA.all (m := m) (a := a) hg hsat (fun y _ => hen.opd y)
  refine (hC (ext m hs2) w (args.map a.eval) [] hg.ext (c.G.mono (ext_le hg) hG) hall rfl).mono ?_
  rintro e w' ⟨v, m', hs', i, rfl, hg', hv, hsat', hf'⟩
  obtain ⟨h1, h2⟩ := lent hg hg' hf'
  have hle : Mle m (cut m' m hs2.bs) := h2.le
  exact ⟨v, rfl, i, _, _, h1, (hen.mono hle).put (by rw [hn]; simpa [Nat.blt_eq] using hN) (hs i _ _ _ hv), (hsat'.flat (he i)).append (hsat.mono hle), h2⟩
/-- Which entities go, and which stay. -/
inductive Parts : List Ent → List Ent → List Ent → Prop
  | nil {H : List Ent} : Parts H [] H
  | cons {H H1 H2 E : List Ent} {e : Ent} : Pick H e H1 → Parts H1 E H2 → Parts H (e :: E) H2
theorem Sat.parts {H E H' : List Ent} (k : Parts H E H') : ∀ {m : Mem} {hs : Hp}, Sat H m hs → ∃ h1 h2, hs.Perm (h1 ++ h2) ∧ Sat E m h1 ∧ Sat H' m h2 := by
  induction k with
  | nil => intro m hs h; exact ⟨[], hs, List.Perm.refl _, rfl, h⟩
  | cons k _ ih =>
    intro m hs h
    obtain ⟨h1, h2, hp, p, q⟩ := h.pick k
    obtain ⟨g1, g2, hp2, p2, q2⟩ := ih q
    exact ⟨h1 ++ g1, g2, hp.trans (by rw [List.append_assoc]; exact List.Perm.append_left h1 hp2), ⟨h1, g1, rfl, p, p2⟩, q2⟩
/-- A call that is handed what it may write. -/
theorem j_call {f : FuncId} {args : List Operand} {ats : Array TypeId} {A : List Slot} {E : List Ent} {ι : Type} {ρ : ι → Slot} {ε : ι → List Ent} (hA : HasL Γ args A) (hf : callB c.P f = true)
    (hC : Ctr c.P c.G f A E ρ ε) (hE : Parts H E H') (hN : Nat.blt d c.N = true)
    (k : ∀ i, OpsJ c full l ((d, ρ i) :: Γ) (ε i ++ H') K) : OpsJ c full (⟨some d, .call { callee := .value (.func f), args := args.toArray, argTypes := ats }, ty, pos, aft, none⟩ :: l) Γ H K := by
  refine j_step_ex (Γ2 := fun i => (d, ρ i) :: Γ) (H2 := fun i => ε i ++ H') rfl ?_ k
  intro m hs2 a w hg hG hsat hen hn
  rw [run_call hf a.eval (.func f) rfl]
  have hall := hA.all (m := m) (a := a) (fun y _ => hen.opd y)
  obtain ⟨h1, h2, hp, hs1, hs3⟩ := hsat.parts hE
  have hgp := hg.perm hp
  have hg1 : Good m h1 w := Good.sub (hs := h2) (hgp.perm List.perm_append_comm)
  refine (hC m w (args.map a.eval) h1 hg1 hG hall hs1).mono ?_
  rintro e w' ⟨v, m', hs', i, rfl, hg', hv, hsat', hf'⟩
  have hnd := hgp.nodup
  rw [Hp.bs_append] at hnd
  have hdj := (List.nodup_append.1 hnd).2.2
  have hn2 : ∀ x ∈ h2, x.1 ∉ Hp.bs h1 := fun x hx h => hdj x.1 h x.1 (List.mem_map_of_mem (f := (·.1)) hx) rfl
  have hl2 : ∀ x ∈ h2, x.1 < w.heap.size := fun x hx => hgp.ltb (by rw [Hp.bs_append]; exact List.mem_append.2 (.inr (List.mem_map_of_mem (f := (·.1)) hx)))
  have hg3 : Good m' (hs' ++ h2) w' := by
    refine ⟨hg'.mem, ?_, fun x hx => ?_, fun x hx o => ?_⟩
    · rw [Hp.bs_append]
      refine List.nodup_append.2 ⟨hg'.nodup, (List.nodup_append.1 hnd).2.1, fun b hb b' hb' e => ?_⟩
      subst e
      obtain ⟨x, hx, rfl⟩ := List.mem_map.1 hb'
      rcases hf'.own x.1 hb with h | h
      · exact hn2 x hx h
      · exact absurd (hl2 x hx) (Nat.not_lt.2 h)
    · rcases List.mem_append.1 hx with hx | hx
      · exact hg'.blk x hx
      · rw [(hf'.old x.1 (hl2 x hx) (hn2 x hx)).1]; exact hgp.blk x (List.mem_append.2 (.inr hx))
    · rcases List.mem_append.1 hx with hx | hx
      · exact hg'.free x hx o
      · rw [(hf'.old x.1 (hl2 x hx) (hn2 x hx)).2 o]; exact hgp.free x (List.mem_append.2 (.inr hx)) o
  refine ⟨v, rfl, i, m', hs' ++ h2, hg3, (hen.mono hf'.le).put (by rw [hn]; simpa [Nat.blt_eq] using hN) hv, hsat'.append (hs3.mono hf'.le), ?_⟩
  refine Frm.ofPerm hp ?_
  rw [Hp.bs_append, Hp.bs_append]
  exact hf'.wide (Hp.bs h2)
/-! ### Contracts, said otherwise -/
/-- An outcome that is the caller's own, made one that stays. -/
theorem Ctr.froze {P : Program} {G : GP} {f : FuncId} {A : List Slot} {E : List Ent} {T : TypeId} {R : Rep α} {xs : List α} (h : Ctr P G f A E (fun v : Value => ov v) (fun v => [own T R v xs])) :
    Ctr P G f A E (fun _ : Unit => (sl R).slot xs) (fun _ => []) := by
  intro m w vs hs hg hG hA hsat
  refine (h m w vs hs hg hG hA hsat).mono ?_
  rintro e w' ⟨v, m', hs', i, rfl, hg', hv, ⟨h1, h2, rfl, ho, h2e⟩, hf'⟩
  cases h2e
  obtain ⟨m2, hle, hg2, hv2, hf2, _⟩ := own.froze ho hg' hf'
  have : v = i := (ov_p.1 hv).1
  subst this
  exact ⟨v, m2, [], (), rfl, hg2, hv2, rfl, hf2⟩
/-- The same beside another outcome. -/
theorem Ctr.froze2 {P : Program} {G : GP} {f : FuncId} {A : List Slot} {E : List Ent} {T : TypeId} {R : Rep α} {xs : List α} {s : Slot} (h : Ctr P G f A E (fun v : Value => tup [ov v, s]) (fun v => [own T R v xs])) :
    Ctr P G f A E (fun _ : Unit => tup [(sl R).slot xs, s]) (fun _ => []) := by
  intro m w vs hs hg hG hA hsat
  refine (h m w vs hs hg hG hA hsat).mono ?_
  rintro e w' ⟨v, m', hs', i, rfl, hg', ⟨us, rfl, v1, us2, rfl, hv1, v2, us3, rfl, hv2, rfl⟩, ⟨h1, h2, rfl, ho, h2e⟩, hf'⟩
  cases h2e
  obtain ⟨m2, hle, hg2, hv2', hf2, _⟩ := own.froze ho hg' hf'
  have : v1 = i := (ov_p.1 hv1).1
  subst this
  exact ⟨_, m2, [], (), rfl, hg2, ⟨_, rfl, _, _, rfl, hv2', _, _, rfl, s.mono hle hv2, rfl⟩, rfl, hf2⟩
end
end Go.Sl
namespace Go.Sl
section
variable {c : Ctx} {full : Array Oper} {l : List Oper} {Γ Γ' : Env} {H H' : List Ent} {K : Act → World → Prop} {d : Tmp} {od : Option Tmp} {ty : TypeId} {pos : String} {aft : Array Edge} {g : Option (Nat × Bool)} {α β : Type}
/-! ## Structs and arrays put together -/
/-- Where the i-th part of a struct or an array lies. -/
def placeOf (P : Program) (T i : Nat) : Option (Nat × Nat) :=
  match P.underlying T with
  | some (.struct fs) => (fs[i]?).bind fun f => (P.info? f.type).map fun t => (f.offset, t.size)
  | some (.array _ e) => (P.info? e).map fun t => (i * t.size, t.size)
  | _ => none
inductive BuildJ (P : Program) (T : TypeId) (Γ : Env) (R : Rep α) : List (Nat × Operand) → α → α → Prop
  | nil {x : α} : BuildJ P T Γ R [] x x
  | cons {β : Type} {i off : Nat} {y : Operand} {S : Rep β} {z : β} {get : α → β} {set : α → β → α} {ps : List (Nat × Operand)} {x r : α} :
    Has Γ y (S.slot z) → Path R off S get set → placeOf P T i = some (off, S.n) → BuildJ P T Γ R ps (set x z) r → BuildJ P T Γ R ((i, y) :: ps) x r
theorem foldl_splice (off : Nat) : ∀ (ds : List Value) (k : Nat) (cs : List Value), off + k + ds.length ≤ cs.length →
    ((ds.zipIdx k).foldl (fun cs (p : Value × Nat) => cs.setIfInBounds (off + p.2) p.1) cs.toArray) = (cs.take (off + k) ++ ds ++ cs.drop (off + k + ds.length)).toArray
  | [], k, cs, _ => by simp
  | v :: ds, k, cs, h => by
    simp only [List.length_cons] at h
    have hlt : off + k < cs.length := by omega
    have ih := foldl_splice off ds (k + 1) (cs.set (off + k) v) (by simp; omega)
    simp only [List.zipIdx_cons, List.foldl_cons]
    have e : cs.toArray.setIfInBounds (off + k) v = (cs.set (off + k) v).toArray := by simp
    rw [e, ih]
    congr 1
    have e1 : (cs.set (off + k) v).take (off + (k + 1)) = cs.take (off + k) ++ [v] := by
      rw [show off + (k + 1) = (off + k) + 1 by omega, List.take_succ_eq_append_getElem (by simpa using hlt)]
      rw [List.take_set, List.set_eq_of_length_le (by simp; omega)]; simp
    have e2 : (cs.set (off + k) v).drop (off + (k + 1) + ds.length) = cs.drop (off + k + (v :: ds).length) := by
      rw [List.drop_set_of_lt (by omega)]; congr 1; simp; omega
    rw [e1, e2]; simp
theorem BuildJ.fill {P : Program} {T : TypeId} {R : Rep α} {m : Mem} {a : Act} {ps : List (Nat × Operand)} {x r : α} (h : BuildJ P T Γ R ps x r) :
    ∀ {cs : List Value} {place : Nat → Option (Nat × Nat)}, R.rel m cs x → (∀ i p, placeOf P T i = some p → place i = some p) → (∀ p ∈ ps, Opd Γ m a p.2) →
    ∃ cs', Instr.fill place cs.toArray (ps.map fun p => (p.1, a.eval p.2)) = some cs'.toArray ∧ R.rel m cs' r := by
  induction h with
  | nil => intro cs place hr _ _; exact ⟨cs, rfl, hr⟩
  | @cons β i off y S z get set ps x r hy hp hpl _ ih =>
    intro cs place hr hplace ho
    obtain ⟨ds, hc, hd⟩ := Rep.is_cells (hy m a (ho (i, y) (by simp)))
    have hdl := S.len hd
    have hcl := R.len hr
    have hfit := hp.fits
    obtain ⟨cs', he, hr'⟩ := ih (cs := cs.take off ++ ds ++ cs.drop (off + S.n)) (hp.set_ok hr hd) hplace (fun p hp => ho p (by simp [hp]))
    refine ⟨cs', ?_, hr'⟩
    simp only [List.map_cons, Instr.fill, hplace i _ hpl, hc]
    have hsz : ds.toArray.size = S.n := by simp [hdl]
    have hcond : ¬ (ds.toArray.size ≠ S.n ∨ off + ds.toArray.size > cs.toArray.size) := by
      rintro (h | h)
      · exact h hsz
      · simp at h; omega
    have hbool : (decide (ds.toArray.size ≠ S.n) || decide (off + ds.toArray.size > cs.toArray.size)) = false := by
      simp only [Bool.or_eq_false_iff, decide_eq_false_iff_not]
      exact ⟨fun h => h hsz, by simp; omega⟩
    have hf := foldl_splice off ds 0 cs (by omega)
    have hz : Array.foldl (fun cs (p : Value × Nat) => cs.setIfInBounds (off + p.2) p.1) cs.toArray ds.toArray.zipIdx = (cs.take off ++ ds ++ cs.drop (off + S.n)).toArray := by
      rw [← Array.foldl_toList, Array.toList_zipIdx]
      rw [hf]; simp [hdl]
    rw [if_neg (by simpa using hcond)]
    first
      | (rw [hz]; exact he)
      | (simp only [] at hz ⊢; rw [hz]; exact he)
def buildB (P : Program) (T : TypeId) : Bool :=
  match P.underlying T with
  | some (.struct fs) => fs.toList.all fun f => (P.info? f.type).isSome
  | some (.array _ e) => (P.info? e).isSome
  | _ => false
theorem mapM_places {P : Program} {w : World} : ∀ (fs : List Field), (∀ f ∈ fs, (P.info? f.type).isSome = true) →
    (fs.mapM fun f => do pure (f.offset, ← sizeOf f.type) : Sem (List (Nat × Nat))).run P w = .ok (fs.map fun f => (f.offset, ((P.info? f.type).map (·.size)).getD 0)) w
  | [], _ => by simp
  | f :: fs, h => by
    obtain ⟨i, hi⟩ := Option.isSome_iff_exists.1 (h f (by simp))
    have hs : (sizeOf f.type).run P w = .ok i.size w := by simp [sizeOf, typeInfo, hi]
    have ih := mapM_places (P := P) (w := w) fs (fun f hf => h f (by simp [hf]))
    rw [List.mapM_cons]
    simp only [Sem.run_bind, hs, Result.andThen_ok, Sem.run_pure, ih, List.map_cons, hi, Option.map_some, Option.getD_some]
theorem pj_build {T : TypeId} {R : Rep α} {x r : α} {ps : List (Nat × Operand)} {zc : List Value} (hz : ZeroR R x zc) (hT : zeroB c.P T = some zc) (hB : buildB c.P T = true) (ha : R.ag = true) (h : BuildJ c.P T Γ R ps x r) :
    PJ c ⟨od, .build T ps.toArray, ty, pos, aft, g⟩ Γ H (R.slot r) :=
  pj_of fun m hs a w _ _ _ ho => by
    obtain ⟨zv, hzv, hzc⟩ := zeroB_run hT w
    have hop : ∀ p ∈ ps, Opd Γ m a p.2 := fun p hp => ho p.2 (by
      simp only [Op.operands]
      simp only [List.mem_toArray, List.mem_map]
      exact ⟨p, hp, rfl⟩)
    have hpl : ∀ (place : Nat → Option (Nat × Nat)), (∀ i p, placeOf c.P T i = some p → place i = some p) → ∃ cs', Instr.fill place zc.toArray (ps.map fun p => (p.1, a.eval p.2)) = some cs'.toArray ∧ R.rel m cs' r :=
      fun place hp => h.fill (hz m) hp hop
    have hparts : ((ps.toArray.map fun (p : Nat × Operand) => (p.1, a.eval p.2))).toList = ps.map fun p => (p.1, a.eval p.2) := by simp
    unfold buildB at hB
    split at hB
    · rename_i fs hu
      have hall : ∀ f ∈ fs.toList, (c.P.info? f.type).isSome = true := List.all_eq_true.1 hB
      obtain ⟨cs', hfill, hr⟩ := hpl ((fs.toList.map fun f => (f.offset, ((c.P.info? f.type).map (·.size)).getD 0)).toArray[·]?) (by
        intro i p hp
        simp only [placeOf, hu] at hp
        simp only [List.getElem?_toArray, List.getElem?_map, Array.getElem?_toList]
        cases hf : fs[i]? with
        | none => rw [hf] at hp; simp at hp
        | some f =>
          rw [hf] at hp
          simp only [Option.bind_some] at hp
          cases hi : c.P.info? f.type with
          | none => rw [hi] at hp; simp at hp
          | some t => rw [hi] at hp; simp only [Option.map_some] at hp ⊢; simpa [hi] using hp)
      have hmm : (fs.mapM fun f => do pure (f.offset, ← sizeOf f.type) : Sem (Array (Nat × Nat))).run c.P w = .ok (fs.toList.map fun f => (f.offset, ((c.P.info? f.type).map (·.size)).getD 0)).toArray w := by
        have := mapM_places (P := c.P) (w := w) fs.toList hall
        rw [Array.mapM_eq_mapM_toList, Sem.run_map, this]
        rfl
      have hrun : (Instr.build T (ps.toArray.map fun (p : Nat × Operand) => (p.1, a.eval p.2))).run c.P w = .ok (.agg cs'.toArray) w := by
        simp only [Instr.build, Sem.run_bind, hzv, Result.andThen_ok, run_underlying hu, hzc, hparts, hmm, hfill, Sem.run_pure]
      refine ⟨.agg cs'.toArray, ?_, ?_⟩
      · show (do let v ← Instr.build T (ps.toArray.map fun (p : Nat × Operand) => (p.1, a.eval p.2)); pure (Next.value v) : Sem Next).run c.P w = _
        rw [Sem.run_bind, hrun]; rfl
      · simp only [Rep.slot, Rep.is, ha]; exact ⟨cs', rfl, hr⟩
    · rename_i n e hu
      obtain ⟨t, ht⟩ := Option.isSome_iff_exists.1 hB
      obtain ⟨cs', hfill, hr⟩ := hpl (fun i => some (i * t.size, t.size)) (by
        intro i p hp
        simp only [placeOf, hu, ht, Option.map_some] at hp
        exact hp)
      have hs : (sizeOf e).run c.P w = .ok t.size w := by simp [sizeOf, typeInfo, ht]
      have hrun : (Instr.build T (ps.toArray.map fun (p : Nat × Operand) => (p.1, a.eval p.2))).run c.P w = .ok (.agg cs'.toArray) w := by
        simp only [Instr.build, Sem.run_bind, hzv, Result.andThen_ok, run_underlying hu, hzc, hparts, hs, hfill, Sem.run_pure]
      refine ⟨.agg cs'.toArray, ?_, ?_⟩
      · show (do let v ← Instr.build T (ps.toArray.map fun (p : Nat × Operand) => (p.1, a.eval p.2)); pure (Next.value v) : Sem Next).run c.P w = _
        rw [Sem.run_bind, hrun]; rfl
      · simp only [Rep.slot, Rep.is, ha]; exact ⟨cs', rfl, hr⟩
    · cases hB
/-! ## Slices written out -/
inductive BuildS (Γ : Env) (R : Rep α) : Nat → List (Nat × Operand) → List α → Prop
  | nil {k : Nat} : BuildS Γ R k [] []
  | cons {k : Nat} {y : Operand} {z : α} {ps : List (Nat × Operand)} {zs : List α} : Has Γ y (R.slot z) → BuildS Γ R (k + 1) ps zs → BuildS Γ R k ((k, y) :: ps) (z :: zs)
theorem BuildS.len {R : Rep α} {k : Nat} {ps : List (Nat × Operand)} {zs : List α} (h : BuildS Γ R k ps zs) : ps.length = zs.length := by
  induction h with
  | nil => rfl
  | cons _ _ ih => simp [ih]
theorem BuildS.fill {R : Rep α} {m : Mem} {a : Act} {k : Nat} {ps : List (Nat × Operand)} {zs : List α} (h : BuildS Γ R k ps zs) :
    ∀ {pre cs : List Value}, pre.length = k * R.n → cs.length = zs.length * R.n → (∀ p ∈ ps, Opd Γ m a p.2) →
    ∃ cs', Instr.fill (fun i => some (i * R.n, R.n)) (pre ++ cs).toArray (ps.map fun p => (p.1, a.eval p.2)) = some (pre ++ cs').toArray ∧ RowC R m cs' zs := by
  induction h with
  | nil => intro pre cs _ hc _; exact ⟨cs, rfl, by simpa [RowC] using hc⟩
  | @cons k y z ps zs hy _ ih =>
    intro pre cs hp hc ho
    obtain ⟨ds, hcl, hd⟩ := Rep.is_cells (hy m a (ho (k, y) (by simp)))
    have hdl := R.len hd
    have hc' : cs.length = R.n + zs.length * R.n := by rw [hc, List.length_cons, Nat.add_mul, Nat.one_mul, Nat.add_comm]
    obtain ⟨cs', he, hr'⟩ := ih (pre := pre ++ ds) (cs := cs.drop R.n) (by rw [List.length_append, hp, hdl, Nat.add_mul, Nat.one_mul]) (by rw [List.length_drop]; omega) (fun p hp => ho p (by simp [hp]))
    refine ⟨ds ++ cs', ?_, ⟨ds, cs', rfl, hd, hr'⟩⟩
    simp only [List.map_cons, Instr.fill, hcl]
    have hf := foldl_splice (k * R.n) ds 0 (pre ++ cs) (by simp [hp, hdl]; omega)
    have hz : Array.foldl (fun cs (p : Value × Nat) => cs.setIfInBounds (k * R.n + p.2) p.1) (pre ++ cs).toArray ds.toArray.zipIdx = ((pre ++ ds) ++ cs.drop R.n).toArray := by
      rw [← Array.foldl_toList, Array.toList_zipIdx]
      rw [hf]
      have e1 : (pre ++ cs).take (k * R.n + 0) = pre := by rw [Nat.add_zero, ← hp, List.take_left']; rfl
      have e2 : (pre ++ cs).drop (k * R.n + 0 + ds.length) = cs.drop R.n := by rw [Nat.add_zero, ← hp, hdl, List.drop_append]; simp
      rw [e1, e2]
    rw [if_neg (by simp [hdl, hp]; omega)]
    have he' : Instr.fill (fun i => some (i * R.n, R.n)) ((pre ++ ds) ++ cs.drop R.n).toArray (ps.map fun p => (p.1, a.eval p.2)) = some (pre ++ (ds ++ cs')).toArray := by rw [he]; simp
    first
      | (rw [hz]; exact he')
      | (simp only [] at hz ⊢; rw [hz]; exact he')
theorem run_buildSlice {P : Program} {w : World} {ST T : TypeId} {R : Rep α} {m : Mem} {a : Act} {n : Nat} {ps : List (Nat × Operand)} {zs : List α} (hT : slE P ST T R.n = true) (hn : n = zs.length) (hs : n * R.n ≤ 16777216)
    (h : BuildS Γ R 0 ps zs) (ho : ∀ p ∈ ps, Opd Γ m a p.2) :
    ∃ cs, RowC R m cs zs ∧ (Instr.buildSlice ST n (ps.toArray.map fun (p : Nat × Operand) => (p.1, a.eval p.2))).run P w = .ok (.slice (some ⟨w.heap.size, 0, none⟩) n n) (w.alloc (.cells cs.toArray T)) := by
  obtain ⟨hu, i, z, hi, hsz, hb0, hb1, hz, hzc⟩ := slE_of hT
  have hsize : (sizeOf T).run P w = .ok R.n w := by simp [sizeOf, typeInfo, hi, hsz]
  have hzv : (zeroValue T).run P w = .ok z w := by simp [zeroValue, typeInfo, hi, hz]
  have hparts : ((ps.toArray.map fun (p : Nat × Operand) => (p.1, a.eval p.2))).toList = ps.map fun p => (p.1, a.eval p.2) := by simp
  have h24 : ¬ n * R.n > 2 ^ 24 := by have : (2 : Nat) ^ 24 = 16777216 := by decide
                                      omega
  have key : ∀ zz : Array Value, ∃ cs, RowC R m cs zs ∧ Instr.fill (fun i => some (i * R.n, R.n)) ((Array.range (n * R.n)).map (zz[· % zz.size]!)) (ps.map fun p => (p.1, a.eval p.2)) = some cs.toArray := by
    intro zz
    obtain ⟨cs, he, hr⟩ := h.fill (m := m) (a := a) (pre := []) (cs := ((Array.range (n * R.n)).map (zz[· % zz.size]!)).toList) (by simp) (by simp [hn]) ho
    have e3 : ([] ++ ((Array.range (n * R.n)).map (zz[· % zz.size]!)).toList).toArray = (Array.range (n * R.n)).map (zz[· % zz.size]!) := by rw [List.nil_append, Array.toArray_toList]
    rw [e3] at he
    exact ⟨cs, hr, he⟩
  by_cases h0 : n * R.n = 0
  · obtain ⟨cs, hr, hf⟩ := key #[]
    refine ⟨cs, hr, ?_⟩
    rw [h0] at hf
    have h240 : ¬ (0 > 2 ^ 24) := by decide
    simp only [Instr.buildSlice, Sem.run_bind, run_underlying hu, Result.andThen_ok, hsize, h0, h240, if_false, Sem.run_pure, if_true, hparts]
    simp only [hf, newRow, Sem.run_bind, run_newObj, Result.andThen_ok, Sem.run_pure]
    rfl
  · obtain ⟨cs, hr, hf⟩ := key z.cells
    refine ⟨cs, hr, ?_⟩
    simp only [Instr.buildSlice, Sem.run_bind, run_underlying hu, Result.andThen_ok, hsize, h24, if_false, Sem.run_pure, h0, hzv, hparts, hf, newRow, run_newObj]
    rfl
/-- A slice written out, made one that stays. -/
theorem pj_buildSlice {ST T n : Nat} {R : Rep α} {ps : List (Nat × Operand)} {zs : List α} (h : BuildS Γ R 0 ps zs) (hn : n = zs.length) (hs : Nat.ble (n * R.n) 16777216 = true) (hT : slE c.P ST T R.n = true) :
    PJ c ⟨od, .buildSlice ST n ps.toArray, ty, pos, aft, g⟩ Γ H ((sl R).slot zs) := by
  intro m hs2 a w hg _ _ ho
  have hop : ∀ p ∈ ps, Opd Γ m a p.2 := fun p hp => ho p.2 (by
      simp only [Op.operands]
      simp only [List.mem_toArray, List.mem_map]
      exact ⟨p, hp, rfl⟩)
  obtain ⟨cs, hr, hrun⟩ := run_buildSlice (P := c.P) (w := w) hT hn (by simpa [Nat.ble_eq] using hs) h hop
  have e : (execOp a.eval ⟨od, .buildSlice ST n ps.toArray, ty, pos, aft, g⟩).run c.P w = .ok (.value (.slice (some ⟨w.heap.size, 0, none⟩) n n)) (w.alloc (.cells cs.toArray T)) := by
    show (do let v ← Instr.buildSlice ST n (ps.toArray.map fun (p : Nat × Operand) => (p.1, a.eval p.2)); pure (Next.value v) : Sem Next).run c.P w = _
    rw [Sem.run_bind, hrun]; rfl
  rw [e]
  have hg1 := hg.newOwn T cs
  have hle := hg1.le_put
  refine ⟨m.put w.heap.size cs, hg1.freeze, ?_, ?_⟩
  · exact ⟨_, n, by rw [hn], by omega, .inr ⟨w.heap.size, 0, cs, rfl, hr.mono hle, Mem.at_put m _ cs⟩⟩
  · exact (Frm.alloc w m [] (.cells cs.toArray T)).freeze hle
/-- .. and one of the call's own. -/
theorem j_buildSlice {ST T n : Nat} {R : Rep α} {ps : List (Nat × Operand)} {zs : List α} (h : BuildS Γ R 0 ps zs) (hn : n = zs.length) (hs : Nat.ble (n * R.n) 16777216 = true) (hT : slE c.P ST T R.n = true) (hN : Nat.blt d c.N = true)
    (k : ∀ v, OpsJ c full l ((d, ov v) :: Γ) (own T R v zs :: H) K) : OpsJ c full (⟨some d, .buildSlice ST n ps.toArray, ty, pos, aft, none⟩ :: l) Γ H K := by
  refine j_step_ex (Γ2 := fun v => (d, ov v) :: Γ) (H2 := fun v => own T R v zs :: H) rfl ?_ k
  intro m hs2 a w hg _ hsat he hN'
  have hop : ∀ p ∈ ps, Opd Γ m a p.2 := fun p _ => he.opd p.2
  obtain ⟨cs, hr, hrun⟩ := run_buildSlice (P := c.P) (w := w) hT hn (by simpa [Nat.ble_eq] using hs) h hop
  have e : (execOp a.eval ⟨some d, .buildSlice ST n ps.toArray, ty, pos, aft, none⟩).run c.P w = .ok (.value (.slice (some ⟨w.heap.size, 0, none⟩) n n)) (w.alloc (.cells cs.toArray T)) := by
    show (do let v ← Instr.buildSlice ST n (ps.toArray.map fun (p : Nat × Operand) => (p.1, a.eval p.2)); pure (Next.value v) : Sem Next).run c.P w = _
    rw [Sem.run_bind, hrun]; rfl
  rw [e]
  refine ⟨_, m, _, hg.newOwn T cs, he.put (by rw [hN']; simpa [Nat.blt_eq] using hN) ov_slice, ⟨[(w.heap.size, T, cs)], hs2, rfl, .inr ⟨w.heap.size, n, cs, [], by rw [hn], by simp, hr, by omega, ?_⟩, hsat⟩, Frm.alloc _ _ _ _⟩
  rw [List.append_nil, hr.length, hn]
/-! ## make -/
theorem j_makeSlice {ST T : TypeId} {x y : Operand} {R : Rep α} {z : α} {zc : List Value} {n cp : Int} (hx : Has Γ x (i64.slot n)) (hy : Has Γ y (i64.slot cp)) (h0 : 0 ≤ n) (h1 : n ≤ cp) (h2 : cp ≤ 4294967296)
    (hT : slE c.P ST T R.n = true) (hz : ZeroR R z zc) (hzB : zeroB c.P T = some zc) (hN : Nat.blt d c.N = true)
    (k : ∀ v, OpsJ c full l ((d, ov v) :: Γ) (own T R v (List.replicate n.toNat z) :: H) K) : OpsJ c full (⟨some d, .makeSlice ST x y, ty, pos, aft, none⟩ :: l) Γ H K := by
  refine j_step_ex (Γ2 := fun v => (d, ov v) :: Γ) (H2 := fun v => own T R v (List.replicate n.toNat z) :: H) rfl ?_ k
  intro m hs a w hg _ hsat he hN'
  have ex := i64_p.1 (hx m a (he.opd x))
  have ey := i64_p.1 (hy m a (he.opd y))
  obtain ⟨hu, i, zv, hi, hsz, hb0, hb1, hzi, hzc⟩ := slE_of hT
  have hti : ∀ w : World, (typeInfo T).run c.P w = .ok i w := fun w => by simp [typeInfo, hi]
  have hsize : ∀ w : World, (sizeOf T).run c.P w = .ok R.n w := fun w => by simp [sizeOf, hti, hsz]
  have hzv : ∀ w : World, (zeroValue T).run c.P w = .ok zv w := fun w => by simp [zeroValue, hti, hzi]
  have hzl : zv.cells.toList = zc := by
    unfold zeroB at hzB
    simp [hi, hzi] at hzB
    exact hzB
  have hn : IntKind.i64.wrap n = n := IntWalk.i64_in n (by omega)
  have hc : IntKind.i64.wrap cp = cp := IntWalk.i64_in cp (by omega)
  have hbig : ¬ (i.bytes : Int) * cp > 2 ^ 48 := by
    have h48 : (2 : Int) ^ 48 = 281474976710656 := by decide
    have : (i.bytes : Int) * cp ≤ 4096 * 4294967296 := Int.mul_le_mul (by omega) h2 (by omega) (by decide)
    rw [h48]; omega
  have hneg : ¬ cp < 0 := by omega
  have hneg2 : ¬ n < 0 := by omega
  have hgt : ¬ n > cp := by omega
  let zz := if cp.toNat * R.n = 0 then #[] else zv.cells
  let cells := ((Array.range (cp.toNat * R.n)).map (zz[· % zz.size]!)).toList
  have hrun : (Instr.makeSlice ST (.int .i64 n) (.int .i64 cp)).run c.P w = .ok (.slice (some ⟨w.heap.size, 0, none⟩) n.toNat cp.toNat) (w.alloc (.cells cells.toArray T)) := by
    simp only [Instr.makeSlice, Sem.run_bind, run_underlying hu, Result.andThen_ok, asInt, asIntOf, Sem.run_pure, hti, hn, hc, hneg, hneg2, hbig, hgt, decide_false, Bool.or_false, Bool.false_eq_true, if_false, run_askRoom, hsize]
    by_cases hE : cp.toNat * R.n = 0
    · simp only [hE, if_true, Sem.run_pure, Result.andThen_ok, newRow, Sem.run_bind, run_newObj]
      simp only [cells, zz, hE, if_true, Array.toArray_toList]
      rfl
    · simp only [hE, if_false, Sem.run_bind, hzv, Result.andThen_ok, Sem.run_pure, newRow, run_newObj]
      simp only [cells, zz, hE, if_false, Array.toArray_toList]
      rfl
  have e : (execOp a.eval ⟨some d, .makeSlice ST x y, ty, pos, aft, none⟩).run c.P w = .ok (.value (.slice (some ⟨w.heap.size, 0, none⟩) n.toNat cp.toNat)) (w.alloc (.cells cells.toArray T)) := by
    simp only [execOp, ex, ey, Sem.run_bind, hrun]; rfl
  rw [e]
  have hcl : cells.length = cp.toNat * R.n := by simp [cells]
  have hrow : ∀ j, j ≤ cp.toNat → RowC R m (cells.take (j * R.n)) (List.replicate j z) := by
    intro j hj
    induction j with
    | zero => simp [RowC]
    | succ j ih =>
      have ih := ih (by omega)
      rw [List.replicate_succ', Nat.add_mul, Nat.one_mul, List.take_add]
      refine ih.append (RowC.single ?_)
      have : (cells.drop (j * R.n)).take R.n = zc := by
        apply List.ext_getElem?
        intro t
        rw [List.getElem?_take]
        split
        · rename_i ht
          rw [List.getElem?_drop]
          have hbnd : j * R.n + t < cp.toNat * R.n := by
            have : (j + 1) * R.n ≤ cp.toNat * R.n := Nat.mul_le_mul_right _ hj
            rw [Nat.add_mul, Nat.one_mul] at this
            omega
          have hE : cp.toNat * R.n ≠ 0 := by omega
          have hRn : zv.cells.size = R.n := hzc
          simp only [cells, zz, hE, if_false]
          rw [Array.getElem?_toList, Array.getElem?_map, Array.getElem?_range, if_pos hbnd]
          simp only [Option.map_some, hRn]
          have hmod : (j * R.n + t) % R.n = t := by rw [Nat.mul_add_mod_self_right]; exact Nat.mod_eq_of_lt ht
          rw [hmod, ← hzl]
          have htl : t < zv.cells.size := by omega
          simp [htl]
        · rename_i ht
          have : zc.length = R.n := by rw [← hzl]; simpa using hzc
          rw [List.getElem?_eq_none (by omega)]
      rw [this]; exact hz m
  have hsplit : cells = cells.take (n.toNat * R.n) ++ cells.drop (n.toNat * R.n) := (List.take_append_drop _ _).symm
  refine ⟨_, m, _, hg.newOwn T cells, he.put (by rw [hN']; simpa [Nat.blt_eq] using hN) ov_slice, ⟨[(w.heap.size, T, cells)], hs, rfl, .inr ⟨w.heap.size, cp.toNat, cells.take (n.toNat * R.n), cells.drop (n.toNat * R.n), by simp, by rw [← hsplit], hrow _ (by omega), by simp; omega, by rw [← hsplit, hcl]⟩, hsat⟩, Frm.alloc _ _ _ _⟩
end
end Go.Sl
namespace Go.Sl
/-! ## A region that draws its order -/
def tmpsOf (o : Oper) : List Nat := o.op.operands.toList.filterMap fun | .tmp t => some t | _ => none
def gTmp (full : List Oper) (o : Oper) : List Nat := match o.guard with | some (j, _) => ((full[j]?).bind (·.dst)).toList | none => []
def edges (o : Oper) : List Nat := (o.after.toList.filter (Region.binds .any)).map (·.on)
def names (full : List Oper) (o : Oper) : List Nat := o.dst.toList ++ tmpsOf o ++ gTmp full o
/-- What an operation waits for, at one remove and at more. -/
def marks (full : List Oper) : Nat → List Nat → List Nat
  | 0, acc => acc
  | j + 1, acc => if acc.contains j then marks full j (acc ++ ((full[j]?).map edges).getD []) else marks full j acc
theorem marks_ok {full : List Oper} {X : Nat → Bool} (hc : ∀ j p, full[j]? = some p → X j = true → ∀ e ∈ edges p, X e = true) : ∀ (n : Nat) (acc : List Nat), (∀ j ∈ acc, X j = true) → ∀ j ∈ marks full n acc, X j = true
  | 0, acc, h => h
  | n + 1, acc, h => by
    unfold marks
    split
    · rename_i hn
      refine marks_ok hc n _ fun j hj => ?_
      rcases List.mem_append.1 hj with hj | hj
      · exact h j hj
      · cases hf : full[n]? with
        | none => rw [hf] at hj; cases hj
        | some p =>
          rw [hf] at hj
          exact hc n p hf (h n (by simpa using hn)) j hj
    · exact marks_ok hc n acc h
/-- Whatever shares a temporary with a writer of it stands in an edge to it; each edge goes back; from 'n' on each stands behind all. -/
def drawB (full : List Oper) (n : Nat) : Bool :=
  (full.zipIdx.all fun (o, i) => (edges o).all (fun e => Nat.blt e i)) &&
  (full.zipIdx.all fun (o, i) => full.zipIdx.all fun (p, j) =>
    match p.dst with
    | some t => Nat.beq i j || !((names full o).contains t) || (if Nat.blt j i then (edges o).contains j else (edges p).contains i)
    | none => true) &&
  (full.zipIdx.all fun (o, i) => Nat.blt i n || (List.range i).all fun j => (marks full i (edges o)).contains j)
def push (d : Option Tmp) (s : Slot) (Γ : Env) : Env := match d with | some d => (d, s) :: Γ | none => Γ
def GuardIs (full : List Oper) (o : Oper) (Γ : Env) (yes : Bool) : Prop :=
  ∃ j want b t s, o.guard = some (j, want) ∧ (full[j]?).bind (·.dst) = some t ∧ lk Γ t = some s ∧ (∀ m v, s.p m v → v = .bool b) ∧ (b == want) = yes
def GuardUndef (full : List Oper) (o : Oper) (Γ : Env) : Prop := ∃ j want t, o.guard = some (j, want) ∧ (full[j]?).bind (·.dst) = some t ∧ lk Γ t = some (val undef)
inductive OK1 (c : Ctx) (full : List Oper) (H : List Ent) (o : Oper) (Γ : Env) : Slot → Prop
  | plain {s : Slot} : o.guard = none → PJ c o Γ H s → OK1 c full H o Γ s
  | yes {s : Slot} : GuardIs full o Γ true → PJ c o Γ H s → OK1 c full H o Γ s
  | no : GuardIs full o Γ false → OK1 c full H o Γ (val undef)
  | undef : GuardUndef full o Γ → OK1 c full H o Γ (val undef)
inductive RJ (c : Ctx) (full : List Oper) (H : List Ent) : Nat → List Oper → Env → List Slot → Option (Nat × Nat × (Nat → Ent)) → Prop
  | nil {k : Nat} {Γ : Env} : RJ c full H k [] Γ [] none
  | read {k : Nat} {o : Oper} {os : List Oper} {Γ : Env} {s : Slot} {σ : List Slot} {al : Option (Nat × Nat × (Nat → Ent))} :
    OK1 c full H o Γ s → RJ c full H (k + 1) os (push o.dst s Γ) σ al → RJ c full H k (o :: os) Γ (s :: σ) al
  | alloc {k d : Nat} {o : Oper} {os : List Oper} {Γ : Env} {σ : List Slot} {T : TypeId} {α : Type} {R : Rep α} {x : α} {cs : List Value} :
    o.guard = none → o.dst = some d → o.op = .alloc T → ZeroR R x cs → zeroB c.P T = some cs → RJ c full H (k + 1) os ((d, any) :: Γ) σ none →
    RJ c full H k (o :: os) Γ (any :: σ) (some (k, d, fun b => box b T R x))
def envUp (Γ : Env) : List Oper → List Slot → Env
  | o :: os, s :: σ => envUp (push o.dst s Γ) os σ
  | _, _ => Γ
/-- What is known of a temporary, when the operations of X are done. -/
def cur (l : List Oper) (σ : List Slot) (Γ : Env) (X : Nat → Bool) : Nat → Nat → Option Slot
  | 0, t => lk Γ t
  | k + 1, t => match l[k]?, σ[k]? with
    | some o, some s => if X k && o.dst == some t then some s else cur l σ Γ X k t
    | _, _ => cur l σ Γ X k t
theorem lk_push (d : Option Tmp) (s : Slot) (Γ : Env) (t : Nat) : lk (push d s Γ) t = if d == some t then some s else lk Γ t := by
  cases d with
  | none => simp [push]
  | some d =>
    by_cases h : d = t
    · subst h; simp [push, lk_cons_self]
    · simp only [push]; rw [lk_cons_ne h]; simp [h]
theorem cur_all_cons (o : Oper) (os : List Oper) (s : Slot) (σ : List Slot) (Γ : Env) : ∀ k t, cur (o :: os) (s :: σ) Γ (fun _ => true) (k + 1) t = cur os σ (push o.dst s Γ) (fun _ => true) k t
  | 0, t => by simp only [cur, List.getElem?_cons_zero, Bool.true_and]; rw [lk_push]
  | k + 1, t => by
    rw [cur]
    simp only [List.getElem?_cons_succ]
    rw [cur_all_cons o os s σ Γ k t]
    conv => rhs; rw [cur]
/-- The judgement of the i-th operation, its environment as it is in the text's order. -/
theorem RJ.at {c : Ctx} {full : List Oper} {H : List Ent} {k : Nat} {l : List Oper} {Γ : Env} {σ : List Slot} {al : Option (Nat × Nat × (Nat → Ent))} (h : RJ c full H k l Γ σ al) :
    ∀ i o, l[i]? = some o → ∃ s Γi, σ[i]? = some s ∧ (∀ t, lk Γi t = cur l σ Γ (fun _ => true) i t) ∧
      ((OK1 c full H o Γi s ∧ ∀ d e, al ≠ some (k + i, d, e)) ∨ ∃ (d : Nat) (T : TypeId) (α : Type) (R : Rep α) (x : α) (cs : List Value), s = any ∧ o.guard = none ∧ o.dst = some d ∧ o.op = .alloc T ∧ ZeroR R x cs ∧ zeroB c.P T = some cs ∧ al = some (k + i, d, fun b => box b T R x)) := by
  have hno : ∀ {k : Nat} {l : List Oper} {Γ : Env} {σ : List Slot} {al}, RJ c full H k l Γ σ al → ∀ j d e, al = some (j, d, e) → k ≤ j := by
    intro k l Γ σ al h
    induction h with
    | nil => intro j d e h; cases h
    | read _ _ ih => intro j d e h; have := ih j d e h; omega
    | alloc _ _ _ _ _ _ _ => intro j d e h; cases h; exact Nat.le_refl _
  induction h with
  | nil => intro i o h; simp at h
  | @read k o os Γ s σ al h1 h2 ih =>
    intro i p hi
    cases i with
    | zero =>
      simp only [List.getElem?_cons_zero, Option.some.injEq] at hi
      subst hi
      refine ⟨s, Γ, rfl, fun t => rfl, .inl ⟨h1, fun d e hal => ?_⟩⟩
      have := hno h2 _ d e hal
      omega
    | succ i =>
      obtain ⟨s', Γi, hs, hl, hc⟩ := ih i p (by simpa using hi)
      refine ⟨s', Γi, by simpa using hs, fun t => ?_, ?_⟩
      · rw [hl t, cur_all_cons]
      · rw [show k + (i + 1) = k + 1 + i by omega]; exact hc
  | @alloc k d o os Γ σ T α R x cs hg hd ho hz hzB h2 ih =>
    intro i p hi
    cases i with
    | zero =>
      simp only [List.getElem?_cons_zero, Option.some.injEq] at hi
      subst hi
      exact ⟨any, Γ, rfl, fun t => rfl, .inr ⟨d, T, α, R, x, cs, rfl, hg, hd, ho, hz, hzB, by simp⟩⟩
    | succ i =>
      obtain ⟨s', Γi, hs, hl, hc⟩ := ih i p (by simpa using hi)
      refine ⟨s', Γi, by simpa using hs, fun t => ?_, ?_⟩
      · rw [hl t, cur_all_cons]; simp [push, hd]
      · rcases hc with ⟨hc, _⟩ | ⟨d', T', α', R', x', cs', _, _, _, _, _, _, hal⟩
        · exact .inl ⟨hc, fun d e h => by simp at h⟩
        · cases hal
theorem cur_final (Γ : Env) : ∀ (l : List Oper) (σ : List Slot), l.length = σ.length → ∀ t, lk (envUp Γ l σ) t = cur l σ Γ (fun _ => true) l.length t := by
  intro l
  induction l generalizing Γ with
  | nil => intro σ _ t; cases σ <;> rfl
  | cons o os ih =>
    intro σ h t
    cases σ with
    | nil => simp at h
    | cons s σ => rw [List.length_cons, cur_all_cons, envUp, ih _ σ (by simpa using h) t]
theorem RJ.len {c : Ctx} {full : List Oper} {H : List Ent} {k : Nat} {l : List Oper} {Γ : Env} {σ : List Slot} {al : Option (Nat × Nat × (Nat → Ent))} (h : RJ c full H k l Γ σ al) : l.length = σ.length := by
  induction h with
  | nil => rfl
  | read _ _ ih => simp [ih]
  | alloc _ _ _ _ _ _ ih => simp [ih]
section
variable {c : Ctx} {Γ : Env} {H : List Ent} {a : Act} {w : World} {Q : Exit → Act → World → Prop}
/-- What of the static test is used. -/
theorem drawB_back {full : List Oper} {n : Nat} (h : drawB full n = true) {i : Nat} {o : Oper} (hi : full[i]? = some o) : ∀ e ∈ edges o, e < i := by
  simp only [drawB, Bool.and_eq_true, List.all_eq_true] at h
  intro e he
  have := h.1.1 (o, i) (by rw [List.mem_zipIdx_iff_getElem?]; exact hi) e he
  simpa [Nat.blt_eq] using this
theorem drawB_conf {full : List Oper} {n : Nat} (h : drawB full n = true) {i j t : Nat} {o p : Oper} (hi : full[i]? = some o) (hj : full[j]? = some p) (hne : i ≠ j) (hp : p.dst = some t) (ht : t ∈ names full o) :
    (j < i → j ∈ edges o) ∧ (i < j → i ∈ edges p) := by
  simp only [drawB, Bool.and_eq_true, List.all_eq_true] at h
  have := h.1.2 (o, i) (by rw [List.mem_zipIdx_iff_getElem?]; exact hi) (p, j) (by rw [List.mem_zipIdx_iff_getElem?]; exact hj)
  have hbeq : Nat.beq i j = false := by
    cases hb : Nat.beq i j with
    | false => rfl
    | true => exact absurd (Nat.eq_of_beq_eq_true hb) hne
  have hct : (names full o).contains t = true := by simpa using ht
  simp only [hp, hbeq, hct, Bool.not_true, Bool.or_false, Bool.false_or] at this
  constructor
  · intro hlt
    have hb : Nat.blt j i = true := by simpa [Nat.blt_eq] using hlt
    simpa [hb] using this
  · intro hlt
    have hb : Nat.blt j i = false := by
      cases hb : Nat.blt j i with
      | false => rfl
      | true => have := (Nat.blt_eq ▸ hb : j < i); omega
    simpa [hb] using this
theorem drawB_last {full : List Oper} {n : Nat} (h : drawB full n = true) {i : Nat} {o : Oper} (hi : full[i]? = some o) (hn : n ≤ i) {X : Nat → Bool} (he : ∀ j ∈ edges o, X j = true)
    (hc : ∀ j p, full[j]? = some p → X j = true → ∀ e ∈ edges p, X e = true) : ∀ j, j < i → X j = true := by
  simp only [drawB, Bool.and_eq_true, List.all_eq_true] at h
  have := h.2 (o, i) (by rw [List.mem_zipIdx_iff_getElem?]; exact hi)
  have hb : Nat.blt i n = false := by
    cases hb : Nat.blt i n with
    | false => rfl
    | true => have := (Nat.blt_eq ▸ hb : i < n); omega
  simp only [hb, Bool.false_or, List.all_eq_true] at this
  intro j hj
  exact marks_ok hc i _ he j (by simpa using this j (by simpa using hj))
/-- A judgement holds beside other entities. -/
theorem PJ.frame {o : Oper} {s : Slot} (E : List Ent) (h : PJ c o Γ H s) : PJ c o Γ (E ++ H) s := by
  intro m hs a w hg hG hsat ho
  obtain ⟨h1, h2, rfl, hs1, hs2⟩ := hsat.split
  refine (h m h2 a w hg.sub hG hs2 ho).mono ?_
  rintro v w' ⟨m', hg', hv, hf⟩
  refine ⟨m', ⟨hg'.mem, hg.nodup, fun x hx => ?_, fun x hx o => ?_⟩, hv, hf⟩
  · rw [(hf.old x.1 (hg.ltb (List.mem_map_of_mem (f := (·.1)) hx)) (by simp)).1]; exact hg.blk x hx
  · rw [(hf.old x.1 (hg.ltb (List.mem_map_of_mem (f := (·.1)) hx)) (by simp)).2 o]; exact hg.free x hx o
def AlSat (al : Option (Nat × Nat × (Nat → Ent))) (H : List Ent) (X : Nat → Bool) (m : Mem) (hs : Hp) (a : Act) : Prop :=
  ∃ E, Sat (E ++ H) m hs ∧ ((E = [] ∧ ∀ ia d e, al = some (ia, d, e) → X ia = false) ∨ ∃ ia d e b, al = some (ia, d, e) ∧ X ia = true ∧ E = [e b] ∧ a.tmps.getD d undef = .pointer (some ⟨b, 0, none⟩))
/-- What holds when the operations of X are done. -/
def DInv (c : Ctx) (full l : List Oper) (σ : List Slot) (al : Option (Nat × Nat × (Nat → Ent))) (Γ : Env) (H : List Ent) (X : Nat → Bool) (a : Act) (w : World) : Prop :=
  Dfr c a.defers w ∧ a.tmps.size = c.N ∧ ∃ m hs, Good m hs w ∧ c.G.p m ∧ (∀ t s, cur l σ Γ X l.length t = some s → s.p m (a.tmps.getD t undef)) ∧ Frm c.w0 w c.m0 m c.b0 hs.bs ∧ AlSat al H X m hs a
theorem cur_notin {l : List Oper} {σ : List Slot} {Γ : Env} {X : Nat → Bool} {t i : Nat} : ∀ k, i ≤ k → (∀ j o, i ≤ j → j < k → l[j]? = some o → o.dst = some t → X j = false) → cur l σ Γ X k t = cur l σ Γ X i t := by
  intro k
  induction k with
  | zero => intro hk _; have : i = 0 := by omega
            rw [this]
  | succ k ih =>
    intro hk h
    by_cases hik : i = k + 1
    · rw [hik]
    · rw [cur]
      have ih := ih (by omega) (fun j o h1 h2 => h j o h1 (by omega))
      cases hl : l[k]? with
      | none => simpa [hl] using ih
      | some o =>
        cases hs : σ[k]? with
        | none => simpa [hl, hs] using ih
        | some s =>
          simp only []
          by_cases hd : o.dst = some t
          · have := h k o (by omega) (by omega) hl hd
            simp [this, ih]
          · have hd' : (o.dst == some t) = false := by simpa using hd
            simp [hd', ih]
theorem cur_allin {l : List Oper} {σ : List Slot} {Γ : Env} {X : Nat → Bool} {t : Nat} : ∀ i, (∀ j o, j < i → l[j]? = some o → o.dst = some t → X j = true) → cur l σ Γ X i t = cur l σ Γ (fun _ => true) i t := by
  intro i
  induction i with
  | zero => intro _; rfl
  | succ i ih =>
    intro h
    have ih := ih (fun j o hj => h j o (by omega))
    rw [cur, cur]
    cases hl : l[i]? with
    | none => simpa [hl] using ih
    | some o =>
      cases hs : σ[i]? with
      | none => simpa [hl, hs] using ih
      | some s =>
        simp only [Bool.true_and]
        by_cases hd : o.dst = some t
        · have := h i o (by omega) hl hd
          simp [this, hd]
        · have hd' : (o.dst == some t) = false := by simpa using hd
          simp [hd', ih]
theorem cur_put_other {l : List Oper} {σ : List Slot} {Γ : Env} {X X' : Nat → Bool} {t : Nat} : ∀ k, (∀ j o, j < k → l[j]? = some o → o.dst = some t → X j = X' j) → cur l σ Γ X k t = cur l σ Γ X' k t := by
  intro k
  induction k with
  | zero => intro _; rfl
  | succ k ih =>
    intro h
    have ih := ih (fun j o hj => h j o (by omega))
    rw [cur, cur]
    cases hl : l[k]? with
    | none => simpa [hl] using ih
    | some o =>
      cases hs : σ[k]? with
      | none => simpa [hl, hs] using ih
      | some s =>
        simp only []
        by_cases hd : o.dst = some t
        · rw [h k o (by omega) hl hd, ih]
        · have hd' : (o.dst == some t) = false := by simpa using hd
          simp [hd', ih]
end
end Go.Sl
namespace Go.Sl
def dstB (N : Nat) (l : List Oper) : Bool := l.all fun o => match o.dst with | some d => Nat.blt d N | none => true
def distB (l : List Oper) : Bool := l.zipIdx.all fun (o, i) => l.zipIdx.all fun (p, j) => Nat.beq i j || match o.dst, p.dst with | some d, some e => !(Nat.beq d e) | _, _ => true
theorem distB_of {l : List Oper} (h : distB l = true) {i j d : Nat} {o p : Oper} (hi : l[i]? = some o) (hj : l[j]? = some p) (ho : o.dst = some d) (hp : p.dst = some d) : i = j := by
  simp only [distB, List.all_eq_true] at h
  have := h (o, i) (by rw [List.mem_zipIdx_iff_getElem?]; exact hi) (p, j) (by rw [List.mem_zipIdx_iff_getElem?]; exact hj)
  have hdd : Nat.beq d d = true := by simp
  simp only [ho, hp, hdd, Bool.not_true, Bool.or_false] at this
  exact Nat.eq_of_beq_eq_true this
section
variable {c : Ctx} {Γ : Env} {H : List Ent} {a : Act} {w : World} {Q : Exit → Act → World → Prop} {l rest : List Oper} {σ : List Slot} {al : Option (Nat × Nat × (Nat → Ent))} {X : Nat → Bool}
def upd (X : Nat → Bool) (i : Nat) : Nat → Bool := fun j => if j = i then true else X j
theorem dinv_step {i : Nat} {o : Oper} {K : Act → World → Prop} (hB : drawB (l ++ rest) l.length = true) (hN : dstB c.N l = true) (hU : al = none ∨ distB l = true) (hR : RJ c (l ++ rest) H 0 l Γ σ al)
    (hi : l[i]? = some o) (hX : X i = false) (he : ∀ j ∈ edges o, X j = true) (hcl : ∀ j p, l[j]? = some p → X j = true → ∀ e ∈ edges p, X e = true)
    (hD : DInv c (l ++ rest) l σ al Γ H X a w) (hK : ∀ a' w', DInv c (l ++ rest) l σ al Γ H (upd X i) a' w' → K a' w') : wpOpIn (fen c.ro) 0 c.P (l ++ rest).toArray Q i K a w := by
  have hlt : i < l.length := (List.getElem?_eq_some_iff.1 hi).1
  have hfull : ∀ {j p}, l[j]? = some p → (l ++ rest)[j]? = some p := fun {j p} h => by
    rw [List.getElem?_append_left (List.getElem?_eq_some_iff.1 h).1]; exact h
  have hfi := hfull hi
  have hop : (l ++ rest).toArray[i]? = some o := by simpa using hfi
  obtain ⟨s, Γi, hs, hlk, hcase⟩ := hR.at i o hi
  obtain ⟨hdf, hn, m, hs2, hg, hG, hcur, hfr, hal⟩ := hD
  -- what is known of a temporary that the operation names
  have hafter : ∀ t ∈ names (l ++ rest) o, ∀ j p, i < j → l[j]? = some p → p.dst = some t → X j = false := by
    intro t ht j p hij hp hd
    cases hXj : X j with
    | false => rfl
    | true =>
      have := (drawB_conf hB hfi (hfull hp) (by omega) hd ht).2 hij
      have := hcl j p hp hXj i this
      rw [hX] at this; cases this
  have hknown : ∀ t ∈ names (l ++ rest) o, cur l σ Γ X l.length t = lk Γi t := by
    intro t ht
    rw [hlk t, cur_notin l.length (by omega : i ≤ l.length), cur_allin i]
    · intro j p hj hp hd
      exact he j ((drawB_conf hB hfi (hfull hp) (by omega) hd ht).1 hj)
    · intro j p h1 h2 hp hd
      by_cases hji : j = i
      · subst hji; exact hX
      · exact hafter t ht j p (by omega) hp hd
  have hopd : OpdOK o Γi m a := by
    intro x hx
    cases x with
    | tmp t =>
      intro s' e
      have ht : t ∈ names (l ++ rest) o := by
        simp only [names, List.mem_append]
        refine .inl (.inr ?_)
        simp only [tmpsOf, List.mem_filterMap]
        exact ⟨.tmp t, by simpa using hx, rfl⟩
      exact hcur t s' (by rw [hknown t ht]; exact e)
    | _ => trivial
  have hdN : ∀ d, o.dst = some d → d < a.tmps.size := by
    intro d hd
    simp only [dstB, List.all_eq_true] at hN
    have := hN o (List.mem_of_getElem? hi)
    rw [hd] at this
    rw [hn]; simpa [Nat.blt_eq] using this
  -- the new knowledge
  have hnew : ∀ {m' : Mem} {v : Value}, Mle m m' → s.p m' v → ∀ t s', cur l σ Γ (upd X i) l.length t = some s' → s'.p m' ((a.put o.dst v).tmps.getD t undef) := by
    intro m' v hle hv t s' e
    by_cases hd : o.dst = some t
    · have ht : t ∈ names (l ++ rest) o := by simp [names, hd]
      rw [cur_notin l.length (by omega : i + 1 ≤ l.length)] at e
      · rw [cur] at e
        simp only [hi, hs, upd, if_true, hd, beq_self_eq_true, Bool.and_self] at e
        cases e
        rw [hd, put_getD_self (hdN t hd)]
        exact hv
      · intro j p h1 h2 hp hdp
        have hji : j ≠ i := by omega
        simp only [upd, if_neg hji]
        exact hafter t ht j p (by omega) hp hdp
    · have e' : cur l σ Γ X l.length t = some s' := by
        rw [← e]
        refine cur_put_other l.length fun j p hj hp hdp => ?_
        by_cases hji : j = i
        · subst hji
          rw [hi] at hp; cases hp
          exact absurd hdp hd
        · simp [upd, hji]
      have hgd : (a.put o.dst v).tmps.getD t undef = a.tmps.getD t undef := by
        cases hdd : o.dst with
        | none => rfl
        | some d => exact put_getD_ne (fun e => hd (by rw [hdd, e]))
      rw [hgd]
      exact s'.mono hle (hcur t s' e')
  -- the allocation writes its temporary alone
  have halloc : ∀ ia d e, al = some (ia, d, e) → ia ≠ i → o.dst ≠ some d := by
    intro ia d e hal2 hia hod
    have hdist := hU.resolve_left (by rw [hal2]; simp)
    have hlen : ia < l.length := by
      have key : ∀ {full : List Oper} {k : Nat} {l : List Oper} {Γ : Env} {σ : List Slot} {al}, RJ c full H k l Γ σ al → ∀ j d e, al = some (j, d, e) → j < k + l.length := by
        intro full k l Γ σ al h
        induction h with
        | nil => intro j d e h; cases h
        | read _ _ ih => intro j d e h; have := ih j d e h; simp only [List.length_cons]; omega
        | alloc => intro j d e h; cases h; simp only [List.length_cons]; omega
      have := key hR ia d e hal2
      omega
    obtain ⟨s3, Γ3, _, _, h3⟩ := hR.at ia l[ia] (List.getElem?_eq_getElem hlen)
    rcases h3 with ⟨_, h3⟩ | ⟨d3, T3, α3, R3, x3, cs3, _, _, hd3, _, _, _, hal3⟩
    · exact absurd hal2 (by simpa using h3 d e)
    · rw [hal2] at hal3
      simp only [Nat.zero_add, Option.some.injEq, Prod.mk.injEq, true_and] at hal3
      exact hia (distB_of hdist (List.getElem?_eq_getElem hlen) hi (by rw [hd3, hal3.1]) hod)
  have hkeepAl : (∀ d e, al ≠ some (i, d, e)) → ∀ {m' : Mem} {v : Value}, Mle m m' → AlSat al H (upd X i) m' hs2 (a.put o.dst v) := by
    intro hne m' v hle
    obtain ⟨E, hsE, hE⟩ := hal
    refine ⟨E, hsE.mono hle, ?_⟩
    rcases hE with ⟨rfl, hE⟩ | ⟨ia, d, e, b, hal2, hx, rfl, hb⟩
    · refine .inl ⟨rfl, fun ia d e h => ?_⟩
      have hia : ia ≠ i := fun h2 => hne d e (by rw [h, h2])
      simp only [upd, if_neg hia]
      exact hE ia d e h
    · have hia : ia ≠ i := fun h2 => hne d e (by rw [hal2, h2])
      refine .inr ⟨ia, d, e, b, hal2, by simp only [upd, if_neg hia]; exact hx, rfl, ?_⟩
      cases hod : o.dst with
      | none => exact hb
      | some d' => rw [put_getD_ne (fun e2 => halloc ia d e hal2 hia (by rw [hod, e2]))]; exact hb
  unfold wpOpIn
  rw [hop]
  simp only []
  have hrun : (∀ d e, al ≠ some (i, d, e)) → PJ c o Γi H s → o.wpIn (fen c.ro) 0 c.P a w K Q := by
    intro hne hpj
    obtain ⟨E, hsE, _⟩ := hal
    refine Upon.wp ((hpj.frame E) m hs2 a w hg hG hsE hopd) ?_
    rintro v w' ⟨m', hg', hv, hf⟩
    refine hK _ _ ⟨by rw [put_defers]; exact hdf.step hg (hf.keepOwn _), by rw [put_size]; exact hn, m', hs2, hg', c.G.mono hf.le hG, hnew hf.le hv, hfr.trans (hf.keepOwn _), hkeepAl hne hf.le⟩
  have hguard : ∀ {yes : Bool}, GuardIs (l ++ rest) o Γi yes → Region.wanted o (yielded (l ++ rest).toArray a.tmps) = yes := by
    rintro yes ⟨j, want, b, t, s', hgd, hj, hl, hb, hy⟩
    have ht : t ∈ names (l ++ rest) o := by simp [names, gTmp, hgd, hj]
    have hv := hb m _ (hcur t s' (by rw [hknown t ht]; exact hl))
    have hlt2 : t < a.tmps.size := by
      rcases Nat.lt_or_ge t a.tmps.size with h | h
      · exact h
      · have : a.tmps.getD t undef = undef := by simp [Array.getD, Nat.not_lt.2 h]
        rw [this] at hv; cases hv
    have hyv : yielded (l ++ rest).toArray a.tmps j = some b := by
      simp only [yielded, List.getElem?_toArray, hj, Option.bind_some, Array.getElem?_eq_getElem hlt2]
      simp only [Array.getD, hlt2, dite_true] at hv
      simp only [Array.getInternal_eq_getElem] at hv
      rw [hv]
    simp only [Region.wanted, hgd, hyv]
    rw [← hy]; cases b <;> cases want <;> rfl
  have hundef : GuardUndef (l ++ rest) o Γi → Region.wanted o (yielded (l ++ rest).toArray a.tmps) = false := by
    rintro ⟨j, want, t, hgd, hj, hl⟩
    have ht : t ∈ names (l ++ rest) o := by simp [names, gTmp, hgd, hj]
    have hv : a.tmps.getD t undef = undef := hcur t _ (by rw [hknown t ht]; exact hl)
    have hyv : yielded (l ++ rest).toArray a.tmps j = none := by
      simp only [yielded, List.getElem?_toArray, hj, Option.bind_some]
      by_cases hlt : t < a.tmps.size
      · simp only [Array.getElem?_eq_getElem hlt]
        simp only [Array.getD, hlt, dite_true] at hv
        simp only [Array.getInternal_eq_getElem] at hv
        rw [hv]; rfl
      · simp [Array.getElem?_eq_none (Nat.not_lt.1 hlt)]
    simp only [Region.wanted, hgd, hyv]; rfl
  rcases hcase with ⟨hok, hne⟩ | ⟨d, T, α, R, x, cs, rfl, hgd, hdd, hoo, hz, hzB, hal3⟩
  · have hne' : ∀ d e, al ≠ some (i, d, e) := fun d e h => hne d e (by rw [h, Nat.zero_add])
    cases hok with
    | plain hgd hpj =>
      have hw : Region.wanted o (yielded (l ++ rest).toArray a.tmps) = true := by simp [Region.wanted, hgd]
      rw [if_pos hw]
      exact hrun hne' hpj
    | yes hgd hpj =>
      rw [if_pos (hguard hgd)]
      exact hrun hne' hpj
    | no hgd =>
      have hw := hguard hgd
      rw [if_neg (by rw [hw]; simp)]
      exact ⟨fun f _ => fen_fn _ f, hK _ _ ⟨by rw [put_defers]; exact hdf, by rw [put_size]; exact hn, m, hs2, hg, hG, hnew (Mle.refl m) rfl, hfr, hkeepAl hne' (Mle.refl m)⟩⟩
    | undef hgd =>
      have hw := hundef hgd
      rw [if_neg (by rw [hw]; simp)]
      exact ⟨fun f _ => fen_fn _ f, hK _ _ ⟨by rw [put_defers]; exact hdf, by rw [put_size]; exact hn, m, hs2, hg, hG, hnew (Mle.refl m) rfl, hfr, hkeepAl hne' (Mle.refl m)⟩⟩
  · have hw : Region.wanted o (yielded (l ++ rest).toArray a.tmps) = true := by simp [Region.wanted, hgd]
    rw [if_pos hw]
    rw [Nat.zero_add] at hal3
    obtain ⟨E, hsE, hE⟩ := hal
    have hE0 : E = [] := by
      rcases hE with ⟨rfl, _⟩ | ⟨ia, d', e', b, hal2, hx, _⟩
      · rfl
      · rw [hal3] at hal2
        simp only [Option.some.injEq, Prod.mk.injEq] at hal2
        rw [← hal2.1, hX] at hx; cases hx
    subst hE0
    obtain ⟨zv, hzv, hzc⟩ := zeroB_run hzB w
    have hrn : (execOp a.eval o).run c.P w = .ok (.value (.pointer (some ⟨w.heap.size, 0, none⟩))) (w.alloc (.cells cs.toArray T)) := by
      simp [execOp, hoo, Instr.alloc, hzv, newVar, newRow, hzc]
    refine (Upon.wp (k := fun v w' => v = .pointer (some ⟨w.heap.size, 0, none⟩) ∧ w' = w.alloc (.cells cs.toArray T)) ?_ ?_)
    · rw [hrn]; exact ⟨rfl, rfl⟩
    · rintro v w' ⟨rfl, rfl⟩
      refine hK _ _ ⟨by rw [put_defers]; exact hdf.step hg (Frm.alloc _ _ _ _), by rw [put_size]; exact hn, m, (w.heap.size, T, cs) :: hs2, hg.newOwn T cs, hG, hnew (Mle.refl m) trivial, hfr.trans (Frm.alloc _ _ _ _), ?_⟩
      refine ⟨[box w.heap.size T R x], ⟨[(w.heap.size, T, cs)], hs2, rfl, ⟨cs, rfl, hz m⟩, hsE⟩, .inr ⟨i, d, _, w.heap.size, hal3, by simp [upd], rfl, ?_⟩⟩
      rw [hdd, put_getD_self (hdN d hdd)]

/-! ### The whole -/
def left (n : Nat) (X : Nat → Bool) : Nat := (List.range n).countP fun i => !X i
theorem left_upd {n i : Nat} {X : Nat → Bool} (hi : i < n) (hX : X i = false) : left n (upd X i) + 1 = left n X := by
  unfold left
  induction n with
  | zero => omega
  | succ n ih =>
    rw [List.range_succ, List.countP_append, List.countP_append]
    simp only [List.countP_cons, List.countP_nil]
    by_cases h : i = n
    · subst h
      have : (List.range i).countP (fun j => !upd X i j) = (List.range i).countP (fun j => !X j) := by
        apply List.countP_congr
        intro j hj
        have : j ≠ i := by have := List.mem_range.1 hj; omega
        simp [upd, this]
      rw [this]
      simp [upd, hX]
    · have ih := ih (by omega)
      have hn : n ≠ i := fun e => h e.symm
      simp only [upd, if_neg hn] at ih ⊢
      omega
theorem left_zero {n : Nat} {X : Nat → Bool} (h : left n X = 0) : ∀ i, i < n → X i = true := by
  intro i hi
  unfold left at h
  rw [List.countP_eq_zero] at h
  have := h i (List.mem_range.2 hi)
  simpa using this
def Xof (listed : Array Bool) : Nat → Bool := fun i => listed.getD i false
theorem Xof_upd {listed : Array Bool} {i : Nat} (hi : i < listed.size) : Xof (listed.setIfInBounds i true) = upd (Xof listed) i := by
  funext j
  simp only [Xof, upd, Array.getD]
  by_cases h : j = i
  · subst h; simp [hi]
  · have h' : i ≠ j := fun e => h e.symm
    simp only [h, if_false, Array.size_setIfInBounds]
    by_cases hj : j < listed.size
    · simp [hj, Array.getElem_setIfInBounds, h']
    · simp [hj]
theorem mem_ready {full : List Oper} {listed : Array Bool} {i : Nat} (hs : listed.size = full.length) : i ∈ Region.ready .any full.toArray listed ↔ ∃ o, full[i]? = some o ∧ Xof listed i = false ∧ ∀ j ∈ edges o, Xof listed j = true := by
  unfold Region.ready
  simp only [List.size_toArray, List.mem_filter, List.mem_range, List.getElem?_toArray, Bool.and_eq_true]
  constructor
  · rintro ⟨hi, h1, h2⟩
    rw [List.getElem?_eq_getElem hi] at h2
    simp only [Option.map_some, Option.getD_some] at h2
    refine ⟨full[i], List.getElem?_eq_getElem hi, ?_, ?_⟩
    · have hi' : i < listed.size := by omega
      simp only [Xof, Array.getD, hi', dite_true] at h1 ⊢
      simpa using h1
    · intro j hj
      simp only [edges, List.mem_map, List.mem_filter] at hj
      obtain ⟨e, ⟨he, hb⟩, rfl⟩ := hj
      rw [Array.all_eq_true_iff_forall_mem] at h2
      have := h2 e (by simpa using he)
      simpa [hb, Xof] using this
  · rintro ⟨o, ho, hX, he⟩
    obtain ⟨hi, rfl⟩ := List.getElem?_eq_some_iff.1 ho
    refine ⟨hi, ?_, ?_⟩
    · have hi' : i < listed.size := by omega
      simp only [Xof, Array.getD, hi', dite_true] at hX ⊢
      simpa using hX
    · rw [ho]
      simp only [Option.map_some, Option.getD_some]
      rw [Array.all_eq_true_iff_forall_mem]
      intro e hem
      by_cases hb : Region.binds .any e = true
      · have := he e.on (by simp only [edges, List.mem_map, List.mem_filter]; exact ⟨e, ⟨by simpa using hem, hb⟩, rfl⟩)
        simp only [Xof] at this
        simp [this]
      · simp [hb]
theorem list_split (full : List Oper) (n : Nat) : full = full.take n ++ full.drop n := (List.take_append_drop n full).symm
theorem draw_main (hm : c.P.follows .mixedOrders = true) (hB : drawB (l ++ rest) l.length = true) (hN : dstB c.N l = true) (hU : al = none ∨ distB l = true) (hR : RJ c (l ++ rest) H 0 l Γ σ al)
    (hend : ∀ a w, DInv c (l ++ rest) l σ al Γ H (fun _ => true) a w → wpListIn (fen c.ro) 0 c.P (l ++ rest).toArray Q rest a w) :
    ∀ (fuel : Nat) (listed : Array Bool) (a : Act) (w : World), listed.size = (l ++ rest).length → left (l ++ rest).length (Xof listed) ≤ fuel →
      (((∀ i, l.length ≤ i → Xof listed i = false) ∧ (∀ j p, l[j]? = some p → Xof listed j = true → ∀ e ∈ edges p, Xof listed e = true) ∧ DInv c (l ++ rest) l σ al Γ H (Xof listed) a w) ∨
        (∃ p, l.length ≤ p ∧ p ≤ (l ++ rest).length ∧ (∀ i, i < (l ++ rest).length → Xof listed i = decide (i < p)) ∧ wpListIn (fen c.ro) 0 c.P (l ++ rest).toArray Q ((l ++ rest).drop p) a w)) →
      wpAnyIn (fen c.ro) 0 c.P .any (l ++ rest).toArray Q fuel listed a w := by
  -- a first part that is done is a second part that has begun
  have conv : ∀ {listed : Array Bool} {a : Act} {w : World}, (∀ i, l.length ≤ i → Xof listed i = false) → DInv c (l ++ rest) l σ al Γ H (Xof listed) a w → (∀ i, i < l.length → Xof listed i = true) →
      ∃ p, l.length ≤ p ∧ p ≤ (l ++ rest).length ∧ (∀ i, i < (l ++ rest).length → Xof listed i = decide (i < p)) ∧ wpListIn (fen c.ro) 0 c.P (l ++ rest).toArray Q ((l ++ rest).drop p) a w := by
    intro listed a w h1 h2 h3
    refine ⟨l.length, Nat.le_refl _, by simp, fun i _ => ?_, ?_⟩
    · by_cases hi : i < l.length
      · simp [hi, h3 i hi]
      · simp [hi, h1 i (by omega)]
    · rw [List.drop_left']
      · refine hend a w ?_
        obtain ⟨hdf, hn, m, hs, hg, hG, hcur, hfr, E, hsE, hE⟩ := h2
        refine ⟨hdf, hn, m, hs, hg, hG, fun t s e => hcur t s ?_, hfr, E, hsE, ?_⟩
        · rw [← e]
          refine cur_put_other l.length fun j o hj _ _ => ?_
          rw [h3 j hj]
        · rcases hE with ⟨rfl, hE⟩ | ⟨ia, d, e, b, hal, hx, hEe, hb⟩
          · refine .inl ⟨rfl, fun ia d e h => ?_⟩
            have hlen : ia < l.length := by
              have key : ∀ {full : List Oper} {k : Nat} {l : List Oper} {Γ : Env} {σ : List Slot} {al}, RJ c full H k l Γ σ al → ∀ j d e, al = some (j, d, e) → j < k + l.length := by
                intro full k l Γ σ al h
                induction h with
                | nil => intro j d e h; cases h
                | read _ _ ih => intro j d e h; have := ih j d e h; simp only [List.length_cons]; omega
                | alloc => intro j d e h; cases h; simp only [List.length_cons]; omega
              have := key hR ia d e h
              omega
            have := hE ia d e h
            rw [h3 ia hlen] at this; cases this
          · exact .inr ⟨ia, d, e, b, hal, rfl, hEe, hb⟩
      · rfl
  intro fuel
  induction fuel with
  | zero =>
    intro listed a w hsz hleft hinv
    have hall := left_zero (Nat.le_zero.1 hleft)
    have hemp : Region.ready .any (l ++ rest).toArray listed = [] := by
      rw [List.eq_nil_iff_forall_not_mem]
      intro i hi
      obtain ⟨o, ho, hX, _⟩ := (mem_ready hsz).1 hi
      rw [hall i (List.getElem?_eq_some_iff.1 ho).1] at hX; cases hX
    refine ⟨hemp, ?_⟩
    obtain ⟨p, hp1, hp2, hp3, hp4⟩ : ∃ p, l.length ≤ p ∧ p ≤ (l ++ rest).length ∧ (∀ i, i < (l ++ rest).length → Xof listed i = decide (i < p)) ∧ wpListIn (fen c.ro) 0 c.P (l ++ rest).toArray Q ((l ++ rest).drop p) a w := by
      rcases hinv with ⟨h1, _, h2⟩ | h
      · exact conv h1 h2 (fun i hi => hall i (by simp; omega))
      · exact h
    have hpe : p = (l ++ rest).length := by
      rcases Nat.lt_or_ge p (l ++ rest).length with h | h
      · have := hp3 p h
        rw [hall p h] at this; simp at this
      · omega
    rw [hpe, List.drop_length] at hp4
    exact hp4
  | succ fuel ih =>
    intro listed a w hsz hleft hinv
    -- nothing is ready: all is done
    have hdone : Region.ready .any (l ++ rest).toArray listed = [] → ∀ i, i < (l ++ rest).length → Xof listed i = true := by
      intro hemp i
      induction i using Nat.strongRecOn with
      | _ i ihi =>
        intro hi
        cases hX : Xof listed i with
        | true => rfl
        | false =>
          have : i ∈ Region.ready .any (l ++ rest).toArray listed := (mem_ready hsz).2 ⟨(l ++ rest)[i], List.getElem?_eq_getElem hi, hX, fun j hj => by
            have hji := drawB_back hB (List.getElem?_eq_getElem hi) j hj
            exact ihi j hji (by omega)⟩
          rw [hemp] at this; cases this
    refine ⟨fun hemp => ?_, fun i hi => ?_⟩
    · have hall := hdone hemp
      obtain ⟨p, hp1, hp2, hp3, hp4⟩ : ∃ p, l.length ≤ p ∧ p ≤ (l ++ rest).length ∧ (∀ i, i < (l ++ rest).length → Xof listed i = decide (i < p)) ∧ wpListIn (fen c.ro) 0 c.P (l ++ rest).toArray Q ((l ++ rest).drop p) a w := by
        rcases hinv with ⟨h1, _, h2⟩ | h
        · exact conv h1 h2 (fun i hi => hall i (by simp; omega))
        · exact h
      have hpe : p = (l ++ rest).length := by
        rcases Nat.lt_or_ge p (l ++ rest).length with h | h
        · have := hp3 p h
          rw [hall p h] at this; simp at this
        · omega
      rw [hpe, List.drop_length] at hp4
      exact hp4
    · obtain ⟨o, ho, hX, hedge⟩ := (mem_ready hsz).1 hi
      have hilt := (List.getElem?_eq_some_iff.1 ho).1
      have hsz' : (listed.setIfInBounds i true).size = (l ++ rest).length := by simpa using hsz
      have hXu := Xof_upd (listed := listed) (i := i) (by omega)
      have hleft' : left (l ++ rest).length (Xof (listed.setIfInBounds i true)) ≤ fuel := by
        rw [hXu]; have := left_upd hilt hX; omega
      -- which part?
      have hB' : (∃ p, l.length ≤ p ∧ p ≤ (l ++ rest).length ∧ (∀ i, i < (l ++ rest).length → Xof listed i = decide (i < p)) ∧ wpListIn (fen c.ro) 0 c.P (l ++ rest).toArray Q ((l ++ rest).drop p) a w) →
          wpOpIn (fen c.ro) 0 c.P (l ++ rest).toArray Q i (wpAnyIn (fen c.ro) 0 c.P .any (l ++ rest).toArray Q fuel (listed.setIfInBounds i true)) a w := by
        rintro ⟨p, hp1, hp2, hp3, hp4⟩
        have hip : ¬ i < p := by
          intro h
          have := hp3 i hilt
          rw [hX] at this; simp [h] at this
        have hpi : p = i := by
          rcases Nat.lt_or_ge p i with h | h
          · have := drawB_last hB ho (by omega) (X := Xof listed) hedge (fun j q hj hXj e he => by
              have hjl := (List.getElem?_eq_some_iff.1 hj).1
              rw [hp3 j hjl] at hXj
              have hjp : j < p := by simpa using hXj
              have hej := drawB_back hB hj e he
              rw [hp3 e (by omega)]; simp; omega) p h
            rw [hp3 p (by omega)] at this
            simp at this
          · omega
        subst hpi
        rw [List.drop_eq_getElem_cons hilt] at hp4
        have hoe : (l ++ rest)[p] = o := (List.getElem?_eq_some_iff.1 ho).2
        rw [hoe] at hp4
        have hop : (l ++ rest).toArray[p]? = some o := by simpa using ho
        have : wpOpIn (fen c.ro) 0 c.P (l ++ rest).toArray Q p (wpListIn (fen c.ro) 0 c.P (l ++ rest).toArray Q ((l ++ rest).drop (p + 1))) a w := by
          unfold wpOpIn
          rw [hop]
          exact hp4
        refine wpOpIn_mono (fun a' w' h' => ?_) this
        refine ih _ a' w' hsz' hleft' (.inr ⟨p + 1, by omega, by omega, fun j hj => ?_, h'⟩)
        rw [hXu]
        by_cases hjp : j = p
        · simp [upd, hjp]
        · simp only [upd, if_neg hjp, hp3 j hj]
          congr 1
          rw [eq_iff_iff]; omega
      rcases hinv with ⟨h1, h2, h3⟩ | h
      · by_cases hil : i < l.length
        · have hol : l[i]? = some o := by rwa [List.getElem?_append_left hil] at ho
          refine dinv_step hB hN hU hR hol hX hedge h2 h3 fun a' w' hD => ?_
          refine ih _ a' w' hsz' hleft' (.inl ⟨fun j hj => ?_, fun j p hp hj e he => ?_, by rw [hXu]; exact hD⟩)
          · rw [hXu]
            have : j ≠ i := by omega
            simp only [upd, if_neg this]
            exact h1 j hj
          · rw [hXu] at hj ⊢
            simp only [upd] at hj ⊢
            split
            · rfl
            · by_cases hji : j = i
              · subst hji
                rw [hol] at hp; cases hp
                exact hedge e he
              · rw [if_neg hji] at hj
                exact h2 j p hp hj e he
        · refine hB' (conv h1 h3 fun j hj => ?_)
          refine drawB_last hB ho (by omega) (X := Xof listed) hedge (fun j' q hj' hXj e he => ?_) j (by omega)
          have hjl : j' < l.length := by
            rcases Nat.lt_or_ge j' l.length with h | h
            · exact h
            · rw [h1 j' h] at hXj; cases hXj
          exact h2 j' q (by rwa [List.getElem?_append_left hjl] at hj') hXj e he
      · exact hB' h
/-- A REGION THAT DRAWS ITS ORDER: its first n operations only read (and one may make a variable); the others come behind all, one behind the other. -/
theorem r_draw {id n : Nat} {L : List Oper} (hst : St c Γ H a w) (hm : c.P.follows .mixedOrders = true) (hB : drawB L n = true) (hn : Nat.ble n L.length = true) (hN : dstB c.N (L.take n) = true) (hR : RJ c L H 0 (L.take n) Γ σ none)
    (k : OpsJ c L.toArray (L.drop n) (envUp Γ (L.take n) σ) H (Q .normal)) : (Code.region id L.toArray true).wpIn (fen c.ro) 0 c.P Q a w := by
  have hlen : (L.take n).length = n := by rw [List.length_take]; have := Nat.ble_eq ▸ hn; omega
  have e := list_split L n
  have main := draw_main (c := c) (Γ := Γ) (H := H) (Q := Q) (l := L.take n) (rest := L.drop n) (σ := σ) (al := none) hm (by rw [← e, hlen]; exact hB) hN (.inl rfl) (by rw [← e]; exact hR)
    (fun a w ⟨hdf, hn, m, hs, hg, hG, hcur, hfr, E, hsE, hE⟩ => by
      rw [← e]
      have hE0 : E = [] := by
        rcases hE with ⟨rfl, _⟩ | ⟨ia, d, e, b, hal, _⟩
        · rfl
        · cases hal
      subst hE0
      refine k a w Q (fun _ _ h => h) ⟨hdf, hn, m, hs, hg, hG, fun t s h => hcur t s ?_, hsE, hfr⟩
      rw [← cur_final Γ _ σ hR.len t]; exact h)
  refine wpIn_region_any hm ?_
  rw [← e] at main
  obtain ⟨hdf, hn', m, hs, hg, hG, he, hsat, hf⟩ := hst
  refine main _ _ a w.drew (by simp) (Nat.le_trans (List.countP_le_length) (by simp)) (.inl ⟨fun i _ => ?_, fun j p _ hj => ?_, hdf.step hg (Frm.drew _ _ _), hn', m, hs, hg.drew, hG, fun t s h => he t s ?_, hf.trans (Frm.drew _ _ _), [], hsat, .inl ⟨rfl, fun _ _ _ h => by cases h⟩⟩)
  · simp only [Xof, Array.getD]; split <;> simp
  · simp only [Xof, Array.getD] at hj; split at hj <;> simp at hj
  · rw [← h]
    have : ∀ k, cur (L.take n) σ Γ (Xof (Array.replicate L.toArray.size false)) k t = lk Γ t := by
      intro k
      rw [cur_notin k (Nat.zero_le k)]
      · rfl
      · intro j o _ _ _ _
        simp only [Xof, Array.getD]; split <;> simp
    rw [this]
end
end Go.Sl
namespace Go.Sl
/-! ## Code -/
def wpAll (r : Option Nat) (P : Program) (Q : Exit → Act → World → Prop) : List Code → Act → World → Prop
  | [] => Q .normal
  | x :: k => x.wpIn (fen r) 0 P (Exit.then (wpAll r P Q k) Q)
def Run (c : Ctx) (Q : Exit → Act → World → Prop) (k : List Code) (Γ : Env) (H : List Ent) : Prop := ∀ a w, St c Γ H a w → wpAll c.ro c.P Q k a w
section
variable {c : Ctx} {Γ Γ' : Env} {H H' : List Ent} {Q : Exit → Act → World → Prop} {k : List Code}
theorem run_nil (h : ∀ a w, St c Γ H a w → Q .normal a w) : Run c Q [] Γ H := h
theorem run_seq {x y : Code} (h : Run c Q (x :: y :: k) Γ H) : Run c Q (.seq x y :: k) Γ H := by
  intro a w hst
  refine wpIn_seq (wpIn_mono (h a w hst) fun e a' w' he => ?_)
  cases e <;> exact he
theorem run_skip (h : Run c Q k Γ H) : Run c Q (.skip :: k) Γ H := fun a w hst => wpIn_skip (h a w hst)
theorem run_sub (h : SubE Γ Γ') (r : Run c Q k Γ' H) : Run c Q k Γ H := fun a w hst => r a w (hst.sub h)
theorem run_keep (h : Keep H H') (r : Run c Q k Γ H') : Run c Q k Γ H := fun a w hst => r a w (hst.keep h)
theorem run_text {id : Nat} {l : List Oper} (h : OpsJ c l.toArray l Γ H (wpAll c.ro c.P Q k)) : Run c Q (.region id l.toArray false :: k) Γ H :=
  fun a w hst => wpIn_region_lit (h a w _ (fun _ _ h => h) hst)
theorem j_end {full : Array Oper} (h : Run c Q k Γ H) : OpsJ c full [] Γ H (wpAll c.ro c.P Q k) := fun a w Q' hQ hst => hQ a w (h a w hst)
theorem run_draw {id n : Nat} {L : List Oper} {σ : List Slot} (hm : c.P.follows .mixedOrders = true) (hB : drawB L n = true) (hn : Nat.ble n L.length = true) (hN : dstB c.N (L.take n) = true) (hR : RJ c L H 0 (L.take n) Γ σ none)
    (h : OpsJ c L.toArray (L.drop n) (envUp Γ (L.take n) σ) H (wpAll c.ro c.P Q k)) : Run c Q (.region id L.toArray true :: k) Γ H :=
  fun a w hst => r_draw hst hm hB hn hN hR h
theorem run_cond {x : Operand} {A B : Code} {b : Bool} (hx : Has Γ x (bl.slot b)) (h1 : b = true → Run c Q (A :: k) Γ H) (h2 : b = false → Run c Q (B :: k) Γ H) : Run c Q (.cond x A B :: k) Γ H := by
  intro a w hst
  have hst' := hst
  obtain ⟨_, _, m, hs, _, _, he, _⟩ := hst'
  have hv := bl_p.1 (hx m a (he.opd x))
  exact wpIn_cond_split hv (fun hb => h1 hb a w hst) (fun hb => h2 hb a w hst)
def BQ (id : Nat) (n : Act → World → Prop) (Q : Exit → Act → World → Prop) : Exit → Act → World → Prop
  | .normal, a, w => n a w
  | .exit id', a, w => if id' = id then n a w else Q (.exit id') a w
  | e, a, w => Q e a w
theorem run_block {id : Nat} {x : Code} (h : Run c (BQ id (wpAll c.ro c.P Q k) Q) [x] Γ H) : Run c Q (.block id x :: k) Γ H := by
  intro a w hst
  refine wpIn_block (wpIn_mono (h a w hst) fun e a' w' he => ?_)
  cases e with
  | normal => exact he
  | exit id' =>
    simp only [Exit.then, BQ, Exit.inBlock] at he ⊢
    split <;> simp_all
  | _ => exact he
theorem run_exit {id : Nat} (h : ∀ a w, St c Γ H a w → Q (.exit id) a w) : Run c Q (.exit id :: k) Γ H := fun a w hst => wpIn_exit (h a w hst)
theorem run_ret (h : ∀ a w, St c Γ H a w → Q .ret a w) : Run c Q (.ret :: k) Γ H := fun a w hst => wpIn_ret (h a w hst)
theorem bq_exit {id : Nat} {n : Act → World → Prop} {a : Act} {w : World} (h : n a w) : BQ id n Q (.exit id) a w := by simp only [BQ, if_true]; exact h
theorem bq_exit_ne {id id' : Nat} {n : Act → World → Prop} {a : Act} {w : World} (hne : Nat.beq id' id = false) (h : Q (.exit id') a w) : BQ id n Q (.exit id') a w := by
  have : id' ≠ id := fun e => by subst e; simp at hne
  simp only [BQ, if_neg this]; exact h
end
/-! ## Loops -/
/-- How a round may end. -/
def LQ {σ ρ : Type} (id : Nat) (I : σ → Act → World → Prop) (R : ρ → Act → World → Prop) (r : LR σ ρ) (e : Exit) (a : Act) (w : World) : Prop :=
  match r with
  | .next s => e = .normal ∧ I s a w
  | .brk s => e = .exit id ∧ I s a w
  | .ret x => e = .ret ∧ R x a w
theorem rounds_of {P : Program} {ro : Option Nat} {Q : Exit → Act → World → Prop} {σ ρ : Type} {f : σ → Option (LR σ ρ)} {I : σ → Act → World → Prop} {R : ρ → Act → World → Prop} {id : Nat} {body : Code}
    (step : ∀ s r a w, f s = some r → I s a w → body.wpIn (fen ro) 0 P (LQ id I R r) a w) :
    ∀ (n : Nat) (s : σ) (out : σ ⊕ ρ) (a : Act) (w : World), loopO f n s = some out → I s a w → (∀ s' a w, out = .inl s' → I s' a w → Q (.exit id) a w) → (∀ x a w, out = .inr x → R x a w → Q .ret a w) → Code.roundsIn (fen ro) 0 P body Q n a w := by
  intro n
  induction n with
  | zero => intro s out a w h; cases h
  | succ n ih =>
    intro s out a w h hI h1 h2
    rw [roundsIn_succ]
    unfold loopO at h
    cases hf : f s with
    | none => rw [hf] at h; cases h
    | some r =>
      rw [hf] at h
      refine wpIn_mono (step s r a w hf hI) fun e a' w' hq => ?_
      cases r with
      | next s' => obtain ⟨rfl, hI'⟩ := hq; exact ih s' out a' w' h hI' h1 h2
      | brk s' => obtain ⟨rfl, hI'⟩ := hq; simp only [Option.some.injEq] at h; exact h1 s' a' w' h.symm hI'
      | ret x => obtain ⟨rfl, hR⟩ := hq; simp only [Option.some.injEq] at h; exact h2 x a' w' h.symm hR
section
variable {c : Ctx} {Γ Γ' : Env} {H H' : List Ent} {Q : Exit → Act → World → Prop} {k : List Code}
/-- A loop, left by the exit of its block or by a return. 'ι': what is new from round to round. -/
theorem run_loop {σ ρ ι : Type} {f : σ → Option (LR σ ρ)} {Γi : ι → σ → Env} {Hi : ι → σ → List Ent} {R : ρ → Act → World → Prop} {id n : Nat} {body : Code} {s0 : σ} {out : σ ⊕ ρ} (hl : loopO f n s0 = some out)
    (i0 : ι) (h0 : ∀ a w, St c Γ H a w → St c (Γi i0 s0) (Hi i0 s0) a w)
    (step : ∀ i s r, f s = some r → Run c (LQ id (fun s a w => ∃ i, St c (Γi i s) (Hi i s) a w) R r) [body] (Γi i s) (Hi i s))
    (h1 : ∀ i s, out = .inl s → Run c Q k (Γi i s) (Hi i s)) (h2 : ∀ x a w, out = .inr x → R x a w → Q .ret a w) : Run c Q (.block id (.loop body) :: k) Γ H := by
  refine run_block fun a w hst => ?_
  refine wpIn_loop_rounds n (rounds_of (I := fun s a w => ∃ i, St c (Γi i s) (Hi i s) a w) (R := R) (id := id) (f := f) ?_ n s0 out a w hl ⟨i0, h0 a w hst⟩ ?_ ?_)
  · rintro s r a w hf ⟨i, hI⟩
    refine wpIn_mono (step i s r hf a w hI) fun e a' w' hq => ?_
    cases e <;> exact hq
  · rintro s' a w ho ⟨i, hI⟩
    exact bq_exit (h1 i s' ho a w hI)
  · intro x a w ho hR
    exact h2 x a w ho hR
end
/-! ## Returns -/
section
variable {c : Ctx} {Γ Γ' : Env} {H H' : List Ent} {a : Act} {w : World} {ι : Type} {ρ : ι → Slot} {ε : ι → List Ent} {fn : Func}
def resOf (tmps : Array Value) : ResultVar → Sem Value
  | .tmp t => pure (tmps.getD t undef)
  | .cell ad t => do loadVar t (← asAddr (tmps.getD ad undef))
theorem results_eq (fn : Func) (tmps : Array Value) : results fn tmps = (do let vs ← fn.results.mapM (resOf tmps); pure (if h : vs.size = 1 then vs[0] else .tuple vs)) := by
  unfold results
  have : (fun (r : ResultVar) => (match r with
    | .tmp t => pure (tmps.getD t undef)
    | .cell a t => do loadVar t (← asAddr (tmps.getD a undef)) : Sem Value)) = resOf tmps := by
    funext r; cases r <;> rfl
  rw [← this]
  rfl
/-- What a result's place gives. -/
inductive ResJ (c : Ctx) (Γ : Env) (H : List Ent) : ResultVar → Slot → Prop
  | tmp {t : Nat} {s : Slot} : lk Γ t = some s → ResJ c Γ H (.tmp t) s
  | cell {t b : Nat} {T T0 : TypeId} {α : Type} {R : Rep α} {x : α} {H' : List Ent} : lk Γ t = some (val (.pointer (some ⟨b, 0, none⟩))) → Pick H (box b T0 R x) H' → tyB c.P T R.ag R.n = true → ResJ c Γ H (.cell t T) (R.slot x)
theorem ResJ.run {r : ResultVar} {s : Slot} (h : ResJ c Γ H r s) {m : Mem} {hs : Hp} (hg : Good m hs w) (hsat : Sat H m hs) (he : EnvOK Γ m a) :
    ∃ v, (resOf a.tmps r).run c.P w = .ok v w ∧ s.p m v := by
  cases h with
  | tmp h => exact ⟨_, rfl, he _ _ h⟩
  | @cell t b T T0 α R x H' h hk hT =>
    have e : a.tmps.getD t undef = _ := he t _ h
    obtain ⟨cs, hmem, hr⟩ := Sat.box (w := w) hsat hk
    refine ⟨ofCells R.ag cs, ?_, Rep.is_of hr⟩
    have := run_loadVar_cells (P := c.P) (w := w) (b := b) (o := 0) hT (R.len hr) R.one (fun j v ev => by rw [Nat.zero_add]; exact hg.cells hmem j v ev)
    simp only [Instr.loadAt, Instr.sureAddr, pure_bind] at this
    simp only [resOf, e, asAddr, pure_bind]
    exact this
inductive ResL (c : Ctx) (Γ : Env) (H : List Ent) : List ResultVar → List Slot → Prop
  | nil : ResL c Γ H [] []
  | cons {r : ResultVar} {s : Slot} {rs : List ResultVar} {ss : List Slot} : ResJ c Γ H r s → ResL c Γ H rs ss → ResL c Γ H (r :: rs) (s :: ss)
theorem ResL.run {rs : List ResultVar} {ss : List Slot} (h : ResL c Γ H rs ss) {m : Mem} {hs : Hp} (hg : Good m hs w) (hsat : Sat H m hs) (he : EnvOK Γ m a) :
    ∃ vs : List Value, (rs.mapM (resOf a.tmps)).run c.P w = .ok vs w ∧ All2 m ss vs ∧ vs.length = rs.length := by
  induction h with
  | nil => exact ⟨[], by simp, rfl, rfl⟩
  | cons h1 _ ih =>
    obtain ⟨vs, hrun, hall, hlen⟩ := ih
    obtain ⟨v, hv, hs'⟩ := h1.run hg hsat he
    refine ⟨v :: vs, ?_, ⟨v, vs, rfl, hs', hall⟩, by simp [hlen]⟩
    rw [List.mapM_cons]
    simp only [Sem.run_bind, hv, Result.andThen_ok, hrun, Sem.run_pure]
theorem results_run {rs : List ResultVar} {vs : List Value} (hr : fn.results = rs.toArray) (h : (rs.mapM (resOf a.tmps)).run c.P w = .ok vs w) :
    (results fn a.tmps).run c.P w = .ok (if h : vs.toArray.size = 1 then vs.toArray[0] else .tuple vs.toArray) w := by
  rw [results_eq, hr, Sem.run_bind, Array.mapM_eq_mapM_toList, Sem.run_map]
  show (((List.mapM (resOf a.tmps) rs).run c.P w).andThen _ |>.andThen _) = _
  rw [h]
  rfl
/-- One result. -/
theorem q_ret1 {r : ResultVar} {s : Slot} (hst : St c Γ H a w) (hr : fn.results = #[r]) (hj : ResJ c Γ H r s) (i : ι) (hs : ∀ m v, s.p m v → (ρ i).p m v) (hk : Keep H (ε i)) (hds : c.mm = false := by rfl) : bodyPost c.P fn (Post c ρ ε) .ret a w := by
  obtain ⟨hd, hn, m, hsh, hg, hG, he, hsat, hf⟩ := hst
  obtain ⟨vs, hrun, hall, hlen⟩ := (ResL.cons hj .nil).run hg hsat he
  have := results_run (fn := fn) (rs := [r]) hr hrun
  obtain ⟨v, vs', rfl, hv, hnil⟩ := hall
  cases hnil
  obtain ⟨rr, hs', hp, q⟩ := hsat.keep hk
  have hg' := hg.perm hp
  refine ⟨hd.none hds, v, by simpa using this, v, m, hs', i, rfl, hg'.sub, hs m v hv, q, (hf.perm hp).sub fun b hb => by rw [Hp.bs_append]; exact List.mem_append.2 (.inr hb)⟩
/-- No result, or more than one. -/
theorem q_retN {rs : List ResultVar} {ss : List Slot} (hst : St c Γ H a w) (hr : fn.results = rs.toArray) (hj : ResL c Γ H rs ss) (h1 : Nat.beq rs.length 1 = false) (i : ι) (hs : ∀ m v, (tup ss).p m v → (ρ i).p m v) (hk : Keep H (ε i)) (hds : c.mm = false := by rfl) : bodyPost c.P fn (Post c ρ ε) .ret a w := by
  obtain ⟨hd, hn, m, hsh, hg, hG, he, hsat, hf⟩ := hst
  obtain ⟨vs, hrun, hall, hlen⟩ := hj.run hg hsat he
  have := results_run (fn := fn) hr hrun
  have hne : ¬ vs.toArray.size = 1 := by
    intro h
    have : rs.length = 1 := by rw [← hlen]; simpa using h
    rw [this] at h1; cases h1
  rw [dif_neg hne] at this
  obtain ⟨rr, hs', hp, q⟩ := hsat.keep hk
  have hg' := hg.perm hp
  exact ⟨hd.none hds, _, this, _, m, hs', i, rfl, hg'.sub, hs m _ ⟨vs, rfl, hall⟩, q, (hf.perm hp).sub fun b hb => by rw [Hp.bs_append]; exact List.mem_append.2 (.inr hb)⟩
theorem q_retN_n {rs : List ResultVar} {ss : List Slot} (hst : St c Γ H a w) (hr : fn.results = rs.toArray) (hj : ResL c Γ H rs ss) (h1 : Nat.beq rs.length 1 = false) (i : ι) (hs : ∀ m v, (tup ss).p m v → (ρ i).p m v) (hk : Keep H (ε i)) (hds : c.mm = false := by rfl) : bodyPost c.P fn (Post c ρ ε) .normal a w :=
  q_retN hst hr hj h1 i hs hk hds
end
/-! ## A function's body -/
theorem ctr_of_run {P : Program} {G : GP} {f : FuncId} {fn : Func} {code : Code} {A : List Slot} {E : List Ent} {ι : Type} {ρ : ι → Slot} {ε : ι → List Ent}
    (hf : P.funcs[f]? = some fn) (hb : fn.body = some code) (N : Nat) (hN : fn.ntmps = N) (hA : Nat.ble A.length N = true)
    (h : ∀ (m0 : Mem) (w0 : World) (b0 : List Nat), Run ⟨P, N, G, m0, w0, b0, none, false⟩ (bodyPost P fn (Post ⟨P, N, G, m0, w0, b0, none, false⟩ ρ ε)) [code] (envOf 0 A) E) : Ctr P G f A E ρ ε := by
  refine ctr_of_body hf hb hN hA ?_
  rintro ⟨P', N', G', m0, w0, b0, ro', ds'⟩ rfl rfl rfl rfl rfl a w hst
  refine wpIn_mono (h m0 w0 b0 a w hst) fun e a' w' he => ?_
  cases e <;> exact he
end Go.Sl
namespace Go.Sl
section
variable {c : Ctx} {full : Array Oper} {l : List Oper} {Γ Γ' : Env} {H H' : List Ent} {K : Act → World → Prop} {d : Tmp} {od : Option Tmp} {ty : TypeId} {pos : String} {aft : Array Edge} {g : Option (Nat × Bool)} {α β : Type}
theorem PJ.eqv {o : Oper} {R : Rep α} {x y : α} (h : PJ c o Γ H (R.slot x)) (e : x = y) : PJ c o Γ H (R.slot y) := e ▸ h
/-! ## The same, in the models' words -/
theorem pj_index_slx {T : TypeId} {x y : Operand} {R : Rep α} {xs : List α} {i : Int} {s : Slot} {z : α} (hx : Has Γ x ((sl R).slot xs)) (hy : Has Γ y s) (hs : IsInt s i) (h : lget xs i = some z) (hT : slB c.P T R.n = true) :
    PJ c ⟨od, .indexAddr T x y, ty, pos, aft, g⟩ Γ H (ptrTo R z) := by
  obtain ⟨h0, hi, rfl⟩ := lget_some h
  exact pj_index_sl hx hy hs h0 hi hT
theorem pj_index_tox {T n : Nat} {x y : Operand} {R : Rep α} {v : Vector α n} {i : Int} {s : Slot} {z : α} (hx : Has Γ x (ptrTo (vec n R) v)) (hy : Has Γ y s) (hs : IsInt s i) (h : vget v i = some z) (hT : arrB c.P T n R.n = true) :
    PJ c ⟨od, .indexAddr T x y, ty, pos, aft, g⟩ Γ H (ptrTo R z) := by
  obtain ⟨h0, hi, rfl⟩ := vget_some h
  exact pj_index_to hx hy hs h0 hi hT
theorem pj_slice_slx {T : TypeId} {x : Operand} {lo hi : Option Operand} {R : Rep α} {xs r : List α} {p q : Option Int} (hx : Has Γ x ((sl R).slot xs)) (hlo : OptI Γ lo p) (hhi : OptI Γ hi q)
    (h : lslice xs (p.getD 0) (q.getD xs.length) = some r) (hT : slB c.P T R.n = true) : PJ c ⟨od, .slice T x lo hi none, ty, pos, aft, g⟩ Γ H ((sl R).slot r) := by
  obtain ⟨h0, h1, h2, rfl⟩ := lslice_some h
  exact pj_slice_sl hx hlo hhi h0 h1 h2 hT
theorem pj_s2apx {T n e : Nat} {x : Operand} {R : Rep α} {xs : List α} {v : Vector α n} (hx : Has Γ x ((sl R).slot xs)) (h : toVecO n xs = some v) (hn : Nat.blt 0 n = true) (hT : c.P.underlying T = some (.array n e)) :
    PJ c ⟨od, .sliceToArrayPointer T x, ty, pos, aft, g⟩ Γ H (ptrTo (vec n R) v) := by
  obtain ⟨hl, rfl⟩ := toVecO_some h
  exact pj_s2ap hx hl (by simpa [Nat.blt_eq] using hn) hT
/-! ## Three bounds -/
theorem run_slice3 {P : Program} {T sz : Nat} (hT : slB P T sz = true) {a : Option Addr} {len cap : Nat} {kh km : IntKind} {h m : Int} (h0 : 0 ≤ h) (h1 : h ≤ m) (h2 : m ≤ cap) (w : World) :
    (Instr.sliceAt T (.slice a len cap) none (some (.int kh h)) (some (.int km m))).run P w = .ok (.slice a h.toNat m.toNat) w := by
  obtain ⟨e, hu, hs⟩ := slB_of hT
  have hz := szB_run hs w
  have hb : ∀ (k : IntKind) (n : Int) (y : Nat) (code : BoundsCode), 0 ≤ n → n ≤ y → (Instr.sliceBound (.int k n) y code).run P w = .ok n.toNat w := by
    intro k n y code h0 h1
    simp [Instr.sliceBound, asIntOf, h0, h1]
  have e1 := hb km m cap .slice3Acap (by omega) h2
  have e2 := hb kh h m.toNat .slice3B h0 (by omega)
  simp only [Instr.sliceAt, Sem.run_bind, run_underlying hu, Result.andThen_ok, Instr.slice, Instr.sliceBounds, if_true, e1, e2, Sem.run_pure, hz]
  congr 1
  by_cases hm : m.toNat = 0
  · simp [hm]
  · simp only [hm, if_false, Nat.zero_mul, Nat.sub_zero]
    congr 1
    cases a with
    | none => rfl
    | some a => simp [Addr.add]
theorem pj_slice3 {T : TypeId} {x y z : Operand} {R : Rep α} {xs r : List α} {p : Int} (hx : Has Γ x ((sl R).slot xs)) (hy : Has Γ y (i64.slot p)) (hz : Has Γ z (i64.slot p))
    (h : lslice xs 0 p = some r) (hT : slB c.P T R.n = true) : PJ c ⟨od, .slice T x none (some y) (some z), ty, pos, aft, g⟩ Γ H ((sl R).slot r) :=
  pj_of fun m hs2 a w hg _ _ ho => by
    obtain ⟨a0, cap, e, hc, hrow⟩ := hx m a (ho x (by simp [Op.operands]))
    simp only [List.cons.injEq, and_true] at e
    have ey := i64_p.1 (hy m a (ho y (by simp [Op.operands])))
    have ez := i64_p.1 (hz m a (ho z (by simp [Op.operands])))
    obtain ⟨_, h0, h1, rfl⟩ := lslice_some h
    have hr := run_slice3 (P := c.P) hT (a := a0) (len := xs.length) (cap := cap) (kh := .i64) (km := .i64) h0 (Int.le_refl p) (by omega) w
    refine ⟨.slice a0 p.toNat p.toNat, ?_, ?_⟩
    · simp only [execOp, e, Option.map_none, Option.map_some, ey, ez, Sem.run_bind, hr, Result.andThen_ok, Sem.run_pure]
    · have hlen : ((xs.take p.toNat).drop (0 : Int).toNat).length = p.toNat := by simp; omega
      refine ⟨a0, p.toNat, by rw [hlen], by rw [hlen]; exact Nat.le_refl _, ?_⟩
      rcases hrow with rfl | ⟨b, o, row, rfl, hrw, hat⟩
      · exact .inl (by simp)
      · refine .inr ⟨b, o, row.take (p.toNat * R.n), rfl, by simpa using hrw.take p.toNat, ?_⟩
        have := hat.mid 0 (p.toNat * R.n)
        simpa using this
/-! ## A slice of the call's own: reading, writing, cutting -/
/-- The address of a cell of a slice of the call's own. -/
def ownAt (v : Value) (k : Nat) : Slot := ⟨fun _ u => ∃ b n cap, v = .slice (some ⟨b, 0, none⟩) n cap ∧ u = .pointer (some ⟨b, k, none⟩), fun _ h => h⟩
theorem own.at {T : TypeId} {R : Rep α} {v : Value} {xs : List α} {m : Mem} {hs : Hp} (h : (own T R v xs).p m hs) (hne : xs ≠ []) :
    ∃ b cap row spare, v = .slice (some ⟨b, 0, none⟩) xs.length cap ∧ hs = [(b, T, row ++ spare)] ∧ RowC R m row xs ∧ xs.length ≤ cap ∧ (row ++ spare).length = cap * R.n :=
  h.resolve_left fun h => hne h.1
theorem pj_index_own {T T0 : TypeId} {x y : Operand} {v : Value} {R : Rep α} {xs : List α} {i : Int} {s : Slot} (hx : Has Γ x (ov v)) (hk : Pick H (own T0 R v xs) H') (hy : Has Γ y s) (hs : IsInt s i) (h0 : 0 ≤ i) (h1 : i.toNat < xs.length)
    (hT : slB c.P T R.n = true) : PJ c ⟨od, .indexAddr T x y, ty, pos, aft, g⟩ Γ H (ownAt v (i.toNat * R.n)) :=
  pj_of fun m hs2 a w hg _ hsat ho => by
    have e := (ov_p.1 (hx m a (ho x (by simp [Op.operands])))).1
    obtain ⟨k, ek⟩ := hs m _ (hy m a (ho y (by simp [Op.operands])))
    obtain ⟨g1, g2, hp, hown, _⟩ := hsat.pick hk
    obtain ⟨b, cap, row, spare, hv, _⟩ := own.at hown (fun e => by subst e; simp at h1)
    rw [hv] at e
    refine ⟨_, by simp only [execOp, e, ek, Sem.run_bind, run_indexAt_sl hT b 0 xs.length cap k h0 (by omega)]; rfl, b, _, _, hv, by simp⟩
theorem pj_field_own {S f off k : Nat} {x : Operand} {v : Value} (hx : Has Γ x (ownAt v k)) (hf : fldB c.P S f off = true) : PJ c ⟨od, .fieldAddr S x f, ty, pos, aft, g⟩ Γ H (ownAt v (k + off)) :=
  pj_of fun m hs a w hg _ _ ho => by
    obtain ⟨b, n, cap, hv, e⟩ := hx m a (ho x (by simp [Op.operands]))
    exact ⟨_, by simp only [execOp, e, Sem.run_bind, fldB_run hf]; rfl, b, n, cap, hv, rfl⟩
theorem own_cells {m : Mem} {hs : Hp} {w : World} {b : Nat} {T : TypeId} {R : Rep α} {row spare : List Value} {xs : List α} {i : Nat} (hg : Good m hs w) (hmem : (b, T, row ++ spare) ∈ hs) (hr : RowC R m row xs) (hi : i < xs.length) (j : Nat) (u : Value)
    (e : ((row.drop (i * R.n)).take R.n)[j]? = some u) : w.cell? ⟨b, i * R.n + j, none⟩ = some u := by
  rw [List.getElem?_take] at e
  split at e
  · rw [List.getElem?_drop] at e
    exact hg.cells hmem _ _ (by rw [List.getElem?_append_left]; exact e; exact (List.getElem?_eq_some_iff.1 e).1)
  · cases e
theorem pj_load_own {T T0 i off : Nat} {x : Operand} {v : Value} {R : Rep α} {S : Rep β} {xs : List α} {get : α → β} {set : α → β → α} (hx : Has Γ x (ownAt v (i * R.n + off))) (hk : Pick H (own T0 R v xs) H') (h1 : i < xs.length) (hp : Path R off S get set)
    (hT : tyB c.P T S.ag S.n = true) : PJ c ⟨od, .load T x, ty, pos, aft, g⟩ Γ H (S.slot (get xs[i])) :=
  pj_of fun m hs2 a w hg _ hsat ho => by
    obtain ⟨b', n, cap', hv', e⟩ := hx m a (ho x (by simp [Op.operands]))
    obtain ⟨g1, g2, hpm, hown, _⟩ := hsat.pick hk
    obtain ⟨b, cap, row, spare, hv, hg1, hr, _, _⟩ := own.at hown (fun e => by subst e; simp at h1)
    rw [hv'] at hv
    simp only [Value.slice.injEq, Option.some.injEq, Addr.mk.injEq] at hv
    obtain ⟨⟨rfl, _⟩, _⟩ := hv
    have hmem : (b', T0, row ++ spare) ∈ hs2 := hpm.mem_iff.2 (by rw [hg1]; simp)
    have hr1 := RowC.get hr h1
    have hr' := hp.get_ok hr1
    refine ⟨_, ?_, Rep.is_of hr'⟩
    simp only [execOp, e, Sem.run_bind]
    rw [run_loadVar_cells hT (S.len hr') S.one]
    · rfl
    · intro j u ej
      rw [List.getElem?_take] at ej
      split at ej
      · rw [List.getElem?_drop] at ej
        have := own_cells hg hmem hr h1 (off + j) u ej
        rwa [← Nat.add_assoc] at this
      · cases ej
theorem j_store_own {T T0 i off : Nat} {x y : Operand} {v : Value} {R : Rep α} {S : Rep β} {xs : List α} {z : β} {get : α → β} {set : α → β → α} (hx : Has Γ x (ownAt v (i * R.n + off))) (hy : Has Γ y (S.slot z)) (hk : Pick H (own T0 R v xs) H') (h1 : i < xs.length)
    (hp : Path R off S get set) (hT : szB c.P T S.n = true)
    (k : OpsJ c full l Γ (own T0 R v (xs.set i (set xs[i] z)) :: H') K) : OpsJ c full (⟨none, .store T x y, ty, pos, aft, none⟩ :: l) Γ H K := by
  refine j_step rfl ?_ k
  intro m hs a w hg _ hsat he hn
  obtain ⟨b', n, cap', hv', e⟩ := hx m a (he.opd x)
  obtain ⟨ds, hc, hd⟩ := Rep.is_cells (hy m a (he.opd y))
  obtain ⟨g1, g2, hpm, hown, hs2⟩ := hsat.pick hk
  obtain ⟨b, cap, row, spare, hv, hg1, hr, hcap, hlen⟩ := own.at hown (fun e => by subst e; simp at h1)
  have hv0 := hv
  rw [hv'] at hv
  simp only [Value.slice.injEq, Option.some.injEq, Addr.mk.injEq] at hv
  obtain ⟨⟨rfl, _⟩, _⟩ := hv
  subst hg1
  have hg' := hg.perm hpm
  have hfit := hp.fits
  have hrl := hr.length
  have hle : i * R.n + R.n ≤ row.length := by
    rw [hrl]
    calc i * R.n + R.n = (i + 1) * R.n := by rw [Nat.add_mul, Nat.one_mul]
      _ ≤ xs.length * R.n := Nat.mul_le_mul_right _ h1
  have hr1 := RowC.get hr h1
  have hset := RowC.set hr h1 (hp.set_ok hr1 hd)
  have hdl := S.len hd
  -- the row behind the store
  have erow : row.take (i * R.n) ++ (((row.drop (i * R.n)).take R.n).take off ++ ds ++ ((row.drop (i * R.n)).take R.n).drop (off + S.n)) ++ row.drop (i * R.n + R.n) = row.take (i * R.n + off) ++ ds ++ row.drop (i * R.n + off + S.n) := by
    rw [List.take_take, Nat.min_eq_left (by omega), List.take_add]
    have e2 : ((row.drop (i * R.n)).take R.n).drop (off + S.n) ++ row.drop (i * R.n + R.n) = row.drop (i * R.n + off + S.n) := by
      rw [List.drop_take, List.drop_drop]
      have : row.drop (i * R.n + R.n) = (row.drop (i * R.n + (off + S.n))).drop (R.n - (off + S.n)) := by rw [List.drop_drop]; congr 1; omega
      rw [this, List.take_append_drop]
      congr 1; omega
    simp only [List.append_assoc] at *
    rw [e2]
  rw [erow] at hset
  have hst := run_storeAt (P := c.P) (b := b') (o := i * R.n + off) (cs := row ++ spare) hT hc hdl (S.cell hd) (hg'.blk (b', T0, row ++ spare) (by simp)) (by rw [List.length_append]; omega)
  have ecs : (row ++ spare).take (i * R.n + off) ++ ds ++ (row ++ spare).drop (i * R.n + off + S.n) = (row.take (i * R.n + off) ++ ds ++ row.drop (i * R.n + off + S.n)) ++ spare := by
    rw [List.take_append, List.drop_append]
    have z1 : i * R.n + off - row.length = 0 := by omega
    have z2 : i * R.n + off + S.n - row.length = 0 := by omega
    simp [z1, z2]
  rw [ecs] at hst
  have hrun : (execOp a.eval ⟨none, .store T x y, ty, pos, aft, none⟩).run c.P w = .ok .skip (setBlk w b' T0 ((row.take (i * R.n + off) ++ ds ++ row.drop (i * R.n + off + S.n)) ++ spare)) := by
    simp only [execOp, e, Sem.run_bind, hst]
    rfl
  rw [hrun]
  refine ⟨m, (b', T0, (row.take (i * R.n + off) ++ ds ++ row.drop (i * R.n + off + S.n)) ++ spare) :: g2, hg'.setBlk _, he, ⟨[_], g2, rfl, .inr ⟨b', cap, _, spare, ?_, rfl, hset, ?_, ?_⟩, hs2⟩, ?_⟩
  · rw [hv0]; simp
  · simpa using hcap
  · rw [← hlen]
    simp only [List.length_append, List.length_take, List.length_drop]
    omega
  · exact Frm.ofPerm hpm (Frm.setBlk (by simp [Hp.bs]))
/-- 's[:n]', the slice itself cut. -/
theorem j_slice_own {T T0 : TypeId} {x y : Operand} {v : Value} {R : Rep α} {xs : List α} {n : Int} {s : Slot} (hx : Has Γ x (ov v)) (hk : Pick H (own T0 R v xs) H') (hy : Has Γ y s) (hs : IsInt s n) (h0 : 0 ≤ n) (h1 : n ≤ xs.length) (hT : slB c.P T R.n = true) (hN : Nat.blt d c.N = true)
    (k : ∀ v', OpsJ c full l ((d, ov v') :: Γ) (own T0 R v' (xs.take n.toNat) :: H') K) : OpsJ c full (⟨some d, .slice T x none (some y) none, ty, pos, aft, none⟩ :: l) Γ H K := by
  refine j_step_ex (Γ2 := fun v' => (d, ov v') :: Γ) (H2 := fun v' => own T0 R v' (xs.take n.toNat) :: H') rfl ?_ k
  intro m hs2 a w hg _ hsat he hn
  have e := (ov_p.1 (hx m a (he.opd x))).1
  obtain ⟨kk, ek⟩ := hs m _ (hy m a (he.opd y))
  obtain ⟨g1, g2, hpm, hown, hs3⟩ := hsat.pick hk
  have hlt : (xs.take n.toNat).length = n.toNat := by rw [List.length_take, Nat.min_eq_left (by omega)]
  rcases hown with ⟨rfl, rfl, ad, rfl⟩ | ⟨b, cap, row, spare, rfl, rfl, hr, hcap, hlen⟩
  · have hn0 : n = 0 := by simp at h1; omega
    subst hn0
    have hr := run_slice_sl (P := c.P) hT (a := ad) (len := 0) (cap := 0) (lo := none) (hi := some (.int kk 0)) (l := none) (h := some 0) (.inl ⟨rfl, rfl⟩) (.inr ⟨kk, 0, rfl, rfl⟩) (by simp) (by simp) (by simp) w
    simp only [Option.getD_none, Option.getD_some, Int.toNat_zero, if_true, Nat.sub_self] at hr
    have hrun : (execOp a.eval ⟨some d, .slice T x none (some y) none, ty, pos, aft, none⟩).run c.P w = .ok (.value (.slice ad 0 0)) w := by
      simp only [execOp, e, Option.map_none, Option.map_some, ek, Sem.run_bind, hr, Result.andThen_ok, Sem.run_pure]
    rw [hrun]
    exact ⟨.slice ad 0 0, m, g2, by simpa using hg.perm hpm, he.put (by rw [hn]; simpa [Nat.blt_eq] using hN) ov_slice, ⟨[], g2, rfl, .inl ⟨by simp, rfl, ad, rfl⟩, hs3⟩, Frm.ofPerm hpm (Frm.refl w m _)⟩
  · have hr2 := run_slice_sl (P := c.P) hT (a := some ⟨b, 0, none⟩) (len := xs.length) (cap := cap) (lo := none) (hi := some (.int kk n)) (l := none) (h := some n) (.inl ⟨rfl, rfl⟩) (.inr ⟨kk, n, rfl, rfl⟩) (by simp) (by simpa using h0) (by simp; omega) w
    simp only [Option.getD_none, Option.getD_some, Int.toNat_zero, Nat.sub_zero, Nat.zero_mul, Option.map_some, Addr.add_lit, Nat.add_zero] at hr2
    have hif : (if cap = 0 then some (⟨b, 0, none⟩ : Addr) else some ⟨b, 0, none⟩) = some ⟨b, 0, none⟩ := by split <;> rfl
    rw [hif] at hr2
    have hrun : (execOp a.eval ⟨some d, .slice T x none (some y) none, ty, pos, aft, none⟩).run c.P w = .ok (.value (.slice (some ⟨b, 0, none⟩) n.toNat cap)) w := by
      simp only [execOp, e, Option.map_none, Option.map_some, ek, Sem.run_bind, hr2, Result.andThen_ok, Sem.run_pure]
    rw [hrun]
    refine ⟨_, m, [(b, T0, row ++ spare)] ++ g2, hg.perm hpm, he.put (by rw [hn]; simpa [Nat.blt_eq] using hN) ov_slice, ⟨_, g2, rfl, .inr ⟨b, cap, row.take (n.toNat * R.n), row.drop (n.toNat * R.n) ++ spare, by rw [hlt], by rw [← List.append_assoc, List.take_append_drop], hr.take _, by rw [hlt]; omega, ?_⟩, hs3⟩, Frm.ofPerm hpm (Frm.refl _ _ _)⟩
    rw [← List.append_assoc, List.take_append_drop, hlen]
end
end Go.Sl
