import Derived.Test.YtodeiommhponnaaDoorOp6
import Derived.Orders
set_option linter.unusedSimpArgs false
set_option linter.unusedVariables false
set_option linter.unusedSectionVars false
namespace Go.Sl
/-! ## A region that draws its order -/
def tmpsOf (o : Oper) : List Nat := o.op.operands.toList.filterMap fun | .tmp t => some t | _ => none
def gTmp (full : List Oper) (o : Oper) : List Nat := match o.guard with | some (j, _) => ((full[j]?).bind (·.dst)).toList | none => []
def edges (o : Oper) : List Nat := (o.after.toList.filter (Region.binds .any)).map (·.on)
def names (full : List Oper) (o : Oper) : List Nat := o.dst.toList ++ tmpsOf o ++ gTmp full o
/-- What an operation waits for, at one remove and at more. -/
def marks (full : List Oper) : Nat → List Nat → List Nat
  | 0, acc => acc
  | j + 1, acc => if acc.contains j then marks full j (acc ++ ((full[j]?).map edges).getD []) else marks full j acc
theorem marks_ok {full : List Oper} {X : Nat → Bool} (hc : ∀ j p, full[j]? = some p → X j = true → ∀ e ∈ edges p, X e = true) : ∀ (n : Nat) (acc : List Nat), (∀ j ∈ acc, X j = true) → ∀ j ∈ marks full n acc, X j = true
  | 0, acc, h => h
  | n + 1, acc, h => by
    unfold marks
    split
    · rename_i hn
      refine marks_ok hc n _ fun j hj => ?_
      rcases List.mem_append.1 hj with hj | hj
      · exact h j hj
      · cases hf : full[n]? with
        | none => rw [hf] at hj; cases hj
        | some p =>
          rw [hf] at hj
          exact hc n p hf (h n (by simpa using hn)) j hj
    · exact marks_ok hc n acc h
/-- Whatever shares a temporary with a writer of it stands in an edge to it; each edge goes back; from 'n' on each stands behind all. -/
def drawB (full : List Oper) (n : Nat) : Bool :=
  (full.zipIdx.all fun (o, i) => (edges o).all (fun e => Nat.blt e i)) &&
  (full.zipIdx.all fun (o, i) => full.zipIdx.all fun (p, j) =>
    match p.dst with
    | some t => Nat.beq i j || !((names full o).contains t) || (if Nat.blt j i then (edges o).contains j else (edges p).contains i)
    | none => true) &&
  (full.zipIdx.all fun (o, i) => Nat.blt i n || (List.range i).all fun j => (marks full i (edges o)).contains j)
def push (d : Option Tmp) (s : Slot) (Γ : Env) : Env := match d with | some d => (d, s) :: Γ | none => Γ
def GuardIs (full : List Oper) (o : Oper) (Γ : Env) (yes : Bool) : Prop :=
  ∃ j want b t s, o.guard = some (j, want) ∧ (full[j]?).bind (·.dst) = some t ∧ lk Γ t = some s ∧ (∀ m v, s.p m v → v = .bool b) ∧ (b == want) = yes
def GuardUndef (full : List Oper) (o : Oper) (Γ : Env) : Prop := ∃ j want t, o.guard = some (j, want) ∧ (full[j]?).bind (·.dst) = some t ∧ lk Γ t = some (val undef)
inductive OK1 (c : Ctx) (full : List Oper) (H : List Ent) (o : Oper) (Γ : Env) : Slot → Prop
  | plain {s : Slot} : o.guard = none → PJ c o Γ H s → OK1 c full H o Γ s
  | yes {s : Slot} : GuardIs full o Γ true → PJ c o Γ H s → OK1 c full H o Γ s
  | no : GuardIs full o Γ false → OK1 c full H o Γ (val undef)
  | undef : GuardUndef full o Γ → OK1 c full H o Γ (val undef)
inductive RJ (c : Ctx) (full : List Oper) (H : List Ent) : Nat → List Oper → Env → List Slot → Option (Nat × Nat × (Nat → Ent)) → Prop
  | nil {k : Nat} {Γ : Env} : RJ c full H k [] Γ [] none
  | read {k : Nat} {o : Oper} {os : List Oper} {Γ : Env} {s : Slot} {σ : List Slot} {al : Option (Nat × Nat × (Nat → Ent))} :
    OK1 c full H o Γ s → RJ c full H (k + 1) os (push o.dst s Γ) σ al → RJ c full H k (o :: os) Γ (s :: σ) al
  | alloc {k d : Nat} {o : Oper} {os : List Oper} {Γ : Env} {σ : List Slot} {T : TypeId} {α : Type} {R : Rep α} {x : α} {cs : List Value} :
    o.guard = none → o.dst = some d → o.op = .alloc T → ZeroR R x cs → zeroB c.P T = some cs → RJ c full H (k + 1) os ((d, any) :: Γ) σ none →
    RJ c full H k (o :: os) Γ (any :: σ) (some (k, d, fun b => box b T R x))
def envUp (Γ : Env) : List Oper → List Slot → Env
  | o :: os, s :: σ => envUp (push o.dst s Γ) os σ
  | _, _ => Γ
/-- What is known of a temporary, when the operations of X are done. -/
def cur (l : List Oper) (σ : List Slot) (Γ : Env) (X : Nat → Bool) : Nat → Nat → Option Slot
  | 0, t => lk Γ t
  | k + 1, t => match l[k]?, σ[k]? with
    | some o, some s => if X k && o.dst == some t then some s else cur l σ Γ X k t
    | _, _ => cur l σ Γ X k t
theorem lk_push (d : Option Tmp) (s : Slot) (Γ : Env) (t : Nat) : lk (push d s Γ) t = if d == some t then some s else lk Γ t := by
  cases d with
  | none => simp [push]
  | some d =>
    by_cases h : d = t
    · subst h; simp [push, lk_cons_self]
    · simp only [push]; rw [lk_cons_ne h]; simp [h]
theorem cur_all_cons (o : Oper) (os : List Oper) (s : Slot) (σ : List Slot) (Γ : Env) : ∀ k t, cur (o :: os) (s :: σ) Γ (fun _ => true) (k + 1) t = cur os σ (push o.dst s Γ) (fun _ => true) k t
  | 0, t => by simp only [cur, List.getElem?_cons_zero, Bool.true_and]; rw [lk_push]
  | k + 1, t => by
    rw [cur]
    simp only [List.getElem?_cons_succ]
    rw [cur_all_cons o os s σ Γ k t]
    conv => rhs; rw [cur]
/-- The judgement of the i-th operation, its environment as it is in the text's order. -/
theorem RJ.at {c : Ctx} {full : List Oper} {H : List Ent} {k : Nat} {l : List Oper} {Γ : Env} {σ : List Slot} {al : Option (Nat × Nat × (Nat → Ent))} (h : RJ c full H k l Γ σ al) :
    ∀ i o, l[i]? = some o → ∃ s Γi, σ[i]? = some s ∧ (∀ t, lk Γi t = cur l σ Γ (fun _ => true) i t) ∧
      ((OK1 c full H o Γi s ∧ ∀ d e, al ≠ some (k + i, d, e)) ∨ ∃ (d : Nat) (T : TypeId) (α : Type) (R : Rep α) (x : α) (cs : List Value), s = any ∧ o.guard = none ∧ o.dst = some d ∧ o.op = .alloc T ∧ ZeroR R x cs ∧ zeroB c.P T = some cs ∧ al = some (k + i, d, fun b => box b T R x)) := by
  have hno : ∀ {k : Nat} {l : List Oper} {Γ : Env} {σ : List Slot} {al}, RJ c full H k l Γ σ al → ∀ j d e, al = some (j, d, e) → k ≤ j := by
    intro k l Γ σ al h
    induction h with
    | nil => intro j d e h; cases h
    | read _ _ ih => intro j d e h; have := ih j d e h; omega
    | alloc _ _ _ _ _ _ _ => intro j d e h; cases h; exact Nat.le_refl _
  induction h with
  | nil => intro i o h; simp at h
  | @read k o os Γ s σ al h1 h2 ih =>
    intro i p hi
    cases i with
    | zero =>
      simp only [List.getElem?_cons_zero, Option.some.injEq] at hi
      subst hi
      refine ⟨s, Γ, rfl, fun t => rfl, .inl ⟨h1, fun d e hal => ?_⟩⟩
      have := hno h2 _ d e hal
      omega
    | succ i =>
      obtain ⟨s', Γi, hs, hl, hc⟩ := ih i p (by simpa using hi)
      refine ⟨s', Γi, by simpa using hs, fun t => ?_, ?_⟩
      · rw [hl t, cur_all_cons]
      · rw [show k + (i + 1) = k + 1 + i by omega]; exact hc
  | @alloc k d o os Γ σ T α R x cs hg hd ho hz hzB h2 ih =>
    intro i p hi
    cases i with
    | zero =>
      simp only [List.getElem?_cons_zero, Option.some.injEq] at hi
      subst hi
      exact ⟨any, Γ, rfl, fun t => rfl, .inr ⟨d, T, α, R, x, cs, rfl, hg, hd, ho, hz, hzB, by simp⟩⟩
    | succ i =>
      obtain ⟨s', Γi, hs, hl, hc⟩ := ih i p (by simpa using hi)
      refine ⟨s', Γi, by simpa using hs, fun t => ?_, ?_⟩
      · rw [hl t, cur_all_cons]; simp [push, hd]
      · rcases hc with ⟨hc, _⟩ | ⟨d', T', α', R', x', cs', _, _, _, _, _, _, hal⟩
        · exact .inl ⟨hc, fun d e h => by simp at h⟩
        · cases hal
theorem cur_final (Γ : Env) : ∀ (l : List Oper) (σ : List Slot), l.length = σ.length → ∀ t, lk (envUp Γ l σ) t = cur l σ Γ (fun _ => true) l.length t := by
  intro l
  induction l generalizing Γ with
  | nil => intro σ _ t; cases σ <;> rfl
  | cons o os ih =>
    intro σ h t
    cases σ with
    | nil => simp at h
    | cons s σ => rw [List.length_cons, cur_all_cons, envUp, ih _ σ (by simpa using h) t]
theorem RJ.len {c : Ctx} {full : List Oper} {H : List Ent} {k : Nat} {l : List Oper} {Γ : Env} {σ : List Slot} {al : Option (Nat × Nat × (Nat → Ent))} (h : RJ c full H k l Γ σ al) : l.length = σ.length := by
  induction h with
  | nil => rfl
  | read _ _ ih => simp [ih]
  | alloc _ _ _ _ _ _ ih => simp [ih]
section
variable {c : Ctx} {Γ : Env} {H : List Ent} {a : Act} {w : World} {Q : Exit → Act → World → Prop}
/-- What of the static test is used. -/
theorem drawB_back {full : List Oper} {n : Nat} (h : drawB full n = true) {i : Nat} {o : Oper} (hi : full[i]? = some o) : ∀ e ∈ edges o, e < i := by
  simp only [drawB, Bool.and_eq_true, List.all_eq_true] at h
  intro e he
  have := h.1.1 (o, i) (by rw [List.mem_zipIdx_iff_getElem?]; exact hi) e he
  simpa [Nat.blt_eq] using this
theorem drawB_conf {full : List Oper} {n : Nat} (h : drawB full n = true) {i j t : Nat} {o p : Oper} (hi : full[i]? = some o) (hj : full[j]? = some p) (hne : i ≠ j) (hp : p.dst = some t) (ht : t ∈ names full o) :
    (j < i → j ∈ edges o) ∧ (i < j → i ∈ edges p) := by
  simp only [drawB, Bool.and_eq_true, List.all_eq_true] at h
  have := h.1.2 (o, i) (by rw [List.mem_zipIdx_iff_getElem?]; exact hi) (p, j) (by rw [List.mem_zipIdx_iff_getElem?]; exact hj)
  have hbeq : Nat.beq i j = false := by
    cases hb : Nat.beq i j with
    | false => rfl
    | true => exact absurd (Nat.eq_of_beq_eq_true hb) hne
  have hct : (names full o).contains t = true := by simpa using ht
  simp only [hp, hbeq, hct, Bool.not_true, Bool.or_false, Bool.false_or] at this
  constructor
  · intro hlt
    have hb : Nat.blt j i = true := by simpa [Nat.blt_eq] using hlt
    simpa [hb] using this
  · intro hlt
    have hb : Nat.blt j i = false := by
      cases hb : Nat.blt j i with
      | false => rfl
      | true => have := (Nat.blt_eq ▸ hb : j < i); omega
    simpa [hb] using this
theorem drawB_last {full : List Oper} {n : Nat} (h : drawB full n = true) {i : Nat} {o : Oper} (hi : full[i]? = some o) (hn : n ≤ i) {X : Nat → Bool} (he : ∀ j ∈ edges o, X j = true)
    (hc : ∀ j p, full[j]? = some p → X j = true → ∀ e ∈ edges p, X e = true) : ∀ j, j < i → X j = true := by
  simp only [drawB, Bool.and_eq_true, List.all_eq_true] at h
  have := h.2 (o, i) (by rw [List.mem_zipIdx_iff_getElem?]; exact hi)
  have hb : Nat.blt i n = false := by
    cases hb : Nat.blt i n with
    | false => rfl
    | true => have := (Nat.blt_eq ▸ hb : i < n); omega
  simp only [hb, Bool.false_or, List.all_eq_true] at this
  intro j hj
  exact marks_ok hc i _ he j (by simpa using this j (by simpa using hj))
/-- A judgement holds beside other entities. -/
theorem PJ.frame {o : Oper} {s : Slot} (E : List Ent) (h : PJ c o Γ H s) : PJ c o Γ (E ++ H) s := by
  intro m hs a w hg hG hsat ho
  obtain ⟨h1, h2, rfl, hs1, hs2⟩ := hsat.split
  refine (h m h2 a w hg.sub hG hs2 ho).mono ?_
  rintro v w' ⟨m', hg', hv, hf⟩
  refine ⟨m', ⟨hg'.mem, hg.nodup, fun x hx => ?_, fun x hx o => ?_⟩, hv, hf⟩
  · rw [(hf.old x.1 (hg.ltb (List.mem_map_of_mem (f := (·.1)) hx)) (by simp)).1]; exact hg.blk x hx
  · rw [(hf.old x.1 (hg.ltb (List.mem_map_of_mem (f := (·.1)) hx)) (by simp)).2 o]; exact hg.free x hx o
def AlSat (al : Option (Nat × Nat × (Nat → Ent))) (H : List Ent) (X : Nat → Bool) (m : Mem) (hs : Hp) (a : Act) : Prop :=
  ∃ E, Sat (E ++ H) m hs ∧ ((E = [] ∧ ∀ ia d e, al = some (ia, d, e) → X ia = false) ∨ ∃ ia d e b, al = some (ia, d, e) ∧ X ia = true ∧ E = [e b] ∧ a.tmps.getD d undef = .pointer (some ⟨b, 0, none⟩))
/-- What holds when the operations of X are done. -/
def DInv (c : Ctx) (full l : List Oper) (σ : List Slot) (al : Option (Nat × Nat × (Nat → Ent))) (Γ : Env) (H : List Ent) (X : Nat → Bool) (a : Act) (w : World) : Prop :=
  Dfr c a.defers w ∧ a.tmps.size = c.N ∧ ∃ m hs, Good m hs w ∧ c.G.p m ∧ (∀ t s, cur l σ Γ X l.length t = some s → s.p m (a.tmps.getD t undef)) ∧ Frm c.w0 w c.m0 m c.b0 hs.bs ∧ AlSat al H X m hs a
theorem cur_notin {l : List Oper} {σ : List Slot} {Γ : Env} {X : Nat → Bool} {t i : Nat} : ∀ k, i ≤ k → (∀ j o, i ≤ j → j < k → l[j]? = some o → o.dst = some t → X j = false) → cur l σ Γ X k t = cur l σ Γ X i t := by
  intro k
  induction k with
  | zero => intro hk _; have : i = 0 := by omega
            rw [this]
  | succ k ih =>
    intro hk h
    by_cases hik : i = k + 1
    · rw [hik]
    · rw [cur]
      have ih := ih (by omega) (fun j o h1 h2 => h j o h1 (by omega))
      cases hl : l[k]? with
      | none => simpa [hl] using ih
      | some o =>
        cases hs : σ[k]? with
        | none => simpa [hl, hs] using ih
        | some s =>
          simp only []
          by_cases hd : o.dst = some t
          · have := h k o (by omega) (by omega) hl hd
            simp [this, ih]
          · have hd' : (o.dst == some t) = false := by simpa using hd
            simp [hd', ih]
theorem cur_allin {l : List Oper} {σ : List Slot} {Γ : Env} {X : Nat → Bool} {t : Nat} : ∀ i, (∀ j o, j < i → l[j]? = some o → o.dst = some t → X j = true) → cur l σ Γ X i t = cur l σ Γ (fun _ => true) i t := by
  intro i
  induction i with
  | zero => intro _; rfl
  | succ i ih =>
    intro h
    have ih := ih (fun j o hj => h j o (by omega))
    rw [cur, cur]
    cases hl : l[i]? with
    | none => simpa [hl] using ih
    | some o =>
      cases hs : σ[i]? with
      | none => simpa [hl, hs] using ih
      | some s =>
        simp only [Bool.true_and]
        by_cases hd : o.dst = some t
        · have := h i o (by omega) hl hd
          simp [this, hd]
        · have hd' : (o.dst == some t) = false := by simpa using hd
          simp [hd', ih]
theorem cur_put_other {l : List Oper} {σ : List Slot} {Γ : Env} {X X' : Nat → Bool} {t : Nat} : ∀ k, (∀ j o, j < k → l[j]? = some o → o.dst = some t → X j = X' j) → cur l σ Γ X k t = cur l σ Γ X' k t := by
  intro k
  induction k with
  | zero => intro _; rfl
  | succ k ih =>
    intro h
    have ih := ih (fun j o hj => h j o (by omega))
    rw [cur, cur]
    cases hl : l[k]? with
    | none => simpa [hl] using ih
    | some o =>
      cases hs : σ[k]? with
      | none => simpa [hl, hs] using ih
      | some s =>
        simp only []
        by_cases hd : o.dst = some t
        · rw [h k o (by omega) hl hd, ih]
        · have hd' : (o.dst == some t) = false := by simpa using hd
          simp [hd', ih]
end
end Go.Sl
