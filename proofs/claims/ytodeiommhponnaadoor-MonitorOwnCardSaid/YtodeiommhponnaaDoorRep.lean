import Derived.Test.YtodeiommhponnaaDoorCore
set_option linter.unusedSimpArgs false
set_option linter.unusedVariables false
namespace Go.Sl

structure Rep (α : Type) where
  n : Nat
  ag : Bool
  rel : Mem → List Value → α → Prop
  mono : ∀ {m m' : Mem} {cs : List Value} {x : α}, Mle m m' → rel m cs x → rel m' cs x
  len : ∀ {m : Mem} {cs : List Value} {x : α}, rel m cs x → cs.length = n
  cell : ∀ {m : Mem} {cs : List Value} {x : α}, rel m cs x → ∀ v ∈ cs, v.oneCell' = true
  one : ag = false → n = 1

section
variable {α β : Type}
def Rep.is (R : Rep α) (m : Mem) (v : Value) (x : α) : Prop :=
  match R.ag with
  | true => ∃ cs : List Value, v = .agg cs.toArray ∧ R.rel m cs x
  | false => R.rel m [v] x
theorem Rep.is_mono (R : Rep α) {m m' : Mem} {v : Value} {x : α} (hm : Mle m m') (h : R.is m v x) : R.is m' v x := by
  unfold Rep.is at *
  cases hb : R.ag with
  | true => simp only [hb] at h ⊢; obtain ⟨cs, e, hr⟩ := h; exact ⟨cs, e, R.mono hm hr⟩
  | false => simp only [hb] at h ⊢; exact R.mono hm h
def Rep.slot (R : Rep α) (x : α) : Slot := ⟨fun m v => R.is m v x, fun hm h => R.is_mono hm h⟩
theorem cells_of_one {v : Value} (h : v.oneCell' = true) : v.cells = #[v] := by
  cases v <;> first | rfl | (simp [Value.oneCell'] at h)
theorem Rep.is_cells {R : Rep α} {m : Mem} {v : Value} {x : α} (h : R.is m v x) : ∃ cs : List Value, v.cells = cs.toArray ∧ R.rel m cs x := by
  unfold Rep.is at h
  cases hb : R.ag with
  | true => simp only [hb] at h; obtain ⟨cs, rfl, hr⟩ := h; exact ⟨cs, rfl, hr⟩
  | false => simp only [hb] at h; exact ⟨[v], cells_of_one (R.cell h v (by simp)), h⟩
/-- The value of some cells. -/
def ofCells (ag : Bool) (cs : List Value) : Value :=
  match ag with
  | true => .agg cs.toArray
  | false => cs.headD undef
theorem Rep.is_of {R : Rep α} {m : Mem} {cs : List Value} {x : α} (h : R.rel m cs x) : R.is m (ofCells R.ag cs) x := by
  unfold Rep.is ofCells
  cases hb : R.ag with
  | true => exact ⟨cs, rfl, h⟩
  | false =>
    have := R.len h
    rw [R.one hb] at this
    match cs, this with
    | [v], _ => exact h

/-! ## Rows of cells -/
def RowC (R : Rep α) (m : Mem) : List Value → List α → Prop
  | cs, [] => cs = []
  | cs, x :: xs => ∃ c cs', cs = c ++ cs' ∧ R.rel m c x ∧ RowC R m cs' xs
theorem RowC.mono {R : Rep α} {m m' : Mem} (hm : Mle m m') : ∀ {xs : List α} {cs : List Value}, RowC R m cs xs → RowC R m' cs xs
  | [], _, h => h
  | _ :: _, _, ⟨c, cs', e, p, q⟩ => ⟨c, cs', e, R.mono hm p, RowC.mono hm q⟩
theorem RowC.length {R : Rep α} {m : Mem} : ∀ {xs : List α} {cs : List Value}, RowC R m cs xs → cs.length = xs.length * R.n
  | [], _, h => by simp [RowC] at h; simp [h]
  | _ :: xs, _, ⟨c, cs', e, p, q⟩ => by
    rw [e, List.length_append, R.len p, RowC.length q, List.length_cons, Nat.add_mul, Nat.one_mul, Nat.add_comm]
theorem RowC.cell {R : Rep α} {m : Mem} : ∀ {xs : List α} {cs : List Value}, RowC R m cs xs → ∀ v ∈ cs, v.oneCell' = true
  | [], _, h, v, hv => by simp [RowC] at h; simp [h] at hv
  | _ :: xs, _, ⟨c, cs', e, p, q⟩, v, hv => by
    rw [e, List.mem_append] at hv
    exact hv.elim (R.cell p v) (RowC.cell q v)
theorem RowC.append {R : Rep α} {m : Mem} : ∀ {xs ys : List α} {cs ds : List Value}, RowC R m cs xs → RowC R m ds ys → RowC R m (cs ++ ds) (xs ++ ys)
  | [], _, _, _, h, k => by simp [RowC] at h; simpa [h] using k
  | _ :: _, _, _, _, ⟨c, cs', e, p, q⟩, k => ⟨c, cs' ++ _, by rw [e, List.append_assoc], p, RowC.append q k⟩
theorem RowC.split {R : Rep α} {m : Mem} : ∀ {xs ys : List α} {cs : List Value}, RowC R m cs (xs ++ ys) →
    RowC R m (cs.take (xs.length * R.n)) xs ∧ RowC R m (cs.drop (xs.length * R.n)) ys
  | [], ys, cs, h => by simpa [RowC] using h
  | x :: xs, ys, cs, ⟨c, cs', e, p, q⟩ => by
    have ⟨h1, h2⟩ := RowC.split q
    have hl := R.len p
    have e1 : (x :: xs).length * R.n = c.length + xs.length * R.n := by rw [List.length_cons, Nat.add_mul, hl]; omega
    rw [e1, e]
    refine ⟨⟨c, cs'.take (xs.length * R.n), ?_, p, h1⟩, ?_⟩
    · rw [List.take_append]; simp [List.take_of_length_le]
    · rw [List.drop_append]; simpa [List.drop_of_length_le] using h2
theorem RowC.single {R : Rep α} {m : Mem} {x : α} {cs : List Value} (h : R.rel m cs x) : RowC R m cs [x] := ⟨cs, [], by simp, h, rfl⟩
theorem RowC.of_single {R : Rep α} {m : Mem} {x : α} {cs : List Value} (h : RowC R m cs [x]) : R.rel m cs x := by
  obtain ⟨c, cs', e, p, q⟩ := h
  simp [RowC] at q
  subst q
  simpa [e] using p
theorem list_mid {xs : List α} {i : Nat} (h : i < xs.length) : xs = xs.take i ++ ([xs[i]] ++ xs.drop (i + 1)) := by
  rw [List.singleton_append, ← List.drop_eq_getElem_cons h, List.take_append_drop]
theorem RowC.get {R : Rep α} {m : Mem} {xs : List α} {cs : List Value} {i : Nat} (h : RowC R m cs xs) (hi : i < xs.length) :
    R.rel m ((cs.drop (i * R.n)).take R.n) xs[i] := by
  rw [list_mid hi] at h
  have ⟨_, h2⟩ := RowC.split h
  have ⟨h3, _⟩ := RowC.split h2
  have := h3.of_single
  simpa [Nat.min_eq_left (Nat.le_of_lt hi)] using this
theorem RowC.set {R : Rep α} {m : Mem} {xs : List α} {cs ds : List Value} {i : Nat} {y : α} (h : RowC R m cs xs) (hi : i < xs.length) (hy : R.rel m ds y) :
    RowC R m (cs.take (i * R.n) ++ ds ++ cs.drop (i * R.n + R.n)) (xs.set i y) := by
  have e : xs.set i y = xs.take i ++ ([y] ++ xs.drop (i + 1)) := by
    rw [List.set_eq_take_append_cons_drop, if_pos hi, List.singleton_append]
  rw [e, List.append_assoc]
  rw [list_mid hi] at h
  have ⟨h1, h2⟩ := RowC.split h
  have ⟨_, h4⟩ := RowC.split h2
  have el : (List.take i xs).length = i := by simp [Nat.min_eq_left (Nat.le_of_lt hi)]
  rw [el] at h1 h4
  refine h1.append (RowC.append (RowC.single hy) ?_)
  simpa [List.drop_drop] using h4
theorem RowC.take {R : Rep α} {m : Mem} {xs : List α} {cs : List Value} (k : Nat) (h : RowC R m cs xs) : RowC R m (cs.take (k * R.n)) (xs.take k) := by
  by_cases hk : k ≤ xs.length
  · have h' := h
    rw [← List.take_append_drop k xs] at h'
    have := (RowC.split h').1
    simpa [Nat.min_eq_left hk] using this
  · have hx : xs.take k = xs := List.take_of_length_le (by omega)
    have hl := h.length
    have : cs.take (k * R.n) = cs := List.take_of_length_le (by rw [hl]; exact Nat.mul_le_mul_right _ (by omega))
    rw [hx, this]; exact h
theorem RowC.drop {R : Rep α} {m : Mem} {xs : List α} {cs : List Value} (k : Nat) (h : RowC R m cs xs) : RowC R m (cs.drop (k * R.n)) (xs.drop k) := by
  by_cases hk : k ≤ xs.length
  · have h' := h
    rw [← List.take_append_drop k xs] at h'
    have := (RowC.split h').2
    simpa [Nat.min_eq_left hk] using this
  · have hx : xs.drop k = [] := List.drop_of_length_le (by omega)
    have hl := h.length
    have : cs.drop (k * R.n) = [] := List.drop_of_length_le (by rw [hl]; exact Nat.mul_le_mul_right _ (by omega))
    rw [hx, this]; rfl
/-- Cells that lie in memory that stays. -/
def At (m : Mem) (b o : Nat) (cs : List Value) : Prop := ∀ j v, cs[j]? = some v → m b (o + j) = some v
theorem At.mono {m m' : Mem} {b o : Nat} {cs : List Value} (hm : Mle m m') (h : At m b o cs) : At m' b o cs := fun j v e => hm _ _ _ (h j v e)
theorem At.mid {m : Mem} {b o : Nat} {cs : List Value} (k n : Nat) (h : At m b o cs) : At m b (o + k) ((cs.drop k).take n) := by
  intro j v e
  rw [List.getElem?_take] at e
  split at e
  · rw [List.getElem?_drop] at e
    have := h (k + j) v e
    rwa [← Nat.add_assoc] at this
  · cases e

/-! ## Representations -/
def i64 : Rep Int where
  n := 1
  ag := false
  rel := fun _ cs x => cs = [.int .i64 x]
  mono := fun _ h => h
  len := fun h => by subst h; rfl
  cell := fun h v hv => by subst h; simp at hv; subst hv; rfl
  one := fun _ => rfl
def un (k : IntKind) (w : Nat) : Rep (BitVec w) where
  n := 1
  ag := false
  rel := fun _ cs x => cs = [.int k (x.toNat : Int)]
  mono := fun _ h => h
  len := fun h => by subst h; rfl
  cell := fun h v hv => by subst h; simp at hv; subst hv; rfl
  one := fun _ => rfl
abbrev u8 : Rep (BitVec 8) := un .u8 8
abbrev u32 : Rep (BitVec 32) := un .u32 32
abbrev u64 : Rep (BitVec 64) := un .u64 64
def bl : Rep Bool where
  n := 1
  ag := false
  rel := fun _ cs x => cs = [.bool x]
  mono := fun _ h => h
  len := fun h => by subst h; rfl
  cell := fun h v hv => by subst h; simp at hv; subst hv; rfl
  one := fun _ => rfl
/-- A value that is that very one (a slice of the call's own ..). -/
def exv (v : Value) : Rep Unit where
  n := 1
  ag := false
  rel := fun _ cs _ => cs = [v] ∧ v.oneCell' = true
  mono := fun _ h => h
  len := fun h => by rw [h.1]; rfl
  cell := fun h' v' hv => by rw [h'.1] at hv; simp at hv; subst hv; exact h'.2
  one := fun _ => rfl
def vec (n : Nat) (R : Rep α) : Rep (Vector α n) where
  n := n * R.n
  ag := true
  rel := fun m cs x => RowC R m cs x.toList
  mono := fun hm h => h.mono hm
  len := fun h => by rw [h.length, Vector.length_toList]
  cell := fun h => h.cell
  one := fun h => by cases h
def prod (R : Rep α) (S : Rep β) : Rep (α × β) where
  n := R.n + S.n
  ag := true
  rel := fun m cs x => ∃ c d, cs = c ++ d ∧ R.rel m c x.1 ∧ S.rel m d x.2
  mono := fun hm ⟨c, d, e, p, q⟩ => ⟨c, d, e, R.mono hm p, S.mono hm q⟩
  len := fun ⟨c, d, e, p, q⟩ => by rw [e, List.length_append, R.len p, S.len q]
  cell := fun ⟨c, d, e, p, q⟩ v hv => by rw [e, List.mem_append] at hv; exact hv.elim (R.cell p v) (S.cell q v)
  one := fun h => by cases h
/-- A struct of one field. -/
def only (R : Rep α) : Rep α := { R with ag := true, one := fun h => by cases h }
def sl (R : Rep α) : Rep (List α) where
  n := 1
  ag := false
  rel := fun m cs l => ∃ a cap, cs = [.slice a l.length cap] ∧ l.length ≤ cap ∧ (l = [] ∨ ∃ b o row, a = some ⟨b, o, none⟩ ∧ RowC R m row l ∧ At m b o row)
  mono := fun hm ⟨a, cap, e, hc, h⟩ => ⟨a, cap, e, hc, h.imp id fun ⟨b, o, row, e', p, q⟩ => ⟨b, o, row, e', p.mono hm, q.mono hm⟩⟩
  len := fun ⟨a, cap, e, _, _⟩ => by rw [e]; rfl
  cell := fun ⟨a, cap, e, _, _⟩ v hv => by rw [e] at hv; simp at hv; subst hv; rfl
  one := fun _ => rfl
/-- A pointer to a variable that stays; none: nil. -/
def ptr (R : Rep α) : Rep (Option α) where
  n := 1
  ag := false
  rel := fun m cs x => match x with
    | none => cs = [.pointer none]
    | some y => ∃ b o ds, cs = [.pointer (some ⟨b, o, none⟩)] ∧ R.rel m ds y ∧ At m b o ds
  mono := fun {m m' cs x} hm h => by
    cases x with
    | none => exact h
    | some y => obtain ⟨b, o, ds, e, p, q⟩ := h; exact ⟨b, o, ds, e, R.mono hm p, q.mono hm⟩
  len := fun {m cs x} h => by
    cases x with
    | none => rw [h]; rfl
    | some y => obtain ⟨b, o, ds, e, p, q⟩ := h; rw [e]; rfl
  cell := fun {m cs x} h v hv => by
    cases x with
    | none => rw [h] at hv; simp at hv; subst hv; rfl
    | some y => obtain ⟨b, o, ds, e, p, q⟩ := h; rw [e] at hv; simp at hv; subst hv; rfl
  one := fun _ => rfl

/-! ## Slots -/
def val (v : Value) : Slot := ⟨fun _ u => u = v, fun _ h => h⟩
def any : Slot := ⟨fun _ _ => True, fun _ _ => trivial⟩
/-- The address of a variable that stays. -/
def ptrTo (R : Rep α) (x : α) : Slot where
  p := fun m v => ∃ b o ds, v = .pointer (some ⟨b, o, none⟩) ∧ R.rel m ds x ∧ At m b o ds
  mono := fun hm ⟨b, o, ds, e, p, q⟩ => ⟨b, o, ds, e, R.mono hm p, q.mono hm⟩
def tup (ss : List Slot) : Slot where
  p := fun m v => ∃ vs : List Value, v = .tuple vs.toArray ∧ All2 m ss vs
  mono := fun hm ⟨vs, e, h⟩ => ⟨vs, e, h.mono hm⟩
abbrev ov (v : Value) : Slot := (exv v).slot ()
theorem ov_p {v u : Value} {m : Mem} : (ov v).p m u ↔ u = v ∧ v.oneCell' = true := by simp [Rep.slot, Rep.is, exv]
theorem ov_slice {ad : Option Addr} {n cap : Nat} {m : Mem} : (ov (.slice ad n cap)).p m (.slice ad n cap) := ov_p.2 ⟨rfl, rfl⟩
def Slot.flat (s : Slot) : Prop := ∀ m m' v, s.p m v → s.p m' v
def Rep.flat (R : Rep α) : Prop := ∀ m m' cs x, R.rel m cs x → R.rel m' cs x
theorem Rep.flat_slot {R : Rep α} (h : R.flat) (x : α) : (R.slot x).flat := by
  intro m m' v hv
  simp only [Rep.slot, Rep.is] at *
  cases hb : R.ag with
  | true => simp only [hb] at hv ⊢; obtain ⟨cs, e, hr⟩ := hv; exact ⟨cs, e, h _ _ _ _ hr⟩
  | false => simp only [hb] at hv ⊢; exact h _ _ _ _ hv
theorem flat_un (k : IntKind) (w : Nat) : (un k w).flat := fun _ _ _ _ h => h
theorem flat_bl : bl.flat := fun _ _ _ _ h => h
theorem RowC.flat {R : Rep α} (h : R.flat) {m m' : Mem} : ∀ {xs : List α} {cs : List Value}, RowC R m cs xs → RowC R m' cs xs
  | [], _, k => k
  | _ :: _, _, ⟨c, cs', e, p, q⟩ => ⟨c, cs', e, h _ _ _ _ p, RowC.flat h q⟩
theorem flat_vec {R : Rep α} (n : Nat) (h : R.flat) : (vec n R).flat := fun _ _ _ _ k => k.flat h
theorem All2.flat {m m' : Mem} : ∀ {ss : List Slot} {vs : List Value}, (∀ s ∈ ss, s.flat) → All2 m ss vs → All2 m' ss vs
  | [], _, _, h => h
  | s :: _, _, hs, ⟨v, vs', e, p, q⟩ => ⟨v, vs', e, hs s (by simp) _ _ _ p, All2.flat (fun s h => hs s (by simp [h])) q⟩
/-! ## Parts of a variable -/
structure Path (R : Rep α) (off : Nat) (S : Rep β) (get : α → β) (set : α → β → α) : Prop where
  fits : off + S.n ≤ R.n
  get_ok : ∀ {m : Mem} {cs : List Value} {x : α}, R.rel m cs x → S.rel m ((cs.drop off).take S.n) (get x)
  set_ok : ∀ {m : Mem} {cs ds : List Value} {x : α} {y : β}, R.rel m cs x → S.rel m ds y → R.rel m (cs.take off ++ ds ++ cs.drop (off + S.n)) (set x y)
theorem Path.all (R : Rep α) : Path R 0 R (fun x => x) (fun _ y => y) where
  fits := by simp
  get_ok := fun {m cs x} h => by
    have := R.len h
    simpa [List.take_of_length_le (Nat.le_of_eq this)] using h
  set_ok := fun {m cs ds x y} h k => by
    have := R.len h
    simpa [List.drop_of_length_le (Nat.le_of_eq this)] using k
theorem Path.fst (R : Rep α) (S : Rep β) : Path (prod R S) 0 R (fun x => x.1) (fun x y => (y, x.2)) where
  fits := by simp [prod]
  get_ok := fun {m cs x} ⟨c, d, e, p, q⟩ => by
    have := R.len p
    subst e
    simpa [List.take_append, List.take_of_length_le (Nat.le_of_eq this), this] using p
  set_ok := fun {m cs ds x y} ⟨c, d, e, p, q⟩ k => by
    have := R.len p
    subst e
    refine ⟨ds, d, ?_, k, q⟩
    simp [List.drop_append, ← this]
theorem Path.snd (R : Rep α) (S : Rep β) : Path (prod R S) R.n S (fun x => x.2) (fun x y => (x.1, y)) where
  fits := by simp [prod]
  get_ok := fun {m cs x} ⟨c, d, e, p, q⟩ => by
    have h1 := R.len p
    have h2 := S.len q
    subst e
    simpa [List.drop_append, ← h1, List.take_of_length_le (Nat.le_of_eq h2)] using q
  set_ok := fun {m cs ds x y} ⟨c, d, e, p, q⟩ k => by
    have h1 := R.len p
    have h2 := S.len q
    subst e
    refine ⟨c, ds, ?_, p, k⟩
    rw [List.take_append, List.drop_append]
    simp [← h1, ← h2, List.drop_of_length_le]
theorem Path.at (n : Nat) (R : Rep α) (i : Nat) (hi : i < n) : Path (vec n R) (i * R.n) R (fun x => x[i]) (fun x y => x.set i y) where
  fits := by
    show i * R.n + R.n ≤ n * R.n
    calc i * R.n + R.n = (i + 1) * R.n := by rw [Nat.add_mul, Nat.one_mul]
      _ ≤ n * R.n := Nat.mul_le_mul_right _ hi
  get_ok := fun {m cs x} h => by
    have := RowC.get h (i := i) (by simpa using hi)
    simpa using this
  set_ok := fun {m cs ds x y} h k => by
    have := RowC.set (i := i) h (by simpa using hi) k
    show RowC R m _ (x.set i y).toList
    simpa [Vector.toList_set] using this
theorem Path.then {γ : Type} {R : Rep α} {S : Rep β} {T : Rep γ} {o1 o2 : Nat} {g1 : α → β} {s1 : α → β → α} {g2 : β → γ} {s2 : β → γ → β}
    (h : Path R o1 S g1 s1) (k : Path S o2 T g2 s2) : Path R (o1 + o2) T (fun x => g2 (g1 x)) (fun x z => s1 x (s2 (g1 x) z)) where
  fits := by have := h.fits; have := k.fits; omega
  get_ok := fun {m cs x} hr => by
    have := k.get_ok (h.get_ok hr)
    rw [List.drop_take, List.drop_drop, List.take_take] at this
    have hk := k.fits
    rwa [Nat.min_eq_left (by omega)] at this
  set_ok := fun {m cs ds x z} hr hz => by
    have h1 := k.set_ok (h.get_ok hr) hz
    have h2 := h.set_ok hr h1
    have hl := R.len hr
    have hf := h.fits
    have kf := k.fits
    have dl := T.len hz
    have e : cs.take o1 ++ (((cs.drop o1).take S.n).take o2 ++ ds ++ ((cs.drop o1).take S.n).drop (o2 + T.n)) ++ cs.drop (o1 + S.n) = cs.take (o1 + o2) ++ ds ++ cs.drop (o1 + o2 + T.n) := by
      rw [List.take_take, Nat.min_eq_left (by omega), List.take_add]
      have e2 : ((cs.drop o1).take S.n).drop (o2 + T.n) ++ cs.drop (o1 + S.n) = cs.drop (o1 + o2 + T.n) := by
        rw [List.drop_take, List.drop_drop]
        have : cs.drop (o1 + S.n) = (cs.drop (o1 + (o2 + T.n))).drop (S.n - (o2 + T.n)) := by rw [List.drop_drop]; congr 1; omega
        rw [this, List.take_append_drop]
        congr 1; omega
      simp only [List.append_assoc] at *
      rw [e2]
    rw [e] at h2
    exact h2

/-! ## Entities -/
/-- A variable of the call's own. -/
def box (b : Nat) (T : TypeId) (R : Rep α) (x : α) : Ent where
  p := fun m hs => ∃ cs, hs = [(b, T, cs)] ∧ R.rel m cs x
  mono := fun hm ⟨cs, e, h⟩ => ⟨cs, e, R.mono hm h⟩
/-- A slice of the call's own: it may be appended to. 'T': the element's type. -/
def own (T : TypeId) (R : Rep α) (v : Value) (l : List α) : Ent where
  p := fun m hs => (l = [] ∧ hs = [] ∧ ∃ a, v = .slice a 0 0) ∨
    ∃ b cap row spare, v = .slice (some ⟨b, 0, none⟩) l.length cap ∧ hs = [(b, T, row ++ spare)] ∧ RowC R m row l ∧ l.length ≤ cap ∧ (row ++ spare).length = cap * R.n
  mono := fun hm h => h.imp id fun ⟨b, cap, row, spare, e, e', p, q⟩ => ⟨b, cap, row, spare, e, e', p.mono hm, q⟩
theorem own.one {T : TypeId} {R : Rep α} {v : Value} {l : List α} {m : Mem} {hs : Hp} (h : (own T R v l).p m hs) : v.oneCell' = true := by
  rcases h with ⟨rfl, _, a, rfl⟩ | ⟨b, cap, row, spare, rfl, _⟩ <;> rfl
theorem own.shape {T : TypeId} {R : Rep α} {v : Value} {l : List α} {m : Mem} {hs : Hp} (h : (own T R v l).p m hs) : ∃ a cap, v = .slice a l.length cap ∧ l.length ≤ cap := by
  rcases h with ⟨rfl, _, a, rfl⟩ | ⟨b, cap, row, spare, rfl, _, _, hc, _⟩
  · exact ⟨a, 0, rfl, Nat.le_refl _⟩
  · exact ⟨_, cap, rfl, hc⟩
end
end Go.Sl
