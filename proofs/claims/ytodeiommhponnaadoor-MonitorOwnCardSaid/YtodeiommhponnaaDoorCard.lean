import Derived.Test.YtodeiommhponnaaDoorOp9
import Derived.WalkKit
import Derived.ProofKit
import Derived.OpenShut
import Derived.Carry
import Derived.SevenTiedAt
import Derived.Deep.DeepHandedRow
import Derived.Lib.LaidTab
set_option linter.unusedSimpArgs false
set_option linter.unusedVariables false
set_option linter.unusedSectionVars false
namespace Go.Sl
open Go.ChangeShapes Go.WideShapes Go.ChangeAt Go.RowKit
/-! ## Arguments that read as data are what the representations say -/
def memOf (W : World) : Mem := fun b o => W.cell? ⟨b, o, none⟩
theorem good_memOf (W : World) : Good (memOf W) [] W := ⟨fun _ _ _ h => h, List.nodup_nil, (fun _ h => by cases h), (fun _ h => by cases h)⟩
/-- What a bulk is. -/
structure Bulk (H : Type) where
  b : DataW H → Nat
  all : List (DataW H) → Nat
  one : ∀ d, 1 ≤ b d
  nil : 0 ≤ all []
  cons : ∀ d r, all (d :: r) = b d + all r
  slice : ∀ e s, all e + 1 ≤ b (.slice e s)
  agg : ∀ ps, all ps ≤ b (.agg ps)
section
variable {α β : Type}
def sumL (f : α → Nat) : List α → Nat
  | [] => 0
  | x :: r => f x + sumL f r
/-- What reads at type T is what R says; of which it is told that it is well formed, and how much it is. -/
def RR (P : Program) (T : TypeId) (R : Rep α) (wf : α → Prop) (sz : α → Nat) : Prop :=
  P.cellsOf T = R.n ∧ ∀ {H : Type} {enc : TypeId × Value → H} {w : World} {base : Nat} {sp : Nat → Bool} {held : Bool} {fuel : Nat} {cs : List Value} {x : DataW H × List MemPlace},
    DataW.trod enc P w base sp held fuel T cs = some x → ∃ y : α, R.rel (memOf w) cs y ∧ wf y ∧ ∀ B : Bulk H, sz y ≤ B.b x.1
def wfI (n : Int) : Prop := -9223372036854775808 ≤ n ∧ n < 9223372036854775808
def wfT (_ : α) : Prop := True
def wfL (p : α → Prop) (l : List α) : Prop := l.length ≤ 9223372036854775807 ∧ ∀ x ∈ l, p x
def wfV {n : Nat} (p : α → Prop) (l : Vector α n) : Prop := ∀ x ∈ l.toList, p x
def wfP (p : α → Prop) (q : β → Prop) (x : α × β) : Prop := p x.1 ∧ q x.2
def sz1 (_ : α) : Nat := 1
def szL (f : α → Nat) (l : List α) : Nat := sumL f l + 1
def szV {n : Nat} (f : α → Nat) (l : Vector α n) : Nat := sumL f l.toList
def szP (f : α → Nat) (g : β → Nat) (x : α × β) : Nat := f x.1 + g x.2
theorem rr_i64 {P : Program} {T : TypeId} (h : P.underlying T = some (.int .i64)) (hc : P.cellsOf T = 1) : RR P T i64 wfI sz1 := by
  refine ⟨hc, fun {H enc w base sp held fuel cs x} hx => ?_⟩
  obtain ⟨n, rfl, rfl, hw⟩ := DataW.trod_int h hx
  refine ⟨n, rfl, ?_, fun B => B.one _⟩
  simp [Lit.wf, IntKind.min, IntKind.max, IntKind.bits, IntKind.signed] at hw
  unfold wfI; omega
theorem rr_un {P : Program} {T : TypeId} {k : IntKind} {b : Nat} (h : P.underlying T = some (.int k)) (hc : P.cellsOf T = 1) (hk : k.bits = b) (hs : k.signed = false) : RR P T (un k b) wfT sz1 := by
  refine ⟨hc, fun {H enc w base sp held fuel cs x} hx => ?_⟩
  obtain ⟨n, rfl, rfl, hw⟩ := DataW.trod_int h hx
  simp only [Lit.wf, IntKind.min, IntKind.max, hs, Bool.false_eq_true, if_false, Bool.and_eq_true, decide_eq_true_eq] at hw
  have hn : ((BitVec.ofInt b n).toNat : Int) = n := by
    rw [← wrap_un hk hs]
    unfold IntKind.wrap
    simp only [hs, Bool.false_and, Bool.false_eq_true, if_false]
    rw [Int.emod_eq_of_lt hw.1 (by omega)]
  exact ⟨BitVec.ofInt b n, by show [Value.int k n] = [Value.int k ((BitVec.ofInt b n).toNat : Int)]; rw [hn], trivial, fun B => B.one _⟩
theorem row_of {P : Program} {e : TypeId} {R : Rep α} {wf : α → Prop} {sz : α → Nat} (h : RR P e R wf sz) {H : Type} {enc : TypeId × Value → H} {w : World} {base : Nat} {sp : Nat → Bool} {held : Bool} {fuel : Nat} :
    ∀ {xs : List (DataW H × List MemPlace)} {cs : List Value}, cs.length = xs.length * R.n → (∀ i, i < xs.length → DataW.trod enc P w base sp held fuel e ((cs.drop (i * R.n)).take R.n) = xs[i]?) →
      ∃ ys : List α, ys.length = xs.length ∧ RowC R (memOf w) cs ys ∧ (∀ y ∈ ys, wf y) ∧ ∀ B : Bulk H, sumL sz ys ≤ B.all (xs.map (·.1))
  | [], cs, hl, _ => ⟨[], rfl, by simpa [RowC] using hl, (fun y hy => by cases hy), fun B => by simp [sumL]⟩
  | x :: xs, cs, hl, hx => by
    have h0 := hx 0 (by simp)
    simp only [Nat.zero_mul, List.drop_zero, List.getElem?_cons_zero] at h0
    obtain ⟨y, hr, hw, hb⟩ := h.2 h0
    simp only [List.length_cons, Nat.add_mul, Nat.one_mul] at hl
    obtain ⟨ys, hyl, hrow, hwf, hB⟩ := row_of h (xs := xs) (cs := cs.drop R.n) (by rw [List.length_drop]; omega) (fun i hi => by
      have := hx (i + 1) (by simp; omega)
      rw [List.drop_drop]
      simp only [List.getElem?_cons_succ] at this
      rw [← this, Nat.add_mul, Nat.one_mul, Nat.add_comm R.n])
    refine ⟨y :: ys, by simp [hyl], ⟨cs.take R.n, cs.drop R.n, (List.take_append_drop _ _).symm, hr, hrow⟩, ?_, fun B => ?_⟩
    · intro z hz
      rcases List.mem_cons.1 hz with rfl | hz
      · exact hw
      · exact hwf z hz
    · rw [List.map_cons, B.cons]
      have := hb B; have := hB B
      simp only [sumL]; omega
theorem rr_vec {P : Program} {T e n : Nat} {R : Rep α} {wf : α → Prop} {sz : α → Nat} (hu : P.underlying T = some (.array n e)) (hc : P.cellsOf T = n * R.n) (h : RR P e R wf sz) : RR P T (vec n R) (wfV wf) (szV sz) := by
  refine ⟨hc, fun {H enc w base sp held fuel cs x} hx => ?_⟩
  cases fuel with
  | zero => simp [DataW.trod] at hx
  | succ fuel =>
    simp only [DataW.trod, hu] at hx
    split at hx
    · rename_i hl
      obtain ⟨xs, hm, rfl⟩ := Option.map_eq_some_iff.1 hx
      have hxl : xs.length = n := by simpa using Go.Lib.mapM_length hm
      rw [hc] at hl
      obtain ⟨ys, hyl, hrow, hwf, hB⟩ := row_of h (xs := xs) (cs := cs) (by rw [hxl]; exact hl) (fun i hi => by
        obtain ⟨b, hb, hf⟩ := Go.Lib.mapM_at hm i i (by rw [List.getElem?_range (by omega)])
        rw [h.1] at hf
        rw [hf, hb])
      have hyn : ys.length = n := hyl.trans hxl
      refine ⟨⟨ys.toArray, by simpa using hyn⟩, ?_, ?_, fun B => ?_⟩
      · simpa [vec, Vector.toList] using hrow
      · intro y hy; exact hwf y (by simpa [Vector.toList] using hy)
      · have := B.agg (xs.map (·.1))
        have := hB B
        simp only [szV, Vector.toList]
        simpa using Nat.le_trans (hB B) (B.agg _)
    · cases hx
inductive RRF (P : Program) : List Field → Nat → {α : Type} → Rep α → (α → Prop) → (α → Nat) → Prop
  | one {α : Type} {f : Field} {off : Nat} {R : Rep α} {wf : α → Prop} {sz : α → Nat} : f.offset = off → RR P f.type R wf sz → RRF P [f] off R wf sz
  | cons {α β : Type} {f : Field} {fs : List Field} {off : Nat} {R : Rep α} {S : Rep β} {wf : α → Prop} {sz : α → Nat} {wf' : β → Prop} {sz' : β → Nat} : f.offset = off → RR P f.type R wf sz → RRF P fs (off + R.n) S wf' sz' → RRF P (f :: fs) off (prod R S) (wfP wf wf') (szP sz sz')
theorem RRF.run {P : Program} {H : Type} {enc : TypeId × Value → H} {w : World} {base : Nat} {sp : Nat → Bool} {held : Bool} {fuel : Nat} {cs : List Value} {fs : List Field} {off : Nat} {R : Rep α} {wf : α → Prop} {sz : α → Nat} (h : RRF P fs off R wf sz) :
    ∀ {xs : List (DataW H × List MemPlace)}, cs.length = off + R.n → xs.length = fs.length → (∀ (i : Nat) (f : Field), fs[i]? = some f → DataW.trod enc P w base sp held fuel f.type ((cs.drop f.offset).take (P.cellsOf f.type)) = xs[i]?) →
      ∃ y : α, R.rel (memOf w) (cs.drop off) y ∧ wf y ∧ ∀ B : Bulk H, sz y ≤ B.all (xs.map (·.1)) := by
  induction h with
  | @one α f off R wf sz ho hr =>
    intro xs hl hxl hx
    have h0 := hx 0 f rfl
    rw [ho, hr.1, List.take_of_length_le (by rw [List.length_drop]; omega)] at h0
    match xs, hxl with
    | [x], _ =>
      obtain ⟨y, h1, h2, h3⟩ := hr.2 h0
      exact ⟨y, h1, h2, fun B => by have := h3 B; simp only [List.map_cons, List.map_nil, B.cons]; omega⟩
  | @cons α β f fs off R S wf sz wf' sz' ho hr _ ih =>
    intro xs hl hxl hx
    have h0 := hx 0 f rfl
    rw [ho, hr.1] at h0
    match xs, hxl with
    | x :: xs, hxl =>
      obtain ⟨y, h1, h2, h3⟩ := hr.2 h0
      obtain ⟨z, k1, k2, k3⟩ := ih (xs := xs) (by rw [hl]; show off + (R.n + S.n) = _; omega) (by simpa using hxl) (fun i g hg => by
        have := hx (i + 1) g (by simpa using hg)
        simpa using this)
      refine ⟨(y, z), ⟨_, _, ?_, h1, k1⟩, ⟨h2, k2⟩, fun B => ?_⟩
      · rw [← List.drop_drop, List.take_append_drop]
      · have := h3 B; have := k3 B
        simp only [List.map_cons, B.cons, szP]; omega
theorem rr_struct {P : Program} {T : TypeId} {fs : Array Field} {R : Rep α} {wf : α → Prop} {sz : α → Nat} (hu : P.underlying T = some (.struct fs)) (hc : P.cellsOf T = R.n) (h : RRF P fs.toList 0 R wf sz) : RR P T R wf sz := by
  refine ⟨hc, fun {H enc w base sp held fuel cs x} hx => ?_⟩
  obtain ⟨xs, n, rfl, rfl, hl, hxl, hi⟩ := DataW.trod_struct hu hx
  obtain ⟨y, h1, h2, h3⟩ := h.run (xs := xs) (by rw [hl, hc]; omega) (by simpa using hxl) (fun i f hf => hi i f (by simpa using hf))
  exact ⟨y, by simpa using h1, h2, fun B => Nat.le_trans (h3 B) (B.agg _)⟩
theorem rr_sl {P : Program} {T e : TypeId} {R : Rep α} {wf : α → Prop} {sz : α → Nat} (hu : P.underlying T = some (.slice e)) (hc : P.cellsOf T = 1) (hn : 0 < R.n) (h : RR P e R wf sz) : RR P T (sl R) (wfL wf) (szL sz) := by
  refine ⟨hc, fun {H enc w base sp held fuel cs x} hx => ?_⟩
  rcases DataW.trod_slice hu hx with ⟨rfl, rfl⟩ | ⟨a, len, cap, elems, rest, n, rfl, rfl, rfl, hb, hlc, hcm, hel, hi, _, _⟩
  · exact ⟨[], ⟨none, 0, rfl, Nat.le_refl _, .inl rfl⟩, ⟨by simp, (fun y hy => by cases hy)⟩, fun B => by have := B.one (.nil : DataW H); simp [szL, sumL]; omega⟩
  · subst hel
    have hcm' : cap ≤ 9223372036854775807 := by unfold maxLen at hcm; omega
    cases elems with
    | nil =>
      exact ⟨[], ⟨_, _, rfl, by simp, .inl rfl⟩, ⟨by simp, (fun y hy => by cases hy)⟩, fun B => by have := B.slice ([] : List (DataW H)) (rest.map (·.1)); have := B.nil; simp only [szL, sumL, List.map_nil]; omega⟩
    | cons x0 el =>
      -- the block's cells
      have hcell : ∀ i, i < (x0 :: el).length → ∃ c, w.cells? base (a.add (i * R.n)) R.n = some c ∧ DataW.trod enc P w base sp held n e c = (x0 :: el)[i]? := by
        intro i hlt
        have := hi i hlt
        rw [h.1] at this
        rw [List.getElem?_eq_getElem hlt] at this ⊢
        obtain ⟨c, h1, h2⟩ := Option.bind_eq_some_iff.1 this
        exact ⟨c, h1, h2⟩
      have hspot : a.spot = none := by
        obtain ⟨c, h1, _⟩ := hcell 0 (by simp)
        obtain ⟨_, hl, hk⟩ := World.cells?_some h1
        have := hk 0 hn
        rw [List.getElem?_eq_getElem (by omega)] at this
        unfold World.cell? at this
        simp only [Nat.zero_mul, Addr.add, if_true] at this
        split at this
        · split at this
          · cases this
          · rename_i hs; simpa using hs
        · cases this
      obtain ⟨b, o, s⟩ := a
      simp only at hspot
      subst hspot
      -- the row
      have key : ∀ (k : Nat), k ≤ (x0 :: el).length → ∃ row : List Value, row.length = k * R.n ∧ At (memOf w) b o row ∧ ∀ i, i < k → DataW.trod enc P w base sp held n e ((row.drop (i * R.n)).take R.n) = (x0 :: el)[i]? := by
        intro k
        induction k with
        | zero => intro _; exact ⟨[], by simp, fun j v e => by simp at e, fun i h => by omega⟩
        | succ k ih =>
          intro hk
          obtain ⟨row, hrl, hat, hrd⟩ := ih (by omega)
          obtain ⟨c, h1, h2⟩ := hcell k (by omega)
          obtain ⟨_, hl, hkk⟩ := World.cells?_some h1
          refine ⟨row ++ c, by rw [List.length_append, hrl, hl, Nat.add_mul, Nat.one_mul], ?_, ?_⟩
          · intro j v e
            by_cases hj : j < row.length
            · rw [List.getElem?_append_left hj] at e; exact hat j v e
            · rw [List.getElem?_append_right (by omega)] at e
              have hj2 : j - row.length < R.n := by rw [← hl]; exact (List.getElem?_eq_some_iff.1 e).1
              have := hkk (j - row.length) hj2
              rw [e, Addr.add_lit, Addr.add_lit] at this
              show w.cell? _ = _
              rw [← this]
              congr 2; omega
          · intro i hi
            by_cases hik : i < k
            · rw [← hrd i hik]
              have hle : (i + 1) * R.n ≤ k * R.n := Nat.mul_le_mul_right _ hik
              rw [Nat.add_mul, Nat.one_mul] at hle
              rw [List.drop_append_of_le_length (by omega), List.take_append_of_le_length (by rw [List.length_drop]; omega)]
            · have : i = k := by omega
              subst this
              rw [List.drop_append_of_le_length (by omega), List.drop_of_length_le (by omega), List.nil_append, List.take_of_length_le (by omega)]
              exact h2
      obtain ⟨row, hrl, hat, hrd⟩ := key _ (Nat.le_refl _)
      obtain ⟨ys, hyl, hrow, hwf, hB⟩ := row_of h (xs := x0 :: el) (cs := row) hrl (fun i hi => hrd i hi)
      refine ⟨ys, ⟨_, cap, by rw [hyl], by rw [hyl]; exact hlc, .inr ⟨b, o, row, rfl, hrow, hat⟩⟩, ⟨by rw [hyl]; omega, hwf⟩, fun B => ?_⟩
      have := hB B
      have := B.slice ((x0 :: el).map (·.1)) (rest.map (·.1))
      simp only [szL]
      show _ ≤ B.b (.slice _ _)
      omega
/-- An argument. -/
theorem arg_of {P : Program} {T : TypeId} {R : Rep α} {wf : α → Prop} {sz : α → Nat} (h : RR P T R wf sz) (hag : ∀ {w : World} {base : Nat} {v : Value}, Value.okWide P w .any base T v → (R.ag = true → ∃ cs, v = .agg cs) ∧ (R.ag = false → v.oneCell' = true))
    {H : Type} {enc : TypeId × Value → H} {w : World} {base b2 : Nat} {sp : Nat → Bool} {held : Bool} {v : Value} {d : DataW H} {ps : List MemPlace} (hv : Value.okWide P w .any b2 T v) (hd : DataW.Trod enc P w base sp held T v d ps) :
    ∃ y : α, (R.slot y).p (memOf w) v ∧ wf y ∧ ∀ B : Bulk H, sz y ≤ B.b d := by
  obtain ⟨fuel, hf⟩ := hd
  obtain ⟨y, hr, hw, hB⟩ := h.2 hf
  refine ⟨y, ?_, hw, hB⟩
  show R.is (memOf w) v y
  unfold Rep.is
  cases hb : R.ag with
  | true =>
    obtain ⟨cs, rfl⟩ := (hag hv).1 hb
    exact ⟨cs.toList, rfl, hr⟩
  | false =>
    have := cells_of_one ((hag hv).2 hb)
    rw [this] at hr
    exact hr
theorem ag_sl {P : Program} {T e : TypeId} {R : Rep α} (h : P.underlying T = some (.slice e)) (hR : R.ag = false) {w : World} {base : Nat} {v : Value} (hv : Value.okWide P w .any base T v) : (R.ag = true → ∃ cs, v = .agg cs) ∧ (R.ag = false → v.oneCell' = true) := by
  obtain ⟨_, _, _, rfl⟩ := okWide_slice h hv
  exact ⟨(fun e => by rw [hR] at e; cases e), fun _ => rfl⟩
/-! ## Laid variables -/
mutual
def cellsD {H : Type} : DataW H → List Value
  | .lit (.int k n) => [.int k n]
  | .agg ps => cellsDs ps
  | _ => []
def cellsDs {H : Type} : List (DataW H) → List Value
  | [] => []
  | d :: r => cellsD d ++ cellsDs r
end
/-- At this type the datum tells the cells. -/
def FL (P : Program) (T n : Nat) : Prop := P.cellsOf T = n ∧
  ∀ {H : Type} {enc : TypeId × Value → H} {w : World} {base : Nat} {sp : Nat → Bool} {held : Bool} {fuel : Nat} {cs : List Value} {x : DataW H × List MemPlace}, DataW.trod enc P w base sp held fuel T cs = some x → cs = cellsD x.1
theorem fl_int {P : Program} {T : TypeId} {k : IntKind} (h : P.underlying T = some (.int k)) (hc : P.cellsOf T = 1) : FL P T 1 := by
  refine ⟨hc, fun {H enc w base sp held fuel cs x} hx => ?_⟩
  obtain ⟨n, rfl, rfl, hw⟩ := DataW.trod_int h hx
  rfl
theorem flat_row {P : Program} {e n : Nat} (h : FL P e n) {H : Type} {enc : TypeId × Value → H} {w : World} {base : Nat} {sp : Nat → Bool} {held : Bool} {fuel : Nat} :
    ∀ {xs : List (DataW H × List MemPlace)} {cs : List Value}, cs.length = xs.length * n → (∀ i, i < xs.length → DataW.trod enc P w base sp held fuel e ((cs.drop (i * n)).take n) = xs[i]?) → cs = cellsDs (xs.map (·.1))
  | [], cs, hl, _ => by simpa [cellsDs] using hl
  | x :: xs, cs, hl, hx => by
    have h0 := hx 0 (by simp)
    simp only [Nat.zero_mul, List.drop_zero, List.getElem?_cons_zero] at h0
    have h1 := h.2 h0
    simp only [List.length_cons, Nat.add_mul, Nat.one_mul] at hl
    have h2 := flat_row h (xs := xs) (cs := cs.drop n) (by rw [List.length_drop]; omega) (fun i hi => by
      have := hx (i + 1) (by simp; omega)
      rw [List.drop_drop]
      simp only [List.getElem?_cons_succ] at this
      rw [← this, Nat.add_mul, Nat.one_mul, Nat.add_comm n])
    rw [List.map_cons, cellsDs, ← h1, ← h2, List.take_append_drop]
theorem fl_arr {P : Program} {T e n k : Nat} (hu : P.underlying T = some (.array n e)) (hc : P.cellsOf T = n * k) (h : FL P e k) : FL P T (n * k) := by
  refine ⟨hc, fun {H enc w base sp held fuel cs x} hx => ?_⟩
  cases fuel with
  | zero => simp [DataW.trod] at hx
  | succ fuel =>
    simp only [DataW.trod, hu] at hx
    split at hx
    · rename_i hl
      obtain ⟨xs, hm, rfl⟩ := Option.map_eq_some_iff.1 hx
      have hxl : xs.length = n := by simpa using Go.Lib.mapM_length hm
      rw [hc] at hl
      rw [cellsD]
      exact flat_row h (by rw [hxl]; exact hl) (fun i hi => by
        obtain ⟨b, hb, hf⟩ := Go.Lib.mapM_at hm i i (by rw [List.getElem?_range (by omega)])
        rw [h.1] at hf
        rw [hf, hb])
    · cases hx
inductive FLF (P : Program) : List Field → Nat → Nat → Prop
  | nil {off : Nat} : FLF P [] off off
  | cons {f : Field} {fs : List Field} {off n top : Nat} : f.offset = off → FL P f.type n → FLF P fs (off + n) top → FLF P (f :: fs) off top
theorem FLF.run {P : Program} {H : Type} {enc : TypeId × Value → H} {w : World} {base : Nat} {sp : Nat → Bool} {held : Bool} {fuel : Nat} {cs : List Value} {fs : List Field} {off top : Nat} (h : FLF P fs off top) :
    ∀ {xs : List (DataW H × List MemPlace)}, cs.length = top → xs.length = fs.length → (∀ (i : Nat) (f : Field), fs[i]? = some f → DataW.trod enc P w base sp held fuel f.type ((cs.drop f.offset).take (P.cellsOf f.type)) = xs[i]?) →
      cs.drop off = cellsDs (xs.map (·.1)) := by
  induction h with
  | nil => intro xs hl hxl _; cases xs with
    | nil => simp [cellsDs, List.drop_of_length_le (Nat.le_of_eq hl)]
    | cons => simp at hxl
  | @cons f fs off n top ho hr _ ih =>
    intro xs hl hxl hx
    have h0 := hx 0 f rfl
    rw [ho, hr.1] at h0
    match xs, hxl with
    | x :: xs, hxl =>
      have h1 := hr.2 h0
      have h2 := ih (xs := xs) hl (by simpa using hxl) (fun i g hg => by
        have := hx (i + 1) g (by simpa using hg)
        simpa using this)
      rw [List.map_cons, cellsDs, ← h1, ← h2, ← List.drop_drop, List.take_append_drop]
/-- One laid variable. -/
theorem gat_of {P : Program} {W : World} {nm : String} {d : DataW Unit} {r : List (String × DataW Unit)} {ps : List MemPlace} (h : DataW.LaidVars P W ((nm, d) :: r) ps) {g T n : Nat} (hg : P.globalNamed nm = some g) (hT : (P.globals[g]?).map (·.type) = some T)
    (hF : FL P T n) {R : Rep α} {x : α} (hR : ∀ m, R.rel m (cellsD d) x) : GAt g R x (memOf W) ∧ ∃ q, DataW.LaidVars P W r q := by
  obtain ⟨g', t, cs, fuel, p, q, h1, h2, h3, h4, h5, _⟩ := h
  obtain rfl := Option.some.inj (hg.symm.trans h1)
  obtain rfl := Option.some.inj (hT.symm.trans h2)
  have hcs := hF.2 h4
  refine ⟨⟨cellsD d, hR _, fun j v e => ?_⟩, q, h5⟩
  have hcs' : cs.toList = cellsD d := hcs
  rw [← hcs'] at e
  show W.cell? ⟨g, 0 + j, none⟩ = some v
  rw [Nat.zero_add, World.var?_cell h1 h3 j, ← e]
  simp
/-! ## The end -/
theorem below_of_frm {W W' : World} {m m' : Mem} {bs' : List Nat} (h : Frm W W' m m' [] bs') : Below W.heap.size W W' := ⟨h.os, h.tape, h.output, h.size, fun k hk => (h.old k hk (by simp)).1⟩
theorem post_below {H : Type} {enc : TypeId × Value → H} {P : Program} {f : Func} {s : ChangeSpec} {apart fresh handsOn again : Bool} {W W' : World} {args : Array Value} {v : Value} {ds : List (DataW H)} {before : List MemPlace}
    (hW : DataW.Whole enc P f.params.toList s.vars apart W args.toList ds [] before) (hvn : s.vars = []) (hb : Below W.heap.size W W')
    (hl : laidOutB P = true) (hread : (f.params.toList.all fun t => P.readableRec t && Nat.blt t P.types.size) = true)
    (hres : ∀ (b : Nat) (sp : Nat → Bool) (hd : Bool), DataW.TrodAll enc P W' b sp hd f.resultTypes.toList (v.resultList f.resultTypes.size) (s.fn H (ds ++ [])).results [])
    (hargs : (s.fn H (ds ++ [])).args = ds) (hvars : (s.fn H (ds ++ [])).vars = [])
    (hok : ∀ (j : Nat) (t : TypeId) (r : Value), f.resultTypes[j]? = some t → (v.resultList f.resultTypes.size)[j]? = some r → Value.okWide P W' .any 0 t r) :
    s.post enc P f apart fresh handsOn again W args v W' := by
  have hW0 := hW
  have hlt : ∀ p ∈ before, p.block < W.heap.size := fun p hp => hW.lt p hp
  obtain ⟨pa, pv, hA, hV, rfl, hz, hn⟩ := hW
  rw [hvn] at hV
  obtain rfl : pv = [] := hV
  have hstay : ∀ (ts : List TypeId) (vs : List Value) (es : List (DataW H)) (p : List MemPlace), (∀ t ∈ ts, P.readableRec t = true ∧ t < P.types.size) → (∀ x ∈ p, x.block < W.heap.size) → DataW.TrodAll enc P W 0 (fun _ => true) true ts vs es p →
      DataW.TrodAll enc P W' 0 (fun b => decide (b < W.heap.size)) true ts vs es p := by
    intro ts
    induction ts with
    | nil => intro vs es p _ _ h; obtain ⟨rfl, rfl, rfl⟩ := trodAll_nil h; rfl
    | cons t ts ih =>
      intro vs es p ht hp h
      obtain ⟨v, vs', d, ds', a, b, rfl, rfl, rfl, h1, h2⟩ := trodAll_cons h
      exact ⟨a, b, Below.trod hl (ht t (by simp)).1 (ht t (by simp)).2 h1 hb (fun x hx => hp x (by simp [hx])), ih _ _ _ (fun u hu => ht u (by simp [hu])) (fun x hx => hp x (by simp [hx])) h2, rfl⟩
  have hall : ∀ t ∈ f.params.toList, P.readableRec t = true ∧ t < P.types.size := by
    intro t ht
    have := List.all_eq_true.1 hread t ht
    simpa [Nat.blt_eq] using this
  have hA' := hstay _ _ _ _ hall (fun x hx => hlt x (by simp [hx])) hA
  have hfz : ∀ b off, b < W.heap.size → W'.frozen? ⟨b, off, none⟩ = W.frozen? ⟨b, off, none⟩ := by
    intro b off h
    unfold World.frozen?
    simp only [hb.block b h]
  have hold : ∀ p ∈ pa ++ [], (fun b => decide (b < W.heap.size)) p.block = true := fun p hp => by simpa using hlt p hp
  have hkeep : W.keptBut W' (fun _ => False) := by
    refine ⟨hb.os, hb.output, fun i hi => ?_⟩
    rw [hb.block i hi]
    split <;> simp_all
  refine ⟨ds, [], pa ++ [], [], pa, [], hW0, hres _ _ _, by rw [hargs]; exact hA', by rw [hvn, hvars]; rfl, World.keptBut_mono (fun p hp => hp.elim) hkeep, fun _ => ?_⟩
  have hA2 : DataW.TrodAll enc P W' 0 (fun _ => true) true f.params.toList args.toList ds pa := by
    have hstay2 : ∀ (ts : List TypeId) (vs : List Value) (es : List (DataW H)) (p : List MemPlace), (∀ t ∈ ts, P.readableRec t = true ∧ t < P.types.size) → (∀ x ∈ p, x.block < W.heap.size) → DataW.TrodAll enc P W 0 (fun _ => true) true ts vs es p →
        DataW.TrodAll enc P W' 0 (fun _ => true) true ts vs es p := by
      intro ts
      induction ts with
      | nil => intro vs es p _ _ h; obtain ⟨rfl, rfl, rfl⟩ := trodAll_nil h; rfl
      | cons t ts ih =>
        intro vs es p ht hp h
        obtain ⟨v, vs', d, ds', a, b, rfl, rfl, rfl, h1, h2⟩ := trodAll_cons h
        exact ⟨a, b, WideElems.Trod_stays hl (ht t (by simp)).1 (ht t (by simp)).2 h1 (fun x hx => hb.same (hp x (by simp [hx]))) (fun x hx => rfl), ih _ _ _ (fun u hu => ht u (by simp [hu])) (fun x hx => hp x (by simp [hx])) h2, rfl⟩
    exact hstay2 _ _ _ _ hall (fun x hx => hlt x (by simp [hx])) hA
  refine ⟨hok, (s.fn H (ds ++ [])).results ++ (s.fn H (ds ++ [])).args, (s.fn H (ds ++ [])).vars, ([] ++ pa) ++ [], ⟨[] ++ pa, [], trodAll_append (by rw [hargs]; exact hA2) (hres _ _ _), by rw [hvn, hvars]; rfl, rfl, ?_, ?_⟩, ?_⟩
  · intro b off hp
    have hp' : MemPlace.cell b off ∈ pa ++ [] := by simpa using hp
    rw [hfz b off (hlt _ hp')]
    exact hz b off (by simpa using hp)
  · intro ha
    have := hn ha
    simpa using this
  · intro p hp _
    simpa using hp
end
end Go.Sl
