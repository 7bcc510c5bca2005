import Derived.Test.YtdpffbhgkldphaaDoorPlm
set_option linter.unusedSimpArgs false
set_option linter.unusedVariables false
namespace Go.Sl.Pu
open Go.Sl Go.Sl.M
theorem ints_eq (a b : List Int) (hn : a.length ≤ 9000000000) : rolodexref04_Ints a b = some (decide (a = b)) := by
  unfold rolodexref04_Ints
  by_cases hl : a.length = b.length
  · rw [if_f (by simp [hl])]
    have h := eqscan (f := fun s => rolodexref04_Ints_L1 a b s) a b hl hn (fun i h1 h2 => by
      simp only [rolodexref04_Ints_L1]
      rw [if_t (by simp; omega), bind_some' (lget_at rfl h1), bind_some' (lget_at rfl h2), w64_eq (by omega)]
      by_cases e : a[i] = b[i]
      · rw [if_f (by simp [e]), if_pos e]
      · rw [if_t (by simp [e]), if_neg e]) (by
      simp only [rolodexref04_Ints_L1]
      rw [if_f (by simp)])
    rw [bind_some' h]
    by_cases e : a = b
    · rw [if_pos e]; simp [e]
    · rw [if_neg e]; simp [e]
  · rw [if_t (by simp; omega)]
    have : a ≠ b := fun e => hl (by rw [e])
    simp [this]
theorem awake04 : rolodexlaw04_awake = some true := by
  have h3 := chains_eq (k := 3) (by decide)
  have h4 := size_eq (k := 3) (by decide)
  have h5 := digits_eq (k := 2) (by decide) (Vector.replicate 32 (0#8))
  have h6 := digl_len (k := 2) (by decide) (Vector.replicate 32 (0#8))
  unfold rolodexlaw04_awake
  refine (bind_some' (o := lmots_Chains 3) h3).trans ?_
  rw [if_t (by decide)]
  rw [show (Option.bind (lmots_Size 3) fun r2 => some (decide (r2 = (2180 : Int)))) = some true from bind_some' (o := lmots_Size 3) h4, Option.bind_some, if_t rfl]
  rw [show (Option.bind (lmots_Digits 2 (Vector.replicate 32 (0#8))) fun r3 => some (decide ((r3.length : Int) = (133 : Int)))) = some (decide (((digl 2 (Vector.replicate 32 (0#8))).length : Int) = 133)) from bind_some' (o := lmots_Digits 2 (Vector.replicate 32 (0#8))) h5, h6]
  rfl
theorem lmotsForms (kind : Int) (h : T_api_Hash) : rolodexlaw04_LmotsForms kind h = some true := by
  unfold rolodexlaw04_LmotsForms
  rw [bind_some' awake04, if_t rfl]
  by_cases hk : 1 ≤ kind ∧ kind ≤ 4
  · obtain ⟨k, rfl, hkk⟩ := kind_of hk
    clear hk; have hk := hkk
    have hl := digl_len hk h
    have hc : chainsN k ≤ 265 := by rcases hk with rfl | rfl | rfl | rfl <;> simp [chainsN]
    rw [bind_some' (chains_eq hk), bind_some' (rchains_eq hk), Option.bind_some, if_t (by simp), bind_some' (size_eq hk), bind_some' (rsize_eq hk), Option.bind_some, if_t (by simp), bind_some' (digits_eq hk h), bind_some' (rdigits_eq hk h), bind_some' (ints_eq _ _ (by omega))]
    simp
  · rw [bind_some' (chains_none hk), bind_some' (rchains_none hk), Option.bind_some, if_t (by simp), bind_some' (size_none hk), bind_some' (rsize_none hk), Option.bind_some, if_t (by simp), bind_some' (digits_none hk h), bind_some' (rdigits_none hk h), bind_some' (ints_eq _ _ (by simp))]
    simp
/-! ## The check sum falls where the digits rise -/
/-- What digits stand for. -/
def digval (bits : Nat) : List Int → Nat
  | [] => 0
  | d :: r => d.toNat * 2 ^ (bits * r.length) + digval bits r
theorem digval_mono (bits : Nat) : ∀ (x y : List Int), x.length = y.length → (∀ i (h1 : i < x.length) (h2 : i < y.length), y[i] ≤ x[i]) → digval bits y ≤ digval bits x
  | [], [], _, _ => Nat.le_refl _
  | a :: x, b :: y, hl, h => by
    have h0 := h 0 (by simp) (by simp)
    simp only [List.getElem_cons_zero] at h0
    simp only [List.length_cons, Nat.add_right_cancel_iff] at hl
    have hr := digval_mono bits x y hl fun i h1 h2 => by
      have := h (i + 1) (by simp; omega) (by simp; omega)
      simpa using this
    simp only [digval, hl]
    have : b.toNat * 2 ^ (bits * y.length) ≤ a.toNat * 2 ^ (bits * y.length) := Nat.mul_le_mul_right _ (by omega)
    omega
theorem csum_lt {bits : Nat} : ∀ (x y : List Int), x.length = y.length → (∀ d ∈ x, 0 ≤ d ∧ d < (2 ^ bits : Nat)) → (∀ d ∈ y, 0 ≤ d ∧ d < (2 ^ bits : Nat)) → (∀ i (h1 : i < x.length) (h2 : i < y.length), y[i] ≤ x[i]) →
    (x.map fun d => (2 ^ bits - 1 : Nat) - d.toNat).sum ≤ (y.map fun d => (2 ^ bits - 1 : Nat) - d.toNat).sum ∧ (x ≠ y → (x.map fun d => (2 ^ bits - 1 : Nat) - d.toNat).sum < (y.map fun d => (2 ^ bits - 1 : Nat) - d.toNat).sum)
  | [], [], _, _, _, _ => ⟨Nat.le_refl _, fun h => absurd rfl h⟩
  | a :: x, b :: y, hl, hx, hy, h => by
    have h0 := h 0 (by simp) (by simp)
    simp only [List.getElem_cons_zero] at h0
    simp only [List.length_cons, Nat.add_right_cancel_iff] at hl
    obtain ⟨h1, h2⟩ := csum_lt x y hl (fun d hd => hx d (by simp [hd])) (fun d hd => hy d (by simp [hd])) fun i h1 h2 => by
      have := h (i + 1) (by simp; omega) (by simp; omega)
      simpa using this
    have ha := hx a (by simp)
    have hb := hy b (by simp)
    simp only [List.map_cons, List.sum_cons]
    refine ⟨by omega, fun hne => ?_⟩
    by_cases e : a = b
    · have hxy : x ≠ y := fun e2 => hne (by rw [e, e2])
      have := h2 hxy
      omega
    · omega
theorem digs_inj {k : Nat} (hk : IsKind k) : ∀ (a b : List (BitVec 8)), a.length = b.length → digs (bitsN k) a = digs (bitsN k) b → a = b
  | [], [], _, _ => rfl
  | c :: a, e :: b, hl, h => by
    have h' : dgs (bitsN k) c ++ digs (bitsN k) a = dgs (bitsN k) e ++ digs (bitsN k) b := h
    obtain ⟨h1, h2⟩ := List.append_inj h' (by rw [dgs_len, dgs_len])
    have hce : c = e := by
      apply BitVec.eq_of_toNat_eq
      have hc := c.isLt
      have he := e.isLt
      have g : ∀ j, j < 8 / bitsN k → dg (bitsN k) c.toNat j = dg (bitsN k) e.toNat j := by
        intro j hj
        have := congrArg (fun l : List Int => l[j]?) h1
        simp only [dgs, List.getElem?_map, List.getElem?_range hj, Option.map_some, Option.some.injEq] at this
        omega
      rcases hk with rfl | rfl | rfl | rfl
      · have g0 := g 0 (by decide); have g1 := g 1 (by decide); have g2 := g 2 (by decide); have g3 := g 3 (by decide)
        have g4 := g 4 (by decide); have g5 := g 5 (by decide); have g6 := g 6 (by decide); have g7 := g 7 (by decide)
        simp [dg, bitsN] at g0 g1 g2 g3 g4 g5 g6 g7
        omega
      · have g0 := g 0 (by decide); have g1 := g 1 (by decide); have g2 := g 2 (by decide); have g3 := g 3 (by decide)
        simp [dg, bitsN] at g0 g1 g2 g3
        omega
      · have g0 := g 0 (by decide); have g1 := g 1 (by decide)
        simp [dg, bitsN] at g0 g1
        omega
      · have g0 := g 0 (by decide)
        simp [dg, bitsN] at g0
        omega
    rw [hce, digs_inj hk a b (by simpa using hl) h2]
theorem digval_append (bits : Nat) : ∀ (a b : List Int), digval bits (a ++ b) = digval bits a * 2 ^ (bits * b.length) + digval bits b
  | [], b => by simp [digval]
  | d :: a, b => by
    rw [List.cons_append, digval, digval, digval_append bits a b, List.length_append, Nat.mul_add, Nat.pow_add, Nat.add_mul]
    rw [Nat.mul_assoc, Nat.add_assoc]
theorem digval_lt (bits : Nat) : ∀ (a : List Int), (∀ d ∈ a, 0 ≤ d ∧ d < (2 ^ bits : Nat)) → digval bits a < 2 ^ (bits * a.length)
  | [], _ => by simp [digval]
  | d :: a, h => by
    have h0 := h d (by simp)
    have hr := digval_lt bits a fun d hd => h d (by simp [hd])
    rw [digval, List.length_cons, Nat.mul_succ, Nat.pow_add]
    have h1 : d.toNat + 1 ≤ 2 ^ bits := by omega
    have h2 : (d.toNat + 1) * 2 ^ (bits * a.length) ≤ 2 ^ bits * 2 ^ (bits * a.length) := Nat.mul_le_mul_right _ h1
    rw [Nat.add_mul, Nat.one_mul] at h2
    rw [Nat.mul_comm (2 ^ (bits * a.length))]
    omega
theorem digval_take (bits : Nat) (l : List Int) (n : Nat) (h : ∀ d ∈ l, 0 ≤ d ∧ d < (2 ^ bits : Nat)) : digval bits (l.take n) = digval bits l / 2 ^ (bits * (l.length - n)) := by
  have e := digval_append bits (l.take n) (l.drop n)
  rw [List.take_append_drop, List.length_drop] at e
  have hl := digval_lt bits (l.drop n) fun d hd => h d (List.mem_of_mem_drop hd)
  rw [List.length_drop] at hl
  rw [e, Nat.mul_comm, Nat.mul_add_div (Nat.two_pow_pos _), Nat.div_eq_of_lt hl, Nat.add_zero]
theorem dgs_val {k : Nat} (hk : IsKind k) (c : BitVec 8) : digval (bitsN k) (dgs (bitsN k) c) = c.toNat := by
  have h1 : ∀ c : Fin 256, digval 1 (dgs 1 (BitVec.ofFin c)) = c.val := by decide +kernel
  have h2 : ∀ c : Fin 256, digval 2 (dgs 2 (BitVec.ofFin c)) = c.val := by decide +kernel
  have h3 : ∀ c : Fin 256, digval 4 (dgs 4 (BitVec.ofFin c)) = c.val := by decide +kernel
  have h4 : ∀ c : Fin 256, digval 8 (dgs 8 (BitVec.ofFin c)) = c.val := by decide +kernel
  rcases hk with rfl | rfl | rfl | rfl
  · exact h1 c.toFin
  · exact h2 c.toFin
  · exact h3 c.toFin
  · exact h4 c.toFin
/-- The sum's digits stand for it. -/
theorem csval {k : Nat} (hk : IsKind k) (S : Nat) (hS2 : S * 2 ^ shiftN k < 65536) :
    digval (bitsN k) ((digs (bitsN k) [BitVec.ofNat 8 (S * 2 ^ shiftN k / 256), BitVec.ofNat 8 (S * 2 ^ shiftN k)]).take (chainsN k - 32 * (8 / bitsN k))) = S := by
  rw [digval_take _ _ _ fun d hd => digs_mem hd, digs_len]
  have e : digs (bitsN k) [BitVec.ofNat 8 (S * 2 ^ shiftN k / 256), BitVec.ofNat 8 (S * 2 ^ shiftN k)] = dgs (bitsN k) (BitVec.ofNat 8 (S * 2 ^ shiftN k / 256)) ++ dgs (bitsN k) (BitVec.ofNat 8 (S * 2 ^ shiftN k)) := by simp [digs]
  rw [e, digval_append, dgs_val hk, dgs_val hk, dgs_len]
  have e8 : bitsN k * (8 / bitsN k) = 8 := by rcases hk with rfl | rfl | rfl | rfl <;> rfl
  have es : bitsN k * (2 * (8 / bitsN k) - (chainsN k - 32 * (8 / bitsN k))) = shiftN k := by rcases hk with rfl | rfl | rfl | rfl <;> rfl
  rw [e8]
  show _ / 2 ^ (bitsN k * (2 * (8 / bitsN k) - (chainsN k - 32 * (8 / bitsN k)))) = S
  rw [es, BitVec.toNat_ofNat, BitVec.toNat_ofNat]
  have : S * 2 ^ shiftN k / 256 % 2 ^ 8 * 2 ^ 8 + S * 2 ^ shiftN k % 2 ^ 8 = S * 2 ^ shiftN k := by
    generalize S * 2 ^ shiftN k = z at *
    omega
  rw [this, Nat.mul_div_cancel _ (Nat.two_pow_pos _)]
theorem digl_split {k : Nat} (hk : IsKind k) (h : T_api_Hash) : digl k h = digs (bitsN k) h.toList ++ (digs (bitsN k) (csb k h.toList)).take (chainsN k - 32 * (8 / bitsN k)) := by
  unfold digl
  have e : digs (bitsN k) (h.toList ++ csb k h.toList) = digs (bitsN k) h.toList ++ digs (bitsN k) (csb k h.toList) := by simp [digs]
  have hl : (digs (bitsN k) h.toList).length = 32 * (8 / bitsN k) := by rw [digs_len, Vector.length_toList]
  rw [e, List.take_append, hl, List.take_of_length_le]
  rw [hl]; rcases hk with rfl | rfl | rfl | rfl <;> simp [bitsN, chainsN]
/-- Some digit of the one is less than the other's. -/
theorem some_less {k : Nat} (hk : IsKind k) (a b : T_api_Hash) (hne : a ≠ b) : ∃ i, ∃ h1 : i < (digl k a).length, ∃ h2 : i < (digl k b).length, (digl k a)[i] < (digl k b)[i] := by
  apply Decidable.byContradiction
  intro hc
  have hge : ∀ i (h1 : i < (digl k a).length) (h2 : i < (digl k b).length), (digl k b)[i] ≤ (digl k a)[i] := by
    intro i h1 h2
    apply Decidable.byContradiction
    intro hn
    exact hc ⟨i, h1, h2, by omega⟩
  have la := digl_len hk a
  have lb := digl_len hk b
  have ha := digl_split hk a
  have hb := digl_split hk b
  have hlA : (digs (bitsN k) a.toList).length = 32 * (8 / bitsN k) := by rw [digs_len, Vector.length_toList]
  have hlB : (digs (bitsN k) b.toList).length = 32 * (8 / bitsN k) := by rw [digs_len, Vector.length_toList]
  have hcs : ∀ h : T_api_Hash, ((digs (bitsN k) (csb k h.toList)).take (chainsN k - 32 * (8 / bitsN k))).length = chainsN k - 32 * (8 / bitsN k) := by
    intro h
    rw [List.length_take, digs_len, csb_len]
    rcases hk with rfl | rfl | rfl | rfl <;> simp [bitsN, chainsN]
  have hN : digs (bitsN k) a.toList ≠ digs (bitsN k) b.toList := fun e => hne (Vector.toList_inj.1 (digs_inj hk _ _ (by simp) e))
  have h1 := (csum_lt (bits := bitsN k) (digs (bitsN k) a.toList) (digs (bitsN k) b.toList) (by rw [hlA, hlB]) (fun d hd => digs_mem hd) (fun d hd => digs_mem hd) (fun i h1 h2 => by
    have := hge i (by rw [ha, List.length_append]; omega) (by rw [hb, List.length_append]; omega)
    simp only [ha, hb] at this
    rwa [List.getElem_append_left h1, List.getElem_append_left h2] at this)).2 hN
  have h2 := digval_mono (bitsN k) ((digs (bitsN k) (csb k a.toList)).take (chainsN k - 32 * (8 / bitsN k))) ((digs (bitsN k) (csb k b.toList)).take (chainsN k - 32 * (8 / bitsN k))) (by rw [hcs, hcs]) (fun i h1 h2 => by
    have := hge (32 * (8 / bitsN k) + i) (by rw [ha, List.length_append]; omega) (by rw [hb, List.length_append]; omega)
    simp only [ha, hb] at this
    rw [List.getElem_append_right (by omega), List.getElem_append_right (by omega)] at this
    simpa [hlA, hlB] using this)
  have va := csval hk (csum (bitsN k) a.toList) (shl_small hk a)
  have vb := csval hk (csum (bitsN k) b.toList) (shl_small hk b)
  unfold csb at h2
  rw [va, vb] at h2
  have h3 : csum (bitsN k) a.toList < csum (bitsN k) b.toList := h1
  omega
def anyLt (x y : List Int) : Bool := (x.zip y).any fun p => decide (p.1 < p.2)
theorem anyLt_iff (x y : List Int) : anyLt x y = true ↔ ∃ i, ∃ h1 : i < x.length, ∃ h2 : i < y.length, x[i] < y[i] := by
  unfold anyLt
  rw [List.any_eq_true]
  constructor
  · rintro ⟨p, hp, h⟩
    obtain ⟨i, hi, rfl⟩ := List.mem_iff_getElem.1 hp
    rw [List.length_zip] at hi
    exact ⟨i, by omega, by omega, by simpa using h⟩
  · rintro ⟨i, h1, h2, h⟩
    exact ⟨(x.zip y)[i]'(by rw [List.length_zip]; omega), List.getElem_mem _, by simpa using h⟩
theorem lessLoop (x y : List Int) (hl : x.length = y.length) (hn : x.length ≤ 9000000000) : loopS (fun (s : Bool × Bool × Int) => rolodexlaw04_LmotsLess_L1 x y s.1 s.2.1 s.2.2) FU (false, false, (0 : Int)) = some (anyLt x y, anyLt y x, (x.length : Int)) := by
  have h := loopS_cnt (f := fun (s : Bool × Bool × Int) => rolodexlaw04_LmotsLess_L1 x y s.1 s.2.1 s.2.2) (fun i (_ : Unit) => (((x.zip y).take i).any fun p => decide (p.1 < p.2), ((y.zip x).take i).any fun p => decide (p.1 < p.2), (i : Int))) (fun _ s => s) 0 x.length (fun i s h1 h2 => by
    have hiy : i < y.length := by omega
    simp only [rolodexlaw04_LmotsLess_L1]
    have z1 : i < (x.zip y).length := by rw [List.length_zip]; omega
    have z2 : i < (y.zip x).length := by rw [List.length_zip]; omega
    rw [List.take_succ_eq_append_getElem z1, List.take_succ_eq_append_getElem z2, List.any_append, List.any_append]
    simp only [List.any_cons, List.any_nil, Bool.or_false, List.getElem_zip]
    rw [if_t (by simp; omega), Option.bind_some, if_t (by simp; omega), bind_some' (lget_at rfl h2), bind_some' (lget_at rfl hiy), bind_some' (lget_at rfl h2), bind_some' (lget_at rfl hiy), orE, orE, Option.bind_some, Option.bind_some, w64_eq (by omega)]
    rfl) (fun s => by
    simp only [rolodexlaw04_LmotsLess_L1]
    rw [if_f (by simp), Option.bind_some, if_f (by simp)]) FU () (by omega) (fu_lt (by omega))
  have t1 : (x.zip y).take x.length = x.zip y := List.take_of_length_le (by rw [List.length_zip]; omega)
  have t2 : (y.zip x).take x.length = y.zip x := List.take_of_length_le (by rw [List.length_zip]; omega)
  rw [t1, t2] at h
  exact h
theorem lmotsLess (kind : BitVec 8) (a b : T_api_Hash) : rolodexlaw04_LmotsLess kind a b = some true := by
  obtain ⟨k, hk, hkk⟩ : ∃ k : Nat, w64 ((1 : Int) + ((kind % (4#8)).toNat : Int)) = (k : Int) ∧ IsKind k := by
    refine ⟨1 + (kind % 4#8).toNat, ?_, ?_⟩
    · have : (kind % 4#8).toNat < 4 := by rw [BitVec.toNat_umod]; exact Nat.mod_lt _ (by decide)
      rw [w64_id (by omega) (by omega)]; omega
    · have : (kind % 4#8).toNat < 4 := by rw [BitVec.toNat_umod]; exact Nat.mod_lt _ (by decide)
      unfold IsKind; omega
  have la := digl_len hkk a
  have lb := digl_len hkk b
  have hc : chainsN k ≤ 265 := by rcases hkk with rfl | rfl | rfl | rfl <;> simp [chainsN]
  unfold rolodexlaw04_LmotsLess
  rw [Option.bind_some, hk, bind_some' (digits_eq hkk a), bind_some' (digits_eq hkk b), bind_some' (lessLoop _ _ (by rw [la, lb]) (by omega)), bind_some' awake04, if_t rfl, Option.bind_some, if_t (by simp [la, lb])]
  have key : ∀ a b : T_api_Hash, anyLt (digl k a) (digl k b) = !decide (a = b) := by
    intro a b
    by_cases e : a = b
    · subst e
      have : anyLt (digl k a) (digl k a) = false := by
        cases h : anyLt (digl k a) (digl k a) with
        | false => rfl
        | true => obtain ⟨i, _, _, h⟩ := (anyLt_iff _ _).1 h; omega
      rw [this]; simp
    · rw [(anyLt_iff _ _).2 (some_less hkk a b e)]; simp [e]
  simp only [key a b, key b a]
  have e : (!decide (b = a)) = (!decide (a = b)) := by
    exact congrArg (fun b => !b) (decide_eq_decide.2 ⟨fun h => h.symm, fun h => h.symm⟩)
  rw [e]
  simp
end Go.Sl.Pu
