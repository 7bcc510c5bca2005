import Derived.Test.YtodeiommhponnaaDoorRep
set_option linter.unusedSimpArgs false
set_option linter.unusedVariables false
namespace Go.Sl
/-! ## Integers -/
theorem w64_wrap (n : Int) : IntKind.i64.wrap n = w64 n := IntKind.wrap_i64 n
theorem wrap_un {k : IntKind} {w : Nat} (hk : k.bits = w) (hs : k.signed = false) (n : Int) : k.wrap n = ((BitVec.ofInt w n).toNat : Int) := by
  simp only [IntKind.wrap, hs, Bool.false_and, Bool.false_eq_true, if_false, BitVec.toNat_ofInt, hk]
  rw [Int.toNat_of_nonneg (Int.emod_nonneg _ (by have : (0 : Int) < 2 ^ w := Int.pow_pos (by decide); exact Int.ne_of_gt this))]
  norm_cast
theorem i64_p {x : Int} {m : Mem} {v : Value} : (i64.slot x).p m v ↔ v = .int .i64 x := by simp [Rep.slot, Rep.is, i64]
theorem i64_w {n : Int} {m : Mem} : (i64.slot (w64 n)).p m (.int .i64 (IntKind.i64.wrap n)) := i64_p.2 (by rw [w64_wrap])
theorem un_p {k : IntKind} {w : Nat} {x : BitVec w} {m : Mem} {v : Value} : ((un k w).slot x).p m v ↔ v = .int k (x.toNat : Int) := by simp [Rep.slot, Rep.is, un]
theorem bl_p {x : Bool} {m : Mem} {v : Value} : (bl.slot x).p m v ↔ v = .bool x := by simp [Rep.slot, Rep.is, bl]

section
variable {c : Ctx} {Γ : Env} {H H' : List Ent} {d : Option Tmp} {ty : TypeId} {pos : String} {aft : Array Edge} {g : Option (Nat × Bool)}
theorem has_i64 {n : Int} : Has Γ (.const (.int .i64 n)) (i64.slot n) := fun _ _ _ => i64_p.2 rfl
theorem has_un {k : IntKind} {w : Nat} {n : Int} {x : BitVec w} (h : n = (x.toNat : Int)) : Has Γ (.const (.int k n)) ((un k w).slot x) := fun _ _ _ => un_p.2 (by rw [← h]; rfl)
theorem has_bl {b : Bool} : Has Γ (.const (.bool b)) (bl.slot b) := fun _ _ _ => bl_p.2 rfl
theorem has_val {v : Value} : Has Γ (.const v) (val v) := fun _ _ _ => rfl
theorem has_func {f : FuncId} : Has Γ (.func f) (val (.func (.func f) #[] #[])) := fun _ _ _ => rfl
theorem has_nilp {α : Type} {R : Rep α} : Has Γ (.const (.pointer none)) ((ptr R).slot none) := fun _ _ _ => rfl
theorem pj_of {o : Oper} {s : Slot} (h : ∀ m hs a w, Good m hs w → c.G.p m → Sat H m hs → OpdOK o Γ m a → ∃ v, (execOp a.eval o).run c.P w = .ok (.value v) w ∧ s.p m v) : PJ c o Γ H s := by
  intro m hs a w hg hG hsat ho
  obtain ⟨v, e, hv⟩ := h m hs a w hg hG hsat ho
  rw [e]
  exact ⟨m, hg, hv, Frm.refl _ _ _⟩
/-- The slot of an outcome may be said otherwise. -/
theorem PJ.imp {o : Oper} {s s' : Slot} (h : PJ c o Γ H s) (k : ∀ m v, s.p m v → s'.p m v) : PJ c o Γ H s' := by
  intro m hs a w hg hG hsat ho
  exact (h m hs a w hg hG hsat ho).mono fun v w' ⟨m', hg', hv, hf⟩ => ⟨m', hg', k _ _ hv, hf⟩
theorem pj_move {x : Operand} {s : Slot} (hx : Has Γ x s) : PJ c ⟨d, .move x, ty, pos, aft, g⟩ Γ H s :=
  pj_of fun m hs a w _ _ _ ho => ⟨_, rfl, hx m a (ho x (by simp [Op.operands]))⟩
theorem pj_assign {x : Operand} {s : Slot} (hx : Has Γ x s) : PJ c ⟨d, .assign x, ty, pos, aft, g⟩ Γ H s :=
  pj_of fun m hs a w _ _ _ ho => ⟨_, rfl, hx m a (ho x (by simp [Op.operands]))⟩
theorem pj_pick {x y z : Operand} {b : Bool} {s t : Slot} (hx : Has Γ x (bl.slot b)) (hy : b = true → Has Γ y s) (hz : b = false → Has Γ z s) :
    PJ c ⟨d, .pick x y z, ty, pos, aft, g⟩ Γ H s := by
  refine pj_of fun m hs a w _ _ _ ho => ?_
  have e := bl_p.1 (hx m a (ho x (by simp [Op.operands])))
  cases b with
  | true => exact ⟨a.eval y, by simp [execOp, e, asBool], hy rfl m a (ho y (by simp [Op.operands]))⟩
  | false => exact ⟨a.eval z, by simp [execOp, e, asBool], hz rfl m a (ho z (by simp [Op.operands]))⟩
theorem pj_bin {op : BinOp} {t yt : TypeId} {x y : Operand} {s1 s2 s : Slot} (hx : Has Γ x s1) (hy : Has Γ y s2)
    (h : ∀ m u v w, s1.p m u → s2.p m v → ∃ r, (do eqGuard op t x y u v; binOp op t u v : Sem Value).run c.P w = .ok r w ∧ s.p m r) :
    PJ c ⟨d, .binOp op t x y yt, ty, pos, aft, g⟩ Γ H s := by
  refine pj_of fun m hs a w _ _ _ ho => ?_
  obtain ⟨r, e, hr⟩ := h m _ _ w (hx m a (ho x (by simp [Op.operands]))) (hy m a (ho y (by simp [Op.operands])))
  refine ⟨r, ?_, hr⟩
  simp only [execOp]
  rw [Sem.run_bind, e]
  rfl
/-! ### int -/
section
variable {t yt : TypeId} {x y : Operand} {p q : Int} (hx : Has Γ x (i64.slot p)) (hy : Has Γ y (i64.slot q))
include hx hy
theorem pj_iadd : PJ c ⟨d, .binOp .add t x y yt, ty, pos, aft, g⟩ Γ H (i64.slot (w64 (p + q))) :=
  pj_bin hx hy fun m u v w hu hv => by cases i64_p.1 hu; cases i64_p.1 hv; exact ⟨_, by simp [eqGuard_add, binOp_add, Op.intArith], i64_w⟩
theorem pj_isub : PJ c ⟨d, .binOp .sub t x y yt, ty, pos, aft, g⟩ Γ H (i64.slot (w64 (p - q))) :=
  pj_bin hx hy fun m u v w hu hv => by cases i64_p.1 hu; cases i64_p.1 hv; exact ⟨_, by simp [eqGuard_sub, binOp_sub, Op.intArith], i64_w⟩
theorem pj_imul : PJ c ⟨d, .binOp .mul t x y yt, ty, pos, aft, g⟩ Γ H (i64.slot (w64 (p * q))) :=
  pj_bin hx hy fun m u v w hu hv => by cases i64_p.1 hu; cases i64_p.1 hv; exact ⟨_, by simp [eqGuard_mul, binOp_mul, Op.intArith], i64_w⟩
theorem pj_iquo (hq : q ≠ 0) : PJ c ⟨d, .binOp .quo t x y yt, ty, pos, aft, g⟩ Γ H (i64.slot (w64 (p.tdiv q))) :=
  pj_bin hx hy fun m u v w hu hv => by cases i64_p.1 hu; cases i64_p.1 hv; exact ⟨_, by simp [eqGuard_quo, binOp_quo, Op.intDiv, hq], i64_w⟩
theorem pj_irem (hq : q ≠ 0) : PJ c ⟨d, .binOp .rem t x y yt, ty, pos, aft, g⟩ Γ H (i64.slot (p.tmod q)) :=
  pj_bin hx hy fun m u v w hu hv => by cases i64_p.1 hu; cases i64_p.1 hv; exact ⟨_, by simp [eqGuard_rem, binOp_rem, Op.intDiv, hq], i64_p.2 rfl⟩
theorem pj_ilss : PJ c ⟨d, .binOp .lss t x y yt, ty, pos, aft, g⟩ Γ H (bl.slot (decide (p < q))) :=
  pj_bin hx hy fun m u v w hu hv => by cases i64_p.1 hu; cases i64_p.1 hv; exact ⟨_, by simp [eqGuard_lss, binOp_lss], bl_p.2 rfl⟩
theorem pj_ileq : PJ c ⟨d, .binOp .leq t x y yt, ty, pos, aft, g⟩ Γ H (bl.slot (decide (p ≤ q))) :=
  pj_bin hx hy fun m u v w hu hv => by cases i64_p.1 hu; cases i64_p.1 hv; exact ⟨_, by simp [eqGuard_leq, binOp_leq], bl_p.2 rfl⟩
theorem pj_igtr : PJ c ⟨d, .binOp .gtr t x y yt, ty, pos, aft, g⟩ Γ H (bl.slot (decide (q < p))) :=
  pj_bin hx hy fun m u v w hu hv => by cases i64_p.1 hu; cases i64_p.1 hv; exact ⟨_, by simp [eqGuard_gtr, binOp_gtr], bl_p.2 rfl⟩
theorem pj_igeq : PJ c ⟨d, .binOp .geq t x y yt, ty, pos, aft, g⟩ Γ H (bl.slot (decide (q ≤ p))) :=
  pj_bin hx hy fun m u v w hu hv => by cases i64_p.1 hu; cases i64_p.1 hv; exact ⟨_, by simp [eqGuard_geq, binOp_geq], bl_p.2 rfl⟩
theorem pj_ieql : PJ c ⟨d, .binOp .eql t x y yt, ty, pos, aft, g⟩ Γ H (bl.slot (decide (p = q))) :=
  pj_bin hx hy fun m u v w hu hv => by cases i64_p.1 hu; cases i64_p.1 hv; exact ⟨_, by simp [eqGuard_at_int, binOp_eql]; rfl, bl_p.2 (by congr 1)⟩
theorem pj_ineq : PJ c ⟨d, .binOp .neq t x y yt, ty, pos, aft, g⟩ Γ H (bl.slot (!decide (p = q))) :=
  pj_bin hx hy fun m u v w hu hv => by cases i64_p.1 hu; cases i64_p.1 hv; exact ⟨_, by simp [eqGuard_at_int, binOp_neq]; rfl, bl_p.2 (by simp [bne]; congr 1)⟩
end
/-- A slot that holds an integer of whatever kind. -/
def IsInt (s : Slot) (n : Int) : Prop := ∀ m v, s.p m v → ∃ k, v = .int k n
theorem isInt_i64 {n : Int} : IsInt (i64.slot n) n := fun _ _ h => ⟨_, i64_p.1 h⟩
theorem isInt_un {k : IntKind} {w : Nat} {n : BitVec w} : IsInt ((un k w).slot n) (n.toNat : Int) := fun _ _ h => ⟨_, un_p.1 h⟩
theorem pj_ishr {t yt : TypeId} {x y : Operand} {p q : Int} {s : Slot} (hx : Has Γ x (i64.slot p)) (hy : Has Γ y s) (hs : IsInt s q) (hq : 0 ≤ q) :
    PJ c ⟨d, .binOp .shr t x y yt, ty, pos, aft, g⟩ Γ H (i64.slot (ishr p q)) :=
  pj_bin hx hy fun m u v w hu hv => by
    cases i64_p.1 hu; obtain ⟨k, rfl⟩ := hs m v hv
    have : ¬ q < 0 := by omega
    exact ⟨_, by simp only [Sem.run_bind, eqGuard_at_int, Sem.run_pure, Result.andThen_ok, binOp_shr, Op.shift, this, if_false]; rfl, i64_p.2 rfl⟩
/-! ### unsigned -/
set_option linter.unusedSectionVars false
section
variable {k : IntKind} {b : Nat} {t yt : TypeId} {x y : Operand} {p q : BitVec b} (hk : k.bits = b) (hs : k.signed = false) (hx : Has Γ x ((un k b).slot p)) (hy : Has Γ y ((un k b).slot q))
include hk hs hx hy
theorem pj_uadd : PJ c ⟨d, .binOp .add t x y yt, ty, pos, aft, g⟩ Γ H ((un k b).slot (p + q)) :=
  pj_bin hx hy fun m u v w hu hv => by
    cases un_p.1 hu; cases un_p.1 hv
    refine ⟨_, by simp [eqGuard_add, binOp_add, Op.intArith]; rfl, un_p.2 ?_⟩
    rw [wrap_un hk hs, ← Int.natCast_add, BitVec.ofInt_natCast, BitVec.toNat_ofNat, BitVec.toNat_add]
theorem pj_usub : PJ c ⟨d, .binOp .sub t x y yt, ty, pos, aft, g⟩ Γ H ((un k b).slot (p - q)) :=
  pj_bin hx hy fun m u v w hu hv => by
    cases un_p.1 hu; cases un_p.1 hv
    refine ⟨_, by simp [eqGuard_sub, binOp_sub, Op.intArith]; rfl, un_p.2 ?_⟩
    rw [wrap_un hk hs]; congr 3
    have e : (p.toNat : Int) - q.toNat = (p.toNat : Int) + - q.toNat := by omega
    rw [e, BitVec.ofInt_add, BitVec.ofInt_neg, BitVec.ofInt_natCast, BitVec.ofInt_natCast, BitVec.ofNat_toNat, BitVec.ofNat_toNat, BitVec.setWidth_eq, BitVec.setWidth_eq, BitVec.sub_eq_add_neg]
theorem pj_umul : PJ c ⟨d, .binOp .mul t x y yt, ty, pos, aft, g⟩ Γ H ((un k b).slot (p * q)) :=
  pj_bin hx hy fun m u v w hu hv => by
    cases un_p.1 hu; cases un_p.1 hv
    refine ⟨_, by simp [eqGuard_mul, binOp_mul, Op.intArith]; rfl, un_p.2 ?_⟩
    rw [wrap_un hk hs, ← Int.natCast_mul, BitVec.ofInt_natCast, BitVec.toNat_ofNat, BitVec.toNat_mul]
theorem pj_uquo (hq : q.toNat ≠ 0) : PJ c ⟨d, .binOp .quo t x y yt, ty, pos, aft, g⟩ Γ H ((un k b).slot (p / q)) :=
  pj_bin hx hy fun m u v w hu hv => by
    cases un_p.1 hu; cases un_p.1 hv
    have : (q.toNat : Int) ≠ 0 := by omega
    refine ⟨_, by simp only [Sem.run_bind, eqGuard_quo, Sem.run_pure, Result.andThen_ok, binOp_quo, Op.intDiv, this, if_false]; rfl, un_p.2 ?_⟩
    have : p.toNat / q.toNat < 2 ^ b := Nat.lt_of_le_of_lt (Nat.div_le_self _ _) p.isLt
    rw [wrap_un hk hs, ← Int.ofNat_tdiv, BitVec.ofInt_natCast, BitVec.toNat_ofNat, Nat.mod_eq_of_lt this, BitVec.toNat_udiv]
omit hk hs in
theorem pj_urem (hq : q.toNat ≠ 0) : PJ c ⟨d, .binOp .rem t x y yt, ty, pos, aft, g⟩ Γ H ((un k b).slot (p % q)) :=
  pj_bin hx hy fun m u v w hu hv => by
    cases un_p.1 hu; cases un_p.1 hv
    have : (q.toNat : Int) ≠ 0 := by omega
    refine ⟨_, by simp only [Sem.run_bind, eqGuard_rem, Sem.run_pure, Result.andThen_ok, binOp_rem, Op.intDiv, this, if_false]; rfl, un_p.2 ?_⟩
    rw [← Int.ofNat_tmod]; simp
theorem pj_uand : PJ c ⟨d, .binOp .and t x y yt, ty, pos, aft, g⟩ Γ H ((un k b).slot (p &&& q)) :=
  pj_bin hx hy fun m u v w hu hv => by
    cases un_p.1 hu; cases un_p.1 hv
    subst hk
    refine ⟨_, by simp only [Sem.run_bind, eqGuard_at_int, Sem.run_pure, Result.andThen_ok, binOp_and, Op.intBits]; rfl, un_p.2 ?_⟩
    rw [wrap_un rfl hs]; congr 3; simp
theorem pj_uor : PJ c ⟨d, .binOp .or t x y yt, ty, pos, aft, g⟩ Γ H ((un k b).slot (p ||| q)) :=
  pj_bin hx hy fun m u v w hu hv => by
    cases un_p.1 hu; cases un_p.1 hv
    subst hk
    refine ⟨_, by simp only [Sem.run_bind, eqGuard_at_int, Sem.run_pure, Result.andThen_ok, binOp_or, Op.intBits]; rfl, un_p.2 ?_⟩
    rw [wrap_un rfl hs]; congr 3; simp
theorem pj_uxor : PJ c ⟨d, .binOp .xor t x y yt, ty, pos, aft, g⟩ Γ H ((un k b).slot (p ^^^ q)) :=
  pj_bin hx hy fun m u v w hu hv => by
    cases un_p.1 hu; cases un_p.1 hv
    subst hk
    refine ⟨_, by simp only [Sem.run_bind, eqGuard_at_int, Sem.run_pure, Result.andThen_ok, binOp_xor, Op.intBits]; rfl, un_p.2 ?_⟩
    rw [wrap_un rfl hs]; congr 3; simp
omit hk hs
theorem pj_uneq : PJ c ⟨d, .binOp .neq t x y yt, ty, pos, aft, g⟩ Γ H (bl.slot (!decide (p = q))) :=
  pj_bin hx hy fun m u v w hu hv => by
    cases un_p.1 hu; cases un_p.1 hv
    exact ⟨_, by simp [eqGuard_at_int, binOp_neq]; rfl, bl_p.2 (by congr 1; rw [Bool.eq_iff_iff]; simp [← BitVec.toNat_inj]; omega)⟩
end
theorem pj_ushl {k : IntKind} {b : Nat} {t yt : TypeId} {x y : Operand} {p : BitVec b} {q : Int} {s : Slot} (hk : k.bits = b) (hsg : k.signed = false) (hx : Has Γ x ((un k b).slot p)) (hy : Has Γ y s) (hs : IsInt s q) (hq : 0 ≤ q) :
    PJ c ⟨d, .binOp .shl t x y yt, ty, pos, aft, g⟩ Γ H ((un k b).slot (p <<< q.toNat)) :=
  pj_bin hx hy fun m u v w hu hv => by
    cases un_p.1 hu; obtain ⟨k', rfl⟩ := hs m v hv
    have : ¬ q < 0 := by omega
    refine ⟨_, by simp only [Sem.run_bind, eqGuard_at_int, Sem.run_pure, Result.andThen_ok, binOp_shl, Op.shift, this, if_false]; rfl, un_p.2 ?_⟩
    rw [wrap_un hk hsg, hk]; congr 3
    apply BitVec.eq_of_toNat_eq
    rw [show (2 : Int) ^ min q.toNat b = ((2 ^ min q.toNat b : Nat) : Int) by simp, ← Int.natCast_mul, BitVec.ofInt_natCast, BitVec.toNat_ofNat, BitVec.toNat_shiftLeft, Nat.shiftLeft_eq]
    rcases Nat.le_total q.toNat b with h | h
    · rw [Nat.min_eq_left h]
    · rw [Nat.min_eq_right h, Nat.mul_mod_left]
      have : 2 ^ b ∣ p.toNat * 2 ^ q.toNat := Nat.dvd_mul_left_of_dvd (Nat.pow_dvd_pow 2 h) _
      exact (Nat.mod_eq_zero_of_dvd this).symm
theorem pj_ushr {k : IntKind} {b : Nat} {t yt : TypeId} {x y : Operand} {p : BitVec b} {q : Int} {s : Slot} (hk : k.bits = b) (hx : Has Γ x ((un k b).slot p)) (hy : Has Γ y s) (hs : IsInt s q) (hq : 0 ≤ q) :
    PJ c ⟨d, .binOp .shr t x y yt, ty, pos, aft, g⟩ Γ H ((un k b).slot (p >>> q.toNat)) :=
  pj_bin hx hy fun m u v w hu hv => by
    cases un_p.1 hu; obtain ⟨k', rfl⟩ := hs m v hv
    have : ¬ q < 0 := by omega
    refine ⟨_, by simp only [Sem.run_bind, eqGuard_at_int, Sem.run_pure, Result.andThen_ok, binOp_shr, Op.shift, this, if_false]; rfl, un_p.2 ?_⟩
    rw [hk]; congr 1
    rw [show (2 : Int) ^ min q.toNat b = ((2 ^ min q.toNat b : Nat) : Int) by simp, BitVec.toNat_ushiftRight, Nat.shiftRight_eq_div_pow]
    rw [Int.fdiv_eq_ediv_of_nonneg _ (Int.natCast_nonneg _)]
    rw [← Int.natCast_ediv]; congr 1
    rcases Nat.le_total q.toNat b with h | h
    · rw [Nat.min_eq_left h]
    · rw [Nat.min_eq_right h, Nat.div_eq_of_lt p.isLt, Nat.div_eq_of_lt (Nat.lt_of_lt_of_le p.isLt (Nat.pow_le_pow_right (by decide) h))]
/-! ### bool -/
theorem pj_not {x : Operand} {b : Bool} {t : TypeId} (hx : Has Γ x (bl.slot b)) : PJ c ⟨d, .unOp .not t x, ty, pos, aft, g⟩ Γ H (bl.slot (!b)) :=
  pj_of fun m hs a w _ _ _ ho => by
    have e := bl_p.1 (hx m a (ho x (by simp [Op.operands])))
    exact ⟨.bool (!b), by simp [execOp, e, Op.unary], bl_p.2 rfl⟩
/-! ### conversions -/
def intB (P : Program) (src dst : TypeId) (k : IntKind) : Bool :=
  (P.underlying src).isSome && (match P.underlying dst with | some (.int k') => k' == k | _ => false)
theorem intB_dst {P : Program} {src dst : TypeId} {k : IntKind} (h : intB P src dst k = true) : P.underlying dst = some (.int k) ∧ (P.underlying src).isSome = true := by
  simp only [intB, Bool.and_eq_true] at h
  obtain ⟨h1, h2⟩ := h
  refine ⟨?_, h1⟩
  split at h2
  · rename_i k' e; have : k' = k := by simpa using h2
    rw [e, this]
  · cases h2
theorem run_convert_k {P : Program} {src dst : TypeId} {k k' : IntKind} (h : intB P src dst k = true) (n : Int) (w : World) : (convert src dst (.int k' n)).run P w = .ok (.int k (k.wrap n)) w := by
  obtain ⟨h1, h2⟩ := intB_dst h
  obtain ⟨ds, hs⟩ := Option.isSome_iff_exists.1 h2
  simp [convert, run_underlying hs, run_underlying h1, Conv.intToInt]
theorem pj_conv {src dst : TypeId} {x : Operand} {s s' : Slot} {k : IntKind} {n : Int} (h : intB c.P src dst k = true) (hx : Has Γ x s) (hs : IsInt s n) (hs' : ∀ m, s'.p m (.int k (k.wrap n))) :
    PJ c ⟨d, .convert src dst x, ty, pos, aft, g⟩ Γ H s' :=
  pj_of fun m hs2 a w _ _ _ ho => by
    obtain ⟨k', e⟩ := hs m _ (hx m a (ho x (by simp [Op.operands])))
    exact ⟨_, by simp only [execOp, e, Sem.run_bind, run_convert_k h]; rfl, hs' m⟩
theorem pj_conv_un {src dst : TypeId} {x : Operand} {s : Slot} {n : Int} {k : IntKind} {b : Nat} (hk : k.bits = b) (hsg : k.signed = false) (h : intB c.P src dst k = true) (hx : Has Γ x s) (hs : IsInt s n) :
    PJ c ⟨d, .convert src dst x, ty, pos, aft, g⟩ Γ H ((un k b).slot (BitVec.ofInt b n)) := pj_conv h hx hs fun m => un_p.2 (by rw [wrap_un hk hsg])
/-- From one unsigned kind to another one. -/
theorem pj_conv_uu {src dst : TypeId} {x : Operand} {k k' : IntKind} {b b' : Nat} {n : BitVec b'} (hk : k.bits = b) (hsg : k.signed = false) (h : intB c.P src dst k = true) (hx : Has Γ x ((un k' b').slot n)) :
    PJ c ⟨d, .convert src dst x, ty, pos, aft, g⟩ Γ H ((un k b).slot (n.setWidth b)) := pj_conv h hx isInt_un fun m => un_p.2 (by
      rw [wrap_un hk hsg]; congr 3; apply BitVec.eq_of_toNat_eq; simp)
end
end Go.Sl
