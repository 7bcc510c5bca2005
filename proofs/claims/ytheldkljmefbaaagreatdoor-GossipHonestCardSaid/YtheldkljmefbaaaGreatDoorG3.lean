import Derived.Test.YtheldkljmefbaaaGreatDoorG2
import Derived.Orders
set_option linter.unusedSimpArgs false
set_option linter.unusedVariables false
namespace Go.Sl
theorem Qfy (n : Int) : IntKind.i64.wrap n = w64 n := IntKind.wrap_i64 n
theorem Kp {k : IntKind} {w : Nat} (hk : k.bits = w) (hs : k.signed = false) (n : Int) : k.wrap n = ((BitVec.ofInt w n).toNat : Int) := by
 simp only [IntKind.wrap, hs, Bool.false_and, Bool.false_eq_true, if_false, BitVec.toNat_ofInt, hk]
 rw [Int.toNat_of_nonneg (Int.emod_nonneg _ (by have : (0 : Int) < 2 ^ w := Int.pow_pos (by decide); exact Int.ne_of_gt this))]
 norm_cast
theorem ZE {x : Int} {m : Mem} {v : Value} : (i64.slot x).p m v ↔ v = .int .i64 x := by simp [Rep.slot, Rep.is, i64]
theorem Qbt {n : Int} {m : Mem} : (i64.slot (w64 n)).p m (.int .i64 (IntKind.i64.wrap n)) := ZE.2 (by rw [Qfy])
theorem X8 {k : IntKind} {w : Nat} {x : BitVec w} {m : Mem} {v : Value} : ((un k w).slot x).p m v ↔ v = .int k (x.toNat : Int) := by simp [Rep.slot, Rep.is, un]
theorem K2 {x : Bool} {m : Mem} {v : Value} : (bl.slot x).p m v ↔ v = .bool x := by simp [Rep.slot, Rep.is, bl]
section
variable {c : Ctx} {Γ : Env} {H H' : List Ent} {d : Option Tmp} {ty : TypeId} {pos : String} {aft : Array Edge} {g : Option (Nat × Bool)}
theorem Qe {n : Int} : Has Γ (.const (.int .i64 n)) (i64.slot n) := fun _ _ _ => ZE.2 rfl
theorem QE {k : IntKind} {w : Nat} {n : Int} {x : BitVec w} (h : n = (x.toNat : Int)) : Has Γ (.const (.int k n)) ((un k w).slot x) := fun _ _ _ => X8.2 (by rw [← h]; rfl)
theorem QU {b : Bool} : Has Γ (.const (.bool b)) (bl.slot b) := fun _ _ _ => K2.2 rfl
theorem QbT {v : Value} : Has Γ (.const v) (val v) := fun _ _ _ => rfl
theorem QaM {f : FuncId} : Has Γ (.func f) (val (.func (.func f) #[] #[])) := fun _ _ _ => rfl
theorem Bl {α : Type} {R : Rep α} : Has Γ (.const (.slice none 0 0)) ((sl R).slot []) := fun _ _ _ => ⟨none, 0, rfl, Nat.le_refl _, .inl rfl⟩
theorem Uw {α : Type} {R : Rep α} : Has Γ (.const (.pointer none)) ((ptr R).slot none) := fun _ _ _ => rfl
theorem YE {o : Oper} {s : Slot} (h : ∀ m hs a w, JM m hs w → c.G.p m → Sat H m hs → QdF o Γ m a → ∃ v, (execOp a.eval o).run c.P w = .ok (.value v) w ∧ s.p m v) : PJ c o Γ H s := by
 intro m hs a w hg hG hsat ho
 obtain ⟨v, e, hv⟩ := h m hs a w hg hG hsat ho
 rw [e]
 exact ⟨m, hg, hv, Frm.refl _ _ _⟩
theorem PJ.imp {o : Oper} {s s' : Slot} (h : PJ c o Γ H s) (k : ∀ m v, s.p m v → s'.p m v) : PJ c o Γ H s' := by
 intro m hs a w hg hG hsat ho
 exact (h m hs a w hg hG hsat ho).mono fun v w' ⟨m', hg', hv, hf⟩ => ⟨m', hg', k _ _ hv, hf⟩
theorem Qb4 {x : Operand} {s : Slot} (hx : Has Γ x s) : PJ c ⟨d, .move x, ty, pos, aft, g⟩ Γ H s :=
 YE fun m hs a w _ _ _ ho => ⟨_, rfl, hx m a (ho x (by simp [Op.operands]))⟩
theorem QaY {x : Operand} {s : Slot} (hx : Has Γ x s) : PJ c ⟨d, .assign x, ty, pos, aft, g⟩ Γ H s :=
 YE fun m hs a w _ _ _ ho => ⟨_, rfl, hx m a (ho x (by simp [Op.operands]))⟩
theorem QbZ {x y z : Operand} {b : Bool} {s t : Slot} (hx : Has Γ x (bl.slot b)) (hy : b = true → Has Γ y s) (hz : b = false → Has Γ z s) :
  PJ c ⟨d, .pick x y z, ty, pos, aft, g⟩ Γ H s := by
 refine YE fun m hs a w _ _ _ ho => ?_
 have e := K2.1 (hx m a (ho x (by simp [Op.operands])))
 cases b with
 | true => exact ⟨a.eval y, by simp [execOp, e, asBool], hy rfl m a (ho y (by simp [Op.operands]))⟩
 | false => exact ⟨a.eval z, by simp [execOp, e, asBool], hz rfl m a (ho z (by simp [Op.operands]))⟩
theorem ZU {op : BinOp} {t yt : TypeId} {x y : Operand} {s1 s2 s : Slot} (hx : Has Γ x s1) (hy : Has Γ y s2)
  (h : ∀ m u v w, s1.p m u → s2.p m v → ∃ r, (do eqGuard op t x y u v; binOp op t u v : Sem Value).run c.P w = .ok r w ∧ s.p m r) :
  PJ c ⟨d, .binOp op t x y yt, ty, pos, aft, g⟩ Γ H s := by
 refine YE fun m hs a w _ _ _ ho => ?_
 obtain ⟨r, e, hr⟩ := h m _ _ w (hx m a (ho x (by simp [Op.operands]))) (hy m a (ho y (by simp [Op.operands])))
 refine ⟨r, ?_, hr⟩
 simp only [execOp]
 rw [Sem.run_bind, e]
 rfl
section
variable {t yt : TypeId} {x y : Operand} {p q : Int} (hx : Has Γ x (i64.slot p)) (hy : Has Γ y (i64.slot q))
include hx hy
theorem QW : PJ c ⟨d, .binOp .add t x y yt, ty, pos, aft, g⟩ Γ H (i64.slot (w64 (p + q))) :=
 ZU hx hy fun m u v w hu hv => by cases ZE.1 hu; cases ZE.1 hv; exact ⟨_, by simp [eqGuard_add, binOp_add, Op.intArith], Qbt⟩
theorem JS : PJ c ⟨d, .binOp .sub t x y yt, ty, pos, aft, g⟩ Γ H (i64.slot (w64 (p - q))) :=
 ZU hx hy fun m u v w hu hv => by cases ZE.1 hu; cases ZE.1 hv; exact ⟨_, by simp [eqGuard_sub, binOp_sub, Op.intArith], Qbt⟩
theorem XJ : PJ c ⟨d, .binOp .mul t x y yt, ty, pos, aft, g⟩ Γ H (i64.slot (w64 (p * q))) :=
 ZU hx hy fun m u v w hu hv => by cases ZE.1 hu; cases ZE.1 hv; exact ⟨_, by simp [eqGuard_mul, binOp_mul, Op.intArith], Qbt⟩
theorem B3 (hq : q ≠ 0) : PJ c ⟨d, .binOp .quo t x y yt, ty, pos, aft, g⟩ Γ H (i64.slot (w64 (p.tdiv q))) :=
 ZU hx hy fun m u v w hu hv => by cases ZE.1 hu; cases ZE.1 hv; exact ⟨_, by simp [eqGuard_quo, binOp_quo, Op.intDiv, hq], Qbt⟩
theorem qn (hq : q ≠ 0) : PJ c ⟨d, .binOp .rem t x y yt, ty, pos, aft, g⟩ Γ H (i64.slot (p.tmod q)) :=
 ZU hx hy fun m u v w hu hv => by cases ZE.1 hu; cases ZE.1 hv; exact ⟨_, by simp [eqGuard_rem, binOp_rem, Op.intDiv, hq], ZE.2 rfl⟩
theorem Q7 : PJ c ⟨d, .binOp .lss t x y yt, ty, pos, aft, g⟩ Γ H (bl.slot (decide (p < q))) :=
 ZU hx hy fun m u v w hu hv => by cases ZE.1 hu; cases ZE.1 hv; exact ⟨_, by simp [eqGuard_lss, binOp_lss], K2.2 rfl⟩
theorem KS : PJ c ⟨d, .binOp .leq t x y yt, ty, pos, aft, g⟩ Γ H (bl.slot (decide (p ≤ q))) :=
 ZU hx hy fun m u v w hu hv => by cases ZE.1 hu; cases ZE.1 hv; exact ⟨_, by simp [eqGuard_leq, binOp_leq], K2.2 rfl⟩
theorem Xt : PJ c ⟨d, .binOp .gtr t x y yt, ty, pos, aft, g⟩ Γ H (bl.slot (decide (q < p))) :=
 ZU hx hy fun m u v w hu hv => by cases ZE.1 hu; cases ZE.1 hv; exact ⟨_, by simp [eqGuard_gtr, binOp_gtr], K2.2 rfl⟩
theorem XF : PJ c ⟨d, .binOp .geq t x y yt, ty, pos, aft, g⟩ Γ H (bl.slot (decide (q ≤ p))) :=
 ZU hx hy fun m u v w hu hv => by cases ZE.1 hu; cases ZE.1 hv; exact ⟨_, by simp [eqGuard_geq, binOp_geq], K2.2 rfl⟩
theorem ZJ : PJ c ⟨d, .binOp .eql t x y yt, ty, pos, aft, g⟩ Γ H (bl.slot (decide (p = q))) :=
 ZU hx hy fun m u v w hu hv => by cases ZE.1 hu; cases ZE.1 hv; exact ⟨_, by simp [eqGuard_at_int, binOp_eql]; rfl, K2.2 (by congr 1)⟩
theorem YG : PJ c ⟨d, .binOp .neq t x y yt, ty, pos, aft, g⟩ Γ H (bl.slot (!decide (p = q))) :=
 ZU hx hy fun m u v w hu hv => by cases ZE.1 hu; cases ZE.1 hv; exact ⟨_, by simp [eqGuard_at_int, binOp_neq]; rfl, K2.2 (by simp [bne]; congr 1)⟩
theorem Qg0 : PJ c ⟨d, .binOp .and t x y yt, ty, pos, aft, g⟩ Γ H (i64.slot (QfG p q)) :=
 ZU hx hy fun m u v w hu hv => by cases ZE.1 hu; cases ZE.1 hv; exact ⟨_, by simp only [Sem.run_bind, eqGuard_at_int, Sem.run_pure, Result.andThen_ok, binOp_and, Op.intBits]; rfl, Qbt⟩
theorem Qjv : PJ c ⟨d, .binOp .xor t x y yt, ty, pos, aft, g⟩ Γ H (i64.slot (Qk8 p q)) :=
 ZU hx hy fun m u v w hu hv => by cases ZE.1 hu; cases ZE.1 hv; exact ⟨_, by simp only [Sem.run_bind, eqGuard_at_int, Sem.run_pure, Result.andThen_ok, binOp_xor, Op.intBits]; rfl, Qbt⟩
end
def Ka (s : Slot) (n : Int) : Prop := ∀ m v, s.p m v → ∃ k, v = .int k n
theorem Qh {n : Int} : Ka (i64.slot n) n := fun _ _ h => ⟨_, ZE.1 h⟩
theorem JY {k : IntKind} {w : Nat} {n : BitVec w} : Ka ((un k w).slot n) (n.toNat : Int) := fun _ _ h => ⟨_, X8.1 h⟩
theorem KR {t yt : TypeId} {x y : Operand} {p q : Int} {s : Slot} (hx : Has Γ x (i64.slot p)) (hy : Has Γ y s) (hs : Ka s q) (hq : 0 ≤ q) :
  PJ c ⟨d, .binOp .shl t x y yt, ty, pos, aft, g⟩ Γ H (i64.slot (Xq p q)) :=
 ZU hx hy fun m u v w hu hv => by
  cases ZE.1 hu; obtain ⟨k, rfl⟩ := hs m v hv
  have : ¬ q < 0 := by omega
  exact ⟨_, by simp only [Sem.run_bind, eqGuard_at_int, Sem.run_pure, Result.andThen_ok, binOp_shl, Op.shift, this, if_false]; rfl, Qbt⟩
theorem Ba {t yt : TypeId} {x y : Operand} {p q : Int} {s : Slot} (hx : Has Γ x (i64.slot p)) (hy : Has Γ y s) (hs : Ka s q) (hq : 0 ≤ q) :
  PJ c ⟨d, .binOp .shr t x y yt, ty, pos, aft, g⟩ Γ H (i64.slot (UY p q)) :=
 ZU hx hy fun m u v w hu hv => by
  cases ZE.1 hu; obtain ⟨k, rfl⟩ := hs m v hv
  have : ¬ q < 0 := by omega
  exact ⟨_, by simp only [Sem.run_bind, eqGuard_at_int, Sem.run_pure, Result.andThen_ok, binOp_shr, Op.shift, this, if_false]; rfl, ZE.2 rfl⟩
set_option linter.unusedSectionVars false
section
variable {k : IntKind} {b : Nat} {t yt : TypeId} {x y : Operand} {p q : BitVec b} (hk : k.bits = b) (hs : k.signed = false) (hx : Has Γ x ((un k b).slot p)) (hy : Has Γ y ((un k b).slot q))
include hk hs hx hy
theorem Yx : PJ c ⟨d, .binOp .add t x y yt, ty, pos, aft, g⟩ Γ H ((un k b).slot (p + q)) :=
 ZU hx hy fun m u v w hu hv => by
  cases X8.1 hu; cases X8.1 hv
  refine ⟨_, by simp [eqGuard_add, binOp_add, Op.intArith]; rfl, X8.2 ?_⟩
  rw [Kp hk hs, ← Int.natCast_add, BitVec.ofInt_natCast, BitVec.toNat_ofNat, BitVec.toNat_add]
theorem Qb3 : PJ c ⟨d, .binOp .sub t x y yt, ty, pos, aft, g⟩ Γ H ((un k b).slot (p - q)) :=
 ZU hx hy fun m u v w hu hv => by
  cases X8.1 hu; cases X8.1 hv
  refine ⟨_, by simp [eqGuard_sub, binOp_sub, Op.intArith]; rfl, X8.2 ?_⟩
  rw [Kp hk hs]; congr 3
  have e : (p.toNat : Int) - q.toNat = (p.toNat : Int) + - q.toNat := by omega
  rw [e, BitVec.ofInt_add, BitVec.ofInt_neg, BitVec.ofInt_natCast, BitVec.ofInt_natCast, BitVec.ofNat_toNat, BitVec.ofNat_toNat, BitVec.setWidth_eq, BitVec.setWidth_eq, BitVec.sub_eq_add_neg]
theorem Qb7 : PJ c ⟨d, .binOp .mul t x y yt, ty, pos, aft, g⟩ Γ H ((un k b).slot (p * q)) :=
 ZU hx hy fun m u v w hu hv => by
  cases X8.1 hu; cases X8.1 hv
  refine ⟨_, by simp [eqGuard_mul, binOp_mul, Op.intArith]; rfl, X8.2 ?_⟩
  rw [Kp hk hs, ← Int.natCast_mul, BitVec.ofInt_natCast, BitVec.toNat_ofNat, BitVec.toNat_mul]
theorem Qeo (hq : q.toNat ≠ 0) : PJ c ⟨d, .binOp .quo t x y yt, ty, pos, aft, g⟩ Γ H ((un k b).slot (p / q)) :=
 ZU hx hy fun m u v w hu hv => by
  cases X8.1 hu; cases X8.1 hv
  have : (q.toNat : Int) ≠ 0 := by omega
  refine ⟨_, by simp only [Sem.run_bind, eqGuard_quo, Sem.run_pure, Result.andThen_ok, binOp_quo, Op.intDiv, this, if_false]; rfl, X8.2 ?_⟩
  have : p.toNat / q.toNat < 2 ^ b := Nat.lt_of_le_of_lt (Nat.div_le_self _ _) p.isLt
  rw [Kp hk hs, ← Int.ofNat_tdiv, BitVec.ofInt_natCast, BitVec.toNat_ofNat, Nat.mod_eq_of_lt this, BitVec.toNat_udiv]
omit hk hs in
theorem Qb2 (hq : q.toNat ≠ 0) : PJ c ⟨d, .binOp .rem t x y yt, ty, pos, aft, g⟩ Γ H ((un k b).slot (p % q)) :=
 ZU hx hy fun m u v w hu hv => by
  cases X8.1 hu; cases X8.1 hv
  have : (q.toNat : Int) ≠ 0 := by omega
  refine ⟨_, by simp only [Sem.run_bind, eqGuard_rem, Sem.run_pure, Result.andThen_ok, binOp_rem, Op.intDiv, this, if_false]; rfl, X8.2 ?_⟩
  rw [← Int.ofNat_tmod]; simp
theorem Uk : PJ c ⟨d, .binOp .and t x y yt, ty, pos, aft, g⟩ Γ H ((un k b).slot (p &&& q)) :=
 ZU hx hy fun m u v w hu hv => by
  cases X8.1 hu; cases X8.1 hv
  subst hk
  refine ⟨_, by simp only [Sem.run_bind, eqGuard_at_int, Sem.run_pure, Result.andThen_ok, binOp_and, Op.intBits]; rfl, X8.2 ?_⟩
  rw [Kp rfl hs]; congr 3; simp
theorem Bc : PJ c ⟨d, .binOp .or t x y yt, ty, pos, aft, g⟩ Γ H ((un k b).slot (p ||| q)) :=
 ZU hx hy fun m u v w hu hv => by
  cases X8.1 hu; cases X8.1 hv
  subst hk
  refine ⟨_, by simp only [Sem.run_bind, eqGuard_at_int, Sem.run_pure, Result.andThen_ok, binOp_or, Op.intBits]; rfl, X8.2 ?_⟩
  rw [Kp rfl hs]; congr 3; simp
theorem Xu : PJ c ⟨d, .binOp .xor t x y yt, ty, pos, aft, g⟩ Γ H ((un k b).slot (p ^^^ q)) :=
 ZU hx hy fun m u v w hu hv => by
  cases X8.1 hu; cases X8.1 hv
  subst hk
  refine ⟨_, by simp only [Sem.run_bind, eqGuard_at_int, Sem.run_pure, Result.andThen_ok, binOp_xor, Op.intBits]; rfl, X8.2 ?_⟩
  rw [Kp rfl hs]; congr 3; simp
omit hk hs
theorem Qd3 : PJ c ⟨d, .binOp .geq t x y yt, ty, pos, aft, g⟩ Γ H (bl.slot (decide (q ≤ p))) :=
 ZU hx hy fun m u v w hu hv => by
  cases X8.1 hu; cases X8.1 hv
  exact ⟨_, by simp [eqGuard_geq, binOp_geq]; rfl, K2.2 (by simp [BitVec.le_def])⟩
theorem Qkx : PJ c ⟨d, .binOp .eql t x y yt, ty, pos, aft, g⟩ Γ H (bl.slot (decide (p = q))) :=
 ZU hx hy fun m u v w hu hv => by
  cases X8.1 hu; cases X8.1 hv
  exact ⟨_, by simp [eqGuard_at_int, binOp_eql]; rfl, K2.2 (by congr 1; rw [Bool.eq_iff_iff]; simp [← BitVec.toNat_inj]; omega)⟩
theorem Qev : PJ c ⟨d, .binOp .neq t x y yt, ty, pos, aft, g⟩ Γ H (bl.slot (!decide (p = q))) :=
 ZU hx hy fun m u v w hu hv => by
  cases X8.1 hu; cases X8.1 hv
  exact ⟨_, by simp [eqGuard_at_int, binOp_neq]; rfl, K2.2 (by congr 1; rw [Bool.eq_iff_iff]; simp [← BitVec.toNat_inj]; omega)⟩
end
theorem QaB {k : IntKind} {b : Nat} {t yt : TypeId} {x y : Operand} {p : BitVec b} {q : Int} {s : Slot} (hk : k.bits = b) (hsg : k.signed = false) (hx : Has Γ x ((un k b).slot p)) (hy : Has Γ y s) (hs : Ka s q) (hq : 0 ≤ q) :
  PJ c ⟨d, .binOp .shl t x y yt, ty, pos, aft, g⟩ Γ H ((un k b).slot (p <<< q.toNat)) :=
 ZU hx hy fun m u v w hu hv => by
  cases X8.1 hu; obtain ⟨k', rfl⟩ := hs m v hv
  have : ¬ q < 0 := by omega
  refine ⟨_, by simp only [Sem.run_bind, eqGuard_at_int, Sem.run_pure, Result.andThen_ok, binOp_shl, Op.shift, this, if_false]; rfl, X8.2 ?_⟩
  rw [Kp hk hsg, hk]; congr 3
  apply BitVec.eq_of_toNat_eq
  rw [show (2 : Int) ^ min q.toNat b = ((2 ^ min q.toNat b : Nat) : Int) by simp, ← Int.natCast_mul, BitVec.ofInt_natCast, BitVec.toNat_ofNat, BitVec.toNat_shiftLeft, Nat.shiftLeft_eq]
  rcases Nat.le_total q.toNat b with h | h
  ·rw [Nat.min_eq_left h]
  ·rw [Nat.min_eq_right h, Nat.mul_mod_left]
   have : 2 ^ b ∣ p.toNat * 2 ^ q.toNat := Nat.dvd_mul_left_of_dvd (Nat.pow_dvd_pow 2 h) _
   exact (Nat.mod_eq_zero_of_dvd this).symm
theorem Xe {k : IntKind} {b : Nat} {t yt : TypeId} {x y : Operand} {p : BitVec b} {q : Int} {s : Slot} (hk : k.bits = b) (hx : Has Γ x ((un k b).slot p)) (hy : Has Γ y s) (hs : Ka s q) (hq : 0 ≤ q) :
  PJ c ⟨d, .binOp .shr t x y yt, ty, pos, aft, g⟩ Γ H ((un k b).slot (p >>> q.toNat)) :=
 ZU hx hy fun m u v w hu hv => by
  cases X8.1 hu; obtain ⟨k', rfl⟩ := hs m v hv
  have : ¬ q < 0 := by omega
  refine ⟨_, by simp only [Sem.run_bind, eqGuard_at_int, Sem.run_pure, Result.andThen_ok, binOp_shr, Op.shift, this, if_false]; rfl, X8.2 ?_⟩
  rw [hk]; congr 1
  rw [show (2 : Int) ^ min q.toNat b = ((2 ^ min q.toNat b : Nat) : Int) by simp, BitVec.toNat_ushiftRight, Nat.shiftRight_eq_div_pow]
  rw [Int.fdiv_eq_ediv_of_nonneg _ (Int.natCast_nonneg _)]
  rw [← Int.natCast_ediv]; congr 1
  rcases Nat.le_total q.toNat b with h | h
  ·rw [Nat.min_eq_left h]
  ·rw [Nat.min_eq_right h, Nat.div_eq_of_lt p.isLt, Nat.div_eq_of_lt (Nat.lt_of_lt_of_le p.isLt (Nat.pow_le_pow_right (by decide) h))]
theorem ZI {x : Operand} {b : Bool} {t : TypeId} (hx : Has Γ x (bl.slot b)) : PJ c ⟨d, .unOp .not t x, ty, pos, aft, g⟩ Γ H (bl.slot (!b)) :=
 YE fun m hs a w _ _ _ ho => by
  have e := K2.1 (hx m a (ho x (by simp [Op.operands])))
  exact ⟨.bool (!b), by simp [execOp, e, Op.unary], K2.2 rfl⟩
theorem Qbc {P : Program} {t : TypeId} (ht : P.underlying t = some .bool) (n : Nat) (a b : Bool) (w : World) : (Op.equalIn (n + 1) t (.bool a) (.bool b)).run P w = .ok (a == b) w := by
 simp only [Op.equalIn, Sem.run_bind, run_underlying ht, Result.andThen_ok]; rfl
theorem Qd8 {P : Program} {t : TypeId} (ht : P.underlying t = some .bool) (a b : Bool) (w : World) : (binOp .neq t (.bool a) (.bool b)).run P w = .ok (.bool (!(a == b))) w := by
 have h := Qbc ht 9999 a b w
 simp only [binOp, Op.equal, Op.maxDepth, Sem.run_bind, h]; rfl
theorem QgY {x y : Operand} {p q : Bool} {t yt : TypeId} (ht : c.P.underlying t = some .bool) (hx : Has Γ x (bl.slot p)) (hy : Has Γ y (bl.slot q)) :
  PJ c ⟨d, .binOp .neq t x y yt, ty, pos, aft, g⟩ Γ H (bl.slot (!(p == q))) :=
 ZU hx hy fun m u v w hu hv => by cases K2.1 hu; cases K2.1 hv; exact ⟨_, by simp [eqGuard_at_bool, Qd8 ht], K2.2 rfl⟩
def QfB (P : Program) (src dst : TypeId) (k : IntKind) : Bool :=
 (P.underlying src).isSome && (match P.underlying dst with | some (.int k') => k' == k | _ => false)
theorem Qiy {P : Program} {src dst : TypeId} {k : IntKind} (h : QfB P src dst k = true) : P.underlying dst = some (.int k) ∧ (P.underlying src).isSome = true := by
 simp only [QfB, Bool.and_eq_true] at h
 obtain ⟨h1, h2⟩ := h
 refine ⟨?_, h1⟩
 split at h2
 ·rename_i k' e; have : k' = k := by simpa using h2
  rw [e, this]
 ·cases h2
theorem Qdi {P : Program} {src dst : TypeId} {k k' : IntKind} (h : QfB P src dst k = true) (n : Int) (w : World) : (convert src dst (.int k' n)).run P w = .ok (.int k (k.wrap n)) w := by
 obtain ⟨h1, h2⟩ := Qiy h
 obtain ⟨ds, hs⟩ := Option.isSome_iff_exists.1 h2
 simp [convert, run_underlying hs, run_underlying h1, Conv.intToInt]
theorem Qb5 {src dst : TypeId} {x : Operand} {s s' : Slot} {k : IntKind} {n : Int} (h : QfB c.P src dst k = true) (hx : Has Γ x s) (hs : Ka s n) (hs' : ∀ m, s'.p m (.int k (k.wrap n))) :
  PJ c ⟨d, .convert src dst x, ty, pos, aft, g⟩ Γ H s' :=
 YE fun m hs2 a w _ _ _ ho => by
  obtain ⟨k', e⟩ := hs m _ (hx m a (ho x (by simp [Op.operands])))
  exact ⟨_, by simp only [execOp, e, Sem.run_bind, Qdi h]; rfl, hs' m⟩
theorem QbK {src dst : TypeId} {x : Operand} {s : Slot} {n : Int} (h : QfB c.P src dst .i64 = true) (hx : Has Γ x s) (hs : Ka s n) :
  PJ c ⟨d, .convert src dst x, ty, pos, aft, g⟩ Γ H (i64.slot (w64 n)) := Qb5 h hx hs fun m => Qbt
theorem Jo {src dst : TypeId} {x : Operand} {s : Slot} {n : Int} {k : IntKind} {b : Nat} (hk : k.bits = b) (hsg : k.signed = false) (h : QfB c.P src dst k = true) (hx : Has Γ x s) (hs : Ka s n) :
  PJ c ⟨d, .convert src dst x, ty, pos, aft, g⟩ Γ H ((un k b).slot (BitVec.ofInt b n)) := Qb5 h hx hs fun m => X8.2 (by rw [Kp hk hsg])
theorem Zi {src dst : TypeId} {x : Operand} {k k' : IntKind} {b b' : Nat} {n : BitVec b'} (hk : k.bits = b) (hsg : k.signed = false) (h : QfB c.P src dst k = true) (hx : Has Γ x ((un k' b').slot n)) :
  PJ c ⟨d, .convert src dst x, ty, pos, aft, g⟩ Γ H ((un k b).slot (n.setWidth b)) := Qb5 h hx JY fun m => X8.2 (by
   rw [Kp hk hsg]; congr 3; apply BitVec.eq_of_toNat_eq; simp)
theorem YQ {src dst : TypeId} {x : Operand} {k : IntKind} {b : Nat} {n : BitVec b} (hb : b < 64) (h : QfB c.P src dst .i64 = true) (hx : Has Γ x ((un k b).slot n)) :
  PJ c ⟨d, .convert src dst x, ty, pos, aft, g⟩ Γ H (i64.slot (n.toNat : Int)) := Qb5 h hx JY fun m => ZE.2 (by
   have h1 := n.isLt
   have h2 : 2 ^ b ≤ 2 ^ 63 := Nat.pow_le_pow_right (by decide) (by omega)
   have h3 : (2 : Nat) ^ 63 = 9223372036854775808 := by decide
   congr 1
   rw [Qfy]; exact Jk (by omega))
end
end Go.Sl
namespace Go.Sl
def tyB (P : Program) (T : TypeId) (ag : Bool) (n : Nat) : Bool :=
 (match P.underlying T with | some (.struct _) | some (.array _ _) => ag | some _ => !ag | none => false) && (match P.info? T with | some i => i.size == n | none => false)
def szB (P : Program) (T : TypeId) (n : Nat) : Bool := match P.info? T with | some i => i.size == n | none => false
def QdP (P : Program) (S f off : Nat) : Bool :=
 match P.underlying S with
 | some (.struct fs) => match fs[f]? with
  | some fd => fd.offset == off && (match P.info? fd.type with | some i => i.size != 0 | none => false)
  | none => false
 | _ => false
def q7 (P : Program) (T n sz : Nat) : Bool :=
 match P.underlying T with
 | some (.array n' e) => n' == n && szB P e sz
 | _ => false
def slB (P : Program) (T sz : Nat) : Bool :=
 match P.underlying T with
 | some (.slice e) => szB P e sz
 | _ => false
theorem V8 {P : Program} {T n : Nat} (h : szB P T n = true) (w : World) : (sizeOf T).run P w = .ok n w := by
 unfold szB at h
 cases hi : P.info? T with
 | none => rw [hi] at h; cases h
 | some i =>
  rw [hi] at h
  have : i.size = n := by simpa using h
  simp [sizeOf, typeInfo, hi, this]
theorem QcV {P : Program} {T n : Nat} {ag : Bool} (h : tyB P T ag n = true) : szB P T n = true := by
 simp only [tyB, Bool.and_eq_true] at h
 exact h.2
theorem QgX {P : Program} {T n : Nat} {ag : Bool} (h : tyB P T ag n = true) (w : World) : (isAgg T).run P w = .ok ag w := by
 simp only [tyB, Bool.and_eq_true] at h
 obtain ⟨h1, _⟩ := h
 unfold isAgg
 cases hu : P.underlying T with
 | none => rw [hu] at h1; cases h1
 | some d =>
  rw [hu] at h1
  rw [Sem.run_bind, run_underlying hu]
  cases d <;> simp at h1 <;> simp [h1]
theorem Qax {P : Program} {T n sz : Nat} (h : q7 P T n sz = true) : ∃ e, P.underlying T = some (.array n e) ∧ szB P e sz = true := by
 unfold q7 at h
 split at h
 ·rename_i n' e hu
  simp only [Bool.and_eq_true] at h
  have : n' = n := by simpa using h.1
  exact ⟨e, by rw [hu, this], h.2⟩
 ·cases h
theorem BS {P : Program} {T sz : Nat} (h : slB P T sz = true) : ∃ e, P.underlying T = some (.slice e) ∧ szB P e sz = true := by
 unfold slB at h
 split at h
 ·rename_i e hu; exact ⟨e, hu, h⟩
 ·cases h
theorem Qcn {P : Program} {S f off : Nat} (h : QdP P S f off = true) (b o : Nat) (w : World) :
  (Instr.fieldAt S (.pointer (some ⟨b, o, none⟩)) f).run P w = .ok (.pointer (some ⟨b, o + off, none⟩)) w := by
 unfold QdP at h
 split at h
 ·rename_i fs hu
  split at h
  ·rename_i fd hf
   simp only [Bool.and_eq_true] at h
   obtain ⟨h1, h2⟩ := h
   have e1 : fd.offset = off := by simpa using h1
   cases hi : P.info? fd.type with
   | none => rw [hi] at h2; cases h2
   | some i =>
    rw [hi] at h2
    have h3 : i.size ≠ 0 := by simpa using h2
    simp [Instr.fieldAt, run_underlying hu, hf, Instr.sureAddr, fieldPlace, sizeOf, typeInfo, hi, h3, Addr.add_lit, e1]
  ·cases h
 ·cases h
theorem XR {P : Program} {w : World} {T : TypeId} {ag : Bool} {n b o : Nat} {cs : List Value} (hT : tyB P T ag n = true) (hl : cs.length = n) (h1 : ag = false → n = 1)
  (h : ∀ j v, cs[j]? = some v → w.cell? ⟨b, o + j, none⟩ = some v) : (Instr.loadAt T (.pointer (some ⟨b, o, none⟩))).run P w = .ok (ZV ag cs) w := by
 have ha := QgX hT w
 have hs := V8 (QcV hT) w
 simp only [Instr.loadAt, Instr.sureAddr, pure_bind, loadVar, Sem.run_bind, ha, Result.andThen_ok]
 cases ag with
 | true =>
  subst hl
  have := run_loadCells_list (P := P) w ⟨b, o, none⟩ cs (fun j v e => by rw [Addr.add_lit]; exact h j v e)
  simp [hs, this, ZV]
 | false =>
  rw [h1 rfl] at hl
  match cs, hl with
  | [v], _ =>
   have := h 0 v rfl
   rw [Nat.add_zero] at this
   simp [run_load, this, ZV]
section
variable {c : Ctx} {Γ : Env} {H H' : List Ent} {d : Option Tmp} {ty : TypeId} {pos : String} {aft : Array Edge} {g : Option (Nat × Bool)} {α β : Type}
theorem Qad {T : TypeId} {x : Operand} {R : Rep α} {y : α} (hx : Has Γ x (Qt R y)) (hT : tyB c.P T R.ag R.n = true) : PJ c ⟨d, .load T x, ty, pos, aft, g⟩ Γ H (R.slot y) :=
 YE fun m hs a w hg _ _ ho => by
  obtain ⟨b, o, ds, e, hr, hat⟩ := hx m a (ho x (by simp [Op.operands]))
  refine ⟨ZV R.ag ds, ?_, Rep.is_of hr⟩
  simp only [execOp, e, Sem.run_bind, XR hT (R.len hr) R.one (fun j v e => hg.mem _ _ _ (hat j v e))]
  rfl
theorem Sat.box {m : Mem} {hs : Hp} {w : World} {b : Nat} {T0 : TypeId} {R : Rep α} {x : α} (hsat : Sat H m hs) (hk : Pick H (box b T0 R x) H') :
  ∃ cs, (b, T0, cs) ∈ hs ∧ R.rel m cs x := by
 obtain ⟨h1, h2, hp, ⟨cs, e, hr⟩, _⟩ := hsat.pick hk
 exact ⟨cs, hp.mem_iff.2 (by simp [e]), hr⟩
theorem JM.cells {m : Mem} {hs : Hp} {w : World} (hg : JM m hs w) {b : Nat} {T : TypeId} {cs : List Value} (h : (b, T, cs) ∈ hs) (j : Nat) (v : Value) (e : cs[j]? = some v) : w.cell? ⟨b, j, none⟩ = some v := by
 have := hg.blk _ h
 simp only [World.cell?, this]
 simpa using e
theorem QeU {T T0 : TypeId} {x : Operand} {b off : Nat} {R : Rep α} {S : Rep β} {y : α} {get : α → β} {set : α → β → α} (hx : Has Γ x (val (.pointer (some ⟨b, off, none⟩))))
  (hk : Pick H (box b T0 R y) H') (hp : Path R off S get set) (hT : tyB c.P T S.ag S.n = true) : PJ c ⟨d, .load T x, ty, pos, aft, g⟩ Γ H (S.slot (get y)) :=
 YE fun m hs a w hg _ hsat ho => by
  have e : a.eval x = _ := hx m a (ho x (by simp [Op.operands]))
  obtain ⟨cs, hmem, hr⟩ := Sat.box (w := w) hsat hk
  have hr' := hp.get_ok hr
  refine ⟨ZV S.ag ((cs.drop off).take S.n), ?_, Rep.is_of hr'⟩
  simp only [execOp, e, Sem.run_bind]
  rw [XR hT (S.len hr') S.one]
  ·rfl
  ·intro j v ev
   rw [List.getElem?_take] at ev
   split at ev
   ·rw [List.getElem?_drop] at ev; exact hg.cells hmem _ _ ev
   ·cases ev
def GAt (n : Nat) (R : Rep α) (x : α) (m : Mem) : Prop := ∃ cs, R.rel m cs x ∧ At m n 0 cs
theorem Qc4 {T : TypeId} {n : Nat} {R : Rep α} {y : α} (h : ∀ m, c.G.p m → GAt n R y m) (hT : tyB c.P T R.ag R.n = true) : PJ c ⟨d, .load T (.global n), ty, pos, aft, g⟩ Γ H (R.slot y) :=
 YE fun m hs a w hg hG _ ho => by
  obtain ⟨cs, hr, hat⟩ := h m hG
  refine ⟨ZV R.ag cs, ?_, Rep.is_of hr⟩
  have e : a.eval (.global n) = .pointer (some ⟨n, 0, none⟩) := rfl
  simp only [execOp, e, Sem.run_bind, XR hT (R.len hr) R.one (fun j v e => hg.mem _ _ _ (hat j v e))]
  rfl
theorem Qfq {S f off : Nat} {x : Operand} {R : Rep α} {Q : Rep β} {y : α} {get : α → β} {set : α → β → α} (hx : Has Γ x (Qt R y)) (hp : Path R off Q get set) (hf : QdP c.P S f off = true) :
  PJ c ⟨d, .fieldAddr S x f, ty, pos, aft, g⟩ Γ H (Qt Q (get y)) :=
 YE fun m hs a w hg _ _ ho => by
  obtain ⟨b, o, ds, e, hr, hat⟩ := hx m a (ho x (by simp [Op.operands]))
  exact ⟨_, by simp only [execOp, e, Sem.run_bind, Qcn hf]; rfl, b, o + off, _, rfl, hp.get_ok hr, hat.mid _ _⟩
theorem Qeq {S f off b o : Nat} {x : Operand} (hx : Has Γ x (val (.pointer (some ⟨b, o, none⟩)))) (hf : QdP c.P S f off = true) :
  PJ c ⟨d, .fieldAddr S x f, ty, pos, aft, g⟩ Γ H (val (.pointer (some ⟨b, o + off, none⟩))) :=
 YE fun m hs a w hg _ _ ho => by
  have e : a.eval x = _ := hx m a (ho x (by simp [Op.operands]))
  exact ⟨_, by simp only [execOp, e, Sem.run_bind, Qcn hf]; rfl, rfl⟩
theorem QhJ {x : Operand} {R : Rep α} {y : α} (hx : Has Γ x ((ptr R).slot (some y))) : Has Γ x (Qt R y) := by
 intro m a ho
 obtain ⟨b, o, ds, e, hr, hat⟩ := hx m a ho
 simp only [List.cons.injEq, and_true] at e
 exact ⟨b, o, ds, e, hr, hat⟩
theorem Uz {P : Program} {T n sz : Nat} (hT : q7 P T n sz = true) (b o : Nat) (k : IntKind) {i : Int} (h0 : 0 ≤ i) (h1 : i < n) (w : World) :
  (Instr.indexAt T (.pointer (some ⟨b, o, none⟩)) (.int k i)).run P w = .ok (.pointer (some ⟨b, o + i.toNat * sz, none⟩)) w := by
 obtain ⟨e, hu, hs⟩ := Qax hT
 have hr := V8 hs w
 have : 0 ≤ i ∧ i < (n : Int) := ⟨h0, h1⟩
 simp [Instr.indexAt, asIntOf, run_underlying hu, Instr.sureAddr, this, hr, Addr.add_lit]
theorem BT {P : Program} {T sz : Nat} (hT : slB P T sz = true) (b o n cap : Nat) (k : IntKind) {i : Int} (h0 : 0 ≤ i) (h1 : i < n) (w : World) :
  (Instr.indexAt T (.slice (some ⟨b, o, none⟩) n cap) (.int k i)).run P w = .ok (.pointer (some ⟨b, o + i.toNat * sz, none⟩)) w := by
 obtain ⟨e, hu, hs⟩ := BS hT
 have hr := V8 hs w
 have : 0 ≤ i ∧ i < (n : Int) := ⟨h0, h1⟩
 simp [Instr.indexAt, asIntOf, run_underlying hu, this, hr, Addr.add_lit]
theorem Qff {T : TypeId} {x y : Operand} {R : Rep α} {l : List α} {i : Int} {s : Slot} (hx : Has Γ x ((sl R).slot l)) (hy : Has Γ y s) (hs : Ka s i) (h0 : 0 ≤ i) (h1 : i.toNat < l.length) (hT : slB c.P T R.n = true) :
  PJ c ⟨d, .indexAddr T x y, ty, pos, aft, g⟩ Γ H (Qt R l[i.toNat]) :=
 YE fun m hs2 a w hg _ _ ho => by
  obtain ⟨a0, cap, e, hc, hrow⟩ := hx m a (ho x (by simp [Op.operands]))
  obtain ⟨k, ek⟩ := hs m _ (hy m a (ho y (by simp [Op.operands])))
  simp only [List.cons.injEq, and_true] at e
  rcases hrow with rfl | ⟨b, o, row, rfl, hr, hat⟩
  ·simp at h1
  ·refine ⟨_, by simp only [execOp, e, ek, Sem.run_bind, BT hT b o l.length cap k h0 (by omega)]; rfl, b, _, _, rfl, JP.get hr h1, hat.mid _ _⟩
theorem Qq {T n sz b o : Nat} {x y : Operand} {i : Int} {s : Slot} (hx : Has Γ x (val (.pointer (some ⟨b, o, none⟩)))) (hy : Has Γ y s) (hs : Ka s i) (h0 : 0 ≤ i) (h1 : i < n) (hT : q7 c.P T n sz = true) :
  PJ c ⟨d, .indexAddr T x y, ty, pos, aft, g⟩ Γ H (val (.pointer (some ⟨b, o + i.toNat * sz, none⟩))) :=
 YE fun m hs2 a w hg _ _ ho => by
  have e : a.eval x = _ := hx m a (ho x (by simp [Op.operands]))
  obtain ⟨k, ek⟩ := hs m _ (hy m a (ho y (by simp [Op.operands])))
  exact ⟨_, by simp only [execOp, e, ek, Sem.run_bind, Uz hT b o k h0 h1]; rfl, rfl⟩
theorem Qe2 {T n : Nat} {x y : Operand} {R : Rep α} {v : Vector α n} {i : Int} {s : Slot} (hx : Has Γ x (Qt (vec n R) v)) (hy : Has Γ y s) (hs : Ka s i) (h0 : 0 ≤ i) (h1 : i.toNat < n) (hT : q7 c.P T n R.n = true) :
  PJ c ⟨d, .indexAddr T x y, ty, pos, aft, g⟩ Γ H (Qt R v[i.toNat]) :=
 YE fun m hs2 a w hg _ _ ho => by
  obtain ⟨b, o, ds, e, hr, hat⟩ := hx m a (ho x (by simp [Op.operands]))
  obtain ⟨k, ek⟩ := hs m _ (hy m a (ho y (by simp [Op.operands])))
  exact ⟨_, by simp only [execOp, e, ek, Sem.run_bind, Uz hT b o k h0 (show i < (n : Int) by omega)]; rfl, b, _, _, rfl, (Path.at n R i.toNat h1).get_ok hr, hat.mid _ _⟩
theorem W1 {P : Program} {T n off : Nat} {ag : Bool} {cs : List Value} (hT : tyB P T ag n = true) (h1 : ag = false → n = 1) (hf : off + n ≤ cs.length) (w : World) :
  (part T cs.toArray off).run P w = .ok (ZV ag ((cs.drop off).take n)) w := by
 have ha := QgX hT w
 have hs := V8 (QcV hT) w
 simp only [part, Sem.run_bind, ha, Result.andThen_ok]
 cases ag with
 | true =>
  simp [hs, ZV]
 | false =>
  have := h1 rfl
  subst this
  have hlt : off < cs.length := by omega
  simp only [Bool.false_eq_true, if_false]
  rw [show cs.toArray[off]? = some cs[off] by simp [hlt]]
  simp only [ZV, Sem.run_pure]
  rw [List.drop_eq_getElem_cons hlt]
  rfl
theorem Qkl {P : Program} {T ty : TypeId} {sz : Nat} (hT : slB P T sz = true) (a : Option Addr) (n cap : Nat) (w : World) :
  (Builtin.len_ #[T] ty #[.slice a n cap]).run P w = .ok (goInt n) w := by
 obtain ⟨e, hu, _⟩ := BS hT
 simp [Builtin.len_, run_underlying hu]
theorem Qbe {T : TypeId} {x : Operand} {n : Nat} {s : Slot} {sz : Nat} (hx : Has Γ x s) (hs : ∀ m hs v, Sat H m hs → s.p m v → ∃ a cap, v = .slice a n cap) (hT : slB c.P T sz = true) :
  PJ c ⟨d, .call { callee := .builtin .len, args := #[x], argTypes := #[T] }, ty, pos, aft, g⟩ Γ H (i64.slot (n : Int)) :=
 YE fun m hs2 a w hg _ hsat ho => by
  obtain ⟨a0, cap, e⟩ := hs m hs2 _ hsat (hx m a (ho x (by simp [Op.operands, Call.operands])))
  refine ⟨goInt n, ?_, ZE.2 rfl⟩
  have hl := Qkl (ty := ty) hT a0 n cap w
  simp only [execOp, resolve, Sem.run_bind, Sem.run_pure, Result.andThen_ok, invoke, builtin]
  simp only [List.map_toArray, List.map_cons, List.map_nil, e, hl, Result.andThen_ok]
theorem QX {T : TypeId} {x : Operand} {R : Rep α} {l : List α} {sz : Nat} (hx : Has Γ x ((sl R).slot l)) (hT : slB c.P T sz = true) :
  PJ c ⟨d, .call { callee := .builtin .len, args := #[x], argTypes := #[T] }, ty, pos, aft, g⟩ Γ H (i64.slot (l.length : Int)) :=
 Qbe hx (fun m hs v _ ⟨a, cap, e, _⟩ => by simp only [List.cons.injEq, and_true] at e; exact ⟨a, cap, e⟩) hT
theorem YP {T T0 : TypeId} {x : Operand} {v : Value} {R : Rep α} {l : List α} {sz : Nat} (hx : Has Γ x (ov v)) (hk : Pick H (own T0 R v l) H') (hT : slB c.P T sz = true) :
  PJ c ⟨d, .call { callee := .builtin .len, args := #[x], argTypes := #[T] }, ty, pos, aft, g⟩ Γ H (i64.slot (l.length : Int)) :=
 Qbe hx (fun m hs u hsat hu => by
  obtain ⟨h1, h2, _, ho, _⟩ := hsat.pick hk
  obtain ⟨a, cap, e, _⟩ := own.shape ho
  exact ⟨a, cap, (Uv.1 hu).1.trans e⟩) hT
theorem Qc0 {T : TypeId} {x : Operand} {a0 : Option Addr} {n cap : Nat} {sz : Nat} (hx : Has Γ x (val (.slice a0 n cap))) (hT : slB c.P T sz = true) :
  PJ c ⟨d, .call { callee := .builtin .len, args := #[x], argTypes := #[T] }, ty, pos, aft, g⟩ Γ H (i64.slot (n : Int)) :=
 Qbe hx (fun m hs u _ hu => ⟨a0, cap, hu⟩) hT
inductive OptI (Γ : Env) : Option Operand → Option Int → Prop
 | no : OptI Γ none none
 | yes {x : Operand} {s : Slot} {i : Int} : Has Γ x s → Ka s i → OptI Γ (some x) (some i)
theorem OptI.val {x : Option Operand} {i : Option Int} (h : OptI Γ x i) {m : Mem} {a : Act} (ho : ∀ y, x = some y → Opd Γ m a y) :
  (x.map a.eval = none ∧ i = none) ∨ ∃ k n, x.map a.eval = some (.int k n) ∧ i = some n := by
 cases h with
 | no => exact .inl ⟨rfl, rfl⟩
 | yes h k =>
  obtain ⟨kk, e⟩ := k _ _ (h m a (ho _ rfl))
  exact .inr ⟨kk, _, by simp [e], rfl⟩
theorem UG {P : Program} {isS : Bool} {len cap : Nat} {lo hi : Option Value} {l h : Option Int} (hlo : (lo = none ∧ l = none) ∨ ∃ k n, lo = some (.int k n) ∧ l = some n)
  (hhi : (hi = none ∧ h = none) ∨ ∃ k n, hi = some (.int k n) ∧ h = some n) (h0 : 0 ≤ l.getD 0) (h1 : l.getD 0 ≤ h.getD len) (h2 : h.getD len ≤ cap) (w : World) :
  (Instr.sliceBounds isS len cap lo hi none).run P w = .ok ((l.getD 0).toNat, (h.getD len).toNat, cap) w := by
 have hb : ∀ (k : IntKind) (n : Int) (y : Nat) (code : BoundsCode), 0 ≤ n → n ≤ y → (Instr.sliceBound (.int k n) y code).run P w = .ok n.toNat w := by
  intro k n y code h0 h1
  simp [Instr.sliceBound, asIntOf, h0, h1]
 unfold Instr.sliceBounds
 rcases hhi with ⟨rfl, rfl⟩ | ⟨k, n, rfl, rfl⟩ <;> rcases hlo with ⟨rfl, rfl⟩ | ⟨k', n', rfl, rfl⟩
 ·simp
 ·simp only [Option.getD_some, Option.getD_none] at h0 h1 h2 ⊢
  simp [hb k' n' len _ h0 h1]
 ·simp only [Option.getD_some, Option.getD_none] at h0 h1 h2 ⊢
  simp [hb k n cap _ (by omega) h2]
 ·simp only [Option.getD_some, Option.getD_none] at h0 h1 h2 ⊢
  have e1 := hb k n cap (if isS = true then .sliceAcap else .sliceAlen) (by omega) h2
  have e2 := hb k' n' n.toNat .sliceB h0 (by omega)
  simp [e1, e2]
theorem V7 {P : Program} {T sz : Nat} (hT : slB P T sz = true) {a : Option Addr} {len cap : Nat} {lo hi : Option Value} {l h : Option Int}
  (hlo : (lo = none ∧ l = none) ∨ ∃ k n, lo = some (.int k n) ∧ l = some n)
  (hhi : (hi = none ∧ h = none) ∨ ∃ k n, hi = some (.int k n) ∧ h = some n) (h0 : 0 ≤ l.getD 0) (h1 : l.getD 0 ≤ h.getD len) (h2 : h.getD len ≤ cap) (w : World) :
  (Instr.sliceAt T (.slice a len cap) lo hi none).run P w =
   .ok (.slice (if cap = (l.getD 0).toNat then a else a.map (·.add ((l.getD 0).toNat * sz))) ((h.getD len).toNat - (l.getD 0).toNat) (cap - (l.getD 0).toNat)) w := by
 obtain ⟨e, hu, hs⟩ := BS hT
 have hz := V8 hs w
 have hb := UG (P := P) (isS := true) hlo hhi h0 h1 h2 w
 simp only [Instr.sliceAt, Sem.run_bind, run_underlying hu, Result.andThen_ok, Instr.slice, hb, hz, Sem.run_pure]
theorem Qfp {T : TypeId} {x : Operand} {lo hi : Option Operand} {R : Rep α} {xs : List α} {l h : Option Int} (hx : Has Γ x ((sl R).slot xs)) (hlo : OptI Γ lo l) (hhi : OptI Γ hi h)
  (h0 : 0 ≤ l.getD 0) (h1 : l.getD 0 ≤ h.getD xs.length) (h2 : h.getD xs.length ≤ xs.length) (hT : slB c.P T R.n = true) :
  PJ c ⟨d, .slice T x lo hi none, ty, pos, aft, g⟩ Γ H ((sl R).slot ((xs.take (h.getD xs.length).toNat).drop (l.getD 0).toNat)) :=
 YE fun m hs2 a w hg _ _ ho => by
  obtain ⟨a0, cap, e, hc, hrow⟩ := hx m a (ho x (by simp [Op.operands]))
  simp only [List.cons.injEq, and_true] at e
  have hlo' := hlo.val (m := m) (a := a) (fun y hy => ho y (by subst hy; simp [Op.operands]))
  have hhi' := hhi.val (m := m) (a := a) (fun y hy => ho y (by subst hy; simp [Op.operands]))
  have hr := V7 (P := c.P) hT (a := a0) (cap := cap) hlo' hhi' h0 h1 (by omega) w
  refine ⟨_, by simp only [execOp, e, Option.map_none, Sem.run_bind, hr]; rfl, ?_⟩
  have hlen : ((xs.take (h.getD xs.length).toNat).drop (l.getD 0).toNat).length = (h.getD xs.length).toNat - (l.getD 0).toNat := by
   rw [List.length_drop, List.length_take, Nat.min_eq_left (by omega)]
  refine ⟨_, _, by rw [hlen], by rw [hlen]; omega, ?_⟩
  by_cases hE : (xs.take (h.getD xs.length).toNat).drop (l.getD 0).toNat = []
  ·exact .inl hE
  ·refine .inr ?_
   have hpos : (l.getD 0).toNat < (h.getD xs.length).toNat := by
    rcases Nat.lt_or_ge (l.getD 0).toNat (h.getD xs.length).toNat with h | h
    ·exact h
    ·exact absurd (List.length_eq_zero_iff.1 (by rw [hlen]; omega)) hE
   rcases hrow with rfl | ⟨b, o, row, rfl, hrw, hat⟩
   ·simp at hE
   ·refine ⟨b, o + (l.getD 0).toNat * R.n, (row.take ((h.getD xs.length).toNat * R.n)).drop ((l.getD 0).toNat * R.n), ?_, (hrw.take _).drop _, ?_⟩
    ·rw [if_neg (by omega)]; simp [Addr.add_lit]
    ·rw [List.drop_take]; exact hat.mid _ _
theorem Qez {T n sz b o : Nat} {x : Operand} {lo hi : Option Operand} {l h : Option Int} (hx : Has Γ x (val (.pointer (some ⟨b, o, none⟩)))) (hlo : OptI Γ lo l) (hhi : OptI Γ hi h)
  (h0 : 0 ≤ l.getD 0) (h1 : l.getD 0 ≤ h.getD n) (h2 : h.getD n ≤ n) (h3 : l.getD 0 < n) (hT : q7 c.P T n sz = true) :
  PJ c ⟨d, .slice T x lo hi none, ty, pos, aft, g⟩ Γ H (val (.slice (some ⟨b, o + (l.getD 0).toNat * sz, none⟩) ((h.getD n).toNat - (l.getD 0).toNat) (n - (l.getD 0).toNat))) :=
 YE fun m hs2 a w hg _ _ ho => by
  have e : a.eval x = _ := hx m a (ho x (by simp [Op.operands]))
  have hlo' := hlo.val (m := m) (a := a) (fun y hy => ho y (by subst hy; simp [Op.operands]))
  have hhi' := hhi.val (m := m) (a := a) (fun y hy => ho y (by subst hy; simp [Op.operands]))
  obtain ⟨el, hu, hs⟩ := Qax hT
  have hz := V8 hs w
  have hb := UG (P := c.P) (isS := false) hlo' hhi' h0 h1 h2 w
  refine ⟨_, by
   simp only [execOp, e, Option.map_none, Sem.run_bind, Instr.sliceAt, run_underlying hu, Result.andThen_ok, Instr.sureAddr, Sem.run_pure, hb, hz]
   rw [if_neg (by omega)], ?_⟩
  simp [val, Addr.add_lit]
theorem QjR {T n e : Nat} {x : Operand} {R : Rep α} {l : List α} (hx : Has Γ x ((sl R).slot l)) (hl : n ≤ l.length) (hn : 0 < n) (hT : c.P.underlying T = some (.array n e)) :
  PJ c ⟨d, .sliceToArrayPointer T x, ty, pos, aft, g⟩ Γ H (Qt (vec n R) (Qds n l hl)) :=
 YE fun m hs2 a w hg _ _ ho => by
  obtain ⟨a0, cap, e, hc, hrow⟩ := hx m a (ho x (by simp [Op.operands]))
  simp only [List.cons.injEq, and_true] at e
  rcases hrow with rfl | ⟨b, o, row, rfl, hrw, hat⟩
  ·simp at hl; omega
  ·refine ⟨_, ?_, b, o, row.take (n * R.n), rfl, ?_, ?_⟩
   ·have : ¬ l.length < n := by omega
    simp only [execOp, e, Sem.run_bind, Instr.arrayAt, run_underlying hT, Result.andThen_ok, this, if_false, Sem.run_pure]
   ·show JP R m _ (Qds n l hl).toList
    rw [W2]; exact hrw.take n
   ·have := hat.mid 0 (n * R.n)
    simpa using this
theorem Wc {x : Operand} {i : Nat} {ss : List Slot} {s : Slot} (hx : Has Γ x (tup ss)) (hi : ss[i]? = some s) : PJ c ⟨d, .extract x i, ty, pos, aft, g⟩ Γ H s :=
 YE fun m hs a w _ _ _ ho => by
  obtain ⟨vs, e, hv⟩ := hx m a (ho x (by simp [Op.operands]))
  have key : ∀ (ss : List Slot) (vs : List Value) (i : Nat), UA m ss vs → ss[i]? = some s → ∃ v, vs[i]? = some v ∧ s.p m v := by
   intro ss
   induction ss with
   | nil => intro vs i _ h; simp at h
   | cons t ts ih =>
    intro vs i ⟨v, vs', e, p, q⟩ h
    subst e
    cases i with
    | zero => simp at h; subst h; exact ⟨v, rfl, p⟩
    | succ i => exact ih vs' i q (by simpa using h)
  obtain ⟨v, hv', hp⟩ := key ss vs i hv hi
  exact ⟨v, by simp [execOp, e, Instr.extract, hv'], hp⟩
theorem Qv {x : Operand} {a0 : Addr} (hx : Has Γ x (val (.pointer (some a0)))) : PJ c ⟨d, .nilCheck x, ty, pos, aft, g⟩ Γ H (val (.pointer (some a0))) :=
 YE fun m hs a w _ _ _ ho => by
  have e : a.eval x = _ := hx m a (ho x (by simp [Op.operands]))
  exact ⟨_, by simp only [execOp, e]; rfl, rfl⟩
theorem Qc2 {x : Operand} {R : Rep α} {y : α} (hx : Has Γ x (Qt R y)) : PJ c ⟨d, .nilCheck x, ty, pos, aft, g⟩ Γ H (Qt R y) :=
 YE fun m hs a w _ _ _ ho => by
  obtain ⟨b, o, ds, e, hr⟩ := hx m a (ho x (by simp [Op.operands]))
  exact ⟨_, by simp only [execOp, e]; rfl, b, o, ds, rfl, hr⟩
end
end Go.Sl
namespace Go.Sl
theorem JM.lt {m : Mem} {hs : Hp} {w : World} (hg : JM m hs w) {b o : Nat} {v : Value} (h : m b o = some v) : b < w.heap.size :=
 World.block_lt_of_cell? w ⟨b, o, none⟩ (hg.mem b o v h)
theorem JM.ltb {m : Mem} {hs : Hp} {w : World} (hg : JM m hs w) {b : Nat} (h : b ∈ hs.bs) : b < w.heap.size := by
 obtain ⟨x, hx, rfl⟩ := List.mem_map.1 h
 have := hg.blk x hx
 rcases Nat.lt_or_ge x.1 w.heap.size with h | h
 ·exact h
 ·rw [Array.getElem?_eq_none h] at this; cases this
theorem Va {w : World} {o : Obj} {b : Nat} (h : b < w.heap.size) : (w.alloc o).heap[b]? = w.heap[b]? := by
 show (w.heap.push o)[b]? = _
 rw [Array.getElem?_push, if_neg (by omega)]
theorem QcU {w : World} {o : Obj} : (w.alloc o).heap[w.heap.size]? = some o := by
 show (w.heap.push o)[w.heap.size]? = _
 rw [Array.getElem?_push, if_pos rfl]
theorem JM.drew {m : Mem} {hs : Hp} {w : World} (hg : JM m hs w) : JM m hs w.drew := ⟨hg.mem, hg.nodup, hg.blk, hg.free⟩
theorem JM.newOwn {m : Mem} {hs : Hp} {w : World} (hg : JM m hs w) (T : TypeId) (cs : List Value) : JM m ((w.heap.size, T, cs) :: hs) (w.alloc (.cells cs.toArray T)) where
 mem := fun b o v h => (World.cell?_alloc_lt w _ ⟨b, o, none⟩ (hg.lt h)).trans (hg.mem b o v h)
 nodup := by
  simp only [Hp.bs, List.map_cons, List.nodup_cons]
  exact ⟨fun h => Nat.lt_irrefl _ (hg.ltb h), hg.nodup⟩
 blk := fun x hx => by
  rcases List.mem_cons.1 hx with rfl | hx
  ·exact QcU
  ·rw [Va (hg.ltb (List.mem_map_of_mem (f := (·.1)) hx))]; exact hg.blk x hx
 free := fun x hx o => by
  rcases List.mem_cons.1 hx with rfl | hx
  ·cases h : m w.heap.size o with
   | none => rfl
   | some v => exact absurd (hg.lt h) (Nat.lt_irrefl _)
  ·exact hg.free x hx o
theorem Frm.alloc (w : World) (m : Mem) (bs : List Nat) (o : Obj) : Frm w (w.alloc o) m m bs (w.heap.size :: bs) where
 os := rfl
 tape := rfl
 output := rfl
 size := by simp
 old := fun b hb _ => ⟨Va hb, fun _ => rfl⟩
 own := fun b hb => by
  rcases List.mem_cons.1 hb with rfl | hb
  ·exact .inr (Nat.le_refl _)
  ·exact .inl hb
 le := Mle.refl m
theorem Frm.drew (w : World) (m : Mem) (bs : List Nat) : Frm w w.drew m m bs bs := ⟨rfl, rfl, rfl, Nat.le_refl _, fun _ _ _ => ⟨rfl, fun _ => rfl⟩, fun _ h => .inl h, Mle.refl m⟩
def Mem.put (m : Mem) (b : Nat) (cs : List Value) : Mem := fun b' o => if b' = b then cs[o]? else m b' o
theorem Mem.le_put {m : Mem} {b : Nat} {cs : List Value} (h : ∀ o, m b o = none) : Mle m (m.put b cs) := by
 intro b' o v e
 unfold Mem.put
 split
 ·rename_i hb; subst hb; rw [h o] at e; cases e
 ·exact e
theorem Mem.at_put (m : Mem) (b : Nat) (cs : List Value) : At (m.put b cs) b 0 cs := by
 intro j v e
 simp [Mem.put, e]
theorem JM.freeze {m : Mem} {hs : Hp} {w : World} {b : Nat} {T : TypeId} {cs : List Value} (hg : JM m ((b, T, cs) :: hs) w) : JM (m.put b cs) hs w where
 mem := fun b' o v h => by
  unfold Mem.put at h
  split at h
  ·rename_i hb; subst hb; exact hg.cells (T := T) (cs := cs) (by simp) o v h
  ·exact hg.mem b' o v h
 nodup := by
  have := hg.nodup
  simp only [Hp.bs, List.map_cons, List.nodup_cons] at this
  exact this.2
 blk := fun x hx => hg.blk x (List.mem_cons_of_mem _ hx)
 free := fun x hx o => by
  have := hg.nodup
  simp only [Hp.bs, List.map_cons, List.nodup_cons] at this
  have hne : x.1 ≠ b := fun e => this.1 (by rw [← e]; exact List.mem_map_of_mem (f := (·.1)) hx)
  simp only [Mem.put, if_neg hne]
  exact hg.free x (List.mem_cons_of_mem _ hx) o
theorem JM.le_put {m : Mem} {hs : Hp} {w : World} {b : Nat} {T : TypeId} {cs : List Value} (hg : JM m ((b, T, cs) :: hs) w) : Mle m (m.put b cs) := Mem.le_put (hg.free (b, T, cs) (by simp))
theorem Frm.freeze {w w1 : World} {m m1 : Mem} {b0 bs : List Nat} {b : Nat} {cs : List Value} (h : Frm w w1 m m1 b0 (b :: bs)) (hl : Mle m1 (m1.put b cs)) : Frm w w1 m (m1.put b cs) b0 bs where
 os := h.os
 tape := h.tape
 output := h.output
 size := h.size
 old := fun b' hb hn => ⟨(h.old b' hb hn).1, fun o => by
  have hne : b' ≠ b := fun e => by
   subst e
   exact (h.own b' (by simp)).elim hn (fun e => absurd hb (Nat.not_lt.2 e))
  simp only [Mem.put, if_neg hne]
  exact (h.old b' hb hn).2 o⟩
 own := fun b' hb => h.own b' (List.mem_cons_of_mem _ hb)
 le := h.le.trans hl
def setBlk (w : World) (b : Nat) (T : TypeId) (cs : List Value) : World := { w with heap := w.heap.setIfInBounds b (.cells cs.toArray T (0, 0)) }
theorem Qfv {w : World} {b : Nat} {T : TypeId} {cs : List Value} (h : w.heap[b]? = some (.cells cs.toArray T (0, 0))) : setBlk w b T cs = w := by
 unfold setBlk
 have hlt : b < w.heap.size := by
  rcases Nat.lt_or_ge b w.heap.size with h' | h'
  ·exact h'
  ·rw [Array.getElem?_eq_none h'] at h; cases h
 have : w.heap.setIfInBounds b (.cells cs.toArray T (0, 0)) = w.heap := by
  apply Array.ext_getElem?
  intro i
  rw [Array.getElem?_setIfInBounds]
  split
  ·rename_i e; subst e; rw [h]
  ·rfl
 rw [this]
theorem Qgm {w : World} {b k : Nat} {T : TypeId} {cs : List Value} {v : Value} (h : w.heap[b]? = some (.cells cs.toArray T (0, 0))) :
  w.setCell ⟨b, k, none⟩ v = setBlk w b T (cs.set k v) := by
 unfold World.setCell setBlk
 congr 1
 apply Array.ext_getElem?
 intro i
 rw [Array.getElem?_modify, Array.getElem?_setIfInBounds]
 by_cases hi : b = i
 ·subst hi
  have hlt : b < w.heap.size := by
   rcases Nat.lt_or_ge b w.heap.size with h' | h'
   ·exact h'
   ·rw [Array.getElem?_eq_none h'] at h; cases h
  have h' : w.heap[b] = .cells cs.toArray T (0, 0) := by simpa [hlt] using h
  simp [hlt, h']
 ·simp [hi]
theorem Qb8 {w : World} {b : Nat} {T : TypeId} {cs cs' : List Value} (h : w.heap[b]? = some (.cells cs.toArray T (0, 0))) : (setBlk w b T cs').heap[b]? = some (.cells cs'.toArray T (0, 0)) := by
 have hlt : b < w.heap.size := by
  rcases Nat.lt_or_ge b w.heap.size with h' | h'
  ·exact h'
  ·rw [Array.getElem?_eq_none h'] at h; cases h
 simp [setBlk, Array.getElem?_setIfInBounds, hlt]
theorem Qdb {w : World} {b : Nat} {T : TypeId} {cs cs' : List Value} : setBlk (setBlk w b T cs) b T cs' = setBlk w b T cs' := by
 unfold setBlk
 congr 1
 simp
theorem VX {P : Program} {b o : Nat} {T : TypeId} : ∀ (ds : List Value) (i : Nat) (cs : List Value) (w : World), (∀ v ∈ ds, v.oneCell' = true) →
  w.heap[b]? = some (.cells cs.toArray T (0, 0)) → o + i + ds.length ≤ cs.length →
  (storeCells ⟨b, o, none⟩ ds i).run P w = .ok () (setBlk w b T (cs.take (o + i) ++ ds ++ cs.drop (o + i + ds.length)))
 | [], i, cs, w, _, hb, _ => by
  simp only [storeCells, Sem.run_pure, List.append_nil, List.length_nil, Nat.add_zero, List.take_append_drop]
  rw [Qfv hb]
 | v :: ds, i, cs, w, hv, hb, hl => by
  simp only [List.length_cons] at hl
  have hlt : o + i < cs.length := by omega
  have hc : w.cell? ⟨b, o + i, none⟩ = some cs[o + i] := by simp [World.cell?, hb, hlt]
  have hf : w.frozen? ⟨b, o + i, none⟩ = false := by simp [World.frozen?, hb]
  have ih := VX (P := P) (b := b) (o := o) (T := T) ds (i + 1) (cs.set (o + i) v) (setBlk w b T (cs.set (o + i) v)) (fun u hu => hv u (List.mem_cons_of_mem _ hu)) (Qb8 hb) (by simp; omega)
  simp only [storeCells, Sem.run_bind, Addr.add_lit]
  rw [run_store P w _ v .plain (hv v (by simp)), hc]
  simp only [hf, Bool.false_eq_true, if_false, Result.andThen_ok, Qgm hb, ih, Qdb]
  congr 2
  have e1 : (cs.set (o + i) v).take (o + (i + 1)) = cs.take (o + i) ++ [v] := by
   rw [show o + (i + 1) = (o + i) + 1 by omega, List.take_succ_eq_append_getElem (by simpa using hlt)]
   rw [List.take_set, List.set_eq_of_length_le (by simp; omega)]; simp
  have e2 : (cs.set (o + i) v).drop (o + (i + 1) + ds.length) = cs.drop (o + i + (v :: ds).length) := by
   rw [List.drop_set_of_lt (by omega)]; congr 1; simp; omega
  rw [e1, e2]; simp
theorem JM.setBlk {m : Mem} {hs : Hp} {w : World} {b : Nat} {T : TypeId} {cs : List Value} (cs' : List Value) (hg : JM m ((b, T, cs) :: hs) w) : JM m ((b, T, cs') :: hs) (setBlk w b T cs') where
 mem := fun b' o v h => by
  have hne : b' ≠ b := fun e => by subst e; rw [hg.free (b', T, cs) (by simp) o] at h; cases h
  have := hg.mem b' o v h
  have hbk : (Sl.setBlk w b T cs').heap[b']? = w.heap[b']? := by
   have hne' : b ≠ b' := fun e => hne e.symm
   simp [Sl.setBlk, Array.getElem?_setIfInBounds, hne']
  exact (World.cell?_of_block (w := w) (a := ⟨b', o, none⟩) hbk).trans this
 nodup := hg.nodup
 blk := fun x hx => by
  rcases List.mem_cons.1 hx with rfl | hx
  ·exact Qb8 (hg.blk (b, T, cs) (by simp))
  ·have hn := hg.nodup
   simp only [Hp.bs, List.map_cons, List.nodup_cons] at hn
   have hne : b ≠ x.1 := fun e => hn.1 (by rw [e]; exact List.mem_map_of_mem (f := (·.1)) hx)
   simp only [Sl.setBlk, Array.getElem?_setIfInBounds, if_neg hne]
   exact hg.blk x (List.mem_cons_of_mem _ hx)
 free := fun x hx o => by
  rcases List.mem_cons.1 hx with rfl | hx
  ·exact hg.free (b, T, cs) (by simp) o
  ·exact hg.free x (List.mem_cons_of_mem _ hx) o
theorem Frm.setBlk {w : World} {m : Mem} {b : Nat} {T : TypeId} {cs : List Value} {bs : List Nat} (hb : b ∈ bs) : Frm w (setBlk w b T cs) m m bs bs where
 os := rfl
 tape := rfl
 output := rfl
 size := by simp [Sl.setBlk]
 old := fun b' hb' hn => by
  have hne : b ≠ b' := fun e => hn (e ▸ hb)
  simp [Sl.setBlk, Array.getElem?_setIfInBounds, hne]
 own := fun b' h => .inl h
 le := Mle.refl m
theorem VY {P : Program} {w : World} {T T0 : TypeId} {n b o : Nat} {v : Value} {ds cs : List Value} (hT : szB P T n = true) (hv : v.cells = ds.toArray) (hl : ds.length = n) (h1 : ∀ v ∈ ds, v.oneCell' = true)
  (hb : w.heap[b]? = some (.cells cs.toArray T0 (0, 0))) (hn : o + n ≤ cs.length) :
  (Instr.storeAt T (.pointer (some ⟨b, o, none⟩)) v).run P w = .ok () (setBlk w b T0 (cs.take o ++ ds ++ cs.drop (o + n))) := by
 have hs := V8 hT w
 have hst := VX (P := P) (o := o) ds 0 cs w h1 hb (by omega)
 simp only [Nat.add_zero, hl] at hst
 simp [Instr.storeAt, Instr.sureAddr, storeVar, hv, hs, hl, hst]
section
variable {c : Ctx} {full : Array Oper} {l : List Oper} {Γ Γ' : Env} {H H' : List Ent} {K : Act → World → Prop} {d : Tmp} {od : Option Tmp} {ty : TypeId} {pos : String} {aft : Array Edge} {α β : Type}
theorem Bz {o : Oper} {Γ2 : Env} {H2 : List Ent} (hg : o.guard = none)
  (h : ∀ m hs a w, JM m hs w → c.G.p m → Sat H m hs → Y1 Γ m a → a.tmps.size = c.N →
   WB c.P (fun v w' => ∃ m' hs', JM m' hs' w' ∧ Y1 Γ2 m' (a.put o.dst v) ∧ Sat H2 m' hs' ∧ Frm w w' m m' hs.bs hs'.bs) ((execOp a.eval o).run c.P w))
  (k : Jc c full l Γ2 H2 K) : Jc c full (o :: l) Γ H K := by
 intro a w Q hQ ⟨hdf, hn, m, hs, hgd, hG, he, hsat, hf⟩
 refine wpListIn_plain hg fun K' hK' => ?_
 refine WB.wp (h m hs a w hgd hG hsat he hn) ?_
 rintro v w' ⟨m', hs', hgd', he', hsat', hfr⟩
 exact hK' _ _ (k _ w' Q hQ ⟨by rw [Yh]; exact hdf.step hgd hfr, by rw [Xr]; exact hn, m', hs', hgd', c.G.mono hfr.le hG, he', hsat', hf.trans hfr⟩)
theorem VD {ι : Type} {o : Oper} {Γ2 : ι → Env} {H2 : ι → List Ent} (hg : o.guard = none)
  (h : ∀ m hs a w, JM m hs w → c.G.p m → Sat H m hs → Y1 Γ m a → a.tmps.size = c.N →
   WB c.P (fun v w' => ∃ i m' hs', JM m' hs' w' ∧ Y1 (Γ2 i) m' (a.put o.dst v) ∧ Sat (H2 i) m' hs' ∧ Frm w w' m m' hs.bs hs'.bs) ((execOp a.eval o).run c.P w))
  (k : ∀ i, Jc c full l (Γ2 i) (H2 i) K) : Jc c full (o :: l) Γ H K := by
 intro a w Q hQ ⟨hdf, hn, m, hs, hgd, hG, he, hsat, hf⟩
 refine wpListIn_plain hg fun K' hK' => ?_
 refine WB.wp (h m hs a w hgd hG hsat he hn) ?_
 rintro v w' ⟨i, m', hs', hgd', he', hsat', hfr⟩
 exact hK' _ _ (k i _ w' Q hQ ⟨by rw [Yh]; exact hdf.step hgd hfr, by rw [Xr]; exact hn, m', hs', hgd', c.G.mono hfr.le hG, he', hsat', hf.trans hfr⟩)
def X5 (R : Rep α) (x : α) (cs : List Value) : Prop := ∀ m, R.rel m cs x
def KI (P : Program) (T : TypeId) : Option (List Value) := ((P.info? T).bind (·.zero)).map fun v => v.cells.toList
theorem Qx : X5 i64 0 [.int .i64 0] := fun _ => rfl
theorem QH {k : IntKind} {w : Nat} : X5 (un k w) 0#w [.int k 0] := fun _ => by simp [un]
theorem Bf : X5 bl false [.bool false] := fun _ => rfl
theorem Jp {R : Rep α} : X5 (sl R) [] [.slice none 0 0] := fun _ => ⟨none, 0, rfl, Nat.le_refl _, .inl rfl⟩
theorem QeT {R : Rep α} : X5 (ptr R) none [.pointer none] := fun _ => rfl
theorem Qk {R : Rep α} {S : Rep β} {x : α} {y : β} {cs ds : List Value} (h : X5 R x cs) (k : X5 S y ds) : X5 (prod R S) (x, y) (cs ++ ds) := fun m => ⟨cs, ds, rfl, h m, k m⟩
theorem QA {R : Rep α} {x : α} {cs : List Value} (n : Nat) (h : X5 R x cs) : X5 (vec n R) (Vector.replicate n x) (List.replicate n cs).flatten := by
 intro m
 show JP R m _ (Vector.replicate n x).toList
 have e : (Vector.replicate n x).toList = List.replicate n x := Vector.toList_replicate
 rw [e]
 clear e
 induction n with
 | zero => rfl
 | succ n ih => exact ⟨cs, _, rfl, h m, ih⟩
theorem WM {P : Program} {T : TypeId} {cs : List Value} (h : KI P T = some cs) (w : World) : ∃ v, (zeroValue T).run P w = .ok v w ∧ v.cells = cs.toArray := by
 unfold KI at h
 cases hi : P.info? T with
 | none => simp [hi] at h
 | some i =>
  cases hz : i.zero with
  | none => simp [hi, hz] at h
  | some v =>
   simp [hi, hz] at h
   exact ⟨v, by simp [zeroValue, typeInfo, hi, hz], by rw [← h]⟩
theorem QjL {T : TypeId} {R : Rep α} {x : α} {cs : List Value} (hz : X5 R x cs) (hT : KI c.P T = some cs) (hN : Nat.blt d c.N = true)
  (k : ∀ b, Jc c full l ((d, val (.pointer (some ⟨b, 0, none⟩))) :: Γ) (box b T R x :: H) K) : Jc c full (⟨some d, .alloc T, ty, pos, aft, none⟩ :: l) Γ H K := by
 refine VD (Γ2 := fun b => (d, val (.pointer (some ⟨b, 0, none⟩))) :: Γ) (H2 := fun b => box b T R x :: H) rfl ?_ k
 intro m hs a w hg _ hsat he hn
 obtain ⟨v, hv, hc⟩ := WM hT w
 have hr : (execOp a.eval ⟨some d, .alloc T, ty, pos, aft, none⟩).run c.P w = .ok (.value (.pointer (some ⟨w.heap.size, 0, none⟩))) (w.alloc (.cells cs.toArray T)) := by
  simp [execOp, Instr.alloc, hv, newVar, newRow, hc]
 rw [hr]
 exact ⟨w.heap.size, m, _, hg.newOwn T cs, he.put (by rw [hn]; simpa [Nat.blt_eq] using hN) rfl, ⟨[(w.heap.size, T, cs)], hs, rfl, ⟨cs, rfl, hz m⟩, hsat⟩, Frm.alloc _ _ _ _⟩
theorem Bq {T : TypeId} {R : Rep α} {x : α} {y : Operand} (hy : Has Γ y (R.slot x)) (hN : Nat.blt d c.N = true)
  (k : ∀ b, Jc c full l ((d, val (.pointer (some ⟨b, 0, none⟩))) :: Γ) (box b T R x :: H) K) : Jc c full (⟨some d, .box T y, ty, pos, aft, none⟩ :: l) Γ H K := by
 refine VD (Γ2 := fun b => (d, val (.pointer (some ⟨b, 0, none⟩))) :: Γ) (H2 := fun b => box b T R x :: H) rfl ?_ k
 intro m hs a w hg _ hsat he hn
 obtain ⟨cs, hc, hr⟩ := Rep.is_cells (hy m a (he.opd y))
 have hrun : (execOp a.eval ⟨some d, .box T y, ty, pos, aft, none⟩).run c.P w = .ok (.value (.pointer (some ⟨w.heap.size, 0, none⟩))) (w.alloc (.cells cs.toArray T)) := by
  simp [execOp, Instr.box, newVar, newRow, hc]
 rw [hrun]
 exact ⟨w.heap.size, m, _, hg.newOwn T cs, he.put (by rw [hn]; simpa [Nat.blt_eq] using hN) rfl, ⟨[(w.heap.size, T, cs)], hs, rfl, ⟨cs, rfl, hr⟩, hsat⟩, Frm.alloc _ _ _ _⟩
theorem Frm.ofPerm {w w' : World} {m m' : Mem} {hs hs1 : Hp} {bs' : List Nat} (p : hs.Perm hs1) (h : Frm w w' m m' hs1.bs bs') : Frm w w' m m' hs.bs bs' := by
 have e : ∀ b, b ∈ hs.bs ↔ b ∈ hs1.bs := fun b => (p.map _).mem_iff
 exact { h with old := fun b hb hn => h.old b hb (fun e' => hn ((e b).2 e')), own := fun b hb => (h.own b hb).imp (e b).2 id }
theorem QfH {T T0 : TypeId} {x y : Operand} {b off : Nat} {R : Rep α} {S : Rep β} {r : α} {z : β} {get : α → β} {set : α → β → α} (hx : Has Γ x (val (.pointer (some ⟨b, off, none⟩))))
  (hy : Has Γ y (S.slot z)) (hk : Pick H (box b T0 R r) H') (hp : Path R off S get set) (hT : szB c.P T S.n = true)
  (k : Jc c full l Γ (box b T0 R (set r z) :: H') K) : Jc c full (⟨none, .store T x y, ty, pos, aft, none⟩ :: l) Γ H K := by
 refine Bz rfl ?_ k
 intro m hs a w hg _ hsat he hn
 have e : a.eval x = _ := hx m a (he.opd x)
 obtain ⟨ds, hc, hd⟩ := Rep.is_cells (hy m a (he.opd y))
 obtain ⟨h1, h2, hpm, ⟨cs, rfl, hr⟩, hs2⟩ := hsat.pick hk
 have hg' := hg.perm hpm
 have hlen : off + S.n ≤ cs.length := by rw [R.len hr]; exact hp.fits
 have hrun : (execOp a.eval ⟨none, .store T x y, ty, pos, aft, none⟩).run c.P w = .ok .skip (setBlk w b T0 (cs.take off ++ ds ++ cs.drop (off + S.n))) := by
  simp only [execOp, e, Sem.run_bind, VY hT hc (S.len hd) (S.cell hd) (hg'.blk (b, T0, cs) (by simp)) hlen]
  rfl
 rw [hrun]
 refine ⟨m, (b, T0, cs.take off ++ ds ++ cs.drop (off + S.n)) :: h2, hg'.setBlk _, he, ⟨[_], h2, rfl, ⟨_, rfl, hp.set_ok hr hd⟩, hs2⟩, ?_⟩
 exact Frm.ofPerm hpm (Frm.setBlk (by simp [Hp.bs]))
end
end Go.Sl
namespace Go.Sl
section
variable {c : Ctx} {full : Array Oper} {l : List Oper} {Γ Γ' : Env} {H H' : List Ent} {K : Act → World → Prop} {d : Tmp} {od : Option Tmp} {ty : TypeId} {pos : String} {aft : Array Edge} {g : Option (Nat × Bool)} {α β : Type}
theorem St.own_nil {a : Act} {w : World} (T : TypeId) (R : Rep α) (ad : Option Addr) (h : St c Γ H a w) : St c Γ (own T R (.slice ad 0 0) [] :: H) a w := by
 obtain ⟨hd, hn, m, hs, hg, hG, he, hsat, hf⟩ := h
 exact ⟨hd, hn, m, hs, hg, hG, he, ⟨[], hs, rfl, .inl ⟨rfl, rfl, ad, rfl⟩, hsat⟩, hf⟩
theorem KE {Γ : Env} (T : TypeId) (R : Rep α) (ad : Option Addr) (k : Jc c full l Γ (own T R (.slice ad 0 0) [] :: H) K) : Jc c full l Γ H K :=
 fun a w Q hQ hst => k a w Q hQ (hst.own_nil T R ad)
theorem own.froze {T : TypeId} {R : Rep α} {v : Value} {xs : List α} {m : Mem} {h1 h2 : Hp} {w : World} {w0 : World} {m0 : Mem} {b0 : List Nat} (ho : (own T R v xs).p m h1) (hg : JM m (h1 ++ h2) w) (hf : Frm w0 w m0 m b0 (Hp.bs (h1 ++ h2))) :
  ∃ m', Mle m m' ∧ JM m' h2 w ∧ ((sl R).slot xs).p m' v ∧ Frm w0 w m0 m' b0 h2.bs ∧ (∀ b, b ∉ h1.bs → ∀ o, m' b o = m b o) := by
 rcases ho with ⟨rfl, rfl, a, rfl⟩ | ⟨b, cap, row, spare, rfl, rfl, hr, hc, hl⟩
 ·exact ⟨m, Mle.refl m, hg, ⟨a, 0, rfl, Nat.le_refl _, .inl rfl⟩, hf, fun _ _ _ => rfl⟩
 ·have hle := hg.le_put
  refine ⟨m.put b (row ++ spare), hle, hg.freeze, ⟨_, cap, rfl, hc, .inr ⟨b, 0, row, rfl, hr.mono hle, ?_⟩⟩, hf.freeze hle, ?_⟩
  ·intro j v e
   have := Mem.at_put m b (row ++ spare) j v (by rw [List.getElem?_append_left]; exact e; exact (List.getElem?_eq_some_iff.1 e).1)
   exact this
  ·intro b' hb o
   have hne : b' ≠ b := fun e => hb (by simp [Hp.bs, e])
   simp [Mem.put, hne]
theorem QaW {Γ : Env} {m : Mem} {a : Act} {s s' : Slot} : ∀ (ts : List Nat), Y1 Γ m a → (∀ t ∈ ts, s'.p m (a.tmps.getD t undef)) → Y1 (ts.map (fun t => (t, s')) ++ Γ) m a
 | [], h, _ => h
 | t :: ts, h, k => by
  intro t' s2 e
  by_cases ht : t = t'
  ·subst ht
   simp only [List.map_cons, List.cons_append, Zs] at e
   cases e
   exact k t (by simp)
  ·simp only [List.map_cons, List.cons_append] at e
   rw [Yw ht] at e
   exact QaW (s := s) ts h (fun u hu => k u (by simp [hu])) t' s2 e
theorem St.freeze {a : Act} {w : World} {T : TypeId} {R : Rep α} {v : Value} {xs : List α} (ts : List Nat) (hk : Pick H (own T R v xs) H') (ht : ∀ t ∈ ts, Imp Γ t (ov v)) (h : St c Γ H a w) :
  St c (ts.map (fun t => (t, (sl R).slot xs)) ++ Γ) H' a w := by
 obtain ⟨hd, hn, m, hs, hg, hG, he, ⟨h1, h2, rfl, ho, hsat⟩, hf⟩ := h.pick hk
 obtain ⟨m', hle, hg', hv, hf', _⟩ := own.froze ho hg hf
 refine ⟨hd, hn, m', h2, hg', c.G.mono hle hG, QaW (s := ov v) ts (he.mono hle) (fun t h => ?_), hsat.mono hle, hf'⟩
 have : a.tmps.getD t undef = v := (Uv.1 (ht t h m a he)).1
 rw [this]; exact hv
theorem Qcg {T : TypeId} {R : Rep α} {v : Value} {xs : List α} (ts : List Nat) (hk : Pick H (own T R v xs) H') (ht : ∀ t ∈ ts, Imp Γ t (ov v))
  (k : Jc c full l (ts.map (fun t => (t, (sl R).slot xs)) ++ Γ) H' K) : Jc c full l Γ H K := fun a w Q hQ hst => k a w Q hQ (hst.freeze ts hk ht)
theorem St.freezeBox {a : Act} {w : World} {T : TypeId} {R : Rep α} {b : Nat} {x : α} (ts : List Nat) (hk : Pick H (box b T R x) H') (ht : ∀ t ∈ ts, Imp Γ t (val (.pointer (some ⟨b, 0, none⟩)))) (h : St c Γ H a w) :
  St c (ts.map (fun t => (t, (ptr R).slot (some x))) ++ Γ) H' a w := by
 obtain ⟨hd, hn, m, hs, hg, hG, he, ⟨h1, h2, rfl, ⟨cs, rfl, hr⟩, hsat⟩, hf⟩ := h.pick hk
 have hle := hg.le_put
 refine ⟨hd, hn, m.put b cs, h2, hg.freeze, c.G.mono hle hG, QaW (s := val (.pointer (some ⟨b, 0, none⟩))) ts (he.mono hle) (fun t h => ?_), hsat.mono hle, hf.freeze hle⟩
 have : a.tmps.getD t undef = _ := ht t h m a he
 rw [this]
 exact ⟨b, 0, cs, rfl, R.mono hle hr, Mem.at_put m b cs⟩
def Src (c : Ctx) (Γ : Env) (H : List Ent) (x : Operand) (R : Rep α) (xs : List α) : Prop :=
 ∀ m hs a w, JM m hs w → Sat H m hs → Opd Γ m a x → ∃ a0 cap, a.eval x = .slice a0 xs.length cap ∧ (xs = [] ∨ ∃ b o row, a0 = some ⟨b, o, none⟩ ∧ JP R m row xs ∧ ∀ j v, row[j]? = some v → w.cell? ⟨b, o + j, none⟩ = some v)
theorem JE {x : Operand} {R : Rep α} {xs : List α} (hx : Has Γ x ((sl R).slot xs)) : Src c Γ H x R xs := by
 intro m hs a w hg _ he
 obtain ⟨a0, cap, e, hc, h⟩ := hx m a he
 simp only [List.cons.injEq, and_true] at e
 exact ⟨a0, cap, e, h.imp id fun ⟨b, o, row, e', p, q⟩ => ⟨b, o, row, e', p, fun j v ev => hg.mem _ _ _ (q j v ev)⟩⟩
theorem QkB {x : Operand} {T : TypeId} {v : Value} {R : Rep α} {xs : List α} (hx : Has Γ x (ov v)) (hk : Pick H (own T R v xs) H') : Src c Γ H x R xs := by
 intro m hs a w hg hsat he
 have e : a.eval x = v := (Uv.1 (hx m a he)).1
 obtain ⟨h1, h2, hp, ho, _⟩ := hsat.pick hk
 rw [e]
 rcases ho with ⟨rfl, _, ad, rfl⟩ | ⟨b, cap, row, spare, rfl, rfl, hr, hc, hl⟩
 ·exact ⟨ad, 0, rfl, .inl rfl⟩
 ·refine ⟨_, cap, rfl, .inr ⟨b, 0, row, rfl, hr, fun j u ev => ?_⟩⟩
  have hmem : (b, T, row ++ spare) ∈ hs := hp.mem_iff.2 (by simp)
  rw [Nat.zero_add]
  exact hg.cells hmem j u (by rw [List.getElem?_append_left]; exact ev; exact (List.getElem?_eq_some_iff.1 ev).1)
theorem QjC {x : Operand} {T b lo n cap N : Nat} {R : Rep α} {v : Vector α N} (hx : Has Γ x (val (.slice (some ⟨b, lo * R.n, none⟩) n cap))) (hk : Pick H (box b T (vec N R) v) H') (hn : lo + n ≤ N) :
  Src c Γ H x R ((v.toList.drop lo).take n) := by
 intro m hs a w hg hsat he
 have e : a.eval x = _ := hx m a he
 obtain ⟨cs, hmem, hr⟩ := Sat.box (w := w) hsat hk
 have hlen : ((v.toList.drop lo).take n).length = n := by simp; omega
 refine ⟨_, cap, by rw [e, hlen], .inr ⟨b, lo * R.n, (cs.drop (lo * R.n)).take (n * R.n), rfl, (JP.drop lo hr).take n, fun j u ev => ?_⟩⟩
 rw [List.getElem?_take] at ev
 split at ev
 ·rw [List.getElem?_drop] at ev; exact hg.cells hmem _ _ ev
 ·cases ev
theorem Src.run {R : Rep α} {xs : List α} {P : Program} {a0 : Option Addr} {m : Mem} {w : World} {cap : Nat}
  (h : xs = [] ∨ ∃ b o row, a0 = some ⟨b, o, none⟩ ∧ JP R m row xs ∧ ∀ j v, row[j]? = some v → w.cell? ⟨b, o + j, none⟩ = some v) (k : Nat) (hk : k ≤ xs.length) :
  ∃ row, (Builtin.firstCells R.n k (.slice a0 k cap)).run P w = .ok row.toArray w ∧ JP R m row (xs.take k) ∧ (Builtin.firstCells R.n k (.slice a0 xs.length cap)).run P w = .ok row.toArray w := by
 rcases h with rfl | ⟨b, o, row, rfl, hr, hcl⟩
 ·have : k = 0 := by simpa using hk
  subst this
  refine ⟨[], ?_, rfl, ?_⟩ <;> (cases a0 <;> simp [Builtin.firstCells, loadCells, loadCellsFrom])
 ·have hr' := hr.take k
  have hl : (row.take (k * R.n)).length = k * R.n := by
   rw [hr'.length, List.length_take, Nat.min_eq_left hk]
  have hrun : (loadCells ⟨b, o, none⟩ (k * R.n)).run P w = .ok (row.take (k * R.n)).toArray w := by
   have := run_loadCells_list (P := P) w ⟨b, o, none⟩ (row.take (k * R.n)) (fun j v e => by
    rw [Addr.add_lit]
    rw [List.getElem?_take] at e
    split at e
    ·exact hcl j v e
    ·cases e)
   rwa [hl] at this
  exact ⟨_, hrun, hr', hrun⟩
def slE (P : Program) (ST T n : Nat) : Bool :=
 (match P.underlying ST with
  | some (.slice e) => e == T
  | _ => false) && (match P.info? T with
  | some i => i.size == n && decide (0 < i.bytes) && decide (i.bytes ≤ 4096) && (match i.zero with | some v => v.cells.size == n | none => false)
  | none => false)
theorem qQ {P : Program} {ST T n : Nat} (h : slE P ST T n = true) :
  P.underlying ST = some (.slice T) ∧ ∃ i v, P.info? T = some i ∧ i.size = n ∧ 0 < i.bytes ∧ i.bytes ≤ 4096 ∧ i.zero = some v ∧ v.cells.size = n := by
 simp only [slE, Bool.and_eq_true] at h
 obtain ⟨h1, h2⟩ := h
 constructor
 ·split at h1
  ·rename_i e hu; have : e = T := by simpa using h1
   rw [hu, this]
  ·cases h1
 ·split at h2
  ·rename_i i hi
   simp only [Bool.and_eq_true, decide_eq_true_eq] at h2
   obtain ⟨⟨⟨h3, h4⟩, h5⟩, h6⟩ := h2
   split at h6
   ·rename_i v hv
    exact ⟨i, v, hi, by simpa using h3, h4, h5, hv, by simpa using h6⟩
   ·cases h6
  ·cases h2
theorem Kn (need old : Nat) (h : old < need) : Builtin.nextslicecap need old ≤ 4 * need + 4096 := by
 unfold Builtin.nextslicecap
 split
 ·omega
 ·split
  ·omega
  ·have key : ∀ r c, c ≤ 2 * need + 1000 → Builtin.growBy need r c ≤ 3 * need + 2000 := by
    intro r
    induction r with
    | zero => intro c hc; unfold Builtin.growBy; omega
    | succ r ih =>
     intro c hc
     unfold Builtin.growBy
     split
     ·omega
     ·exact ih _ (by omega)
   have := key 4 old (by omega)
   omega
theorem Qbp {P : Program} {w w' : World} {ST XT T rt E : TypeId} {size sLen sCap n c0 : Nat} {base a0 : Option Addr} {new : Array Value}
  (hu : P.underlying ST = some (.slice T)) (hX : P.underlying XT = some (.slice E)) (hsize : (sizeOf T).run P w = .ok size w) (hfit : sLen + n ≤ sCap)
  (hrun : (Builtin.firstCells size n (.slice a0 n c0)).run P w = .ok new w)
  (hst : (match base with | some a => storeCells (a.add (sLen * size)) new.toList | none => pure ()).run P w = .ok () w') :
  (Builtin.append_ #[ST, XT] rt #[.slice base sLen sCap, .slice a0 n c0]).run P w = .ok (.slice base (sLen + n) sCap) w' := by
 simp only [Builtin.append_, List.getElem?_toArray, List.getElem?_cons_zero, List.getElem?_cons_succ]
 simp only [Sem.run_bind, run_underlying hu, run_underlying hX, Result.andThen_ok, hsize, Sem.run_pure, Bool.false_eq_true, if_false, Builtin.lenOf, Bool.not_false, if_true, hfit, hrun]
 cases base with
 | none => simp only [Sem.run_pure, Result.ok.injEq, true_and] at hst; subst hst; rfl
 | some ad => simp only [Sem.run_bind, hst, Result.andThen_ok, Sem.run_pure]
theorem Qav {P : Program} {w : World} {ST XT T rt E : TypeId} {size sLen sCap n c0 : Nat} {base a0 : Option Addr} {old new : Array Value} {i : TypeInfo} {z : Value}
  (hu : P.underlying ST = some (.slice T)) (hX : P.underlying XT = some (.slice E)) (hi : P.info? T = some i) (hsz : i.size = size) (hz : i.zero = some z) (hb0 : 0 < i.bytes) (hfit : ¬ sLen + n ≤ sCap)
  (hcap : ¬ (Builtin.nextslicecap (sLen + n) sCap * i.bytes > 2 ^ 48))
  (hold : (Builtin.firstCells size sLen (.slice base sLen sCap)).run P w.drew = .ok old w.drew)
  (hnew : (Builtin.firstCells size n (.slice a0 n c0)).run P w.drew = .ok new w.drew) :
  ∃ newCap, sLen + n ≤ newCap ∧ (Builtin.append_ #[ST, XT] rt #[.slice base sLen sCap, .slice a0 n c0]).run P w =
   .ok (.slice (some ⟨w.heap.size, 0, none⟩) (sLen + n) newCap) (w.drew.alloc (.cells (old ++ new ++ Builtin.zeroCells z.cells (newCap - (sLen + n))) T)) := by
 refine ⟨(Question.appendCap (sLen + n) sCap T).cut (w.tape w.drawn (.appendCap (sLen + n) sCap T)), Nat.le_add_right _ _, ?_⟩
 have hnm : ¬ (((sLen + n : Nat) : Int) > IntKind.i64.max ∧ (False ∨ i.bytes = 0)) := by
  rintro ⟨_, h | h⟩
  ·exact h
  ·omega
 have hti : ∀ w : World, (typeInfo T).run P w = .ok i w := fun w => by simp [typeInfo, hi]
 have hzv : ∀ w : World, (zeroValue T).run P w = .ok z w := fun w => by simp [zeroValue, hti, hz]
 have hsize : ∀ w : World, (sizeOf T).run P w = .ok size w := fun w => by simp [sizeOf, hti, hsz]
 have hch : (choose (.appendCap (sLen + n) sCap T)).run P w = .ok ((Question.appendCap (sLen + n) sCap T).cut (w.tape w.drawn (.appendCap (sLen + n) sCap T))) w.drew := by
  rw [run_choose]; rfl
 have hnm2 : ¬ (((sLen + n : Nat) : Int) > IntKind.i64.max ∧ ((false = true) ∨ i.bytes = 0)) := by simpa using hnm
 simp only [Builtin.append_, List.getElem?_toArray, List.getElem?_cons_zero, List.getElem?_cons_succ]
 simp only [Sem.run_bind, run_underlying hu, run_underlying hX, Result.andThen_ok, hsize, Sem.run_pure, Bool.false_eq_true, if_false, Builtin.lenOf, Bool.not_false, if_true, hfit, hti, hcap, hch, run_askRoom, hold, hnew, hzv, newRow]
 have hnm3 : ¬ (((sLen + n : Nat) : Int) > IntKind.i64.max ∧ (False ∨ i.bytes = 0)) := hnm
 simp only [hnm3, if_false, Sem.run_bind, hti, Result.andThen_ok, hcap, hch, run_askRoom, hold, hnew, hzv, run_newObj, Sem.run_pure, Sem.run_ite]
 rfl
theorem Qck {P : Program} {w : World} {m : Mem} {h1 h2 : Hp} {ST XT T rt E : TypeId} {R : Rep α} {v : Value} {ys xs : List α} {a0 : Option Addr} {cap0 : Nat}
  (hT : slE P ST T R.n = true) (hX : P.underlying XT = some (.slice E)) (hg : JM m (h1 ++ h2) w) (ho : (own T R v ys).p m h1)
  (hsrc : xs = [] ∨ ∃ b o row, a0 = some ⟨b, o, none⟩ ∧ JP R m row xs ∧ ∀ j v, row[j]? = some v → w.cell? ⟨b, o + j, none⟩ = some v) (hb : ys.length + xs.length ≤ 4294967296) :
  ∃ v' h1' w', (Builtin.append_ #[ST, XT] rt #[v, .slice a0 xs.length cap0]).run P w = .ok v' w' ∧ (own T R v' (ys ++ xs)).p m h1' ∧ JM m (h1' ++ h2) w' ∧ Frm w w' m m (Hp.bs (h1 ++ h2)) (Hp.bs (h1' ++ h2)) := by
 obtain ⟨hu, i, z, hi, hsz, hb0, hb1, hz, hzc⟩ := qQ hT
 obtain ⟨rx, hrunT, hrx, hrun⟩ := Src.run (P := P) (R := R) (cap := cap0) hsrc xs.length (Nat.le_refl _)
 rw [List.take_length] at hrx
 obtain ⟨av, capv, hv, hcv⟩ := own.shape ho
 have hsize : (sizeOf T).run P w = .ok R.n w := by simp [sizeOf, typeInfo, hi, hsz]
 by_cases hfit : ys.length + xs.length ≤ capv
 ·rcases ho with ⟨rfl, rfl, ad, hv2⟩ | ⟨b, cap, row, spare, hv2, rfl, hr, hc, hl⟩
  ·rw [hv2] at hv ⊢
   simp only [List.length_nil, Value.slice.injEq] at hv
   obtain ⟨_, _, rfl⟩ := hv
   have hx0 : xs = [] := by simpa using hfit
   subst hx0
   have hrx0 : rx = [] := by simpa [JP] using hrx
   subst hrx0
   refine ⟨.slice ad 0 0, [], w, ?_, .inl ⟨rfl, rfl, ad, rfl⟩, by simpa using hg, by simpa using Frm.refl w m h2.bs⟩
   exact Qbp hu hX hsize (by simp) hrun (by cases ad <;> simp [storeCells])
  ·rw [hv2] at hv ⊢
   simp only [Value.slice.injEq] at hv
   obtain ⟨_, _, rfl⟩ := hv
   have hlr := hr.length
   have hlx := hrx.length
   have hcells : (ys.length + xs.length) * R.n ≤ (row ++ spare).length := by rw [hl]; exact Nat.mul_le_mul_right _ hfit
   rw [Nat.add_mul] at hcells
   have hblk := hg.blk (b, T, row ++ spare) (by simp)
   have hst := VX (P := P) (b := b) (o := ys.length * R.n) (T := T) rx 0 (row ++ spare) w hrx.cell hblk (by rw [hlx]; omega)
   simp only [Nat.add_zero] at hst
   have etake : (row ++ spare).take (ys.length * R.n) = row := by rw [← hlr, List.take_left']; rfl
   rw [etake, List.append_assoc] at hst
   refine ⟨.slice (some ⟨b, 0, none⟩) (ys.length + xs.length) cap, [(b, T, row ++ (rx ++ (row ++ spare).drop (ys.length * R.n + rx.length)))], _, ?_, ?_, hg.setBlk _, Frm.setBlk (by simp [Hp.bs])⟩
   ·exact Qbp hu hX hsize hfit hrun (by simpa [Addr.add_lit] using hst)
   ·refine .inr ⟨b, cap, row ++ rx, (row ++ spare).drop (ys.length * R.n + rx.length), by simp, by simp, hr.append hrx, by simpa using hfit, ?_⟩
    rw [List.length_append, List.length_append, List.length_drop, hlx, hlr, hl]
    rw [hl] at hcells
    omega
 ·have hro : (∃ rowo, JP R m rowo ys ∧ (Builtin.firstCells R.n ys.length (.slice av ys.length capv)).run P (w.drew) = .ok rowo.toArray w.drew) := by
   rcases ho with ⟨rfl, rfl, ad, hv2⟩ | ⟨b, cap, row, spare, hv2, rfl, hr, hc, hl⟩
   ·refine ⟨[], rfl, ?_⟩
    cases av <;> simp [Builtin.firstCells, loadCells, loadCellsFrom]
   ·rw [hv2] at hv
    simp only [Value.slice.injEq] at hv
    obtain ⟨rfl, _, rfl⟩ := hv
    refine ⟨row, hr, ?_⟩
    have := run_loadCells_list (P := P) w.drew ⟨b, 0, none⟩ row (fun j u e => by
     rw [Addr.add_lit, Nat.zero_add]
     exact hg.drew.cells (T := T) (cs := row ++ spare) (by simp) j u (by rw [List.getElem?_append_left]; exact e; exact (List.getElem?_eq_some_iff.1 e).1))
    rw [hr.length] at this
    exact this
  obtain ⟨rowo, hro, hrunO⟩ := hro
  obtain ⟨rx', _, hrx', hrun'⟩ := Src.run (P := P) (R := R) (w := w.drew) (cap := cap0) (m := m) (a0 := a0) (xs := xs) hsrc xs.length (Nat.le_refl _)
  rw [List.take_length] at hrx'
  have hcap := Kn (ys.length + xs.length) capv (by omega)
  have hnb : ¬ (Builtin.nextslicecap (ys.length + xs.length) capv * i.bytes > 2 ^ 48) := by
   have h1 : Builtin.nextslicecap (ys.length + xs.length) capv ≤ 4 * 4294967296 + 4096 := by omega
   have h2 : Builtin.nextslicecap (ys.length + xs.length) capv * i.bytes ≤ (4 * 4294967296 + 4096) * 4096 := Nat.mul_le_mul h1 hb1
   have h3 : (4 * 4294967296 + 4096) * 4096 ≤ 2 ^ 48 := by decide
   omega
  obtain ⟨newCap, hnc, happ⟩ := Qav (P := P) (rt := rt) (z := z) hu hX hi hsz hz hb0 hfit hnb hrunO hrun'
  rw [hv]
  have hzc' : z.cells.size = R.n := hzc
  let rest := (Builtin.zeroCells z.cells (newCap - (ys.length + xs.length))).toList
  have hrl : rest.length = (newCap - (ys.length + xs.length)) * R.n := by simp [rest, Builtin.zeroCells, hzc']
  have hcs : rowo.toArray ++ rx'.toArray ++ Builtin.zeroCells z.cells (newCap - (ys.length + xs.length)) = ((rowo ++ rx') ++ rest).toArray := by
   simp [rest]
  rw [hcs] at happ
  refine ⟨_, [(w.heap.size, T, (rowo ++ rx') ++ rest)], _, happ, .inr ⟨w.heap.size, newCap, rowo ++ rx', rest, by simp, rfl, hro.append hrx', by simpa using hnc, ?_⟩, ?_, ?_⟩
  ·rw [List.length_append, List.length_append, hro.length, hrx'.length, hrl, ← Nat.add_mul, ← Nat.add_mul]
   congr 1; omega
  ·exact (JM.sub hg).drew.newOwn T _
  ·have h3 := Frm.alloc w.drew m h2.bs (.cells ((rowo ++ rx') ++ rest).toArray T)
   have h4 : Frm w w.drew m m (Hp.bs (h1 ++ h2)) h2.bs := (Frm.drew w m _).sub fun b hb => by rw [Hp.bs_append]; exact List.mem_append.2 (.inr hb)
   exact h4.trans h3
theorem JQ {ST XT T E : TypeId} {x y : Operand} {R : Rep α} {v : Value} {ys xs : List α} (hx : Has Γ x (ov v)) (hk : Pick H (own T R v ys) H') (hy : Src c Γ H y R xs)
  (hT : slE c.P ST T R.n = true) (hX : c.P.underlying XT = some (.slice E)) (hb : ys.length + xs.length ≤ 4294967296) (hN : Nat.blt d c.N = true)
  (k : ∀ v', Jc c full l ((d, ov v') :: Γ) (own T R v' (ys ++ xs) :: H') K) :
  Jc c full (⟨some d, .call { callee := .builtin .append, args := #[x, y], argTypes := #[ST, XT] }, ty, pos, aft, none⟩ :: l) Γ H K := by
 refine VD (Γ2 := fun v' => (d, ov v') :: Γ) (H2 := fun v' => own T R v' (ys ++ xs) :: H') rfl ?_ k
 intro m hs a w hg _ hsat he hn
 have ex : a.eval x = v := (Uv.1 (hx m a (he.opd x))).1
 obtain ⟨a0, cap0, ey, hsrc⟩ := hy m hs a w hg hsat (he.opd y)
 obtain ⟨h1, h2, hpm, ho, hs2⟩ := hsat.pick hk
 have hsrc' : xs = [] ∨ ∃ b o row, a0 = some ⟨b, o, none⟩ ∧ JP R m row xs ∧ ∀ j v, row[j]? = some v → w.cell? ⟨b, o + j, none⟩ = some v := hsrc
 obtain ⟨v', h1', w', hrun, ho', hg', hf'⟩ := Qck (rt := ty) (cap0 := cap0) hT hX (hg.perm hpm) ho hsrc' hb
 have hr : (execOp a.eval ⟨some d, .call { callee := .builtin .append, args := #[x, y], argTypes := #[ST, XT] }, ty, pos, aft, none⟩).run c.P w = .ok (.value v') w' := by
  simp only [execOp, resolve, Sem.run_bind, Sem.run_pure, Result.andThen_ok, invoke, builtin]
  simp only [List.map_toArray, List.map_cons, List.map_nil, ex, ey, hrun, Result.andThen_ok]
 rw [hr]
 exact ⟨v', m, h1' ++ h2, hg', he.put (by rw [hn]; simpa [Nat.blt_eq] using hN) (Uv.2 ⟨rfl, own.one ho'⟩), ⟨h1', h2, rfl, ho', hs2⟩, Frm.ofPerm hpm hf'⟩
end
end Go.Sl
namespace Go.Sl
section
variable {c : Ctx} {full : Array Oper} {l : List Oper} {Γ Γ' : Env} {H H' : List Ent} {K : Act → World → Prop} {d : Tmp} {od : Option Tmp} {ty : TypeId} {pos : String} {aft : Array Edge} {g : Option (Nat × Bool)} {α β : Type}
def UF (Γ : Env) : List Operand → List Slot → Prop
 | [], ss => ss = []
 | x :: xs, ss => ∃ s ss', ss = s :: ss' ∧ Has Γ x s ∧ UF Γ xs ss'
theorem Q3 : UF Γ [] [] := rfl
theorem Zo {x : Operand} {xs : List Operand} {s : Slot} {ss : List Slot} (h : Has Γ x s) (k : UF Γ xs ss) : UF Γ (x :: xs) (s :: ss) := ⟨s, ss, rfl, h, k⟩
theorem UF.all {m : Mem} {a : Act} : ∀ {xs : List Operand} {ss : List Slot}, UF Γ xs ss → (∀ x ∈ xs, Opd Γ m a x) → UA m ss (xs.map a.eval)
 | [], _, h, _ => by cases h; rfl
 | x :: xs, _, ⟨s, ss', e, h, k⟩, ho => by subst e; exact ⟨_, _, rfl, h m a (ho x (by simp)), UF.all k (fun y hy => ho y (by simp [hy]))⟩
def K1 (P : Program) (f : FuncId) : Bool :=
 match P.funcs[f]? with
 | some fn => fn.name != "runtime.NumGoroutine" && fn.body.isSome
 | none => false
theorem Bj {P : Program} {f : FuncId} (h : K1 P f = true) (args : Array Value) (w : World) : (callFunc f args).run P w = .ok (.enter f args) w := by
 unfold K1 at h
 split at h
 ·rename_i fn hf
  simp only [Bool.and_eq_true] at h
  obtain ⟨h1, h2⟩ := h
  have e1 : (fn.name == "runtime.NumGoroutine") = false := by simpa [bne] using h1
  have e2 : fn.body.isNone = false := by cases hb : fn.body <;> simp [hb] at h2 ⊢
  simp only [callFunc, Sem.run_bind, run_program, Result.andThen_ok, hf, e1, Bool.false_eq_true, if_false, e2, Sem.run_pure]
 ·cases h
theorem KG {P : Program} {f : FuncId} (h : K1 P f = true) (ρ : Operand → Value) (x : Operand) (hx : ρ x = .func (.func f) #[] #[]) (args : List Operand) (ats : Array TypeId) (w : World) (od : Option Tmp) (g : Option (Nat × Bool)) :
  (execOp ρ ⟨od, .call { callee := .value x, args := args.toArray, argTypes := ats }, ty, pos, aft, g⟩).run P w = .ok (.enter f (args.map ρ).toArray) w := by
 simp only [execOp, resolve, Sem.run_bind, hx, Deferred.ofValue, Sem.run_pure, Result.andThen_ok, invoke]
 rw [Bj h]
 simp
theorem Qki {x : Operand} {f : FuncId} {args : List Operand} {ats : Array TypeId} {A : List Slot} {ι : Type} {s : Slot} {ε : ι → List Ent} (hx : Has Γ x (val (.func (.func f) #[] #[]))) (hA : UF Γ args A) (hf : K1 c.P f = true)
  (hC : Ctr c.P c.G f A [] (fun _ : ι => s) (fun _ => [])) : PJ c ⟨od, .call { callee := .value x, args := args.toArray, argTypes := ats }, ty, pos, aft, g⟩ Γ H s := by
 intro m hs a w hg hG hsat ho
 have hxe : a.eval x = _ := hx m a (ho x (by simp [Op.operands, Call.operands]))
 rw [KG hf a.eval x hxe]
 have hall := hA.all (m := m) (a := a) (fun y hy => ho y (by simp [Op.operands, Call.operands, hy]))
 have hg0 : JM m [] w := ⟨hg.mem, List.nodup_nil, (fun _ h => by cases h), (fun _ h => by cases h)⟩
 refine (hC m w (args.map a.eval) [] hg0 hG hall rfl).mono ?_
 rintro e w' ⟨v, m', hs', i, rfl, hg', hv, hsat', hf'⟩
 cases hsat'
 refine ⟨v, rfl, m', ?_, hv, hf'⟩
 refine ⟨hg'.mem, hg.nodup, fun x hx => ?_, fun x hx o => ?_⟩
 ·have hlt := hg.ltb (List.mem_map_of_mem (f := (·.1)) hx)
  rw [(hf'.old x.1 hlt (by simp [Hp.bs])).1]
  exact hg.blk x hx
 ·have hlt := hg.ltb (List.mem_map_of_mem (f := (·.1)) hx)
  rw [(hf'.old x.1 hlt (by simp [Hp.bs])).2 o]
  exact hg.free x hx o
theorem Qka {f : FuncId} {args : List Operand} {ats : Array TypeId} {A : List Slot} {s : Slot} (hA : UF Γ args A) (hf : K1 c.P f = true)
  (hC : Ctr c.P c.G f A [] (fun _ : Unit => s) (fun _ => [])) : PJ c ⟨od, .call { callee := .value (.func f), args := args.toArray, argTypes := ats }, ty, pos, aft, g⟩ Γ H s :=
 Qki (ε := fun _ : Unit => []) QaM hA hf hC
def ext (m : Mem) (hs : Hp) : Mem := fun b o => match hs.find? (fun h => h.1 == b) with | some h => h.2.2[o]? | none => m b o
theorem WA {m : Mem} {hs : Hp} {b : Nat} {T : TypeId} {cs : List Value} (hn : hs.bs.Nodup) (h : (b, T, cs) ∈ hs) (o : Nat) : ext m hs b o = cs[o]? := by
 have : hs.find? (fun h => h.1 == b) = some (b, T, cs) := by
  induction hs with
  | nil => cases h
  | cons x xs ih =>
   simp only [Hp.bs, List.map_cons, List.nodup_cons] at hn
   rcases List.mem_cons.1 h with rfl | h'
   ·simp
   ·have hne : x.1 ≠ b := fun e => hn.1 (by rw [e]; exact List.mem_map_of_mem (f := (·.1)) h')
    rw [List.find?_cons_of_neg (by simpa using hne)]
    exact ih hn.2 h'
 simp [ext, this]
theorem QbV {m : Mem} {hs : Hp} {b : Nat} (h : b ∉ hs.bs) (o : Nat) : ext m hs b o = m b o := by
 have : hs.find? (fun h => h.1 == b) = none := by
  rw [List.find?_eq_none]
  intro x hx e
  exact h (by
   have : x.1 = b := by simpa using e
   rw [← this]; exact List.mem_map_of_mem (f := (·.1)) hx)
 simp [ext, this]
theorem KT {m : Mem} {hs : Hp} {w : World} (hg : JM m hs w) : Mle m (ext m hs) := by
 intro b o v e
 by_cases hb : b ∈ hs.bs
 ·obtain ⟨x, hx, rfl⟩ := List.mem_map.1 hb
  rw [hg.free x hx o] at e; cases e
 ·rw [QbV hb]; exact e
theorem JM.ext {m : Mem} {hs : Hp} {w : World} (hg : JM m hs w) : JM (ext m hs) [] w where
 mem := fun b o v e => by
  by_cases hb : b ∈ hs.bs
  ·obtain ⟨x, hx, rfl⟩ := List.mem_map.1 hb
   rw [WA (T := x.2.1) (cs := x.2.2) hg.nodup hx] at e
   exact hg.cells (T := x.2.1) (cs := x.2.2) hx o v e
  ·rw [QbV hb] at e; exact hg.mem b o v e
 nodup := List.nodup_nil
 blk := fun _ h => by cases h
 free := fun _ h => by cases h
def QeY (c : Ctx) (Γ : Env) (H : List Ent) (x : Operand) (s : Slot) : Prop :=
 ∀ m hs a w, JM m hs w → Sat H m hs → Opd Γ m a x → s.p (ext m hs) (a.eval x)
theorem Yr {x : Operand} {s : Slot} (h : Has Γ x s) : QeY c Γ H x s := fun m hs a w hg _ ho => s.mono (KT hg) (h m a ho)
theorem VO {x : Operand} {T : TypeId} {v : Value} {R : Rep α} {xs : List α} (hx : Has Γ x (ov v)) (hk : Pick H (own T R v xs) H') : QeY c Γ H x ((sl R).slot xs) := by
 intro m hs a w hg hsat ho
 have e : a.eval x = v := (Uv.1 (hx m a ho)).1
 rw [e]
 obtain ⟨h1, h2, hp, ho, _⟩ := hsat.pick hk
 rcases ho with ⟨rfl, _, ad, rfl⟩ | ⟨b, cap, row, spare, rfl, rfl, hr, hc, hl⟩
 ·exact ⟨ad, 0, rfl, Nat.le_refl _, .inl rfl⟩
 ·refine ⟨_, cap, rfl, hc, .inr ⟨b, 0, row, rfl, hr.mono (KT hg), fun j u ev => ?_⟩⟩
  rw [WA (T := T) (cs := row ++ spare) hg.nodup (hp.mem_iff.2 (by simp)), Nat.zero_add, List.getElem?_append_left]
  ·exact ev
  ·exact (List.getElem?_eq_some_iff.1 ev).1
theorem QfF {x : Operand} {T b lo n cap N : Nat} {R : Rep α} {v : Vector α N} (hx : Has Γ x (val (.slice (some ⟨b, lo * R.n, none⟩) n cap))) (hk : Pick H (box b T (vec N R) v) H') (hn : lo + n ≤ N) (hc : n ≤ cap) :
  QeY c Γ H x ((sl R).slot ((v.toList.drop lo).take n)) := by
 intro m hs a w hg hsat ho
 have e : a.eval x = _ := hx m a ho
 rw [e]
 obtain ⟨cs, hmem, hr⟩ := Sat.box (w := w) hsat hk
 have hlen : ((v.toList.drop lo).take n).length = n := by simp; omega
 refine ⟨_, cap, by rw [hlen], by rw [hlen]; exact hc, .inr ⟨b, lo * R.n, (cs.drop (lo * R.n)).take (n * R.n), rfl, ((JP.drop lo hr).take n).mono (KT hg), fun j u ev => ?_⟩⟩
 rw [WA (T := T) (cs := cs) hg.nodup hmem]
 rw [List.getElem?_take] at ev
 split at ev
 ·rwa [List.getElem?_drop] at ev
 ·cases ev
def qA (c : Ctx) (Γ : Env) (H : List Ent) : List Operand → List Slot → Prop
 | [], ss => ss = []
 | x :: xs, ss => ∃ s ss', ss = s :: ss' ∧ QeY c Γ H x s ∧ qA c Γ H xs ss'
theorem Zj : qA c Γ H [] [] := rfl
theorem Q1 {x : Operand} {xs : List Operand} {s : Slot} {ss : List Slot} (h : QeY c Γ H x s) (k : qA c Γ H xs ss) : qA c Γ H (x :: xs) (s :: ss) := ⟨s, ss, rfl, h, k⟩
theorem qA.all {m : Mem} {a : Act} {hs : Hp} {w : World} (hg : JM m hs w) (hsat : Sat H m hs) : ∀ {xs : List Operand} {ss : List Slot}, qA c Γ H xs ss → (∀ x ∈ xs, Opd Γ m a x) → UA (ext m hs) ss (xs.map a.eval)
 | [], _, h, _ => by cases h; rfl
 | x :: xs, _, ⟨s, ss', e, h, k⟩, ho => by subst e; exact ⟨_, _, rfl, h m hs a w hg hsat (ho x (by simp)), qA.all hg hsat k (fun y hy => ho y (by simp [hy]))⟩
def cut (m' m : Mem) (bs : List Nat) : Mem := fun b o => if b ∈ bs then m b o else m' b o
theorem QkV {m m' : Mem} {hs hs' : Hp} {w w' : World} (hg : JM m hs w) (hg' : JM m' hs' w') (hf : Frm w w' (ext m hs) m' [] hs'.bs) :
  JM (cut m' m hs.bs) (hs' ++ hs) w' ∧ Frm w w' m (cut m' m hs.bs) hs.bs (hs' ++ hs).bs := by
 have hold : ∀ x ∈ hs, w'.heap[x.1]? = w.heap[x.1]? := fun x hx => (hf.old x.1 (hg.ltb (List.mem_map_of_mem (f := (·.1)) hx)) (by simp)).1
 have hdis : ∀ b ∈ hs'.bs, b ∉ hs.bs := fun b hb h2 => by
  have h1 := (hf.own b hb).resolve_left (by simp)
  exact absurd (hg.ltb h2) (Nat.not_lt.2 h1)
 refine ⟨⟨fun b o v e => ?_, ?_, fun x hx => ?_, fun x hx o => ?_⟩, ?_⟩
 ·unfold cut at e
  split at e
  ·rename_i hb
   obtain ⟨x, hx, rfl⟩ := List.mem_map.1 hb
   rw [hg.free x hx o] at e; cases e
  ·exact hg'.mem b o v e
 ·rw [Hp.bs_append]
  exact List.nodup_append.2 ⟨hg'.nodup, hg.nodup, fun x hx y hy e => hdis x hx (e ▸ hy)⟩
 ·rcases List.mem_append.1 hx with hx | hx
  ·exact hg'.blk x hx
  ·rw [hold x hx]; exact hg.blk x hx
 ·rcases List.mem_append.1 hx with hx | hx
  ·have : x.1 ∉ hs.bs := hdis x.1 (List.mem_map_of_mem (f := (·.1)) hx)
   simp only [cut, if_neg this]
   exact hg'.free x hx o
  ·have : x.1 ∈ hs.bs := List.mem_map_of_mem (f := (·.1)) hx
   simp only [cut, if_pos this]
   exact hg.free x hx o
 ·refine ⟨hf.os, hf.tape, hf.output, hf.size, fun b hb hn => ⟨(hf.old b hb (by simp)).1, fun o => ?_⟩, fun b hb => ?_, fun b o v e => ?_⟩
  ·simp only [cut, if_neg hn]
   rw [(hf.old b hb (by simp)).2 o, QbV hn]
  ·rw [Hp.bs_append, List.mem_append] at hb
   rcases hb with hb | hb
   ·exact .inr ((hf.own b hb).resolve_left (by simp))
   ·exact .inl hb
  ·unfold cut
   split
   ·exact e
   ·exact hf.le b o v (KT hg b o v e)
theorem Yo {f : FuncId} {args : List Operand} {ats : Array TypeId} {A : List Slot} {s : Slot} (hA : qA c Γ H args A) (hf : K1 c.P f = true)
  (hC : Ctr c.P c.G f A [] (fun _ : Unit => s) (fun _ => [])) (hs : s.flat) : PJ c ⟨od, .call { callee := .value (.func f), args := args.toArray, argTypes := ats }, ty, pos, aft, g⟩ Γ H s := by
 intro m hs2 a w hg hG hsat ho
 rw [KG hf a.eval (.func f) rfl]
 have hall := hA.all (m := m) (a := a) hg hsat (fun y hy => ho y (by simp [Op.operands, Call.operands, hy]))
 refine (hC (ext m hs2) w (args.map a.eval) [] hg.ext (c.G.mono (KT hg) hG) hall rfl).mono ?_
 rintro e w' ⟨v, m', hs', i, rfl, hg', hv, hsat', hf'⟩
 cases hsat'
 obtain ⟨h1, h2⟩ := QkV hg hg' hf'
 refine ⟨v, rfl, cut m' m hs2.bs, by simpa using h1, hs _ _ _ hv, ?_⟩
 refine { h2 with old := fun b hb _ => ?_, own := fun b hb => by cases hb }
 by_cases hbb : b ∈ hs2.bs
 ·refine ⟨(hf'.old b hb (by simp [Hp.bs])).1, fun o => ?_⟩
  simp only [cut, if_pos hbb]
 ·exact h2.old b hb hbb
def Ent.flat (e : Ent) : Prop := ∀ m m' h, e.p m h → e.p m' h
theorem QeN {T : TypeId} {R : Rep α} (h : R.flat) (v : Value) (xs : List α) : (own T R v xs).flat := fun m m' hs ho => ho.imp id fun ⟨b, cap, row, spare, e, e', p, q⟩ => ⟨b, cap, row, spare, e, e', p.flat h, q⟩
theorem Sat.flat {m m' : Mem} : ∀ {H : List Ent} {hs : Hp}, (∀ e ∈ H, e.flat) → Sat H m hs → Sat H m' hs
 | [], _, _, h => h
 | e :: _, _, k, ⟨h1, h2, he, p, q⟩ => ⟨h1, h2, he, k e (by simp) _ _ _ p, Sat.flat (fun e h => k e (by simp [h])) q⟩
theorem QjP {f : FuncId} {args : List Operand} {ats : Array TypeId} {A : List Slot} {ι : Type} {ρ : ι → Slot} {ε : ι → List Ent} (hA : qA c Γ H args A) (hf : K1 c.P f = true)
  (hC : Ctr c.P c.G f A [] ρ ε) (hs : ∀ i, (ρ i).flat) (he : ∀ i, ∀ e ∈ ε i, e.flat) (hN : Nat.blt d c.N = true)
  (k : ∀ i, Jc c full l ((d, ρ i) :: Γ) (ε i ++ H) K) : Jc c full (⟨some d, .call { callee := .value (.func f), args := args.toArray, argTypes := ats }, ty, pos, aft, none⟩ :: l) Γ H K := by
 refine VD (Γ2 := fun i => (d, ρ i) :: Γ) (H2 := fun i => ε i ++ H) rfl ?_ k
 intro m hs2 a w hg hG hsat hen hn
 rw [KG hf a.eval (.func f) rfl]
 have hall := hA.all (m := m) (a := a) hg hsat (fun y _ => hen.opd y)
 refine (hC (ext m hs2) w (args.map a.eval) [] hg.ext (c.G.mono (KT hg) hG) hall rfl).mono ?_
 rintro e w' ⟨v, m', hs', i, rfl, hg', hv, hsat', hf'⟩
 obtain ⟨h1, h2⟩ := QkV hg hg' hf'
 have hle : Mle m (cut m' m hs2.bs) := h2.le
 exact ⟨v, rfl, i, _, _, h1, (hen.mono hle).put (by rw [hn]; simpa [Nat.blt_eq] using hN) (hs i _ _ _ hv), (hsat'.flat (he i)).append (hsat.mono hle), h2⟩
inductive Parts : List Ent → List Ent → List Ent → Prop
 | nil {H : List Ent} : Parts H [] H
 | cons {H H1 H2 E : List Ent} {e : Ent} : Pick H e H1 → Parts H1 E H2 → Parts H (e :: E) H2
theorem Sat.parts {H E H' : List Ent} (k : Parts H E H') : ∀ {m : Mem} {hs : Hp}, Sat H m hs → ∃ h1 h2, hs.Perm (h1 ++ h2) ∧ Sat E m h1 ∧ Sat H' m h2 := by
 induction k with
 | nil => intro m hs h; exact ⟨[], hs, List.Perm.refl _, rfl, h⟩
 | cons k _ ih =>
  intro m hs h
  obtain ⟨h1, h2, hp, p, q⟩ := h.pick k
  obtain ⟨g1, g2, hp2, p2, q2⟩ := ih q
  exact ⟨h1 ++ g1, g2, hp.trans (by rw [List.append_assoc]; exact List.Perm.append_left h1 hp2), ⟨h1, g1, rfl, p, p2⟩, q2⟩
theorem Qk9 {f : FuncId} {args : List Operand} {ats : Array TypeId} {A : List Slot} {E : List Ent} {ι : Type} {ρ : ι → Slot} {ε : ι → List Ent} (hA : UF Γ args A) (hf : K1 c.P f = true)
  (hC : Ctr c.P c.G f A E ρ ε) (hE : Parts H E H') (hN : Nat.blt d c.N = true)
  (k : ∀ i, Jc c full l ((d, ρ i) :: Γ) (ε i ++ H') K) : Jc c full (⟨some d, .call { callee := .value (.func f), args := args.toArray, argTypes := ats }, ty, pos, aft, none⟩ :: l) Γ H K := by
 refine VD (Γ2 := fun i => (d, ρ i) :: Γ) (H2 := fun i => ε i ++ H') rfl ?_ k
 intro m hs2 a w hg hG hsat hen hn
 rw [KG hf a.eval (.func f) rfl]
 have hall := hA.all (m := m) (a := a) (fun y _ => hen.opd y)
 obtain ⟨h1, h2, hp, hs1, hs3⟩ := hsat.parts hE
 have hgp := hg.perm hp
 have hg1 : JM m h1 w := JM.sub (hs := h2) (hgp.perm List.perm_append_comm)
 refine (hC m w (args.map a.eval) h1 hg1 hG hall hs1).mono ?_
 rintro e w' ⟨v, m', hs', i, rfl, hg', hv, hsat', hf'⟩
 have hnd := hgp.nodup
 rw [Hp.bs_append] at hnd
 have hdj := (List.nodup_append.1 hnd).2.2
 have hn2 : ∀ x ∈ h2, x.1 ∉ Hp.bs h1 := fun x hx h => hdj x.1 h x.1 (List.mem_map_of_mem (f := (·.1)) hx) rfl
 have hl2 : ∀ x ∈ h2, x.1 < w.heap.size := fun x hx => hgp.ltb (by rw [Hp.bs_append]; exact List.mem_append.2 (.inr (List.mem_map_of_mem (f := (·.1)) hx)))
 have hg3 : JM m' (hs' ++ h2) w' := by
  refine ⟨hg'.mem, ?_, fun x hx => ?_, fun x hx o => ?_⟩
  ·rw [Hp.bs_append]
   refine List.nodup_append.2 ⟨hg'.nodup, (List.nodup_append.1 hnd).2.1, fun b hb b' hb' e => ?_⟩
   subst e
   obtain ⟨x, hx, rfl⟩ := List.mem_map.1 hb'
   rcases hf'.own x.1 hb with h | h
   ·exact hn2 x hx h
   ·exact absurd (hl2 x hx) (Nat.not_lt.2 h)
  ·rcases List.mem_append.1 hx with hx | hx
   ·exact hg'.blk x hx
   ·rw [(hf'.old x.1 (hl2 x hx) (hn2 x hx)).1]; exact hgp.blk x (List.mem_append.2 (.inr hx))
  ·rcases List.mem_append.1 hx with hx | hx
   ·exact hg'.free x hx o
   ·rw [(hf'.old x.1 (hl2 x hx) (hn2 x hx)).2 o]; exact hgp.free x (List.mem_append.2 (.inr hx)) o
 refine ⟨v, rfl, i, m', hs' ++ h2, hg3, (hen.mono hf'.le).put (by rw [hn]; simpa [Nat.blt_eq] using hN) hv, hsat'.append (hs3.mono hf'.le), ?_⟩
 refine Frm.ofPerm hp ?_
 rw [Hp.bs_append, Hp.bs_append]
 exact hf'.wide (Hp.bs h2)
theorem Ctr.froze {P : Program} {G : GP} {f : FuncId} {A : List Slot} {E : List Ent} {T : TypeId} {R : Rep α} {xs : List α} (h : Ctr P G f A E (fun v : Value => ov v) (fun v => [own T R v xs])) :
  Ctr P G f A E (fun _ : Unit => (sl R).slot xs) (fun _ => []) := by
 intro m w vs hs hg hG hA hsat
 refine (h m w vs hs hg hG hA hsat).mono ?_
 rintro e w' ⟨v, m', hs', i, rfl, hg', hv, ⟨h1, h2, rfl, ho, h2e⟩, hf'⟩
 cases h2e
 obtain ⟨m2, hle, hg2, hv2, hf2, _⟩ := own.froze ho hg' hf'
 have : v = i := (Uv.1 hv).1
 subst this
 exact ⟨v, m2, [], (), rfl, hg2, hv2, rfl, hf2⟩
theorem Ctr.froze2 {P : Program} {G : GP} {f : FuncId} {A : List Slot} {E : List Ent} {T : TypeId} {R : Rep α} {xs : List α} {s : Slot} (h : Ctr P G f A E (fun v : Value => tup [ov v, s]) (fun v => [own T R v xs])) :
  Ctr P G f A E (fun _ : Unit => tup [(sl R).slot xs, s]) (fun _ => []) := by
 intro m w vs hs hg hG hA hsat
 refine (h m w vs hs hg hG hA hsat).mono ?_
 rintro e w' ⟨v, m', hs', i, rfl, hg', ⟨us, rfl, v1, us2, rfl, hv1, v2, us3, rfl, hv2, rfl⟩, ⟨h1, h2, rfl, ho, h2e⟩, hf'⟩
 cases h2e
 obtain ⟨m2, hle, hg2, hv2', hf2, _⟩ := own.froze ho hg' hf'
 have : v1 = i := (Uv.1 hv1).1
 subst this
 exact ⟨_, m2, [], (), rfl, hg2, ⟨_, rfl, _, _, rfl, hv2', _, _, rfl, s.mono hle hv2, rfl⟩, rfl, hf2⟩
end
end Go.Sl
namespace Go.Sl
section
variable {c : Ctx} {full : Array Oper} {l : List Oper} {Γ Γ' : Env} {H H' : List Ent} {K : Act → World → Prop} {d : Tmp} {od : Option Tmp} {ty : TypeId} {pos : String} {aft : Array Edge} {g : Option (Nat × Bool)} {α β : Type}
def Ko (P : Program) (T i : Nat) : Option (Nat × Nat) :=
 match P.underlying T with
 | some (.struct fs) => (fs[i]?).bind fun f => (P.info? f.type).map fun t => (f.offset, t.size)
 | some (.array _ e) => (P.info? e).map fun t => (i * t.size, t.size)
 | _ => none
inductive BuildJ (P : Program) (T : TypeId) (Γ : Env) (R : Rep α) : List (Nat × Operand) → α → α → Prop
 | nil {x : α} : BuildJ P T Γ R [] x x
 | cons {β : Type} {i off : Nat} {y : Operand} {S : Rep β} {z : β} {get : α → β} {set : α → β → α} {ps : List (Nat × Operand)} {x r : α} :
  Has Γ y (S.slot z) → Path R off S get set → Ko P T i = some (off, S.n) → BuildJ P T Γ R ps (set x z) r → BuildJ P T Γ R ((i, y) :: ps) x r
theorem UX (off : Nat) : ∀ (ds : List Value) (k : Nat) (cs : List Value), off + k + ds.length ≤ cs.length →
  ((ds.zipIdx k).foldl (fun cs (p : Value × Nat) => cs.setIfInBounds (off + p.2) p.1) cs.toArray) = (cs.take (off + k) ++ ds ++ cs.drop (off + k + ds.length)).toArray
 | [], k, cs, _ => by simp
 | v :: ds, k, cs, h => by
  simp only [List.length_cons] at h
  have hlt : off + k < cs.length := by omega
  have ih := UX off ds (k + 1) (cs.set (off + k) v) (by simp; omega)
  simp only [List.zipIdx_cons, List.foldl_cons]
  have e : cs.toArray.setIfInBounds (off + k) v = (cs.set (off + k) v).toArray := by simp
  rw [e, ih]
  congr 1
  have e1 : (cs.set (off + k) v).take (off + (k + 1)) = cs.take (off + k) ++ [v] := by
   rw [show off + (k + 1) = (off + k) + 1 by omega, List.take_succ_eq_append_getElem (by simpa using hlt)]
   rw [List.take_set, List.set_eq_of_length_le (by simp; omega)]; simp
  have e2 : (cs.set (off + k) v).drop (off + (k + 1) + ds.length) = cs.drop (off + k + (v :: ds).length) := by
   rw [List.drop_set_of_lt (by omega)]; congr 1; simp; omega
  rw [e1, e2]; simp
theorem BuildJ.fill {P : Program} {T : TypeId} {R : Rep α} {m : Mem} {a : Act} {ps : List (Nat × Operand)} {x r : α} (h : BuildJ P T Γ R ps x r) :
  ∀ {cs : List Value} {place : Nat → Option (Nat × Nat)}, R.rel m cs x → (∀ i p, Ko P T i = some p → place i = some p) → (∀ p ∈ ps, Opd Γ m a p.2) →
  ∃ cs', Instr.fill place cs.toArray (ps.map fun p => (p.1, a.eval p.2)) = some cs'.toArray ∧ R.rel m cs' r := by
 induction h with
 | nil => intro cs place hr _ _; exact ⟨cs, rfl, hr⟩
 | @cons β i off y S z get set ps x r hy hp hpl _ ih =>
  intro cs place hr WC ho
  obtain ⟨ds, hc, hd⟩ := Rep.is_cells (hy m a (ho (i, y) (by simp)))
  have hdl := S.len hd
  have hcl := R.len hr
  have hfit := hp.fits
  obtain ⟨cs', he, hr'⟩ := ih (cs := cs.take off ++ ds ++ cs.drop (off + S.n)) (hp.set_ok hr hd) WC (fun p hp => ho p (by simp [hp]))
  refine ⟨cs', ?_, hr'⟩
  simp only [List.map_cons, Instr.fill, WC i _ hpl, hc]
  have hsz : ds.toArray.size = S.n := by simp [hdl]
  have hcond : ¬ (ds.toArray.size ≠ S.n ∨ off + ds.toArray.size > cs.toArray.size) := by
   rintro (h | h)
   ·exact h hsz
   ·simp at h; omega
  have hbool : (decide (ds.toArray.size ≠ S.n) || decide (off + ds.toArray.size > cs.toArray.size)) = false := by
   simp only [Bool.or_eq_false_iff, decide_eq_false_iff_not]
   exact ⟨fun h => h hsz, by simp; omega⟩
  have hf := UX off ds 0 cs (by omega)
  have hz : Array.foldl (fun cs (p : Value × Nat) => cs.setIfInBounds (off + p.2) p.1) cs.toArray ds.toArray.zipIdx = (cs.take off ++ ds ++ cs.drop (off + S.n)).toArray := by
   rw [← Array.foldl_toList, Array.toList_zipIdx]
   rw [hf]; simp [hdl]
  rw [if_neg (by simpa using hcond)]
  first
   | (rw [hz]; exact he)
   | (simp only [] at hz ⊢; rw [hz]; exact he)
def QaX (P : Program) (T : TypeId) : Bool :=
 match P.underlying T with
 | some (.struct fs) => fs.toList.all fun f => (P.info? f.type).isSome
 | some (.array _ e) => (P.info? e).isSome
 | _ => false
theorem BV {P : Program} {w : World} : ∀ (fs : List Field), (∀ f ∈ fs, (P.info? f.type).isSome = true) →
  (fs.mapM fun f => do pure (f.offset, ← sizeOf f.type) : Sem (List (Nat × Nat))).run P w = .ok (fs.map fun f => (f.offset, ((P.info? f.type).map (·.size)).getD 0)) w
 | [], _ => by simp
 | f :: fs, h => by
  obtain ⟨i, hi⟩ := Option.isSome_iff_exists.1 (h f (by simp))
  have hs : (sizeOf f.type).run P w = .ok i.size w := by simp [sizeOf, typeInfo, hi]
  have ih := BV (P := P) (w := w) fs (fun f hf => h f (by simp [hf]))
  rw [List.mapM_cons]
  simp only [Sem.run_bind, hs, Result.andThen_ok, Sem.run_pure, ih, List.map_cons, hi, Option.map_some, Option.getD_some]
theorem JZ {T : TypeId} {R : Rep α} {x r : α} {ps : List (Nat × Operand)} {zc : List Value} (hz : X5 R x zc) (hT : KI c.P T = some zc) (hB : QaX c.P T = true) (ha : R.ag = true) (h : BuildJ c.P T Γ R ps x r) :
  PJ c ⟨od, .build T ps.toArray, ty, pos, aft, g⟩ Γ H (R.slot r) :=
 YE fun m hs a w _ _ _ ho => by
  obtain ⟨zv, hzv, hzc⟩ := WM hT w
  have hop : ∀ p ∈ ps, Opd Γ m a p.2 := fun p hp => ho p.2 (by
   simp only [Op.operands]
   simp only [List.mem_toArray, List.mem_map]
   exact ⟨p, hp, rfl⟩)
  have hpl : ∀ (place : Nat → Option (Nat × Nat)), (∀ i p, Ko c.P T i = some p → place i = some p) → ∃ cs', Instr.fill place zc.toArray (ps.map fun p => (p.1, a.eval p.2)) = some cs'.toArray ∧ R.rel m cs' r :=
   fun place hp => h.fill (hz m) hp hop
  have UH : ((ps.toArray.map fun (p : Nat × Operand) => (p.1, a.eval p.2))).toList = ps.map fun p => (p.1, a.eval p.2) := by simp
  unfold QaX at hB
  split at hB
  ·rename_i fs hu
   have hall : ∀ f ∈ fs.toList, (c.P.info? f.type).isSome = true := List.all_eq_true.1 hB
   obtain ⟨cs', hfill, hr⟩ := hpl ((fs.toList.map fun f => (f.offset, ((c.P.info? f.type).map (·.size)).getD 0)).toArray[·]?) (by
    intro i p hp
    simp only [Ko, hu] at hp
    simp only [List.getElem?_toArray, List.getElem?_map, Array.getElem?_toList]
    cases hf : fs[i]? with
    | none => rw [hf] at hp; simp at hp
    | some f =>
     rw [hf] at hp
     simp only [Option.bind_some] at hp
     cases hi : c.P.info? f.type with
     | none => rw [hi] at hp; simp at hp
     | some t => rw [hi] at hp; simp only [Option.map_some] at hp ⊢; simpa [hi] using hp)
   have hmm : (fs.mapM fun f => do pure (f.offset, ← sizeOf f.type) : Sem (Array (Nat × Nat))).run c.P w = .ok (fs.toList.map fun f => (f.offset, ((c.P.info? f.type).map (·.size)).getD 0)).toArray w := by
    have := BV (P := c.P) (w := w) fs.toList hall
    rw [Array.mapM_eq_mapM_toList, Sem.run_map, this]
    rfl
   have hrun : (Instr.build T (ps.toArray.map fun (p : Nat × Operand) => (p.1, a.eval p.2))).run c.P w = .ok (.agg cs'.toArray) w := by
    simp only [Instr.build, Sem.run_bind, hzv, Result.andThen_ok, run_underlying hu, hzc, UH, hmm, hfill, Sem.run_pure]
   refine ⟨.agg cs'.toArray, ?_, ?_⟩
   ·show (do let v ← Instr.build T (ps.toArray.map fun (p : Nat × Operand) => (p.1, a.eval p.2)); pure (Next.value v) : Sem Next).run c.P w = _
    rw [Sem.run_bind, hrun]; rfl
   ·simp only [Rep.slot, Rep.is, ha]; exact ⟨cs', rfl, hr⟩
  ·rename_i n e hu
   obtain ⟨t, ht⟩ := Option.isSome_iff_exists.1 hB
   obtain ⟨cs', hfill, hr⟩ := hpl (fun i => some (i * t.size, t.size)) (by
    intro i p hp
    simp only [Ko, hu, ht, Option.map_some] at hp
    exact hp)
   have hs : (sizeOf e).run c.P w = .ok t.size w := by simp [sizeOf, typeInfo, ht]
   have hrun : (Instr.build T (ps.toArray.map fun (p : Nat × Operand) => (p.1, a.eval p.2))).run c.P w = .ok (.agg cs'.toArray) w := by
    simp only [Instr.build, Sem.run_bind, hzv, Result.andThen_ok, run_underlying hu, hzc, UH, hs, hfill, Sem.run_pure]
   refine ⟨.agg cs'.toArray, ?_, ?_⟩
   ·show (do let v ← Instr.build T (ps.toArray.map fun (p : Nat × Operand) => (p.1, a.eval p.2)); pure (Next.value v) : Sem Next).run c.P w = _
    rw [Sem.run_bind, hrun]; rfl
   ·simp only [Rep.slot, Rep.is, ha]; exact ⟨cs', rfl, hr⟩
  ·cases hB
inductive BuildS (Γ : Env) (R : Rep α) : Nat → List (Nat × Operand) → List α → Prop
 | nil {k : Nat} : BuildS Γ R k [] []
 | cons {k : Nat} {y : Operand} {z : α} {ps : List (Nat × Operand)} {zs : List α} : Has Γ y (R.slot z) → BuildS Γ R (k + 1) ps zs → BuildS Γ R k ((k, y) :: ps) (z :: zs)
theorem BuildS.len {R : Rep α} {k : Nat} {ps : List (Nat × Operand)} {zs : List α} (h : BuildS Γ R k ps zs) : ps.length = zs.length := by
 induction h with
 | nil => rfl
 | cons _ _ ih => simp [ih]
theorem BuildS.fill {R : Rep α} {m : Mem} {a : Act} {k : Nat} {ps : List (Nat × Operand)} {zs : List α} (h : BuildS Γ R k ps zs) :
  ∀ {pre cs : List Value}, pre.length = k * R.n → cs.length = zs.length * R.n → (∀ p ∈ ps, Opd Γ m a p.2) →
  ∃ cs', Instr.fill (fun i => some (i * R.n, R.n)) (pre ++ cs).toArray (ps.map fun p => (p.1, a.eval p.2)) = some (pre ++ cs').toArray ∧ JP R m cs' zs := by
 induction h with
 | nil => intro pre cs _ hc _; exact ⟨cs, rfl, by simpa [JP] using hc⟩
 | @cons k y z ps zs hy _ ih =>
  intro pre cs hp hc ho
  obtain ⟨ds, hcl, hd⟩ := Rep.is_cells (hy m a (ho (k, y) (by simp)))
  have hdl := R.len hd
  have hc' : cs.length = R.n + zs.length * R.n := by rw [hc, List.length_cons, Nat.add_mul, Nat.one_mul, Nat.add_comm]
  obtain ⟨cs', he, hr'⟩ := ih (pre := pre ++ ds) (cs := cs.drop R.n) (by rw [List.length_append, hp, hdl, Nat.add_mul, Nat.one_mul]) (by rw [List.length_drop]; omega) (fun p hp => ho p (by simp [hp]))
  refine ⟨ds ++ cs', ?_, ⟨ds, cs', rfl, hd, hr'⟩⟩
  simp only [List.map_cons, Instr.fill, hcl]
  have hf := UX (k * R.n) ds 0 (pre ++ cs) (by simp [hp, hdl]; omega)
  have hz : Array.foldl (fun cs (p : Value × Nat) => cs.setIfInBounds (k * R.n + p.2) p.1) (pre ++ cs).toArray ds.toArray.zipIdx = ((pre ++ ds) ++ cs.drop R.n).toArray := by
   rw [← Array.foldl_toList, Array.toList_zipIdx]
   rw [hf]
   have e1 : (pre ++ cs).take (k * R.n + 0) = pre := by rw [Nat.add_zero, ← hp, List.take_left']; rfl
   have e2 : (pre ++ cs).drop (k * R.n + 0 + ds.length) = cs.drop R.n := by rw [Nat.add_zero, ← hp, hdl, List.drop_append]; simp
   rw [e1, e2]
  rw [if_neg (by simp [hdl, hp]; omega)]
  have he' : Instr.fill (fun i => some (i * R.n, R.n)) ((pre ++ ds) ++ cs.drop R.n).toArray (ps.map fun p => (p.1, a.eval p.2)) = some (pre ++ (ds ++ cs')).toArray := by rw [he]; simp
  first
   | (rw [hz]; exact he')
   | (simp only [] at hz ⊢; rw [hz]; exact he')
theorem K0 {P : Program} {w : World} {ST T : TypeId} {R : Rep α} {m : Mem} {a : Act} {n : Nat} {ps : List (Nat × Operand)} {zs : List α} (hT : slE P ST T R.n = true) (hn : n = zs.length) (hs : n * R.n ≤ 16777216)
  (h : BuildS Γ R 0 ps zs) (ho : ∀ p ∈ ps, Opd Γ m a p.2) :
  ∃ cs, JP R m cs zs ∧ (Instr.buildSlice ST n (ps.toArray.map fun (p : Nat × Operand) => (p.1, a.eval p.2))).run P w = .ok (.slice (some ⟨w.heap.size, 0, none⟩) n n) (w.alloc (.cells cs.toArray T)) := by
 obtain ⟨hu, i, z, hi, hsz, hb0, hb1, hz, hzc⟩ := qQ hT
 have hsize : (sizeOf T).run P w = .ok R.n w := by simp [sizeOf, typeInfo, hi, hsz]
 have hzv : (zeroValue T).run P w = .ok z w := by simp [zeroValue, typeInfo, hi, hz]
 have UH : ((ps.toArray.map fun (p : Nat × Operand) => (p.1, a.eval p.2))).toList = ps.map fun p => (p.1, a.eval p.2) := by simp
 have h24 : ¬ n * R.n > 2 ^ 24 := by
  have : (2 : Nat) ^ 24 = 16777216 := by decide
  omega
 have key : ∀ zz : Array Value, ∃ cs, JP R m cs zs ∧ Instr.fill (fun i => some (i * R.n, R.n)) ((Array.range (n * R.n)).map (zz[· % zz.size]!)) (ps.map fun p => (p.1, a.eval p.2)) = some cs.toArray := by
  intro zz
  obtain ⟨cs, he, hr⟩ := h.fill (m := m) (a := a) (pre := []) (cs := ((Array.range (n * R.n)).map (zz[· % zz.size]!)).toList) (by simp) (by simp [hn]) ho
  have e3 : ([] ++ ((Array.range (n * R.n)).map (zz[· % zz.size]!)).toList).toArray = (Array.range (n * R.n)).map (zz[· % zz.size]!) := by rw [List.nil_append, Array.toArray_toList]
  rw [e3] at he
  exact ⟨cs, hr, he⟩
 by_cases h0 : n * R.n = 0
 ·obtain ⟨cs, hr, hf⟩ := key #[]
  refine ⟨cs, hr, ?_⟩
  rw [h0] at hf
  have h240 : ¬ (0 > 2 ^ 24) := by decide
  simp only [Instr.buildSlice, Sem.run_bind, run_underlying hu, Result.andThen_ok, hsize, h0, h240, if_false, Sem.run_pure, if_true, UH]
  simp only [hf, newRow, Sem.run_bind, run_newObj, Result.andThen_ok, Sem.run_pure]
  rfl
 ·obtain ⟨cs, hr, hf⟩ := key z.cells
  refine ⟨cs, hr, ?_⟩
  simp only [Instr.buildSlice, Sem.run_bind, run_underlying hu, Result.andThen_ok, hsize, h24, if_false, Sem.run_pure, h0, hzv, UH, hf, newRow, run_newObj]
  rfl
theorem QT {ST T n : Nat} {R : Rep α} {ps : List (Nat × Operand)} {zs : List α} (h : BuildS Γ R 0 ps zs) (hn : n = zs.length) (hs : Nat.ble (n * R.n) 16777216 = true) (hT : slE c.P ST T R.n = true) :
  PJ c ⟨od, .buildSlice ST n ps.toArray, ty, pos, aft, g⟩ Γ H ((sl R).slot zs) := by
 intro m hs2 a w hg _ _ ho
 have hop : ∀ p ∈ ps, Opd Γ m a p.2 := fun p hp => ho p.2 (by
   simp only [Op.operands]
   simp only [List.mem_toArray, List.mem_map]
   exact ⟨p, hp, rfl⟩)
 obtain ⟨cs, hr, hrun⟩ := K0 (P := c.P) (w := w) hT hn (by simpa [Nat.ble_eq] using hs) h hop
 have e : (execOp a.eval ⟨od, .buildSlice ST n ps.toArray, ty, pos, aft, g⟩).run c.P w = .ok (.value (.slice (some ⟨w.heap.size, 0, none⟩) n n)) (w.alloc (.cells cs.toArray T)) := by
  show (do let v ← Instr.buildSlice ST n (ps.toArray.map fun (p : Nat × Operand) => (p.1, a.eval p.2)); pure (Next.value v) : Sem Next).run c.P w = _
  rw [Sem.run_bind, hrun]; rfl
 rw [e]
 have hg1 := hg.newOwn T cs
 have hle := hg1.le_put
 refine ⟨m.put w.heap.size cs, hg1.freeze, ?_, ?_⟩
 ·exact ⟨_, n, by rw [hn], by omega, .inr ⟨w.heap.size, 0, cs, rfl, hr.mono hle, Mem.at_put m _ cs⟩⟩
 ·exact (Frm.alloc w m [] (.cells cs.toArray T)).freeze hle
theorem V4 {ST T n : Nat} {R : Rep α} {ps : List (Nat × Operand)} {zs : List α} (h : BuildS Γ R 0 ps zs) (hn : n = zs.length) (hs : Nat.ble (n * R.n) 16777216 = true) (hT : slE c.P ST T R.n = true) (hN : Nat.blt d c.N = true)
  (k : ∀ v, Jc c full l ((d, ov v) :: Γ) (own T R v zs :: H) K) : Jc c full (⟨some d, .buildSlice ST n ps.toArray, ty, pos, aft, none⟩ :: l) Γ H K := by
 refine VD (Γ2 := fun v => (d, ov v) :: Γ) (H2 := fun v => own T R v zs :: H) rfl ?_ k
 intro m hs2 a w hg _ hsat he hN'
 have hop : ∀ p ∈ ps, Opd Γ m a p.2 := fun p _ => he.opd p.2
 obtain ⟨cs, hr, hrun⟩ := K0 (P := c.P) (w := w) hT hn (by simpa [Nat.ble_eq] using hs) h hop
 have e : (execOp a.eval ⟨some d, .buildSlice ST n ps.toArray, ty, pos, aft, none⟩).run c.P w = .ok (.value (.slice (some ⟨w.heap.size, 0, none⟩) n n)) (w.alloc (.cells cs.toArray T)) := by
  show (do let v ← Instr.buildSlice ST n (ps.toArray.map fun (p : Nat × Operand) => (p.1, a.eval p.2)); pure (Next.value v) : Sem Next).run c.P w = _
  rw [Sem.run_bind, hrun]; rfl
 rw [e]
 refine ⟨_, m, _, hg.newOwn T cs, he.put (by rw [hN']; simpa [Nat.blt_eq] using hN) U5, ⟨[(w.heap.size, T, cs)], hs2, rfl, .inr ⟨w.heap.size, n, cs, [], by rw [hn], by simp, hr, by omega, ?_⟩, hsat⟩, Frm.alloc _ _ _ _⟩
 rw [List.append_nil, hr.length, hn]
theorem Uy {ST T : TypeId} {x y : Operand} {R : Rep α} {z : α} {zc : List Value} {n cp : Int} (hx : Has Γ x (i64.slot n)) (hy : Has Γ y (i64.slot cp)) (h0 : 0 ≤ n) (h1 : n ≤ cp) (h2 : cp ≤ 4294967296)
  (hT : slE c.P ST T R.n = true) (hz : X5 R z zc) (hzB : KI c.P T = some zc) (hN : Nat.blt d c.N = true)
  (k : ∀ v, Jc c full l ((d, ov v) :: Γ) (own T R v (List.replicate n.toNat z) :: H) K) : Jc c full (⟨some d, .makeSlice ST x y, ty, pos, aft, none⟩ :: l) Γ H K := by
 refine VD (Γ2 := fun v => (d, ov v) :: Γ) (H2 := fun v => own T R v (List.replicate n.toNat z) :: H) rfl ?_ k
 intro m hs a w hg _ hsat he hN'
 have ex := ZE.1 (hx m a (he.opd x))
 have ey := ZE.1 (hy m a (he.opd y))
 obtain ⟨hu, i, zv, hi, hsz, hb0, hb1, hzi, hzc⟩ := qQ hT
 have hti : ∀ w : World, (typeInfo T).run c.P w = .ok i w := fun w => by simp [typeInfo, hi]
 have hsize : ∀ w : World, (sizeOf T).run c.P w = .ok R.n w := fun w => by simp [sizeOf, hti, hsz]
 have hzv : ∀ w : World, (zeroValue T).run c.P w = .ok zv w := fun w => by simp [zeroValue, hti, hzi]
 have hzl : zv.cells.toList = zc := by
  unfold KI at hzB
  simp [hi, hzi] at hzB
  exact hzB
 have hn : IntKind.i64.wrap n = n := IntWalk.i64_in n (by omega)
 have hc : IntKind.i64.wrap cp = cp := IntWalk.i64_in cp (by omega)
 have hbig : ¬ (i.bytes : Int) * cp > 2 ^ 48 := by
  have h48 : (2 : Int) ^ 48 = 281474976710656 := by decide
  have : (i.bytes : Int) * cp ≤ 4096 * 4294967296 := Int.mul_le_mul (by omega) h2 (by omega) (by decide)
  rw [h48]; omega
 have hneg : ¬ cp < 0 := by omega
 have hneg2 : ¬ n < 0 := by omega
 have hgt : ¬ n > cp := by omega
 let zz := if cp.toNat * R.n = 0 then #[] else zv.cells
 let cells := ((Array.range (cp.toNat * R.n)).map (zz[· % zz.size]!)).toList
 have hrun : (Instr.makeSlice ST (.int .i64 n) (.int .i64 cp)).run c.P w = .ok (.slice (some ⟨w.heap.size, 0, none⟩) n.toNat cp.toNat) (w.alloc (.cells cells.toArray T)) := by
  simp only [Instr.makeSlice, Sem.run_bind, run_underlying hu, Result.andThen_ok, asInt, asIntOf, Sem.run_pure, hti, hn, hc, hneg, hneg2, hbig, hgt, decide_false, Bool.or_false, Bool.false_eq_true, if_false, run_askRoom, hsize]
  by_cases hE : cp.toNat * R.n = 0
  ·simp only [hE, if_true, Sem.run_pure, Result.andThen_ok, newRow, Sem.run_bind, run_newObj]
   simp only [cells, zz, hE, if_true, Array.toArray_toList]
   rfl
  ·simp only [hE, if_false, Sem.run_bind, hzv, Result.andThen_ok, Sem.run_pure, newRow, run_newObj]
   simp only [cells, zz, hE, if_false, Array.toArray_toList]
   rfl
 have e : (execOp a.eval ⟨some d, .makeSlice ST x y, ty, pos, aft, none⟩).run c.P w = .ok (.value (.slice (some ⟨w.heap.size, 0, none⟩) n.toNat cp.toNat)) (w.alloc (.cells cells.toArray T)) := by
  simp only [execOp, ex, ey, Sem.run_bind, hrun]; rfl
 rw [e]
 have hcl : cells.length = cp.toNat * R.n := by simp [cells]
 have hrow : ∀ j, j ≤ cp.toNat → JP R m (cells.take (j * R.n)) (List.replicate j z) := by
  intro j hj
  induction j with
  | zero => simp [JP]
  | succ j ih =>
   have ih := ih (by omega)
   rw [List.replicate_succ', Nat.add_mul, Nat.one_mul, List.take_add]
   refine ih.append (JP.single ?_)
   have : (cells.drop (j * R.n)).take R.n = zc := by
    apply List.ext_getElem?
    intro t
    rw [List.getElem?_take]
    split
    ·rename_i ht
     rw [List.getElem?_drop]
     have hbnd : j * R.n + t < cp.toNat * R.n := by
      have : (j + 1) * R.n ≤ cp.toNat * R.n := Nat.mul_le_mul_right _ hj
      rw [Nat.add_mul, Nat.one_mul] at this
      omega
     have hE : cp.toNat * R.n ≠ 0 := by omega
     have hRn : zv.cells.size = R.n := hzc
     simp only [cells, zz, hE, if_false]
     rw [Array.getElem?_toList, Array.getElem?_map, Array.getElem?_range, if_pos hbnd]
     simp only [Option.map_some, hRn]
     have hmod : (j * R.n + t) % R.n = t := by rw [Nat.mul_add_mod_self_right]; exact Nat.mod_eq_of_lt ht
     rw [hmod, ← hzl]
     have htl : t < zv.cells.size := by omega
     simp [htl]
    ·rename_i ht
     have : zc.length = R.n := by rw [← hzl]; simpa using hzc
     rw [List.getElem?_eq_none (by omega)]
   rw [this]; exact hz m
 have hsplit : cells = cells.take (n.toNat * R.n) ++ cells.drop (n.toNat * R.n) := (List.take_append_drop _ _).symm
 refine ⟨_, m, _, hg.newOwn T cells, he.put (by rw [hN']; simpa [Nat.blt_eq] using hN) U5, ⟨[(w.heap.size, T, cells)], hs, rfl, .inr ⟨w.heap.size, cp.toNat, cells.take (n.toNat * R.n), cells.drop (n.toNat * R.n), by simp, by rw [← hsplit], hrow _ (by omega), by simp; omega, by rw [← hsplit, hcl]⟩, hsat⟩, Frm.alloc _ _ _ _⟩
end
end Go.Sl
namespace Go.Sl
def QgA (o : Oper) : List Nat := o.op.operands.toList.filterMap fun | .tmp t => some t | _ => none
def QiY (full : List Oper) (o : Oper) : List Nat := match o.guard with | some (j, _) => ((full[j]?).bind (·.dst)).toList | none => []
def Xw (o : Oper) : List Nat := (o.after.toList.filter (Region.binds .any)).map (·.on)
def VF (full : List Oper) (o : Oper) : List Nat := o.dst.toList ++ QgA o ++ QiY full o
def Qfl (full : List Oper) : Nat → List Nat → List Nat
 | 0, acc => acc
 | j + 1, acc => if acc.contains j then Qfl full j (acc ++ ((full[j]?).map Xw).getD []) else Qfl full j acc
theorem Qda {full : List Oper} {X : Nat → Bool} (hc : ∀ j p, full[j]? = some p → X j = true → ∀ e ∈ Xw p, X e = true) : ∀ (n : Nat) (acc : List Nat), (∀ j ∈ acc, X j = true) → ∀ j ∈ Qfl full n acc, X j = true
 | 0, acc, h => h
 | n + 1, acc, h => by
  unfold Qfl
  split
  ·rename_i hn
   refine Qda hc n _ fun j hj => ?_
   rcases List.mem_append.1 hj with hj | hj
   ·exact h j hj
   ·cases hf : full[n]? with
    | none => rw [hf] at hj; cases hj
    | some p =>
     rw [hf] at hj
     exact hc n p hf (h n (by simpa using hn)) j hj
  ·exact Qda hc n acc h
def UL (full : List Oper) (n : Nat) : Bool :=
 (full.zipIdx.all fun (o, i) => (Xw o).all (fun e => Nat.blt e i)) &&
 (full.zipIdx.all fun (o, i) => full.zipIdx.all fun (p, j) =>
  match p.dst with
  | some t => Nat.beq i j || !((VF full o).contains t) || (if Nat.blt j i then (Xw o).contains j else (Xw p).contains i)
  | none => true) &&
 (full.zipIdx.all fun (o, i) => Nat.blt i n || (List.range i).all fun j => (Qfl full i (Xw o)).contains j)
def push (d : Option Tmp) (s : Slot) (Γ : Env) : Env := match d with | some d => (d, s) :: Γ | none => Γ
def W8 (full : List Oper) (o : Oper) (Γ : Env) (yes : Bool) : Prop :=
 ∃ j want b t s, o.guard = some (j, want) ∧ (full[j]?).bind (·.dst) = some t ∧ lk Γ t = some s ∧ (∀ m v, s.p m v → v = .bool b) ∧ (b == want) = yes
def qU (full : List Oper) (o : Oper) (Γ : Env) : Prop := ∃ j want t, o.guard = some (j, want) ∧ (full[j]?).bind (·.dst) = some t ∧ lk Γ t = some (val undef)
inductive OK1 (c : Ctx) (full : List Oper) (H : List Ent) (o : Oper) (Γ : Env) : Slot → Prop
 | plain {s : Slot} : o.guard = none → PJ c o Γ H s → OK1 c full H o Γ s
 | yes {s : Slot} : W8 full o Γ true → PJ c o Γ H s → OK1 c full H o Γ s
 | no : W8 full o Γ false → OK1 c full H o Γ (val undef)
 | undef : qU full o Γ → OK1 c full H o Γ (val undef)
inductive RJ (c : Ctx) (full : List Oper) (H : List Ent) : Nat → List Oper → Env → List Slot → Option (Nat × Nat × (Nat → Ent)) → Prop
 | nil {k : Nat} {Γ : Env} : RJ c full H k [] Γ [] none
 | read {k : Nat} {o : Oper} {os : List Oper} {Γ : Env} {s : Slot} {σ : List Slot} {al : Option (Nat × Nat × (Nat → Ent))} :
  OK1 c full H o Γ s → RJ c full H (k + 1) os (push o.dst s Γ) σ al → RJ c full H k (o :: os) Γ (s :: σ) al
 | alloc {k d : Nat} {o : Oper} {os : List Oper} {Γ : Env} {σ : List Slot} {T : TypeId} {α : Type} {R : Rep α} {x : α} {cs : List Value} :
  o.guard = none → o.dst = some d → o.op = .alloc T → X5 R x cs → KI c.P T = some cs → RJ c full H (k + 1) os ((d, any) :: Γ) σ none →
  RJ c full H k (o :: os) Γ (any :: σ) (some (k, d, fun b => box b T R x))
def Qay (Γ : Env) : List Oper → List Slot → Env
 | o :: os, s :: σ => Qay (push o.dst s Γ) os σ
 | _, _ => Γ
def cur (l : List Oper) (σ : List Slot) (Γ : Env) (X : Nat → Bool) : Nat → Nat → Option Slot
 | 0, t => lk Γ t
 | k + 1, t => match l[k]?, σ[k]? with
  | some o, some s => if X k && o.dst == some t then some s else cur l σ Γ X k t
  | _, _ => cur l σ Γ X k t
theorem QjX (d : Option Tmp) (s : Slot) (Γ : Env) (t : Nat) : lk (push d s Γ) t = if d == some t then some s else lk Γ t := by
 cases d with
 | none => simp [push]
 | some d =>
  by_cases h : d = t
  ·subst h; simp [push, Zs]
  ·simp only [push]; rw [Yw h]; simp [h]
theorem Vj (o : Oper) (os : List Oper) (s : Slot) (σ : List Slot) (Γ : Env) : ∀ k t, cur (o :: os) (s :: σ) Γ (fun _ => true) (k + 1) t = cur os σ (push o.dst s Γ) (fun _ => true) k t
 | 0, t => by simp only [cur, List.getElem?_cons_zero, Bool.true_and]; rw [QjX]
 | k + 1, t => by
  rw [cur]
  simp only [List.getElem?_cons_succ]
  rw [Vj o os s σ Γ k t]
  conv => rhs; rw [cur]
theorem RJ.at {c : Ctx} {full : List Oper} {H : List Ent} {k : Nat} {l : List Oper} {Γ : Env} {σ : List Slot} {al : Option (Nat × Nat × (Nat → Ent))} (h : RJ c full H k l Γ σ al) :
  ∀ i o, l[i]? = some o → ∃ s Γi, σ[i]? = some s ∧ (∀ t, lk Γi t = cur l σ Γ (fun _ => true) i t) ∧
   ((OK1 c full H o Γi s ∧ ∀ d e, al ≠ some (k + i, d, e)) ∨ ∃ (d : Nat) (T : TypeId) (α : Type) (R : Rep α) (x : α) (cs : List Value), s = any ∧ o.guard = none ∧ o.dst = some d ∧ o.op = .alloc T ∧ X5 R x cs ∧ KI c.P T = some cs ∧ al = some (k + i, d, fun b => box b T R x)) := by
 have hno : ∀ {k : Nat} {l : List Oper} {Γ : Env} {σ : List Slot} {al}, RJ c full H k l Γ σ al → ∀ j d e, al = some (j, d, e) → k ≤ j := by
  intro k l Γ σ al h
  induction h with
  | nil => intro j d e h; cases h
  | read _ _ ih => intro j d e h; have := ih j d e h; omega
  | alloc _ _ _ _ _ _ _ => intro j d e h; cases h; exact Nat.le_refl _
 induction h with
 | nil => intro i o h; simp at h
 | @read k o os Γ s σ al h1 h2 ih =>
  intro i p hi
  cases i with
  | zero =>
   simp only [List.getElem?_cons_zero, Option.some.injEq] at hi
   subst hi
   refine ⟨s, Γ, rfl, fun t => rfl, .inl ⟨h1, fun d e hal => ?_⟩⟩
   have := hno h2 _ d e hal
   omega
  | succ i =>
   obtain ⟨s', Γi, hs, hl, hc⟩ := ih i p (by simpa using hi)
   refine ⟨s', Γi, by simpa using hs, fun t => ?_, ?_⟩
   ·rw [hl t, Vj]
   ·rw [show k + (i + 1) = k + 1 + i by omega]; exact hc
 | @alloc k d o os Γ σ T α R x cs hg hd ho hz hzB h2 ih =>
  intro i p hi
  cases i with
  | zero =>
   simp only [List.getElem?_cons_zero, Option.some.injEq] at hi
   subst hi
   exact ⟨any, Γ, rfl, fun t => rfl, .inr ⟨d, T, α, R, x, cs, rfl, hg, hd, ho, hz, hzB, by simp⟩⟩
  | succ i =>
   obtain ⟨s', Γi, hs, hl, hc⟩ := ih i p (by simpa using hi)
   refine ⟨s', Γi, by simpa using hs, fun t => ?_, ?_⟩
   ·rw [hl t, Vj]; simp [push, hd]
   ·rcases hc with ⟨hc, _⟩ | ⟨d', T', α', R', x', cs', _, _, _, _, _, _, hal⟩
    ·exact .inl ⟨hc, fun d e h => by simp at h⟩
    ·cases hal
theorem Qdz (Γ : Env) : ∀ (l : List Oper) (σ : List Slot), l.length = σ.length → ∀ t, lk (Qay Γ l σ) t = cur l σ Γ (fun _ => true) l.length t := by
 intro l
 induction l generalizing Γ with
 | nil => intro σ _ t; cases σ <;> rfl
 | cons o os ih =>
  intro σ h t
  cases σ with
  | nil => simp at h
  | cons s σ => rw [List.length_cons, Vj, Qay, ih _ σ (by simpa using h) t]
theorem RJ.len {c : Ctx} {full : List Oper} {H : List Ent} {k : Nat} {l : List Oper} {Γ : Env} {σ : List Slot} {al : Option (Nat × Nat × (Nat → Ent))} (h : RJ c full H k l Γ σ al) : l.length = σ.length := by
 induction h with
 | nil => rfl
 | read _ _ ih => simp [ih]
 | alloc _ _ _ _ _ _ ih => simp [ih]
section
variable {c : Ctx} {Γ : Env} {H : List Ent} {a : Act} {w : World} {Q : Exit → Act → World → Prop}
theorem Bd {full : List Oper} {n : Nat} (h : UL full n = true) {i : Nat} {o : Oper} (hi : full[i]? = some o) : ∀ e ∈ Xw o, e < i := by
 simp only [UL, Bool.and_eq_true, List.all_eq_true] at h
 intro e he
 have := h.1.1 (o, i) (by rw [List.mem_zipIdx_iff_getElem?]; exact hi) e he
 simpa [Nat.blt_eq] using this
theorem Bk {full : List Oper} {n : Nat} (h : UL full n = true) {i j t : Nat} {o p : Oper} (hi : full[i]? = some o) (hj : full[j]? = some p) (hne : i ≠ j) (hp : p.dst = some t) (ht : t ∈ VF full o) :
  (j < i → j ∈ Xw o) ∧ (i < j → i ∈ Xw p) := by
 simp only [UL, Bool.and_eq_true, List.all_eq_true] at h
 have := h.1.2 (o, i) (by rw [List.mem_zipIdx_iff_getElem?]; exact hi) (p, j) (by rw [List.mem_zipIdx_iff_getElem?]; exact hj)
 have hbeq : Nat.beq i j = false := by
  cases hb : Nat.beq i j with
  | false => rfl
  | true => exact absurd (Nat.eq_of_beq_eq_true hb) hne
 have hct : (VF full o).contains t = true := by simpa using ht
 simp only [hp, hbeq, hct, Bool.not_true, Bool.or_false, Bool.false_or] at this
 constructor
 ·intro hlt
  have hb : Nat.blt j i = true := by simpa [Nat.blt_eq] using hlt
  simpa [hb] using this
 ·intro hlt
  have hb : Nat.blt j i = false := by
   cases hb : Nat.blt j i with
   | false => rfl
   | true => have := (Nat.blt_eq ▸ hb : j < i); omega
  simpa [hb] using this
theorem W5 {full : List Oper} {n : Nat} (h : UL full n = true) {i : Nat} {o : Oper} (hi : full[i]? = some o) (hn : n ≤ i) {X : Nat → Bool} (he : ∀ j ∈ Xw o, X j = true)
  (hc : ∀ j p, full[j]? = some p → X j = true → ∀ e ∈ Xw p, X e = true) : ∀ j, j < i → X j = true := by
 simp only [UL, Bool.and_eq_true, List.all_eq_true] at h
 have := h.2 (o, i) (by rw [List.mem_zipIdx_iff_getElem?]; exact hi)
 have hb : Nat.blt i n = false := by
  cases hb : Nat.blt i n with
  | false => rfl
  | true => have := (Nat.blt_eq ▸ hb : i < n); omega
 simp only [hb, Bool.false_or, List.all_eq_true] at this
 intro j hj
 exact Qda hc i _ he j (by simpa using this j (by simpa using hj))
theorem PJ.frame {o : Oper} {s : Slot} (E : List Ent) (h : PJ c o Γ H s) : PJ c o Γ (E ++ H) s := by
 intro m hs a w hg hG hsat ho
 obtain ⟨h1, h2, rfl, hs1, hs2⟩ := hsat.split
 refine (h m h2 a w hg.sub hG hs2 ho).mono ?_
 rintro v w' ⟨m', hg', hv, hf⟩
 refine ⟨m', ⟨hg'.mem, hg.nodup, fun x hx => ?_, fun x hx o => ?_⟩, hv, hf⟩
 ·rw [(hf.old x.1 (hg.ltb (List.mem_map_of_mem (f := (·.1)) hx)) (by simp)).1]; exact hg.blk x hx
 ·rw [(hf.old x.1 (hg.ltb (List.mem_map_of_mem (f := (·.1)) hx)) (by simp)).2 o]; exact hg.free x hx o
def QkM (al : Option (Nat × Nat × (Nat → Ent))) (H : List Ent) (X : Nat → Bool) (m : Mem) (hs : Hp) (a : Act) : Prop :=
 ∃ E, Sat (E ++ H) m hs ∧ ((E = [] ∧ ∀ ia d e, al = some (ia, d, e) → X ia = false) ∨ ∃ ia d e b, al = some (ia, d, e) ∧ X ia = true ∧ E = [e b] ∧ a.tmps.getD d undef = .pointer (some ⟨b, 0, none⟩))
def QiJ (c : Ctx) (full l : List Oper) (σ : List Slot) (al : Option (Nat × Nat × (Nat → Ent))) (Γ : Env) (H : List Ent) (X : Nat → Bool) (a : Act) (w : World) : Prop :=
 Dfr c a.defers w ∧ a.tmps.size = c.N ∧ ∃ m hs, JM m hs w ∧ c.G.p m ∧ (∀ t s, cur l σ Γ X l.length t = some s → s.p m (a.tmps.getD t undef)) ∧ Frm c.w0 w c.m0 m c.b0 hs.bs ∧ QkM al H X m hs a
theorem U0 {l : List Oper} {σ : List Slot} {Γ : Env} {X : Nat → Bool} {t i : Nat} : ∀ k, i ≤ k → (∀ j o, i ≤ j → j < k → l[j]? = some o → o.dst = some t → X j = false) → cur l σ Γ X k t = cur l σ Γ X i t := by
 intro k
 induction k with
 | zero =>
  intro hk _
  have : i = 0 := by omega
  rw [this]
 | succ k ih =>
  intro hk h
  by_cases hik : i = k + 1
  ·rw [hik]
  ·rw [cur]
   have ih := ih (by omega) (fun j o h1 h2 => h j o h1 (by omega))
   cases hl : l[k]? with
   | none => simpa [hl] using ih
   | some o =>
    cases hs : σ[k]? with
    | none => simpa [hl, hs] using ih
    | some s =>
     simp only []
     by_cases hd : o.dst = some t
     ·have := h k o (by omega) (by omega) hl hd
      simp [this, ih]
     ·have hd' : (o.dst == some t) = false := by simpa using hd
      simp [hd', ih]
theorem QdE {l : List Oper} {σ : List Slot} {Γ : Env} {X : Nat → Bool} {t : Nat} : ∀ i, (∀ j o, j < i → l[j]? = some o → o.dst = some t → X j = true) → cur l σ Γ X i t = cur l σ Γ (fun _ => true) i t := by
 intro i
 induction i with
 | zero => intro _; rfl
 | succ i ih =>
  intro h
  have ih := ih (fun j o hj => h j o (by omega))
  rw [cur, cur]
  cases hl : l[i]? with
  | none => simpa [hl] using ih
  | some o =>
   cases hs : σ[i]? with
   | none => simpa [hl, hs] using ih
   | some s =>
    simp only [Bool.true_and]
    by_cases hd : o.dst = some t
    ·have := h i o (by omega) hl hd
     simp [this, hd]
    ·have hd' : (o.dst == some t) = false := by simpa using hd
     simp [hd', ih]
theorem Um {l : List Oper} {σ : List Slot} {Γ : Env} {X X' : Nat → Bool} {t : Nat} : ∀ k, (∀ j o, j < k → l[j]? = some o → o.dst = some t → X j = X' j) → cur l σ Γ X k t = cur l σ Γ X' k t := by
 intro k
 induction k with
 | zero => intro _; rfl
 | succ k ih =>
  intro h
  have ih := ih (fun j o hj => h j o (by omega))
  rw [cur, cur]
  cases hl : l[k]? with
  | none => simpa [hl] using ih
  | some o =>
   cases hs : σ[k]? with
   | none => simpa [hl, hs] using ih
   | some s =>
    simp only []
    by_cases hd : o.dst = some t
    ·rw [h k o (by omega) hl hd, ih]
    ·have hd' : (o.dst == some t) = false := by simpa using hd
     simp [hd', ih]
end
end Go.Sl
namespace Go.Sl
def Qcm (N : Nat) (l : List Oper) : Bool := l.all fun o => match o.dst with | some d => Nat.blt d N | none => true
def Qbs (l : List Oper) : Bool := l.zipIdx.all fun (o, i) => l.zipIdx.all fun (p, j) => Nat.beq i j || match o.dst, p.dst with | some d, some e => !(Nat.beq d e) | _, _ => true
theorem QeR {l : List Oper} (h : Qbs l = true) {i j d : Nat} {o p : Oper} (hi : l[i]? = some o) (hj : l[j]? = some p) (ho : o.dst = some d) (hp : p.dst = some d) : i = j := by
 simp only [Qbs, List.all_eq_true] at h
 have := h (o, i) (by rw [List.mem_zipIdx_iff_getElem?]; exact hi) (p, j) (by rw [List.mem_zipIdx_iff_getElem?]; exact hj)
 have hdd : Nat.beq d d = true := by simp
 simp only [ho, hp, hdd, Bool.not_true, Bool.or_false] at this
 exact Nat.eq_of_beq_eq_true this
section
variable {c : Ctx} {Γ : Env} {H : List Ent} {a : Act} {w : World} {Q : Exit → Act → World → Prop} {l rest : List Oper} {σ : List Slot} {al : Option (Nat × Nat × (Nat → Ent))} {X : Nat → Bool}
def upd (X : Nat → Bool) (i : Nat) : Nat → Bool := fun j => if j = i then true else X j
theorem Qhk {i : Nat} {o : Oper} {K : Act → World → Prop} (hB : UL (l ++ rest) l.length = true) (hN : Qcm c.N l = true) (hU : al = none ∨ Qbs l = true) (hR : RJ c (l ++ rest) H 0 l Γ σ al)
  (hi : l[i]? = some o) (hX : X i = false) (he : ∀ j ∈ Xw o, X j = true) (hcl : ∀ j p, l[j]? = some p → X j = true → ∀ e ∈ Xw p, X e = true)
  (hD : QiJ c (l ++ rest) l σ al Γ H X a w) (hK : ∀ a' w', QiJ c (l ++ rest) l σ al Γ H (upd X i) a' w' → K a' w') : wpOpIn (fen c.ro) 0 c.P (l ++ rest).toArray Q i K a w := by
 have hlt : i < l.length := (List.getElem?_eq_some_iff.1 hi).1
 have hfull : ∀ {j p}, l[j]? = some p → (l ++ rest)[j]? = some p := fun {j p} h => by
  rw [List.getElem?_append_left (List.getElem?_eq_some_iff.1 h).1]; exact h
 have hfi := hfull hi
 have hop : (l ++ rest).toArray[i]? = some o := by simpa using hfi
 obtain ⟨s, Γi, hs, hlk, hcase⟩ := hR.at i o hi
 obtain ⟨hdf, hn, m, hs2, hg, hG, hcur, hfr, hal⟩ := hD
 -- what is known of a temporary that the operation VF
 have hafter : ∀ t ∈ VF (l ++ rest) o, ∀ j p, i < j → l[j]? = some p → p.dst = some t → X j = false := by
  intro t ht j p hij hp hd
  cases hXj : X j with
  | false => rfl
  | true =>
   have := (Bk hB hfi (hfull hp) (by omega) hd ht).2 hij
   have := hcl j p hp hXj i this
   rw [hX] at this; cases this
 have hknown : ∀ t ∈ VF (l ++ rest) o, cur l σ Γ X l.length t = lk Γi t := by
  intro t ht
  rw [hlk t, U0 l.length (by omega : i ≤ l.length), QdE i]
  ·intro j p hj hp hd
   exact he j ((Bk hB hfi (hfull hp) (by omega) hd ht).1 hj)
  ·intro j p h1 h2 hp hd
   by_cases hji : j = i
   ·subst hji; exact hX
   ·exact hafter t ht j p (by omega) hp hd
 have hopd : QdF o Γi m a := by
  intro x hx
  cases x with
  | tmp t =>
   intro s' e
   have ht : t ∈ VF (l ++ rest) o := by
    simp only [VF, List.mem_append]
    refine .inl (.inr ?_)
    simp only [QgA, List.mem_filterMap]
    exact ⟨.tmp t, by simpa using hx, rfl⟩
   exact hcur t s' (by rw [hknown t ht]; exact e)
  | _ => trivial
 have hdN : ∀ d, o.dst = some d → d < a.tmps.size := by
  intro d hd
  simp only [Qcm, List.all_eq_true] at hN
  have := hN o (List.mem_of_getElem? hi)
  rw [hd] at this
  rw [hn]; simpa [Nat.blt_eq] using this
 -- the new knowledge
 have hnew : ∀ {m' : Mem} {v : Value}, Mle m m' → s.p m' v → ∀ t s', cur l σ Γ (upd X i) l.length t = some s' → s'.p m' ((a.put o.dst v).tmps.getD t undef) := by
  intro m' v hle hv t s' e
  by_cases hd : o.dst = some t
  ·have ht : t ∈ VF (l ++ rest) o := by simp [VF, hd]
   rw [U0 l.length (by omega : i + 1 ≤ l.length)] at e
   ·rw [cur] at e
    simp only [hi, hs, upd, if_true, hd, beq_self_eq_true, Bool.and_self] at e
    cases e
    rw [hd, Vw (hdN t hd)]
    exact hv
   ·intro j p h1 h2 hp hdp
    have hji : j ≠ i := by omega
    simp only [upd, if_neg hji]
    exact hafter t ht j p (by omega) hp hdp
  ·have e' : cur l σ Γ X l.length t = some s' := by
    rw [← e]
    refine Um l.length fun j p hj hp hdp => ?_
    by_cases hji : j = i
    ·subst hji
     rw [hi] at hp; cases hp
     exact absurd hdp hd
    ·simp [upd, hji]
   have hgd : (a.put o.dst v).tmps.getD t undef = a.tmps.getD t undef := by
    cases hdd : o.dst with
    | none => rfl
    | some d => exact Ux (fun e => hd (by rw [hdd, e]))
   rw [hgd]
   exact s'.mono hle (hcur t s' e')
 -- the allocation writes its temporary alone
 have halloc : ∀ ia d e, al = some (ia, d, e) → ia ≠ i → o.dst ≠ some d := by
  intro ia d e hal2 hia hod
  have hdist := hU.resolve_left (by rw [hal2]; simp)
  have hlen : ia < l.length := by
   have key : ∀ {full : List Oper} {k : Nat} {l : List Oper} {Γ : Env} {σ : List Slot} {al}, RJ c full H k l Γ σ al → ∀ j d e, al = some (j, d, e) → j < k + l.length := by
    intro full k l Γ σ al h
    induction h with
    | nil => intro j d e h; cases h
    | read _ _ ih => intro j d e h; have := ih j d e h; simp only [List.length_cons]; omega
    | alloc => intro j d e h; cases h; simp only [List.length_cons]; omega
   have := key hR ia d e hal2
   omega
  obtain ⟨s3, Γ3, _, _, h3⟩ := hR.at ia l[ia] (List.getElem?_eq_getElem hlen)
  rcases h3 with ⟨_, h3⟩ | ⟨d3, T3, α3, R3, x3, cs3, _, _, hd3, _, _, _, hal3⟩
  ·exact absurd hal2 (by simpa using h3 d e)
  ·rw [hal2] at hal3
   simp only [Nat.zero_add, Option.some.injEq, Prod.mk.injEq, true_and] at hal3
   exact hia (QeR hdist (List.getElem?_eq_getElem hlen) hi (by rw [hd3, hal3.1]) hod)
 have hkeepAl : (∀ d e, al ≠ some (i, d, e)) → ∀ {m' : Mem} {v : Value}, Mle m m' → QkM al H (upd X i) m' hs2 (a.put o.dst v) := by
  intro hne m' v hle
  obtain ⟨E, hsE, hE⟩ := hal
  refine ⟨E, hsE.mono hle, ?_⟩
  rcases hE with ⟨rfl, hE⟩ | ⟨ia, d, e, b, hal2, hx, rfl, hb⟩
  ·refine .inl ⟨rfl, fun ia d e h => ?_⟩
   have hia : ia ≠ i := fun h2 => hne d e (by rw [h, h2])
   simp only [upd, if_neg hia]
   exact hE ia d e h
  ·have hia : ia ≠ i := fun h2 => hne d e (by rw [hal2, h2])
   refine .inr ⟨ia, d, e, b, hal2, by simp only [upd, if_neg hia]; exact hx, rfl, ?_⟩
   cases hod : o.dst with
   | none => exact hb
   | some d' => rw [Ux (fun e2 => halloc ia d e hal2 hia (by rw [hod, e2]))]; exact hb
 unfold wpOpIn
 rw [hop]
 simp only []
 have hrun : (∀ d e, al ≠ some (i, d, e)) → PJ c o Γi H s → o.wpIn (fen c.ro) 0 c.P a w K Q := by
  intro hne hpj
  obtain ⟨E, hsE, _⟩ := hal
  refine WB.wp ((hpj.frame E) m hs2 a w hg hG hsE hopd) ?_
  rintro v w' ⟨m', hg', hv, hf⟩
  refine hK _ _ ⟨by rw [Yh]; exact hdf.step hg (hf.keepOwn _), by rw [Xr]; exact hn, m', hs2, hg', c.G.mono hf.le hG, hnew hf.le hv, hfr.trans (hf.keepOwn _), hkeepAl hne hf.le⟩
 have hguard : ∀ {yes : Bool}, W8 (l ++ rest) o Γi yes → Region.wanted o (yielded (l ++ rest).toArray a.tmps) = yes := by
  rintro yes ⟨j, want, b, t, s', hgd, hj, hl, hb, hy⟩
  have ht : t ∈ VF (l ++ rest) o := by simp [VF, QiY, hgd, hj]
  have hv := hb m _ (hcur t s' (by rw [hknown t ht]; exact hl))
  have hlt2 : t < a.tmps.size := by
   rcases Nat.lt_or_ge t a.tmps.size with h | h
   ·exact h
   ·have : a.tmps.getD t undef = undef := by simp [Array.getD, Nat.not_lt.2 h]
    rw [this] at hv; cases hv
  have hyv : yielded (l ++ rest).toArray a.tmps j = some b := by
   simp only [yielded, List.getElem?_toArray, hj, Option.bind_some, Array.getElem?_eq_getElem hlt2]
   simp only [Array.getD, hlt2, dite_true] at hv
   simp only [Array.getInternal_eq_getElem] at hv
   rw [hv]
  simp only [Region.wanted, hgd, hyv]
  rw [← hy]; cases b <;> cases want <;> rfl
 have hundef : qU (l ++ rest) o Γi → Region.wanted o (yielded (l ++ rest).toArray a.tmps) = false := by
  rintro ⟨j, want, t, hgd, hj, hl⟩
  have ht : t ∈ VF (l ++ rest) o := by simp [VF, QiY, hgd, hj]
  have hv : a.tmps.getD t undef = undef := hcur t _ (by rw [hknown t ht]; exact hl)
  have hyv : yielded (l ++ rest).toArray a.tmps j = none := by
   simp only [yielded, List.getElem?_toArray, hj, Option.bind_some]
   by_cases hlt : t < a.tmps.size
   ·simp only [Array.getElem?_eq_getElem hlt]
    simp only [Array.getD, hlt, dite_true] at hv
    simp only [Array.getInternal_eq_getElem] at hv
    rw [hv]; rfl
   ·simp [Array.getElem?_eq_none (Nat.not_lt.1 hlt)]
  simp only [Region.wanted, hgd, hyv]; rfl
 rcases hcase with ⟨hok, hne⟩ | ⟨d, T, α, R, x, cs, rfl, hgd, hdd, hoo, hz, hzB, hal3⟩
 ·have hne' : ∀ d e, al ≠ some (i, d, e) := fun d e h => hne d e (by rw [h, Nat.zero_add])
  cases hok with
  | plain hgd hpj =>
   have hw : Region.wanted o (yielded (l ++ rest).toArray a.tmps) = true := by simp [Region.wanted, hgd]
   rw [if_pos hw]
   exact hrun hne' hpj
  | yes hgd hpj =>
   rw [if_pos (hguard hgd)]
   exact hrun hne' hpj
  | no hgd =>
   have hw := hguard hgd
   rw [if_neg (by rw [hw]; simp)]
   exact ⟨fun f _ => Qaa _ f, hK _ _ ⟨by rw [Yh]; exact hdf, by rw [Xr]; exact hn, m, hs2, hg, hG, hnew (Mle.refl m) rfl, hfr, hkeepAl hne' (Mle.refl m)⟩⟩
  | undef hgd =>
   have hw := hundef hgd
   rw [if_neg (by rw [hw]; simp)]
   exact ⟨fun f _ => Qaa _ f, hK _ _ ⟨by rw [Yh]; exact hdf, by rw [Xr]; exact hn, m, hs2, hg, hG, hnew (Mle.refl m) rfl, hfr, hkeepAl hne' (Mle.refl m)⟩⟩
 ·have hw : Region.wanted o (yielded (l ++ rest).toArray a.tmps) = true := by simp [Region.wanted, hgd]
  rw [if_pos hw]
  rw [Nat.zero_add] at hal3
  obtain ⟨E, hsE, hE⟩ := hal
  have hE0 : E = [] := by
   rcases hE with ⟨rfl, _⟩ | ⟨ia, d', e', b, hal2, hx, _⟩
   ·rfl
   ·rw [hal3] at hal2
    simp only [Option.some.injEq, Prod.mk.injEq] at hal2
    rw [← hal2.1, hX] at hx; cases hx
  subst hE0
  obtain ⟨zv, hzv, hzc⟩ := WM hzB w
  have hrn : (execOp a.eval o).run c.P w = .ok (.value (.pointer (some ⟨w.heap.size, 0, none⟩))) (w.alloc (.cells cs.toArray T)) := by
   simp [execOp, hoo, Instr.alloc, hzv, newVar, newRow, hzc]
  refine (WB.wp (k := fun v w' => v = .pointer (some ⟨w.heap.size, 0, none⟩) ∧ w' = w.alloc (.cells cs.toArray T)) ?_ ?_)
  ·rw [hrn]; exact ⟨rfl, rfl⟩
  ·rintro v w' ⟨rfl, rfl⟩
   refine hK _ _ ⟨by rw [Yh]; exact hdf.step hg (Frm.alloc _ _ _ _), by rw [Xr]; exact hn, m, (w.heap.size, T, cs) :: hs2, hg.newOwn T cs, hG, hnew (Mle.refl m) trivial, hfr.trans (Frm.alloc _ _ _ _), ?_⟩
   refine ⟨[box w.heap.size T R x], ⟨[(w.heap.size, T, cs)], hs2, rfl, ⟨cs, rfl, hz m⟩, hsE⟩, .inr ⟨i, d, _, w.heap.size, hal3, by simp [upd], rfl, ?_⟩⟩
   rw [hdd, Vw (hdN d hdd)]
def left (n : Nat) (X : Nat → Bool) : Nat := (List.range n).countP fun i => !X i
theorem Qfi {n i : Nat} {X : Nat → Bool} (hi : i < n) (hX : X i = false) : left n (upd X i) + 1 = left n X := by
 unfold left
 induction n with
 | zero => omega
 | succ n ih =>
  rw [List.range_succ, List.countP_append, List.countP_append]
  simp only [List.countP_cons, List.countP_nil]
  by_cases h : i = n
  ·subst h
   have : (List.range i).countP (fun j => !upd X i j) = (List.range i).countP (fun j => !X j) := by
    apply List.countP_congr
    intro j hj
    have : j ≠ i := by have := List.mem_range.1 hj; omega
    simp [upd, this]
   rw [this]
   simp [upd, hX]
  ·have ih := ih (by omega)
   have hn : n ≠ i := fun e => h e.symm
   simp only [upd, if_neg hn] at ih ⊢
   omega
theorem Qdr {n : Nat} {X : Nat → Bool} (h : left n X = 0) : ∀ i, i < n → X i = true := by
 intro i hi
 unfold left at h
 rw [List.countP_eq_zero] at h
 have := h i (List.mem_range.2 hi)
 simpa using this
def Xof (listed : Array Bool) : Nat → Bool := fun i => listed.getD i false
theorem QgQ {listed : Array Bool} {i : Nat} (hi : i < listed.size) : Xof (listed.setIfInBounds i true) = upd (Xof listed) i := by
 funext j
 simp only [Xof, upd, Array.getD]
 by_cases h : j = i
 ·subst h; simp [hi]
 ·have h' : i ≠ j := fun e => h e.symm
  simp only [h, if_false, Array.size_setIfInBounds]
  by_cases hj : j < listed.size
  ·simp [hj, Array.getElem_setIfInBounds, h']
  ·simp [hj]
theorem UZ {full : List Oper} {listed : Array Bool} {i : Nat} (hs : listed.size = full.length) : i ∈ Region.ready .any full.toArray listed ↔ ∃ o, full[i]? = some o ∧ Xof listed i = false ∧ ∀ j ∈ Xw o, Xof listed j = true := by
 unfold Region.ready
 simp only [List.size_toArray, List.mem_filter, List.mem_range, List.getElem?_toArray, Bool.and_eq_true]
 constructor
 ·rintro ⟨hi, h1, h2⟩
  rw [List.getElem?_eq_getElem hi] at h2
  simp only [Option.map_some, Option.getD_some] at h2
  refine ⟨full[i], List.getElem?_eq_getElem hi, ?_, ?_⟩
  ·have hi' : i < listed.size := by omega
   simp only [Xof, Array.getD, hi', dite_true] at h1 ⊢
   simpa using h1
  ·intro j hj
   simp only [Xw, List.mem_map, List.mem_filter] at hj
   obtain ⟨e, ⟨he, hb⟩, rfl⟩ := hj
   rw [Array.all_eq_true_iff_forall_mem] at h2
   have := h2 e (by simpa using he)
   simpa [hb, Xof] using this
 ·rintro ⟨o, ho, hX, he⟩
  obtain ⟨hi, rfl⟩ := List.getElem?_eq_some_iff.1 ho
  refine ⟨hi, ?_, ?_⟩
  ·have hi' : i < listed.size := by omega
   simp only [Xof, Array.getD, hi', dite_true] at hX ⊢
   simpa using hX
  ·rw [ho]
   simp only [Option.map_some, Option.getD_some]
   rw [Array.all_eq_true_iff_forall_mem]
   intro e hem
   by_cases hb : Region.binds .any e = true
   ·have := he e.on (by simp only [Xw, List.mem_map, List.mem_filter]; exact ⟨e, ⟨by simpa using hem, hb⟩, rfl⟩)
    simp only [Xof] at this
    simp [this]
   ·simp [hb]
theorem QcL (full : List Oper) (n : Nat) : full = full.take n ++ full.drop n := (List.take_append_drop n full).symm
theorem Qh6 (hm : c.P.follows .mixedOrders = true) (hB : UL (l ++ rest) l.length = true) (hN : Qcm c.N l = true) (hU : al = none ∨ Qbs l = true) (hR : RJ c (l ++ rest) H 0 l Γ σ al)
  (hend : ∀ a w, QiJ c (l ++ rest) l σ al Γ H (fun _ => true) a w → wpListIn (fen c.ro) 0 c.P (l ++ rest).toArray Q rest a w) :
  ∀ (fuel : Nat) (listed : Array Bool) (a : Act) (w : World), listed.size = (l ++ rest).length → left (l ++ rest).length (Xof listed) ≤ fuel →
   (((∀ i, l.length ≤ i → Xof listed i = false) ∧ (∀ j p, l[j]? = some p → Xof listed j = true → ∀ e ∈ Xw p, Xof listed e = true) ∧ QiJ c (l ++ rest) l σ al Γ H (Xof listed) a w) ∨
    (∃ p, l.length ≤ p ∧ p ≤ (l ++ rest).length ∧ (∀ i, i < (l ++ rest).length → Xof listed i = decide (i < p)) ∧ wpListIn (fen c.ro) 0 c.P (l ++ rest).toArray Q ((l ++ rest).drop p) a w)) →
   wpAnyIn (fen c.ro) 0 c.P .any (l ++ rest).toArray Q fuel listed a w := by
 -- a first part that is done is a second part that has begun
 have conv : ∀ {listed : Array Bool} {a : Act} {w : World}, (∀ i, l.length ≤ i → Xof listed i = false) → QiJ c (l ++ rest) l σ al Γ H (Xof listed) a w → (∀ i, i < l.length → Xof listed i = true) →
   ∃ p, l.length ≤ p ∧ p ≤ (l ++ rest).length ∧ (∀ i, i < (l ++ rest).length → Xof listed i = decide (i < p)) ∧ wpListIn (fen c.ro) 0 c.P (l ++ rest).toArray Q ((l ++ rest).drop p) a w := by
  intro listed a w h1 h2 h3
  refine ⟨l.length, Nat.le_refl _, by simp, fun i _ => ?_, ?_⟩
  ·by_cases hi : i < l.length
   ·simp [hi, h3 i hi]
   ·simp [hi, h1 i (by omega)]
  ·rw [List.drop_left']
   ·refine hend a w ?_
    obtain ⟨hdf, hn, m, hs, hg, hG, hcur, hfr, E, hsE, hE⟩ := h2
    refine ⟨hdf, hn, m, hs, hg, hG, fun t s e => hcur t s ?_, hfr, E, hsE, ?_⟩
    ·rw [← e]
     refine Um l.length fun j o hj _ _ => ?_
     rw [h3 j hj]
    ·rcases hE with ⟨rfl, hE⟩ | ⟨ia, d, e, b, hal, hx, hEe, hb⟩
     ·refine .inl ⟨rfl, fun ia d e h => ?_⟩
      have hlen : ia < l.length := by
       have key : ∀ {full : List Oper} {k : Nat} {l : List Oper} {Γ : Env} {σ : List Slot} {al}, RJ c full H k l Γ σ al → ∀ j d e, al = some (j, d, e) → j < k + l.length := by
        intro full k l Γ σ al h
        induction h with
        | nil => intro j d e h; cases h
        | read _ _ ih => intro j d e h; have := ih j d e h; simp only [List.length_cons]; omega
        | alloc => intro j d e h; cases h; simp only [List.length_cons]; omega
       have := key hR ia d e h
       omega
      have := hE ia d e h
      rw [h3 ia hlen] at this; cases this
     ·exact .inr ⟨ia, d, e, b, hal, rfl, hEe, hb⟩
   ·rfl
 intro fuel
 induction fuel with
 | zero =>
  intro listed a w hsz hleft hinv
  have hall := Qdr (Nat.le_zero.1 hleft)
  have hemp : Region.ready .any (l ++ rest).toArray listed = [] := by
   rw [List.eq_nil_iff_forall_not_mem]
   intro i hi
   obtain ⟨o, ho, hX, _⟩ := (UZ hsz).1 hi
   rw [hall i (List.getElem?_eq_some_iff.1 ho).1] at hX; cases hX
  refine ⟨hemp, ?_⟩
  obtain ⟨p, hp1, hp2, hp3, hp4⟩ : ∃ p, l.length ≤ p ∧ p ≤ (l ++ rest).length ∧ (∀ i, i < (l ++ rest).length → Xof listed i = decide (i < p)) ∧ wpListIn (fen c.ro) 0 c.P (l ++ rest).toArray Q ((l ++ rest).drop p) a w := by
   rcases hinv with ⟨h1, _, h2⟩ | h
   ·exact conv h1 h2 (fun i hi => hall i (by simp; omega))
   ·exact h
  have hpe : p = (l ++ rest).length := by
   rcases Nat.lt_or_ge p (l ++ rest).length with h | h
   ·have := hp3 p h
    rw [hall p h] at this; simp at this
   ·omega
  rw [hpe, List.drop_length] at hp4
  exact hp4
 | succ fuel ih =>
  intro listed a w hsz hleft hinv
  -- nothing is ready: all is done
  have hdone : Region.ready .any (l ++ rest).toArray listed = [] → ∀ i, i < (l ++ rest).length → Xof listed i = true := by
   intro hemp i
   induction i using Nat.strongRecOn with
   | _ i ihi =>
    intro hi
    cases hX : Xof listed i with
    | true => rfl
    | false =>
     have : i ∈ Region.ready .any (l ++ rest).toArray listed := (UZ hsz).2 ⟨(l ++ rest)[i], List.getElem?_eq_getElem hi, hX, fun j hj => by
      have hji := Bd hB (List.getElem?_eq_getElem hi) j hj
      exact ihi j hji (by omega)⟩
     rw [hemp] at this; cases this
  refine ⟨fun hemp => ?_, fun i hi => ?_⟩
  ·have hall := hdone hemp
   obtain ⟨p, hp1, hp2, hp3, hp4⟩ : ∃ p, l.length ≤ p ∧ p ≤ (l ++ rest).length ∧ (∀ i, i < (l ++ rest).length → Xof listed i = decide (i < p)) ∧ wpListIn (fen c.ro) 0 c.P (l ++ rest).toArray Q ((l ++ rest).drop p) a w := by
    rcases hinv with ⟨h1, _, h2⟩ | h
    ·exact conv h1 h2 (fun i hi => hall i (by simp; omega))
    ·exact h
   have hpe : p = (l ++ rest).length := by
    rcases Nat.lt_or_ge p (l ++ rest).length with h | h
    ·have := hp3 p h
     rw [hall p h] at this; simp at this
    ·omega
   rw [hpe, List.drop_length] at hp4
   exact hp4
  ·obtain ⟨o, ho, hX, hedge⟩ := (UZ hsz).1 hi
   have hilt := (List.getElem?_eq_some_iff.1 ho).1
   have hsz' : (listed.setIfInBounds i true).size = (l ++ rest).length := by simpa using hsz
   have hXu := QgQ (listed := listed) (i := i) (by omega)
   have hleft' : left (l ++ rest).length (Xof (listed.setIfInBounds i true)) ≤ fuel := by
    rw [hXu]; have := Qfi hilt hX; omega
   -- which part?
   have hB' : (∃ p, l.length ≤ p ∧ p ≤ (l ++ rest).length ∧ (∀ i, i < (l ++ rest).length → Xof listed i = decide (i < p)) ∧ wpListIn (fen c.ro) 0 c.P (l ++ rest).toArray Q ((l ++ rest).drop p) a w) →
     wpOpIn (fen c.ro) 0 c.P (l ++ rest).toArray Q i (wpAnyIn (fen c.ro) 0 c.P .any (l ++ rest).toArray Q fuel (listed.setIfInBounds i true)) a w := by
    rintro ⟨p, hp1, hp2, hp3, hp4⟩
    have hip : ¬ i < p := by
     intro h
     have := hp3 i hilt
     rw [hX] at this; simp [h] at this
    have hpi : p = i := by
     rcases Nat.lt_or_ge p i with h | h
     ·have := W5 hB ho (by omega) (X := Xof listed) hedge (fun j q hj hXj e he => by
       have hjl := (List.getElem?_eq_some_iff.1 hj).1
       rw [hp3 j hjl] at hXj
       have hjp : j < p := by simpa using hXj
       have hej := Bd hB hj e he
       rw [hp3 e (by omega)]; simp; omega) p h
      rw [hp3 p (by omega)] at this
      simp at this
     ·omega
    subst hpi
    rw [List.drop_eq_getElem_cons hilt] at hp4
    have hoe : (l ++ rest)[p] = o := (List.getElem?_eq_some_iff.1 ho).2
    rw [hoe] at hp4
    have hop : (l ++ rest).toArray[p]? = some o := by simpa using ho
    have : wpOpIn (fen c.ro) 0 c.P (l ++ rest).toArray Q p (wpListIn (fen c.ro) 0 c.P (l ++ rest).toArray Q ((l ++ rest).drop (p + 1))) a w := by
     unfold wpOpIn
     rw [hop]
     exact hp4
    refine wpOpIn_mono (fun a' w' h' => ?_) this
    refine ih _ a' w' hsz' hleft' (.inr ⟨p + 1, by omega, by omega, fun j hj => ?_, h'⟩)
    rw [hXu]
    by_cases hjp : j = p
    ·simp [upd, hjp]
    ·simp only [upd, if_neg hjp, hp3 j hj]
     congr 1
     rw [eq_iff_iff]; omega
   rcases hinv with ⟨h1, h2, h3⟩ | h
   ·by_cases hil : i < l.length
    ·have hol : l[i]? = some o := by rwa [List.getElem?_append_left hil] at ho
     refine Qhk hB hN hU hR hol hX hedge h2 h3 fun a' w' hD => ?_
     refine ih _ a' w' hsz' hleft' (.inl ⟨fun j hj => ?_, fun j p hp hj e he => ?_, by rw [hXu]; exact hD⟩)
     ·rw [hXu]
      have : j ≠ i := by omega
      simp only [upd, if_neg this]
      exact h1 j hj
     ·rw [hXu] at hj ⊢
      simp only [upd] at hj ⊢
      split
      ·rfl
      ·by_cases hji : j = i
       ·subst hji
        rw [hol] at hp; cases hp
        exact hedge e he
       ·rw [if_neg hji] at hj
        exact h2 j p hp hj e he
    ·refine hB' (conv h1 h3 fun j hj => ?_)
     refine W5 hB ho (by omega) (X := Xof listed) hedge (fun j' q hj' hXj e he => ?_) j (by omega)
     have hjl : j' < l.length := by
      rcases Nat.lt_or_ge j' l.length with h | h
      ·exact h
      ·rw [h1 j' h] at hXj; cases hXj
     exact h2 j' q (by rwa [List.getElem?_append_left hjl] at hj') hXj e he
   ·exact hB' h
theorem Qlb {id n : Nat} {L : List Oper} (hst : St c Γ H a w) (hm : c.P.follows .mixedOrders = true) (hB : UL L n = true) (hn : Nat.ble n L.length = true) (hN : Qcm c.N (L.take n) = true) (hR : RJ c L H 0 (L.take n) Γ σ none)
  (k : Jc c L.toArray (L.drop n) (Qay Γ (L.take n) σ) H (Q .normal)) : (Code.region id L.toArray true).wpIn (fen c.ro) 0 c.P Q a w := by
 have hlen : (L.take n).length = n := by rw [List.length_take]; have := Nat.ble_eq ▸ hn; omega
 have e := QcL L n
 have main := Qh6 (c := c) (Γ := Γ) (H := H) (Q := Q) (l := L.take n) (rest := L.drop n) (σ := σ) (al := none) hm (by rw [← e, hlen]; exact hB) hN (.inl rfl) (by rw [← e]; exact hR)
  (fun a w ⟨hdf, hn, m, hs, hg, hG, hcur, hfr, E, hsE, hE⟩ => by
   rw [← e]
   have hE0 : E = [] := by
    rcases hE with ⟨rfl, _⟩ | ⟨ia, d, e, b, hal, _⟩
    ·rfl
    ·cases hal
   subst hE0
   refine k a w Q (fun _ _ h => h) ⟨hdf, hn, m, hs, hg, hG, fun t s h => hcur t s ?_, hsE, hfr⟩
   rw [← Qdz Γ _ σ hR.len t]; exact h)
 refine wpIn_region_any hm ?_
 rw [← e] at main
 obtain ⟨hdf, hn', m, hs, hg, hG, he, hsat, hf⟩ := hst
 refine main _ _ a w.drew (by simp) (Nat.le_trans (List.countP_le_length) (by simp)) (.inl ⟨fun i _ => ?_, fun j p _ hj => ?_, hdf.step hg (Frm.drew _ _ _), hn', m, hs, hg.drew, hG, fun t s h => he t s ?_, hf.trans (Frm.drew _ _ _), [], hsat, .inl ⟨rfl, fun _ _ _ h => by cases h⟩⟩)
 ·simp only [Xof, Array.getD]; split <;> simp
 ·simp only [Xof, Array.getD] at hj; split at hj <;> simp at hj
 ·rw [← h]
  have : ∀ k, cur (L.take n) σ Γ (Xof (Array.replicate L.toArray.size false)) k t = lk Γ t := by
   intro k
   rw [U0 k (Nat.zero_le k)]
   ·rfl
   ·intro j o _ _ _ _
    simp only [Xof, Array.getD]; split <;> simp
  rw [this]
end
end Go.Sl
namespace Go.Sl
def WR (r : Option Nat) (P : Program) (Q : Exit → Act → World → Prop) : List Code → Act → World → Prop
 | [] => Q .normal
 | x :: k => x.wpIn (fen r) 0 P (Exit.then (WR r P Q k) Q)
def Run (c : Ctx) (Q : Exit → Act → World → Prop) (k : List Code) (Γ : Env) (H : List Ent) : Prop := ∀ a w, St c Γ H a w → WR c.ro c.P Q k a w
section
variable {c : Ctx} {Γ Γ' : Env} {H H' : List Ent} {Q : Exit → Act → World → Prop} {k : List Code}
theorem YV (h : ∀ a w, St c Γ H a w → Q .normal a w) : Run c Q [] Γ H := h
theorem QjG {x y : Code} (h : Run c Q (x :: y :: k) Γ H) : Run c Q (.seq x y :: k) Γ H := by
 intro a w hst
 refine wpIn_seq (wpIn_mono (h a w hst) fun e a' w' he => ?_)
 cases e <;> exact he
theorem Qm (h : Run c Q k Γ H) : Run c Q (.skip :: k) Γ H := fun a w hst => wpIn_skip (h a w hst)
theorem QjS (h : SubE Γ Γ') (r : Run c Q k Γ' H) : Run c Q k Γ H := fun a w hst => r a w (hst.sub h)
theorem Xn (h : Keep H H') (r : Run c Q k Γ H') : Run c Q k Γ H := fun a w hst => r a w (hst.keep h)
theorem Qix {id : Nat} {l : List Oper} (h : Jc c l.toArray l Γ H (WR c.ro c.P Q k)) : Run c Q (.region id l.toArray false :: k) Γ H :=
 fun a w hst => wpIn_region_lit (h a w _ (fun _ _ h => h) hst)
theorem Qd {full : Array Oper} (h : Run c Q k Γ H) : Jc c full [] Γ H (WR c.ro c.P Q k) := fun a w Q' hQ hst => hQ a w (h a w hst)
theorem Qi8 {id n : Nat} {L : List Oper} {σ : List Slot} (hm : c.P.follows .mixedOrders = true) (hB : UL L n = true) (hn : Nat.ble n L.length = true) (hN : Qcm c.N (L.take n) = true) (hR : RJ c L H 0 (L.take n) Γ σ none)
  (h : Jc c L.toArray (L.drop n) (Qay Γ (L.take n) σ) H (WR c.ro c.P Q k)) : Run c Q (.region id L.toArray true :: k) Γ H :=
 fun a w hst => Qlb hst hm hB hn hN hR h
theorem Qn {x : Operand} {A B : Code} {b : Bool} (hx : Has Γ x (bl.slot b)) (h1 : b = true → Run c Q (A :: k) Γ H) (h2 : b = false → Run c Q (B :: k) Γ H) : Run c Q (.cond x A B :: k) Γ H := by
 intro a w hst
 have hst' := hst
 obtain ⟨_, _, m, hs, _, _, he, _⟩ := hst'
 have hv := K2.1 (hx m a (he.opd x))
 exact wpIn_cond_split hv (fun hb => h1 hb a w hst) (fun hb => h2 hb a w hst)
def BQ (id : Nat) (n : Act → World → Prop) (Q : Exit → Act → World → Prop) : Exit → Act → World → Prop
 | .normal, a, w => n a w
 | .exit id', a, w => if id' = id then n a w else Q (.exit id') a w
 | e, a, w => Q e a w
theorem QJ {id : Nat} {x : Code} (h : Run c (BQ id (WR c.ro c.P Q k) Q) [x] Γ H) : Run c Q (.block id x :: k) Γ H := by
 intro a w hst
 refine wpIn_block (wpIn_mono (h a w hst) fun e a' w' he => ?_)
 cases e with
 | normal => exact he
 | exit id' =>
  simp only [Exit.then, BQ, Exit.inBlock] at he ⊢
  split <;> simp_all
 | _ => exact he
theorem BX {id : Nat} (h : ∀ a w, St c Γ H a w → Q (.exit id) a w) : Run c Q (.exit id :: k) Γ H := fun a w hst => wpIn_exit (h a w hst)
theorem Qo (h : ∀ a w, St c Γ H a w → Q .ret a w) : Run c Q (.ret :: k) Γ H := fun a w hst => wpIn_ret (h a w hst)
theorem Qb0 {id : Nat} {n : Act → World → Prop} {a : Act} {w : World} (h : n a w) : BQ id n Q (.exit id) a w := by simp only [BQ, if_true]; exact h
theorem Qac {id id' : Nat} {n : Act → World → Prop} {a : Act} {w : World} (hne : Nat.beq id' id = false) (h : Q (.exit id') a w) : BQ id n Q (.exit id') a w := by
 have : id' ≠ id := fun e => by subst e; simp at hne
 simp only [BQ, if_neg this]; exact h
end
def LQ {σ ρ : Type} (id : Nat) (I : σ → Act → World → Prop) (R : ρ → Act → World → Prop) (r : LR σ ρ) (e : Exit) (a : Act) (w : World) : Prop :=
 match r with
 | .next s => e = .normal ∧ I s a w
 | .brk s => e = .exit id ∧ I s a w
 | .ret x => e = .ret ∧ R x a w
theorem Qic {P : Program} {ro : Option Nat} {Q : Exit → Act → World → Prop} {σ ρ : Type} {f : σ → Option (LR σ ρ)} {I : σ → Act → World → Prop} {R : ρ → Act → World → Prop} {id : Nat} {body : Code}
  (step : ∀ s r a w, f s = some r → I s a w → body.wpIn (fen ro) 0 P (LQ id I R r) a w) :
  ∀ (n : Nat) (s : σ) (out : σ ⊕ ρ) (a : Act) (w : World), Z2 f n s = some out → I s a w → (∀ s' a w, out = .inl s' → I s' a w → Q (.exit id) a w) → (∀ x a w, out = .inr x → R x a w → Q .ret a w) → Code.roundsIn (fen ro) 0 P body Q n a w := by
 intro n
 induction n with
 | zero => intro s out a w h; cases h
 | succ n ih =>
  intro s out a w h hI h1 h2
  rw [roundsIn_succ]
  unfold Z2 at h
  cases hf : f s with
  | none => rw [hf] at h; cases h
  | some r =>
   rw [hf] at h
   refine wpIn_mono (step s r a w hf hI) fun e a' w' hq => ?_
   cases r with
   | next s' => obtain ⟨rfl, hI'⟩ := hq; exact ih s' out a' w' h hI' h1 h2
   | brk s' => obtain ⟨rfl, hI'⟩ := hq; simp only [Option.some.injEq] at h; exact h1 s' a' w' h.symm hI'
   | ret x => obtain ⟨rfl, hR⟩ := hq; simp only [Option.some.injEq] at h; exact h2 x a' w' h.symm hR
section
variable {c : Ctx} {Γ Γ' : Env} {H H' : List Ent} {Q : Exit → Act → World → Prop} {k : List Code}
theorem VZ {σ ρ ι : Type} {f : σ → Option (LR σ ρ)} {Γi : ι → σ → Env} {Hi : ι → σ → List Ent} {R : ρ → Act → World → Prop} {id n : Nat} {body : Code} {s0 : σ} {out : σ ⊕ ρ} (hl : Z2 f n s0 = some out)
  (i0 : ι) (h0 : ∀ a w, St c Γ H a w → St c (Γi i0 s0) (Hi i0 s0) a w)
  (step : ∀ i s r, f s = some r → Run c (LQ id (fun s a w => ∃ i, St c (Γi i s) (Hi i s) a w) R r) [body] (Γi i s) (Hi i s))
  (h1 : ∀ i s, out = .inl s → Run c Q k (Γi i s) (Hi i s)) (h2 : ∀ x a w, out = .inr x → R x a w → Q .ret a w) : Run c Q (.block id (.loop body) :: k) Γ H := by
 refine QJ fun a w hst => ?_
 refine wpIn_loop_rounds n (Qic (I := fun s a w => ∃ i, St c (Γi i s) (Hi i s) a w) (R := R) (id := id) (f := f) ?_ n s0 out a w hl ⟨i0, h0 a w hst⟩ ?_ ?_)
 ·rintro s r a w hf ⟨i, hI⟩
  refine wpIn_mono (step i s r hf a w hI) fun e a' w' hq => ?_
  cases e <;> exact hq
 ·rintro s' a w ho ⟨i, hI⟩
  exact Qb0 (h1 i s' ho a w hI)
 ·intro x a w ho hR
  exact h2 x a w ho hR
end
section
variable {c : Ctx} {Γ Γ' : Env} {H H' : List Ent} {a : Act} {w : World} {ι : Type} {ρ : ι → Slot} {ε : ι → List Ent} {fn : Func}
def Qch (tmps : Array Value) : ResultVar → Sem Value
 | .tmp t => pure (tmps.getD t undef)
 | .cell ad t => do loadVar t (← asAddr (tmps.getD ad undef))
theorem Qf9 (fn : Func) (tmps : Array Value) : results fn tmps = (do let vs ← fn.results.mapM (Qch tmps); pure (if h : vs.size = 1 then vs[0] else .tuple vs)) := by
 unfold results
 have : (fun (r : ResultVar) => (match r with
  | .tmp t => pure (tmps.getD t undef)
  | .cell a t => do loadVar t (← asAddr (tmps.getD a undef)) : Sem Value)) = Qch tmps := by
  funext r; cases r <;> rfl
 rw [← this]
 rfl
inductive ResJ (c : Ctx) (Γ : Env) (H : List Ent) : ResultVar → Slot → Prop
 | tmp {t : Nat} {s : Slot} : lk Γ t = some s → ResJ c Γ H (.tmp t) s
 | cell {t b : Nat} {T T0 : TypeId} {α : Type} {R : Rep α} {x : α} {H' : List Ent} : lk Γ t = some (val (.pointer (some ⟨b, 0, none⟩))) → Pick H (box b T0 R x) H' → tyB c.P T R.ag R.n = true → ResJ c Γ H (.cell t T) (R.slot x)
theorem ResJ.run {r : ResultVar} {s : Slot} (h : ResJ c Γ H r s) {m : Mem} {hs : Hp} (hg : JM m hs w) (hsat : Sat H m hs) (he : Y1 Γ m a) :
  ∃ v, (Qch a.tmps r).run c.P w = .ok v w ∧ s.p m v := by
 cases h with
 | tmp h => exact ⟨_, rfl, he _ _ h⟩
 | @cell t b T T0 α R x H' h hk hT =>
  have e : a.tmps.getD t undef = _ := he t _ h
  obtain ⟨cs, hmem, hr⟩ := Sat.box (w := w) hsat hk
  refine ⟨ZV R.ag cs, ?_, Rep.is_of hr⟩
  have := XR (P := c.P) (w := w) (b := b) (o := 0) hT (R.len hr) R.one (fun j v ev => by rw [Nat.zero_add]; exact hg.cells hmem j v ev)
  simp only [Instr.loadAt, Instr.sureAddr, pure_bind] at this
  simp only [Qch, e, asAddr, pure_bind]
  exact this
inductive ResL (c : Ctx) (Γ : Env) (H : List Ent) : List ResultVar → List Slot → Prop
 | nil : ResL c Γ H [] []
 | cons {r : ResultVar} {s : Slot} {rs : List ResultVar} {ss : List Slot} : ResJ c Γ H r s → ResL c Γ H rs ss → ResL c Γ H (r :: rs) (s :: ss)
theorem ResL.run {rs : List ResultVar} {ss : List Slot} (h : ResL c Γ H rs ss) {m : Mem} {hs : Hp} (hg : JM m hs w) (hsat : Sat H m hs) (he : Y1 Γ m a) :
  ∃ vs : List Value, (rs.mapM (Qch a.tmps)).run c.P w = .ok vs w ∧ UA m ss vs ∧ vs.length = rs.length := by
 induction h with
 | nil => exact ⟨[], by simp, rfl, rfl⟩
 | cons h1 _ ih =>
  obtain ⟨vs, hrun, hall, hlen⟩ := ih
  obtain ⟨v, hv, hs'⟩ := h1.run hg hsat he
  refine ⟨v :: vs, ?_, ⟨v, vs, rfl, hs', hall⟩, by simp [hlen]⟩
  rw [List.mapM_cons]
  simp only [Sem.run_bind, hv, Result.andThen_ok, hrun, Sem.run_pure]
theorem BW {rs : List ResultVar} {vs : List Value} (hr : fn.results = rs.toArray) (h : (rs.mapM (Qch a.tmps)).run c.P w = .ok vs w) :
  (results fn a.tmps).run c.P w = .ok (if h : vs.toArray.size = 1 then vs.toArray[0] else .tuple vs.toArray) w := by
 rw [Qf9, hr, Sem.run_bind, Array.mapM_eq_mapM_toList, Sem.run_map]
 show (((List.mapM (Qch a.tmps) rs).run c.P w).andThen _ |>.andThen _) = _
 rw [h]
 rfl
theorem QL {r : ResultVar} {s : Slot} (hst : St c Γ H a w) (hr : fn.results = #[r]) (hj : ResJ c Γ H r s) (i : ι) (hs : ∀ m v, s.p m v → (ρ i).p m v) (hk : Keep H (ε i)) (hds : c.mm = false := by rfl) : bodyPost c.P fn (QaZ c ρ ε) .ret a w := by
 obtain ⟨hd, hn, m, hsh, hg, hG, he, hsat, hf⟩ := hst
 obtain ⟨vs, hrun, hall, hlen⟩ := (ResL.cons hj .nil).run hg hsat he
 have := BW (fn := fn) (rs := [r]) hr hrun
 obtain ⟨v, vs', rfl, hv, hnil⟩ := hall
 cases hnil
 obtain ⟨rr, hs', hp, q⟩ := hsat.keep hk
 have hg' := hg.perm hp
 refine ⟨hd.none hds, v, by simpa using this, v, m, hs', i, rfl, hg'.sub, hs m v hv, q, (hf.perm hp).sub fun b hb => by rw [Hp.bs_append]; exact List.mem_append.2 (.inr hb)⟩
theorem JV {rs : List ResultVar} {ss : List Slot} (hst : St c Γ H a w) (hr : fn.results = rs.toArray) (hj : ResL c Γ H rs ss) (h1 : Nat.beq rs.length 1 = false) (i : ι) (hs : ∀ m v, (tup ss).p m v → (ρ i).p m v) (hk : Keep H (ε i)) (hds : c.mm = false := by rfl) : bodyPost c.P fn (QaZ c ρ ε) .ret a w := by
 obtain ⟨hd, hn, m, hsh, hg, hG, he, hsat, hf⟩ := hst
 obtain ⟨vs, hrun, hall, hlen⟩ := hj.run hg hsat he
 have := BW (fn := fn) hr hrun
 have hne : ¬ vs.toArray.size = 1 := by
  intro h
  have : rs.length = 1 := by rw [← hlen]; simpa using h
  rw [this] at h1; cases h1
 rw [dif_neg hne] at this
 obtain ⟨rr, hs', hp, q⟩ := hsat.keep hk
 have hg' := hg.perm hp
 exact ⟨hd.none hds, _, this, _, m, hs', i, rfl, hg'.sub, hs m _ ⟨vs, rfl, hall⟩, q, (hf.perm hp).sub fun b hb => by rw [Hp.bs_append]; exact List.mem_append.2 (.inr hb)⟩
theorem Ki {rs : List ResultVar} {ss : List Slot} (hst : St c Γ H a w) (hr : fn.results = rs.toArray) (hj : ResL c Γ H rs ss) (h1 : Nat.beq rs.length 1 = false) (i : ι) (hs : ∀ m v, (tup ss).p m v → (ρ i).p m v) (hk : Keep H (ε i)) (hds : c.mm = false := by rfl) : bodyPost c.P fn (QaZ c ρ ε) .normal a w :=
 JV hst hr hj h1 i hs hk hds
end
theorem Qp {P : Program} {G : GP} {f : FuncId} {fn : Func} {code : Code} {A : List Slot} {E : List Ent} {ι : Type} {ρ : ι → Slot} {ε : ι → List Ent}
  (hf : P.funcs[f]? = some fn) (hb : fn.body = some code) (N : Nat) (hN : fn.ntmps = N) (hA : Nat.ble A.length N = true)
  (h : ∀ (m0 : Mem) (w0 : World) (b0 : List Nat), Run ⟨P, N, G, m0, w0, b0, none, false⟩ (bodyPost P fn (QaZ ⟨P, N, G, m0, w0, b0, none, false⟩ ρ ε)) [code] (Bo 0 A) E) : Ctr P G f A E ρ ε := by
 refine Qfz hf hb hN hA ?_
 rintro ⟨P', N', G', m0, w0, b0, ro', ds'⟩ rfl rfl rfl rfl rfl a w hst
 refine wpIn_mono (h m0 w0 b0 a w hst) fun e a' w' he => ?_
 cases e <;> exact he
end Go.Sl
namespace Go.Sl
section
variable {c : Ctx} {full : Array Oper} {l : List Oper} {Γ Γ' : Env} {H H' : List Ent} {K : Act → World → Prop} {d : Tmp} {od : Option Tmp} {ty : TypeId} {pos : String} {aft : Array Edge} {g : Option (Nat × Bool)} {α β : Type}
theorem PJ.eqv {o : Oper} {R : Rep α} {x y : α} (h : PJ c o Γ H (R.slot x)) (e : x = y) : PJ c o Γ H (R.slot y) := e ▸ h
theorem Qet {T : TypeId} {x y : Operand} {R : Rep α} {xs : List α} {i : Int} {s : Slot} {z : α} (hx : Has Γ x ((sl R).slot xs)) (hy : Has Γ y s) (hs : Ka s i) (h : ZC xs i = some z) (hT : slB c.P T R.n = true) :
  PJ c ⟨od, .indexAddr T x y, ty, pos, aft, g⟩ Γ H (Qt R z) := by
 obtain ⟨h0, hi, rfl⟩ := Q4 h
 exact Qff hx hy hs h0 hi hT
theorem W3 {T n : Nat} {x y : Operand} {R : Rep α} {v : Vector α n} {i : Int} {s : Slot} {z : α} (hx : Has Γ x (Qt (vec n R) v)) (hy : Has Γ y s) (hs : Ka s i) (h : Vc v i = some z) (hT : q7 c.P T n R.n = true) :
  PJ c ⟨od, .indexAddr T x y, ty, pos, aft, g⟩ Γ H (Qt R z) := by
 obtain ⟨h0, hi, rfl⟩ := QF h
 exact Qe2 hx hy hs h0 hi hT
theorem ZH {T : TypeId} {x : Operand} {lo hi : Option Operand} {R : Rep α} {xs r : List α} {p q : Option Int} (hx : Has Γ x ((sl R).slot xs)) (hlo : OptI Γ lo p) (hhi : OptI Γ hi q)
  (h : YJ xs (p.getD 0) (q.getD xs.length) = some r) (hT : slB c.P T R.n = true) : PJ c ⟨od, .slice T x lo hi none, ty, pos, aft, g⟩ Γ H ((sl R).slot r) := by
 obtain ⟨h0, h1, h2, rfl⟩ := B0 h
 exact Qfp hx hlo hhi h0 h1 h2 hT
theorem Qau {T n e : Nat} {x : Operand} {R : Rep α} {xs : List α} {v : Vector α n} (hx : Has Γ x ((sl R).slot xs)) (h : Wi n xs = some v) (hn : Nat.blt 0 n = true) (hT : c.P.underlying T = some (.array n e)) :
  PJ c ⟨od, .sliceToArrayPointer T x, ty, pos, aft, g⟩ Γ H (Qt (vec n R) v) := by
 obtain ⟨hl, rfl⟩ := Qe5 h
 exact QjR hx hl (by simpa [Nat.blt_eq] using hn) hT
theorem QfL {P : Program} {T sz : Nat} (hT : slB P T sz = true) {a : Option Addr} {len cap : Nat} {kh km : IntKind} {h m : Int} (h0 : 0 ≤ h) (h1 : h ≤ m) (h2 : m ≤ cap) (w : World) :
  (Instr.sliceAt T (.slice a len cap) none (some (.int kh h)) (some (.int km m))).run P w = .ok (.slice a h.toNat m.toNat) w := by
 obtain ⟨e, hu, hs⟩ := BS hT
 have hz := V8 hs w
 have hb : ∀ (k : IntKind) (n : Int) (y : Nat) (code : BoundsCode), 0 ≤ n → n ≤ y → (Instr.sliceBound (.int k n) y code).run P w = .ok n.toNat w := by
  intro k n y code h0 h1
  simp [Instr.sliceBound, asIntOf, h0, h1]
 have e1 := hb km m cap .slice3Acap (by omega) h2
 have e2 := hb kh h m.toNat .slice3B h0 (by omega)
 simp only [Instr.sliceAt, Sem.run_bind, run_underlying hu, Result.andThen_ok, Instr.slice, Instr.sliceBounds, if_true, e1, e2, Sem.run_pure, hz]
 congr 1
 by_cases hm : m.toNat = 0
 ·simp [hm]
 ·simp only [hm, if_false, Nat.zero_mul, Nat.sub_zero]
  congr 1
  cases a with
  | none => rfl
  | some a => simp [Addr.add]
theorem QhT {T : TypeId} {x y z : Operand} {R : Rep α} {xs r : List α} {p : Int} (hx : Has Γ x ((sl R).slot xs)) (hy : Has Γ y (i64.slot p)) (hz : Has Γ z (i64.slot p))
  (h : YJ xs 0 p = some r) (hT : slB c.P T R.n = true) : PJ c ⟨od, .slice T x none (some y) (some z), ty, pos, aft, g⟩ Γ H ((sl R).slot r) :=
 YE fun m hs2 a w hg _ _ ho => by
  obtain ⟨a0, cap, e, hc, hrow⟩ := hx m a (ho x (by simp [Op.operands]))
  simp only [List.cons.injEq, and_true] at e
  have ey := ZE.1 (hy m a (ho y (by simp [Op.operands])))
  have ez := ZE.1 (hz m a (ho z (by simp [Op.operands])))
  obtain ⟨_, h0, h1, rfl⟩ := B0 h
  have hr := QfL (P := c.P) hT (a := a0) (len := xs.length) (cap := cap) (kh := .i64) (km := .i64) h0 (Int.le_refl p) (by omega) w
  refine ⟨.slice a0 p.toNat p.toNat, ?_, ?_⟩
  ·simp only [execOp, e, Option.map_none, Option.map_some, ey, ez, Sem.run_bind, hr, Result.andThen_ok, Sem.run_pure]
  ·have hlen : ((xs.take p.toNat).drop (0 : Int).toNat).length = p.toNat := by simp; omega
   refine ⟨a0, p.toNat, by rw [hlen], by rw [hlen]; exact Nat.le_refl _, ?_⟩
   rcases hrow with rfl | ⟨b, o, row, rfl, hrw, hat⟩
   ·exact .inl (by simp)
   ·refine .inr ⟨b, o, row.take (p.toNat * R.n), rfl, by simpa using hrw.take p.toNat, ?_⟩
    have := hat.mid 0 (p.toNat * R.n)
    simpa using this
def Bn (v : Value) (k : Nat) : Slot := ⟨fun _ u => ∃ b n cap, v = .slice (some ⟨b, 0, none⟩) n cap ∧ u = .pointer (some ⟨b, k, none⟩), fun _ h => h⟩
theorem own.at {T : TypeId} {R : Rep α} {v : Value} {xs : List α} {m : Mem} {hs : Hp} (h : (own T R v xs).p m hs) (hne : xs ≠ []) :
  ∃ b cap row spare, v = .slice (some ⟨b, 0, none⟩) xs.length cap ∧ hs = [(b, T, row ++ spare)] ∧ JP R m row xs ∧ xs.length ≤ cap ∧ (row ++ spare).length = cap * R.n :=
 h.resolve_left fun h => hne h.1
theorem J8 {T T0 : TypeId} {x y : Operand} {v : Value} {R : Rep α} {xs : List α} {i : Int} {s : Slot} (hx : Has Γ x (ov v)) (hk : Pick H (own T0 R v xs) H') (hy : Has Γ y s) (hs : Ka s i) (h0 : 0 ≤ i) (h1 : i.toNat < xs.length)
  (hT : slB c.P T R.n = true) : PJ c ⟨od, .indexAddr T x y, ty, pos, aft, g⟩ Γ H (Bn v (i.toNat * R.n)) :=
 YE fun m hs2 a w hg _ hsat ho => by
  have e := (Uv.1 (hx m a (ho x (by simp [Op.operands])))).1
  obtain ⟨k, ek⟩ := hs m _ (hy m a (ho y (by simp [Op.operands])))
  obtain ⟨g1, g2, hp, hown, _⟩ := hsat.pick hk
  obtain ⟨b, cap, row, spare, hv, _⟩ := own.at hown (fun e => by subst e; simp at h1)
  rw [hv] at e
  refine ⟨_, by simp only [execOp, e, ek, Sem.run_bind, BT hT b 0 xs.length cap k h0 (by omega)]; rfl, b, _, _, hv, by simp⟩
theorem QaJ {S f off k : Nat} {x : Operand} {v : Value} (hx : Has Γ x (Bn v k)) (hf : QdP c.P S f off = true) : PJ c ⟨od, .fieldAddr S x f, ty, pos, aft, g⟩ Γ H (Bn v (k + off)) :=
 YE fun m hs a w hg _ _ ho => by
  obtain ⟨b, n, cap, hv, e⟩ := hx m a (ho x (by simp [Op.operands]))
  exact ⟨_, by simp only [execOp, e, Sem.run_bind, Qcn hf]; rfl, b, n, cap, hv, rfl⟩
theorem Qhw {m : Mem} {hs : Hp} {w : World} {b : Nat} {T : TypeId} {R : Rep α} {row spare : List Value} {xs : List α} {i : Nat} (hg : JM m hs w) (hmem : (b, T, row ++ spare) ∈ hs) (hr : JP R m row xs) (hi : i < xs.length) (j : Nat) (u : Value)
  (e : ((row.drop (i * R.n)).take R.n)[j]? = some u) : w.cell? ⟨b, i * R.n + j, none⟩ = some u := by
 rw [List.getElem?_take] at e
 split at e
 ·rw [List.getElem?_drop] at e
  exact hg.cells hmem _ _ (by rw [List.getElem?_append_left]; exact e; exact (List.getElem?_eq_some_iff.1 e).1)
 ·cases e
theorem Qbv {T T0 i off : Nat} {x : Operand} {v : Value} {R : Rep α} {S : Rep β} {xs : List α} {get : α → β} {set : α → β → α} (hx : Has Γ x (Bn v (i * R.n + off))) (hk : Pick H (own T0 R v xs) H') (h1 : i < xs.length) (hp : Path R off S get set)
  (hT : tyB c.P T S.ag S.n = true) : PJ c ⟨od, .load T x, ty, pos, aft, g⟩ Γ H (S.slot (get xs[i])) :=
 YE fun m hs2 a w hg _ hsat ho => by
  obtain ⟨b', n, cap', hv', e⟩ := hx m a (ho x (by simp [Op.operands]))
  obtain ⟨g1, g2, hpm, hown, _⟩ := hsat.pick hk
  obtain ⟨b, cap, row, spare, hv, hg1, hr, _, _⟩ := own.at hown (fun e => by subst e; simp at h1)
  rw [hv'] at hv
  simp only [Value.slice.injEq, Option.some.injEq, Addr.mk.injEq] at hv
  obtain ⟨⟨rfl, _⟩, _⟩ := hv
  have hmem : (b', T0, row ++ spare) ∈ hs2 := hpm.mem_iff.2 (by rw [hg1]; simp)
  have hr1 := JP.get hr h1
  have hr' := hp.get_ok hr1
  refine ⟨_, ?_, Rep.is_of hr'⟩
  simp only [execOp, e, Sem.run_bind]
  rw [XR hT (S.len hr') S.one]
  ·rfl
  ·intro j u ej
   rw [List.getElem?_take] at ej
   split at ej
   ·rw [List.getElem?_drop] at ej
    have := Qhw hg hmem hr h1 (off + j) u ej
    rwa [← Nat.add_assoc] at this
   ·cases ej
theorem QeG {T T0 i off : Nat} {x y : Operand} {v : Value} {R : Rep α} {S : Rep β} {xs : List α} {z : β} {get : α → β} {set : α → β → α} (hx : Has Γ x (Bn v (i * R.n + off))) (hy : Has Γ y (S.slot z)) (hk : Pick H (own T0 R v xs) H') (h1 : i < xs.length)
  (hp : Path R off S get set) (hT : szB c.P T S.n = true)
  (k : Jc c full l Γ (own T0 R v (xs.set i (set xs[i] z)) :: H') K) : Jc c full (⟨none, .store T x y, ty, pos, aft, none⟩ :: l) Γ H K := by
 refine Bz rfl ?_ k
 intro m hs a w hg _ hsat he hn
 obtain ⟨b', n, cap', hv', e⟩ := hx m a (he.opd x)
 obtain ⟨ds, hc, hd⟩ := Rep.is_cells (hy m a (he.opd y))
 obtain ⟨g1, g2, hpm, hown, hs2⟩ := hsat.pick hk
 obtain ⟨b, cap, row, spare, hv, hg1, hr, hcap, hlen⟩ := own.at hown (fun e => by subst e; simp at h1)
 have hv0 := hv
 rw [hv'] at hv
 simp only [Value.slice.injEq, Option.some.injEq, Addr.mk.injEq] at hv
 obtain ⟨⟨rfl, _⟩, _⟩ := hv
 subst hg1
 have hg' := hg.perm hpm
 have hfit := hp.fits
 have hrl := hr.length
 have hle : i * R.n + R.n ≤ row.length := by
  rw [hrl]
  calc i * R.n + R.n = (i + 1) * R.n := by rw [Nat.add_mul, Nat.one_mul]
   _ ≤ xs.length * R.n := Nat.mul_le_mul_right _ h1
 have hr1 := JP.get hr h1
 have hset := JP.set hr h1 (hp.set_ok hr1 hd)
 have hdl := S.len hd
 -- the row behind the store
 have erow : row.take (i * R.n) ++ (((row.drop (i * R.n)).take R.n).take off ++ ds ++ ((row.drop (i * R.n)).take R.n).drop (off + S.n)) ++ row.drop (i * R.n + R.n) = row.take (i * R.n + off) ++ ds ++ row.drop (i * R.n + off + S.n) := by
  rw [List.take_take, Nat.min_eq_left (by omega), List.take_add]
  have e2 : ((row.drop (i * R.n)).take R.n).drop (off + S.n) ++ row.drop (i * R.n + R.n) = row.drop (i * R.n + off + S.n) := by
   rw [List.drop_take, List.drop_drop]
   have : row.drop (i * R.n + R.n) = (row.drop (i * R.n + (off + S.n))).drop (R.n - (off + S.n)) := by rw [List.drop_drop]; congr 1; omega
   rw [this, List.take_append_drop]
   congr 1; omega
  simp only [List.append_assoc] at *
  rw [e2]
 rw [erow] at hset
 have hst := VY (P := c.P) (b := b') (o := i * R.n + off) (cs := row ++ spare) hT hc hdl (S.cell hd) (hg'.blk (b', T0, row ++ spare) (by simp)) (by rw [List.length_append]; omega)
 have ecs : (row ++ spare).take (i * R.n + off) ++ ds ++ (row ++ spare).drop (i * R.n + off + S.n) = (row.take (i * R.n + off) ++ ds ++ row.drop (i * R.n + off + S.n)) ++ spare := by
  rw [List.take_append, List.drop_append]
  have z1 : i * R.n + off - row.length = 0 := by omega
  have z2 : i * R.n + off + S.n - row.length = 0 := by omega
  simp [z1, z2]
 rw [ecs] at hst
 have hrun : (execOp a.eval ⟨none, .store T x y, ty, pos, aft, none⟩).run c.P w = .ok .skip (setBlk w b' T0 ((row.take (i * R.n + off) ++ ds ++ row.drop (i * R.n + off + S.n)) ++ spare)) := by
  simp only [execOp, e, Sem.run_bind, hst]
  rfl
 rw [hrun]
 refine ⟨m, (b', T0, (row.take (i * R.n + off) ++ ds ++ row.drop (i * R.n + off + S.n)) ++ spare) :: g2, hg'.setBlk _, he, ⟨[_], g2, rfl, .inr ⟨b', cap, _, spare, ?_, rfl, hset, ?_, ?_⟩, hs2⟩, ?_⟩
 ·rw [hv0]; simp
 ·simpa using hcap
 ·rw [← hlen]
  simp only [List.length_append, List.length_take, List.length_drop]
  omega
 ·exact Frm.ofPerm hpm (Frm.setBlk (by simp [Hp.bs]))
theorem Qby {T T0 : TypeId} {x y : Operand} {v : Value} {R : Rep α} {xs : List α} {n : Int} {s : Slot} (hx : Has Γ x (ov v)) (hk : Pick H (own T0 R v xs) H') (hy : Has Γ y s) (hs : Ka s n) (h0 : 0 ≤ n) (h1 : n ≤ xs.length) (hT : slB c.P T R.n = true) (hN : Nat.blt d c.N = true)
  (k : ∀ v', Jc c full l ((d, ov v') :: Γ) (own T0 R v' (xs.take n.toNat) :: H') K) : Jc c full (⟨some d, .slice T x none (some y) none, ty, pos, aft, none⟩ :: l) Γ H K := by
 refine VD (Γ2 := fun v' => (d, ov v') :: Γ) (H2 := fun v' => own T0 R v' (xs.take n.toNat) :: H') rfl ?_ k
 intro m hs2 a w hg _ hsat he hn
 have e := (Uv.1 (hx m a (he.opd x))).1
 obtain ⟨kk, ek⟩ := hs m _ (hy m a (he.opd y))
 obtain ⟨g1, g2, hpm, hown, hs3⟩ := hsat.pick hk
 have hlt : (xs.take n.toNat).length = n.toNat := by rw [List.length_take, Nat.min_eq_left (by omega)]
 rcases hown with ⟨rfl, rfl, ad, rfl⟩ | ⟨b, cap, row, spare, rfl, rfl, hr, hcap, hlen⟩
 ·have hn0 : n = 0 := by simp at h1; omega
  subst hn0
  have hr := V7 (P := c.P) hT (a := ad) (len := 0) (cap := 0) (lo := none) (hi := some (.int kk 0)) (l := none) (h := some 0) (.inl ⟨rfl, rfl⟩) (.inr ⟨kk, 0, rfl, rfl⟩) (by simp) (by simp) (by simp) w
  simp only [Option.getD_none, Option.getD_some, Int.toNat_zero, if_true, Nat.sub_self] at hr
  have hrun : (execOp a.eval ⟨some d, .slice T x none (some y) none, ty, pos, aft, none⟩).run c.P w = .ok (.value (.slice ad 0 0)) w := by
   simp only [execOp, e, Option.map_none, Option.map_some, ek, Sem.run_bind, hr, Result.andThen_ok, Sem.run_pure]
  rw [hrun]
  exact ⟨.slice ad 0 0, m, g2, by simpa using hg.perm hpm, he.put (by rw [hn]; simpa [Nat.blt_eq] using hN) U5, ⟨[], g2, rfl, .inl ⟨by simp, rfl, ad, rfl⟩, hs3⟩, Frm.ofPerm hpm (Frm.refl w m _)⟩
 ·have hr2 := V7 (P := c.P) hT (a := some ⟨b, 0, none⟩) (len := xs.length) (cap := cap) (lo := none) (hi := some (.int kk n)) (l := none) (h := some n) (.inl ⟨rfl, rfl⟩) (.inr ⟨kk, n, rfl, rfl⟩) (by simp) (by simpa using h0) (by simp; omega) w
  simp only [Option.getD_none, Option.getD_some, Int.toNat_zero, Nat.sub_zero, Nat.zero_mul, Option.map_some, Addr.add_lit, Nat.add_zero] at hr2
  have hif : (if cap = 0 then some (⟨b, 0, none⟩ : Addr) else some ⟨b, 0, none⟩) = some ⟨b, 0, none⟩ := by split <;> rfl
  rw [hif] at hr2
  have hrun : (execOp a.eval ⟨some d, .slice T x none (some y) none, ty, pos, aft, none⟩).run c.P w = .ok (.value (.slice (some ⟨b, 0, none⟩) n.toNat cap)) w := by
   simp only [execOp, e, Option.map_none, Option.map_some, ek, Sem.run_bind, hr2, Result.andThen_ok, Sem.run_pure]
  rw [hrun]
  refine ⟨_, m, [(b, T0, row ++ spare)] ++ g2, hg.perm hpm, he.put (by rw [hn]; simpa [Nat.blt_eq] using hN) U5, ⟨_, g2, rfl, .inr ⟨b, cap, row.take (n.toNat * R.n), row.drop (n.toNat * R.n) ++ spare, by rw [hlt], by rw [← List.append_assoc, List.take_append_drop], hr.take _, by rw [hlt]; omega, ?_⟩, hs3⟩, Frm.ofPerm hpm (Frm.refl _ _ _)⟩
  rw [← List.append_assoc, List.take_append_drop, hlen]
end
end Go.Sl
namespace Go.Sl
section
variable {c : Ctx} {full : Array Oper} {l : List Oper} {Γ Γ' : Env} {H H' : List Ent} {K : Act → World → Prop} {d : Tmp} {od : Option Tmp} {ty : TypeId} {pos : String} {aft : Array Edge} {g : Option (Nat × Bool)} {α β : Type}
def Qa0 (P : Program) (T : TypeId) (R : Rep α) (n : Nat) : Prop :=
 ∀ k, n ≤ k → ∀ m cs ds x y w, R.rel m cs x → R.rel m ds y → ∃ b : Bool, (Op.equalIn k T (ZV R.ag cs) (ZV R.ag ds)).run P w = .ok b w ∧ (b = true ↔ x = y)
theorem QdM {P : Program} {T : TypeId} (h : P.underlying T = some (.int .i64)) : Qa0 P T i64 1 := by
 intro k hk m cs ds x y w hx hy
 cases hx; cases hy
 match k, hk with
 | k + 1, _ => exact ⟨x == y, by simp [Op.equalIn, run_underlying h, ZV, i64], by simp⟩
theorem QiC {P : Program} {T : TypeId} {k : IntKind} {b : Nat} (h : P.underlying T = some (.int k)) : Qa0 P T (un k b) 1 := by
 intro n hn m cs ds x y w hx hy
 cases hx; cases hy
 match n, hn with
 | n + 1, _ => exact ⟨(x.toNat : Int) == y.toNat, by simp [Op.equalIn, run_underlying h, ZV, un], by simp [← BitVec.toNat_inj]; omega⟩
theorem QfX {P : Program} {T e N n : Nat} {R : Rep α} (h : P.underlying T = some (.array N e)) (he : tyB P e R.ag R.n = true) (hR : Qa0 P e R n) : Qa0 P T (vec N R) (n + 1) := by
 intro k hk m cs ds x y w hx hy
 match k, hk with
 | k + 1, hk =>
  have hk' : n ≤ k := by omega
  have hz : ∀ w : World, (sizeOf e).run P w = .ok R.n w := fun w => V8 (QcV he) w
  have hcl := (vec N R).len hx
  have hdl := (vec N R).len hy
  -- the loop, from the j-th element on
  have loop : ∀ r j, j + r = N → ∃ b : Bool, (∀ w : World, (forIn (m := Sem) (List.range' j r) ((none, ()) : Option Bool × Unit) (fun i (_ : Option Bool × Unit) => do
    let a ← part e cs.toArray (i * R.n)
    let b ← part e ds.toArray (i * R.n)
    let q ← Op.equalIn k e a b
    if (!q) = true then pure (ForInStep.done (some false, ())) else pure (ForInStep.yield (none, ())))).run P w = .ok (if b then (none, ()) else (some false, ())) w) ∧ (b = true ↔ ∀ i, (h : i < N) → j ≤ i → x[i] = y[i]) := by
   intro r
   induction r with
   | zero =>
    intro j hj
    refine ⟨true, fun w => by simp, ?_⟩
    constructor
    ·intro _ i hi hji; omega
    ·intro _; rfl
   | succ r ih =>
    intro j hj
    have hjN : j < N := by omega
    obtain ⟨b, hb, hiff⟩ := ih (j + 1) (by omega)
    have hpx := (Path.at N R j hjN).get_ok hx
    have hpy := (Path.at N R j hjN).get_ok hy
    have h1 : ∀ w : World, (part e cs.toArray (j * R.n)).run P w = .ok (ZV R.ag ((cs.drop (j * R.n)).take R.n)) w := fun w => W1 he R.one (by rw [hcl]; exact (Path.at N R j hjN).fits) w
    have h2 : ∀ w : World, (part e ds.toArray (j * R.n)).run P w = .ok (ZV R.ag ((ds.drop (j * R.n)).take R.n)) w := fun w => W1 he R.one (by rw [hdl]; exact (Path.at N R j hjN).fits) w
    have hq : ∃ q : Bool, (∀ w : World, (Op.equalIn k e (ZV R.ag ((cs.drop (j * R.n)).take R.n)) (ZV R.ag ((ds.drop (j * R.n)).take R.n))).run P w = .ok q w) ∧ (q = true ↔ x[j] = y[j]) := by
     by_cases hxy : x[j] = y[j]
     ·refine ⟨true, fun w => ?_, by simp [hxy]⟩
      obtain ⟨q, hq, hqi⟩ := hR k hk' m _ _ _ _ w hpx hpy
      rw [hq, hqi.2 hxy]
     ·refine ⟨false, fun w => ?_, by simp [hxy]⟩
      obtain ⟨q, hq, hqi⟩ := hR k hk' m _ _ _ _ w hpx hpy
      cases q with
      | true => exact absurd (hqi.1 rfl) hxy
      | false => exact hq
    obtain ⟨q, hq, hqi⟩ := hq
    cases q with
    | true =>
     refine ⟨b, fun w => ?_, ?_⟩
     ·rw [List.range'_succ, List.forIn_cons]
      simp only [Sem.run_bind, h1, h2, hq, Result.andThen_ok, Bool.not_true, Bool.false_eq_true, if_false, Sem.run_pure]
      exact hb w
     ·rw [hiff]
      constructor
      ·intro h i hi hji
       by_cases hij : i = j
       ·subst hij; exact hqi.1 rfl
       ·exact h i hi (by omega)
      ·intro h i hi hji; exact h i hi (by omega)
    | false =>
     refine ⟨false, fun w => ?_, ?_⟩
     ·rw [List.range'_succ, List.forIn_cons]
      simp only [Sem.run_bind, h1, h2, hq, Result.andThen_ok, Bool.not_false, if_true, Sem.run_pure]
      rfl
     ·constructor
      ·intro h; cases h
      ·intro h; exact hqi.2 (h j hjN (Nat.le_refl _))
  obtain ⟨b, hb, hiff⟩ := loop N 0 (by omega)
  refine ⟨b, ?_, ?_⟩
  ·have hrange : ([0:N] : Std.Legacy.Range).toList = List.range' 0 N := by simp [Std.Legacy.Range.toList]
   simp only [Op.equalIn, Sem.run_bind, run_underlying h, Result.andThen_ok, ZV, vec, hz]
   rw [Std.Legacy.Range.forIn_eq_forIn_range']
   have hsz : ([0:N] : Std.Legacy.Range).size = N := by simp [Std.Legacy.Range.size]
   simp only [hsz]
   have := hb w
   rw [this]
   cases b <;> rfl
  ·rw [hiff]
   constructor
   ·intro h; ext i hi; exact h i hi (Nat.zero_le _)
   ·intro h i hi _; rw [h]
inductive EqFs (P : Program) : List Field → Nat → {α : Type} → Rep α → Nat → Prop
 | one {α : Type} {f : Field} {off n : Nat} {R : Rep α} : f.offset = off → (f.name == "_") = false → tyB P f.type R.ag R.n = true → Qa0 P f.type R n → EqFs P [f] off R n
 | cons {α β : Type} {f : Field} {fs : List Field} {off n : Nat} {R : Rep α} {S : Rep β} : f.offset = off → (f.name == "_") = false → tyB P f.type R.ag R.n = true → Qa0 P f.type R n → EqFs P fs (off + R.n) S n → EqFs P (f :: fs) off (prod R S) n
theorem EqFs.run {P : Program} {n k : Nat} (hk : n ≤ k) {fs : List Field} {off : Nat} {R : Rep α} (h : EqFs P fs off R n) :
  ∀ {m : Mem} {xs ys cs ds : List Value} {x y : α}, xs.length = off + R.n → ys.length = off + R.n → R.rel m cs x → R.rel m ds y → xs.drop off = cs → ys.drop off = ds →
   ∃ b : Bool, (∀ w : World, (forIn (m := Sem) fs ((none, ()) : Option Bool × Unit) (fun (f : Field) (_ : Option Bool × Unit) => do
    if f.name ≠ "_" then
     let a ← part f.type xs.toArray f.offset
     let b ← part f.type ys.toArray f.offset
     let q ← Op.equalIn k f.type a b
     if (!q) = true then pure (ForInStep.done (some false, ())) else pure (ForInStep.yield (none, ()))
    else pure (ForInStep.yield (none, ())))).run P w = .ok (if b then (none, ()) else (some false, ())) w) ∧ (b = true ↔ x = y) := by
 induction h with
 | @one α f off n R ho hnm hT hE =>
  intro m xs ys cs ds x y hxl hyl hx hy hxd hyd
  have hne : f.name ≠ "_" := by simpa using hnm
  have h1 : ∀ w : World, (part f.type xs.toArray f.offset).run P w = .ok (ZV R.ag cs) w := fun w => by
   have := W1 (cs := xs) (off := f.offset) hT R.one (by rw [hxl, ho]; exact Nat.le_refl _) w
   rw [this, ho, hxd, List.take_of_length_le (Nat.le_of_eq (R.len hx))]
  have h2 : ∀ w : World, (part f.type ys.toArray f.offset).run P w = .ok (ZV R.ag ds) w := fun w => by
   have := W1 (cs := ys) (off := f.offset) hT R.one (by rw [hyl, ho]; exact Nat.le_refl _) w
   rw [this, ho, hyd, List.take_of_length_le (Nat.le_of_eq (R.len hy))]
  by_cases hxy : x = y
  ·refine ⟨true, fun w => ?_, by simp [hxy]⟩
   obtain ⟨q, hq, hqi⟩ := hE k hk m _ _ _ _ w hx hy
   rw [hqi.2 hxy] at hq
   simp only [List.forIn_cons, List.forIn_nil, hne, ne_eq, not_false_iff, if_true, Sem.run_bind, h1, h2, hq, Result.andThen_ok, Bool.not_true, Bool.false_eq_true, if_false, Sem.run_pure]
  ·refine ⟨false, fun w => ?_, by simp [hxy]⟩
   obtain ⟨q, hq, hqi⟩ := hE k hk m _ _ _ _ w hx hy
   have hq0 : q = false := by
    cases q with
    | true => exact absurd (hqi.1 rfl) hxy
    | false => rfl
   rw [hq0] at hq
   simp only [List.forIn_cons, List.forIn_nil, hne, ne_eq, not_false_iff, if_true, Sem.run_bind, h1, h2, hq, Result.andThen_ok, Bool.not_false, Sem.run_pure, Bool.false_eq_true, if_false]
 | @cons α β f fs off n R S ho hnm hT hE _ ih =>
  intro m xs ys cs ds x y hxl hyl hx hy hxd hyd
  have hne : f.name ≠ "_" := by simpa using hnm
  obtain ⟨c1, c2, hc, hx1, hx2⟩ := hx
  obtain ⟨d1, d2, hd, hy1, hy2⟩ := hy
  have hpn : (prod R S).n = R.n + S.n := rfl
  rw [hpn] at hxl hyl
  have lc := R.len hx1
  have ld := R.len hy1
  have h1 : ∀ w : World, (part f.type xs.toArray f.offset).run P w = .ok (ZV R.ag c1) w := fun w => by
   have := W1 (cs := xs) (off := f.offset) hT R.one (by rw [hxl, ho]; omega) w
   rw [this, ho, hxd, hc, List.take_left' lc]
  have h2 : ∀ w : World, (part f.type ys.toArray f.offset).run P w = .ok (ZV R.ag d1) w := fun w => by
   have := W1 (cs := ys) (off := f.offset) hT R.one (by rw [hyl, ho]; omega) w
   rw [this, ho, hyd, hd, List.take_left' ld]
  obtain ⟨b, hb, hbi⟩ := ih hk (m := m) (xs := xs) (ys := ys) (cs := c2) (ds := d2) (x := x.2) (y := y.2) (by omega) (by omega) hx2 hy2
   (by rw [← List.drop_drop, hxd, hc, ← lc, List.drop_left]) (by rw [← List.drop_drop, hyd, hd, ← ld, List.drop_left])
  by_cases hxy : x.1 = y.1
  ·refine ⟨b, fun w => ?_, ?_⟩
   ·obtain ⟨q, hq, hqi⟩ := hE k hk m _ _ _ _ w hx1 hy1
    rw [hqi.2 hxy] at hq
    rw [List.forIn_cons]
    simp only [hne, ne_eq, not_false_iff, if_true, Sem.run_bind, h1, h2, hq, Result.andThen_ok, Bool.not_true, Bool.false_eq_true, if_false, Sem.run_pure]
    exact hb w
   ·rw [hbi]
    constructor
    ·intro h; exact Prod.ext hxy h
    ·intro h; rw [h]
  ·refine ⟨false, fun w => ?_, ?_⟩
   ·obtain ⟨q, hq, hqi⟩ := hE k hk m _ _ _ _ w hx1 hy1
    have hq0 : q = false := by
     cases q with
     | true => exact absurd (hqi.1 rfl) hxy
     | false => rfl
    rw [hq0] at hq
    rw [List.forIn_cons]
    simp only [hne, ne_eq, not_false_iff, if_true, Sem.run_bind, h1, h2, hq, Result.andThen_ok, Bool.not_false, Sem.run_pure, Bool.false_eq_true, if_false]
   ·constructor
    ·intro h; cases h
    ·intro h; exact absurd (by rw [h]) hxy
theorem QdD {P : Program} {T n : Nat} {fs : Array Field} {R : Rep α} (h : P.underlying T = some (.struct fs)) (hs : P.stoodInHeld T = false) (ha : R.ag = true) (hF : EqFs P fs.toList 0 R n) : Qa0 P T R (n + 1) := by
 intro k hk m cs ds x y w hx hy
 match k, hk with
 | k + 1, hk =>
  obtain ⟨b, hb, hbi⟩ := hF.run (k := k) (by omega) (xs := cs) (ys := ds) (by simpa using R.len hx) (by simpa using R.len hy) hx hy rfl rfl
  refine ⟨b, ?_, hbi⟩
  simp only [Op.equalIn, Sem.run_bind, run_underlying h, Result.andThen_ok, ZV, ha, run_program, hs, Bool.false_eq_true, if_false]
  rw [← Array.forIn_toList]
  have := hb w
  have e2 := congrArg (fun r => Result.andThen r (fun (a : Option Bool × Unit) w' => Sem.run P (match a.fst with | some r => pure r | none => pure true : Sem Bool) w')) this
  refine Eq.trans ?_ (Eq.trans e2 (by cases b <;> rfl))
  congr 3
  all_goals (first | (funext f s; by_cases hnm : f.name = "_" <;> simp [hnm]; done) | (funext p q; rcases p with ⟨_ | _, _⟩ <;> rfl))
def Qlr (P : Program) (T : TypeId) : Bool := !(P.eqGuardType P.depth T)
theorem Qgz {T yt : TypeId} {x y : Operand} {R : Rep α} {p q : α} [DecidableEq α] {n : Nat} (hE : Qa0 c.P T R n) (hn : n ≤ 10000) (ha : R.ag = true) (hG : Qlr c.P T = true) (hx : Has Γ x (R.slot p)) (hy : Has Γ y (R.slot q)) :
  PJ c ⟨od, .binOp .eql T x y yt, ty, pos, aft, g⟩ Γ H (bl.slot (decide (p = q))) :=
 ZU hx hy fun m u v w hu hv => by
  simp only [Rep.slot, Rep.is, ha] at hu hv
  obtain ⟨cs, rfl, hr⟩ := hu
  obtain ⟨ds, rfl, hs⟩ := hv
  obtain ⟨b, hb, hbi⟩ := hE 10000 hn m cs ds p q w hr hs
  simp only [ZV, ha] at hb
  have hg : (c.P.eqGuardType c.P.depth T) = false := by simpa [Qlr] using hG
  refine ⟨.bool b, ?_, K2.2 (by congr 1; rw [Bool.eq_iff_iff, hbi]; simp)⟩
  have e1 : (eqGuard .eql T x y (.agg cs.toArray) (.agg ds.toArray)).run c.P w = .ok () w := by
   simp only [eqGuard, Bool.not_true, Bool.false_eq_true, if_false, Sem.run_bind, run_program, Result.andThen_ok, hg, Bool.not_false, if_true, Sem.run_pure]
  rw [Sem.run_bind, e1, Result.andThen_ok]
  simp only [binOp, Op.equal, Op.maxDepth, Sem.run_bind, hb, Result.andThen_ok, Sem.run_pure]
theorem Ww {P : Program} {T E : TypeId} (h : P.underlying T = some (.pointer E)) (a : Option Addr) (w : World) :
  (binOp .eql T (.pointer a) (.pointer none)).run P w = .ok (.bool a.isNone) w ∧ (binOp .neq T (.pointer a) (.pointer none)).run P w = .ok (.bool (!a.isNone)) w := by
 have key : ∀ n, (Op.equalIn (n + 1) T (.pointer a) (.pointer none)).run P w = .ok a.isNone w := by
  intro n
  cases a with
  | none => simp only [Op.equalIn, Sem.run_bind, run_underlying h, Result.andThen_ok, Sem.run_pure]
  | some a => simp only [Op.equalIn, Sem.run_bind, run_underlying h, Result.andThen_ok, Sem.run_pure]; rfl
 have h2 := key 9999
 constructor <;> (simp only [binOp, Op.equal, Op.maxDepth, Sem.run_bind, h2, Result.andThen_ok, Sem.run_pure])
theorem WX {T yt E : TypeId} {x : Operand} {R : Rep α} {p : Option α} (hT : c.P.underlying T = some (.pointer E)) (hx : Has Γ x ((ptr R).slot p)) :
  PJ c ⟨od, .binOp .eql T x (.const (.pointer none)) yt, ty, pos, aft, g⟩ Γ H (bl.slot p.isNone) :=
 ZU hx (QbT (v := .pointer none)) fun m u v w hu hv => by
  cases hv
  cases p with
  | none =>
   simp only [Rep.slot, Rep.is, ptr] at hu; simp only [List.cons.injEq, and_true] at hu; subst hu
   exact ⟨_, by simp only [Sem.run_bind, eqGuard_at_pointer, Sem.run_pure, Result.andThen_ok]; exact (Ww hT none w).1, K2.2 rfl⟩
  | some p =>
   obtain ⟨b, o, ds, e, _⟩ := hu
   simp only [List.cons.injEq, and_true] at e; subst e
   exact ⟨_, by simp only [Sem.run_bind, eqGuard_at_pointer, Sem.run_pure, Result.andThen_ok]; exact (Ww hT _ w).1, K2.2 rfl⟩
theorem Zl {T yt E : TypeId} {x : Operand} {a0 : Option Addr} (hT : c.P.underlying T = some (.pointer E)) (hx : Has Γ x (val (.pointer a0))) :
  PJ c ⟨od, .binOp .eql T x (.const (.pointer none)) yt, ty, pos, aft, g⟩ Γ H (bl.slot a0.isNone) :=
 ZU hx (QbT (v := .pointer none)) fun m u v w hu hv => by
  cases hu; cases hv
  exact ⟨_, by simp only [Sem.run_bind, eqGuard_at_pointer, Sem.run_pure, Result.andThen_ok]; exact (Ww hT a0 w).1, K2.2 rfl⟩
theorem Qde {T yt E : TypeId} {x : Operand} {a0 : Option Addr} (hT : c.P.underlying T = some (.pointer E)) (hx : Has Γ x (val (.pointer a0))) :
  PJ c ⟨od, .binOp .neq T x (.const (.pointer none)) yt, ty, pos, aft, g⟩ Γ H (bl.slot (!a0.isNone)) :=
 ZU hx (QbT (v := .pointer none)) fun m u v w hu hv => by
  cases hu; cases hv
  exact ⟨_, by simp only [Sem.run_bind, eqGuard_at_pointer, Sem.run_pure, Result.andThen_ok]; exact (Ww hT a0 w).2, K2.2 rfl⟩
theorem QfQ {DT ST T b lo n cap N : Nat} {x y : Operand} {R : Rep α} {v : Vector α N} {xs : List α} (hx : Has Γ x (val (.slice (some ⟨b, lo * R.n, none⟩) n cap))) (hk : Pick H (box b T (vec N R) v) H') (hy : Src c Γ H y R xs) (hlo : lo + n ≤ N)
  (hT : slB c.P DT R.n = true) (hN : Nat.blt d c.N = true)
  (k : Jc c full l ((d, i64.slot ((min xs.length n : Nat) : Int)) :: Γ) (box b T (vec N R) (Qgl v lo (xs.take n)) :: H') K) :
  Jc c full (⟨some d, .call { callee := .builtin .copy, args := #[x, y], argTypes := #[DT, ST] }, ty, pos, aft, none⟩ :: l) Γ H K := by
 refine Bz rfl ?_ k
 intro m hs a w hg _ hsat he hn
 have ex : a.eval x = _ := hx m a (he.opd x)
 obtain ⟨a0, cap0, ey, hsrc⟩ := hy m hs a w hg hsat (he.opd y)
 obtain ⟨g1, g2, hpm, ⟨cs, hcs, hr⟩, hs2⟩ := hsat.pick hk
 subst hcs
 have hg' := hg.perm hpm
 obtain ⟨e, hu, hsz⟩ := BS hT
 have hsize := V8 hsz w
 obtain ⟨row, hrun1, hrow, hrun2⟩ := Src.run (P := c.P) (R := R) (cap := cap0) hsrc (min xs.length n) (Nat.min_le_left _ _)
 have hrl := hrow.length
 have htl : (xs.take (min xs.length n)).length = min xs.length n := by rw [List.length_take, Nat.min_eq_left (Nat.min_le_left _ _)]
 have htake : xs.take (min xs.length n) = xs.take n := by
  rcases Nat.le_total xs.length n with h | h
  ·rw [Nat.min_eq_left h, List.take_length, List.take_of_length_le h]
  ·rw [Nat.min_eq_right h]
 have hcl := (vec N R).len hr
 have hvn : (vec N R).n = N * R.n := rfl
 have hlen : lo * R.n + row.length ≤ cs.length := by
  rw [hrl, htl, hcl, hvn, ← Nat.add_mul]
  exact Nat.mul_le_mul_right _ (by have := Nat.min_le_right xs.length n; omega)
 have hst := VX (P := c.P) (b := b) (o := lo * R.n) (T := T) row 0 cs w hrow.cell (hg'.blk (b, T, cs) (by simp)) (by simpa using hlen)
 simp only [Nat.add_zero] at hst
 have hfc : (Builtin.firstCells R.n (min xs.length n) (.slice a0 xs.length cap0)).run c.P w = .ok row.toArray w := hrun2
 have hcopy : (Builtin.copy_ #[DT, ST] ty #[.slice (some ⟨b, lo * R.n, none⟩) n cap, .slice a0 xs.length cap0]).run c.P w = .ok (goInt ((min xs.length n : Nat) : Int)) (setBlk w b T (cs.take (lo * R.n) ++ row ++ cs.drop (lo * R.n + row.length))) := by
  simp only [Builtin.copy_, List.getElem?_toArray, List.getElem?_cons_zero, List.getElem?_cons_succ]
  simp only [Sem.run_bind, run_underlying hu, Result.andThen_ok, Builtin.lenOf, Sem.run_pure, hsize]
  have e3 : Nat.min xs.length n = min xs.length n := rfl
  rw [e3]
  simp only [hfc, Result.andThen_ok, Sem.run_bind, hst, Sem.run_pure]
 have hrun : (execOp a.eval ⟨some d, .call { callee := .builtin .copy, args := #[x, y], argTypes := #[DT, ST] }, ty, pos, aft, none⟩).run c.P w = .ok (.value (goInt ((min xs.length n : Nat) : Int))) (setBlk w b T (cs.take (lo * R.n) ++ row ++ cs.drop (lo * R.n + row.length))) := by
  simp only [execOp, resolve, Sem.run_bind, Sem.run_pure, Result.andThen_ok, invoke, builtin]
  simp only [List.map_toArray, List.map_cons, List.map_nil, ex, ey, hcopy, Result.andThen_ok]
 rw [hrun]
 refine ⟨m, (b, T, cs.take (lo * R.n) ++ row ++ cs.drop (lo * R.n + row.length)) :: g2, hg'.setBlk _, he.put (by rw [hn]; simpa [Nat.blt_eq] using hN) (ZE.2 rfl), ⟨[_], g2, rfl, ⟨_, rfl, ?_⟩, hs2⟩, Frm.ofPerm hpm (Frm.setBlk (by simp [Hp.bs]))⟩
 show JP R m _ (Qgl v lo (xs.take n)).toList
 have hle2 : lo + (xs.take n).length ≤ N := by rw [List.length_take]; have := Nat.min_le_left n xs.length; omega
 rw [QbH v lo _ hle2, ← htake]
 have hr' : JP R m cs v.toList := hr
 have h1 := JP.take lo hr'
 have h2 := JP.drop (lo + (xs.take (min xs.length n)).length) hr'
 have e4 : lo * R.n + row.length = (lo + (xs.take (min xs.length n)).length) * R.n := by rw [hrl, Nat.add_mul]
 rw [e4]
 exact (h1.append hrow).append h2
end
end Go.Sl
namespace Go.Sl
theorem Jl (b : Bool) : b = true ∨ b = false := by cases b <;> simp
theorem QdO {e want : Bool} (h : e = want) : ∀ (m : Mem) (v : Value), (bl.slot e).p m v → v = .bool want := fun _ _ hv => h ▸ K2.1 hv
theorem Qk3 {e want : Bool} (h : e = want) : (e == want) = true := by simp [h]
theorem Qls {e want : Bool} (h : e = !want) : (e == want) = false := by subst h; cases want <;> rfl
theorem ZW {α : Type} {n : Nat} {v : Vector α n} {i : Int} {x : α} (h : Vc v i = some x) (hi : i.toNat < n) : v[i.toNat] = x := (QF h).2.2
theorem ZT {α : Type} {n : Nat} {v : Vector α n} {i : Int} {x : α} (h : Vc v i = some x) : i < (n : Int) := by obtain ⟨h0, h1, _⟩ := QF h; omega
theorem Ul {α : Type} {l : List α} {i : Int} {x : α} (h : ZC l i = some x) (hi : i.toNat < l.length) : l[i.toNat] = x := (Q4 h).2.2
theorem Vl {i : Int} {n : Nat} (h : 0 ≤ i ∧ i < (n : Int)) : i.toNat < n := by omega
section
variable {α β : Type}
theorem Path.eqs {R : Rep α} {off : Nat} {S : Rep β} {get : α → β} {set set' : α → β → α} (h : Path R off S get set) (e : ∀ x y, set x y = set' x y) : Path R off S get set' :=
 ⟨h.fits, h.get_ok, fun hr hd => by rw [← e]; exact h.set_ok hr hd⟩
theorem Path.atI (n : Nat) (R : Rep α) (i : Nat) (hi : i < n) : Path (vec n R) (i * R.n) R (fun x => x[i]) (fun x y => x.setIfInBounds i y) :=
 (Path.at n R i hi).eqs fun x y => by
  apply Vector.ext; intro j hj; simp [Vector.getElem_set, Vector.getElem_setIfInBounds]
theorem X4 : X5 (exv (.slice none 0 0)) () [.slice none 0 0] := fun _ => ⟨rfl, rfl⟩
theorem Qa0.mono {P : Program} {T : TypeId} {R : Rep α} {n n' : Nat} (hn : n ≤ n') (h : Qa0 P T R n) : Qa0 P T R n' := fun k hk => h k (Nat.le_trans hn hk)
variable {c : Ctx} {full : Array Oper} {l : List Oper} {Γ Γ' : Env} {H H' : List Ent} {K : Act → World → Prop} {d : Tmp} {od : Option Tmp} {ty : TypeId} {pos : String} {aft : Array Edge} {g : Option (Nat × Bool)}
theorem Qh0 : Has Γ (.const (.slice none 0 0)) (ov (.slice none 0 0)) := fun _ _ _ => U5
theorem Qjh {o : Oper} {j t : Nat} {want : Bool} {s s' : Slot} (h : PJ c o Γ H s) (hg : o.guard = some (j, want)) (hj : (full[j]?).bind (·.dst) = some t) (hNt : Nat.blt t c.N = true) (hl : lk Γ t = some s')
  (hb : ∀ m v, s'.p m v → v = .bool want) (hd : o.dst = some d) (hN : Nat.blt d c.N = true) (k : Jc c full l ((d, s) :: Γ) H K) : Jc c full (o :: l) Γ H K :=
 QbI hg hj hNt hl hb (Qaf (o := { o with guard := none }) (d := d) (s := s) (fun m hs a w h1 h2 h3 h4 => h m hs a w h1 h2 h3 h4) rfl hd hN k)
theorem Jz {ι : Type} {Γ' : ι → Env} {H' : ι → List Ent} (n : Nat) (hJ : ∀ i, Jc c full (l.drop n) (Γ' i) (H' i) K) (h : (∀ i, Jc c full (l.drop n) (Γ' i) (H' i) K) → Jc c full l Γ H K) : Jc c full l Γ H K := h hJ
theorem Je (h1 : SubE Γ Γ') (h2 : Keep H H') (k : Jc c full l Γ' H' K) : Jc c full l Γ H K := Qly h1 (Qjw h2 k)
theorem QN {T : TypeId} (R : Rep α) (hN : Nat.blt d c.N = true) (k : ∀ v, Jc c full l ((d, ov v) :: Γ) (own T R v [] :: H) K) :
  Jc c full (⟨some d, .assign (.const (.slice none 0 0)), ty, pos, aft, none⟩ :: l) Γ H K :=
 KE T R none (Qaf (QaY Qh0) rfl rfl hN (k _))
theorem ZF {T T0 : TypeId} {x y : Operand} {b off : Nat} {R : Rep α} {S : Rep β} {r r' : α} {z : β} {get : α → β} {set : α → β → α} (hx : Has Γ x (val (.pointer (some ⟨b, off, none⟩))))
  (hy : Has Γ y (S.slot z)) (hk : Pick H (box b T0 R r) H') (hp : Path R off S get set) (hT : szB c.P T S.n = true) (e : set r z = r')
  (k : Jc c full l Γ (box b T0 R r' :: H') K) : Jc c full (⟨none, .store T x y, ty, pos, aft, none⟩ :: l) Γ H K := QfH hx hy hk hp hT (e ▸ k)
theorem Qbo {T T0 : TypeId} {x y : Operand} {b : Nat} {v v' : Value} {S : Rep β} {s : β} (hx : Has Γ x (val (.pointer (some ⟨b, 0, none⟩))))
  (hy : Has Γ y (ov v')) (hk : Pick H (box b T0 (prod (exv v) S) ((), s)) H') (hT : szB c.P T 1 = true)
  (k : Jc c full l Γ (box b T0 (prod (exv v') S) ((), s) :: H') K) : Jc c full (⟨none, .store T x y, ty, pos, aft, none⟩ :: l) Γ H K := by
 refine Bz rfl ?_ k
 intro m hs a w hg _ hsat he hn
 have e : a.eval x = _ := hx m a (he.opd x)
 obtain ⟨ey, h1'⟩ := Uv.1 (hy m a (he.opd y))
 obtain ⟨h1, h2, hpm, ⟨cs, rfl, c1, d1, rfl, hc1, hd1⟩, hs2⟩ := hsat.pick hk
 have hg' := hg.perm hpm
 obtain ⟨rfl, _⟩ := hc1
 have hc : (a.eval y).cells = [v'].toArray := by rw [ey]; exact KF h1'
 have hrun : (execOp a.eval ⟨none, .store T x y, ty, pos, aft, none⟩).run c.P w = .ok .skip (setBlk w b T0 (([v] ++ d1).take 0 ++ [v'] ++ ([v] ++ d1).drop (0 + 1))) := by
  simp only [execOp, e, Sem.run_bind, VY (o := 0) (cs := [v] ++ d1) (ds := [v']) hT hc rfl (by simpa using h1') (hg'.blk (b, T0, [v] ++ d1) (by simp)) (by simp)]
  rfl
 rw [hrun]
 refine ⟨m, (b, T0, _) :: h2, hg'.setBlk _, he, ⟨[_], h2, rfl, ⟨_, rfl, [v'], d1, by simp, ⟨rfl, h1'⟩, hd1⟩, hs2⟩, ?_⟩
 exact Frm.ofPerm hpm (Frm.setBlk (by simp [Hp.bs]))
theorem QaH {T T1 : TypeId} {S : Rep β} {s : β} {y : Operand} (R : Rep α) (hy : Has Γ y ((prod (exv (.slice none 0 0)) S).slot ((), s))) (hN : Nat.blt d c.N = true)
  (k : ∀ b v, Jc c full l ((d, val (.pointer (some ⟨b, 0, none⟩))) :: Γ) (own T1 R v [] :: box b T (prod (exv v) S) ((), s) :: H) K) : Jc c full (⟨some d, .box T y, ty, pos, aft, none⟩ :: l) Γ H K :=
 Bq hy hN fun b => KE T1 R none (k b _)
theorem Qf2 {T : TypeId} {n : Nat} {R : Rep α} {y : α} (h : ∀ m, c.G.p m → GAt n R y m) (hT : tyB c.P T R.ag R.n = true) : PJ c ⟨od, .load T (.global n), ty, pos, aft, g⟩ Γ H (R.slot y) := Qc4 h hT
theorem BE {T n N : Nat} {y : Operand} {R : Rep α} {v : Vector α N} {i : Int} {s : Slot} {z : α} (hG : ∀ m, c.G.p m → GAt n (vec N R) v m) (hy : Has Γ y s) (hs : Ka s i) (h : Vc v i = some z) (hT : q7 c.P T N R.n = true) :
  PJ c ⟨od, .indexAddr T (.global n) y, ty, pos, aft, g⟩ Γ H (Qt R z) := by
 obtain ⟨h0, h1, rfl⟩ := QF h
 refine YE fun m hs2 a w hg hGm _ ho => ?_
 obtain ⟨ds, hr, hat⟩ := hG m hGm
 obtain ⟨k, ek⟩ := hs m _ (hy m a (ho y (by simp [Op.operands])))
 have e : a.eval (.global n) = .pointer (some ⟨n, 0, none⟩) := rfl
 exact ⟨_, by simp only [execOp, e, ek, Sem.run_bind, Uz hT n 0 k h0 (show i < (N : Int) by omega)]; rfl, n, _, _, rfl, (Path.at N R i.toNat h1).get_ok hr, hat.mid _ _⟩
theorem Kd {T n sz b lo : Nat} {x : Operand} {lo' hi' : Option Operand} {p q : Option Int} (hx : Has Γ x (val (.pointer (some ⟨b, 0, none⟩)))) (hlo : OptI Γ lo' p) (hhi : OptI Γ hi' q) (len cap : Nat)
  (h : (decide (0 ≤ p.getD 0) && decide (p.getD 0 ≤ q.getD n) && decide (q.getD n ≤ n) && decide (p.getD 0 < n) && Nat.beq (p.getD 0).toNat lo && Nat.beq ((q.getD n).toNat - lo) len && Nat.beq (n - lo) cap) = true) (hT : q7 c.P T n sz = true) :
  PJ c ⟨od, .slice T x lo' hi' none, ty, pos, aft, g⟩ Γ H (val (.slice (some ⟨b, lo * sz, none⟩) len cap)) := by
 simp only [Bool.and_eq_true, decide_eq_true_eq] at h
 obtain ⟨⟨⟨⟨⟨⟨h0, h1⟩, h2⟩, h3⟩, h4⟩, h5⟩, h6⟩ := h
 have h4 := Nat.eq_of_beq_eq_true h4
 have h5 := Nat.eq_of_beq_eq_true h5
 have h6 := Nat.eq_of_beq_eq_true h6
 subst h4
 have := Qez (c := c) (Γ := Γ) (H := H) (d := od) (ty := ty) (pos := pos) (aft := aft) (g := g) hx hlo hhi h0 h1 h2 h3 hT
 rw [Nat.zero_add, h5, h6] at this
 exact this
theorem PJ.eqs {o : Oper} {s s' : Slot} (h : PJ c o Γ H s) (e : s = s') : PJ c o Γ H s' := e ▸ h
theorem QdG {f : FuncId} {args : List Operand} {ats : Array TypeId} {A : List Slot} {T : TypeId} {R : Rep α} {xs : List α} (hA : qA c Γ H args A) (hf : K1 c.P f = true)
  (hC : Ctr c.P c.G f A [] (fun v : Value => ov v) (fun v => [own T R v xs])) (hR : R.flat) : PJ c ⟨od, .call { callee := .value (.func f), args := args.toArray, argTypes := ats }, ty, pos, aft, g⟩ Γ H ((sl R).slot xs) := by
 intro m hs2 a w hg hG hsat ho
 rw [KG hf a.eval (.func f) rfl]
 have hall := hA.all (m := m) (a := a) hg hsat (fun y hy => ho y (by simp [Op.operands, Call.operands, hy]))
 refine (hC (ext m hs2) w (args.map a.eval) [] hg.ext (c.G.mono (KT hg) hG) hall rfl).mono ?_
 rintro e w' ⟨v, m', hs', i, rfl, hg', hv, ⟨h1, h2, rfl, ho', h2e⟩, hf'⟩
 cases h2e
 obtain ⟨k1, k2⟩ := QkV hg hg' hf'
 have hv' : v = i := (Uv.1 hv).1
 subst hv'
 have k2' : Frm w w' m (cut m' m hs2.bs) hs2.bs (Hp.bs (h1 ++ hs2)) := by simpa using k2
 have k1' : JM (cut m' m hs2.bs) (h1 ++ hs2) w' := by simpa using k1
 obtain ⟨m2, hle, hg2, hv2, hf2, hoth⟩ := own.froze (QeN hR _ _ _ _ _ ho') k1' k2'
 refine ⟨v, rfl, m2, hg2, hv2, ?_⟩
 refine { hf2 with old := fun b hb _ => ?_, own := fun b hb => by cases hb }
 by_cases hbb : b ∈ hs2.bs
 ·refine ⟨(hf'.old b hb (by simp [Hp.bs])).1, fun o => ?_⟩
  have hb1 : b ∉ h1.bs := by
   intro e
   have := k1'.nodup
   rw [Hp.bs_append, List.nodup_append] at this
   exact this.2.2 b e b hbb rfl
  rw [hoth b hb1 o]
  simp only [cut, if_pos hbb]
 ·exact hf2.old b hb hbb
end
section
variable {c : Ctx} {Γ Γ' : Env} {H H' : List Ent} {Q : Exit → Act → World → Prop} {k k' : List Code} {id id' : Nat} {n : Act → World → Prop}
theorem Q9 (h1 : SubE Γ Γ') (h2 : Keep H H') (r : Run c Q k Γ' H') : Run c Q k Γ H := QjS h1 (Xn h2 r)
theorem Qs (h : Run c Q k Γ H) : Run c (BQ id (WR c.ro c.P Q k) Q) [] Γ H := YV fun a w hst => h a w hst
theorem Qdh (h : Run c Q k Γ H) : Run c (BQ id (WR c.ro c.P Q k) Q) (.exit id :: k') Γ H := BX fun a w hst => Qb0 (h a w hst)
theorem Wa (h : ∀ Qf : Act → World → Prop, (∀ a w, Qf a w → Q .ret a w) → (∀ a w, Q .ret a w → Qf a w) → Run c Q k Γ H) : Run c Q k Γ H := h (Q .ret) (fun _ _ h => h) (fun _ _ h => h)
theorem KC {ι : Type} {x : Code} {Γ' : ι → Env} {H' : ι → List Ent} (hJ : ∀ i, Run c Q k (Γ' i) (H' i)) (h : (∀ i, Run c Q k (Γ' i) (H' i)) → Run c Q (x :: k) Γ H) : Run c Q (x :: k) Γ H := h hJ
section
variable {σ ρ ι : Type} {Γi : ι → σ → Env} {Hi : ι → σ → List Ent} {R : ρ → Act → World → Prop}
theorem QZ {s : σ} (i : ι) (h1 : SubE Γ (Γi i s)) (h2 : Keep H (Hi i s)) : Run c (LQ id (fun s a w => ∃ i, St c (Γi i s) (Hi i s) a w) R (.next s)) [] Γ H :=
 YV fun a w hst => ⟨rfl, i, (hst.sub h1).keep h2⟩
theorem Jf {s : σ} (i : ι) (h1 : SubE Γ (Γi i s)) (h2 : Keep H (Hi i s)) : Run c (LQ id (fun s a w => ∃ i, St c (Γi i s) (Hi i s) a w) R (.brk s)) (.exit id :: k) Γ H :=
 BX fun a w hst => ⟨rfl, i, (hst.sub h1).keep h2⟩
theorem Q2 {f : σ → Option (LR σ Empty)} {m : Nat} {body : Code} {s0 s1 : σ} (hl : Q5 f m s0 = some s1)
  (i0 : ι) (h0 : ∀ a w, St c Γ H a w → St c (Γi i0 s0) (Hi i0 s0) a w)
  (step : ∀ i s r, f s = some r → Run c (LQ id (fun s a w => ∃ i, St c (Γi i s) (Hi i s) a w) (fun (_ : Empty) _ _ => True) r) [body] (Γi i s) (Hi i s))
  (h1 : ∀ i, Run c Q k (Γi i s1) (Hi i s1)) : Run c Q (.block id (.loop body) :: k) Γ H := by
 obtain ⟨o, ho, hs⟩ := Qga hl
 refine VZ (Γi := Γi) (Hi := Hi) ho i0 h0 step ?_ (fun x => x.elim)
 rintro i s rfl
 cases hs
 exact h1 i
end
end
end Go.Sl
namespace Go.Sl
def Qgg (m : Mem) (hs : Hp) : Prop := ∀ h ∈ hs, At m h.1 0 h.2.2
def lnt (E : List Ent) (s : Slot) : Slot where
 p := fun m v => ∀ m' hs, Mle m m' → Sat E m' hs → Qgg m' hs → s.p m' v
 mono := fun hm h m' hs h1 h2 h3 => h m' hs (hm.trans h1) h2 h3
section
variable {α β : Type} {c : Ctx} {Γ : Env} {H H' : List Ent} {E E' : List Ent} {od : Option Tmp} {ty : TypeId} {pos : String} {aft : Array Edge} {g : Option (Nat × Bool)}
theorem Qj3 {x : Operand} {s : Slot} (h : Has Γ x s) : Has Γ x (lnt E s) := fun m a ho m' hs h1 _ _ => s.mono h1 (h m a ho)
theorem Qfa {x : Operand} {T b lo n cap N : Nat} {R : Rep α} {v : Vector α N} (hx : Has Γ x (val (.slice (some ⟨b, lo * R.n, none⟩) n cap))) (hk : Pick E (box b T (vec N R) v) E') (hn : lo + n ≤ N) (hc : n ≤ cap) :
  Has Γ x (lnt E ((sl R).slot ((v.toList.drop lo).take n))) := by
 intro m a ho m' hs h1 h2 h3
 have e : a.eval x = _ := hx m a ho
 rw [e]
 obtain ⟨g1, g2, hpm, ⟨cs, rfl, hr⟩, _⟩ := h2.pick hk
 have hat : At m' b 0 cs := h3 (b, T, cs) (hpm.mem_iff.2 (by simp))
 have hl : ((v.toList.drop lo).take n).length = n := by simp; omega
 have hr' : JP R m' cs v.toList := hr
 have hrow := (hr'.drop lo).take n
 refine ⟨_, cap, by rw [hl], by rw [hl]; exact hc, .inr ⟨b, lo * R.n, _, rfl, hrow, ?_⟩⟩
 have := hat.mid (lo * R.n) (n * R.n)
 rwa [Nat.zero_add] at this
theorem Qji {x : Operand} {s : Slot} (h : Has Γ x (lnt E s)) (hk : Keep H E) : QeY c Γ H x s := by
 intro m hs a w hg hsat ho
 obtain ⟨r, hs', hp, q⟩ := hsat.keep hk
 refine h m a ho (ext m hs) hs' (KT hg) (q.mono (KT hg)) ?_
 rintro ⟨b, T, cs⟩ hb j v e
 have hm : (b, T, cs) ∈ hs := hp.mem_iff.2 (List.mem_append.2 (.inr hb))
 rw [Nat.zero_add, WA hg.nodup hm]
 exact e
def QjA : Rep Value where
 n := 1
 ag := false
 rel := fun _ cs v => cs = [v] ∧ v.oneCell' = true
 mono := fun _ h => h
 len := fun h => by rw [h.1]; rfl
 one := fun _ => rfl
 cell := fun h v hv => by rw [h.1] at hv; simp at hv; subst hv; exact h.2
inductive BuildL (Γ : Env) (E : List Ent) (R : Rep α) : Nat → List (Nat × Operand) → List α → Prop
 | nil {k : Nat} : BuildL Γ E R k [] []
 | cons {k : Nat} {y : Operand} {z : α} {ps : List (Nat × Operand)} {zs : List α} : Has Γ y (lnt E ((R.slot) z)) → BuildL Γ E R (k + 1) ps zs → BuildL Γ E R k ((k, y) :: ps) (z :: zs)
def exact (a : Act) : List (Nat × Operand) → Env
 | [] => []
 | (_, .tmp t) :: ps => (t, val (a.tmps.getD t undef)) :: exact a ps
 | _ :: ps => exact a ps
theorem QfD {a : Act} {t : Nat} : ∀ {ps : List (Nat × Operand)} {i : Nat}, (i, Operand.tmp t) ∈ ps → lk (exact a ps) t = some (val (a.tmps.getD t undef))
 | (j, x) :: ps, i, h => by
  rcases List.mem_cons.1 h with e | h
  ·cases e; simp only [exact, Zs]
  ·have ih := QfD (a := a) h
   cases x with
   | tmp t' =>
    by_cases ht : t' = t
    ·subst ht; simp only [exact, Zs]
    ·simp only [exact]; rw [Yw ht]; exact ih
   | _ => exact ih
theorem Qie {a : Act} {m : Mem} : ∀ {ps : List (Nat × Operand)} (x : Operand), Opd (exact a ps) m a x
 | ps, .tmp t => by
  intro s e
  have : ∀ ps : List (Nat × Operand), lk (exact a ps) t = some s → s = val (a.tmps.getD t undef) := by
   intro ps
   induction ps with
   | nil => intro e; simp [exact, lk] at e
   | cons p ps ih =>
    obtain ⟨j, x⟩ := p
    cases x with
    | tmp t' =>
     intro e
     by_cases ht : t' = t
     ·subst ht; simp only [exact, Zs] at e; exact (Option.some.inj e).symm
     ·simp only [exact] at e; rw [Yw ht] at e; exact ih e
    | _ => intro e; exact ih e
  rw [this ps e]; rfl
 | _, .const _ => trivial
 | _, .global _ => trivial
 | _, .func _ => trivial
theorem BuildL.raw {R : Rep α} (ha : R.ag = false) {k : Nat} {ps : List (Nat × Operand)} {zs : List α} (h : BuildL Γ E R k ps zs) {a : Act} {m m1 : Mem} {hs : Hp} (hle : Mle m m1) (hE : Sat E m1 hs) (hH : Qgg m1 hs) (all : List (Nat × Operand)) (hall : ∀ p ∈ ps, p ∈ all) (ho : ∀ p ∈ ps, Opd Γ m a p.2) :
  BuildS (exact a all) QjA k ps (ps.map fun p => a.eval p.2) ∧ ∀ m' hs', Mle m m' → Sat E m' hs' → Qgg m' hs' → JP R m' (ps.map fun p => a.eval p.2) zs := by
 induction h with
 | nil => exact ⟨.nil, fun _ _ _ _ _ => rfl⟩
 | @cons k y z ps zs hy _ ih =>
  obtain ⟨h1, h2⟩ := ih (fun p hp => hall p (by simp [hp])) (fun p hp => ho p (by simp [hp]))
  have hop := ho (k, y) (by simp)
  have hcell : ∀ {m' : Mem} {v : Value}, (R.slot z).p m' v → R.rel m' [v] z := by
   intro m' v hv
   simp only [Rep.slot, Rep.is, ha] at hv; exact hv
  have h0 := hcell (hy m a hop m1 hs hle hE hH)
  have h1c := R.cell h0 (a.eval y) (by simp)
  refine ⟨.cons (fun m' a' hop' => ?_) h1, fun m' hs' hl he hh => ⟨[a.eval y], _, rfl, hcell (hy m a hop m' hs' hl he hh), h2 m' hs' hl he hh⟩⟩
  show [a'.eval y] = [a.eval y] ∧ (a.eval y).oneCell' = true
  have e : a'.eval y = a.eval y := by
   cases y with
   | tmp t => exact hop' _ (QfD (hall (k, .tmp t) (by simp)))
   | _ => rfl
  rw [e]; exact ⟨rfl, h1c⟩
theorem QgV {m : Mem} : ∀ {xs cs : List Value}, JP QjA m cs xs → cs = xs
 | [], _, h => h
 | x :: xs, _, ⟨c1, cs', e, ⟨e1, _⟩, q⟩ => by rw [e, e1, QgV q]; rfl
theorem Qas {ST T n : Nat} {R : Rep α} {ps : List (Nat × Operand)} {zs : List α} (h : BuildL Γ E R 0 ps zs) (hk : Keep H E) (ha : R.ag = false) (hn : n = ps.length) (hs : Nat.ble n 16777216 = true) (hT : slE c.P ST T 1 = true) :
  PJ c ⟨od, .buildSlice ST n ps.toArray, ty, pos, aft, g⟩ Γ H (lnt E ((sl R).slot zs)) := by
 intro m hs2 a w hg _ hsat ho
 have hop : ∀ p ∈ ps, Opd Γ m a p.2 := fun p hp => ho p.2 (by
   simp only [Op.operands]
   simp only [List.mem_toArray, List.mem_map]
   exact ⟨p, hp, rfl⟩)
 obtain ⟨r, hs', hp, q⟩ := hsat.keep hk
 obtain ⟨h1, h2⟩ := h.raw ha (a := a) (m := m) (KT hg) (q.mono (KT hg)) (by
  rintro ⟨b, T, cs⟩ hb j v e
  have hm : (b, T, cs) ∈ hs2 := hp.mem_iff.2 (List.mem_append.2 (.inr hb))
  rw [Nat.zero_add, WA hg.nodup hm]
  exact e) ps (fun _ h => h) hop
 obtain ⟨cs, hr, hrun⟩ := K0 (P := c.P) (w := w) (R := QjA) (m := m) (a := a) (n := n) hT (by rw [hn]; simp) (by simpa [Nat.ble_eq, QjA] using hs) h1 (fun p _ => Qie p.2)
 have hcs := QgV hr
 have e : (execOp a.eval ⟨od, .buildSlice ST n ps.toArray, ty, pos, aft, g⟩).run c.P w = .ok (.value (.slice (some ⟨w.heap.size, 0, none⟩) n n)) (w.alloc (.cells cs.toArray T)) := by
  show (do let v ← Instr.buildSlice ST n (ps.toArray.map fun (p : Nat × Operand) => (p.1, a.eval p.2)); pure (Next.value v) : Sem Next).run c.P w = _
  rw [Sem.run_bind, hrun]; rfl
 rw [e]
 have hg1 := hg.newOwn T cs
 have hle := hg1.le_put
 refine ⟨m.put w.heap.size cs, hg1.freeze, ?_, ?_⟩
 ·intro m' hs3 hl he hh
  have hrow := h2 m' hs3 (hle.trans hl) he hh
  have hlen := hrow.length
  have hR1 := R.one ha
  rw [hR1, Nat.mul_one] at hlen
  have hnz : n = zs.length := by rw [hn, ← hlen]; simp
  refine ⟨_, n, by rw [hnz], by omega, .inr ⟨w.heap.size, 0, cs, rfl, by rw [hcs]; exact hrow, (Mem.at_put m _ cs).mono hl⟩⟩
 ·exact (Frm.alloc w m [] (.cells cs.toArray T)).freeze hle
theorem QhK {x : Operand} {T b n cap : Nat} {R : Rep α} {v : Vector α n} (hx : Has Γ x (val (.slice (some ⟨b, 0 * R.n, none⟩) n cap))) (hk : Pick H (box b T (vec n R) v) H') (hc : n ≤ cap) : QeY c Γ H x ((sl R).slot v.toList) := by
 have := QfF (c := c) (lo := 0) hx hk (by omega) hc
 rwa [List.drop_zero, List.take_of_length_le (by simp)] at this
theorem Qd7 {x : Operand} {T b n cap : Nat} {R : Rep α} {v : Vector α n} (hx : Has Γ x (val (.slice (some ⟨b, 0 * R.n, none⟩) n cap))) (hk : Pick E (box b T (vec n R) v) E') (hc : n ≤ cap) : Has Γ x (lnt E ((sl R).slot v.toList)) := by
 have := Qfa (lo := 0) hx hk (by omega) hc
 rwa [List.drop_zero, List.take_of_length_le (by simp)] at this
theorem QiV {x : Operand} {T b n cap : Nat} {R : Rep α} {v : Vector α n} (hx : Has Γ x (val (.slice (some ⟨b, 0 * R.n, none⟩) n cap))) (hk : Pick H (box b T (vec n R) v) H') : Src c Γ H x R v.toList := by
 have := QjC (c := c) (lo := 0) hx hk (by omega)
 rwa [List.drop_zero, List.take_of_length_le (by simp)] at this
theorem Qa3 : ∀ s ∈ ([] : List Slot), s.flat := fun s h => by cases h
theorem Uc {s : Slot} {ss : List Slot} (h : s.flat) (k : ∀ t ∈ ss, t.flat) : ∀ t ∈ s :: ss, t.flat := fun t ht => (List.mem_cons.1 ht).elim (fun e => e ▸ h) (k t)
theorem Qb1 {s : Slot} : ∀ t ∈ ([] : List Nat), Imp Γ t s := fun t h => by cases h
theorem KU {s : Slot} {t : Nat} {ts : List Nat} (h : Imp Γ t s) (k : ∀ t ∈ ts, Imp Γ t s) : ∀ u ∈ t :: ts, Imp Γ u s := fun u hu => (List.mem_cons.1 hu).elim (fun e => e ▸ h) (k u)
theorem BZ {n : Nat} {R : Rep α} {x : α} {m m' : Mem} (hm : Mle m m') (h : GAt n R x m) : GAt n R x m' := by
 obtain ⟨cs, h1, h2⟩ := h; exact ⟨cs, R.mono hm h1, h2.mono hm⟩
theorem ql {Q : Exit → Act → World → Prop} {k : List Code} {id n : Nat} {L : List Oper} {Γ' : Env} {H' : List Ent} (hJ : Jc c L.toArray (L.drop n) Γ' H' (WR c.ro c.P Q k))
  (h : Jc c L.toArray (L.drop n) Γ' H' (WR c.ro c.P Q k) → Run c Q (.region id L.toArray true :: k) Γ H) : Run c Q (.region id L.toArray true :: k) Γ H := h hJ
theorem QfM {Q : Exit → Act → World → Prop} {k : List Code} {x : Operand} {A B : Code} {b : Bool} (hx : Has Γ x (bl.slot b)) (hb : b = true) (h : Run c Q (A :: k) Γ H) : Run c Q (.cond x A B :: k) Γ H :=
 Qn hx (fun _ => h) (fun e => by rw [hb] at e; cases e)
theorem Yi {Q : Exit → Act → World → Prop} {k : List Code} {x : Operand} {A B : Code} {b : Bool} (hx : Has Γ x (bl.slot b)) (hb : b = false) (h : Run c Q (B :: k) Γ H) : Run c Q (.cond x A B :: k) Γ H :=
 Qn hx (fun e => by rw [hb] at e; cases e) (fun _ => h)
end
end Go.Sl
