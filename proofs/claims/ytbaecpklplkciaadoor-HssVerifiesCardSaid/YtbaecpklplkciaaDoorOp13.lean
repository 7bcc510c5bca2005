import Derived.Test.YtbaecpklplkciaaDoorOp12
set_option linter.unusedSimpArgs false
set_option linter.unusedVariables false
set_option linter.unusedSectionVars false
namespace Go.Sl
section
variable {c : Ctx} {full : Array Oper} {l : List Oper} {Γ Γ' : Env} {H H' : List Ent} {K : Act → World → Prop} {d : Tmp} {od : Option Tmp} {ty : TypeId} {pos : String} {aft : Array Edge} {g : Option (Nat × Bool)} {α β : Type}
/-- An append to a slice that is full: what comes is new. -/
theorem run_appendF {P : Program} {w : World} {m : Mem} {hs : Hp} {ST XT T rt E : TypeId} {R : Rep α} {ys xs : List α} {av a0 : Option Addr} {cap0 : Nat}
    (hT : slE P ST T R.n = true) (hX : P.underlying XT = some (.slice E)) (hg : Good m hs w)
    (hys : ys = [] ∨ ∃ b o row, av = some ⟨b, o, none⟩ ∧ RowC R m row ys ∧ ∀ j v, row[j]? = some v → w.cell? ⟨b, o + j, none⟩ = some v)
    (hsrc : xs = [] ∨ ∃ b o row, a0 = some ⟨b, o, none⟩ ∧ RowC R m row xs ∧ ∀ j v, row[j]? = some v → w.cell? ⟨b, o + j, none⟩ = some v) (hb : 0 < xs.length ∧ ys.length + xs.length ≤ 4294967296) :
    ∃ v' h1' w', (Builtin.append_ #[ST, XT] rt #[.slice av ys.length ys.length, .slice a0 xs.length cap0]).run P w = .ok v' w' ∧ (own T R v' (ys ++ xs)).p m h1' ∧ Good m (h1' ++ hs) w' ∧ Frm w w' m m hs.bs (Hp.bs (h1' ++ hs)) := by
  obtain ⟨hu, i, z, hi, hsz, hb0, hb1, hz, hzc⟩ := slE_of hT
  obtain ⟨rowo, _, hro, hrunO⟩ := Src.run (P := P) (R := R) (w := w.drew) (cap := ys.length) (m := m) (a0 := av) (xs := ys) hys ys.length (Nat.le_refl _)
  rw [List.take_length] at hro
  obtain ⟨rx', _, hrx', hrun'⟩ := Src.run (P := P) (R := R) (w := w.drew) (cap := cap0) (m := m) (a0 := a0) (xs := xs) hsrc xs.length (Nat.le_refl _)
  rw [List.take_length] at hrx'
  have hfit : ¬ ys.length + xs.length ≤ ys.length := by omega
  have hcap := nextslicecap_le (ys.length + xs.length) ys.length (by omega)
  have hnb : ¬ (Builtin.nextslicecap (ys.length + xs.length) ys.length * i.bytes > 2 ^ 48) := by
    have h1 : Builtin.nextslicecap (ys.length + xs.length) ys.length ≤ 4 * 4294967296 + 4096 := by omega
    have h2 : Builtin.nextslicecap (ys.length + xs.length) ys.length * i.bytes ≤ (4 * 4294967296 + 4096) * 4096 := Nat.mul_le_mul h1 hb1
    have h3 : (4 * 4294967296 + 4096) * 4096 ≤ 2 ^ 48 := by decide
    omega
  obtain ⟨newCap, hnc, happ⟩ := append_grows (P := P) (rt := rt) (z := z) hu hX hi hsz hz hb0 hfit hnb hrunO hrun'
  have hzc' : z.cells.size = R.n := hzc
  let rest := (Builtin.zeroCells z.cells (newCap - (ys.length + xs.length))).toList
  have hrl : rest.length = (newCap - (ys.length + xs.length)) * R.n := by simp [rest, Builtin.zeroCells, hzc']
  have hcs : rowo.toArray ++ rx'.toArray ++ Builtin.zeroCells z.cells (newCap - (ys.length + xs.length)) = ((rowo ++ rx') ++ rest).toArray := by
    simp [rest]
  rw [hcs] at happ
  refine ⟨_, [(w.heap.size, T, (rowo ++ rx') ++ rest)], _, happ, .inr ⟨w.heap.size, newCap, rowo ++ rx', rest, by simp, rfl, hro.append hrx', by simpa using hnc, ?_⟩, ?_, ?_⟩
  · rw [List.length_append, List.length_append, hro.length, hrx'.length, hrl, ← Nat.add_mul, ← Nat.add_mul]
    congr 1; omega
  · exact hg.drew.newOwn T _
  · exact (Frm.drew w m _).trans (Frm.alloc w.drew m hs.bs (.cells ((rowo ++ rx') ++ rest).toArray T))
theorem appendF_upon {ST XT T E : TypeId} {x y : Operand} {R : Rep α} {ad : Option Addr} {n : Nat} {ys xs : List α} (hx : Has Γ x (val (.slice ad n n))) (hxs : Src c Γ H x R ys) (hy : Src c Γ H y R xs)
    (hT : slE c.P ST T R.n = true) (hX : c.P.underlying XT = some (.slice E)) (hb : 0 < xs.length ∧ ys.length + xs.length ≤ 4294967296) {m : Mem} {hs : Hp} {a : Act} {w : World} (hg : Good m hs w) (hsat : Sat H m hs) (hox : Opd Γ m a x) (hoy : Opd Γ m a y) :
    ∃ v' h1' w', (execOp a.eval ⟨some d, .call { callee := .builtin .append, args := #[x, y], argTypes := #[ST, XT] }, ty, pos, aft, g⟩).run c.P w = .ok (.value v') w' ∧ (own T R v' (ys ++ xs)).p m h1' ∧ Good m (h1' ++ hs) w' ∧ Frm w w' m m hs.bs (Hp.bs (h1' ++ hs)) := by
  obtain ⟨av, cap, ex, hys⟩ := hxs m hs a w hg hsat hox
  have ex2 : a.eval x = _ := hx m a hox
  rw [ex] at ex2
  obtain ⟨rfl, rfl, rfl⟩ : av = ad ∧ ys.length = n ∧ cap = ys.length := by
    injection ex2 with h1 h2 h3; exact ⟨h1, h2, by omega⟩
  obtain ⟨a0, cap0, ey, hsrc⟩ := hy m hs a w hg hsat hoy
  obtain ⟨v', h1', w', hrun, ho', hg', hf'⟩ := run_appendF (rt := ty) (cap0 := cap0) hT hX hg hys hsrc hb
  refine ⟨v', h1', w', ?_, ho', hg', hf'⟩
  simp only [execOp, resolve, Sem.run_bind, Sem.run_pure, Result.andThen_ok, invoke, builtin]
  simp only [List.map_toArray, List.map_cons, List.map_nil, ex, ey, hrun, Result.andThen_ok]
theorem w_appendF {ST XT T E : TypeId} {x y : Operand} {R : Rep α} {ad : Option Addr} {n : Nat} {ys xs : List α} (hx : Has Γ x (val (.slice ad n n))) (hxs : Src c Γ H x R ys) (hy : Src c Γ H y R xs)
    (hT : slE c.P ST T R.n = true) (hX : c.P.underlying XT = some (.slice E)) (hb : 0 < xs.length ∧ ys.length + xs.length ≤ 4294967296) (hN : Nat.blt d c.N = true) :
    WJ c ⟨some d, .call { callee := .builtin .append, args := #[x, y], argTypes := #[ST, XT] }, ty, pos, aft, g⟩ Γ H (fun v' => [(d, ov v')]) (fun v' => own T R v' (ys ++ xs) :: H) := by
  intro m hs a w hg _ hsat ho hn
  obtain ⟨v', h1', w', hr, ho', hg', hf'⟩ := appendF_upon (d := d) (ty := ty) (pos := pos) (aft := aft) hx hxs hy hT hX hb hg hsat (ho x (by simp [Op.operands, Call.operands])) (ho y (by simp [Op.operands, Call.operands]))
  rw [hr]
  exact ⟨v', m, h1' ++ hs, hg', env1 (blt_sz hN hn) (ov_p.2 ⟨rfl, own.one ho'⟩), ⟨h1', hs, rfl, ho', hsat⟩, hf'⟩
/-! ## A slice that is known to be nil -/
theorem has_nilS : Has Γ (.const (.slice none 0 0)) (val (.slice none 0 0)) := fun _ _ _ => rfl
theorem has_nilP : Has Γ (.const (.pointer none)) (val (.pointer none)) := fun _ _ _ => rfl
theorem has_ov_nil {x : Operand} (h : Has Γ x (val (.slice none 0 0))) : Has Γ x (ov (.slice none 0 0)) := fun m a ho => ov_p.2 ⟨h m a ho, rfl⟩
theorem run_cap {P : Program} {T ty : TypeId} {sz : Nat} (hT : slB P T sz = true) (a : Option Addr) (n cap : Nat) (w : World) :
    (Builtin.cap_ #[T] ty #[.slice a n cap]).run P w = .ok (goInt cap) w := by
  obtain ⟨e, hu, _⟩ := slB_of hT
  simp [Builtin.cap_, run_underlying hu]
theorem pj_cap_val {T : TypeId} {x : Operand} {a0 : Option Addr} {n cap sz : Nat} (hx : Has Γ x (val (.slice a0 n cap))) (hT : slB c.P T sz = true) :
    PJ c ⟨some d, .call { callee := .builtin .cap, args := #[x], argTypes := #[T] }, ty, pos, aft, g⟩ Γ H (i64.slot (cap : Int)) :=
  pj_of fun m hs a w _ _ _ ho => by
    have e : a.eval x = _ := hx m a (ho x (by simp [Op.operands, Call.operands]))
    refine ⟨goInt cap, ?_, i64_p.2 rfl⟩
    have hl := run_cap (ty := ty) hT a0 n cap w
    simp only [execOp, resolve, Sem.run_bind, Sem.run_pure, Result.andThen_ok, invoke, builtin]
    simp only [List.map_toArray, List.map_cons, List.map_nil, e, hl, Result.andThen_ok]
theorem pj_slice_nil {T sz : Nat} {x y : Operand} {s : Slot} (hx : Has Γ x (val (.slice none 0 0))) (hy : Has Γ y s) (hs : IsInt s 0) (hT : slB c.P T sz = true) :
    PJ c ⟨od, .slice T x none (some y) none, ty, pos, aft, g⟩ Γ H (val (.slice none 0 0)) :=
  pj_of fun m hs2 a w _ _ _ ho => by
    have e : a.eval x = _ := hx m a (ho x (by simp [Op.operands]))
    obtain ⟨kk, ek⟩ := hs m _ (hy m a (ho y (by simp [Op.operands])))
    have hr := run_slice_sl (P := c.P) hT (a := none) (len := 0) (cap := 0) (lo := none) (hi := some (.int kk 0)) (l := none) (h := some 0) (.inl ⟨rfl, rfl⟩) (.inr ⟨kk, 0, rfl, rfl⟩) (by simp) (by simp) (by simp) w
    simp only [Option.getD_none, Option.getD_some, Int.toNat_zero, if_true, Nat.sub_self] at hr
    refine ⟨.slice none 0 0, ?_, rfl⟩
    simp only [execOp, e, Option.map_none, Option.map_some, ek, Sem.run_bind, hr, Result.andThen_ok, Sem.run_pure]
/-! ## A byte of a string -/
theorem zeroCells_succ (cs : Array Value) (n : Nat) : (Builtin.zeroCells cs (n + 1)).toList = (Builtin.zeroCells cs n).toList ++ cs.toList := by
  unfold Builtin.zeroCells
  simp only [Array.toList_map, Array.toList_range, Nat.add_mul, Nat.one_mul, List.range_add, List.map_append, List.map_map]
  congr 1
  apply List.ext_getElem?
  intro t
  by_cases ht : t < cs.size
  · simp [ht, Nat.mul_add_mod_self_right, Nat.mod_eq_of_lt ht]
  · simp [ht]
theorem row_zeroCells {R : Rep α} {z : α} {cs : Array Value} (hz : ZeroR R z cs.toList) (m : Mem) : ∀ n, RowC R m (Builtin.zeroCells cs n).toList (List.replicate n z)
  | 0 => by simp [Builtin.zeroCells, RowC]
  | n + 1 => by
    rw [zeroCells_succ, List.replicate_succ']
    exact (row_zeroCells hz m n).append (RowC.single (hz m))
/-- append(nil, make([]E, n)...). -/
theorem run_appendMake {P : Program} {w : World} {m : Mem} {hs : Hp} {ST XT T rt : TypeId} {R : Rep α} {z : α} {zc : List Value} {n : Int}
    (hT : slE P ST T R.n = true) (hX : P.underlying XT = some (.int .i64)) (hz : ZeroR R z zc) (hzB : zeroB P T = some zc) (hR : Nat.blt 0 R.n = true) (hg : Good m hs w) (h0 : 0 < n) (h1 : n ≤ 4294967296) :
    ∃ v' h1' w', (Builtin.append_ #[ST, XT] rt #[.slice none 0 0, .int .i64 n]).run P w = .ok v' w' ∧ (own T R v' (List.replicate n.toNat z)).p m h1' ∧ Good m (h1' ++ hs) w' ∧ Frm w w' m m hs.bs (Hp.bs (h1' ++ hs)) := by
  obtain ⟨hu, i, zv, hi, hsz, hb0, hb1, hzi, hzc⟩ := slE_of hT
  have hzl : zv.cells.toList = zc := by
    unfold zeroB at hzB
    simp [hi, hzi] at hzB
    exact hzB
  have hti : ∀ w : World, (typeInfo T).run P w = .ok i w := fun w => by simp [typeInfo, hi]
  have hsize : ∀ w : World, (sizeOf T).run P w = .ok R.n w := fun w => by simp [sizeOf, hti, hsz]
  have hzv : ∀ w : World, (zeroValue T).run P w = .ok zv w := fun w => by simp [zeroValue, hti, hzi]
  have hn : IntKind.i64.wrap n = n := IntWalk.i64_in n (by omega)
  have hbig : ¬ n * (i.bytes : Int) > 2 ^ 48 := by
    have h48 : (2 : Int) ^ 48 = 281474976710656 := by decide
    have : n * (i.bytes : Int) ≤ 4294967296 * 4096 := Int.mul_le_mul h1 (by omega) (by omega) (by decide)
    rw [h48]; omega
  have hneg : ¬ n < 0 := by omega
  have hfit : ¬ (0 + n.toNat ≤ 0) := by omega
  have hcap := nextslicecap_le (0 + n.toNat) 0 (by omega)
  have hnb : ¬ (Builtin.nextslicecap (0 + n.toNat) 0 * i.bytes > 2 ^ 48) := by
    have h1 : Builtin.nextslicecap (0 + n.toNat) 0 ≤ 4 * 4294967296 + 4096 := by omega
    have h2 : Builtin.nextslicecap (0 + n.toNat) 0 * i.bytes ≤ (4 * 4294967296 + 4096) * 4096 := Nat.mul_le_mul h1 hb1
    have h3 : (4 * 4294967296 + 4096) * 4096 ≤ 2 ^ 48 := by decide
    omega
  have hmax : ¬ (((0 + n.toNat : Nat) : Int) > IntKind.i64.max) := by
    have : IntKind.i64.max = 9223372036854775807 := by decide
    rw [this]; omega
  have hpos : ¬ n.toNat * R.n = 0 := by
    have : 0 < R.n := by simpa [Nat.blt_eq] using hR
    intro h; rcases Nat.mul_eq_zero.1 h with h | h <;> omega
  have hch : (choose (.appendCap (0 + n.toNat) 0 T)).run P w = .ok ((Question.appendCap (0 + n.toNat) 0 T).cut (w.tape w.drawn (.appendCap (0 + n.toNat) 0 T))) w.drew := by
    rw [run_choose]; rfl
  let newCap := (Question.appendCap (0 + n.toNat) 0 T).cut (w.tape w.drawn (.appendCap (0 + n.toNat) 0 T))
  have hnc : n.toNat ≤ newCap := by
    have : 0 + n.toNat ≤ newCap := Nat.le_add_right _ _
    omega
  let cs := (Builtin.zeroCells zv.cells n.toNat).toList ++ (Builtin.zeroCells zv.cells (newCap - (0 + n.toNat))).toList
  have hrun : (Builtin.append_ #[ST, XT] rt #[.slice none 0 0, .int .i64 n]).run P w = .ok (.slice (some ⟨w.heap.size, 0, none⟩) (0 + n.toNat) newCap) (w.drew.alloc (.cells cs.toArray T)) := by
    simp only [Builtin.append_, List.getElem?_toArray, List.getElem?_cons_zero, List.getElem?_cons_succ]
    simp only [Sem.run_bind, run_underlying hu, run_underlying hX, Result.andThen_ok, hsize, Sem.run_pure, Bool.not_true, if_true, asInt, asIntOf, hn, hneg, if_false, hti, hbig, hfit, hmax, false_and, hnb, hch, run_askRoom, Builtin.firstCells, hpos, hzv, newRow, run_newObj, Bool.false_eq_true]
    have : cs.toArray = #[] ++ Builtin.zeroCells zv.cells n.toNat ++ Builtin.zeroCells zv.cells (newCap - (0 + n.toNat)) := by simp [cs]
    rw [this]
    rfl
  have hz' : ZeroR R z zv.cells.toList := by rw [hzl]; exact hz
  refine ⟨_, [(w.heap.size, T, cs)], _, hrun, .inr ⟨w.heap.size, newCap, (Builtin.zeroCells zv.cells n.toNat).toList, (Builtin.zeroCells zv.cells (newCap - (0 + n.toNat))).toList, by simp, rfl, row_zeroCells hz' m _, by simpa using hnc, ?_⟩, hg.drew.newOwn T _, (Frm.drew w m _).trans (Frm.alloc w.drew m hs.bs _)⟩
  rw [List.length_append, (row_zeroCells hz' m n.toNat).length, (row_zeroCells hz' m (newCap - (0 + n.toNat))).length, List.length_replicate, List.length_replicate, ← Nat.add_mul]
  congr 1; omega
theorem j_appendMake {ST XT T : TypeId} {x y : Operand} {R : Rep α} {z : α} {zc : List Value} {n : Int} (hx : Has Γ x (val (.slice none 0 0))) (hy : Has Γ y (i64.slot n)) (h0 : 0 < n ∧ n ≤ 4294967296)
    (hT : slE c.P ST T R.n = true) (hX : c.P.underlying XT = some (.int .i64)) (hz : ZeroR R z zc) (hzB : zeroB c.P T = some zc) (hR : Nat.blt 0 R.n = true) (hN : Nat.blt d c.N = true)
    (k : ∀ v', OpsJ c full l ((d, ov v') :: Γ) (own T R v' (List.replicate n.toNat z) :: H) K) :
    OpsJ c full (⟨some d, .call { callee := .builtin .append, args := #[x, y], argTypes := #[ST, XT] }, ty, pos, aft, none⟩ :: l) Γ H K := by
  refine j_step_ex (Γ2 := fun v' => (d, ov v') :: Γ) (H2 := fun v' => own T R v' (List.replicate n.toNat z) :: H) rfl ?_ k
  intro m hs a w hg _ hsat he hn
  have ex : a.eval x = _ := hx m a (he.opd x)
  have ey := i64_p.1 (hy m a (he.opd y))
  obtain ⟨v', h1', w', hrun, ho', hg', hf'⟩ := run_appendMake (rt := ty) hT hX hz hzB hR hg h0.1 h0.2
  have hr : (execOp a.eval ⟨some d, .call { callee := .builtin .append, args := #[x, y], argTypes := #[ST, XT] }, ty, pos, aft, none⟩).run c.P w = .ok (.value v') w' := by
    simp only [execOp, resolve, Sem.run_bind, Sem.run_pure, Result.andThen_ok, invoke, builtin]
    simp only [List.map_toArray, List.map_cons, List.map_nil, ex, ey, hrun, Result.andThen_ok]
  rw [hr]
  exact ⟨v', m, h1' ++ hs, hg', he.put (by rw [hn]; simpa [Nat.blt_eq] using hN) (ov_p.2 ⟨rfl, own.one ho'⟩), ⟨h1', hs, rfl, ho', hsat⟩, hf'⟩
/-! ## Own slices within objects that are made to stay -/
theorem St.freezeIn {a : Act} {w : World} {T Tb b : Nat} {R : Rep α} {v : Value} {xs : List α} {β' : Type} {S : Rep β} {S' : Rep β'} {y : β} {y' : β'} {H1 H2 : List Ent} (hk : Pick H (own T R v xs) H1) (hk2 : Pick H1 (box b Tb S y) H2)
    (hc : ∀ m cs, ((sl R).slot xs).p m v → S.rel m cs y → S'.rel m cs y') (h : St c Γ H a w) : St c Γ (box b Tb S' y' :: H2) a w := by
  obtain ⟨hd, hn, m, hs, hg, hG, he, ⟨h1, h2, rfl, ho, hsat⟩, hf⟩ := h.pick hk
  obtain ⟨m', hle, hg', hv, hf', _⟩ := own.froze ho hg hf
  have hd' : Dfr c a.defers w := hd
  obtain ⟨g1, g2, hp, ⟨cs, rfl, hr⟩, q⟩ := (hsat.mono hle).pick hk2
  exact ⟨hd', hn, m', _, hg'.perm hp, c.G.mono hle hG, he.mono hle, ⟨_, g2, rfl, ⟨cs, rfl, hc m' cs hv hr⟩, q⟩, hf'.perm hp⟩
theorem run_freezeIn {Q : Exit → Act → World → Prop} {k : List Code} {T Tb b : Nat} {R : Rep α} {v : Value} {xs : List α} {β' : Type} {S : Rep β} {S' : Rep β'} {y : β} (y' : β') {H1 H2 : List Ent} (hk : Pick H (own T R v xs) H1) (hk2 : Pick H1 (box b Tb S y) H2)
    (hc : ∀ m cs, ((sl R).slot xs).p m v → S.rel m cs y → S'.rel m cs y') (r : Run c Q k Γ (box b Tb S' y' :: H2)) : Run c Q k Γ H := fun a w hst => r a w (hst.freezeIn hk hk2 hc)
theorem cv_here {v : Value} {R : Rep α} {xs : List α} {m : Mem} {cs : List Value} (h : ((sl R).slot xs).p m v) (k : (exv v).rel m cs ()) : (sl R).rel m cs xs := by
  rw [k.1]; exact h
theorem run_freezeBox {Q : Exit → Act → World → Prop} {k : List Code} {T : TypeId} {R : Rep α} {b : Nat} {x : α} (ts : List Nat) (hk : Pick H (box b T R x) H') (ht : ∀ t ∈ ts, Imp Γ t (val (.pointer (some ⟨b, 0, none⟩))))
    (r : Run c Q k (ts.map (fun t => (t, (ptr R).slot (some x))) ++ Γ) H') : Run c Q k Γ H := fun a w hst => r a w (hst.freezeBox ts hk ht)
/-! ## An object, or none -/
def optP (b : Nat) : Option α → Slot
  | none => val (.pointer none)
  | some _ => val (.pointer (some ⟨b, 0, none⟩))
def optB (b T : Nat) (R : Rep α) : Option α → List Ent
  | none => []
  | some x => [box b T R x]
end
end Go.Sl
