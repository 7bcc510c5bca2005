import Derived.Test.YtodeiommhponnaaDoorOp9
import Derived.Laws.StructEq
import Derived.MapKept
set_option linter.unusedSimpArgs false
set_option linter.unusedVariables false
set_option linter.unusedSectionVars false
namespace Go.Sl
section
variable {c : Ctx} {full : Array Oper} {l : List Oper} {Γ Γ' : Env} {H H' : List Ent} {K : Act → World → Prop} {Q : Exit → Act → World → Prop} {k : List Code} {α β : Type}
theorem run_drawL {id n : Nat} {L : List Oper} {Ls : List Line} {σ : List Slot} (hm : c.P.follows .mixedOrders = true) (hB : drawB L n = true) (hn : Nat.ble n L.length = true) (hN : dstB c.N (L.take n) = true) (hU : distB (L.take n) = true)
    (hL : linesB (L.take n) Ls = true) (hR : RL c L H Ls 0 (L.take n) Γ σ)
    (h : FinOK (fun V E => OpsJ c L.toArray (L.drop n) (V ++ envUp Γ (L.take n) σ) (E ++ H) (wpAll c.ro c.P Q k)) Ls [] []) : Run c Q (.region id L.toArray true :: k) Γ ((Ls.map (·.ini)).flatten ++ H) :=
  fun a w hst => r_drawL hst hm hB hn hN hU hL hR h
theorem dst0 {κ : Type} {o : Option Nat} : ∀ (i : κ) (d' : Nat) (s' : Slot), lk ([] : Env) d' = some s' → o = some d' := fun _ _ _ e => by cases e
theorem slotNo {κ : Type} {V2 : κ → Env} {s : Slot} : ∀ (i : κ) (m : Mem) (a : Act), EnvOK (V2 i) m a → ∀ d, (none : Option Nat) = some d → s.p m (a.tmps.getD d undef) := fun _ _ _ _ _ e => by cases e
/-- A variable, made one that stays. -/
theorem j_freezeTo {T : TypeId} {R : Rep α} {b t : Nat} {x : α} (hk : Pick H (box b T R x) H') (ht : Imp Γ t (val (.pointer (some ⟨b, 0, none⟩))))
    (k : OpsJ c full l ((t, ptrTo R x) :: Γ) H' K) : OpsJ c full l Γ H K := by
  intro a w Q hQ hst
  have h := hst.freezeBox [t] hk (fun u hu => by rw [List.mem_singleton.1 hu]; exact ht)
  obtain ⟨hd, hn, m, hs, hg, hG, he, hsat, hf⟩ := h
  refine k a w Q hQ ⟨hd, hn, m, hs, hg, hG, ?_, hsat, hf⟩
  have he' : EnvOK ((t, (ptr R).slot (some x)) :: Γ) m a := he
  intro u s e
  by_cases hu : t = u
  · subst hu
    rw [lk_cons_self] at e; cases e
    obtain ⟨b', o, ds, e1, hr, hat⟩ := he' t _ (lk_cons_self _ _ _)
    simp only [List.cons.injEq, and_true] at e1
    exact ⟨b', o, ds, e1, hr, hat⟩
  · rw [lk_cons_ne hu] at e
    exact he' u s (by rw [lk_cons_ne hu]; exact e)
/-! ## Strings -/
def str : Rep (List (BitVec 8)) where
  n := 1
  ag := false
  rel := fun _ cs x => ∃ s : ByteArray, cs = [.string s] ∧ s.data.toList.map UInt8.toBitVec = x
  mono := fun _ h => h
  len := fun ⟨s, e, _⟩ => by rw [e]; rfl
  cell := fun ⟨s, e, _⟩ v hv => by rw [e] at hv; simp at hv; subst hv; rfl
  one := fun _ => rfl
theorem bytes_inj {a b : ByteArray} (h : a.data.toList.map UInt8.toBitVec = b.data.toList.map UInt8.toBitVec) : a = b := by
  have : a.data.toList = b.data.toList := by
    refine List.map_inj_right (f := UInt8.toBitVec) (fun x y e => UInt8.toBitVec_inj.1 e) |>.1 h
  have h2 : a.data = b.data := Array.toList_inj.1 this
  cases a; cases b; simp_all
theorem rowC_u8 {m : Mem} : ∀ {xs : List (BitVec 8)} {cs : List Value}, RowC u8 m cs xs → cs = xs.map fun x => Value.int .u8 (x.toNat : Int)
  | [], cs, h => by simpa [RowC] using h
  | x :: xs, cs, ⟨c1, cs', e, h1, h2⟩ => by
    have h1' : c1 = [Value.int .u8 (x.toNat : Int)] := h1
    rw [e, h1', rowC_u8 h2]; rfl
/-- 'string(b)' -/
theorem pj_str {src dst e : TypeId} {x : Operand} {H : List Ent} {xs : List (BitVec 8)} {od : Option Tmp} {ty : TypeId} {pos : String} {aft : Array Edge} {g : Option (Nat × Bool)} (hs : c.P.underlying src = some (.slice e)) (he : c.P.underlying e = some (.int .u8)) (hd : c.P.underlying dst = some .string)
    (hx : Has Γ x ((sl u8).slot xs)) : PJ c ⟨od, .convert src dst x, ty, pos, aft, g⟩ Γ H (str.slot xs) :=
  pj_of fun m hs2 a w hg _ _ ho => by
    obtain ⟨a0, cap, e0, hc, hrow⟩ := hx m a (ho x (by simp [Op.operands]))
    simp only [List.cons.injEq, and_true] at e0
    rcases hrow with rfl | ⟨b, o, row, rfl, hr, hat⟩
    · refine ⟨.string ByteArray.empty, ?_, ByteArray.empty, rfl, rfl⟩
      have h0 : (convert src dst (.slice a0 0 cap)).run c.P w = .ok (.string ByteArray.empty) w := by
        rw [run_convert_bytes_string w src dst e _ _ _ hs he hd]
        cases a0 with
        | none => rfl
        | some a1 =>
          rw [run_bytesToString w a1 0 cap [] (run_loadCells_list (P := c.P) w a1 [] (fun j v hj => by simp at hj))]
          rfl
      have e1 : a.eval x = .slice a0 0 cap := e0
      simp only [execOp, e1, Sem.run_bind, h0, Result.andThen_ok, Sem.run_pure]
    · have hrow := rowC_u8 hr
      have hxs := run_convert_bytes_arg (P := c.P) w src e hs he b o xs.length cap (xs.map fun x => (x.toNat : Int)) (by simp) (fun i hi => by
        have := hg.mem b (o + i) _ (hat i (.int .u8 (xs[i].toNat : Int)) (by rw [hrow]; simp [hi]))
        rw [this]
        simp [List.getD, hi]) dst hd
      refine ⟨.string (strOfNums (xs.map fun x => (x.toNat : Int))), ?_, _, rfl, ?_⟩
      · simp only [execOp, e0, Sem.run_bind, hxs, Result.andThen_ok, Sem.run_pure]
      · simp only [strOfNums, List.map_map]
        refine (List.map_congr_left (g := id) fun x _ => ?_).trans (List.map_id _)
        apply BitVec.eq_of_toNat_eq
        simp
theorem str_eval {x : Operand} {p : List (BitVec 8)} {m : Mem} {a : Act} (hx : Has Γ x (str.slot p)) (ho : Opd Γ m a x) : ∃ s : ByteArray, a.eval x = .string s ∧ s.data.toList.map UInt8.toBitVec = p := by
  obtain ⟨s, e, h⟩ := hx m a ho
  simp only [List.cons.injEq, and_true] at e
  exact ⟨s, e, h⟩
theorem run_eql_str {P : Program} {t : TypeId} (ht : P.underlying t = some .string) (a b : ByteArray) (w : World) : (binOp .eql t (.string a) (.string b)).run P w = .ok (.bool (a == b)) w := by
  simp only [binOp, Op.equal, Op.maxDepth, Sem.run_bind, Op.equalIn, run_underlying ht, Result.andThen_ok, Op.stringOp, Sem.run_pure, beq_toListBytes]
theorem pj_streql {t yt : TypeId} {x y : Operand} {H : List Ent} {p q : List (BitVec 8)} {od : Option Tmp} {ty : TypeId} {pos : String} {aft : Array Edge} {g : Option (Nat × Bool)} (ht : c.P.underlying t = some .string)
    (hx : Has Γ x (str.slot p)) (hy : Has Γ y (str.slot q)) : PJ c ⟨od, .binOp .eql t x y yt, ty, pos, aft, g⟩ Γ H (bl.slot (decide (p = q))) :=
  pj_of fun m hs a w _ _ _ ho => by
    obtain ⟨s1, e1, h1⟩ := str_eval hx (ho x (by simp [Op.operands]))
    obtain ⟨s2, e2, h2⟩ := str_eval hy (ho y (by simp [Op.operands]))
    refine ⟨.bool (s1 == s2), by simp only [execOp, e1, e2, Sem.run_bind, run_eql_str ht, Result.andThen_ok, Sem.run_pure]; rfl, bl_p.2 ?_⟩
    congr 1
    rw [Bool.eq_iff_iff]
    simp only [beq_iff_eq, decide_eq_true_eq]
    rw [MapKept.bytes_beq]
    constructor
    · rintro rfl; rw [← h1, ← h2]
    · intro e; subst e; exact bytes_inj (h1.trans h2.symm)
end
end Go.Sl
