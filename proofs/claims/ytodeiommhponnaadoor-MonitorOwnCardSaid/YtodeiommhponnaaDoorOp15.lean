import Derived.Test.YtodeiommhponnaaDoorOp14
set_option linter.unusedSimpArgs false
set_option linter.unusedVariables false
set_option linter.unusedSectionVars false
namespace Go.Sl
/-! ## An entity whose cells are named; what is so as long as it stays -/
def exE (e : Ent) (h0 : Hp) : Ent := ⟨fun m hs => e.p m hs ∧ hs = h0, fun hm h => ⟨e.mono hm h.1, h.2⟩⟩
def ExactE (e : Ent) : Prop := ∃ h0, ∀ m hs, e.p m hs → hs = h0
theorem exE_exact {e : Ent} {h0 : Hp} : ExactE (exE e h0) := ⟨h0, fun _ _ h => h.2⟩
inductive LU (e : Ent) (Γ : Env) : Env → Prop
  | nil : LU e Γ []
  | cons {t : Nat} {s s0 : Slot} {U : Env} : lk Γ t = some s0 → (∀ m v, s0.p m v → (lnt [e] s).p m v) → LU e Γ U → LU e Γ ((t, s) :: U)
theorem LU.opd {e : Ent} {Γ U : Env} (h : LU e Γ U) {m M : Mem} {a : Act} {h1 : Hp} (hle : Mle m M) (he : e.p M h1) (hh : Held M h1) {t : Nat} (ho : ∀ s, lk Γ t = some s → s.p m (a.tmps.getD t undef)) :
    ∀ s, lk (U ++ Γ) t = some s → s.p M (a.tmps.getD t undef) := by
  induction h with
  | nil => exact fun s e => s.mono hle (ho s e)
  | @cons t' s' s0 U hl hs0 _ ih =>
    intro s e'
    by_cases ht : t' = t
    · subst ht
      rw [List.cons_append, lk_cons_self] at e'
      cases e'
      exact hs0 _ _ (ho _ hl) M h1 hle ⟨h1, [], by simp, he, rfl⟩ hh
    · rw [List.cons_append, lk_cons_ne ht] at e'
      exact ih s e'
theorem extP {m : Mem} {h1 h2 : Hp} {w : World} (hg : Good m (h1 ++ h2) w) : Good (ext m h1) h2 w ∧ Mle m (ext m h1) ∧ Held (ext m h1) h1 := by
  have hn := hg.nodup
  rw [Hp.bs_append, List.nodup_append] at hn
  have hg1 : Good m h1 w := ⟨hg.mem, hn.1, fun x hx => hg.blk x (by simp [hx]), fun x hx => hg.free x (by simp [hx])⟩
  refine ⟨⟨hg1.ext.mem, hn.2.1, fun x hx => hg.blk x (by simp [hx]), fun x hx o => ?_⟩, ext_le hg1, ?_⟩
  · rw [ext_not (fun h => hn.2.2 _ h _ (List.mem_map_of_mem (f := (·.1)) hx) rfl)]
    exact hg.free x (by simp [hx]) o
  · rintro ⟨b, T, cs⟩ hb j v e
    rw [Nat.zero_add, ext_mem hn.1 hb]; exact e
theorem lentP {m M' : Mem} {h1 h2 : Hp} {w w' : World} (hg : Good m (h1 ++ h2) w) (hg' : Good M' h2 w') (hf : Frm w w' (ext m h1) M' [] []) :
    Good (cut M' m h1.bs) (h1 ++ h2) w' ∧ Frm w w' m (cut M' m h1.bs) [] [] ∧ (∀ m3, Mle (cut M' m h1.bs) m3 → Held m3 h1 → Mle M' m3) := by
  obtain ⟨_, hle, _⟩ := extP hg
  have hn := hg.nodup
  rw [Hp.bs_append, List.nodup_append] at hn
  have hlt : ∀ x ∈ h1, x.1 < w.heap.size := fun x hx => hg.ltb (by rw [Hp.bs_append]; exact List.mem_append_left _ (List.mem_map_of_mem (f := (·.1)) hx))
  refine ⟨⟨fun b o v e => ?_, hg.nodup, fun x hx => ?_, fun x hx o => ?_⟩, ⟨hf.os, hf.tape, hf.output, hf.size, fun b hb _ => ⟨(hf.old b hb (by simp)).1, fun o => ?_⟩, fun b hb => (by cases hb), fun b o v e => ?_⟩, fun m3 h3 hh b o v e => ?_⟩
  · unfold cut at e
    split at e
    · rename_i hb
      obtain ⟨x, hx, rfl⟩ := List.mem_map.1 hb
      rw [hg.free x (by simp [hx]) o] at e; cases e
    · exact hg'.mem b o v e
  · rcases List.mem_append.1 hx with h | h
    · rw [(hf.old x.1 (hlt x h) (by simp)).1]; exact hg.blk x hx
    · exact hg'.blk x h
  · rcases List.mem_append.1 hx with h | h
    · simp only [cut, if_pos (show x.1 ∈ h1.bs from List.mem_map_of_mem (f := (·.1)) h)]; exact hg.free x hx o
    · simp only [cut, if_neg (show x.1 ∉ h1.bs from fun h' => hn.2.2 _ h' _ (List.mem_map_of_mem (f := (·.1)) h) rfl)]; exact hg'.free x h o
  · unfold cut
    split
    · rfl
    · rename_i hb'; rw [(hf.old b hb (by simp)).2 o, ext_not hb']
  · unfold cut
    split
    · exact e
    · exact hf.le b o v (hle b o v e)
  · by_cases hb : b ∈ h1.bs
    · obtain ⟨x, hx, rfl⟩ := List.mem_map.1 hb
      have : M' x.1 o = ext m h1 x.1 o := (hf.old x.1 (hlt x hx) (by simp)).2 o
      rw [this, ext_mem (T := x.2.1) (cs := x.2.2) hn.1 hx] at e
      have := hh x hx o v e
      rwa [Nat.zero_add] at this
    · exact h3 b o v (by simp only [cut, if_neg hb]; exact e)
section
variable {c : Ctx} {full : Array Oper} {l : List Oper} {Γ Γ' : Env} {H H' : List Ent} {K : Act → World → Prop} {d : Tmp} {od : Option Tmp} {ty : TypeId} {pos : String} {aft : Array Edge} {g : Option (Nat × Bool)} {α β : Type}
theorem PJ.lift0 {o : Oper} {U : Env} {e : Ent} {s s' : Slot} (hk : Pick H e H') (hU : LU e Γ U) (h : PJ c o (U ++ Γ) H' s)
    (hs : ∀ h1 m2 M' v, s.p M' v → (∃ m0, e.p m0 h1) → (∀ m3, Mle m2 m3 → Held m3 h1 → Mle M' m3) → s'.p m2 v) : PJ c o Γ H s' := by
  intro m hs' a w hg hG hsat ho
  obtain ⟨h1, h2, hp, he, hsat2⟩ := hsat.pick hk
  have hg1 := hg.perm hp
  obtain ⟨hgM, hle, hh⟩ := extP hg1
  refine Upon.mono (h (ext m h1) h2 a w hgM (c.G.mono hle hG) (hsat2.mono hle) (fun x hx => ?_)) ?_
  · cases x with
    | tmp t => exact hU.opd hle (e.mono hle he) hh (ho _ hx)
    | _ => trivial
  · rintro v w' ⟨M', hg2, hv, hf⟩
    obtain ⟨k1, k2, k3⟩ := lentP hg1 hg2 hf
    exact ⟨_, k1.perm hp.symm, hs h1 _ _ _ hv ⟨m, he⟩ k3, k2⟩
theorem PJ.liftF {o : Oper} {U : Env} {e : Ent} {s : Slot} (hk : Pick H e H') (hU : LU e Γ U) (hs : s.flat) (h : PJ c o (U ++ Γ) H' s) : PJ c o Γ H s :=
  PJ.lift0 hk hU h fun h1 m2 M' v hv _ _ => hs _ _ _ hv
theorem j_unlend {e : Ent} {h0 : Hp} (hk : Pick H (exE e h0) H') (k : OpsJ c full l Γ (e :: H') K) : OpsJ c full l Γ H K := by
  intro a w Q hQ hst
  obtain ⟨hd, hn, m, hs, hg, hG, he, hsat, hf⟩ := hst
  obtain ⟨h1, h2, hp, hown, hsat2⟩ := hsat.pick hk
  exact k a w Q hQ ⟨hd, hn, m, h1 ++ h2, hg.perm hp, hG, he, ⟨h1, h2, rfl, hown.1, hsat2⟩, hf.perm hp⟩
/-! ## Fields of cells of an own slice -/
theorem pj_field_own0 {S f off k n : Nat} {x : Operand} {v : Value} (hx : Has Γ x (ownAt v (k * n))) (hf : fldB c.P S f off = true) : PJ c ⟨od, .fieldAddr S x f, ty, pos, aft, g⟩ Γ H (ownAt v (k * n + (0 + off))) := by
  rw [Nat.zero_add]; exact pj_field_own hx hf
theorem pj_index_own2 {T N sz k n o1 : Nat} {x y : Operand} {v : Value} {i : Int} {s : Slot} (hx : Has Γ x (ownAt v (k * n + o1))) (hy : Has Γ y s) (hs : IsInt s i) (h0 : 0 ≤ i) (h1 : i < (N : Int)) (hT : arrB c.P T N sz = true) :
    PJ c ⟨od, .indexAddr T x y, ty, pos, aft, g⟩ Γ H (ownAt v (k * n + (o1 + i.toNat * sz))) :=
  pj_of fun m hs2 a w hg _ _ ho => by
    obtain ⟨b, n', cap, hv, e⟩ := hx m a (ho x (by simp [Op.operands]))
    obtain ⟨kk, ek⟩ := hs m _ (hy m a (ho y (by simp [Op.operands])))
    refine ⟨_, by simp only [execOp, e, ek, Sem.run_bind, run_indexAt_arr hT b (k * n + o1) kk h0 h1]; rfl, b, n', cap, hv, by rw [Nat.add_assoc]⟩
theorem pj_load_own1 {T T0 off : Nat} {x : Operand} {v : Value} (R : Rep α) {S : Rep β} {xs : List α} {y : α} {z : β} {get : α → β} {set : α → β → α} (i : Int) (hx : Has Γ x (ownAt v (i.toNat * R.n + off))) (hk : Pick H (own T0 R v xs) H') (h : lget xs i = some y) (hp : Path R off S get set)
    (hT : tyB c.P T S.ag S.n = true) (e : get y = z) : PJ c ⟨od, .load T x, ty, pos, aft, g⟩ Γ H (S.slot z) := by
  obtain ⟨h0, h1, rfl⟩ := lget_some h
  subst e
  exact pj_load_own hx hk h1 hp hT
theorem j_store_own1 {T T0 off : Nat} {x y : Operand} {v : Value} (R : Rep α) {S : Rep β} {xs : List α} {z : β} {q r : α} {get : α → β} {set : α → β → α} (i : Int) (hx : Has Γ x (ownAt v (i.toNat * R.n + off))) (hy : Has Γ y (S.slot z)) (hk : Pick H (own T0 R v xs) H') (h : lget xs i = some q)
    (hp : Path R off S get set) (hT : szB c.P T S.n = true) (e : set q z = r)
    (k : OpsJ c full l Γ (own T0 R v (xs.set i.toNat r) :: H') K) : OpsJ c full (⟨none, .store T x y, ty, pos, aft, none⟩ :: l) Γ H K := by
  obtain ⟨h0, h1, rfl⟩ := lget_some h
  subst e
  exact j_store_own hx hy hk h1 hp hT k
end
end Go.Sl
