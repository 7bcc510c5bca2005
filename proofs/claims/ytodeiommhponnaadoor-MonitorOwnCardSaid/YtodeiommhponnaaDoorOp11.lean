import Derived.Test.YtodeiommhponnaaDoorOp10
set_option linter.unusedSimpArgs false
set_option linter.unusedVariables false
set_option linter.unusedSectionVars false
namespace Go.Sl
/-! ## A variable of the call's own that a callee only reads: its very cells stay -/
def exr {α : Type} (R : Rep α) (cs : List Value) : Rep α where
  n := R.n
  ag := R.ag
  rel := fun m ds x => ds = cs ∧ R.rel m ds x
  mono := fun hm ⟨e, h⟩ => ⟨e, R.mono hm h⟩
  len := fun ⟨_, h⟩ => R.len h
  cell := fun ⟨_, h⟩ => R.cell h
  one := R.one
inductive XW : List Ent → List Ent → Prop
  | refl {H : List Ent} : XW H H
  | ex {α : Type} {b : Nat} {T : TypeId} {R : Rep α} {cs : List Value} {x : α} {H H' : List Ent} : XW H H' → XW (box b T (exr R cs) x :: H) (box b T R x :: H')
  | keep {e : Ent} {H H' : List Ent} : XW H H' → XW (e :: H) (e :: H')
theorem XW.sat {H H' : List Ent} (h : XW H H') : ∀ {m : Mem} {hs : Hp}, Sat H m hs → Sat H' m hs := by
  induction h with
  | refl => exact fun h => h
  | ex _ ih => rintro m hs ⟨h1, h2, e, ⟨cs', e', h⟩, q⟩; exact ⟨h1, h2, e, ⟨cs', e', h.2⟩, ih q⟩
  | keep _ ih => rintro m hs ⟨h1, h2, e, p, q⟩; exact ⟨h1, h2, e, p, ih q⟩
section
variable {c : Ctx} {Γ : Env} {H H' : List Ent} {od : Option Tmp} {ty : TypeId} {pos : String} {aft : Array Edge} {g : Option (Nat × Bool)} {α β : Type}
theorem PJ.xw {o : Oper} {s : Slot} (h : XW H H') (k : PJ c o Γ H' s) : PJ c o Γ H s := fun m hs a w hg hG hsat ho => k m hs a w hg hG (h.sat hsat) ho
theorem pj_callR {f : FuncId} {args : List Operand} {ats : Array TypeId} {A : List Slot} {s : Slot} {ι : Type} {b : Nat} {T : TypeId} {R : Rep α} {x : α} (hA : HasL Γ args A) (hk : Pick H (box b T R x) H') (hf : callB c.P f = true)
    (hC : ∀ cs, Ctr c.P c.G f A [box b T (exr R cs) x] (fun _ : ι => s) (fun _ => [box b T (exr R cs) x])) : PJ c ⟨od, .call { callee := .value (.func f), args := args.toArray, argTypes := ats }, ty, pos, aft, g⟩ Γ H s := by
  intro m hs a w hg hG hsat ho
  rw [run_call hf a.eval (.func f) (has_func (Γ := Γ) m a trivial)]
  have hall := hA.all (m := m) (a := a) (fun y hy => ho y (by simp [Op.operands, Call.operands, hy]))
  obtain ⟨cs, hmem, hr⟩ := Sat.box (w := w) hsat hk
  have hg0 : Good m [(b, T, cs)] w := ⟨hg.mem, by simp [Hp.bs], (fun h hh => by rw [List.mem_singleton.1 hh]; exact hg.blk _ hmem), (fun h hh => by rw [List.mem_singleton.1 hh]; exact hg.free _ hmem)⟩
  refine (hC cs m w (args.map a.eval) [(b, T, cs)] hg0 hG hall ⟨[(b, T, cs)], [], rfl, ⟨cs, rfl, rfl, hr⟩, rfl⟩).mono ?_
  rintro e w' ⟨v, m', hs', i, rfl, hg', hv, ⟨h1, h2, rfl, ⟨cs', rfl, rfl, hr'⟩, rfl⟩, hf'⟩
  have hb' : w'.heap[b]? = w.heap[b]? := by
    rw [hg.blk _ hmem, hg'.blk (b, T, cs') (by simp)]
  have hbm : ∀ o, m' b o = m b o := fun o => by
    rw [hg.free _ hmem o, hg'.free (b, T, cs') (by simp) o]
  have hold : ∀ b', b' < w.heap.size → w'.heap[b']? = w.heap[b']? ∧ ∀ o, m' b' o = m b' o := by
    intro b' hlt
    by_cases e : b' = b
    · subst e; exact ⟨hb', hbm⟩
    · exact hf'.old b' hlt (by simpa [Hp.bs] using e)
  refine ⟨v, rfl, m', ?_, hv, ⟨hf'.os, hf'.tape, hf'.output, hf'.size, fun b' hlt _ => hold b' hlt, (fun b hb => by cases hb), hf'.le⟩⟩
  refine ⟨hg'.mem, hg.nodup, fun x hx => ?_, fun x hx o => ?_⟩
  · have hlt := hg.ltb (List.mem_map_of_mem (f := (·.1)) hx)
    rw [(hold x.1 hlt).1]
    exact hg.blk x hx
  · have hlt := hg.ltb (List.mem_map_of_mem (f := (·.1)) hx)
    rw [(hold x.1 hlt).2 o]
    exact hg.free x hx o
end
/-- An outcome of its own, beside what was lent, is frozen. -/
theorem Ctr.frozeR {α β : Type} {P : Program} {G : GP} {f : FuncId} {A : List Slot} {b : Nat} {T T' : TypeId} {R : Rep α} {R' : Rep β} {x : α} {xs : List β} (h : ∀ cs, Ctr P G f A [box b T (exr R cs) x] (fun v : Value => ov v) (fun v => [box b T (exr R cs) x, own T' R' v xs])) :
    ∀ cs, Ctr P G f A [box b T (exr R cs) x] (fun _ : Unit => (sl R').slot xs) (fun _ => [box b T (exr R cs) x]) := by
  intro cs m w vs hs hg hG hA hsat
  refine (h cs m w vs hs hg hG hA hsat).mono ?_
  rintro e w' ⟨v, m', hs', i, rfl, hg', hv, ⟨h1, h2, rfl, hb, h3, h4, rfl, ho, h4e⟩, hf'⟩
  cases h4e
  rw [List.append_nil] at hg' hf'
  have hp : (h1 ++ h3).Perm (h3 ++ h1) := List.perm_append_comm
  obtain ⟨m2, hle, hg2, hv2, hf2, _⟩ := own.froze ho (hg'.perm hp) (hf'.perm hp)
  have : v = i := (ov_p.1 hv).1
  subst this
  exact ⟨v, m2, h1, (), rfl, hg2, hv2, ⟨h1, [], by simp, Ent.mono _ hle hb, rfl⟩, hf2⟩
end Go.Sl
