import Derived.Test.YtodeiommhponnaaDoorOp11
import Derived.RangeFuncLeaves
set_option linter.unusedSimpArgs false
set_option linter.unusedVariables false
set_option linter.unusedSectionVars false
namespace Go.Sl
/-! ## Range over a function -/
theorem cell_isCells {w : World} {a : Addr} {v : Value} {o : Obj} (h : w.cell? a = some v) (ho : w.heap[a.block]? = some o) : o.isCells = true := by
  unfold World.cell? at h
  rw [ho] at h
  cases o <;> first | rfl | (simp at h)
theorem cell_putObj {w : World} {l : Nat} {o o' : Obj} {a : Addr} {v : Value} (h : w.cell? a = some v) (ho : w.heap[l]? = some o) (hc : o.isCells = false) : (w.putObj l o').cell? a = some v := by
  have hne : a.block ≠ l := fun e => by
    have := cell_isCells h (by rw [e]; exact ho)
    rw [hc] at this; cases this
  have : (w.putObj l o').heap[a.block]? = w.heap[a.block]? := World.putObj_heap_other hne
  unfold World.cell? at h ⊢
  rw [this]; exact h
theorem Good.ne {m : Mem} {hs : Hp} {w : World} (hg : Good m hs w) {l : Nat} {o : Obj} (ho : w.heap[l]? = some o) (hc : o.isCells = false) : l ∉ hs.bs := by
  intro h
  obtain ⟨x, hx, rfl⟩ := List.mem_map.1 h
  have := hg.blk x hx
  rw [ho] at this
  have := Option.some.inj this
  subst this
  cases hc
theorem Good.putObj {m : Mem} {hs : Hp} {w : World} (hg : Good m hs w) {l : Nat} {o o' : Obj} (ho : w.heap[l]? = some o) (hc : o.isCells = false) : Good m hs (w.putObj l o') where
  mem := fun b k v h => cell_putObj (hg.mem b k v h) ho hc
  nodup := hg.nodup
  blk := fun h hh => by
    have hne : h.1 ≠ l := fun e => hg.ne ho hc (by rw [← e]; exact List.mem_map_of_mem (f := (·.1)) hh)
    rw [World.putObj_heap_other hne]; exact hg.blk h hh
  free := hg.free
section
variable {c : Ctx} {full : Array Oper} {l : List Oper} {Γ Γ' : Env} {H H' : List Ent} {K : Act → World → Prop} {d : Tmp} {od : Option Tmp} {ty : TypeId} {pos : String} {aft : Array Edge} {g : Option (Nat × Bool)} {α β : Type}
theorem Frm.round {w2 w3 w5 : World} {m2 m3 m5 : Mem} {b2 b3 b5 : List Nat} {L : Nat} {o0 o1 : Obj} (h1 : Frm w2 w3 m2 m3 b2 b3) (h2 : Frm (w3.putObj L o1) w5 m3 m5 b3 b5) (hl : w2.heap[L]? = some o0) (hb : L ∉ b2) :
    Frm w2 (w5.putObj L o0) m2 m5 b2 b5 := by
  have hlt : L < w2.heap.size := (Array.getElem?_eq_some_iff.1 hl).1
  have hs2 := h2.size
  rw [World.putObj_size] at hs2
  have hs1 := h1.size
  refine ⟨h2.os.trans h1.os, h2.tape.trans h1.tape, h2.output.trans h1.output, by rw [World.putObj_size]; omega, fun b hbl hn => ?_, fun b h => ?_, h1.le.trans h2.le⟩
  · have k1 := h1.old b hbl hn
    have hn3 : b ∉ b3 := fun e => (h1.own b e).elim hn (fun e' => absurd hbl (Nat.not_lt.2 e'))
    have k2 := h2.old b (by rw [World.putObj_size]; omega) hn3
    refine ⟨?_, fun o => (k2.2 o).trans (k1.2 o)⟩
    by_cases e : b = L
    · subst e
      rw [World.putObj_heap_same (by omega), hl]
    · rw [World.putObj_heap_other e, k2.1, World.putObj_heap_other e]; exact k1.1
  · rcases h2.own b h with h | h
    · exact h1.own b h
    · rw [World.putObj_size] at h; exact .inr (by omega)
theorem Frm.behind {w w1 w3 : World} {m m3 : Mem} {b b3 : List Nat} {L : Nat} {o : Obj} (h0 : ∀ k, k < w.heap.size → w1.heap[k]? = w.heap[k]?) (hos : w1.os = w.os) (ht : w1.tape = w.tape) (ho : w1.output = w.output) (hsz : w.heap.size ≤ w1.heap.size) (hL : w.heap.size ≤ L) (h : Frm w1 w3 m m3 b b3) :
    Frm w (w3.putObj L o) m m3 b b3 := by
  have hs := h.size
  refine ⟨h.os.trans hos, h.tape.trans ht, h.output.trans ho, by rw [World.putObj_size]; omega, fun k hk hn => ?_, fun k hk => (h.own k hk).imp id (fun e => by omega), h.le⟩
  have k1 := h.old k (by omega) hn
  exact ⟨by rw [World.putObj_heap_other (by omega), k1.1, h0 k hk], k1.2⟩
end
/-! ## Returns behind such a statement -/
section
variable {c : Ctx} {Γ : Env} {H : List Ent} {a : Act} {w : World} {ι : Type} {ρ : ι → Slot} {ε : ι → List Ent} {fn : Func}
end
end Go.Sl
