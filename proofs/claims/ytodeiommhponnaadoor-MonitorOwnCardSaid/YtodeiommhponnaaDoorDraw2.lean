import Derived.Test.YtodeiommhponnaaDoorDraw
set_option linter.unusedSimpArgs false
set_option linter.unusedVariables false
set_option linter.unusedSectionVars false
namespace Go.Sl
def dstB (N : Nat) (l : List Oper) : Bool := l.all fun o => match o.dst with | some d => Nat.blt d N | none => true
def distB (l : List Oper) : Bool := l.zipIdx.all fun (o, i) => l.zipIdx.all fun (p, j) => Nat.beq i j || match o.dst, p.dst with | some d, some e => !(Nat.beq d e) | _, _ => true
theorem distB_of {l : List Oper} (h : distB l = true) {i j d : Nat} {o p : Oper} (hi : l[i]? = some o) (hj : l[j]? = some p) (ho : o.dst = some d) (hp : p.dst = some d) : i = j := by
  simp only [distB, List.all_eq_true] at h
  have := h (o, i) (by rw [List.mem_zipIdx_iff_getElem?]; exact hi) (p, j) (by rw [List.mem_zipIdx_iff_getElem?]; exact hj)
  have hdd : Nat.beq d d = true := by simp
  simp only [ho, hp, hdd, Bool.not_true, Bool.or_false] at this
  exact Nat.eq_of_beq_eq_true this
section
variable {c : Ctx} {Γ : Env} {H : List Ent} {a : Act} {w : World} {Q : Exit → Act → World → Prop} {l rest : List Oper} {σ : List Slot} {al : Option (Nat × Nat × (Nat → Ent))} {X : Nat → Bool}
def upd (X : Nat → Bool) (i : Nat) : Nat → Bool := fun j => if j = i then true else X j
theorem dinv_step {i : Nat} {o : Oper} {K : Act → World → Prop} (hB : drawB (l ++ rest) l.length = true) (hN : dstB c.N l = true) (hU : al = none ∨ distB l = true) (hR : RJ c (l ++ rest) H 0 l Γ σ al)
    (hi : l[i]? = some o) (hX : X i = false) (he : ∀ j ∈ edges o, X j = true) (hcl : ∀ j p, l[j]? = some p → X j = true → ∀ e ∈ edges p, X e = true)
    (hD : DInv c (l ++ rest) l σ al Γ H X a w) (hK : ∀ a' w', DInv c (l ++ rest) l σ al Γ H (upd X i) a' w' → K a' w') : wpOpIn (fen c.ro) 0 c.P (l ++ rest).toArray Q i K a w := by
  have hlt : i < l.length := (List.getElem?_eq_some_iff.1 hi).1
  have hfull : ∀ {j p}, l[j]? = some p → (l ++ rest)[j]? = some p := fun {j p} h => by
    rw [List.getElem?_append_left (List.getElem?_eq_some_iff.1 h).1]; exact h
  have hfi := hfull hi
  have hop : (l ++ rest).toArray[i]? = some o := by simpa using hfi
  obtain ⟨s, Γi, hs, hlk, hcase⟩ := hR.at i o hi
  obtain ⟨hdf, hn, m, hs2, hg, hG, hcur, hfr, hal⟩ := hD
  -- what is known of a temporary that the operation names
  have hafter : ∀ t ∈ names (l ++ rest) o, ∀ j p, i < j → l[j]? = some p → p.dst = some t → X j = false := by
    intro t ht j p hij hp hd
    cases hXj : X j with
    | false => rfl
    | true =>
      have := (drawB_conf hB hfi (hfull hp) (by omega) hd ht).2 hij
      have := hcl j p hp hXj i this
      rw [hX] at this; cases this
  have hknown : ∀ t ∈ names (l ++ rest) o, cur l σ Γ X l.length t = lk Γi t := by
    intro t ht
    rw [hlk t, cur_notin l.length (by omega : i ≤ l.length), cur_allin i]
    · intro j p hj hp hd
      exact he j ((drawB_conf hB hfi (hfull hp) (by omega) hd ht).1 hj)
    · intro j p h1 h2 hp hd
      by_cases hji : j = i
      · subst hji; exact hX
      · exact hafter t ht j p (by omega) hp hd
  have hopd : OpdOK o Γi m a := by
    intro x hx
    cases x with
    | tmp t =>
      intro s' e
      have ht : t ∈ names (l ++ rest) o := by
        simp only [names, List.mem_append]
        refine .inl (.inr ?_)
        simp only [tmpsOf, List.mem_filterMap]
        exact ⟨.tmp t, by simpa using hx, rfl⟩
      exact hcur t s' (by rw [hknown t ht]; exact e)
    | _ => trivial
  have hdN : ∀ d, o.dst = some d → d < a.tmps.size := by
    intro d hd
    simp only [dstB, List.all_eq_true] at hN
    have := hN o (List.mem_of_getElem? hi)
    rw [hd] at this
    rw [hn]; simpa [Nat.blt_eq] using this
  -- the new knowledge
  have hnew : ∀ {m' : Mem} {v : Value}, Mle m m' → s.p m' v → ∀ t s', cur l σ Γ (upd X i) l.length t = some s' → s'.p m' ((a.put o.dst v).tmps.getD t undef) := by
    intro m' v hle hv t s' e
    by_cases hd : o.dst = some t
    · have ht : t ∈ names (l ++ rest) o := by simp [names, hd]
      rw [cur_notin l.length (by omega : i + 1 ≤ l.length)] at e
      · rw [cur] at e
        simp only [hi, hs, upd, if_true, hd, beq_self_eq_true, Bool.and_self] at e
        cases e
        rw [hd, put_getD_self (hdN t hd)]
        exact hv
      · intro j p h1 h2 hp hdp
        have hji : j ≠ i := by omega
        simp only [upd, if_neg hji]
        exact hafter t ht j p (by omega) hp hdp
    · have e' : cur l σ Γ X l.length t = some s' := by
        rw [← e]
        refine cur_put_other l.length fun j p hj hp hdp => ?_
        by_cases hji : j = i
        · subst hji
          rw [hi] at hp; cases hp
          exact absurd hdp hd
        · simp [upd, hji]
      have hgd : (a.put o.dst v).tmps.getD t undef = a.tmps.getD t undef := by
        cases hdd : o.dst with
        | none => rfl
        | some d => exact put_getD_ne (fun e => hd (by rw [hdd, e]))
      rw [hgd]
      exact s'.mono hle (hcur t s' e')
  -- the allocation writes its temporary alone
  have halloc : ∀ ia d e, al = some (ia, d, e) → ia ≠ i → o.dst ≠ some d := by
    intro ia d e hal2 hia hod
    have hdist := hU.resolve_left (by rw [hal2]; simp)
    have hlen : ia < l.length := by
      have key : ∀ {full : List Oper} {k : Nat} {l : List Oper} {Γ : Env} {σ : List Slot} {al}, RJ c full H k l Γ σ al → ∀ j d e, al = some (j, d, e) → j < k + l.length := by
        intro full k l Γ σ al h
        induction h with
        | nil => intro j d e h; cases h
        | read _ _ ih => intro j d e h; have := ih j d e h; simp only [List.length_cons]; omega
        | alloc => intro j d e h; cases h; simp only [List.length_cons]; omega
      have := key hR ia d e hal2
      omega
    obtain ⟨s3, Γ3, _, _, h3⟩ := hR.at ia l[ia] (List.getElem?_eq_getElem hlen)
    rcases h3 with ⟨_, h3⟩ | ⟨d3, T3, α3, R3, x3, cs3, _, _, hd3, _, _, _, hal3⟩
    · exact absurd hal2 (by simpa using h3 d e)
    · rw [hal2] at hal3
      simp only [Nat.zero_add, Option.some.injEq, Prod.mk.injEq, true_and] at hal3
      exact hia (distB_of hdist (List.getElem?_eq_getElem hlen) hi (by rw [hd3, hal3.1]) hod)
  have hkeepAl : (∀ d e, al ≠ some (i, d, e)) → ∀ {m' : Mem} {v : Value}, Mle m m' → AlSat al H (upd X i) m' hs2 (a.put o.dst v) := by
    intro hne m' v hle
    obtain ⟨E, hsE, hE⟩ := hal
    refine ⟨E, hsE.mono hle, ?_⟩
    rcases hE with ⟨rfl, hE⟩ | ⟨ia, d, e, b, hal2, hx, rfl, hb⟩
    · refine .inl ⟨rfl, fun ia d e h => ?_⟩
      have hia : ia ≠ i := fun h2 => hne d e (by rw [h, h2])
      simp only [upd, if_neg hia]
      exact hE ia d e h
    · have hia : ia ≠ i := fun h2 => hne d e (by rw [hal2, h2])
      refine .inr ⟨ia, d, e, b, hal2, by simp only [upd, if_neg hia]; exact hx, rfl, ?_⟩
      cases hod : o.dst with
      | none => exact hb
      | some d' => rw [put_getD_ne (fun e2 => halloc ia d e hal2 hia (by rw [hod, e2]))]; exact hb
  unfold wpOpIn
  rw [hop]
  simp only []
  have hrun : (∀ d e, al ≠ some (i, d, e)) → PJ c o Γi H s → o.wpIn (fen c.ro) 0 c.P a w K Q := by
    intro hne hpj
    obtain ⟨E, hsE, _⟩ := hal
    refine Upon.wp ((hpj.frame E) m hs2 a w hg hG hsE hopd) ?_
    rintro v w' ⟨m', hg', hv, hf⟩
    refine hK _ _ ⟨by rw [put_defers]; exact hdf.step hg (hf.keepOwn _), by rw [put_size]; exact hn, m', hs2, hg', c.G.mono hf.le hG, hnew hf.le hv, hfr.trans (hf.keepOwn _), hkeepAl hne hf.le⟩
  have hguard : ∀ {yes : Bool}, GuardIs (l ++ rest) o Γi yes → Region.wanted o (yielded (l ++ rest).toArray a.tmps) = yes := by
    rintro yes ⟨j, want, b, t, s', hgd, hj, hl, hb, hy⟩
    have ht : t ∈ names (l ++ rest) o := by simp [names, gTmp, hgd, hj]
    have hv := hb m _ (hcur t s' (by rw [hknown t ht]; exact hl))
    have hlt2 : t < a.tmps.size := by
      rcases Nat.lt_or_ge t a.tmps.size with h | h
      · exact h
      · have : a.tmps.getD t undef = undef := by simp [Array.getD, Nat.not_lt.2 h]
        rw [this] at hv; cases hv
    have hyv : yielded (l ++ rest).toArray a.tmps j = some b := by
      simp only [yielded, List.getElem?_toArray, hj, Option.bind_some, Array.getElem?_eq_getElem hlt2]
      simp only [Array.getD, hlt2, dite_true] at hv
      simp only [Array.getInternal_eq_getElem] at hv
      rw [hv]
    simp only [Region.wanted, hgd, hyv]
    rw [← hy]; cases b <;> cases want <;> rfl
  have hundef : GuardUndef (l ++ rest) o Γi → Region.wanted o (yielded (l ++ rest).toArray a.tmps) = false := by
    rintro ⟨j, want, t, hgd, hj, hl⟩
    have ht : t ∈ names (l ++ rest) o := by simp [names, gTmp, hgd, hj]
    have hv : a.tmps.getD t undef = undef := hcur t _ (by rw [hknown t ht]; exact hl)
    have hyv : yielded (l ++ rest).toArray a.tmps j = none := by
      simp only [yielded, List.getElem?_toArray, hj, Option.bind_some]
      by_cases hlt : t < a.tmps.size
      · simp only [Array.getElem?_eq_getElem hlt]
        simp only [Array.getD, hlt, dite_true] at hv
        simp only [Array.getInternal_eq_getElem] at hv
        rw [hv]; rfl
      · simp [Array.getElem?_eq_none (Nat.not_lt.1 hlt)]
    simp only [Region.wanted, hgd, hyv]; rfl
  rcases hcase with ⟨hok, hne⟩ | ⟨d, T, α, R, x, cs, rfl, hgd, hdd, hoo, hz, hzB, hal3⟩
  · have hne' : ∀ d e, al ≠ some (i, d, e) := fun d e h => hne d e (by rw [h, Nat.zero_add])
    cases hok with
    | plain hgd hpj =>
      have hw : Region.wanted o (yielded (l ++ rest).toArray a.tmps) = true := by simp [Region.wanted, hgd]
      rw [if_pos hw]
      exact hrun hne' hpj
    | yes hgd hpj =>
      rw [if_pos (hguard hgd)]
      exact hrun hne' hpj
    | no hgd =>
      have hw := hguard hgd
      rw [if_neg (by rw [hw]; simp)]
      exact ⟨fun f _ => fen_fn _ f, hK _ _ ⟨by rw [put_defers]; exact hdf, by rw [put_size]; exact hn, m, hs2, hg, hG, hnew (Mle.refl m) rfl, hfr, hkeepAl hne' (Mle.refl m)⟩⟩
    | undef hgd =>
      have hw := hundef hgd
      rw [if_neg (by rw [hw]; simp)]
      exact ⟨fun f _ => fen_fn _ f, hK _ _ ⟨by rw [put_defers]; exact hdf, by rw [put_size]; exact hn, m, hs2, hg, hG, hnew (Mle.refl m) rfl, hfr, hkeepAl hne' (Mle.refl m)⟩⟩
  · have hw : Region.wanted o (yielded (l ++ rest).toArray a.tmps) = true := by simp [Region.wanted, hgd]
    rw [if_pos hw]
    rw [Nat.zero_add] at hal3
    obtain ⟨E, hsE, hE⟩ := hal
    have hE0 : E = [] := by
      rcases hE with ⟨rfl, _⟩ | ⟨ia, d', e', b, hal2, hx, _⟩
      · rfl
      · rw [hal3] at hal2
        simp only [Option.some.injEq, Prod.mk.injEq] at hal2
        rw [← hal2.1, hX] at hx; cases hx
    subst hE0
    obtain ⟨zv, hzv, hzc⟩ := zeroB_run hzB w
    have hrn : (execOp a.eval o).run c.P w = .ok (.value (.pointer (some ⟨w.heap.size, 0, none⟩))) (w.alloc (.cells cs.toArray T)) := by
      simp [execOp, hoo, Instr.alloc, hzv, newVar, newRow, hzc]
    refine (Upon.wp (k := fun v w' => v = .pointer (some ⟨w.heap.size, 0, none⟩) ∧ w' = w.alloc (.cells cs.toArray T)) ?_ ?_)
    · rw [hrn]; exact ⟨rfl, rfl⟩
    · rintro v w' ⟨rfl, rfl⟩
      refine hK _ _ ⟨by rw [put_defers]; exact hdf.step hg (Frm.alloc _ _ _ _), by rw [put_size]; exact hn, m, (w.heap.size, T, cs) :: hs2, hg.newOwn T cs, hG, hnew (Mle.refl m) trivial, hfr.trans (Frm.alloc _ _ _ _), ?_⟩
      refine ⟨[box w.heap.size T R x], ⟨[(w.heap.size, T, cs)], hs2, rfl, ⟨cs, rfl, hz m⟩, hsE⟩, .inr ⟨i, d, _, w.heap.size, hal3, by simp [upd], rfl, ?_⟩⟩
      rw [hdd, put_getD_self (hdN d hdd)]

/-! ### The whole -/
def left (n : Nat) (X : Nat → Bool) : Nat := (List.range n).countP fun i => !X i
theorem left_upd {n i : Nat} {X : Nat → Bool} (hi : i < n) (hX : X i = false) : left n (upd X i) + 1 = left n X := by
  unfold left
  induction n with
  | zero => omega
  | succ n ih =>
    rw [List.range_succ, List.countP_append, List.countP_append]
    simp only [List.countP_cons, List.countP_nil]
    by_cases h : i = n
    · subst h
      have : (List.range i).countP (fun j => !upd X i j) = (List.range i).countP (fun j => !X j) := by
        apply List.countP_congr
        intro j hj
        have : j ≠ i := by have := List.mem_range.1 hj; omega
        simp [upd, this]
      rw [this]
      simp [upd, hX]
    · have ih := ih (by omega)
      have hn : n ≠ i := fun e => h e.symm
      simp only [upd, if_neg hn] at ih ⊢
      omega
theorem left_zero {n : Nat} {X : Nat → Bool} (h : left n X = 0) : ∀ i, i < n → X i = true := by
  intro i hi
  unfold left at h
  rw [List.countP_eq_zero] at h
  have := h i (List.mem_range.2 hi)
  simpa using this
def Xof (listed : Array Bool) : Nat → Bool := fun i => listed.getD i false
theorem Xof_upd {listed : Array Bool} {i : Nat} (hi : i < listed.size) : Xof (listed.setIfInBounds i true) = upd (Xof listed) i := by
  funext j
  simp only [Xof, upd, Array.getD]
  by_cases h : j = i
  · subst h; simp [hi]
  · have h' : i ≠ j := fun e => h e.symm
    simp only [h, if_false, Array.size_setIfInBounds]
    by_cases hj : j < listed.size
    · simp [hj, Array.getElem_setIfInBounds, h']
    · simp [hj]
theorem mem_ready {full : List Oper} {listed : Array Bool} {i : Nat} (hs : listed.size = full.length) : i ∈ Region.ready .any full.toArray listed ↔ ∃ o, full[i]? = some o ∧ Xof listed i = false ∧ ∀ j ∈ edges o, Xof listed j = true := by
  unfold Region.ready
  simp only [List.size_toArray, List.mem_filter, List.mem_range, List.getElem?_toArray, Bool.and_eq_true]
  constructor
  · rintro ⟨hi, h1, h2⟩
    rw [List.getElem?_eq_getElem hi] at h2
    simp only [Option.map_some, Option.getD_some] at h2
    refine ⟨full[i], List.getElem?_eq_getElem hi, ?_, ?_⟩
    · have hi' : i < listed.size := by omega
      simp only [Xof, Array.getD, hi', dite_true] at h1 ⊢
      simpa using h1
    · intro j hj
      simp only [edges, List.mem_map, List.mem_filter] at hj
      obtain ⟨e, ⟨he, hb⟩, rfl⟩ := hj
      rw [Array.all_eq_true_iff_forall_mem] at h2
      have := h2 e (by simpa using he)
      simpa [hb, Xof] using this
  · rintro ⟨o, ho, hX, he⟩
    obtain ⟨hi, rfl⟩ := List.getElem?_eq_some_iff.1 ho
    refine ⟨hi, ?_, ?_⟩
    · have hi' : i < listed.size := by omega
      simp only [Xof, Array.getD, hi', dite_true] at hX ⊢
      simpa using hX
    · rw [ho]
      simp only [Option.map_some, Option.getD_some]
      rw [Array.all_eq_true_iff_forall_mem]
      intro e hem
      by_cases hb : Region.binds .any e = true
      · have := he e.on (by simp only [edges, List.mem_map, List.mem_filter]; exact ⟨e, ⟨by simpa using hem, hb⟩, rfl⟩)
        simp only [Xof] at this
        simp [this]
      · simp [hb]
theorem list_split (full : List Oper) (n : Nat) : full = full.take n ++ full.drop n := (List.take_append_drop n full).symm
theorem draw_main (hm : c.P.follows .mixedOrders = true) (hB : drawB (l ++ rest) l.length = true) (hN : dstB c.N l = true) (hU : al = none ∨ distB l = true) (hR : RJ c (l ++ rest) H 0 l Γ σ al)
    (hend : ∀ a w, DInv c (l ++ rest) l σ al Γ H (fun _ => true) a w → wpListIn (fen c.ro) 0 c.P (l ++ rest).toArray Q rest a w) :
    ∀ (fuel : Nat) (listed : Array Bool) (a : Act) (w : World), listed.size = (l ++ rest).length → left (l ++ rest).length (Xof listed) ≤ fuel →
      (((∀ i, l.length ≤ i → Xof listed i = false) ∧ (∀ j p, l[j]? = some p → Xof listed j = true → ∀ e ∈ edges p, Xof listed e = true) ∧ DInv c (l ++ rest) l σ al Γ H (Xof listed) a w) ∨
        (∃ p, l.length ≤ p ∧ p ≤ (l ++ rest).length ∧ (∀ i, i < (l ++ rest).length → Xof listed i = decide (i < p)) ∧ wpListIn (fen c.ro) 0 c.P (l ++ rest).toArray Q ((l ++ rest).drop p) a w)) →
      wpAnyIn (fen c.ro) 0 c.P .any (l ++ rest).toArray Q fuel listed a w := by
  -- a first part that is done is a second part that has begun
  have conv : ∀ {listed : Array Bool} {a : Act} {w : World}, (∀ i, l.length ≤ i → Xof listed i = false) → DInv c (l ++ rest) l σ al Γ H (Xof listed) a w → (∀ i, i < l.length → Xof listed i = true) →
      ∃ p, l.length ≤ p ∧ p ≤ (l ++ rest).length ∧ (∀ i, i < (l ++ rest).length → Xof listed i = decide (i < p)) ∧ wpListIn (fen c.ro) 0 c.P (l ++ rest).toArray Q ((l ++ rest).drop p) a w := by
    intro listed a w h1 h2 h3
    refine ⟨l.length, Nat.le_refl _, by simp, fun i _ => ?_, ?_⟩
    · by_cases hi : i < l.length
      · simp [hi, h3 i hi]
      · simp [hi, h1 i (by omega)]
    · rw [List.drop_left']
      · refine hend a w ?_
        obtain ⟨hdf, hn, m, hs, hg, hG, hcur, hfr, E, hsE, hE⟩ := h2
        refine ⟨hdf, hn, m, hs, hg, hG, fun t s e => hcur t s ?_, hfr, E, hsE, ?_⟩
        · rw [← e]
          refine cur_put_other l.length fun j o hj _ _ => ?_
          rw [h3 j hj]
        · rcases hE with ⟨rfl, hE⟩ | ⟨ia, d, e, b, hal, hx, hEe, hb⟩
          · refine .inl ⟨rfl, fun ia d e h => ?_⟩
            have hlen : ia < l.length := by
              have key : ∀ {full : List Oper} {k : Nat} {l : List Oper} {Γ : Env} {σ : List Slot} {al}, RJ c full H k l Γ σ al → ∀ j d e, al = some (j, d, e) → j < k + l.length := by
                intro full k l Γ σ al h
                induction h with
                | nil => intro j d e h; cases h
                | read _ _ ih => intro j d e h; have := ih j d e h; simp only [List.length_cons]; omega
                | alloc => intro j d e h; cases h; simp only [List.length_cons]; omega
              have := key hR ia d e h
              omega
            have := hE ia d e h
            rw [h3 ia hlen] at this; cases this
          · exact .inr ⟨ia, d, e, b, hal, rfl, hEe, hb⟩
      · rfl
  intro fuel
  induction fuel with
  | zero =>
    intro listed a w hsz hleft hinv
    have hall := left_zero (Nat.le_zero.1 hleft)
    have hemp : Region.ready .any (l ++ rest).toArray listed = [] := by
      rw [List.eq_nil_iff_forall_not_mem]
      intro i hi
      obtain ⟨o, ho, hX, _⟩ := (mem_ready hsz).1 hi
      rw [hall i (List.getElem?_eq_some_iff.1 ho).1] at hX; cases hX
    refine ⟨hemp, ?_⟩
    obtain ⟨p, hp1, hp2, hp3, hp4⟩ : ∃ p, l.length ≤ p ∧ p ≤ (l ++ rest).length ∧ (∀ i, i < (l ++ rest).length → Xof listed i = decide (i < p)) ∧ wpListIn (fen c.ro) 0 c.P (l ++ rest).toArray Q ((l ++ rest).drop p) a w := by
      rcases hinv with ⟨h1, _, h2⟩ | h
      · exact conv h1 h2 (fun i hi => hall i (by simp; omega))
      · exact h
    have hpe : p = (l ++ rest).length := by
      rcases Nat.lt_or_ge p (l ++ rest).length with h | h
      · have := hp3 p h
        rw [hall p h] at this; simp at this
      · omega
    rw [hpe, List.drop_length] at hp4
    exact hp4
  | succ fuel ih =>
    intro listed a w hsz hleft hinv
    -- nothing is ready: all is done
    have hdone : Region.ready .any (l ++ rest).toArray listed = [] → ∀ i, i < (l ++ rest).length → Xof listed i = true := by
      intro hemp i
      induction i using Nat.strongRecOn with
      | _ i ihi =>
        intro hi
        cases hX : Xof listed i with
        | true => rfl
        | false =>
          have : i ∈ Region.ready .any (l ++ rest).toArray listed := (mem_ready hsz).2 ⟨(l ++ rest)[i], List.getElem?_eq_getElem hi, hX, fun j hj => by
            have hji := drawB_back hB (List.getElem?_eq_getElem hi) j hj
            exact ihi j hji (by omega)⟩
          rw [hemp] at this; cases this
    refine ⟨fun hemp => ?_, fun i hi => ?_⟩
    · have hall := hdone hemp
      obtain ⟨p, hp1, hp2, hp3, hp4⟩ : ∃ p, l.length ≤ p ∧ p ≤ (l ++ rest).length ∧ (∀ i, i < (l ++ rest).length → Xof listed i = decide (i < p)) ∧ wpListIn (fen c.ro) 0 c.P (l ++ rest).toArray Q ((l ++ rest).drop p) a w := by
        rcases hinv with ⟨h1, _, h2⟩ | h
        · exact conv h1 h2 (fun i hi => hall i (by simp; omega))
        · exact h
      have hpe : p = (l ++ rest).length := by
        rcases Nat.lt_or_ge p (l ++ rest).length with h | h
        · have := hp3 p h
          rw [hall p h] at this; simp at this
        · omega
      rw [hpe, List.drop_length] at hp4
      exact hp4
    · obtain ⟨o, ho, hX, hedge⟩ := (mem_ready hsz).1 hi
      have hilt := (List.getElem?_eq_some_iff.1 ho).1
      have hsz' : (listed.setIfInBounds i true).size = (l ++ rest).length := by simpa using hsz
      have hXu := Xof_upd (listed := listed) (i := i) (by omega)
      have hleft' : left (l ++ rest).length (Xof (listed.setIfInBounds i true)) ≤ fuel := by
        rw [hXu]; have := left_upd hilt hX; omega
      -- which part?
      have hB' : (∃ p, l.length ≤ p ∧ p ≤ (l ++ rest).length ∧ (∀ i, i < (l ++ rest).length → Xof listed i = decide (i < p)) ∧ wpListIn (fen c.ro) 0 c.P (l ++ rest).toArray Q ((l ++ rest).drop p) a w) →
          wpOpIn (fen c.ro) 0 c.P (l ++ rest).toArray Q i (wpAnyIn (fen c.ro) 0 c.P .any (l ++ rest).toArray Q fuel (listed.setIfInBounds i true)) a w := by
        rintro ⟨p, hp1, hp2, hp3, hp4⟩
        have hip : ¬ i < p := by
          intro h
          have := hp3 i hilt
          rw [hX] at this; simp [h] at this
        have hpi : p = i := by
          rcases Nat.lt_or_ge p i with h | h
          · have := drawB_last hB ho (by omega) (X := Xof listed) hedge (fun j q hj hXj e he => by
              have hjl := (List.getElem?_eq_some_iff.1 hj).1
              rw [hp3 j hjl] at hXj
              have hjp : j < p := by simpa using hXj
              have hej := drawB_back hB hj e he
              rw [hp3 e (by omega)]; simp; omega) p h
            rw [hp3 p (by omega)] at this
            simp at this
          · omega
        subst hpi
        rw [List.drop_eq_getElem_cons hilt] at hp4
        have hoe : (l ++ rest)[p] = o := (List.getElem?_eq_some_iff.1 ho).2
        rw [hoe] at hp4
        have hop : (l ++ rest).toArray[p]? = some o := by simpa using ho
        have : wpOpIn (fen c.ro) 0 c.P (l ++ rest).toArray Q p (wpListIn (fen c.ro) 0 c.P (l ++ rest).toArray Q ((l ++ rest).drop (p + 1))) a w := by
          unfold wpOpIn
          rw [hop]
          exact hp4
        refine wpOpIn_mono (fun a' w' h' => ?_) this
        refine ih _ a' w' hsz' hleft' (.inr ⟨p + 1, by omega, by omega, fun j hj => ?_, h'⟩)
        rw [hXu]
        by_cases hjp : j = p
        · simp [upd, hjp]
        · simp only [upd, if_neg hjp, hp3 j hj]
          congr 1
          rw [eq_iff_iff]; omega
      rcases hinv with ⟨h1, h2, h3⟩ | h
      · by_cases hil : i < l.length
        · have hol : l[i]? = some o := by rwa [List.getElem?_append_left hil] at ho
          refine dinv_step hB hN hU hR hol hX hedge h2 h3 fun a' w' hD => ?_
          refine ih _ a' w' hsz' hleft' (.inl ⟨fun j hj => ?_, fun j p hp hj e he => ?_, by rw [hXu]; exact hD⟩)
          · rw [hXu]
            have : j ≠ i := by omega
            simp only [upd, if_neg this]
            exact h1 j hj
          · rw [hXu] at hj ⊢
            simp only [upd] at hj ⊢
            split
            · rfl
            · by_cases hji : j = i
              · subst hji
                rw [hol] at hp; cases hp
                exact hedge e he
              · rw [if_neg hji] at hj
                exact h2 j p hp hj e he
        · refine hB' (conv h1 h3 fun j hj => ?_)
          refine drawB_last hB ho (by omega) (X := Xof listed) hedge (fun j' q hj' hXj e he => ?_) j (by omega)
          have hjl : j' < l.length := by
            rcases Nat.lt_or_ge j' l.length with h | h
            · exact h
            · rw [h1 j' h] at hXj; cases hXj
          exact h2 j' q (by rwa [List.getElem?_append_left hjl] at hj') hXj e he
      · exact hB' h
/-- A REGION THAT DRAWS ITS ORDER: its first n operations only read (and one may make a variable); the others come behind all, one behind the other. -/
theorem r_draw {id n : Nat} {L : List Oper} (hst : St c Γ H a w) (hm : c.P.follows .mixedOrders = true) (hB : drawB L n = true) (hn : Nat.ble n L.length = true) (hN : dstB c.N (L.take n) = true) (hR : RJ c L H 0 (L.take n) Γ σ none)
    (k : OpsJ c L.toArray (L.drop n) (envUp Γ (L.take n) σ) H (Q .normal)) : (Code.region id L.toArray true).wpIn (fen c.ro) 0 c.P Q a w := by
  have hlen : (L.take n).length = n := by rw [List.length_take]; have := Nat.ble_eq ▸ hn; omega
  have e := list_split L n
  have main := draw_main (c := c) (Γ := Γ) (H := H) (Q := Q) (l := L.take n) (rest := L.drop n) (σ := σ) (al := none) hm (by rw [← e, hlen]; exact hB) hN (.inl rfl) (by rw [← e]; exact hR)
    (fun a w ⟨hdf, hn, m, hs, hg, hG, hcur, hfr, E, hsE, hE⟩ => by
      rw [← e]
      have hE0 : E = [] := by
        rcases hE with ⟨rfl, _⟩ | ⟨ia, d, e, b, hal, _⟩
        · rfl
        · cases hal
      subst hE0
      refine k a w Q (fun _ _ h => h) ⟨hdf, hn, m, hs, hg, hG, fun t s h => hcur t s ?_, hsE, hfr⟩
      rw [← cur_final Γ _ σ hR.len t]; exact h)
  refine wpIn_region_any hm ?_
  rw [← e] at main
  obtain ⟨hdf, hn', m, hs, hg, hG, he, hsat, hf⟩ := hst
  refine main _ _ a w.drew (by simp) (Nat.le_trans (List.countP_le_length) (by simp)) (.inl ⟨fun i _ => ?_, fun j p _ hj => ?_, hdf.step hg (Frm.drew _ _ _), hn', m, hs, hg.drew, hG, fun t s h => he t s ?_, hf.trans (Frm.drew _ _ _), [], hsat, .inl ⟨rfl, fun _ _ _ h => by cases h⟩⟩)
  · simp only [Xof, Array.getD]; split <;> simp
  · simp only [Xof, Array.getD] at hj; split at hj <;> simp at hj
  · rw [← h]
    have : ∀ k, cur (L.take n) σ Γ (Xof (Array.replicate L.toArray.size false)) k t = lk Γ t := by
      intro k
      rw [cur_notin k (Nat.zero_le k)]
      · rfl
      · intro j o _ _ _ _
        simp only [Xof, Array.getD]; split <;> simp
    rw [this]
end
end Go.Sl
