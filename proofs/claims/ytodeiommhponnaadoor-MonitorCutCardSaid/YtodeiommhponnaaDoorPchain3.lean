import Derived.Test.YtodeiommhponnaaDoorPchain2
set_option linter.unusedSimpArgs false
set_option linter.unusedVariables false
set_option linter.unusedSectionVars false
namespace Go.Sl
namespace Pu
open Go.Sl Go.Sl.M
def lastE (l : List Ver) (e : Int) : Int := match l.getLast? with | some v => v.2.1 | none => e
def lastH (label : List (BitVec 8)) (l : List Ver) (h : Hash) : Hash := match l.getLast? with | some v => commit label v | none => h
theorem lastE_cons (v : Ver) (l : List Ver) (e : Int) : lastE (v :: l) e = lastE l v.2.1 := by
  cases l with
  | nil => rfl
  | cons w l => unfold lastE; rw [List.getLast?_cons_cons, List.getLast?_eq_some_getLast (List.cons_ne_nil w l)]
theorem lastH_cons (label : List (BitVec 8)) (v : Ver) (l : List Ver) (h : Hash) : lastH label (v :: l) h = lastH label l (commit label v) := by
  cases l with
  | nil => rfl
  | cons w l => unfold lastH; rw [List.getLast?_cons_cons, List.getLast?_eq_some_getLast (List.cons_ne_nil w l)]
theorem fm_append (label : List (BitVec 8)) (x : Ver) : ∀ (l : List Ver) (e : Int) (h : Hash) (i : Nat), fm label e h i (l ++ [x]) = (fm label e h i l && ok (lastE l e) (lastH label l h) (i + l.length) x)
  | [], e, h, i => by simp [fm, lastE, lastH]
  | v :: l, e, h, i => by
    rw [List.cons_append, fm, fm_append label x l, fm, Bool.and_assoc]
    congr 2
    have : i + 1 + l.length = i + (v :: l).length := by simp; omega
    rw [this, lastE_cons, lastH_cons]
def gver (seed : Hash) (label : List (BitVec 8)) (l : List Ver) (epoch : Int) (value : List (BitVec 8)) : Ver :=
  ((l.length : Int) + 1, epoch, salt seed label ((l.length : Int) + 1), lastH label l hz, value)
/-- What a chain grows to. -/
def grow (seed : Hash) (label : List (BitVec 8)) (l : List Ver) (epoch : Int) (value : List (BitVec 8)) : List Ver × Int :=
  if formed label (l ++ [gver seed label l epoch value]) = true then (l ++ [gver seed label l epoch value], 0) else ([], 1)
theorem formed_snoc (label : List (BitVec 8)) (l : List Ver) (x : Ver) : formed label (l ++ [x]) = (isl label && (fm label 0 hz 0 l && ok (lastE l 0) (lastH label l hz) l.length x)) := by
  unfold formed
  rw [fm_append]
  simp
theorem formed_ne {label : List (BitVec 8)} {l : List Ver} (h : l ≠ []) : formed label l = (isl label && fm label 0 hz 0 l) := by
  unfold formed; simp [h]
section
variable {label : List (BitVec 8)} (hl : label.length ≤ 1000000) (seed : Hash) (l : List Ver) (epoch : Int) (value : List (BitVec 8)) (hn : l.length ≤ 1000000000) (hv : value.length ≤ 1000000)
include hl hn hv
theorem ok_gver : ok (lastE l 0) (lastH label l hz) l.length (gver seed label l epoch value) = (decide (lastE l 0 < epoch) && decide (epoch < 2147483648) && decide (value.length ≤ 64)) := by
  unfold ok gver
  simp
theorem grow_eq (hL : ∀ v ∈ l, v.2.2.2.2.length ≤ 1000000) : chain_Grow seed label l epoch value = some (grow seed label l epoch value) := by
  unfold chain_Grow grow
  rw [bind_some' (is_eq label), orE, Option.bind_some, orE, Option.bind_some, orE, Option.bind_some]
  rw [formed_snoc, ok_gver hl seed l epoch value hn hv]
  by_cases hc : isl label = true ∧ value.length ≤ 64 ∧ 1 ≤ epoch ∧ epoch < 2147483648
  · obtain ⟨c1, c2, c3, c4⟩ := hc
    rw [if_f (by simp [c1]; omega)]
    have hcl : slices_Clone_byte_byte value = some value := by unfold slices_Clone_byte_byte; rw [if_t (by simp [AP]; omega)]; simp
    have hcc : slices_Clone_chain_Version_chain_Version l = some l := by unfold slices_Clone_chain_Version_chain_Version; rw [if_t (by simp [AP]; omega)]; simp
    rw [bind_some' hcl, Option.bind_some]
    by_cases h0 : l = []
    · subst h0
      rw [if_f (by simp), bind_some' (salt_eq hl seed _), Option.bind_some, bind_some' hcc, if_t (by simp [AP])]
      rw [if_pos (by
        have e0 : lastE ([] : List Ver) 0 = 0 := rfl
        have e1 : (0 : Int) < epoch := by omega
        simp [c1, fm, e0, c2, c4, e1])]
      rfl
    · have hp := List.length_pos_iff.2 h0
      have hlast : l.getLast? = some (l.getLast h0) := List.getLast?_eq_some_getLast h0
      have hE : lastE l 0 = (l.getLast h0).2.1 := by unfold lastE; rw [hlast]
      have hH : lastH label l hz = commit label (l.getLast h0) := by unfold lastH; rw [hlast]
      rw [if_t (by simp only [decide_eq_true_eq]; omega), bind_some' (last_at (by omega) h0), bind_some' (formed_eq hl l (by omega)), orE, Option.bind_some, formed_ne h0]
      by_cases hf : fm label 0 hz 0 l = true ∧ (l.getLast h0).2.1 < epoch
      · rw [if_f (by simp [c1, hf.1]; omega), bind_some' (commit_eq hl (hL _ (List.getLast_mem h0))), bind_some' (salt_eq hl seed _), Option.bind_some, bind_some' hcc, if_t (by simp [AP]; omega), if_pos (by simp [c1, c2, c4, hf.1, hE]; omega)]
        unfold gver
        rw [hH, w64_eq (by omega)]
      · rw [if_t (by
          by_cases h1 : fm label 0 hz 0 l = true
          · have : ¬ (l.getLast h0).2.1 < epoch := fun h => hf ⟨h1, h⟩
            simp [h1]; right; omega
          · simp [h1]), if_neg (by
          intro h
          simp only [Bool.and_eq_true, decide_eq_true_eq, hE] at h
          exact hf ⟨h.2.1, h.2.2.1.1⟩)]
  · rw [if_t (by
      by_cases h1 : isl label = true
      · simp [h1]
        have : ¬ (value.length ≤ 64 ∧ 1 ≤ epoch ∧ epoch < 2147483648) := fun h => hc ⟨h1, h⟩
        omega
      · simp [h1]), if_neg ?_]
    intro h
    simp only [Bool.and_eq_true, decide_eq_true_eq] at h
    obtain ⟨h1, h2, ⟨h3, h4⟩, h5⟩ := h
    refine hc ⟨h1, h5, ?_, h4⟩
    have key : ∀ (l : List Ver) (e : Int) (h : Hash) (i : Nat), 0 ≤ e → fm label e h i l = true → 0 ≤ lastE l e := by
      intro l
      induction l with
      | nil => intro e h i h0 _; exact h0
      | cons v l ih =>
        intro e h i h0 hf
        simp only [fm, Bool.and_eq_true] at hf
        have hv := hf.1; unfold ok at hv; simp only [Bool.and_eq_true, decide_eq_true_eq] at hv
        have := ih v.2.1 _ _ (by omega) hf.2
        rw [lastE_cons]; exact this
    have := key l 0 hz 0 (by omega) h2
    omega
theorem rgrow_eq (hL : ∀ v ∈ l, v.2.2.2.2.length ≤ 1000000) : rolodexref14_Grow seed label l epoch value = some (grow seed label l epoch value) := by
  unfold rolodexref14_Grow
  rw [bind_some' (rsalt_eq hl seed _), Option.bind_some]
  have hy : (if decide ((0 : Int) < (l.length : Int)) = true then Option.bind (lget l (w64 ((l.length : Int) - (1 : Int)))) fun x2 => Option.bind (rolodexref14_Commit label x2) fun r2 => some (w64 ((l.length : Int) + (1 : Int)), epoch, salt seed label (w64 ((l.length : Int) + (1 : Int))), r2, value) else some (w64 ((l.length : Int) + (1 : Int)), epoch, salt seed label (w64 ((l.length : Int) + (1 : Int))), (Vector.replicate 32 (0#8)), value)) = some (gver seed label l epoch value) := by
    by_cases h0 : l = []
    · subst h0; rfl
    · have hp := List.length_pos_iff.2 h0
      rw [if_t (by simp only [decide_eq_true_eq]; omega), bind_some' (last_at (by omega) h0), bind_some' (rcommit_eq hl (hL _ (List.getLast_mem h0)))]
      unfold gver lastH
      rw [List.getLast?_eq_some_getLast h0, w64_eq (by omega)]
  rw [bind_some' hy, if_t (by simp [AP]; omega), if_t (by simp [AP]; omega), List.nil_append]
  have hsn : (l ++ [gver seed label l epoch value]).length ≤ 4000000000 := by simp; omega
  have h2 : (if decide ((0 : Int) < (l.length : Int)) = true then Option.bind (rolodexref14_Formed label l) fun r3 => some (!r3) else some false) = some (decide ((0 : Int) < (l.length : Int)) && !formed label l) := and_o fun _ => by rw [bind_some' (rformed_eq hl l (by omega))]
  rw [bind_some' h2, bind_some' (rformed_eq hl _ hsn), orE, Option.bind_some]
  unfold grow
  by_cases hf : formed label (l ++ [gver seed label l epoch value]) = true
  · rw [if_f, if_pos hf]
    rw [hf]
    by_cases h0 : l = []
    · subst h0; simp
    · rw [formed_snoc] at hf
      simp only [Bool.and_eq_true] at hf
      simp [formed_ne h0, hf.1, hf.2.1]
  · rw [if_t (by simp [hf]), if_neg hf]
end
theorem grow_val {seed : Hash} {label : List (BitVec 8)} {l : List Ver} {epoch : Int} {value : List (BitVec 8)} (h : (grow seed label l epoch value).1 ≠ []) : ∀ v ∈ (grow seed label l epoch value).1, v.2.2.2.2.length ≤ 64 := by
  unfold grow at *
  by_cases hf : formed label (l ++ [gver seed label l epoch value]) = true
  · rw [if_pos hf]; exact (formed_val hf).2
  · rw [if_neg hf] at h; exact absurd rfl h
theorem grow_vals {seed : Hash} {label : List (BitVec 8)} {l : List Ver} {epoch : Int} {value : List (BitVec 8)} : ∀ v ∈ (grow seed label l epoch value).1, v.2.2.2.2.length ≤ 64 := by
  intro v hv
  exact grow_val (List.ne_nil_of_mem hv) v hv
theorem grow_len {seed : Hash} {label : List (BitVec 8)} {l : List Ver} {epoch : Int} {value : List (BitVec 8)} : (grow seed label l epoch value).1.length ≤ l.length + 1 := by
  unfold grow; split <;> simp
theorem chainGrows (label : List (BitVec 8)) (l : List Ver) (g : T_rolodexlaw14_Grown) : rolodexlaw14_ChainGrows label l g = some true := by
  unfold rolodexlaw14_ChainGrows
  rw [bind_some' awake14, orE, Option.bind_some]
  obtain ⟨b, hb, hf⟩ := cfew_eq l 20 (by omega)
  have hb' : rolodexref14_Few l 20 = some b := hb
  rw [bind_some' hb', orE, Option.bind_some, orE, Option.bind_some]
  by_cases hc : label.length ≤ 200 ∧ b = true ∧ g.2.2.length ≤ 200
  · obtain ⟨h1, h2, h3⟩ := hc
    have hF := hf h2
    have hl : label.length ≤ 1000000 := by omega
    have hn : l.length ≤ 1000000000 := by have := hF.1; omega
    have hL : ∀ v ∈ l, v.2.2.2.2.length ≤ 1000000 := fun v hv => by have := hF.2 v hv; omega
    rw [if_f (by simp [h2]; omega), bind_some' (from_eq l (by omega)), bind_some' (grow_eq hl _ l _ _ hn (by omega) hL), bind_some' (rgrow_eq hl _ l _ _ hn (by omega) hL), if_t (by simp)]
    have hgl := grow_len (seed := g.1) (label := label) (l := l) (epoch := g.2.1) (value := g.2.2)
    rw [bind_some' (to_eq _ (by omega)), bind_some' (csame_eq _ _ (by omega) (fun v hv => by have := grow_vals v hv; omega)), Option.bind_some, if_t (by simp), bind_some' (to_eq _ (by omega)), bind_some' (csame_eq _ _ (by omega) (fun v hv => by have := hL v hv; omega)), Option.bind_some]
    simp
  · rw [if_t (by
      by_cases h1 : label.length ≤ 200
      · by_cases h2 : b = true
        · have : ¬ g.2.2.length ≤ 200 := fun h => hc ⟨h1, h2, h⟩
          simp [h2]; omega
        · simp [h2]
      · simp; omega), bind_some' awake14]
end Pu
end Go.Sl
