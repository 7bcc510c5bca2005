import Derived.Test.YtodeiommhponnaaDoorPmon2
set_option linter.unusedSimpArgs false
set_option linter.unusedVariables false
set_option linter.unusedSectionVars false
namespace Go.Sl
namespace Pu
open Go.Sl Go.Sl.M
theorem upto_allE {E : Int} : ∀ {c : List Ver}, (∀ v ∈ c, v.2.1 ≤ E) → upto c E = c
  | [], _ => rfl
  | v :: c, h => by
    have ih := upto_allE (c := c) (fun u hu => h u (by simp [hu]))
    unfold upto at ih ⊢
    rw [List.takeWhile_cons, if_pos (by simpa using h v (by simp)), ih]
theorem own_L1 (x a : List Ver) (h : a.length ≤ x.length) (hn : a.length ≤ 1000000) : ∃ s, loopS (fun (s : Int × List Ver × List Ver) => rolodexlaw23_MonitorOwn_L1 s.1 s.2.1 s.2.2) FU ((0 : Int), x, a) = some s ∧ s.2.2.length = a.length := by
  refine loopS_inv (fun (s : Int × List Ver × List Ver) => ∃ i : Nat, s.1 = (i : Int) ∧ i ≤ a.length ∧ s.2.1.length = x.length ∧ s.2.2.length = a.length) (fun (s : Int × List Ver × List Ver) => a.length - s.1.toNat) (fun (s : Int × List Ver × List Ver) => s.2.2.length = a.length) ?_ FU _ ⟨0, rfl, by omega, rfl, rfl⟩ ?_
  · rintro ⟨i', x', a'⟩ ⟨i, h1, h2, h3, h4⟩
    dsimp only at h1 h3 h4 ⊢
    subst h1
    simp only [rolodexlaw23_MonitorOwn_L1]
    by_cases hi : i < a.length
    · left
      rw [if_t (by simp; omega), bind_some' (lget_at rfl (show i < a'.length by omega)), Option.bind_some, bind_some' (lget_at rfl (show i < x'.length by omega)), bind_some' (lget_at rfl (show i < x'.length by omega)), Option.bind_some, w64_eq (by omega)]
      exact ⟨_, rfl, ⟨i + 1, by simp, by omega, by simpa using h3, by simpa using h4⟩, by dsimp only; omega⟩
    · right
      rw [if_f (by simp; omega)]
      exact ⟨_, rfl, h4⟩
  · exact Nat.lt_of_le_of_lt (Nat.sub_le _ _) (fu_lt (by omega))
theorem own_L2 (b : List Ver) (hn : b.length ≤ 1000000) : ∃ s, loopS (fun (s : Int × List Ver) => rolodexlaw23_MonitorOwn_L2 s.1 s.2) FU ((0 : Int), b) = some s ∧ True := by
  refine loopS_inv (fun (s : Int × List Ver) => ∃ i : Nat, s.1 = (i : Int) ∧ i ≤ b.length ∧ s.2.length = b.length) (fun (s : Int × List Ver) => b.length - s.1.toNat) (fun _ => True) ?_ FU _ ⟨0, rfl, by omega, rfl⟩ ?_
  · rintro ⟨i', b'⟩ ⟨i, h1, h2, h3⟩
    dsimp only at h1 h3 ⊢
    subst h1
    simp only [rolodexlaw23_MonitorOwn_L2]
    by_cases hi : i < b.length
    · left
      rw [if_t (by simp; omega), bind_some' (lget_at rfl (show i < b'.length by omega)), Option.bind_some, w64_eq (by omega)]
      exact ⟨_, rfl, ⟨i + 1, by simp, by omega, by simpa using h3⟩, by dsimp only; omega⟩
    · right
      rw [if_f (by simp; omega)]
      exact ⟨_, rfl, trivial⟩
  · exact Nat.lt_of_le_of_lt (Nat.sub_le _ _) (fu_lt (by omega))
theorem monitorOwn (label : List (BitVec 8)) (c : List Ver) : rolodexlaw23_MonitorOwn label c = some true := by
  unfold rolodexlaw23_MonitorOwn
  have hnil : monitor_Monitor_Look_nil (label, (1 : Int), (0, 0, Vector.replicate 32 0#8, Vector.replicate 32 0#8), ([] : List T_chain_Version)) = some ([], 1) := rfl
  rw [Option.bind_some, bind_some' hnil, bind_some' awake23, orE, Option.bind_some]
  obtain ⟨b, hb, hbf⟩ := cfew_eq c 15 (by omega)
  have hb' : rolodexref14_Few c 15 = some b := hb
  rw [bind_some' hb', orE, Option.bind_some]
  by_cases hc : label.length ≤ 100 ∧ b = true
  · obtain ⟨h1, h2⟩ := hc
    have hF := hbf h2
    have hcl := hF.1
    have hl : label.length ≤ 1000000 := by omega
    have hL : ∀ v ∈ c, v.2.2.2.2.length ≤ 1000000 := fun v hv => by have := hF.2 v hv; omega
    have hfalse : ((!true || decide ((100 : Int) < (label.length : Int))) || !b) = false := by
      simp [h2]; omega
    rw [hfalse, bind_some' (rformed_eq hl c (by omega)), orE, Option.bind_some]
    by_cases hf : formed label c = true
    · rw [if_f (by simp [hf]), bind_some' (new_eq label hl), bind_some' (from_eq _ (by omega)), Option.bind_some]
      have he : ∀ v ∈ c, v.2.1 ≤ 2147483647 := fun v hv => by
        have hne : c ≠ [] := fun h => by rw [h] at hv; cases hv
        rw [formed_ne hne] at hf
        simp only [Bool.and_eq_true] at hf
        have := (fm_ep label c 0 hz 0 hf.2 v hv).2.2
        omega
      have hlk := look_eq (label, 0, upto c 0) label 2147483647 (upto c 2147483647) hl hl (by rw [upto_allE he]; omega) (by rw [upto_allE he]; exact hL) (0, 0, Vector.replicate 32 0#8, Vector.replicate 32 0#8)
      rw [look_cut hf (by omega) (by omega), upto_allE he, upto_zero hf] at hlk
      have hlk' : monitor_Monitor_Look (label, 0, []) (label, 2147483647, (0, 0, Vector.replicate 32 0#8, Vector.replicate 32 0#8), c) = some ((label, 2147483647, c), c, 0) := hlk
      rw [bind_some' hlk']
      obtain ⟨s1, hs1, hs1l⟩ := own_L1 c c (Nat.le_refl _) (by omega)
      obtain ⟨s2, hs2, _⟩ := own_L2 c (by omega)
      have hsn : monitor_Monitor_Seen (label, 2147483647, c) = some c := seen_eq (label, 2147483647, c) (show c.length ≤ 1000000000 by omega) hL
      rw [bind_some' hs1, bind_some' hsn, bind_some' hs2]
      dsimp only
      rw [hs1l, andE, Option.bind_some]
      rw [if_t (by simp), bind_some' hsn, bind_some' (to_eq _ (by omega)), bind_some' (csame_eq _ _ (by omega) (fun v hv => by have := hL v hv; omega))]
      simp
    · rw [if_t (by simp [hf]), bind_some' awake23]
      rfl
  · have htrue : ((!true || decide ((100 : Int) < (label.length : Int))) || !b) = true := by
      by_cases h1 : label.length ≤ 100
      · have : b ≠ true := fun h => hc ⟨h1, h⟩
        simp [this]
      · simp; omega
    rw [htrue, if_t (c := true = true) rfl, Option.bind_some, if_t (c := true = true) rfl, bind_some' awake23]
    rfl
end Pu
end Go.Sl
