import Derived.Test.YtheldkljmefbaaaGreatDoorPhd1
set_option linter.unusedSimpArgs false
set_option linter.unusedVariables false
set_option maxRecDepth 20000
/-! Heads: entries; right heads. -/
namespace Go.Sl.Pu
open Go.Sl Go.Sl.M
attribute [local irreducible] w64 val hat n4 be sha hvrf
noncomputable def rightS (s : T_head_Signed) (p : List (BitVec 8)) : Bool := if isHd s.1 then hvrf p (encS s.1) s.2 else false
theorem right_eq (s : T_head_Signed) (p : List (BitVec 8)) (hs : s.2.length ≤ 2000000000) (hp : p.length ≤ 2000000000) : head_Right s p = some (rightS s p) := by
  unfold head_Right rightS
  rw [bind_some' (encode_eq _)]
  by_cases hh : isHd s.1
  · rw [if_pos hh, if_t (by simp), bind_some' (hverify_eq _ _ _ hp (by show (encS s.1).length ≤ _; rw [encS_len]; omega) hs), Option.bind_some, if_pos hh]
  · rw [if_neg hh, if_f (by simp), Option.bind_some, if_neg hh]
theorem headSigns (seed : T_api_Hash) (n : Int) (h : T_rolodexref17_Head) : rolodexlaw17_HeadSigns seed n h = some true := by
  unfold rolodexlaw17_HeadSigns
  have h1 : IsH 1 := Or.inl rfl
  have h3 : IsKind 3 := Or.inr (Or.inr (Or.inl rfl))
  have hKK : KK 1 * KK 1 = 4 := rfl
  obtain ⟨s, hs, hI⟩ := hnew_eq h1 h1 h3 seed
  have hs' : hss_New (1 : Int) (1 : Int) (3 : Int) seed = _ := hs
  rw [bind_some' hs']
  simp only []
  rw [Option.bind_some, show ((s.1, s.2.1, s.2.2.1, s.2.2.2.1, s.2.2.2.2.1, s.2.2.2.2.2) : Sg) = s from rfl]
  have hl := encS_len h
  by_cases hh : isHd h
  · have he := encode_eq h
    rw [if_pos hh] at he
    have her := rencode_eq h
    rw [if_pos hh] at her
    by_cases hn : 0 ≤ n ∧ n < 4
    · obtain ⟨n, rfl⟩ : ∃ m : Nat, n = (m : Int) := ⟨n.toNat, by omega⟩
      have hn' : n < KK 1 * KK 1 := by rw [hKK]; omega
      obtain ⟨s', hs2, hI2⟩ := hsign_eq h1 h1 h3 hI n hn' (encS h) (by omega)
      have hsl := hsig_len (t := 1) (k := 3) h1 seed n hn' (encS h)
      have hsz : sizeN 3 = 2180 := rfl
      have hr := hvrf_right h1 h1 h3 seed n hn' (encS h)
      have hrs : rolodexref06_Sign (1 : Int) (1 : Int) (3 : Int) seed (n : Int) (encS h) = _ := hrsign_eq h1 h1 h3 seed n hn' (encS h) (by omega)
      have hd : head_Sign s (n : Int) h = some (s', (h, hsig 1 1 3 seed n (encS h)), 0) := by
        unfold head_Sign
        rw [bind_some' he, if_f (by simp), show ((s.1, s.2.1, s.2.2.1, s.2.2.2.1, s.2.2.2.2.1, s.2.2.2.2.2) : Sg) = s from rfl, bind_some' hs2, if_f (by simp), Option.bind_some]
      have q1 : (hsig 1 1 3 seed n (encS h)).length ≤ 2000000000 := by omega
      have hright : rightS (h, hsig 1 1 3 seed n (encS h)) (hpub 1 3 seed) = true := by
        unfold rightS
        rw [if_pos hh]
        exact hr
      rw [bind_some' hd, bind_some' awake17, if_f (by decide)]
      simp only []
      rw [Option.bind_some, if_f (by simp), bind_some' her, if_f (by simp)]
      rw [bind_some' hrs, if_t (by simp), bind_some' (same_eq _ _ (by omega)), Option.bind_some, decide_eq_true rfl, if_t rfl, if_f (by simp), if_t (by simp), show ((s'.1, s'.2.1, s'.2.2.1, s'.2.2.2.1, s'.2.2.2.2.1, s'.2.2.2.2.2) : Sg) = s' from rfl, bind_some' (hpublic_eq h1 hI2), bind_some' (right_eq _ _ q1 (by rw [hpub_len]; omega)), hright]
      rfl
    · have hsp := hsign_spent h1 h1 hI n (by rw [hKK]; omega) (encS h)
      have hrs : rolodexref06_Sign (1 : Int) (1 : Int) (3 : Int) seed n (encS h) = _ := hrsign_spent h1 h1 h3 seed n (by rw [hKK]; omega) (encS h)
      have hd : head_Sign s n h = some (s, (zHd, []), 7) := by
        unfold head_Sign
        rw [bind_some' he, if_f (by simp), show ((s.1, s.2.1, s.2.2.1, s.2.2.2.1, s.2.2.2.2.1, s.2.2.2.2.2) : Sg) = s from rfl, bind_some' hsp, if_t (by simp), Option.bind_some]
        rfl
      rw [bind_some' hd, bind_some' awake17, if_f (by decide)]
      simp only []
      rw [Option.bind_some, if_f (by simp), bind_some' her, if_f (by simp)]
      rw [bind_some' hrs, if_t (by simp), bind_some' (same_eq _ _ (by simp)), Option.bind_some, decide_eq_true rfl, if_t rfl, if_t (by simp), Option.bind_some, Option.bind_some]
  · have he := encode_eq h
    rw [if_neg hh] at he
    have her := rencode_eq h
    rw [if_neg hh] at her
    have hd : head_Sign s n h = some (s, (zHd, []), 1) := by
      unfold head_Sign
      rw [bind_some' he, if_t (by simp), Option.bind_some]
      rfl
    rw [bind_some' hd, bind_some' awake17, if_f (by decide)]
    simp only []
    rw [Option.bind_some, if_f (by simp), bind_some' her, if_t (by simp), if_t (by simp), Option.bind_some]
    rfl
end Go.Sl.Pu
