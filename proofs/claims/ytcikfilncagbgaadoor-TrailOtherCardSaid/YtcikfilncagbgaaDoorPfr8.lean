import Derived.Test.YtcikfilncagbgaaDoorPfr7
set_option linter.unusedSimpArgs false
set_option linter.unusedVariables false
set_option maxRecDepth 20000
/-! The laws of the frontier: parts and growth. -/
namespace Go.Sl.Pu
open Go.Sl Go.Sl.M Go.Sl.Fr
attribute [local irreducible] sha nd w64 p2 hsh segs
def rg (s t : Nat) (l : List T_api_Hash) : T_frontier_Range := ((s : Int), (t : Int), l)
theorem ofP {s t : Nat} {l : List T_api_Hash} (h : s + l.length = t) (ht : t ≤ 2147483647) : frontier_Of (s : Int) l = some (rg s t (hsh s l), (0 : Int)) := by
  subst h; exact of_eq' l s ht
theorem joinP {s t u : Nat} {l m : List T_api_Hash} (h : s + l.length = t) (h2 : t + m.length = u) (hu : u ≤ 2147483647) : joinS (rg s t (hsh s l)) (rg t u (hsh t m)) = (rg s u (hsh s (l ++ m)), 0) := by
  subst h h2
  have := join_of s l m hu
  unfold rg
  rw [this, List.length_append, Nat.add_assoc]
theorem w64_add2 (n m : Nat) (h : n + m ≤ 2147483647) : w64 ((n : Int) + (m : Int)) = ((n + m : Nat) : Int) := by rw [w64_id (by omega) (by omega)]; rfl
theorem modP (x n i : Nat) (hi : i ≤ n) (hn : n ≤ 1000000) : ∃ j, j < n - i + 1 ∧ w64 (w64 ((n : Int) - (i : Int)) + 1) ≠ 0 ∧ Int.tmod (x : Int) (w64 (w64 ((n : Int) - (i : Int)) + 1)) = (j : Int) := by
  have w2 : w64 (w64 ((n : Int) - (i : Int)) + 1) = ((n - i + 1 : Nat) : Int) := by
    rw [w64_id (n := (n : Int) - (i : Int)) (by omega) (by omega), w64_id (by omega) (by omega)]; omega
  rw [w2]
  exact ⟨x % (n - i + 1), Nat.mod_lt _ (Nat.succ_pos _), by exact Int.ofNat_ne_zero.2 (Nat.succ_ne_zero _), (Int.ofNat_tmod _ _).symm⟩
theorem frontierParts (f : BitVec 16) (l : List T_api_Hash) (cut : Vector (BitVec 8) 2) : rolodexlaw15_FrontierParts f l cut = some true := by
  unfold rolodexlaw15_FrontierParts
  rw [bind_some' awake15, if_f (by decide), Option.bind_some]
  by_cases hb : 60 < l.length
  · rw [if_t (by rw [decide_eq_true_eq]; omega), bind_some' awake15]
  · rw [if_f (by rw [decide_eq_true_eq]; omega), bind_some' (vget_at (i := (0 : Int)) (k := 0) rfl (by decide))]
    obtain ⟨i, hi1, ei⟩ := modP cut[0].toNat l.length 0 (by omega) (by omega)
    rw [Nat.sub_zero] at hi1
    have z1 := ei.1
    have z2 := ei.2
    simp only [Int.ofNat_zero, Int.sub_zero] at z1 z2
    rw [w64_id (n := (l.length : Int)) (by omega) (by omega)] at z1 z2
    rw [if_t z1, z2, Option.bind_some, bind_some' (vget_at (i := (1 : Int)) (k := 1) rfl (by decide))]
    clear z1 z2 ei
    obtain ⟨j, hj1, ej⟩ := modP cut[1].toNat l.length i (by omega) (by omega)
    rw [if_t ej.1, ej.2]
    clear ej
    have w3 : w64 ((i : Int) + (j : Int)) = ((i + j : Nat) : Int) := by rw [w64_id (by omega) (by omega)]; omega
    rw [w3, Option.bind_some]
    clear w3
    generalize hfn : f.toNat = fn
    have hf : fn < 65536 := hfn ▸ f.isLt
    clear hfn
    obtain ⟨A, hA⟩ : ∃ A, A = l.take i := ⟨_, rfl⟩
    obtain ⟨B, hB⟩ : ∃ B, B = (l.take (i + j)).drop i := ⟨_, rfl⟩
    obtain ⟨C, hC⟩ : ∃ C, C = l.drop (i + j) := ⟨_, rfl⟩
    have lA : A.length = i := by rw [hA, List.length_take]; omega
    have lB : B.length = j := by rw [hB, List.length_drop, List.length_take]; omega
    have lC : C.length = l.length - (i + j) := by rw [hC, List.length_drop]
    have hl : l = (A ++ B) ++ C := by
      have : A ++ B = l.take (i + j) := by
        rw [hA, hB]
        have h1 : l.take i = (l.take (i + j)).take i := by rw [List.take_take, Nat.min_eq_left (by omega)]
        rw [h1, List.take_append_drop]
      rw [this, hC, List.take_append_drop]
    have q1 : i ≤ i + j := by omega
    have q2 : i + j ≤ l.length := by omega
    have q3 : fn + l.length ≤ 2147483647 := by omega
    have q4 : i ≤ l.length := by omega
    have q5 : fn + i ≤ 2147483647 := by omega
    have q6 : fn + (i + j) ≤ 2147483647 := by omega
    have q7 : fn + A.length = fn + i := by omega
    have q8 : fn + i + B.length = fn + (i + j) := by omega
    have q9 : fn + (i + j) + C.length = fn + l.length := by omega
    have q10 : fn + (A ++ B).length = fn + (i + j) := by rw [List.length_append]; omega
    have q11 : fn + i + (B ++ C).length = fn + l.length := by rw [List.length_append]; omega
    have hlen := hsh_le fn l
    have q12 : (hsh fn l).length ≤ 4294967296 := by omega
    have v1 : w64 ((fn : Int) + (i : Int)) = ((fn + i : Nat) : Int) := w64_add2 _ _ q5
    have v2 : w64 ((fn : Int) + ((i + j : Nat) : Int)) = ((fn + (i + j) : Nat) : Int) := w64_add2 _ _ q6
    rw [bind_some' (ofP (t := fn + l.length) rfl q3), bind_some' (lslice_at (lo := (0 : Int)) (a := 0) (b := i) rfl rfl (Nat.zero_le _) q4), List.drop_zero, ← hA, bind_some' (ofP q7 q5),
      bind_some' (lslice_at (a := i) (b := i + j) rfl rfl q1 q2), ← hB, v1, bind_some' (ofP q8 q6),
      bind_some' (lslice_at (a := i + j) (b := l.length) rfl rfl q2 (Nat.le_refl _)), List.take_length, ← hC, v2, bind_some' (ofP q9 q3)]
    simp only []
    clear v1 v2
    rw [bind_some' (join_eq _ _), joinP q7 q8 q6]
    simp only []
    rw [bind_some' (join_eq _ _), joinP q10 q9 q3, ← hl]
    rw [bind_some' (join_eq _ _), joinP q8 q9 q3]
    simp only []
    rw [bind_some' (join_eq _ _), joinP q7 q11 q3, ← List.append_assoc, ← hl]
    have hr : rolodexref15_Ranges (rg fn (fn + l.length) (hsh fn l)) (rg fn (fn + l.length) (hsh fn l)) = some true := by
      rw [ranges_eq _ _ q12, decide_eq_true rfl]
    simp only [rolodexlaw15_to]
    simp [hr]
theorem hsh_nil (a : Nat) : hsh a [] = [] := by unfold hsh; rfl
theorem hsh_one (a : Nat) (x : T_api_Hash) : hsh a [x] = [x] := by unfold hsh; rfl
theorem rootP (l : List T_api_Hash) (h : l.length ≤ 2147483647) : rootS (rg 0 l.length (hsh 0 l)) = (mth l, 0) := root_of l h
theorem frontierGrows (l : List T_api_Hash) : rolodexlaw15_FrontierGrows l = some true := by
  unfold rolodexlaw15_FrontierGrows
  rw [bind_some' awake15, if_f (by decide), Option.bind_some]
  by_cases hb : 40 < l.length
  · rw [if_t (by rw [decide_eq_true_eq]; omega), bind_some' awake15]
  · rw [if_f (by rw [decide_eq_true_eq]; omega)]
    obtain ⟨o, ho, hq⟩ := loopO_inv (f := fun (s : Int × T_frontier_Range) => rolodexlaw15_FrontierGrows_L1 l s.1 s.2) (fun s => ∃ i, i ≤ l.length ∧ s = ((i : Int), rg 0 i (hsh 0 (l.take i)))) (fun s => l.length - s.1.toNat) (fun o => o = .inl ((l.length : Int), rg 0 l.length (hsh 0 l))) (by
      rintro s ⟨i, hi, rfl⟩
      by_cases hl : i < l.length
      · refine .inl ⟨(((i + 1 : Nat) : Int), rg 0 (i + 1) (hsh 0 (l.take (i + 1)))), ?_, ⟨i + 1, by omega, rfl⟩, ?_⟩
        · simp only [rolodexlaw15_FrontierGrows_L1]
          have e1 : (l.take (i + 1)).drop i = [l[i]] := by
            rw [List.take_succ_eq_append_getElem hl, List.drop_append_of_le_length (by rw [List.length_take]; omega), List.drop_eq_nil_of_le (by rw [List.length_take]; omega)]; rfl
          have e2 : l.take i ++ [l[i]] = l.take (i + 1) := (List.take_succ_eq_append_getElem hl).symm
          have e3 : (l.take i).length = i := by rw [List.length_take]; omega
          have hlen := hsh_le 0 (l.take i)
          have w1 : w64 ((i : Int) + 1) = ((i + 1 : Nat) : Int) := w64_p1 _ (by omega)
          rw [if_t (by rw [decide_eq_true_eq]; omega), w1, bind_some' (lslice_at (a := i) (b := i + 1) rfl rfl (by omega) (by omega)), e1, bind_some' (ofP (t := i + 1) (by simp) (by omega)), if_t (ap_ok (by show _ + (hsh 0 (l.take i)).length ≤ _; simp; omega))]
          simp only []
          rw [bind_some' (join_eq _ _), joinP (by rw [e3]; omega) (by simp) (by omega), e2, if_f (by simp), Option.bind_some, if_f (by simp), bind_some' (hsame_eq _ _ (by show ([] ++ hsh 0 (l.take i)).length ≤ _; simp; omega)), Option.bind_some, if_f (by simp)]
          simp only []
          have hr := rootP (l.take (i + 1)) (by rw [List.length_take]; omega)
          have e4 : (l.take (i + 1)).length = i + 1 := by rw [List.length_take]; omega
          rw [e4] at hr
          have hlen2 := hsh_le 0 (l.take (i + 1))
          rw [bind_some' (root_eq _ (by show (hsh 0 (l.take (i + 1))).length ≤ _; omega)), hr, if_f (by simp), bind_some' (lslice_at (lo := (0 : Int)) (a := 0) (b := i + 1) rfl rfl (by omega) (by omega)), List.drop_zero, bind_some' (rlist_eq _ (by omega)), Option.bind_some, if_f (by simp)]
        · simp only [Int.toNat_natCast]; omega
      · have : i = l.length := by omega
        subst this
        refine .inr (.inl ⟨_, by
          simp only [rolodexlaw15_FrontierGrows_L1]
          rw [if_f (by rw [decide_eq_true_eq]; omega)], ?_⟩)
        rw [List.take_length]) FU ((0 : Int), (0, 0, ([] : List T_api_Hash))) ⟨0, by omega, by
          rw [List.take_zero, hsh_nil]; rfl⟩ (by
          have := fu_lt (n := l.length) (by omega)
          simp only []; omega)
    rw [bind_some' ho, hq]
    simp [rg]
end Go.Sl.Pu
