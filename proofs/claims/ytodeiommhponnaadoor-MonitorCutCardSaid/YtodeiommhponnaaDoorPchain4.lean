import Derived.Test.YtodeiommhponnaaDoorPchain3
set_option linter.unusedSimpArgs false
set_option linter.unusedVariables false
set_option linter.unusedSectionVars false
namespace Go.Sl
namespace Pu
open Go.Sl Go.Sl.M
theorem ok_iff {e : Int} {h : Hash} {i : Nat} {v : Ver} : ok e h i v = true ↔ v.1 = (i : Int) + 1 ∧ e < v.2.1 ∧ v.2.1 < 2147483648 ∧ v.2.2.2.1 = h ∧ v.2.2.2.2.length ≤ 64 := by
  unfold ok
  simp only [Bool.and_eq_true, decide_eq_true_eq, and_assoc]
theorem fm_le (label : List (BitVec 8)) : ∀ (l : List Ver) (e : Int) (h : Hash) (i : Nat), fm label e h i l = true → e ≤ lastE l e
  | [], _, _, _, _ => Int.le_refl _
  | v :: l, e, h, i, hf => by
    simp only [fm, Bool.and_eq_true, ok_iff] at hf
    have := fm_le label l _ _ _ hf.2
    rw [lastE_cons]; omega
theorem fm_ep (label : List (BitVec 8)) : ∀ (l : List Ver) (e : Int) (h : Hash) (i : Nat), fm label e h i l = true → ∀ v ∈ l, e < v.2.1 ∧ v.2.1 ≤ lastE l e ∧ v.2.1 < 2147483648
  | [], _, _, _, _, v, hv => by cases hv
  | x :: l, e, h, i, hf, v, hv => by
    simp only [fm, Bool.and_eq_true, ok_iff] at hf
    rw [lastE_cons]
    rcases List.mem_cons.1 hv with rfl | hv
    · have := fm_le label l _ _ _ hf.2
      omega
    · have := fm_ep label l _ _ _ hf.2 v hv
      omega
theorem upto_all {l : List Ver} {e : Int} (h : ∀ v ∈ l, v.2.1 ≤ e) : upto l e = l := by
  unfold upto
  rw [← List.append_nil l, List.takeWhile_append_of_pos (fun v hv => by simpa using h v hv)]; simp
theorem upto_snoc {l : List Ver} {x : Ver} {e : Int} (h : ∀ v ∈ l, v.2.1 ≤ e) (hx : e < x.2.1) : upto (l ++ [x]) e = l := by
  unfold upto
  rw [List.takeWhile_append_of_pos (fun v hv => by simpa using h v hv)]
  have : List.takeWhile (fun v : Ver => decide (v.2.1 ≤ e)) [x] = [] := by
    rw [List.takeWhile_cons, if_neg (by simp; omega)]
  rw [this, List.append_nil]
theorem chainBuilds (label : List (BitVec 8)) (l : List T_rolodexlaw14_Grown) (g : T_rolodexlaw14_Grown) : rolodexlaw14_ChainBuilds label l g = some true := by
  unfold rolodexlaw14_ChainBuilds
  rw [bind_some' awake14, orE, Option.bind_some, orE, Option.bind_some]
  by_cases hc : label.length ≤ 200 ∧ l.length ≤ 15
  · obtain ⟨h1, h2⟩ := hc
    have hl : label.length ≤ 1000000 := by omega
    rw [if_f (by simp; omega)]
    obtain ⟨o, ho, hq⟩ := loopO_inv (f := fun (s : (List Ver) × Int) => rolodexlaw14_ChainBuilds_L1 l g label s.1 s.2)
      (fun s => ∃ i : Nat, s.2 = (i : Int) ∧ i ≤ l.length ∧ s.1.length ≤ i ∧ (s.1 = [] ∨ formed label s.1 = true)) (fun s => l.length - s.2.toNat) (fun o => match o with | .inl _ => True | .inr b => b = true) (by
      rintro ⟨c, j⟩ ⟨i, rfl, hi, hci, hcf⟩
      simp only at hci hcf
      simp only [rolodexlaw14_ChainBuilds_L1]
      by_cases hlt : i < l.length
      · rw [if_t (by simp; omega), bind_some' (lget_at rfl hlt)]
        by_cases hv : l[i].2.2.length ≤ 200
        · rw [if_f (by simp; omega), bind_some' (lget_at rfl hlt), bind_some' (lget_at rfl hlt)]
          have hcv : ∀ v ∈ c, v.2.2.2.2.length ≤ 1000000 := by
            intro v hv
            rcases hcf with rfl | hf
            · cases hv
            · have := (formed_val hf).2 v hv; omega
          rw [bind_some' (grow_eq hl g.1 c _ _ (by omega) (by omega) hcv)]
          by_cases hf : formed label (c ++ [gver g.1 label c l[i].2.1 l[i].2.2]) = true
          · have hg : grow g.1 label c l[i].2.1 l[i].2.2 = (c ++ [gver g.1 label c l[i].2.1 l[i].2.2], 0) := by unfold grow; rw [if_pos hf]
            rw [hg]
            generalize hx : gver g.1 label c l[i].2.1 l[i].2.2 = x at hf
            dsimp only
            have hx1 : x.2.1 = l[i].2.1 := by rw [← hx]; rfl
            have hx2 : x.2.2.2.2 = l[i].2.2 := by rw [← hx]; rfl
            have hne : c ++ [x] ≠ [] := by simp
            have hlen : (c ++ [x]).length = c.length + 1 := by simp
            have hlast : (c ++ [x]).getLast hne = x := by simp
            have hff := hf
            rw [formed_snoc] at hff
            simp only [Bool.and_eq_true, ok_iff] at hff
            have hep := fm_ep label c 0 hz 0 hff.2.1
            have hE := hff.2.2.2.1
            have hch : check label (c ++ [x]) (commit label x) = true := by
              unfold check; rw [hf, List.getLast?_eq_some_getLast hne, hlast]; simp
            have hw : w64 (x.2.1 - 1) = x.2.1 - 1 := w64_eq (by have := fm_le label c 0 hz 0 hff.2.1; omega)
            rw [if_f (by simp), bind_some' (last_at (by omega) hne), hlast, bind_some' (formed_eq hl _ (by omega)), hf, if_f (by simp), bind_some' (commit_eq hl (by omega)), bind_some' (check_eq hl _ _ (by omega)), hch, Option.bind_some, if_f (by simp), Option.bind_some, w64_eq (n := (c.length : Int) + 1) (by omega)]
            rw [if_f (by simp), bind_some' (lget_at rfl hlt), Option.bind_some]
            rw [if_f (by simp [hx1]), bind_some' (lget_at rfl hlt), bind_some' (same_eq _ _ (by omega)), Option.bind_some, if_f (by simp [hx2])]
            rw [hw, bind_some' (upto_eq _ _ (by omega)), upto_snoc (fun v hv => by have := hep v hv; omega) (by omega), bind_some' (to_eq c (by omega)), bind_some' (to_eq c (by omega)), bind_some' (csame_eq _ _ (by omega) (fun v hv => by have := hcv v hv; omega))]
            rw [if_f (by simp), bind_some' (upto_eq _ _ (by omega)), upto_all (fun v hv => by
              rcases List.mem_append.1 hv with hv | hv
              · have := hep v hv; omega
              · have : v = x := by simpa using hv
                rw [this]; omega), Option.bind_some, if_f (by simp), w64_eq (by omega)]
            refine .inl ⟨_, rfl, ⟨i + 1, by simp, by omega, by show (c ++ [x]).length ≤ i + 1; omega, .inr hf⟩, by simp; omega⟩
          · have hg : grow g.1 label c l[i].2.1 l[i].2.2 = ([], 1) := by unfold grow; rw [if_neg hf]
            rw [hg, if_t (by simp), if_f (by simp), Option.bind_some, if_f (by simp), w64_eq (by omega)]
            refine .inl ⟨_, rfl, ⟨i + 1, by simp, by omega, by simp; omega, hcf⟩, by simp; omega⟩
        · rw [if_t (by simp; omega)]
          exact .inr (.inr ⟨_, rfl, rfl⟩)
      · rw [if_f (by simp; omega)]
        exact .inr (.inl ⟨_, rfl, trivial⟩)) FU ([], 0) ⟨0, rfl, by omega, by simp, .inl rfl⟩ (fu_lt (by simp; omega))
    rw [bind_some' ho]
    cases o with
    | inl s => rfl
    | inr b => rw [show b = true from hq]
  · rw [if_t (by simp; omega), bind_some' awake14]
/-! ## Two chains of one commitment -/
theorem be_inj (x y : BitVec 32) (hxy : be x 4 = be y 4) : x = y := by
  have g : ∀ j, j < 4 → (x >>> (8 * (4 - 1 - j))).setWidth 8 = (y >>> (8 * (4 - 1 - j))).setWidth 8 := by
    intro j hj
    rw [← gl_be x 4 j hj, ← gl_be y 4 j hj, hxy]
  have g0 := congrArg BitVec.toNat (g 0 (by omega))
  have g1 := congrArg BitVec.toNat (g 1 (by omega))
  have g2 := congrArg BitVec.toNat (g 2 (by omega))
  have g3 := congrArg BitVec.toNat (g 3 (by omega))
  simp only [BitVec.toNat_setWidth, BitVec.toNat_ushiftRight, Nat.shiftRight_eq_div_pow] at g0 g1 g2 g3
  apply BitVec.eq_of_toNat_eq
  have := x.isLt
  have := y.isLt
  simp at g0 g1 g2 g3
  omega
theorem four_inj {n m : Int} (h : four n = four m) (h1 : 0 ≤ n) (h2 : n < 4294967296) (h3 : 0 ≤ m) (h4 : m < 4294967296) : n = m := by
  have := congrArg BitVec.toNat (be_inj _ _ h)
  rw [BitVec.toNat_ofInt, BitVec.toNat_ofInt] at this
  have e2 : ((2 ^ 32 : Nat) : Int) = 4294967296 := by decide
  rw [e2] at this
  omega
theorem ctext_inj {label : List (BitVec 8)} {x y : Ver} (hl : label.length ≤ 1000000) (hx : x.2.2.2.2.length ≤ 64) (hy : y.2.2.2.2.length ≤ 64) (x1 : 0 ≤ x.1 ∧ x.1 < 4294967296) (y1 : 0 ≤ y.1 ∧ y.1 < 4294967296)
    (x2 : 0 ≤ x.2.1 ∧ x.2.1 < 4294967296) (y2 : 0 ≤ y.2.1 ∧ y.2.1 < 4294967296) (h : ctext label x = ctext label y) : x = y := by
  unfold ctext text at h
  have h' := List.cons.inj h
  have hs : ∀ v : Ver, v.2.2.2.2.length ≤ 64 → ∀ z ∈ cparts label v, z.length < 4294967296 := by
    intro v hv z hz
    simp only [cparts, List.mem_cons, List.not_mem_nil, or_false] at hz
    rcases hz with rfl | rfl | rfl | rfl | rfl | rfl
    · omega
    · rw [four_len]; omega
    · rw [four_len]; omega
    · simp
    · simp
    · omega
  have h2 := body_inj _ _ (hs x hx) (hs y hy) h'.2
  simp only [cparts, List.cons.injEq, and_true, true_and] at h2
  obtain ⟨a1, a2, a3, a4, a5⟩ := h2
  obtain ⟨n, e, s, b, v⟩ := x
  obtain ⟨n', e', s', b', v'⟩ := y
  simp only at a1 a2 a3 a4 a5 x1 x2 y1 y2
  rw [four_inj a1 x1.1 x1.2 y1.1 y1.2, four_inj a2 x2.1 x2.2 y2.1 y2.2, Vector.toList_inj.1 a3, Vector.toList_inj.1 a4, a5]
def Clashes (A B : List (List (BitVec 8))) : Prop := ∃ x ∈ A, ∃ y ∈ B, x ≠ y ∧ sha x = sha y
theorem chain_sound (label : List (BitVec 8)) (hl : label.length ≤ 1000000) : ∀ (n : Nat) (a b : List Ver), a.length = n → a.length ≤ 1000 → b.length ≤ 1000 → a ≠ [] → b ≠ [] → fm label 0 hz 0 a = true → fm label 0 hz 0 b = true → lastH label a hz = lastH label b hz →
    a = b ∨ Clashes (a.map (ctext label)) (b.map (ctext label)) := by
  intro n
  induction n with
  | zero => intro a b hn _ _ h0; exact absurd (List.length_eq_zero_iff.1 hn) h0
  | succ n ih =>
    intro a b hn han hbn ha0 hb0 ha hb hh
    obtain ⟨a', x, rfl⟩ : ∃ a' x, a = a' ++ [x] := ⟨a.dropLast, a.getLast ha0, (List.dropLast_concat_getLast ha0).symm⟩
    obtain ⟨b', y, rfl⟩ : ∃ b' y, b = b' ++ [y] := ⟨b.dropLast, b.getLast hb0, (List.dropLast_concat_getLast hb0).symm⟩
    have ea : lastH label (a' ++ [x]) hz = commit label x := by simp [lastH]
    have eb : lastH label (b' ++ [y]) hz = commit label y := by simp [lastH]
    rw [ea, eb] at hh
    by_cases ht : ctext label x = ctext label y
    · rw [fm_append] at ha hb
      simp only [Bool.and_eq_true, ok_iff, Nat.zero_add] at ha hb
      simp only [List.length_append, List.length_cons, List.length_nil] at hn han hbn
      have la := fm_le label a' 0 hz 0 ha.1
      have lb := fm_le label b' 0 hz 0 hb.1
      have hxy : x = y := ctext_inj hl ha.2.2.2.2.2 hb.2.2.2.2.2 ⟨by omega, by omega⟩ ⟨by omega, by omega⟩ ⟨by omega, by omega⟩ ⟨by omega, by omega⟩ ht
      subst hxy
      have hlen : a'.length = b'.length := by have := ha.2.1; have := hb.2.1; omega
      by_cases h0 : a' = []
      · subst h0
        have : b' = [] := List.length_eq_zero_iff.1 (by simpa using hlen.symm)
        subst this
        exact .inl rfl
      · have h0' : b' ≠ [] := fun e => h0 (List.length_eq_zero_iff.1 (by rw [hlen, e]; rfl))
        rcases ih a' b' (by omega) (by omega) (by omega) h0 h0' ha.1 hb.1 (by rw [← ha.2.2.2.2.1, ← hb.2.2.2.2.1]) with rfl | ⟨u, hu, w, hw, h1, h2⟩
        · exact .inl rfl
        · exact .inr ⟨u, by simp only [List.map_append]; exact List.mem_append.2 (.inl hu), w, by simp only [List.map_append]; exact List.mem_append.2 (.inl hw), h1, h2⟩
    · exact .inr ⟨ctext label x, by simp, ctext label y, by simp, ht, hh⟩
theorem texts_eq {label : List (BitVec 8)} (hl : label.length ≤ 1000000) (l : List Ver) (hn : l.length ≤ 4000000000) (hL : ∀ v ∈ l, v.2.2.2.2.length ≤ 1000000) : rolodexref14_Texts label l = some (l.map (ctext label)) := by
  unfold rolodexref14_Texts
  have h1 := mapscan (f := fun (s : Int × List (List (BitVec 8))) => rolodexref14_Texts_L1 l label s.1 s.2) l (ctext label) (by omega) (fun i hi acc ha => by
    simp only [rolodexref14_Texts_L1]
    rw [if_t (by simp; omega), bind_some' (lget_at rfl hi), bind_some' (rctext_eq hl (hL _ (List.getElem_mem hi))), if_t (by simp [AP]; omega), w64_eq (by omega)]) (fun acc => by
    simp only [rolodexref14_Texts_L1]
    rw [if_f (by simp)])
  rw [bind_some' h1]
/-- Some text of the one and some of the other, not the same, of one hash. -/
theorem rclash12_true (A B : List (List (BitVec 8))) (hA : A.length ≤ 1000000) (hB : B.length ≤ 1000000) (hAl : ∀ x ∈ A, x.length ≤ 3000000000) (hBl : ∀ x ∈ B, x.length ≤ 3000000000) (h : Clashes A B) : rolodexref12_Clash A B = some true := by
  unfold rolodexref12_Clash
  have h2 : ∀ i (hi : i < A.length), loopO (fun (s : Int) => rolodexref12_Clash_L2 B A (i : Int) s) FU 0 = some (if B.all (fun y => !(!decide (A[i] = y) && decide (sha A[i] = sha y))) = true then .inl (B.length : Int) else .inr true) := by
    intro i hi
    have h1 := loopO_run0 (f := fun (s : Int) => rolodexref12_Clash_L2 B A (i : Int) s) B (fun j (_ : Unit) => (j : Int)) (fun j _ y => if (!(!decide (A[i] = y) && decide (sha A[i] = sha y))) = true then .inl () else .inr true) (fun _ _ => True) () (by omega) trivial (fun j s hj _ => by
      simp only [rolodexref12_Clash_L2]
      rw [if_t (by simp; omega), bind_some' (lget_at rfl hi), bind_some' (lget_at rfl hj), bind_some' (same_eq _ _ (by have := hAl _ (List.getElem_mem hi); omega))]
      rw [and_o (d := decide (sha A[i] = sha B[j])) (fun _ => by rw [bind_some' (lget_at rfl hi), bind_some' (sumr_eq _ (by have := hAl _ (List.getElem_mem hi); omega)), bind_some' (lget_at rfl hj), bind_some' (sumr_eq _ (by have := hBl _ (List.getElem_mem hj); omega))]), Option.bind_some, w64_eq (by omega)]
      by_cases e : (!decide (A[i] = B[j]) && decide (sha A[i] = sha B[j])) = true
      · rw [if_t e, if_neg (by rw [e]; decide)]
      · rw [if_f e, if_pos (by rw [Bool.eq_false_iff.2 e]; rfl)]; rfl) (fun _ _ _ _ _ _ => trivial) (fun s _ => by
      simp only [rolodexref12_Clash_L2]
      rw [if_f (by simp)])
    have key : ∀ (l : List (List (BitVec 8))) (j : Nat), runL (fun j (_ : Unit) y => if (!(!decide (A[i] = y) && decide (sha A[i] = sha y))) = true then .inl () else .inr true) j () l = (if l.all (fun y => !(!decide (A[i] = y) && decide (sha A[i] = sha y))) = true then .inl () else .inr true : Unit ⊕ Bool) := by
      intro l
      induction l with
      | nil => intro j; rfl
      | cons y l ih =>
        intro j
        rw [runL]
        by_cases e : (!(!decide (A[i] = y) && decide (sha A[i] = sha y))) = true
        · rw [if_pos e]; show runL _ (j + 1) () _ = _; rw [ih, List.all_cons, e, Bool.true_and]
        · rw [if_neg e, if_neg (by rw [List.all_cons]; simp only [Bool.and_eq_true]; exact fun h => e h.1)]
    have h1' : loopO (fun (s : Int) => rolodexref12_Clash_L2 B A (i : Int) s) FU 0 = _ := h1
    rw [h1', key]
    by_cases e : B.all (fun y => !(!decide (A[i] = y) && decide (sha A[i] = sha y))) = true
    · rw [if_pos e, if_pos e]
    · rw [if_neg e, if_neg e]
  have h3 := loopO_run0 (f := fun (s : Int) => rolodexref12_Clash_L1 A B s) A (fun j (_ : Unit) => (j : Int)) (fun j _ x => if B.all (fun y => !(!decide (x = y) && decide (sha x = sha y))) = true then .inl () else .inr true) (fun _ _ => True) () (by omega) trivial (fun i s hi _ => by
    simp only [rolodexref12_Clash_L1]
    rw [if_t (by simp; omega), bind_some' (h2 i hi), w64_eq (by omega)]
    by_cases e : B.all (fun y => !(!decide (A[i] = y) && decide (sha A[i] = sha y))) = true
    · rw [if_pos e, if_pos e]; rfl
    · rw [if_neg e, if_neg e]) (fun _ _ _ _ _ _ => trivial) (fun s _ => by
    simp only [rolodexref12_Clash_L1]
    rw [if_f (by simp)])
  have key : ∀ (l : List (List (BitVec 8))) (j : Nat), (∃ x ∈ l, ∃ y ∈ B, x ≠ y ∧ sha x = sha y) → runL (fun j (_ : Unit) x => if B.all (fun y => !(!decide (x = y) && decide (sha x = sha y))) = true then .inl () else .inr true) j () l = (.inr true : Unit ⊕ Bool) := by
    intro l
    induction l with
    | nil => rintro j ⟨x, hx, _⟩; cases hx
    | cons z l ih =>
      rintro j ⟨x, hx, y, hy, h1, h2⟩
      rw [runL]
      by_cases e : B.all (fun y => !(!decide (z = y) && decide (sha z = sha y))) = true
      · rw [if_pos e]
        show runL _ (j + 1) () _ = _
        refine ih (j + 1) ?_
        rcases List.mem_cons.1 hx with rfl | hx
        · have := List.all_eq_true.1 e y hy
          simp [h1, h2] at this
        · exact ⟨x, hx, y, hy, h1, h2⟩
      · rw [if_neg e]
  have h3' : loopO (fun (s : Int) => rolodexref12_Clash_L1 A B s) FU 0 = _ := h3
  rw [bind_some' h3', key A 0 h]
theorem chainSound (label : List (BitVec 8)) (a b : List Ver) : rolodexlaw14_ChainSound label a b = some true := by
  unfold rolodexlaw14_ChainSound
  rw [bind_some' awake14, orE, Option.bind_some]
  obtain ⟨p, hp, hpf⟩ := cfew_eq a 12 (by omega)
  have hp' : rolodexref14_Few a 12 = some p := hp
  obtain ⟨q, hq, hqf⟩ := cfew_eq b 12 (by omega)
  have hq' : rolodexref14_Few b 12 = some q := hq
  rw [bind_some' hp', orE, Option.bind_some, bind_some' hq', orE, Option.bind_some, orE, Option.bind_some]
  by_cases hc : label.length ≤ 200 ∧ p = true ∧ q = true ∧ a ≠ []
  · obtain ⟨h1, h2, h3, h4⟩ := hc
    have hF := hpf h2
    have hG := hqf h3
    have hl : label.length ≤ 1000000 := by omega
    have hla := hF.1
    have hlb := hG.1
    have hpos := List.length_pos_iff.2 h4
    have hva : ∀ v ∈ a, v.2.2.2.2.length ≤ 1000000 := fun v hv => by have := hF.2 v hv; omega
    have hvb : ∀ v ∈ b, v.2.2.2.2.length ≤ 1000000 := fun v hv => by have := hG.2 v hv; omega
    rw [if_f (by
      simp only [h2, h3, Bool.not_true, Bool.or_eq_true, decide_eq_true_eq, Bool.false_eq_true, false_or, or_false]; omega)]
    rw [bind_some' (last_at (by omega) h4), bind_some' (rcommit_eq hl (hva _ (List.getLast_mem h4))), bind_some' (from_eq a (by omega)), bind_some' (check_eq hl a _ (by omega))]
    have hy : (if (!check label a (commit label (a.getLast h4))) = true then some true else Option.bind (rolodexlaw14_From b) fun r8 => Option.bind (chain_Check label r8 (commit label (a.getLast h4))) fun r9 => some (!r9)) = some (!check label a (commit label (a.getLast h4)) || !check label b (commit label (a.getLast h4))) := or_o fun _ => by
      rw [bind_some' (from_eq b (by omega)), bind_some' (check_eq hl b _ (by omega))]
    rw [bind_some' hy, bind_some' (csame_eq a b (by omega) (fun v hv => by have := hva v hv; omega)), orE, Option.bind_some]
    by_cases hd : (!check label a (commit label (a.getLast h4)) || !check label b (commit label (a.getLast h4)) || decide (a = b)) = true
    · rw [if_t hd]
    · rw [if_f hd]
      simp only [Bool.or_eq_true, Bool.not_eq_true', decide_eq_true_eq, not_or, Bool.not_eq_false] at hd
      obtain ⟨⟨d1, d2⟩, d3⟩ := hd
      unfold check at d1 d2
      simp only [Bool.and_eq_true, decide_eq_true_eq] at d1 d2
      have hb0 := (formed_val d2.1).1
      have d4 := d2.2
      rw [List.getLast?_eq_some_getLast hb0] at d4
      have d5 : commit label (b.getLast hb0) = commit label (a.getLast h4) := by simpa using d4
      have hfa := d1.1
      have hfb := d2.1
      rw [formed_ne h4] at hfa
      rw [formed_ne hb0] at hfb
      simp only [Bool.and_eq_true] at hfa hfb
      have hs := chain_sound label hl a.length a b rfl (by omega) (by omega) h4 hb0 hfa.2 hfb.2 (by
        unfold lastH; rw [List.getLast?_eq_some_getLast h4, List.getLast?_eq_some_getLast hb0]; exact d5.symm)
      have hcl := hs.resolve_left d3
      have hle : ∀ (l : List Ver), (∀ v ∈ l, v.2.2.2.2.length ≤ 1000000) → ∀ x ∈ l.map (ctext label), x.length ≤ 3000000000 := by
        intro l hv x hx
        obtain ⟨v, hv', rfl⟩ := List.mem_map.1 hx
        have := ctext_len hl (hv v hv'); omega
      rw [bind_some' (texts_eq hl a (by omega) hva), bind_some' (texts_eq hl b (by omega) hvb), bind_some' (rclash12_true _ _ (by simp; omega) (by simp; omega) (hle a hva) (hle b hvb) hcl)]
  · rw [if_t (by
      by_cases e1 : label.length ≤ 200
      · by_cases e2 : p = true
        · by_cases e3 : q = true
          · have : a = [] := by
              apply Decidable.byContradiction; intro h; exact hc ⟨e1, e2, e3, h⟩
            simp [this]
          · simp [e3]
        · simp [e2]
      · simp only [Bool.or_eq_true, decide_eq_true_eq]; left; left; left; right; omega), bind_some' awake14]
end Pu
end Go.Sl
