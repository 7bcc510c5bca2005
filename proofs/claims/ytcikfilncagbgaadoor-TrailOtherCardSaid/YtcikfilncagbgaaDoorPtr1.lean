import Derived.Test.YtcikfilncagbgaaDoorPfr5
set_option linter.unusedSimpArgs false
set_option linter.unusedVariables false
set_option maxRecDepth 20000
/-! Trees of hashes with the texts that were hashed: plain law. -/
namespace Go.Sl.Pu
open Go.Sl Go.Sl.M Go.Sl.Fr
attribute [local irreducible] sha nd
/-- What was made of parts. -/
inductive Tr where
  | part (h : T_api_Hash)
  | node (l r : Tr)
def Tr.h : Tr → T_api_Hash
  | .part h => h
  | .node l r => nd l.h r.h
def Tr.ts : Tr → List (List (BitVec 8))
  | .part _ => []
  | .node l r => txt l.h r.h :: (l.ts ++ r.ts)
/-- As a list's tree is cut. -/
def Sub : List T_api_Hash → Tr → Prop
  | _, .part _ => True
  | l, .node a b => 2 ≤ l.length ∧ Sub (l.take (half l.length)) a ∧ Sub (l.drop (half l.length)) b
/-- All parts are the list's. -/
def Good : List T_api_Hash → Tr → Prop
  | l, .part h => h = mth l
  | l, .node a b => Good (l.take (half l.length)) a ∧ Good (l.drop (half l.length)) b
/-- The texts of a list's tree. -/
def tts (l : List T_api_Hash) : List (List (BitVec 8)) :=
  if h : 2 ≤ l.length then tts (l.take (half l.length)) ++ tts (l.drop (half l.length)) ++ [txt (mth (l.take (half l.length))) (mth (l.drop (half l.length)))] else []
termination_by l.length
decreasing_by
  · rw [List.length_take]; have := half_lt h; omega
  · rw [List.length_drop]; have := half_pos l.length; omega
theorem mth_half {l : List T_api_Hash} (h : 2 ≤ l.length) : mth l = nd (mth (l.take (half l.length))) (mth (l.drop (half l.length))) := by
  obtain ⟨k, h1, h2, h3⟩ := half_spec h
  rw [h1]; exact mth_two h2 h3
theorem txt_inj {a b c d : T_api_Hash} (h : txt a b = txt c d) : a = c ∧ b = d := by
  unfold txt at h
  injection h with _ h
  have := List.append_inj h (by simp)
  exact ⟨Vector.toList_inj.1 this.1, Vector.toList_inj.1 this.2⟩
def Cl (T U : List (List (BitVec 8))) : Prop := ∃ u ∈ T, ∃ v ∈ U, u ≠ v ∧ sha u = sha v
theorem nd_sha (a b : T_api_Hash) : nd a b = sha (txt a b) := by with_unfolding_all rfl
theorem clash_or : ∀ (t : Tr) (l : List T_api_Hash), Sub l t → t.h = mth l → Cl t.ts (tts l) ∨ Good l t
  | .part h, l, _, he => .inr he
  | .node a b, l, hs, he => by
    have hl := hs.1
    have e1 : nd a.h b.h = nd (mth (l.take (half l.length))) (mth (l.drop (half l.length))) := by rw [← mth_half hl]; exact he
    have et : tts l = tts (l.take (half l.length)) ++ tts (l.drop (half l.length)) ++ [txt (mth (l.take (half l.length))) (mth (l.drop (half l.length)))] := by
      conv => lhs; rw [tts]
      rw [dif_pos hl]
    by_cases ht : txt a.h b.h = txt (mth (l.take (half l.length))) (mth (l.drop (half l.length)))
    · obtain ⟨ea, eb⟩ := txt_inj ht
      rcases clash_or a _ hs.2.1 ea with ⟨u, hu, v, hv, h⟩ | ga
      · exact .inl ⟨u, by simp [Tr.ts, hu], v, by rw [et]; simp [hv], h⟩
      rcases clash_or b _ hs.2.2 eb with ⟨u, hu, v, hv, h⟩ | gb
      · exact .inl ⟨u, by simp [Tr.ts, hu], v, by rw [et]; simp [hv], h⟩
      exact .inr ⟨ga, gb⟩
    · exact .inl ⟨_, by simp [Tr.ts], _, by rw [et]; simp, ht, by rw [← nd_sha, ← nd_sha]; exact e1⟩
/-- Rows with other hashes. -/
def mapR {H K : Type} (f : H → K) (L : List (P H)) : List (P K) := L.map fun x => (x.1, x.2.1, f x.2.2)
theorem fm_map {H K : Type} (f : H → K) : ∀ (L : List (P H)), fm (mapR f L) = fm L
  | [] => rfl
  | [_] => rfl
  | x :: y :: L => by
    have ih := fm_map f (y :: L)
    show (if x.2.1 = y.2.1 ∧ 2 ^ (x.2.1 + 1) ∣ x.1 then some 0 else (fm (mapR f (y :: L))).map (· + 1)) = (if x.2.1 = y.2.1 ∧ 2 ^ (x.2.1 + 1) ∣ x.1 then some 0 else (fm (y :: L)).map (· + 1))
    rw [ih]
theorem fw_map {H K : Type} (f : H → K) : ∀ (L : List (P H)) (a e : Nat), Fw a (mapR f L) e ↔ Fw a L e
  | [], a, e => Iff.rfl
  | x :: L, a, e => by
    show (x.1 = a ∧ 2 ^ x.2.1 ∣ x.1 ∧ Fw (x.1 + 2 ^ x.2.1) (mapR f L) e) ↔ (x.1 = a ∧ 2 ^ x.2.1 ∣ x.1 ∧ Fw (x.1 + 2 ^ x.2.1) L e)
    rw [fw_map f L]
theorem nf_map {H K : Type} (f : H → K) : ∀ (L : List (P H)), NfF (mapR f L) ↔ NfF L
  | [] => Iff.rfl
  | [_] => Iff.rfl
  | x :: y :: L => by
    have ih := nf_map f (y :: L)
    show (¬ (x.2.1 = y.2.1 ∧ 2 ^ (x.2.1 + 1) ∣ x.1) ∧ NfF (mapR f (y :: L))) ↔ (¬ (x.2.1 = y.2.1 ∧ 2 ^ (x.2.1 + 1) ∣ x.1) ∧ NfF (y :: L))
    rw [ih]
/-- A slice of a list. -/
def sl (l : List T_api_Hash) (p n : Nat) : List T_api_Hash := (l.drop p).take n
theorem sl_len {l : List T_api_Hash} {p n : Nat} (h : p + n ≤ l.length) : (sl l p n).length = n := by
  unfold sl; rw [List.length_take, List.length_drop]; omega
theorem sl_take {l : List T_api_Hash} {p n m : Nat} (h : m ≤ n) : (sl l p n).take m = sl l p m := by
  unfold sl; rw [List.take_take, Nat.min_eq_left h]
theorem sl_drop {l : List T_api_Hash} {p n m : Nat} : (sl l p n).drop m = sl l (p + m) (n - m) := by
  unfold sl; rw [List.drop_take, List.drop_drop]
/-- The fold of trees. -/
def foldT (z : Tr) : List Tr → Tr
  | [] => z
  | [x] => x
  | x :: y :: l => .node x (foldT z (y :: l))
theorem foldT_h (z : Tr) : ∀ (l : List Tr), (foldT z l).h = fold1 nd z.h (l.map Tr.h)
  | [] => rfl
  | [x] => rfl
  | x :: y :: l => by
    show nd x.h (foldT z (y :: l)).h = nd x.h (fold1 nd z.h ((y :: l).map Tr.h))
    rw [foldT_h z (y :: l)]
/-- What is said of a part of `l` that begins at `p`, of `n` leaves: it is cut as `l` is, its texts are in `T`, and if it is good then all of `R`'s parts within it are right. -/
def Ok (l : List T_api_Hash) (R : List (P T_api_Hash)) (T : List (List (BitVec 8))) (p n : Nat) (t : Tr) : Prop :=
  Sub (sl l p n) t ∧ (∀ u ∈ t.ts, u ∈ T) ∧ (Good (sl l p n) t → ∀ x ∈ R, p ≤ x.1 → x.1 < p + n → x.2.2 = mth (sl l x.1 (2 ^ x.2.1)))
theorem ok_node {l : List T_api_Hash} {R : List (P T_api_Hash)} {T : List (List (BitVec 8))} {p n k : Nat} {s t : Tr} (h1 : 2 ^ k < n) (h2 : n ≤ 2 ^ (k + 1)) (hl : p + n ≤ l.length) (hs : Ok l R T p (2 ^ k) s) (ht : Ok l R T (p + 2 ^ k) (n - 2 ^ k) t) (hT : txt s.h t.h ∈ T) : Ok l R T p n (.node s t) := by
  have hlen := sl_len (l := l) (p := p) (n := n) hl
  have hh : half (sl l p n).length = 2 ^ k := by rw [hlen]; exact half_eq h1 h2
  have hp := two_pos k
  refine ⟨⟨by rw [hlen]; omega, ?_, ?_⟩, ?_, ?_⟩
  · rw [hh, sl_take (by omega)]; exact hs.1
  · rw [hh, sl_drop]; exact ht.1
  · intro u hu
    rcases List.mem_cons.1 hu with rfl | hu
    · exact hT
    rcases List.mem_append.1 hu with hu | hu
    · exact hs.2.1 u hu
    · exact ht.2.1 u hu
  · rintro ⟨ga, gb⟩ x hx h3 h4
    rw [hh, sl_take (by omega)] at ga
    rw [hh, sl_drop] at gb
    by_cases hc : x.1 < p + 2 ^ k
    · exact hs.2.2 ga x hx h3 hc
    · exact ht.2.2 gb x hx (by omega) (by omega)
theorem ok_mono {l : List T_api_Hash} {R : List (P T_api_Hash)} {T U : List (List (BitVec 8))} {p n : Nat} {t : Tr} (h : Ok l R T p n t) (hu : ∀ u ∈ T, u ∈ U) : Ok l R U p n t := ⟨h.1, fun u hm => hu u (h.2.1 u hm), h.2.2⟩
theorem fw_mem {H : Type} : ∀ (L : List (P H)) (a e : Nat) (x : P H), Fw a L e → x ∈ L → a ≤ x.1 ∧ x.1 + 2 ^ x.2.1 ≤ e
  | y :: L, a, e, x, h, hx => by
    have hle := fw_le _ _ _ h.2.2
    have h1 := h.1
    rcases List.mem_cons.1 hx with rfl | hx
    · omega
    · have := fw_mem L _ _ x h.2.2 hx
      have := two_pos y.2.1
      omega
theorem fw_one {H : Type} : ∀ (L : List (P H)) (a e : Nat) (x y : P H), Fw a L e → x ∈ L → y ∈ L → y.1 ≤ x.1 → x.1 < y.1 + 2 ^ y.2.1 → x = y
  | z :: L, a, e, x, y, h, hx, hy, h1, h2 => by
    rcases List.mem_cons.1 hx with rfl | hx
    · rcases List.mem_cons.1 hy with rfl | hy
      · rfl
      · have := fw_mem L _ _ y h.2.2 hy
        have := two_pos x.2.1
        omega
    · have h3 := fw_mem L _ _ x h.2.2 hx
      rcases List.mem_cons.1 hy with rfl | hy
      · omega
      · exact fw_one L _ _ x y h.2.2 hx hy h1 h2
theorem ok_part {l : List T_api_Hash} {R : List (P T_api_Hash)} {T : List (List (BitVec 8))} {a e : Nat} (hf : Fw a R e) {x : P T_api_Hash} (hx : x ∈ R) : Ok l R T x.1 (2 ^ x.2.1) (.part x.2.2) :=
  ⟨trivial, (fun u hu => by cases hu), (fun g y hy h1 h2 => by
    have := fw_one R a e y x hf hy hx h1 h2
    rw [this]; exact g)⟩
/-- The fold of a merged row of trees. -/
theorem ok_fold {l : List T_api_Hash} {R : List (P T_api_Hash)} {T : List (List (BitVec 8))} {z : Tr} : ∀ (L : List (P Tr)) (a e : Nat), L ≠ [] → Fw a L e → NfF L → (∀ x ∈ L, Ok l R T x.1 (2 ^ x.2.1) x.2.2) → e ≤ l.length → (∀ i, 2 ^ i ≤ e - a → 2 ^ i ∣ a) → (∀ A x y B, L.map (·.2.2) = A ++ x :: y :: B → txt x.h (foldT z (y :: B)).h ∈ T) →
    Ok l R T a (e - a) (foldT z (L.map (·.2.2)))
  | [], a, e, hne, _, _, _, _, _, _ => absurd rfl hne
  | [x], a, e, _, hf, hn, hs, he, hal, hT => by
    have h1 := hs x (List.mem_cons_self ..)
    have h2 : x.1 = a := hf.1
    have h3 : x.1 + 2 ^ x.2.1 = e := hf.2.2
    have hpx := two_pos x.2.1
    rw [h2] at h1
    rw [show e - a = 2 ^ x.2.1 by omega]
    exact h1
  | x :: y :: L, a, e, _, hf, hn, hs, he, hal, hT => by
    have h1 := hs x (List.mem_cons_self ..)
    have h2 : x.1 = a := hf.1
    have hsz := (seg_of_nf _ _ _ hf hn).2.1
    have hsz' : IsSz a (e - a) x.2.1 := hsz
    have hlt : a + 2 ^ x.2.1 < e := by
      have h := (seg_of_nf _ _ _ hf hn).2.2
      have h' : Seg (a + 2 ^ x.2.1) e (y.2.1 :: L.map (fun x => x.2.1)) := h
      exact h'.1
    have hub : e - a < 2 ^ (x.2.1 + 1) := by
      apply Decidable.byContradiction
      intro hc
      exact hsz'.2.2 ⟨by omega, hal _ (by omega)⟩
    have hps := pow_step x.2.1
    have hf' : Fw (a + 2 ^ x.2.1) (y :: L) e := by have := hf.2.2; rw [h2] at this; exact this
    have ih := ok_fold (l := l) (R := R) (T := T) (z := z) (y :: L) (a + 2 ^ x.2.1) e (by simp) hf' hn.2 (fun w hw => hs w (List.mem_cons_of_mem _ hw)) he (fun i hi => by
      have h1 : 2 ^ i < 2 ^ x.2.1 := by omega
      have h2 : i < x.2.1 := (Nat.pow_lt_pow_iff_right (a := 2) (by omega)).1 h1
      exact Nat.dvd_add (hal i (by omega)) (pow_dvd (by omega))) (fun A u v B hA => hT (x.2.2 :: A) u v B (by rw [List.map_cons, hA]; rfl))
    rw [h2] at h1
    refine ok_node (k := x.2.1) (by omega) (by omega) (by omega) h1 ?_ (hT [] x.2.2 y.2.2 (L.map (·.2.2)) rfl)
    rw [show e - a - 2 ^ x.2.1 = e - (a + 2 ^ x.2.1) by omega]
    exact ih
end Go.Sl.Pu
