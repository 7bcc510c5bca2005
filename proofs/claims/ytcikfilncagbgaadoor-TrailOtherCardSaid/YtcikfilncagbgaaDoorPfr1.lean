import Derived.Test.YtcikfilncagbgaaDoorPsame
set_option linter.unusedSimpArgs false
set_option linter.unusedVariables false
/-! Dyadic parts of a range of whole numbers: plain law, no program in sight. -/
namespace Go.Sl.Fr
variable {H : Type}
/-- A part: where it begins, the exponent of its size, its hash. -/
abbrev P (H : Type) : Type := Nat × Nat × H
/-- A stack (top first) puts one more part. -/
def push (nd : H → H → H) : List (P H) → P H → List (P H)
  | [], x => [x]
  | y :: st, x => if y.2.1 = x.2.1 ∧ 2 ^ (y.2.1 + 1) ∣ y.1 then push nd st (y.1, y.2.1 + 1, nd y.2.2 x.2.2) else x :: y :: st
/-- From `a` to `e`, the last part first. -/
def Ct (a : Nat) : List (P H) → Nat → Prop
  | [], e => a = e
  | y :: st, e => y.1 + 2 ^ y.2.1 = e ∧ 2 ^ y.2.1 ∣ y.1 ∧ Ct a st y.1
/-- Nothing to merge. -/
def Nf : List (P H) → Prop
  | [] => True
  | [_] => True
  | x :: y :: st => ¬ (y.2.1 = x.2.1 ∧ 2 ^ (y.2.1 + 1) ∣ y.1) ∧ Nf (y :: st)
theorem pow_dvd {i j : Nat} (h : i ≤ j) : 2 ^ i ∣ 2 ^ j := Nat.pow_dvd_pow 2 h
theorem pow_step (k : Nat) : 2 ^ (k + 1) = 2 ^ k + 2 ^ k := by rw [Nat.pow_succ]; omega
theorem two_pos (k : Nat) : 0 < 2 ^ k := Nat.pow_pos (by omega)
/-- Just beside a place of a higher power. -/
theorem not_dvd_add {k p : Nat} (h : 2 ^ (k + 1) ∣ p) : ¬ 2 ^ (k + 1) ∣ p + 2 ^ k := by
  intro hd
  have h2 : 2 ^ (k + 1) ∣ 2 ^ k := (Nat.dvd_add_right h).1 hd
  have := Nat.le_of_dvd (two_pos k) h2
  have := pow_step k
  have := two_pos k
  omega
theorem dvd_add_of_not {k p : Nat} (h : 2 ^ k ∣ p) (hn : ¬ 2 ^ (k + 1) ∣ p) : 2 ^ (k + 1) ∣ p + 2 ^ k := by
  obtain ⟨m, rfl⟩ := h
  have hp : 2 ^ (k + 1) = 2 ^ k * 2 := Nat.pow_succ ..
  have hm : m % 2 = 1 := by
    apply Decidable.byContradiction
    intro hc
    have : m = 2 * (m / 2) := by omega
    apply hn
    rw [hp]
    exact ⟨m / 2, by rw [Nat.mul_assoc, ← this]⟩
  have : m = 2 * (m / 2) + 1 := by omega
  refine ⟨m / 2 + 1, ?_⟩
  rw [hp, Nat.mul_assoc]
  calc 2 ^ k * m + 2 ^ k = 2 ^ k * (m + 1) := by rw [Nat.mul_add, Nat.mul_one]
    _ = 2 ^ k * (2 * (m / 2 + 1)) := congrArg (2 ^ k * ·) (by omega)
theorem push_ct (nd : H → H → H) {a : Nat} : ∀ (st : List (P H)) (x : P H), Ct a st x.1 → 2 ^ x.2.1 ∣ x.1 → Ct a (push nd st x) (x.1 + 2 ^ x.2.1)
  | [], x, h, hd => ⟨rfl, hd, h⟩
  | y :: st, x, h, hd => by
    unfold push
    split
    · rename_i hc
      have := push_ct nd st (y.1, y.2.1 + 1, nd y.2.2 x.2.2) h.2.2 hc.2
      have e : y.1 + 2 ^ (y.2.1 + 1) = x.1 + 2 ^ x.2.1 := by rw [pow_step, ← hc.1, ← h.1]; omega
      rw [← e]; exact this
    · exact ⟨rfl, hd, h⟩
theorem nf_tail {x : P H} {st : List (P H)} (h : Nf (x :: st)) : Nf st := by
  cases st with
  | nil => trivial
  | cons y st => exact h.2
theorem push_nf (nd : H → H → H) : ∀ (st : List (P H)) (x : P H), Nf st → Nf (push nd st x)
  | [], x, h => trivial
  | y :: st, x, h => by
    unfold push
    split
    · exact push_nf nd st _ (nf_tail h)
    · rename_i hc
      exact ⟨hc, h⟩
/-- Each part's hash is what `V` says. -/
def Hs (V : Nat → Nat → H) (st : List (P H)) : Prop := ∀ x ∈ st, x.2.2 = V x.1 x.2.1
theorem push_hs {nd : H → H → H} {V : Nat → Nat → H} {a e : Nat} (hV : ∀ p k, a ≤ p → p + 2 ^ (k + 1) ≤ e → 2 ^ (k + 1) ∣ p → V p (k + 1) = nd (V p k) (V (p + 2 ^ k) k)) : ∀ (st : List (P H)) (x : P H), Ct a st x.1 → x.1 + 2 ^ x.2.1 ≤ e → x.2.2 = V x.1 x.2.1 → Hs V st → Hs V (push nd st x)
  | [], x, hc, he, hx, h => by intro z hz; rw [List.mem_singleton.1 hz]; exact hx
  | y :: st, x, hc, he, hx, h => by
    unfold push
    split
    · rename_i hm
      have hy := h y (List.mem_cons_self ..)
      have e1 : y.1 + 2 ^ (y.2.1 + 1) = x.1 + 2 ^ x.2.1 := by rw [pow_step, ← hm.1, ← hc.1]; omega
      have ha : a ≤ y.1 := by
        have : ∀ (st : List (P H)) (q : Nat), Ct a st q → a ≤ q := by
          intro st
          induction st with
          | nil => intro q h; exact Nat.le_of_eq h
          | cons z st ih => intro q h; have h2 := ih _ h.2.2; have h1 : z.1 + 2 ^ z.2.1 = q := h.1; exact Nat.le_trans h2 (by rw [← h1]; exact Nat.le_add_right _ _)
        exact this _ _ hc.2.2
      refine push_hs hV st _ hc.2.2 ?_ ?_ (fun z hz => h z (List.mem_cons_of_mem _ hz))
      · show y.1 + 2 ^ (y.2.1 + 1) ≤ e
        rw [e1]; exact he
      · show nd y.2.2 x.2.2 = V y.1 (y.2.1 + 1)
        rw [hV y.1 y.2.1 ha (by rw [e1]; exact he) hm.2, hy, hx, hm.1, ← hc.1, hm.1]
    · intro z hz
      rcases List.mem_cons.1 hz with rfl | hz
      · exact hx
      · exact h z hz
/-- Two siblings, put one after the other, are their union put. -/
theorem push_two (nd : H → H → H) {a : Nat} (st : List (P H)) (y x : P H) (hc : Ct a st y.1) (hx : x.1 = y.1 + 2 ^ y.2.1) (hk : y.2.1 = x.2.1) (hd : 2 ^ (y.2.1 + 1) ∣ y.1) :
    push nd (push nd st y) x = push nd st (y.1, y.2.1 + 1, nd y.2.2 x.2.2) := by
  have h1 : push nd st y = y :: st := by
    cases st with
    | nil => rfl
    | cons z st =>
      unfold push
      rw [if_neg]
      intro hm
      have hz := hc.1
      have : ¬ 2 ^ (z.2.1 + 1) ∣ y.1 := by rw [← hz]; exact not_dvd_add hm.2
      exact this (hm.1 ▸ hd)
  rw [h1]
  conv => lhs; unfold push
  rw [if_pos ⟨hk, hd⟩]
/-- All parts put, one after the other. -/
def puts (nd : H → H → H) (st L : List (P H)) : List (P H) := L.foldl (push nd) st
theorem puts_nf (nd : H → H → H) : ∀ (L st : List (P H)), Nf st → Nf (puts nd st L)
  | [], st, h => h
  | x :: L, st, h => puts_nf nd L _ (push_nf nd st x h)
/-- From `a` to `e`, the first part first. -/
def Fw : Nat → List (P H) → Nat → Prop
  | a, [], e => a = e
  | a, x :: L, e => x.1 = a ∧ 2 ^ x.2.1 ∣ x.1 ∧ Fw (x.1 + 2 ^ x.2.1) L e
def NfF : List (P H) → Prop
  | [] => True
  | [_] => True
  | x :: y :: L => ¬ (x.2.1 = y.2.1 ∧ 2 ^ (x.2.1 + 1) ∣ x.1) ∧ NfF (y :: L)
theorem fw_app : ∀ (L M : List (P H)) (a b c : Nat), Fw a L b → Fw b M c → Fw a (L ++ M) c
  | [], M, a, b, c, h, h' => by cases h; exact h'
  | x :: L, M, a, b, c, h, h' => ⟨h.1, h.2.1, fw_app L M _ b c h.2.2 h'⟩
theorem fw_split : ∀ (L M : List (P H)) (a c : Nat), Fw a (L ++ M) c → ∃ b, Fw a L b ∧ Fw b M c
  | [], M, a, c, h => ⟨a, rfl, h⟩
  | x :: L, M, a, c, h => by
    obtain ⟨b, h1, h2⟩ := fw_split L M _ c h.2.2
    exact ⟨b, ⟨h.1, h.2.1, h1⟩, h2⟩
theorem fw_le : ∀ (L : List (P H)) (a e : Nat), Fw a L e → a + L.length ≤ e
  | [], a, e, h => by cases h; simp
  | x :: L, a, e, h => by
    have := fw_le L _ _ h.2.2
    have := h.1
    have := two_pos x.2.1
    simp only [List.length_cons]; omega
theorem ct_fw : ∀ (st : List (P H)) (a e : Nat), Ct a st e → Fw a st.reverse e
  | [], a, e, h => h
  | x :: st, a, e, h => by
    rw [List.reverse_cons]
    exact fw_app _ _ _ _ _ (ct_fw st a _ h.2.2) ⟨rfl, h.2.1, h.1⟩
theorem fw_ct : ∀ (L st : List (P H)) (a b e : Nat), Ct a st b → Fw b L e → Ct a (L.reverse ++ st) e
  | [], st, a, b, e, h, h' => by cases h'; exact h
  | x :: L, st, a, b, e, h, h' => by
    rw [List.reverse_cons, List.append_assoc]
    exact fw_ct L (x :: st) a _ e ⟨rfl, h'.2.1, by rw [h'.1]; exact h⟩ h'.2.2
theorem nf_snoc : ∀ (L : List (P H)) (y x : P H), NfF (L ++ [y]) → ¬ (y.2.1 = x.2.1 ∧ 2 ^ (y.2.1 + 1) ∣ y.1) → NfF (L ++ [y, x])
  | [], y, x, h, hn => ⟨hn, trivial⟩
  | [z], y, x, h, hn => ⟨h.1, hn, trivial⟩
  | z :: w :: L, y, x, h, hn => ⟨h.1, nf_snoc (w :: L) y x h.2 hn⟩
theorem nf_rev : ∀ (st : List (P H)), Nf st → NfF st.reverse
  | [], _ => trivial
  | [x], _ => trivial
  | x :: y :: st, h => by
    rw [List.reverse_cons, List.reverse_cons, List.append_assoc]
    exact nf_snoc _ y x (by rw [← List.reverse_cons]; exact nf_rev (y :: st) h.2) h.1
theorem puts_ct (nd : H → H → H) {a : Nat} : ∀ (L st : List (P H)) (b e : Nat), Ct a st b → Fw b L e → Ct a (puts nd st L) e
  | [], st, b, e, h, h' => by cases h'; exact h
  | x :: L, st, b, e, h, h' => puts_ct nd L _ _ e (push_ct nd st x (by rw [h'.1]; exact h) h'.2.1) h'.2.2
theorem puts_hs {nd : H → H → H} {V : Nat → Nat → H} {a E : Nat} (hV : ∀ p k, a ≤ p → p + 2 ^ (k + 1) ≤ E → 2 ^ (k + 1) ∣ p → V p (k + 1) = nd (V p k) (V (p + 2 ^ k) k)) : ∀ (L st : List (P H)) (b e : Nat), Ct a st b → Fw b L e → e ≤ E → Hs V st → Hs V L → Hs V (puts nd st L)
  | [], st, b, e, h, h', he, hs, hl => hs
  | x :: L, st, b, e, h, h', he, hs, hl => by
    have hle := fw_le L _ _ h'.2.2
    exact puts_hs hV L _ _ e (push_ct nd st x (by rw [h'.1]; exact h) h'.2.1) h'.2.2 he (push_hs hV st x (by rw [h'.1]; exact h) (by omega) (hl x (List.mem_cons_self ..)) hs) (fun z hz => hl z (List.mem_cons_of_mem _ hz))
/-- What is merged already is put as it stands. -/
theorem puts_of_nf (nd : H → H → H) : ∀ (L : List (P H)) (st : List (P H)), NfF L → (∀ y ∈ st.head?, ∀ x ∈ L.head?, ¬ (y.2.1 = x.2.1 ∧ 2 ^ (y.2.1 + 1) ∣ y.1)) → puts nd st L = L.reverse ++ st
  | [], st, h, hh => rfl
  | x :: L, st, h, hh => by
    have h1 : push nd st x = x :: st := by
      cases st with
      | nil => rfl
      | cons y st =>
        unfold push
        rw [if_neg (hh y rfl x rfl)]
    show puts nd (push nd st x) L = _
    rw [h1, puts_of_nf nd L (x :: st) (by cases L with | nil => trivial | cons z L => exact h.2) (by
      intro y hy z hz
      cases hy
      cases L with
      | nil => cases hz
      | cons w L => cases hz; exact h.1)]
    simp
/-- Merging two siblings ahead of putting changes nothing. -/
theorem puts_merge (nd : H → H → H) {a b e : Nat} (L M : List (P H)) (y x : P H) (st : List (P H)) (hc : Ct a st b) (hf : Fw b (L ++ y :: x :: M) e) (hk : y.2.1 = x.2.1) (hd : 2 ^ (y.2.1 + 1) ∣ y.1) :
    puts nd st (L ++ y :: x :: M) = puts nd st (L ++ (y.1, y.2.1 + 1, nd y.2.2 x.2.2) :: M) := by
  obtain ⟨c, h1, h2⟩ := fw_split _ _ _ _ hf
  unfold puts
  rw [List.foldl_append, List.foldl_append]
  simp only [List.foldl_cons]
  rw [push_two nd (a := a) _ y x (by rw [h2.1]; exact puts_ct nd L st b c hc h1) h2.2.2.1 hk hd]
/-- The greatest exponent that fits. -/
def IsSz (a d k : Nat) : Prop := 2 ^ k ≤ d ∧ 2 ^ k ∣ a ∧ ¬ (2 ^ (k + 1) ≤ d ∧ 2 ^ (k + 1) ∣ a)
theorem isSz_lt {a d k k' : Nat} (h : IsSz a d k) (h' : 2 ^ k' ≤ d ∧ 2 ^ k' ∣ a) : k' ≤ k := by
  apply Decidable.byContradiction
  intro hc
  apply h.2.2
  exact ⟨Nat.le_trans (Nat.pow_le_pow_right (by omega) (by omega)) h'.1, Nat.dvd_trans (pow_dvd (by omega)) h'.2⟩
theorem isSz_uniq {a d k k' : Nat} (h : IsSz a d k) (h' : IsSz a d k') : k = k' :=
  Nat.le_antisymm (isSz_lt h' ⟨h.1, h.2.1⟩) (isSz_lt h ⟨h'.1, h'.2.1⟩)
/-- The exponents of the parts from `a` to `e`. -/
def Seg : Nat → Nat → List Nat → Prop
  | a, e, [] => a = e
  | a, e, k :: ks => a < e ∧ IsSz a (e - a) k ∧ Seg (a + 2 ^ k) e ks
theorem seg_uniq : ∀ (ks ks' : List Nat) (a e : Nat), Seg a e ks → Seg a e ks' → ks = ks'
  | [], [], a, e, h, h' => rfl
  | [], k :: ks, a, e, h, h' => by have := h'.1; have h : a = e := h; omega
  | k :: ks, [], a, e, h, h' => by have := h.1; have h : a = e := h'; omega
  | k :: ks, k' :: ks', a, e, h, h' => by
    have := isSz_uniq h.2.1 h'.2.1
    subst this
    rw [seg_uniq ks ks' _ e h.2.2 h'.2.2]
theorem seg_le : ∀ (ks : List Nat) (a e : Nat), Seg a e ks → a + ks.length ≤ e
  | [], a, e, h => by have h : a = e := h; simp; omega
  | k :: ks, a, e, h => by
    have := seg_le ks _ _ h.2.2
    have := two_pos k
    simp only [List.length_cons]; omega
/-- The first part of a merged row is as long as its place tells. -/
theorem first_size : ∀ (s p e : Nat) (x : P H) (L : List (P H)), Fw p (x :: L) e → NfF (x :: L) → 2 ^ s ∣ p → ¬ 2 ^ (s + 1) ∣ p → p + 2 ^ s ≤ e → x.2.1 = s := by
  intro s
  induction s using Nat.strongRecOn with
  | ind s ih =>
    intro p e x L hf hn hd hnd hle
    have hx := hf.1
    have hxd := hf.2.1
    have hle' : x.2.1 ≤ s := by
      apply Decidable.byContradiction
      intro hc
      exact hnd (Nat.dvd_trans (pow_dvd (by omega)) (hx ▸ hxd))
    rcases Nat.lt_or_ge x.2.1 s with hlt | hge
    · exfalso
      have hd2 : 2 ^ (x.2.1 + 1) ∣ x.1 := by rw [hx]; exact Nat.dvd_trans (pow_dvd (by omega)) hd
      have hp : 2 ^ x.2.1 < 2 ^ s := Nat.pow_lt_pow_right (by omega) hlt
      have hp2 : 2 ^ (x.2.1 + 1) ≤ 2 ^ s := Nat.pow_le_pow_right (by omega) (by omega)
      have hps := pow_step x.2.1
      cases L with
      | nil =>
        have h2 : x.1 + 2 ^ x.2.1 = e := hf.2.2
        omega
      | cons y L =>
        have hy := ih x.2.1 hlt (x.1 + 2 ^ x.2.1) e y L hf.2.2 hn.2 (Nat.dvd_add (hxd) (Nat.dvd_refl _)) (not_dvd_add hd2) (by omega)
        exact hn.1 ⟨hy.symm, hd2⟩
    · omega
/-- A merged row is the greedy one. -/
theorem seg_of_nf : ∀ (L : List (P H)) (a e : Nat), Fw a L e → NfF L → Seg a e (L.map (fun x => x.2.1))
  | [], a, e, hf, hn => hf
  | x :: L, a, e, hf, hn => by
    have hle := fw_le L _ _ hf.2.2
    have hx := hf.1
    have hp := two_pos x.2.1
    show a < e ∧ IsSz a (e - a) x.2.1 ∧ Seg (a + 2 ^ x.2.1) e (L.map (fun x => x.2.1))
    refine ⟨by omega, ⟨by omega, hx ▸ hf.2.1, ?_⟩, ?_⟩
    · rintro ⟨h1, h2⟩
      have hps := pow_step x.2.1
      cases L with
      | nil => have h3 : x.1 + 2 ^ x.2.1 = e := hf.2.2; omega
      | cons y L =>
        rw [← hx] at h2
        have hy := first_size x.2.1 (x.1 + 2 ^ x.2.1) e y L hf.2.2 hn.2 (Nat.dvd_add hf.2.1 (Nat.dvd_refl _)) (not_dvd_add h2) (by omega)
        exact hn.1 ⟨hy.symm, h2⟩
    · have := seg_of_nf L _ e hf.2.2 (by cases L with | nil => trivial | cons y L => exact hn.2)
      rw [hx] at this
      exact this
/-- The greedy row is merged. -/
theorem seg_sz {a e k j : Nat} (h : IsSz a (e - a) k) (h2 : IsSz (a + 2 ^ k) (e - (a + 2 ^ k)) j) (hl : a + 2 ^ k < e) : ¬ (k = j ∧ 2 ^ (k + 1) ∣ a) := by
  rintro ⟨rfl, hd⟩
  refine h.2.2 ⟨?_, hd⟩
  have := h2.1
  have := pow_step k
  omega
/-- Parts laid out of exponents and hashes. -/
def lay : Nat → List Nat → List H → List (P H)
  | a, k :: ks, h :: hs => (a, k, h) :: lay (a + 2 ^ k) ks hs
  | _, _, _ => []
theorem lay_fw : ∀ (ks : List Nat) (hs : List H) (a e : Nat), Seg a e ks → ks.length = hs.length → Fw a (lay a ks hs) e
  | [], [], a, e, h, hl => h
  | k :: ks, h :: hs, a, e, hg, hl => ⟨rfl, hg.2.1.2.1, lay_fw ks hs _ e hg.2.2 (by simpa using hl)⟩
theorem lay_nf : ∀ (ks : List Nat) (hs : List H) (a e : Nat), Seg a e ks → ks.length = hs.length → NfF (lay a ks hs)
  | [], [], a, e, h, hl => trivial
  | [k], [h], a, e, hg, hl => trivial
  | k :: j :: ks, h :: h' :: hs, a, e, hg, hl => ⟨seg_sz hg.2.1 hg.2.2.2.1 hg.2.2.1, lay_nf (j :: ks) (h' :: hs) _ e hg.2.2 (by simpa using hl)⟩
theorem lay_k : ∀ (ks : List Nat) (hs : List H) (a : Nat), ks.length = hs.length → (lay a ks hs).map (fun x => x.2.1) = ks
  | [], [], a, hl => rfl
  | k :: ks, h :: hs, a, hl => by
    show k :: _ = _
    rw [show List.map (fun x => x.2.1) (lay (a + 2 ^ k) ks hs) = ks from lay_k ks hs _ (by simpa using hl)]
theorem lay_h : ∀ (ks : List Nat) (hs : List H) (a : Nat), ks.length = hs.length → (lay a ks hs).map (fun x => x.2.2) = hs
  | [], [], a, hl => rfl
  | k :: ks, h :: hs, a, hl => by
    show h :: _ = _
    rw [show List.map (fun x => x.2.2) (lay (a + 2 ^ k) ks hs) = hs from lay_h ks hs _ (by simpa using hl)]
/-- A row is laid out of its own exponents and hashes. -/
theorem lay_eq : ∀ (L : List (P H)) (a e : Nat), Fw a L e → lay a (L.map (fun x => x.2.1)) (L.map (fun x => x.2.2)) = L
  | [], a, e, h => rfl
  | x :: L, a, e, h => by
    obtain ⟨p, k, q⟩ := x
    have h1 : p = a := h.1
    subst h1
    show (p, k, q) :: lay (p + 2 ^ k) _ _ = _
    rw [lay_eq L _ e h.2.2]
/-- How many. -/
theorem seg_len_aligned : ∀ (ks : List Nat) (a e j : Nat), Seg a e ks → (∀ i, 2 ^ i ≤ e - a → 2 ^ i ∣ a) → e - a < 2 ^ j → ks.length ≤ j
  | [], a, e, j, h, ha, hj => by simp
  | k :: ks, a, e, j, h, ha, hj => by
    have hk := h.2.1
    have hd : e - a < 2 ^ (k + 1) := by
      apply Decidable.byContradiction
      intro hc
      exact hk.2.2 ⟨by omega, ha _ (by omega)⟩
    have hps := pow_step k
    have hkj : k < j := (Nat.pow_lt_pow_iff_right (a := 2) (by omega)).1 (Nat.lt_of_le_of_lt hk.1 hj)
    have := seg_len_aligned ks (a + 2 ^ k) e k h.2.2 (fun i hi => by
      have h1 : 2 ^ i < 2 ^ k := by have := hk.1; omega
      have h2 : i < k := (Nat.pow_lt_pow_iff_right (a := 2) (by omega)).1 h1
      exact Nat.dvd_add (ha i (by have := hk.1; omega)) (pow_dvd (by omega))) (by have := hk.1; omega)
    simp only [List.length_cons]; omega
theorem seg_len : ∀ (ks : List Nat) (a e i j : Nat), Seg a e ks → 2 ^ i ∣ a → i ≤ j → e - a < 2 ^ j → ks.length ≤ (j - i) + j
  | [], a, e, i, j, h, ha, hi, hj => by simp
  | k :: ks, a, e, i, j, h, ha, hi, hj => by
    have hk := h.2.1
    have hkj : k < j := (Nat.pow_lt_pow_iff_right (a := 2) (by omega)).1 (Nat.lt_of_le_of_lt hk.1 hj)
    by_cases hd : 2 ^ (k + 1) ∣ a
    · have := seg_len_aligned (k :: ks) a e j h (fun m hm => by
        have : m ≤ k := by
          apply Decidable.byContradiction
          intro hc
          exact hk.2.2 ⟨Nat.le_trans (Nat.pow_le_pow_right (by omega) (by omega)) hm, hd⟩
        exact Nat.dvd_trans (pow_dvd this) hk.2.1) hj
      omega
    · have hik : i ≤ k := by
        apply Decidable.byContradiction
        intro hc
        exact hd (Nat.dvd_trans (pow_dvd (by omega)) ha)
      have := seg_len ks (a + 2 ^ k) e (k + 1) j h.2.2 (dvd_add_of_not hk.2.1 hd) (by omega) (by omega)
      simp only [List.length_cons]; omega
theorem seg62 {ks : List Nat} {a e : Nat} (h : Seg a e ks) (he : e ≤ 2147483647) : ks.length ≤ 62 := by
  have := seg_len ks a e 0 31 h (by simp) (by omega) (by omega)
  omega
theorem isSz_exists (a d : Nat) (hd : 0 < d) : ∃ k, IsSz a d k := by
  have : ∀ (n k : Nat), 2 ^ k ≤ d → 2 ^ k ∣ a → d < 2 ^ (k + n) → ∃ k, IsSz a d k := by
    intro n
    induction n with
    | zero => intro k h1 h2 h3; exact absurd h3 (by simpa using h1)
    | succ n ih =>
      intro k h1 h2 h3
      by_cases h : 2 ^ (k + 1) ≤ d ∧ 2 ^ (k + 1) ∣ a
      · exact ih (k + 1) h.1 h.2 (by rw [show k + 1 + n = k + (n + 1) by omega]; exact h3)
      · exact ⟨k, h1, h2, h⟩
  exact this d 0 (by rw [Nat.pow_zero]; omega) (by simp) (by rw [Nat.zero_add]; exact Nat.lt_pow_self (by omega))
theorem seg_exists : ∀ (n a e : Nat), a ≤ e → e - a ≤ n → ∃ ks, Seg a e ks := by
  intro n
  induction n with
  | zero => intro a e h hn; exact ⟨[], by show a = e; omega⟩
  | succ n ih =>
    intro a e h hn
    by_cases hl : a < e
    · obtain ⟨k, hk⟩ := isSz_exists a (e - a) (by omega)
      have := two_pos k
      have := hk.1
      obtain ⟨ks, hks⟩ := ih (a + 2 ^ k) e (by omega) (by omega)
      exact ⟨k :: ks, hl, hk, hks⟩
    · exact ⟨[], by show a = e; omega⟩
end Go.Sl.Fr
