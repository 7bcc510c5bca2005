import Derived.Test.YtbaecpklplkciaaDoorPtxt
import Derived.Test.YtbaecpklplkciaaDoorPl
set_option linter.unusedSimpArgs false
set_option linter.unusedVariables false
namespace Go.Sl
/-! ## Loops that hand things to a function -/
section
variable {σ τ α : Type}
def foldO (y : σ → α → Option σ) : σ → List α → Option σ
  | s, [] => some s
  | s, x :: xs => Option.bind (y s x) fun s' => foldO y s' xs
theorem foldO_append (y : σ → α → Option σ) : ∀ (a b : List α) (s : σ), foldO y s (a ++ b) = Option.bind (foldO y s a) fun s' => foldO y s' b
  | [], b, s => rfl
  | x :: a, b, s => by
    rw [List.cons_append, foldO, foldO]
    cases y s x with
    | none => rfl
    | some s' => simp only [Option.bind_some]; exact foldO_append y a b s'
theorem loopS_none {f : τ → Option (LR τ Empty)} {n : Nat} {s : τ} (h : f s = none) : loopS f (n + 1) s = none := by
  unfold loopS loopO; rw [h]
theorem loopS_foldM {f : τ → Option (LR τ Empty)} (l : List α) (en : Nat → σ → τ) (y : σ → α → Option σ)
    (h : ∀ i s (hi : i < l.length), f (en i s) = Option.bind (y s l[i]) fun s' => some (.next (en (i + 1) s')))
    (he : ∀ s, f (en l.length s) = some (.brk (en l.length s))) (hn : l.length ≤ 9000000000) (s : σ) :
    loopS f FU (en 0 s) = Option.bind (foldO y s l) fun s' => some (en l.length s') := by
  have key : ∀ (d i n : Nat) (s : σ), i + d = l.length → d < n → loopS f n (en i s) = Option.bind (foldO y s (l.drop i)) fun s' => some (en l.length s') := by
    intro d
    induction d with
    | zero =>
      intro i n s hd hn
      obtain ⟨n, rfl⟩ : ∃ k, n = k + 1 := ⟨n - 1, by omega⟩
      have : i = l.length := by omega
      subst this
      rw [loopS_brk (he s), List.drop_length]; rfl
    | succ d ih =>
      intro i n s hd hn
      obtain ⟨n, rfl⟩ : ∃ k, n = k + 1 := ⟨n - 1, by omega⟩
      have hl : i < l.length := by omega
      have h1 := h i s hl
      rw [List.drop_eq_getElem_cons hl, foldO]
      cases hy : y s l[i] with
      | none => rw [hy] at h1; rw [loopS_none h1]; rfl
      | some s' =>
        rw [hy, Option.bind_some] at h1
        rw [loopS_next h1, Option.bind_some]
        exact ih (i + 1) n s' (by omega) (by omega)
  have := key l.length 0 FU s (by omega) (fu_lt hn)
  simpa using this
theorem foldO_flatMap {β : Type} (y : σ → α → Option σ) (g : β → List α) : ∀ (b : List β) (s : σ), foldO (fun s c => foldO y s (g c)) s b = foldO y s (b.flatMap g)
  | [], s => rfl
  | c :: b, s => by
    rw [List.flatMap_cons, foldO_append, foldO]
    congr 1; funext s'
    exact foldO_flatMap y g b s'
end
theorem ishr_nat (a k : Nat) (hk : k ≤ 64) : ishr (a : Int) (k : Int) = ((a / 2 ^ k : Nat) : Int) := by
  unfold ishr
  rw [Int.toNat_natCast, Nat.min_eq_left hk]
  have : ((2 : Int) ^ k) = ((2 ^ k : Nat) : Int) := by simp
  rw [this, Int.fdiv_eq_ediv_of_nonneg _ (Int.natCast_nonneg _)]; simp
theorem ishl_nat (a k : Nat) (hk : k ≤ 64) (h : a * 2 ^ k < 9223372036854775808) : ishl (a : Int) (k : Int) = ((a * 2 ^ k : Nat) : Int) := by
  unfold ishl
  rw [Int.toNat_natCast, Nat.min_eq_left hk]
  have : ((2 : Int) ^ k) = ((2 ^ k : Nat) : Int) := by simp
  rw [this, ← Int.natCast_mul, w64_nat h]
theorem iand_mask (a k : Nat) (hk : k ≤ 32) (ha : a < 9223372036854775808) : iand (a : Int) ((2 ^ k - 1 : Nat) : Int) = ((a % 2 ^ k : Nat) : Int) := by
  unfold iand
  have e : ∀ n : Nat, BitVec.ofInt 64 (n : Int) = BitVec.ofNat 64 n := fun n => by apply BitVec.eq_of_toNat_eq; simp
  have h2 : 2 ^ k ≤ 2 ^ 32 := Nat.pow_le_pow_right (by decide) hk
  have h3 : (2 : Nat) ^ 32 = 4294967296 := by decide
  have h4 : (2 : Nat) ^ 64 = 18446744073709551616 := by decide
  rw [e, e, BitVec.toNat_and, BitVec.toNat_ofNat, BitVec.toNat_ofNat, h4, Nat.mod_eq_of_lt (by omega), Nat.mod_eq_of_lt (by omega), Nat.and_two_pow_sub_one_eq_mod]
  have := Nat.mod_lt a (Nat.two_pow_pos k)
  exact w64_nat (by omega)
namespace Pu
open Go.Sl Go.Sl.M
/-- The bits of a kind's digit; its chains; its shift. -/
def bitsN : Nat → Nat
  | 1 => 1 | 2 => 2 | 3 => 4 | 4 => 8 | _ => 0
def chainsN : Nat → Nat
  | 1 => 265 | 2 => 133 | 3 => 67 | 4 => 34 | _ => 0
def shiftN : Nat → Nat
  | 1 => 7 | 2 => 6 | 3 => 4 | _ => 0
def IsKind (k : Nat) : Prop := k = 1 ∨ k = 2 ∨ k = 3 ∨ k = 4
instance (k : Nat) : Decidable (IsKind k) := by unfold IsKind; infer_instance
abbrev frm (k : Nat) : T_lmots_form := ((bitsN k : Int), (chainsN k : Int), (shiftN k : Int))
theorem of_eq {k : Nat} (hk : IsKind k) : lmots_of (k : Int) = some (frm k, true) := by
  rcases hk with rfl | rfl | rfl | rfl <;> rfl
theorem of_none {k : Int} (hk : ¬ (1 ≤ k ∧ k ≤ 4)) : lmots_of k = some ((0, 0, 0), false) := by
  unfold lmots_of
  by_cases h : k < 1
  · rw [if_t (by simpa using h), Option.bind_some, if_t rfl]
  · rw [if_f (by simpa using h), Option.bind_some, if_t (by simp; omega)]
theorem most_eq {k : Nat} (hk : IsKind k) : lmots_form_most (frm k) = some ((2 ^ bitsN k - 1 : Nat) : Int) := by
  rcases hk with rfl | rfl | rfl | rfl <;> rfl
theorem bits_cases {k : Nat} (hk : IsKind k) : bitsN k = 1 ∨ bitsN k = 2 ∨ bitsN k = 4 ∨ bitsN k = 8 := by
  rcases hk with rfl | rfl | rfl | rfl <;> simp [bitsN]
/-- The digits of a byte. -/
def dg (bits c j : Nat) : Nat := c / 2 ^ (8 - bits * (j + 1)) % 2 ^ bits
def dgs (bits : Nat) (c : BitVec 8) : List Int := (List.range (8 / bits)).map fun j => (dg bits c.toNat j : Int)
def digs (bits : Nat) (b : List (BitVec 8)) : List Int := b.flatMap (dgs bits)
theorem dgs_len (bits : Nat) (c : BitVec 8) : (dgs bits c).length = 8 / bits := by simp [dgs]
theorem digs_len (bits : Nat) : ∀ (b : List (BitVec 8)), (digs bits b).length = b.length * (8 / bits)
  | [] => by simp [digs]
  | c :: b => by
    show (dgs bits c ++ digs bits b).length = _
    rw [List.length_append, dgs_len, digs_len bits b, List.length_cons, Nat.add_mul]; omega
theorem digs_get (bits : Nat) (hb : 0 < 8 / bits) : ∀ (b : List (BitVec 8)) (n : Nat), n < b.length * (8 / bits) → (digs bits b)[n]? = some (dg bits (b.getD (n / (8 / bits)) 0#8).toNat (n % (8 / bits)) : Int)
  | [], n, h => by simp at h
  | c :: b, n, h => by
    show (dgs bits c ++ digs bits b)[n]? = _
    by_cases hn : n < 8 / bits
    · rw [List.getElem?_append_left (by rw [dgs_len]; exact hn), Nat.div_eq_of_lt hn, Nat.mod_eq_of_lt hn]
      simp [dgs, hn]
    · rw [List.getElem?_append_right (by rw [dgs_len]; omega), dgs_len]
      rw [List.length_cons, Nat.add_mul] at h
      rw [digs_get bits hb b (n - 8 / bits) (by omega)]
      have e : n = (n - 8 / bits) + 8 / bits := by omega
      conv => rhs; rw [e, Nat.add_div_right _ hb, Nat.add_mod_right]
      rw [List.getD_cons_succ]
theorem dg_lt (bits c j : Nat) : dg bits c j < 2 ^ bits := Nat.mod_lt _ (Nat.two_pow_pos _)
theorem digs_mem {bits : Nat} {b : List (BitVec 8)} {d : Int} (h : d ∈ digs bits b) : 0 ≤ d ∧ d < (2 ^ bits : Nat) := by
  obtain ⟨c, _, hc⟩ := List.mem_flatMap.1 h
  obtain ⟨j, _, rfl⟩ := List.mem_map.1 hc
  have := dg_lt bits c.toNat j
  omega
/-! ## The program's cut -/
theorem cut_L2 {Sy : Type} {k : Nat} (hk : IsKind k) (yl : Sy → Int → Option Sy) (c : BitVec 8) (s : Sy) :
    loopS (fun (s : Int × Sy) => lmots_form_cut_L2 (frm k) yl c s.1 s.2) FU (w64 ((8 : Int) - (frm k).1), s) = Option.bind (foldO yl s (dgs (bitsN k) c)) fun s' => some ((8 : Int) - (bitsN k : Int) * ((8 / bitsN k : Nat) + 1 : Int), s') := by
  have hb := bits_cases hk
  have h := loopS_foldM (f := fun (s : Int × Sy) => lmots_form_cut_L2 (frm k) yl c s.1 s.2) (dgs (bitsN k) c) (fun i s => ((8 : Int) - (bitsN k : Int) * ((i : Int) + 1), s)) yl (fun i s hi => by
    rw [dgs_len] at hi
    have hle : bitsN k * (i + 1) ≤ 8 := by
      rcases hb with h | h | h | h <;> rw [h] at hi ⊢ <;> omega
    have e1 : (8 : Int) - (bitsN k : Int) * ((i : Int) + 1) = ((8 - bitsN k * (i + 1) : Nat) : Int) := by
      have : ((bitsN k * (i + 1) : Nat) : Int) = (bitsN k : Int) * ((i : Int) + 1) := by simp
      omega
    simp only [lmots_form_cut_L2]
    have hc := c.isLt
    rw [e1, if_t (by simp), if_t (by omega), bind_some' (most_eq hk), ishr_nat _ _ (by omega), iand_mask _ _ (by omega) (Nat.lt_of_le_of_lt (Nat.div_le_self _ _) (by omega))]
    have e2 : (dgs (bitsN k) c)[i]'(by rw [dgs_len]; exact hi) = ((c.toNat / 2 ^ (8 - bitsN k * (i + 1)) % 2 ^ bitsN k : Nat) : Int) := by simp [dgs, dg]
    rw [e2]
    congr 1; funext s'
    have e3 : w64 (((8 - bitsN k * (i + 1) : Nat) : Int) - (frm k).1) = (8 : Int) - (bitsN k : Int) * (((i + 1 : Nat) : Int) + 1) := by
      rw [w64_id (by show _ ≤ _ - ((bitsN k : Nat) : Int); omega) (by show _ - ((bitsN k : Nat) : Int) < _; omega)]
      show _ - ((bitsN k : Nat) : Int) = _
      rw [← e1]
      rcases hb with h | h | h | h <;> rw [h] <;> omega
    rw [e3]) (fun s => by
    simp only [lmots_form_cut_L2, dgs_len]
    rw [if_f (by simp; rcases hb with h | h | h | h <;> rw [h] <;> omega)]) (by rw [dgs_len]; rcases hb with h | h | h | h <;> rw [h] <;> omega) s
  have e0 : w64 ((8 : Int) - (frm k).1) = (8 : Int) - (bitsN k : Int) * (((0 : Nat) : Int) + 1) := by
    show w64 ((8 : Int) - (bitsN k : Int)) = _
    rcases hb with h | h | h | h <;> rw [h] <;> decide
  rw [e0]
  rw [dgs_len] at h
  exact h
theorem cut_eq {Sy : Type} {k : Nat} (hk : IsKind k) (b : List (BitVec 8)) (hb : b.length ≤ 4000000000) (yl : Sy → Int → Option Sy) (s : Sy) : lmots_form_cut (frm k) b yl s = foldO yl s (digs (bitsN k) b) := by
  unfold lmots_form_cut
  have h := loopS_foldM (f := fun (s : Int × Sy) => lmots_form_cut_L1 b (frm k) yl s.1 s.2) b (fun i s => ((i : Int), s)) (fun s c => foldO yl s (dgs (bitsN k) c)) (fun i s hi => by
    simp only [lmots_form_cut_L1]
    rw [if_t (by simp; omega), bind_some' (lget_at rfl hi), cut_L2 hk]
    cases foldO yl s (dgs (bitsN k) b[i]) with
    | none => rfl
    | some s' =>
      simp only [Option.bind_some]
      rw [w64_eq (n := (i : Int) + 1) (by omega)]; rfl) (fun s => by
    simp only [lmots_form_cut_L1]
    rw [if_f (by simp)]) (by omega) s
  have h' : loopS (fun (s : Int × Sy) => lmots_form_cut_L1 b (frm k) yl s.1 s.2) FU ((0 : Int), s) = _ := h
  rw [h', foldO_flatMap]
  unfold digs
  cases foldO yl s (b.flatMap (dgs (bitsN k))) <;> rfl
/-- The check sum. -/
def csum (bits : Nat) (b : List (BitVec 8)) : Nat := ((digs bits b).map fun d => (2 ^ bits - 1 : Nat) - d.toNat).sum
theorem csum_le (bits : Nat) (b : List (BitVec 8)) : csum bits b ≤ b.length * (8 / bits) * (2 ^ bits - 1) := by
  unfold csum
  have key : ∀ l : List Int, (l.map fun d => (2 ^ bits - 1 : Nat) - d.toNat).sum ≤ l.length * (2 ^ bits - 1) := by
    intro l
    induction l with
    | nil => simp
    | cons d l ih => simp only [List.map_cons, List.sum_cons, List.length_cons, Nat.add_mul]; omega
  have := key (digs bits b)
  rwa [digs_len] at this
theorem sum_fold {k : Nat} (hk : IsKind k) : ∀ (l : List Int) (s : Nat), (∀ d ∈ l, 0 ≤ d ∧ d < (2 ^ bitsN k : Nat)) → s + l.length * 255 < 4000000000 →
    foldO (fun (s : Int) (d : Int) => lmots_form_sum_L1 (frm k) s d) (s : Int) l = some ((s + (l.map fun d => (2 ^ bitsN k - 1 : Nat) - d.toNat).sum : Nat) : Int)
  | [], s, _, _ => by simp [foldO]
  | d :: l, s, hd, hs => by
    have hb : 2 ^ bitsN k ≤ 256 := by rcases bits_cases hk with h | h | h | h <;> rw [h] <;> decide
    have h1 := hd d (by simp)
    rw [List.length_cons, Nat.add_mul] at hs
    rw [foldO]
    have e : lmots_form_sum_L1 (frm k) (s : Int) d = some ((s + ((2 ^ bitsN k - 1 : Nat) - d.toNat) : Nat) : Int) := by
      unfold lmots_form_sum_L1
      rw [bind_some' (most_eq hk), w64_id (n := ((2 ^ bitsN k - 1 : Nat) : Int) - d) (by omega) (by omega), w64_id (by omega) (by omega)]
      congr 1; omega
    rw [e, Option.bind_some, sum_fold hk l _ (fun d hd' => hd d (by simp [hd'])) (by omega)]
    congr 1
    simp only [List.map_cons, List.sum_cons]; omega
/-- The check sum's two bytes. -/
def csb (k : Nat) (h : List (BitVec 8)) : List (BitVec 8) := [BitVec.ofNat 8 (csum (bitsN k) h * 2 ^ shiftN k / 256), BitVec.ofNat 8 (csum (bitsN k) h * 2 ^ shiftN k)]
theorem csum_small {k : Nat} (hk : IsKind k) (h : T_api_Hash) : csum (bitsN k) h.toList ≤ 8160 := by
  have := csum_le (bitsN k) h.toList
  rw [Vector.length_toList] at this
  rcases hk with rfl | rfl | rfl | rfl <;> simp [bitsN] at this ⊢ <;> omega
theorem shl_small {k : Nat} (hk : IsKind k) (h : T_api_Hash) : csum (bitsN k) h.toList * 2 ^ shiftN k < 65536 := by
  have := csum_le (bitsN k) h.toList
  rw [Vector.length_toList] at this
  rcases hk with rfl | rfl | rfl | rfl <;> simp [bitsN, shiftN] at this ⊢ <;> omega
theorem shift_le {k : Nat} (hk : IsKind k) : shiftN k ≤ 7 := by rcases hk with rfl | rfl | rfl | rfl <;> simp [shiftN]
theorem sum_eq4 {k : Nat} (hk : IsKind k) (h : T_api_Hash) : lmots_form_sum (frm k) h = some (csb k h.toList) := by
  unfold lmots_form_sum lmots_form_sum_1
  have h1 := sum_fold hk (digs (bitsN k) h.toList) 0 (fun d hd => digs_mem hd) (by rw [digs_len, Vector.length_toList]; rcases bits_cases hk with h | h | h | h <;> rw [h] <;> omega)
  rw [cut_eq hk _ (by simp)]
  have h1' : foldO (fun (s : Int) (d : Int) => lmots_form_sum_L1 (frm k) s d) (0 : Int) (digs (bitsN k) h.toList) = some ((csum (bitsN k) h.toList : Nat) : Int) := by
    have e : ((0 : Nat) : Int) = 0 := rfl
    rw [e] at h1
    rw [h1]; unfold csum; congr 2; omega
  rw [h1', Option.bind_some, Option.bind_some]
  have hs := shl_small hk h
  have hsh := shift_le hk
  rw [if_t (show (0 : Int) ≤ (frm k).2.2 from Int.natCast_nonneg _)]
  show some [BitVec.ofInt 8 (ishr (ishl _ (shiftN k : Int)) 8), BitVec.ofInt 8 (ishl _ (shiftN k : Int))] = _
  rw [ishl_nat _ _ (by omega) (by omega)]
  have e8 : ((8 : Int)) = ((8 : Nat) : Int) := rfl
  rw [e8, ishr_nat _ 8 (by omega)]
  have e : ∀ n : Nat, BitVec.ofInt 8 (n : Int) = BitVec.ofNat 8 n := fun n => by apply BitVec.eq_of_toNat_eq; simp
  rw [e, e]
  rfl
/-- The digits of a hash. -/
def digl (k : Nat) (h : T_api_Hash) : List Int := (digs (bitsN k) (h.toList ++ csb k h.toList)).take (chainsN k)
theorem csb_len (k : Nat) (h : List (BitVec 8)) : (csb k h).length = 2 := rfl
theorem chains_le {k : Nat} (hk : IsKind k) : chainsN k ≤ 34 * (8 / bitsN k) := by rcases hk with rfl | rfl | rfl | rfl <;> simp [chainsN, bitsN]
theorem digl_len {k : Nat} (hk : IsKind k) (h : T_api_Hash) : (digl k h).length = chainsN k := by
  unfold digl
  rw [List.length_take, digs_len, List.length_append, csb_len, Vector.length_toList]
  exact Nat.min_eq_left (chains_le hk)
theorem digl_mem {k : Nat} {h : T_api_Hash} {d : Int} (hd : d ∈ digl k h) : 0 ≤ d ∧ d < (2 ^ bitsN k : Nat) := digs_mem (List.mem_of_mem_take hd)
theorem dig_fold {k : Nat} (hk : IsKind k) : ∀ (l acc : List Int), acc.length ≤ chainsN k → foldO (fun (s : List Int) (d : Int) => lmots_form_digits_L1 (frm k) s d) acc l = some (acc ++ l.take (chainsN k - acc.length))
  | [], acc, _ => by simp [foldO]
  | d :: l, acc, ha => by
    rw [foldO]
    unfold lmots_form_digits_L1
    have hc : chainsN k ≤ 265 := by rcases hk with rfl | rfl | rfl | rfl <;> simp [chainsN]
    by_cases h : acc.length < chainsN k
    · rw [if_t (show decide ((acc.length : Int) < (chainsN k : Int)) = true by simpa using h), if_t (by simp [AP]; omega), Option.bind_some]
      have := dig_fold hk l (acc ++ [d]) (by simp; omega)
      have h2 : foldO (fun (s : List Int) (d : Int) => lmots_form_digits_L1 (frm k) s d) (acc ++ [d]) l = _ := this
      unfold lmots_form_digits_L1 at h2
      rw [h2]
      have e : chainsN k - acc.length = (chainsN k - (acc ++ [d]).length) + 1 := by simp; omega
      rw [e, List.take_succ_cons, List.append_assoc]; rfl
    · rw [if_f (show ¬ decide ((acc.length : Int) < (chainsN k : Int)) = true by simpa using h), Option.bind_some]
      have := dig_fold hk l acc ha
      unfold lmots_form_digits_L1 at this
      rw [this]
      have e : chainsN k - acc.length = 0 := by omega
      simp [e]
theorem fdigits_eq {k : Nat} (hk : IsKind k) (h : T_api_Hash) : lmots_form_digits (frm k) h = some (digl k h) := by
  unfold lmots_form_digits lmots_form_digits_1
  have hc : chainsN k ≤ 265 := by rcases hk with rfl | rfl | rfl | rfl <;> simp [chainsN]
  rw [if_t (show 0 ≤ (chainsN k : Int) ∧ (chainsN k : Int) ≤ 4294967296 by omega), bind_some' (sum_eq4 hk h), if_t (by rw [csb_len]; simp [AP]), cut_eq hk _ (by simp [csb_len]), dig_fold hk _ _ (by simp)]
  rfl
theorem chains_eq {k : Nat} (hk : IsKind k) : lmots_Chains (k : Int) = some (chainsN k : Int) := by
  unfold lmots_Chains; rw [bind_some' (of_eq hk)]
theorem chains_none {k : Int} (hk : ¬ (1 ≤ k ∧ k ≤ 4)) : lmots_Chains k = some 0 := by
  unfold lmots_Chains; rw [bind_some' (of_none hk)]
def sizeN (k : Nat) : Nat := 36 + 32 * chainsN k
theorem size_eq {k : Nat} (hk : IsKind k) : lmots_Size (k : Int) = some (sizeN k : Int) := by
  rcases hk with rfl | rfl | rfl | rfl <;> rfl
/-! ## The reference's -/
theorem rbits_eq {k : Nat} (hk : IsKind k) : rolodexref04_Bits (k : Int) = some (bitsN k : Int) := by rcases hk with rfl | rfl | rfl | rfl <;> rfl
theorem rbits_none {k : Int} (hk : ¬ (1 ≤ k ∧ k ≤ 4)) : rolodexref04_Bits k = some 0 := by
  unfold rolodexref04_Bits
  rw [if_f (by simp; omega), Option.bind_some, if_f (by simp; omega), if_f (by simp; omega), if_f (by simp; omega)]
theorem rchains_eq {k : Nat} (hk : IsKind k) : rolodexref04_Chains (k : Int) = some (chainsN k : Int) := by rcases hk with rfl | rfl | rfl | rfl <;> rfl
theorem rsize_eq {k : Nat} (hk : IsKind k) : rolodexref04_Size (k : Int) = some (sizeN k : Int) := by rcases hk with rfl | rfl | rfl | rfl <;> rfl
theorem rmost_eq {k : Nat} (hk : IsKind k) : rolodexref04_Most (k : Int) = some ((2 ^ bitsN k - 1 : Nat) : Int) := by
  rcases hk with rfl | rfl | rfl | rfl <;> rfl
theorem rdigit_L2 (bits : Nat) (hb : bits ≤ 8) (x : Nat) (hx : x < 256) : loopS (fun (s : Int × Int) => rolodexref04_digit_L2 (bits : Int) s.1 s.2) FU ((x : Int), (0 : Int)) = some (((x / 2 ^ bits : Nat) : Int), (bits : Int)) := by
  have h := loopS_cnt (f := fun (s : Int × Int) => rolodexref04_digit_L2 (bits : Int) s.1 s.2) (fun i (s : {s : Nat // s < 256}) => ((s.1 : Int), (i : Int))) (fun _ s => ⟨s.1 / 2, by have := s.2; omega⟩) 0 bits (fun i s h1 h2 => by
    have := s.2
    simp only [rolodexref04_digit_L2]
    rw [if_t (by simp; omega), w64_eq (n := (i : Int) + 1) (by omega)]
    have e : Int.tdiv (s.1 : Int) 2 = ((s.1 / 2 : Nat) : Int) := by rw [Int.tdiv_eq_ediv_of_nonneg (by omega)]; omega
    rw [e, w64_nat (by omega)]; rfl) (fun s => by
    simp only [rolodexref04_digit_L2]
    rw [if_f (by simp)]) FU ⟨x, hx⟩ (by omega) (fu_lt (by omega))
  have key : ∀ (n i : Nat) (s : {s : Nat // s < 256}), (foldN (fun _ (s : {s : Nat // s < 256}) => (⟨s.1 / 2, by have := s.2; omega⟩ : {s : Nat // s < 256})) i n s).1 = s.1 / 2 ^ n := by
    intro n
    induction n with
    | zero => intro i s; simp [foldN]
    | succ n ih => intro i s; rw [foldN, ih, Nat.div_div_eq_div_mul, Nat.pow_succ, Nat.mul_comm 2]
  rw [key] at h
  exact h
theorem rdigit_L3 (bits : Nat) (hb : bits ≤ 8) : loopS (fun (s : Int × Int) => rolodexref04_digit_L3 (bits : Int) s.1 s.2) FU ((1 : Int), (0 : Int)) = some (((2 ^ bits : Nat) : Int), (bits : Int)) := by
  have : bits = 0 ∨ bits = 1 ∨ bits = 2 ∨ bits = 3 ∨ bits = 4 ∨ bits = 5 ∨ bits = 6 ∨ bits = 7 ∨ bits = 8 := by omega
  rcases this with rfl | rfl | rfl | rfl | rfl | rfl | rfl | rfl | rfl <;> rfl
theorem rdigit_eq {k : Nat} (hk : IsKind k) (b : List (BitVec 8)) (n : Nat) (hn : n < b.length * (8 / bitsN k)) (hl : b.length ≤ 100000) :
    rolodexref04_digit b (n : Int) (bitsN k : Int) = some (dg (bitsN k) (b.getD (n / (8 / bitsN k)) 0#8).toNat (n % (8 / bitsN k)) : Int) := by
  have hb := bits_cases hk
  have hb8 : bitsN k ≤ 8 := by omega
  have hb0 : 0 < 8 / bitsN k := by rcases hb with h | h | h | h <;> rw [h] <;> decide
  have he8 : 8 / bitsN k ≤ 8 := Nat.div_le_self _ _
  have e1 : w64 (Int.tdiv 8 (bitsN k : Int)) = ((8 / bitsN k : Nat) : Int) := by rcases hb with h | h | h | h <;> rw [h] <;> decide
  unfold rolodexref04_digit
  rw [if_t (by omega), e1, if_t (by omega)]
  generalize hE : 8 / bitsN k = E at *
  have hnl : n < 100000 * 8 := Nat.lt_of_lt_of_le hn (Nat.mul_le_mul hl he8)
  have e2 : Int.tdiv (n : Int) (E : Int) = ((n / E : Nat) : Int) := by rw [Int.tdiv_eq_ediv_of_nonneg (by omega)]; simp
  have e3 : Int.tmod (n : Int) (E : Int) = ((n % E : Nat) : Int) := by rw [Int.tmod_eq_emod_of_nonneg (by omega)]; simp
  have hq : n / E < b.length := (Nat.div_lt_iff_lt_mul hb0).2 hn
  have hm := Nat.mod_lt n hb0
  rw [e2, w64_nat (by have := Nat.div_le_self n E; omega), bind_some' (lget_at rfl hq), if_t (by omega), e3, Option.bind_some]
  have hcl := (b[n / E]).isLt
  -- the steps down
  have h := loopS_cnt (f := fun (s : Int × Int) => rolodexref04_digit_L1 (bitsN k : Int) s.1 s.2) (fun i (s : {s : Nat // s < 256}) => ((s.1 : Int), (i : Int))) (fun _ s => ⟨s.1 / 2 ^ bitsN k, Nat.lt_of_le_of_lt (Nat.div_le_self _ _) s.2⟩) (n % E) (E - 1) (fun i s h1 h2 => by
    have := s.2
    simp only [rolodexref04_digit_L1]
    rw [e1, w64_id (n := (E : Int) - 1) (by omega) (by omega), if_t (by simp; omega), bind_some' (rdigit_L2 _ hb8 _ s.2), w64_eq (n := (i : Int) + 1) (by omega)]; rfl) (fun s => by
    simp only [rolodexref04_digit_L1]
    rw [e1, w64_id (n := (E : Int) - 1) (by omega) (by omega), if_f (by simp; omega)]) FU ⟨b[n / E].toNat, hcl⟩ (by omega) (fu_lt (by omega))
  have key : ∀ (n i : Nat) (s : {s : Nat // s < 256}), (foldN (fun _ (s : {s : Nat // s < 256}) => (⟨s.1 / 2 ^ bitsN k, Nat.lt_of_le_of_lt (Nat.div_le_self _ _) s.2⟩ : {s : Nat // s < 256})) i n s).1 = s.1 / 2 ^ (bitsN k * n) := by
    intro n
    induction n with
    | zero => intro i s; simp [foldN]
    | succ n ih => intro i s; rw [foldN, ih, Nat.div_div_eq_div_mul, ← Nat.pow_add, Nat.mul_succ, Nat.add_comm]
  rw [key] at h
  rw [bind_some' h, bind_some' (rdigit_L3 _ hb8)]
  have hp := Nat.two_pow_pos (bitsN k)
  simp only []
  rw [if_t (by omega)]
  have e4 : Int.tmod ((b[n / E].toNat / 2 ^ (bitsN k * (E - 1 - n % E)) : Nat) : Int) ((2 ^ bitsN k : Nat) : Int) = ((b[n / E].toNat / 2 ^ (bitsN k * (E - 1 - n % E)) % 2 ^ bitsN k : Nat) : Int) := by rw [Int.tmod_eq_emod_of_nonneg (Int.natCast_nonneg _)]; simp
  rw [e4]
  unfold dg
  have e5 : bitsN k * (E - 1 - n % E) = 8 - bitsN k * (n % E + 1) := by
    have h9 : bitsN k * E = 8 := by subst hE; rcases hb with h | h | h | h <;> simp [h]
    have h10 : bitsN k * (E - 1 - n % E) + bitsN k * (n % E + 1) = bitsN k * E := by rw [← Nat.mul_add]; exact congrArg (bitsN k * ·) (by omega)
    omega
  have e6 : b.getD (n / E) 0#8 = b[n / E] := by simp [hq]
  rw [e5, e6]
theorem be2 {w : Nat} (x : BitVec w) : be x 2 = [(x >>> 8).setWidth 8, x.setWidth 8] := by simp [be, List.range_succ]
theorem rdigits_eq {k : Nat} (hk : IsKind k) (h : T_api_Hash) : rolodexref04_Digits (k : Int) h = some (digl k h) := by
  have hb := bits_cases hk
  have hb0 : 0 < 8 / bitsN k := by rcases hb with h | h | h | h <;> rw [h] <;> decide
  have hbp : 2 ^ bitsN k ≤ 256 := by rcases hb with h | h | h | h <;> rw [h] <;> decide
  have hc : chainsN k ≤ 265 := by rcases hk with rfl | rfl | rfl | rfl <;> simp [chainsN]
  have e256 : w64 (Int.tdiv 256 (bitsN k : Int)) = ((32 * (8 / bitsN k) : Nat) : Int) := by rcases hb with h | h | h | h <;> rw [h] <;> decide
  have hE : 8 / bitsN k ≤ 8 := Nat.div_le_self _ _
  unfold rolodexref04_Digits
  rw [bind_some' (rbits_eq hk), if_f (by simp; omega)]
  have h1 := loopS_cnt (f := fun (s : Int × Int) => rolodexref04_Digits_L1 (bitsN k : Int) (k : Int) h s.1 s.2) (fun i (_ : Unit) => ((((((digs (bitsN k) h.toList).take i).map fun d => (2 ^ bitsN k - 1 : Nat) - d.toNat).sum : Nat) : Int), (i : Int))) (fun _ s => s) 0 (32 * (8 / bitsN k)) (fun i s h1 h2 => by
    have hil : i < (digs (bitsN k) h.toList).length := by rw [digs_len, Vector.length_toList]; exact h2
    have hi256 : i < 256 := by omega
    have hsum : ∀ n, (((digs (bitsN k) h.toList).take n).map fun d => (2 ^ bitsN k - 1 : Nat) - d.toNat).sum ≤ n * 255 := by
      intro n
      have key : ∀ l : List Int, (l.map fun d => (2 ^ bitsN k - 1 : Nat) - d.toNat).sum ≤ l.length * 255 := by
        intro l
        induction l with
        | nil => simp
        | cons d l ih => simp only [List.map_cons, List.sum_cons, List.length_cons, Nat.add_mul]; omega
      exact Nat.le_trans (key _) (Nat.mul_le_mul_right _ (by rw [List.length_take]; omega))
    have hs1 := hsum i
    show rolodexref04_Digits_L1 (bitsN k : Int) (k : Int) h (((((digs (bitsN k) h.toList).take i).map fun d => (2 ^ bitsN k - 1 : Nat) - d.toNat).sum : Nat) : Int) (i : Int) = _
    simp only [rolodexref04_Digits_L1]
    have hd : digs (bitsN k) h.toList = digs (bitsN k) h.toList := rfl
    have hget := digs_get (bitsN k) hb0 h.toList i (by rw [Vector.length_toList]; exact h2)
    have hdl := dg_lt (bitsN k) (h.toList.getD (i / (8 / bitsN k)) 0#8).toNat (i % (8 / bitsN k))
    rw [if_t (by omega), e256, if_t (decide_eq_true (show (i : Int) < ((32 * (8 / bitsN k) : Nat) : Int) by omega)), bind_some' (rmost_eq hk), bind_some' (rdigit_eq hk _ _ (by rw [Vector.length_toList]; exact h2) (by simp))]
    rw [w64_id (n := ((2 ^ bitsN k - 1 : Nat) : Int) - (dg (bitsN k) (h.toList.getD (i / (8 / bitsN k)) 0#8).toNat (i % (8 / bitsN k)) : Int)) (by omega) (by omega), w64_eq (n := (i : Int) + 1) (by omega), w64_id (by omega) (by omega)]
    have e : (((digs (bitsN k) h.toList).take (i + 1)).map fun d => (2 ^ bitsN k - 1 : Nat) - d.toNat).sum = (((digs (bitsN k) h.toList).take i).map fun d => (2 ^ bitsN k - 1 : Nat) - d.toNat).sum + ((2 ^ bitsN k - 1) - dg (bitsN k) (h.toList.getD (i / (8 / bitsN k)) 0#8).toNat (i % (8 / bitsN k))) := by
      rw [List.take_add_one, hget]; simp
    rw [e]
    have e2 : ∀ a b : Nat, b < 2 ^ bitsN k → (a : Int) + (((2 ^ bitsN k - 1 : Nat) : Int) - (b : Int)) = ((a + (2 ^ bitsN k - 1 - b) : Nat) : Int) := fun a b h => by omega
    rw [e2 _ _ hdl]; rfl) (fun s => by
    simp only [rolodexref04_Digits_L1]
    rw [if_t (by omega), e256]
    exact if_f (by simp)) FU () (by omega) (fu_lt (by omega))
  have h1' : loopS (fun (s : Int × Int) => rolodexref04_Digits_L1 (bitsN k : Int) (k : Int) h s.1 s.2) FU ((0 : Int), (0 : Int)) = some ((csum (bitsN k) h.toList : Int), ((32 * (8 / bitsN k) : Nat) : Int)) := by
    have e : (digs (bitsN k) h.toList).take (32 * (8 / bitsN k)) = digs (bitsN k) h.toList := List.take_of_length_le (by rw [digs_len, Vector.length_toList]; exact Nat.le_refl _)
    rw [e] at h1
    exact h1
  rw [bind_some' h1', Option.bind_some]
  have hs8 := csum_small hk h
  have hsl := shl_small hk h
  have hsh := shift_le hk
  have hv : vget (#v[(0 : Int), (7 : Int), (6 : Int), (4 : Int), (0 : Int)]) (k : Int) = some (shiftN k : Int) := by rcases hk with rfl | rfl | rfl | rfl <;> rfl
  rw [bind_some' hv]
  have h2 : loopS (fun (s : Int × Int) => rolodexref04_Digits_L2 (shiftN k : Int) s.1 s.2) FU ((csum (bitsN k) h.toList : Int), (0 : Int)) = some (((csum (bitsN k) h.toList * 2 ^ shiftN k : Nat) : Int), (shiftN k : Int)) := by
    generalize csum (bitsN k) h.toList = S at *
    have hS : ∀ i, i ≤ shiftN k → S * 2 ^ i ≤ 8160 * 128 := fun i hi => Nat.mul_le_mul hs8 (Nat.le_trans (Nat.pow_le_pow_right (by decide) (show i ≤ 7 by omega)) (by decide))
    have h := loopS_cnt (f := fun (s : Int × Int) => rolodexref04_Digits_L2 (shiftN k : Int) s.1 s.2) (fun i (_ : Unit) => (((S * 2 ^ i : Nat) : Int), (i : Int))) (fun _ s => s) 0 (shiftN k) (fun i s h1 h2 => by
      simp only [rolodexref04_Digits_L2]
      have := hS i (by omega)
      rw [if_t (by simp; omega), w64_eq (n := (i : Int) + 1) (by omega), w64_id (n := 2 * ((S * 2 ^ i : Nat) : Int)) (by omega) (by omega)]
      have e : (2 : Int) * ((S * 2 ^ i : Nat) : Int) = ((S * 2 ^ (i + 1) : Nat) : Int) := by rw [Nat.pow_succ, ← Nat.mul_assoc]; omega
      rw [e]; rfl) (fun s => by
      simp only [rolodexref04_Digits_L2]
      rw [if_f (by simp)]) FU () (by omega) (fu_lt (by omega))
    simpa using h
  rw [bind_some' h2, if_t (by simp [AP])]
  have hnum : rolodexref01_Number (BitVec.ofInt 64 ((csum (bitsN k) h.toList * 2 ^ shiftN k : Nat) : Int)) 2 = some (csb k h.toList) := by
    have := number_eq (BitVec.ofInt 64 ((csum (bitsN k) h.toList * 2 ^ shiftN k : Nat) : Int)) 2 (by omega)
    refine Eq.trans this ?_
    unfold csb
    generalize csum (bitsN k) h.toList * 2 ^ shiftN k = S at *
    have e : BitVec.ofInt 64 (S : Int) = BitVec.ofNat 64 S := by apply BitVec.eq_of_toNat_eq; simp
    rw [e]
    rw [be2]
    have a1 : ((BitVec.ofNat 64 S) >>> 8).setWidth 8 = BitVec.ofNat 8 (S / 256) := by apply BitVec.eq_of_toNat_eq; simp [Nat.shiftRight_eq_div_pow]; omega
    have a2 : (BitVec.ofNat 64 S).setWidth 8 = BitVec.ofNat 8 S := by apply BitVec.eq_of_toNat_eq; simp
    rw [a1, a2]
  simp only []
  rw [bind_some' hnum, if_t (by simp [AP, csb_len])]
  have hlen : (h.toList ++ csb k h.toList).length = 34 := by simp [csb_len]
  have h3 := loopS_cnt (f := fun (s : Int × (List Int)) => rolodexref04_Digits_L3 (k : Int) h (csb k h.toList) (bitsN k : Int) s.1 s.2) (fun i (_ : Unit) => ((i : Int), (digs (bitsN k) (h.toList ++ csb k h.toList)).take i)) (fun _ s => s) 0 (chainsN k) (fun i s h1 h2 => by
    simp only [rolodexref04_Digits_L3]
    have hcl := chains_le hk
    have hil : i < (h.toList ++ csb k h.toList).length * (8 / bitsN k) := by rw [hlen]; omega
    rw [bind_some' (rchains_eq hk), if_t (by simp; omega)]
    have hd := rdigit_eq hk (h.toList ++ csb k h.toList) i hil (by rw [hlen]; omega)
    rw [List.nil_append, bind_some' hd, if_t (by simp [AP]; omega), w64_eq (n := (i : Int) + 1) (by omega)]
    rw [List.take_add_one, digs_get _ hb0 _ _ hil]; rfl) (fun s => by
    simp only [rolodexref04_Digits_L3]
    rw [bind_some' (rchains_eq hk), if_f (by simp)]) FU () (by omega) (fu_lt (by omega))
  have h3' : loopS (fun (s : Int × (List Int)) => rolodexref04_Digits_L3 (k : Int) h (csb k h.toList) (bitsN k : Int) s.1 s.2) FU ((0 : Int), []) = some ((chainsN k : Int), digl k h) := by
    simpa [digl] using h3
  rw [bind_some' h3']
end Pu
end Go.Sl
