import Derived.Test.YtodeiommhponnaaDoorPsum2
set_option linter.unusedSimpArgs false
set_option linter.unusedVariables false
namespace Go.Sl
/-- A loop that looks for the first place where something is told. -/
theorem loopO_scan {τ ρ : Type} {f : τ → Option (LR τ ρ)} (en : Nat → τ) (n : Nat) (r : Nat → Option ρ) (h : ∀ i, i < n → f (en i) = some (match r i with | some x => .ret x | none => .next (en (i + 1)))) (he : f (en n) = some (.brk (en n))) (hn : n ≤ 9000000000) :
    loopO f FU (en 0) = some (match (List.range n).findSome? r with | some x => .inr x | none => .inl (en n)) := by
  have key : ∀ (d i fuel : Nat), i + d = n → d < fuel → loopO f fuel (en i) = some (match ((List.range' i d).findSome? r) with | some x => .inr x | none => .inl (en n)) := by
    intro d
    induction d with
    | zero =>
      intro i fuel hi hf
      cases fuel with
      | zero => omega
      | succ fuel =>
        have : i = n := by omega
        subst this
        rw [loopO_brk he]; rfl
    | succ d ih =>
      intro i fuel hi hf
      cases fuel with
      | zero => omega
      | succ fuel =>
        have h1 := h i (by omega)
        rw [List.range'_succ, List.findSome?_cons]
        cases hr : r i with
        | some x => rw [hr] at h1; rw [loopO_ret h1]
        | none => rw [hr] at h1; rw [loopO_next h1, ih (i + 1) fuel (by omega) (by omega)]
  have := key n 0 FU (by omega) (fu_lt hn)
  rw [← List.range_eq_range'] at this
  exact this
theorem find_none {ρ : Type} {n : Nat} {r : Nat → Option ρ} (h : ∀ i, i < n → r i = none) : (List.range n).findSome? r = none := by
  rw [List.findSome?_eq_none_iff]
  intro i hi; exact h i (List.mem_range.1 hi)
/-- Where it can be told but one thing. -/
theorem find_some {ρ : Type} {n : Nat} {r : Nat → Option ρ} {x : ρ} (h : ∀ i, i < n → r i = none ∨ r i = some x) (hx : ∃ i, i < n ∧ r i ≠ none) : (List.range n).findSome? r = some x := by
  cases hf : (List.range n).findSome? r with
  | none =>
    rw [List.findSome?_eq_none_iff] at hf
    obtain ⟨i, hi, hr⟩ := hx
    exact absurd (hf i (List.mem_range.2 hi)) hr
  | some y =>
    obtain ⟨i, hi, hr⟩ := List.exists_of_findSome?_eq_some hf
    rcases h i (List.mem_range.1 hi) with h | h
    · rw [h] at hr; cases hr
    · rw [h] at hr; exact hr.symm
namespace Pu
open Go.Sl Go.Sl.M
theorem same_eq (a b : List (BitVec 8)) (ha : a.length ≤ 4294967296) : rolodexref01_Same a b = some (decide (a = b)) := by
  unfold rolodexref01_Same
  by_cases hl : a.length = b.length
  · rw [if_f (by simp [hl])]
    have h1 := loopO_scan (f := fun (s : Int) => rolodexref01_Same_L1 a b s) (fun i => (i : Int)) a.length (fun i => if a[i]? = b[i]? then none else some false) (fun i hi => by
      simp only [rolodexref01_Same_L1]
      rw [if_t (by simp; omega), bind_some' (lget_at rfl hi), bind_some' (lget_at rfl (by omega)), w64_eq (by omega)]
      rw [List.getElem?_eq_getElem hi, List.getElem?_eq_getElem (show i < b.length by omega)]
      by_cases he : a[i] = b[i]
      · rw [if_f (by simp [he]), if_pos (by rw [he])]; rfl
      · rw [if_t (by simp [he]), if_neg (by simpa using he)]) (by
      simp only [rolodexref01_Same_L1]
      rw [if_f (by simp)]) (by omega)
    have h1' : loopO (fun (s : Int) => rolodexref01_Same_L1 a b s) FU (0 : Int) = _ := h1
    rw [bind_some' h1']
    by_cases hab : a = b
    · rw [find_none (fun i hi => by rw [hab]; simp)]
      simp [hab]
    · rw [find_some (x := false) (fun i hi => by split <;> simp) (by
        apply Decidable.byContradiction
        intro hc
        apply hab
        apply List.ext_getElem? 
        intro i
        by_cases hi : i < a.length
        · apply Decidable.byContradiction
          intro hn
          exact hc ⟨i, hi, by rw [if_neg hn]; simp⟩
        · rw [List.getElem?_eq_none (by omega), List.getElem?_eq_none (by omega)])]
      simp [hab]
  · rw [if_t (by simp; omega)]
    have : a ≠ b := fun e => hl (by rw [e])
    simp [this]
def body (parts : List (List (BitVec 8))) : List (BitVec 8) := parts.flatMap fun p => be (BitVec.ofNat 32 p.length) 4 ++ p
def text (tag : BitVec 8) (parts : List (List (BitVec 8))) : List (BitVec 8) := tag :: body parts
def tsize (parts : List (List (BitVec 8))) : Nat := (parts.map fun p => 4 + p.length).sum
theorem body_len (parts : List (List (BitVec 8))) : (body parts).length = tsize parts := by
  unfold body tsize
  rw [List.length_flatMap]
  congr 1
  apply List.map_congr_left
  intro p _
  rw [List.length_append, be_len]
theorem tsize_take (parts : List (List (BitVec 8))) (i : Nat) (hi : i < parts.length) : tsize (parts.take (i + 1)) = tsize (parts.take i) + (4 + parts[i].length) := by
  unfold tsize
  rw [List.take_succ_eq_append_getElem hi]; simp only [List.map_append, List.map_cons, List.map_nil, List.sum_append, List.sum_cons, List.sum_nil, Nat.add_zero]
theorem body_take (parts : List (List (BitVec 8))) (i : Nat) (hi : i < parts.length) : body (parts.take (i + 1)) = (body (parts.take i) ++ be (BitVec.ofNat 32 parts[i].length) 4) ++ parts[i] := by
  unfold body
  rw [List.take_succ_eq_append_getElem hi]; simp only [List.flatMap_append, List.flatMap_cons, List.flatMap_nil, List.append_nil, List.append_assoc]
theorem tsize_le (parts : List (List (BitVec 8))) (i : Nat) : tsize (parts.take i) ≤ tsize parts := by
  unfold tsize
  conv => rhs; rw [← List.take_append_drop i parts]
  rw [List.map_append, List.sum_append]; omega
theorem be4 (n : Nat) : be (BitVec.ofNat 32 n) 4 = [((BitVec.ofInt 32 (n : Int)) >>> 24).setWidth 8, ((BitVec.ofInt 32 (n : Int)) >>> 16).setWidth 8, ((BitVec.ofInt 32 (n : Int)) >>> 8).setWidth 8, (BitVec.ofInt 32 (n : Int)).setWidth 8] := by
  have e : BitVec.ofInt 32 (n : Int) = BitVec.ofNat 32 n := by
    apply BitVec.eq_of_toNat_eq; simp
  rw [e]
  simp [be, List.range_succ]
theorem be4_64 (n : Nat) : be (BitVec.ofNat 64 n) 4 = be (BitVec.ofNat 32 n) 4 := by
  simp only [be]
  apply List.map_congr_left
  intro j hj
  have hj := List.mem_range.1 hj
  apply BitVec.eq_of_toNat_eq
  simp only [BitVec.toNat_setWidth, BitVec.toNat_ushiftRight, BitVec.toNat_ofNat, Nat.shiftRight_eq_div_pow]
  have : j = 0 ∨ j = 1 ∨ j = 2 ∨ j = 3 := by omega
  rcases this with rfl | rfl | rfl | rfl <;> simp <;> omega
theorem tsize_len : ∀ (parts : List (List (BitVec 8))), 4 * parts.length ≤ tsize parts
  | [] => by simp
  | q :: r => by
    have e : tsize (q :: r) = 4 + q.length + tsize r := by simp [tsize]
    have := tsize_len r
    rw [e, List.length_cons]; omega
theorem text_eq (tag : BitVec 8) (parts : List (List (BitVec 8))) (hs : tsize parts ≤ 4000000000) : hash_Text tag parts = some (text tag parts) := by
  have hpl := tsize_len parts
  unfold hash_Text
  have h1 := loopS_cnt (f := fun (s : Int × Int) => hash_Text_L1 parts s.1 s.2) (fun i (_ : Unit) => ((1 + tsize (parts.take i) : Nat), (i : Int))) (fun _ s => s) 0 parts.length (fun i s h1 h2 => by
      simp only [hash_Text_L1]
      have h3 := tsize_take parts i h2
      have h4 := tsize_le parts (i + 1)
      rw [if_t (by simp; omega), bind_some' (lget_at rfl h2), w64_eq (n := 4 + (parts[i].length : Int)) (by omega), w64_eq (by omega), Option.bind_some, w64_eq (n := (i : Int) + 1) (by omega), h3]
      have : ((1 + tsize (parts.take i) : Nat) : Int) + (4 + (parts[i].length : Int)) = ((1 + (tsize (parts.take i) + (4 + parts[i].length)) : Nat) : Int) := by omega
      rw [this]; rfl) (fun s => by
      simp only [hash_Text_L1]
      rw [if_f (by simp)]) FU () (by omega) (fu_lt (by omega))
  have e0 : (((1 : Int), (0 : Int)) : Int × Int) = (((1 + tsize (parts.take 0) : Nat) : Int), ((0 : Nat) : Int)) := by simp [tsize]
  rw [e0, bind_some' h1, List.take_length]
  rw [if_t ⟨by omega, by omega⟩, if_t (by simp [AP])]
  have h2 := loopS_cnt (f := fun (s : Int × (List (BitVec 8))) => hash_Text_L2 parts s.1 s.2) (fun i (_ : Unit) => ((i : Int), tag :: body (parts.take i))) (fun _ s => s) 0 parts.length (fun i s h1 h2 => by
      simp only [hash_Text_L2]
      have h3 := tsize_take parts i h2
      have h4 := tsize_le parts (i + 1)
      have h5 := body_len (parts.take i)
      rw [if_t (by simp; omega), bind_some' (lget_at rfl h2), if_t (by simp [AP]; omega), if_t (by simp [AP]; omega), w64_eq (n := (i : Int) + 1) (by omega), ← be4, body_take parts i h2]
      rfl) (fun s => by
      simp only [hash_Text_L2]
      rw [if_f (by simp)]) FU () (by omega) (fu_lt (by omega))
  have e1 : (((0 : Int), ([] : List (BitVec 8)) ++ [tag]) : Int × List (BitVec 8)) = (((0 : Nat) : Int), tag :: body (parts.take 0)) := by simp [body]
  rw [e1, bind_some' h2, List.take_length]
  rfl
theorem rtext_eq (tag : BitVec 8) (parts : List (List (BitVec 8))) (hs : tsize parts ≤ 4000000000) : rolodexref02_Text tag parts = some (text tag parts) := by
  have hpl := tsize_len parts
  unfold rolodexref02_Text
  have h2 := loopS_cnt (f := fun (s : Int × (List (BitVec 8))) => rolodexref02_Text_L1 parts s.1 s.2) (fun i (_ : Unit) => ((i : Int), tag :: body (parts.take i))) (fun _ s => s) 0 parts.length (fun i s h1 h2 => by
      simp only [rolodexref02_Text_L1]
      have h3 := tsize_take parts i h2
      have h4 := tsize_le parts (i + 1)
      have h5 := body_len (parts.take i)
      have e64 : BitVec.ofInt 64 (parts[i].length : Int) = BitVec.ofNat 64 parts[i].length := by
        apply BitVec.eq_of_toNat_eq; simp
      have hnum : rolodexref01_Number (BitVec.ofInt 64 (parts[i].length : Int)) 4 = some (be (BitVec.ofNat 32 parts[i].length) 4) := by
        rw [e64, ← be4_64]; exact number_eq _ 4 (by omega)
      rw [if_t (by simp; omega), bind_some' (lget_at rfl h2), bind_some' hnum, if_t (by simp [AP, be_len]; omega), bind_some' (lget_at rfl h2), if_t (by simp [AP, be_len]; omega), w64_eq (n := (i : Int) + 1) (by omega), body_take parts i h2]
      rfl) (fun s => by
      simp only [rolodexref02_Text_L1]
      rw [if_f (by simp)]) FU () (by omega) (fu_lt (by omega))
  have e1 : (((0 : Int), [tag]) : Int × List (BitVec 8)) = (((0 : Nat) : Int), tag :: body (parts.take 0)) := by simp [body]
  rw [e1, bind_some' h2, List.take_length]
  rfl
theorem text_len (tag : BitVec 8) (parts : List (List (BitVec 8))) : (text tag parts).length = tsize parts + 1 := by
  unfold text; rw [List.length_cons, body_len]
end Pu
end Go.Sl
