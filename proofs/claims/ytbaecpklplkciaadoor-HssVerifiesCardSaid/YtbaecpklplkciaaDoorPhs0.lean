import Derived.Test.YtbaecpklplkciaaDoorPls3
set_option linter.unusedSimpArgs false
set_option linter.unusedVariables false
set_option maxRecDepth 20000
/-! Bytes side by side. -/
namespace Go.Sl.Pu
open Go.Sl Go.Sl.M
theorem hap_ok {n : Nat} (h : n ≤ 4294967296) : n ≤ AP := h
theorem hgrow_eq (n : Nat) (h : n ≤ 4294967296) : slices_Grow_byte_byte_nilsl (n : Int) = some [] := by
  unfold slices_Grow_byte_byte_nilsl
  rw [if_f (by rw [decide_eq_true_eq]; omega), show w64 ((0 : Int) - 0) = 0 from rfl, w64_id (n := (n : Int) - 0) (by omega) (by omega), Option.bind_some]
  by_cases h0 : 0 < n
  · rw [if_t (by rw [decide_eq_true_eq]; omega), if_t ⟨by omega, by omega⟩, if_t ⟨by omega, by omega⟩]; simp
  · rw [if_f (by rw [decide_eq_true_eq]; omega)]
theorem hconcat_eq (L : List (List (BitVec 8))) (h : L.flatten.length ≤ 4000000000) (hL : L.length ≤ 1000) : slices_Concat_byte_byte L = some L.flatten := by
  unfold slices_Concat_byte_byte
  have hpre : ∀ i, i ≤ L.length → (L.take i).flatten.length ≤ 4000000000 := fun i hi => by
    have : L.flatten.length = (L.take i).flatten.length + (L.drop i).flatten.length := by
      rw [← List.length_append, ← List.flatten_append, List.take_append_drop]
    omega
  have hsucc : ∀ i (hi : i < L.length), (L.take (i + 1)).flatten = (L.take i).flatten ++ L[i] := fun i hi => by
    rw [List.take_succ_eq_append_getElem hi, List.flatten_append]; simp
  have h1 := loopS_cnt (f := fun (s : Int × Int) => slices_Concat_byte_byte_L1 L s.1 s.2) (fun i (_ : Unit) => ((((L.take i).flatten.length : Nat) : Int), (i : Int))) (fun _ s => s) 0 L.length (fun i s _ hi => by
    simp only [slices_Concat_byte_byte_L1]
    have h2 := hpre (i + 1) hi
    have h3 : (L.take (i + 1)).flatten.length = (L.take i).flatten.length + L[i].length := by rw [hsucc i hi, List.length_append]
    rw [if_t (by rw [decide_eq_true_eq]; omega), bind_some' (lget_at rfl hi), w64_id (n := (((L.take i).flatten.length : Nat) : Int) + (L[i].length : Int)) (by omega) (by omega), if_f (by rw [decide_eq_true_eq]; omega), w64_id (n := (i : Int) + 1) (by omega) (by omega), h3]
    rfl) (fun s => by
    simp only [slices_Concat_byte_byte_L1]
    rw [if_f (by rw [decide_eq_true_eq]; omega)]) FU () (by omega) (fu_lt (by omega))
  have h1' : loopS (fun (s : Int × Int) => slices_Concat_byte_byte_L1 L s.1 s.2) FU ((0 : Int), (0 : Int)) = some ((((L.take L.length).flatten.length : Nat) : Int), (L.length : Int)) := h1
  rw [bind_some' h1', bind_some' (hgrow_eq _ (by have := hpre L.length (Nat.le_refl _); omega))]
  have h4 := loopS_cnt (f := fun (s : Int × (List (BitVec 8))) => slices_Concat_byte_byte_L2 L s.1 s.2) (fun i (_ : Unit) => ((i : Int), (L.take i).flatten)) (fun _ s => s) 0 L.length (fun i s _ hi => by
    simp only [slices_Concat_byte_byte_L2]
    have h2 := hpre (i + 1) hi
    have h3 : (L.take (i + 1)).flatten.length = (L.take i).flatten.length + L[i].length := by rw [hsucc i hi, List.length_append]
    rw [if_t (by rw [decide_eq_true_eq]; omega), bind_some' (lget_at rfl hi), if_t (hap_ok (by omega)), w64_id (n := (i : Int) + 1) (by omega) (by omega), hsucc i hi]
    rfl) (fun s => by
    simp only [slices_Concat_byte_byte_L2]
    rw [if_f (by rw [decide_eq_true_eq]; omega)]) FU () (by omega) (fu_lt (by omega))
  have h4' : loopS (fun (s : Int × (List (BitVec 8))) => slices_Concat_byte_byte_L2 L s.1 s.2) FU ((0 : Int), ([] : List (BitVec 8))) = some ((L.length : Int), (L.take L.length).flatten) := h4
  rw [bind_some' h4', List.take_length]
end Go.Sl.Pu
