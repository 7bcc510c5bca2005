import Derived.Test.YtheldkljmefbaaaGreatDoorPlm3
set_option linter.unusedSimpArgs false
set_option linter.unusedVariables false
namespace Go.Sl.Pu
open Go.Sl Go.Sl.M
/-! ## What was signed leads to the public key -/
theorem take4 (k : Nat) (id : T_api_ID) (q : BitVec 32) (seed : T_api_Hash) (msg : List (BitVec 8)) : (sigk k id q seed msg).take 4 = be (BitVec.ofNat 32 k) 4 := by
  unfold sigk
  rw [List.append_assoc, List.take_append_of_le_length (by rw [be_len]; exact Nat.le_refl _), List.take_of_length_le (by rw [be_len]; exact Nat.le_refl _)]
theorem sigk_sig {k : Nat} (hk : IsKind k) (id : T_api_ID) (q : BitVec 32) (seed : T_api_Hash) (msg : List (BitVec 8)) : IsSig k (sigk k id q seed msg) := by
  refine ⟨hk, sigk_len id q seed msg, ?_⟩
  rw [take4, val_four]
  rcases hk with rfl | rfl | rfl | rfl <;> rfl
theorem sigk_salt (k : Nat) (id : T_api_ID) (q : BitVec 32) (seed : T_api_Hash) (msg : List (BitVec 8)) : ((sigk k id q seed msg).drop 4).take 32 = (saltv id q seed).toList := by
  unfold sigk
  rw [List.append_assoc, List.drop_left' (be_len _ _), List.take_left' (by simp)]
theorem cat_hat (pre : List (BitVec 8)) (n : Nat) (f : Nat → T_api_Hash) (i : Nat) (hi : i < n) (p : Nat) (hp : pre.length = p) : hat (pre ++ cat n f) (p + 32 * i) = f i := by
  apply Vector.toList_inj.1
  rw [hat_toList _ _ (by rw [List.length_append, cat_len, hp]; omega)]
  have e : pre ++ cat n f = (pre ++ cat i f) ++ ((f i).toList ++ ((List.range (n - (i + 1))).flatMap fun j => (f (i + 1 + j)).toList)) := by
    rw [List.append_assoc]
    congr 1
    have hn : n = i + (1 + (n - (i + 1))) := by omega
    conv => lhs; rw [hn]
    unfold cat
    rw [List.range_add, List.flatMap_append, List.range_add, List.map_append, List.flatMap_append]
    simp [List.flatMap_map, Nat.add_assoc]
  rw [e, List.drop_left' (by rw [List.length_append, cat_len, hp]), List.take_left' (by simp)]
theorem recov_sigk {k : Nat} (hk : IsKind k) (id : T_api_ID) (q : BitVec 32) (seed : T_api_Hash) (msg : List (BitVec 8)) : recov k id q msg (sigk k id q seed msg) = pubk k id q seed := by
  unfold recov pubk
  rw [sigk_salt]
  refine congrArg (und id q 32896) (cat_congr fun i hi => ?_)
  have hd := dgt_le hk (und id q 33153 ((saltv id q seed).toList ++ msg)) i
  have e : hat (sigk k id q seed msg) (36 + 32 * i) = steps id q i 0 (dgt (sdig k id q (saltv id q seed).toList msg) i) (begn id q i seed) := by
    unfold sigk
    exact cat_hat _ _ (fun i => steps id q i 0 (dgt (sdig k id q (saltv id q seed).toList msg) i) (begn id q i seed)) i hi 36 (by simp [be_len])
  rw [e]
  have hd' : dgt (sdig k id q (saltv id q seed).toList msg) i ≤ mostN k := hd
  have := steps_add id q i 0 (dgt (sdig k id q (saltv id q seed).toList msg) i) (mostN k - dgt (sdig k id q (saltv id q seed).toList msg) i) (begn id q i seed)
  rw [Nat.zero_add] at this
  rw [← this]; congr 1; omega
end Go.Sl.Pu
