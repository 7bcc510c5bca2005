import Derived.Test.YtbaecpklplkciaaDoorPwire
set_option linter.unusedSimpArgs false
set_option linter.unusedVariables false
namespace Go.Sl.Pu
open Go.Sl Go.Sl.M
/-! ## Hashes under numbers -/
def und (id : T_api_ID) (q : BitVec 32) (i : Nat) (b : List (BitVec 8)) : T_api_Hash := sha (((id.toList ++ be q 4) ++ be (BitVec.ofNat 16 i) 2) ++ b)
theorem be16 (i : Nat) : be (BitVec.ofNat 16 i) 2 = [BitVec.ofNat 8 (i / 256), BitVec.ofNat 8 i] := by
  rw [be2]
  have a1 : ((BitVec.ofNat 16 i) >>> 8).setWidth 8 = BitVec.ofNat 8 (i / 256) := by apply BitVec.eq_of_toNat_eq; simp [Nat.shiftRight_eq_div_pow]; omega
  have a2 : (BitVec.ofNat 16 i).setWidth 8 = BitVec.ofNat 8 i := by apply BitVec.eq_of_toNat_eq; simp
  rw [a1, a2]
theorem be64_16 (i : Nat) : be (BitVec.ofNat 64 i) 2 = be (BitVec.ofNat 16 i) 2 := by
  rw [be2, be16]
  have a1 : ((BitVec.ofNat 64 i) >>> 8).setWidth 8 = BitVec.ofNat 8 (i / 256) := by apply BitVec.eq_of_toNat_eq; simp [Nat.shiftRight_eq_div_pow]; omega
  have a2 : (BitVec.ofNat 64 i).setWidth 8 = BitVec.ofNat 8 i := by apply BitVec.eq_of_toNat_eq; simp
  rw [a1, a2]
theorem be4v (q : BitVec 32) : be q 4 = [(q >>> 24).setWidth 8, (q >>> 16).setWidth 8, (q >>> 8).setWidth 8, q.setWidth 8] := by simp [be, List.range_succ]
theorem ofInt64 (n : Nat) : BitVec.ofInt 64 (n : Int) = BitVec.ofNat 64 n := by apply BitVec.eq_of_toNat_eq; simp
theorem ofInt8 (n : Nat) : BitVec.ofInt 8 (n : Int) = BitVec.ofNat 8 n := by apply BitVec.eq_of_toNat_eq; simp
theorem ofInt32 (n : Nat) : BitVec.ofInt 32 (n : Int) = BitVec.ofNat 32 n := by apply BitVec.eq_of_toNat_eq; simp
def tot (parts : List (List (BitVec 8))) : Nat := (parts.map List.length).sum
theorem take_tot (parts : List (List (BitVec 8))) : ∀ i, (parts.take i).flatten.length ≤ tot parts := by
  induction parts with
  | nil => intro i; simp [tot]
  | cons p r ih =>
    intro i
    cases i with
    | zero => simp
    | succ i =>
      have := ih i
      simp only [tot, List.map_cons, List.sum_cons] at *
      simp only [List.take_succ_cons, List.flatten_cons, List.length_append]; omega
theorem under_eq (id : T_api_ID) (q : BitVec 32) (i : Nat) (parts : List (List (BitVec 8))) (hp : tot parts ≤ 3000000000) (hl : parts.length ≤ 1000000) :
    lmots_under id q (i : Int) parts = some (und id q i parts.flatten) := by
  unfold lmots_under
  have e8 : ishr (i : Int) 8 = ((i / 256 : Nat) : Int) := ishr_nat i 8 (by omega)
  have eh : ([(q >>> 24).setWidth 8, (q >>> 16).setWidth 8, (q >>> 8).setWidth 8, q.setWidth 8, BitVec.ofInt 8 (ishr (i : Int) 8), BitVec.ofInt 8 (i : Int)] : List (BitVec 8)) = be q 4 ++ be (BitVec.ofNat 16 i) 2 := by
    rw [e8, ofInt8, ofInt8, be4v, be16]; rfl
  rw [eh, if_t (by omega), if_t (by simp [AP]), if_t (by simp [AP, be_len])]
  have h := loopS_cnt (f := fun (s : Int × (List (BitVec 8))) => lmots_under_L1 parts s.1 s.2) (fun j (_ : Unit) => ((j : Int), (([] ++ id.toList) ++ (be q 4 ++ be (BitVec.ofNat 16 i) 2)) ++ (parts.take j).flatten)) (fun _ s => s) 0 parts.length (fun j s h1 h2 => by
    simp only [lmots_under_L1]
    have h3 := take_tot parts (j + 1)
    rw [List.take_succ_eq_append_getElem h2, List.flatten_append, List.length_append] at h3
    rw [if_t (by simp; omega), bind_some' (lget_at rfl h2), if_t (by simp [AP, be_len] at h3 ⊢; omega), w64_eq (n := (j : Int) + 1) (by omega), List.take_succ_eq_append_getElem h2, List.flatten_append]
    simp) (fun s => by
    simp only [lmots_under_L1]
    rw [if_f (by simp)]) FU () (by omega) (fu_lt (by omega))
  have h' : loopS (fun (s : Int × (List (BitVec 8))) => lmots_under_L1 parts s.1 s.2) FU ((0 : Int), ([] ++ id.toList) ++ (be q 4 ++ be (BitVec.ofNat 16 i) 2)) = some ((parts.length : Int), (([] ++ id.toList) ++ (be q 4 ++ be (BitVec.ofNat 16 i) 2)) ++ parts.flatten) := by
    simpa using h
  rw [bind_some' h']
  have h3 := take_tot parts parts.length
  rw [List.take_length] at h3
  rw [bind_some' (sum_eq _ (by simp [be_len] at h3 ⊢; omega))]
  unfold und
  simp
theorem rUnder_eq (id : T_api_ID) (q : BitVec 32) (i : Nat) (b : List (BitVec 8)) (hp : b.length ≤ 3000000000) : rolodexref04_Under id q (i : Int) b = some (und id q i b) := by
  unfold rolodexref04_Under
  have h1 : rolodexref01_Number (q.setWidth 64) (4 : Int) = some (be q 4) := by
    rw [← be_setWidth q 4 (by omega) (by omega)]; exact number_eq _ 4 (by omega)
  have h2 : rolodexref01_Number (BitVec.ofInt 64 (i : Int)) (2 : Int) = some (be (BitVec.ofNat 16 i) 2) := by
    rw [ofInt64, ← be64_16]; exact number_eq _ 2 (by omega)
  rw [if_t (by simp [AP]), bind_some' h1, if_t (by simp [AP, be_len]), bind_some' h2, if_t (by simp [AP, be_len]), if_t (by simp [AP, be_len]; omega), bind_some' (sumr_eq _ (by simp [be_len]; omega))]
  rfl
def begn (id : T_api_ID) (q : BitVec 32) (i : Nat) (seed : T_api_Hash) : T_api_Hash := und id q i (255#8 :: seed.toList)
theorem secret_eq (id : T_api_ID) (q : BitVec 32) (i : Nat) (seed : T_api_Hash) : lmots_secret id q (i : Int) seed = some (begn id q i seed) := by
  unfold lmots_secret
  rw [bind_some' (under_eq id q i _ (by simp [tot]) (by simp))]
  simp [begn]
theorem with_eq (c : BitVec 8) (b : List (BitVec 8)) (h : b.length ≤ 4000000000) : rolodexref04_with c b = some (c :: b) := by
  unfold rolodexref04_with
  rw [if_t (by simp [AP]; omega)]; rfl
/-! ## Chains -/
def stepc (id : T_api_ID) (q : BitVec 32) (i : Nat) (j : Nat) (h : T_api_Hash) : T_api_Hash := und id q i (BitVec.ofNat 8 j :: h.toList)
def steps (id : T_api_ID) (q : BitVec 32) (i : Nat) (fr n : Nat) (h : T_api_Hash) : T_api_Hash := foldN (stepc id q i) fr n h
theorem chain_eq (id : T_api_ID) (q : BitVec 32) (i : Nat) (h : T_api_Hash) (fr to : Nat) (h1 : fr ≤ to) (h2 : to ≤ 1000) : lmots_chain id q (i : Int) h (fr : Int) (to : Int) = some (steps id q i fr (to - fr) h) := by
  unfold lmots_chain
  have hl := loopS_cnt (f := fun (s : Int × T_api_Hash) => lmots_chain_L1 (to : Int) id q (i : Int) s.1 s.2) (fun j (h : T_api_Hash) => ((j : Int), h)) (stepc id q i) fr to (fun j s h1 h2 => by
    simp only [lmots_chain_L1]
    rw [if_t (by simp; omega), bind_some' (under_eq id q i _ (by simp [tot]) (by simp)), w64_eq (n := (j : Int) + 1) (by omega), ofInt8]
    simp [stepc]) (fun s => by
    simp only [lmots_chain_L1]
    rw [if_f (by simp)]) FU h h1 (fu_lt (by omega))
  rw [bind_some' hl]; rfl
theorem rSteps_eq (id : T_api_ID) (q : BitVec 32) (i : Nat) (h : T_api_Hash) (fr to : Nat) (h1 : fr ≤ to) (h2 : to ≤ 1000) : rolodexref04_Steps id q (i : Int) h (fr : Int) (to : Int) = some (steps id q i fr (to - fr) h) := by
  unfold rolodexref04_Steps
  have hl := loopS_cnt (f := fun (s : Int × T_api_Hash) => rolodexref04_Steps_L1 (to : Int) id q (i : Int) s.1 s.2) (fun j (h : T_api_Hash) => ((j : Int), h)) (stepc id q i) fr to (fun j s h1 h2 => by
    simp only [rolodexref04_Steps_L1]
    rw [if_t (by simp; omega), bind_some' (with_eq _ _ (by simp)), bind_some' (rUnder_eq id q i _ (by simp)), w64_eq (n := (j : Int) + 1) (by omega), ofInt8]
    simp [stepc]) (fun s => by
    simp only [rolodexref04_Steps_L1]
    rw [if_f (by simp)]) FU h h1 (fu_lt (by omega))
  rw [bind_some' hl]; rfl
def mostN (k : Nat) : Nat := 2 ^ bitsN k - 1
theorem mostN_le {k : Nat} (hk : IsKind k) : mostN k ≤ 255 := by rcases hk with rfl | rfl | rfl | rfl <;> simp [mostN, bitsN]
theorem chainsN_le {k : Nat} (hk : IsKind k) : chainsN k ≤ 265 := by rcases hk with rfl | rfl | rfl | rfl <;> simp [chainsN]
theorem digl_le {k : Nat} (hk : IsKind k) {h : T_api_Hash} {d : Int} (hd : d ∈ digl k h) : ∃ n : Nat, d = (n : Int) ∧ n ≤ mostN k := by
  obtain ⟨h0, h1⟩ := digl_mem hd
  exact ⟨d.toNat, by omega, by unfold mostN; omega⟩
/-- Hashes one behind the other. -/
def cat (n : Nat) (f : Nat → T_api_Hash) : List (BitVec 8) := (List.range n).flatMap fun i => (f i).toList
theorem cat_succ (n : Nat) (f : Nat → T_api_Hash) : cat (n + 1) f = cat n f ++ (f n).toList := by simp [cat, List.range_succ]
theorem cat_len (n : Nat) (f : Nat → T_api_Hash) : (cat n f).length = 32 * n := by
  induction n with
  | zero => rfl
  | succ n ih => rw [cat_succ, List.length_append, ih, Vector.length_toList]; omega
theorem folded_eq (id : T_api_ID) (q : BitVec 32) (n : Nat) (f : Nat → T_api_Hash) (hn : n ≤ 1000000) : lmots_folded id q ((List.range n).map f) = some (und id q 32896 (cat n f)) := by
  unfold lmots_folded
  have hl : ((List.range n).map f).length = n := by simp
  rw [hl, w64_id (n := 32 * (n : Int)) (by omega) (by omega), if_t (by omega)]
  have h := loopS_cnt (f := fun (s : Int × (List (BitVec 8))) => lmots_folded_L1 ((List.range n).map f) s.1 s.2) (fun j (_ : Unit) => ((j : Int), cat j f)) (fun _ s => s) 0 n (fun j s h1 h2 => by
    simp only [lmots_folded_L1, hl]
    rw [if_t (by simp; omega), bind_some' (lget_at rfl (by rw [hl]; exact h2)), if_t (by rw [cat_len]; simp [AP]; omega), w64_eq (n := (j : Int) + 1) (by omega), cat_succ]
    simp) (fun s => by
    simp only [lmots_folded_L1, hl]
    rw [if_f (by simp)]) FU () (by omega) (fu_lt (by omega))
  have h' : loopS (fun (s : Int × (List (BitVec 8))) => lmots_folded_L1 ((List.range n).map f) s.1 s.2) FU ((0 : Int), []) = some ((n : Int), cat n f) := h
  have hu : lmots_under id q (32896 : Int) [cat n f] = _ := under_eq id q 32896 [cat n f] (by simp [tot, cat_len]; omega) (by simp)
  rw [bind_some' h', bind_some' hu]
  simp
/-- A list that is filled from the front. -/
theorem set_fill {α : Type} (n i : Nat) (g : Nat → α) (z x : α) (h : i < n) (hx : x = g i) : ((List.range i).map g ++ List.replicate (n - i) z).set i x = (List.range (i + 1)).map g ++ List.replicate (n - (i + 1)) z := by
  rw [List.set_append_right _ _ (by simp)]
  have e : n - i = (n - (i + 1)) + 1 := by omega
  rw [e, List.replicate_succ, List.range_succ, List.map_append]
  simp [hx]
def pubk (k : Nat) (id : T_api_ID) (q : BitVec 32) (seed : T_api_Hash) : T_api_Hash := und id q 32896 (cat (chainsN k) fun i => steps id q i 0 (mostN k) (begn id q i seed))
theorem public_eq {k : Nat} (hk : IsKind k) (id : T_api_ID) (q : BitVec 32) (seed : T_api_Hash) : lmots_Public (k : Int) id q seed = some (pubk k id q seed, 0) := by
  unfold lmots_Public
  have hc := chainsN_le hk
  have hm := mostN_le hk
  rw [bind_some' (of_eq hk), if_f (by simp)]
  simp only []
  rw [if_t (show 0 ≤ (chainsN k : Int) ∧ (chainsN k : Int) ≤ 4294967296 by omega), Int.toNat_natCast]
  let g : Nat → T_api_Hash := fun i => steps id q i 0 (mostN k) (begn id q i seed)
  have hmost : lmots_form_most (frm k) = some (mostN k : Int) := most_eq hk
  have h := loopS_cnt (f := fun (s : Int × (List T_api_Hash)) => lmots_Public_L1 (List.replicate (chainsN k) (Vector.replicate 32 (0#8))) id q seed (frm k, true) s.1 s.2) (fun j (_ : Unit) => ((j : Int), (List.range j).map g ++ List.replicate (chainsN k - j) (Vector.replicate 32 (0#8)))) (fun _ s => s) 0 (chainsN k) (fun j s h1 h2 => by
    simp only [lmots_Public_L1]
    have hch := chain_eq id q j (begn id q j seed) 0 (mostN k) (by omega) (by omega)
    have hch' : lmots_chain id q (j : Int) (begn id q j seed) (0 : Int) (mostN k : Int) = _ := hch
    rw [if_t (by simp; omega), bind_some' (secret_eq id q j seed), bind_some' hmost, bind_some' hch', if_t (by simp; omega), w64_eq (n := (j : Int) + 1) (by omega), Int.toNat_natCast, set_fill (chainsN k) j g (Vector.replicate 32 (0#8)) (steps id q j 0 (mostN k - 0) (begn id q j seed)) h2 rfl]
    rfl) (fun s => by
    simp only [lmots_Public_L1]
    rw [if_f (by simp)]) FU () (by omega) (fu_lt (by omega))
  have h' : loopS (fun (s : Int × (List T_api_Hash)) => lmots_Public_L1 (List.replicate (chainsN k) (Vector.replicate 32 (0#8))) id q seed (frm k, true) s.1 s.2) FU ((0 : Int), List.replicate (chainsN k) (Vector.replicate 32 (0#8))) = some ((chainsN k : Int), (List.range (chainsN k)).map g) := by simpa using h
  rw [Option.bind_some, bind_some' h', bind_some' (folded_eq id q _ g (by omega))]
  rfl
end Go.Sl.Pu
