set_option linter.unusedVariables false
namespace Go.Sl
def w64 (n : Int) : Int := (n + 9223372036854775808) % 18446744073709551616 - 9223372036854775808
theorem Jk {n : Int} (h : -9223372036854775808 ≤ n ∧ n < 9223372036854775808) : w64 n = n := by unfold w64; omega
def QfG (p q : Int) : Int := w64 ((BitVec.ofInt 64 p &&& BitVec.ofInt 64 q).toNat : Int)
def Qk8 (p q : Int) : Int := w64 ((BitVec.ofInt 64 p ^^^ BitVec.ofInt 64 q).toNat : Int)
def Xq (p : Int) (n : Int) : Int := w64 (p * 2 ^ (min n.toNat 64))
def UY (p : Int) (n : Int) : Int := p.fdiv (2 ^ (min n.toNat 64))
def ZC {α : Type} (l : List α) (i : Int) : Option α := if 0 ≤ i then l[i.toNat]? else none
def Vc {α : Type} {n : Nat} (v : Vector α n) (i : Int) : Option α := if 0 ≤ i then v[i.toNat]? else none
def YJ {α : Type} (l : List α) (lo hi : Int) : Option (List α) := if 0 ≤ lo ∧ lo ≤ hi ∧ hi ≤ l.length then some ((l.take hi.toNat).drop lo.toNat) else none
def Qds {α : Type} (n : Nat) (l : List α) (h : n ≤ l.length) : Vector α n := ⟨(l.take n).toArray, by simp [Nat.min_eq_left h]⟩
theorem W2 {α : Type} (n : Nat) (l : List α) (h : n ≤ l.length) : (Qds n l h).toList = l.take n := by simp [Qds]
def Wi {α : Type} (n : Nat) (l : List α) : Option (Vector α n) := if h : n ≤ l.length then some (Qds n l h) else none
def Qgl {α : Type} {n : Nat} (v : Vector α n) (lo : Nat) (l : List α) : Vector α n :=
 if h : lo + l.length ≤ n then ⟨(v.toList.take lo ++ l ++ v.toList.drop (lo + l.length)).toArray, by simp; omega⟩ else v
theorem QbH {α : Type} {n : Nat} (v : Vector α n) (lo : Nat) (l : List α) (h : lo + l.length ≤ n) : (Qgl v lo l).toList = v.toList.take lo ++ l ++ v.toList.drop (lo + l.length) := by
 unfold Qgl; rw [dif_pos h]; simp
inductive LR (σ ρ : Type) where
 | next (s : σ)
 | brk (s : σ)
 | ret (r : ρ)
def Z2 {σ ρ : Type} (f : σ → Option (LR σ ρ)) : Nat → σ → Option (σ ⊕ ρ)
 | 0, _ => none
 | n + 1, s => match f s with
  | none => none
  | some (.next s') => Z2 f n s'
  | some (.brk s') => some (.inl s')
  | some (.ret r) => some (.inr r)
def Q5 {σ : Type} (f : σ → Option (LR σ Empty)) (n : Nat) (s : σ) : Option σ :=
 match Z2 f n s with
 | none => none
 | some (.inl s') => some s'
 | some (.inr e) => e.elim
theorem Qga {σ : Type} {f : σ → Option (LR σ Empty)} {n : Nat} {s s' : σ} (h : Q5 f n s = some s') : ∃ o, Z2 f n s = some o ∧ o = .inl s' := by
 unfold Q5 at h
 split at h
 ·cases h
 ·rename_i s2 he; cases h; exact ⟨_, he, rfl⟩
 ·rename_i e _; exact e.elim
def FU : Nat := 4611686018427387904
def AP : Nat := 4294967296
theorem bind_some {α β : Type} {o : Option α} {f : α → Option β} {r : β} (h : Option.bind o f = some r) : ∃ x, o = some x ∧ f x = some r := Option.bind_eq_some_iff.1 h
theorem QS {α : Type} {c : Prop} [Decidable c] {x : Option α} {r : α} (h : (if c then x else none) = some r) : c ∧ x = some r := by
 by_cases hc : c
 ·rw [if_pos hc] at h; exact ⟨hc, h⟩
 ·rw [if_neg hc] at h; cases h
theorem bt {α : Type} {b : Bool} {x y r : α} (hb : b = true) (h : (if b = true then x else y) = r) : x = r := by rwa [if_pos hb] at h
theorem bf {α : Type} {b : Bool} {x y r : α} (hb : b = false) (h : (if b = true then x else y) = r) : y = r := by rwa [if_neg (by rw [hb]; decide)] at h
theorem Q4 {α : Type} {l : List α} {i : Int} {x : α} (h : ZC l i = some x) : 0 ≤ i ∧ ∃ hi : i.toNat < l.length, l[i.toNat] = x := by
 unfold ZC at h
 split at h
 ·rename_i h0; obtain ⟨h1, h2⟩ := List.getElem?_eq_some_iff.1 h; exact ⟨h0, h1, h2⟩
 ·cases h
theorem QF {α : Type} {n : Nat} {v : Vector α n} {i : Int} {x : α} (h : Vc v i = some x) : 0 ≤ i ∧ ∃ hi : i.toNat < n, v[i.toNat] = x := by
 unfold Vc at h
 split at h
 ·rename_i h0; obtain ⟨h1, h2⟩ := Vector.getElem?_eq_some_iff.1 h; exact ⟨h0, h1, h2⟩
 ·cases h
theorem B0 {α : Type} {l r : List α} {lo hi : Int} (h : YJ l lo hi = some r) : 0 ≤ lo ∧ lo ≤ hi ∧ hi ≤ l.length ∧ (l.take hi.toNat).drop lo.toNat = r := by
 obtain ⟨⟨h0, h1, h2⟩, h3⟩ := QS h
 exact ⟨h0, h1, h2, Option.some.inj h3⟩
theorem Qe5 {α : Type} {n : Nat} {l : List α} {v : Vector α n} (h : Wi n l = some v) : ∃ hl : n ≤ l.length, Qds n l hl = v := by
 unfold Wi at h
 split at h
 ·rename_i hl; exact ⟨hl, Option.some.inj h⟩
 ·cases h
end Go.Sl
set_option maxRecDepth 100000
namespace Go.Sl
namespace M
abbrev Jy : Type := Int × Int × Int
abbrev Q6 : Type := Vector (BitVec 32) 8
abbrev Qa : Type := Vector (BitVec 8) 32
abbrev QO : Type := Vector (BitVec 8) 16
abbrev Qy : Type := Int × Int × QO × Qa × (List Qa)
abbrev QdN : Type := Int × Int × Qa × (Option Qy) × (Option Qy) × Int
abbrev JO : Type := Int × Int × Qa × Qa
abbrev Qr : Type := JO × (List (BitVec 8))
abbrev Kb : Type := Int × Int × Qa × Qa
abbrev Qdd : Type := (List (BitVec 8)) × Bool
abbrev UD : Type := Int × (List (BitVec 8)) × (List Qa)
abbrev Qw : Type := Qr × Qr
abbrev QB : Type := Int × Int
abbrev Zb : Type := (List (BitVec 8)) × (List Qr) × (List Qw) × (List QB)
abbrev Qu : Type := Int × Int × (List Qa)
abbrev Qz : Type := Int × Int × Qa
abbrev YS : Type := (List Qa) × (List Qa)
abbrev VT : Type := (List Qa) × (List Qa)
abbrev VV : Type := Int × Int × (List Qa)
def S_0 : List (BitVec 8) := [0#8, 1#8, 2#8, 2#8, 3#8, 3#8, 3#8, 3#8, 4#8, 4#8, 4#8, 4#8, 4#8, 4#8, 4#8, 4#8, 5#8, 5#8, 5#8, 5#8, 5#8, 5#8, 5#8, 5#8, 5#8, 5#8, 5#8, 5#8, 5#8, 5#8, 5#8, 5#8, 6#8, 6#8, 6#8, 6#8, 6#8, 6#8, 6#8, 6#8, 6#8, 6#8, 6#8, 6#8, 6#8, 6#8, 6#8, 6#8, 6#8, 6#8, 6#8, 6#8, 6#8, 6#8, 6#8, 6#8, 6#8, 6#8, 6#8, 6#8, 6#8, 6#8, 6#8, 6#8, 7#8, 7#8, 7#8, 7#8, 7#8, 7#8, 7#8, 7#8, 7#8, 7#8, 7#8, 7#8, 7#8, 7#8, 7#8, 7#8, 7#8, 7#8, 7#8, 7#8, 7#8, 7#8, 7#8, 7#8, 7#8, 7#8, 7#8, 7#8, 7#8, 7#8, 7#8, 7#8, 7#8, 7#8, 7#8, 7#8, 7#8, 7#8, 7#8, 7#8, 7#8, 7#8, 7#8, 7#8, 7#8, 7#8, 7#8, 7#8, 7#8, 7#8, 7#8, 7#8, 7#8, 7#8, 7#8, 7#8, 7#8, 7#8, 7#8, 7#8, 7#8, 7#8, 7#8, 7#8, 8#8, 8#8, 8#8, 8#8, 8#8, 8#8, 8#8, 8#8, 8#8, 8#8, 8#8, 8#8, 8#8, 8#8, 8#8, 8#8, 8#8, 8#8, 8#8, 8#8, 8#8, 8#8, 8#8, 8#8, 8#8, 8#8, 8#8, 8#8, 8#8, 8#8, 8#8, 8#8, 8#8, 8#8, 8#8, 8#8, 8#8, 8#8, 8#8, 8#8, 8#8, 8#8, 8#8, 8#8, 8#8, 8#8, 8#8, 8#8, 8#8, 8#8, 8#8, 8#8, 8#8, 8#8, 8#8, 8#8, 8#8, 8#8, 8#8, 8#8, 8#8, 8#8, 8#8, 8#8, 8#8, 8#8, 8#8, 8#8, 8#8, 8#8, 8#8, 8#8, 8#8, 8#8, 8#8, 8#8, 8#8, 8#8, 8#8, 8#8, 8#8, 8#8, 8#8, 8#8, 8#8, 8#8, 8#8, 8#8, 8#8, 8#8, 8#8, 8#8, 8#8, 8#8, 8#8, 8#8, 8#8, 8#8, 8#8, 8#8, 8#8, 8#8, 8#8, 8#8, 8#8, 8#8, 8#8, 8#8, 8#8, 8#8, 8#8, 8#8, 8#8, 8#8, 8#8, 8#8, 8#8, 8#8, 8#8, 8#8, 8#8, 8#8, 8#8, 8#8, 8#8, 8#8, 8#8, 8#8]
def Kl : Vector Jy 5 := #v[(0, 0, 0), (1, 265, 7), (2, 133, 6), (4, 67, 4), (8, 34, 0)]
def Zr : Q6 := #v[1779033703#32, 3144134277#32, 1013904242#32, 2773480762#32, 1359893119#32, 2600822924#32, 528734635#32, 1541459225#32]
def YY : Vector (BitVec 32) 64 := #v[1116352408#32, 1899447441#32, 3049323471#32, 3921009573#32, 961987163#32, 1508970993#32, 2453635748#32, 2870763221#32, 3624381080#32, 310598401#32, 607225278#32, 1426881987#32, 1925078388#32, 2162078206#32, 2614888103#32, 3248222580#32, 3835390401#32, 4022224774#32, 264347078#32, 604807628#32, 770255983#32, 1249150122#32, 1555081692#32, 1996064986#32, 2554220882#32, 2821834349#32, 2952996808#32, 3210313671#32, 3336571891#32, 3584528711#32, 113926993#32, 338241895#32, 666307205#32, 773529912#32, 1294757372#32, 1396182291#32, 1695183700#32, 1986661051#32, 2177026350#32, 2456956037#32, 2730485921#32, 2820302411#32, 3259730800#32, 3345764771#32, 3516065817#32, 3600352804#32, 4094571909#32, 275423344#32, 430227734#32, 506948616#32, 659060556#32, 883997877#32, 958139571#32, 1322822218#32, 1537002063#32, 1747873779#32, 1955562222#32, 2024104815#32, 2227730452#32, 2361852424#32, 2428436474#32, 2756734187#32, 3204031479#32, 3329325298#32]
def Xy : Vector (BitVec 8) 32 := #v[0#8, 1#8, 28#8, 2#8, 29#8, 14#8, 24#8, 3#8, 30#8, 22#8, 20#8, 15#8, 25#8, 17#8, 4#8, 8#8, 31#8, 27#8, 13#8, 23#8, 21#8, 19#8, 16#8, 7#8, 26#8, 12#8, 18#8, 6#8, 11#8, 5#8, 10#8, 9#8]
def Zq : Vector (BitVec 8) 64 := #v[0#8, 1#8, 56#8, 2#8, 57#8, 49#8, 28#8, 3#8, 61#8, 58#8, 42#8, 50#8, 38#8, 29#8, 17#8, 4#8, 62#8, 47#8, 59#8, 36#8, 45#8, 43#8, 51#8, 22#8, 53#8, 39#8, 33#8, 30#8, 24#8, 18#8, 12#8, 5#8, 63#8, 55#8, 48#8, 27#8, 60#8, 41#8, 37#8, 16#8, 46#8, 35#8, 44#8, 21#8, 52#8, 32#8, 23#8, 11#8, 54#8, 26#8, 40#8, 15#8, 34#8, 20#8, 31#8, 10#8, 25#8, 14#8, 19#8, 9#8, 13#8, 8#8, 7#8, 6#8]
def Kf (p_kind : Int) : Option (Jy × Bool) :=
 Option.bind (if (decide (p_kind < (1 : Int))) = true then (
 some true) else (
 some (decide ((4 : Int) < p_kind)))) fun y1 =>
 if (y1) = true then (
 some ((0, 0, 0), false)) else (
 Option.bind (Vc Kl p_kind) fun x1 =>
 some (x1, true))
def Vi (p_kind : Int) : Option Int :=
 Option.bind (Kf p_kind) fun r1 =>
 some r1.1.2.1
def UT (p_height : Int) (p_kind : Int) : Option Bool :=
 Option.bind (if (decide ((1 : Int) ≤ p_height)) = true then (
 some (decide (p_height ≤ (4 : Int)))) else (
 some false)) fun y1 =>
 Option.bind (if (y1) = true then (
 Option.bind (Vi p_kind) fun r1 =>
 some (decide ((0 : Int) < r1))) else (
 some false)) fun y2 =>
 some y2
def Ud (p_kind : Int) : Option Int :=
 Option.bind (Kf p_kind) fun r1 =>
 if (!r1.2) = true then (
 some (0 : Int)) else (
 Option.bind (some (w64 ((4 : Int) + (w64 ((32 : Int) * (w64 ((1 : Int) + r1.1.2.1))))))) fun x1 =>
 some x1)
def KL (p_height : Int) (p_kind : Int) : Option Int :=
 Option.bind (UT p_height p_kind) fun r1 =>
 if (!r1) = true then (
 some (0 : Int)) else (
 Option.bind (Ud p_kind) fun r2 =>
 Option.bind (some (w64 ((w64 ((8 : Int) + r2)) + (w64 ((32 : Int) * p_height))))) fun x1 =>
 some x1)
def Jg (p_x : BitVec 32) (p_k : Int) : Option (BitVec 32) :=
 Option.bind (some ((p_x <<< (((BitVec.ofInt 64 p_k) &&& (31#64)).toNat)) ||| (p_x >>> (((32#64) - ((BitVec.ofInt 64 p_k) &&& (31#64))).toNat)))) fun x1 =>
 some x1
def Xi (x1 : List (BitVec 8)) (y1 : Int) (y2 : Vector (BitVec 32) 64) : Option (LR (Int × (Vector (BitVec 32) 64)) Empty) :=
 if (decide (y1 < (x1.length : Int))) = true then (
 Option.bind (ZC x1 y1) fun x2 =>
 Option.bind (Vc y2 (w64 (Int.tdiv y1 (4 : Int)))) fun x3 =>
 if 0 ≤ w64 (Int.tdiv y1 (4 : Int)) ∧ w64 (Int.tdiv y1 (4 : Int)) < (64 : Int) then (
 Option.bind (some ((y2.setIfInBounds ((w64 (Int.tdiv y1 (4 : Int))).toNat) ((x3 <<< 8) ||| (x2.setWidth 32))))) fun x4 =>
 some (.next (w64 (y1 + (1 : Int)), x4))) else none) else (
 some (.brk (y1, y2)))
def Xf (y5 : Int) (y6 : Vector (BitVec 32) 64) : Option (LR (Int × (Vector (BitVec 32) 64)) Empty) :=
 if (decide (y5 < (64 : Int))) = true then (
 Option.bind (Vc y6 (w64 (y5 - (15 : Int)))) fun x5 =>
 Option.bind (Jg x5 (-7 : Int)) fun r1 =>
 Option.bind (Vc y6 (w64 (y5 - (15 : Int)))) fun x6 =>
 Option.bind (Jg x6 (-18 : Int)) fun r2 =>
 Option.bind (Vc y6 (w64 (y5 - (15 : Int)))) fun x7 =>
 Option.bind (Vc y6 (w64 (y5 - (2 : Int)))) fun x8 =>
 Option.bind (Jg x8 (-17 : Int)) fun r3 =>
 Option.bind (Vc y6 (w64 (y5 - (2 : Int)))) fun x9 =>
 Option.bind (Jg x9 (-19 : Int)) fun r4 =>
 Option.bind (Vc y6 (w64 (y5 - (2 : Int)))) fun x10 =>
 Option.bind (Vc y6 (w64 (y5 - (16 : Int)))) fun x11 =>
 Option.bind (Vc y6 (w64 (y5 - (7 : Int)))) fun x12 =>
 if 0 ≤ y5 ∧ y5 < (64 : Int) then (
 Option.bind (some ((y6.setIfInBounds y5.toNat (((x11 + ((r1 ^^^ r2) ^^^ (x7 >>> 3))) + x12) + ((r3 ^^^ r4) ^^^ (x10 >>> 10)))))) fun x13 =>
 some (.next (w64 (y5 + (1 : Int)), x13))) else none) else (
 some (.brk (y5, y6)))
def Kj (p_block : List (BitVec 8)) : Option (Vector (BitVec 32) 64) :=
 Option.bind (YJ p_block 0 (64 : Int)) fun x1 =>
 Option.bind (Q5 (fun (s : Int × (Vector (BitVec 32) 64)) => Xi x1 s.1 s.2) FU ((0 : Int), (Vector.replicate 64 (0#32)))) fun (s2 : Int × (Vector (BitVec 32) 64)) =>
 Option.bind (Q5 (fun (s : Int × (Vector (BitVec 32) 64)) => Xf s.1 s.2) FU ((16 : Int), s2.2)) fun (s1 : Int × (Vector (BitVec 32) 64)) =>
 some s1.2
def Zd (r1 : (Vector (BitVec 32) 64)) (y1 : Int) (y2 : Q6) : Option (LR (Int × Q6) Empty) :=
 if (decide (y1 < (64 : Int))) = true then (
 Option.bind (Jg (y2[4]) (-6 : Int)) fun r2 =>
 Option.bind (Jg (y2[4]) (-11 : Int)) fun r3 =>
 Option.bind (Jg (y2[4]) (-25 : Int)) fun r4 =>
 Option.bind (Vc YY y1) fun x1 =>
 Option.bind (Vc r1 y1) fun x2 =>
 Option.bind (some (((((y2[7]) + ((r2 ^^^ r3) ^^^ r4)) + ((y2[6]) ^^^ ((y2[4]) &&& ((y2[5]) ^^^ (y2[6]))))) + x1) + x2)) fun x3 =>
 Option.bind (Jg (y2[0]) (-2 : Int)) fun r5 =>
 Option.bind (Jg (y2[0]) (-13 : Int)) fun r6 =>
 Option.bind (Jg (y2[0]) (-22 : Int)) fun r7 =>
 Option.bind (some (((r5 ^^^ r6) ^^^ r7) + (((y2[0]) &&& (y2[1])) ||| ((y2[2]) &&& ((y2[0]) ||| (y2[1])))))) fun x4 =>
 Option.bind (some (#v[x3 + x4, y2[0], y2[1], y2[2], (y2[3]) + x3, y2[4], y2[5], y2[6]])) fun x5 =>
 some (.next (w64 (y1 + (1 : Int)), x5))) else (
 some (.brk (y1, y2)))
def XZ (y4 : Q6) (y5 : Int) (y6 : Q6) : Option (LR (Int × Q6) Empty) :=
 if (decide (y5 < (8 : Int))) = true then (
 Option.bind (Vc y6 y5) fun x6 =>
 Option.bind (Vc y4 y5) fun x7 =>
 if 0 ≤ y5 ∧ y5 < (8 : Int) then (
 some (.next (w64 (y5 + (1 : Int)), (y6.setIfInBounds y5.toNat (x6 + x7))))) else none) else (
 some (.brk (y5, y6)))
def YN (p_s : Q6) (p_b : List (BitVec 8)) : Option Q6 :=
 Option.bind (Kj p_b) fun r1 =>
 Option.bind (Q5 (fun (s : Int × Q6) => Zd r1 s.1 s.2) FU ((0 : Int), p_s)) fun (s2 : Int × Q6) =>
 Option.bind (Q5 (fun (s : Int × Q6) => XZ s2.2 s.1 s.2) FU ((0 : Int), p_s)) fun (s1 : Int × Q6) =>
 some s1.2
def VW (y1 : List (BitVec 8)) (y2 : Q6) : Option (LR ((List (BitVec 8)) × Q6) Empty) :=
 if (decide ((64 : Int) ≤ (y1.length : Int))) = true then (
 Option.bind (YN y2 y1) fun r1 =>
 Option.bind (YJ y1 (64 : Int) (y1.length : Int)) fun x1 =>
 some (.next (x1, r1))) else (
 some (.brk (y1, y2)))
def Kz (y5 : Int) (p_b : List (BitVec 8)) (y6 : Int) (y7 : Vector (BitVec 8) 128) : Option (LR (Int × (Vector (BitVec 8) 128)) Empty) :=
 if (decide (y6 < (8 : Int))) = true then (
 if 0 ≤ w64 ((8 : Int) * y6) then (
 if 0 ≤ w64 ((w64 (y5 - (1 : Int))) - y6) ∧ w64 ((w64 (y5 - (1 : Int))) - y6) < (128 : Int) then (
 Option.bind (some ((y7.setIfInBounds ((w64 ((w64 (y5 - (1 : Int))) - y6)).toNat) ((((BitVec.ofInt 64 (p_b.length : Int)) <<< 3) >>> ((w64 ((8 : Int) * y6)).toNat)).setWidth 8)))) fun x3 =>
 some (.next (w64 (y6 + (1 : Int)), x3))) else none) else none) else (
 some (.brk (y6, y7)))
def KD (y10 : Q6) (y11 : Int) (y12 : Qa) : Option (LR (Int × Qa) Empty) :=
 if (decide (y11 < (32 : Int))) = true then (
 Option.bind (Vc y10 (w64 (Int.tdiv y11 (4 : Int)))) fun x4 =>
 if 0 ≤ w64 ((24 : Int) - (w64 ((8 : Int) * (Int.tmod y11 (4 : Int))))) then (
 if 0 ≤ y11 ∧ y11 < (32 : Int) then (
 Option.bind (some ((y12.setIfInBounds y11.toNat ((x4 >>> ((w64 ((24 : Int) - (w64 ((8 : Int) * (Int.tmod y11 (4 : Int)))))).toNat)).setWidth 8)))) fun x5 =>
 some (.next (w64 (y11 + (1 : Int)), x5))) else none) else none) else (
 some (.brk (y11, y12)))
def KW (p_b : List (BitVec 8)) : Option Qa :=
 Option.bind (Q5 (fun (s : (List (BitVec 8)) × Q6) => VW s.1 s.2) FU (p_b, Zr)) fun (s3 : (List (BitVec 8)) × Q6) =>
 Option.bind (if (decide ((56 : Int) ≤ (s3.1.length : Int))) = true then (
 some (128 : Int)) else (
 some (64 : Int))) fun y5 =>
 if 0 ≤ (s3.1.length : Int) ∧ (s3.1.length : Int) < (128 : Int) then (
 Option.bind (some (((Qgl (Vector.replicate 128 (0#8)) 0 (s3.1.take 128)).setIfInBounds ((s3.1.length : Int).toNat) (128#8)))) fun x2 =>
 Option.bind (Q5 (fun (s : Int × (Vector (BitVec 8) 128)) => Kz y5 p_b s.1 s.2) FU ((0 : Int), x2)) fun (s2 : Int × (Vector (BitVec 8) 128)) =>
 Option.bind (YN s3.2 s2.2.toList) fun r2 =>
 Option.bind (if (decide (y5 = (128 : Int))) = true then (
 Option.bind (YN r2 ((s2.2.toList.drop 64).take 64)) fun r3 =>
 some r3) else (
 some r2)) fun y10 =>
 Option.bind (Q5 (fun (s : Int × Qa) => KD y10 s.1 s.2) FU ((0 : Int), (Vector.replicate 32 (0#8)))) fun (s1 : Int × Qa) =>
 some s1.2) else none
def V1 (p_parts : List (List (BitVec 8))) (y1 : Int) (y2 : Int) : Option (LR (Int × Int) Empty) :=
 if (decide (y2 < (p_parts.length : Int))) = true then (
 Option.bind (ZC p_parts y2) fun x1 =>
 Option.bind (some (w64 (y1 + (w64 ((4 : Int) + (x1.length : Int)))))) fun x2 =>
 some (.next (x2, w64 (y2 + (1 : Int))))) else (
 some (.brk (y1, y2)))
def V0 (p_parts : List (List (BitVec 8))) (y5 : Int) (y6 : List (BitVec 8)) : Option (LR (Int × (List (BitVec 8))) Empty) :=
 if (decide (y5 < (p_parts.length : Int))) = true then (
 Option.bind (ZC p_parts y5) fun x3 =>
 if y6.length + ([((BitVec.ofInt 32 (x3.length : Int)) >>> 24).setWidth 8, ((BitVec.ofInt 32 (x3.length : Int)) >>> 16).setWidth 8, ((BitVec.ofInt 32 (x3.length : Int)) >>> 8).setWidth 8, (BitVec.ofInt 32 (x3.length : Int)).setWidth 8]).length ≤ AP then (
 if (y6 ++ ([((BitVec.ofInt 32 (x3.length : Int)) >>> 24).setWidth 8, ((BitVec.ofInt 32 (x3.length : Int)) >>> 16).setWidth 8, ((BitVec.ofInt 32 (x3.length : Int)) >>> 8).setWidth 8, (BitVec.ofInt 32 (x3.length : Int)).setWidth 8])).length + x3.length ≤ AP then (
 some (.next (w64 (y5 + (1 : Int)), ((y6 ++ ([((BitVec.ofInt 32 (x3.length : Int)) >>> 24).setWidth 8, ((BitVec.ofInt 32 (x3.length : Int)) >>> 16).setWidth 8, ((BitVec.ofInt 32 (x3.length : Int)) >>> 8).setWidth 8, (BitVec.ofInt 32 (x3.length : Int)).setWidth 8])) ++ x3)))) else none) else none) else (
 some (.brk (y5, y6)))
def WN (p_tag : BitVec 8) (p_parts : List (List (BitVec 8))) : Option (List (BitVec 8)) :=
 Option.bind (Q5 (fun (s : Int × Int) => V1 p_parts s.1 s.2) FU ((1 : Int), (0 : Int))) fun (s2 : Int × Int) =>
 if 0 ≤ s2.1 ∧ s2.1 ≤ (4294967296 : Int) then (
 if ([] : List (BitVec 8)).length + ([p_tag]).length ≤ AP then (
 Option.bind (Q5 (fun (s : Int × (List (BitVec 8))) => V0 p_parts s.1 s.2) FU ((0 : Int), (([] : List (BitVec 8)) ++ ([p_tag])))) fun (s1 : Int × (List (BitVec 8))) =>
 some s1.2) else none) else none
def KA (p_tag : BitVec 8) (p_parts : List (List (BitVec 8))) : Option Qa :=
 Option.bind (WN p_tag p_parts) fun r1 =>
 Option.bind (KW r1) fun r2 =>
 some r2
def KB (p_seed : Qa) (p_number : List (BitVec 8)) : Option (QO × Qa) :=
 Option.bind (if (decide ((0 : Int) < (p_number.length : Int))) = true then (
 if ([p_seed.toList]).length + ([p_number]).length ≤ AP then (
 some (([p_seed.toList]) ++ ([p_number]))) else none) else (
 some ([p_seed.toList]))) fun y1 =>
 Option.bind (KA (105#8) y1) fun r1 =>
 Option.bind (YJ r1.toList 0 (16 : Int)) fun x1 =>
 Option.bind (Wi 16 x1) fun x2 =>
 Option.bind (KA (115#8) y1) fun r2 =>
 some (x2, r2)
def Xm (p_parts : List (List (BitVec 8))) (y1 : Int) (y2 : List (BitVec 8)) : Option (LR (Int × (List (BitVec 8))) Empty) :=
 if (decide (y1 < (p_parts.length : Int))) = true then (
 Option.bind (ZC p_parts y1) fun x1 =>
 if y2.length + x1.length ≤ AP then (
 some (.next (w64 (y1 + (1 : Int)), (y2 ++ x1)))) else none) else (
 some (.brk (y1, y2)))
def YF (p_id : QO) (p_q : BitVec 32) (p_i : Int) (p_parts : List (List (BitVec 8))) : Option Qa :=
 if 0 ≤ (64 : Int) ∧ (64 : Int) ≤ (4294967296 : Int) then (
 if ([] : List (BitVec 8)).length + p_id.toList.length ≤ AP then (
 if (([] : List (BitVec 8)) ++ p_id.toList).length + ([(p_q >>> 24).setWidth 8, (p_q >>> 16).setWidth 8, (p_q >>> 8).setWidth 8, p_q.setWidth 8, BitVec.ofInt 8 (UY p_i (8 : Int)), BitVec.ofInt 8 p_i]).length ≤ AP then (
 Option.bind (Q5 (fun (s : Int × (List (BitVec 8))) => Xm p_parts s.1 s.2) FU ((0 : Int), ((([] : List (BitVec 8)) ++ p_id.toList) ++ ([(p_q >>> 24).setWidth 8, (p_q >>> 16).setWidth 8, (p_q >>> 8).setWidth 8, p_q.setWidth 8, BitVec.ofInt 8 (UY p_i (8 : Int)), BitVec.ofInt 8 p_i])))) fun (s1 : Int × (List (BitVec 8))) =>
 Option.bind (KW s1.2) fun r1 =>
 some r1) else none) else none) else none
def X7 (p_to : Int) (p_id : QO) (p_q : BitVec 32) (p_i : Int) (y1 : Int) (y2 : Qa) : Option (LR (Int × Qa) Empty) :=
 if (decide (y1 < p_to)) = true then (
 Option.bind (YF p_id p_q p_i ([[BitVec.ofInt 8 y1], y2.toList])) fun r1 =>
 some (.next (w64 (y1 + (1 : Int)), r1))) else (
 some (.brk (y1, y2)))
def XL (p_id : QO) (p_q : BitVec 32) (p_i : Int) (p_h : Qa) (p_from : Int) (p_to : Int) : Option Qa :=
 Option.bind (Q5 (fun (s : Int × Qa) => X7 p_to p_id p_q p_i s.1 s.2) FU (p_from, p_h)) fun (s1 : Int × Qa) =>
 some s1.2
def XM (p_id : QO) (p_q : BitVec 32) (p_i : Int) (p_seed : Qa) : Option Qa :=
 Option.bind (YF p_id p_q p_i ([[255#8], p_seed.toList])) fun r1 =>
 some r1
def Yd (p_f : Jy) : Option Int :=
 if 0 ≤ p_f.1 then (
 some (w64 ((Xq (1 : Int) p_f.1) - (1 : Int)))) else none
def Y6 (p_ends : List Qa) (y1 : Int) (y2 : List (BitVec 8)) : Option (LR (Int × (List (BitVec 8))) Empty) :=
 if (decide (y1 < (p_ends.length : Int))) = true then (
 Option.bind (ZC p_ends y1) fun x1 =>
 if y2.length + x1.toList.length ≤ AP then (
 some (.next (w64 (y1 + (1 : Int)), (y2 ++ x1.toList)))) else none) else (
 some (.brk (y1, y2)))
def V5 (p_id : QO) (p_q : BitVec 32) (p_ends : List Qa) : Option Qa :=
 if 0 ≤ w64 ((32 : Int) * (p_ends.length : Int)) ∧ w64 ((32 : Int) * (p_ends.length : Int)) ≤ (4294967296 : Int) then (
 Option.bind (Q5 (fun (s : Int × (List (BitVec 8))) => Y6 p_ends s.1 s.2) FU ((0 : Int), ([] : List (BitVec 8)))) fun (s1 : Int × (List (BitVec 8))) =>
 Option.bind (YF p_id p_q (32896 : Int) ([s1.2])) fun r1 =>
 some r1) else none
def Y5 (x1 : List Qa) (p_id : QO) (p_q : BitVec 32) (p_seed : Qa) (r1 : Jy × Bool) (y1 : Int) (y2 : List Qa) : Option (LR (Int × (List Qa)) Empty) :=
 if (decide (y1 < (x1.length : Int))) = true then (
 Option.bind (XM p_id p_q y1 p_seed) fun r2 =>
 Option.bind (Yd r1.1) fun r3 =>
 Option.bind (XL p_id p_q y1 r2 (0 : Int) r3) fun r4 =>
 if 0 ≤ y1 ∧ y1 < (y2.length : Int) then (
 some (.next (w64 (y1 + (1 : Int)), (y2.set y1.toNat r4)))) else none) else (
 some (.brk (y1, y2)))
def KY (p_kind : Int) (p_id : QO) (p_q : BitVec 32) (p_seed : Qa) : Option (Qa × Int) :=
 Option.bind (Kf p_kind) fun r1 =>
 if (!r1.2) = true then (
 some ((Vector.replicate 32 (0#8)), (1 : Int))) else (
 if 0 ≤ r1.1.2.1 ∧ r1.1.2.1 ≤ (4294967296 : Int) then (
 Option.bind (some (List.replicate r1.1.2.1.toNat (Vector.replicate 32 (0#8)))) fun x1 =>
 Option.bind (Q5 (fun (s : Int × (List Qa)) => Y5 x1 p_id p_q p_seed r1 s.1 s.2) FU ((0 : Int), x1)) fun (s1 : Int × (List Qa)) =>
 Option.bind (V5 p_id p_q s1.2) fun r5 =>
 some (r5, (0 : Int))) else none)
def ZB (p_x : BitVec 64) (y2 : Int) (y3 : List (BitVec 8)) : Option (LR (Int × (List (BitVec 8))) Empty) :=
 if (decide ((0 : Int) ≤ y2)) = true then (
 if 0 ≤ w64 ((8 : Int) * y2) then (
 if y3.length + ([(p_x >>> ((w64 ((8 : Int) * y2)).toNat)).setWidth 8]).length ≤ AP then (
 some (.next (w64 (y2 - (1 : Int)), (y3 ++ ([(p_x >>> ((w64 ((8 : Int) * y2)).toNat)).setWidth 8]))))) else none) else none) else (
 some (.brk (y2, y3)))
def ZM (p_w : (List (BitVec 8)) × Bool) (p_x : BitVec 64) (p_bytes : Int) : Option ((List (BitVec 8)) × Bool) :=
 Option.bind (some p_w.2) fun y1 =>
 if (y1) = true then (
 some (p_w.1, p_w.2)) else (
 Option.bind (Q5 (fun (s : Int × (List (BitVec 8))) => ZB p_x s.1 s.2) FU (w64 (p_bytes - (1 : Int)), p_w.1)) fun (s1 : Int × (List (BitVec 8))) =>
 some (s1.2, p_w.2))
def Zg (p_w : (List (BitVec 8)) × Bool) (p_x : BitVec 32) : Option ((List (BitVec 8)) × Bool) :=
 Option.bind (ZM (p_w.1, p_w.2) (p_x.setWidth 64) (4 : Int)) fun r1 =>
 some (r1.1, r1.2)
def JI (p_w : (List (BitVec 8)) × Bool) (p_b : List (BitVec 8)) : Option ((List (BitVec 8)) × Bool) :=
 Option.bind (some (!p_w.2)) fun y1 =>
 if (y1) = true then (
 if p_w.1.length + p_b.length ≤ AP then (
 some ((p_w.1 ++ p_b), p_w.2)) else none) else (
 some (p_w.1, p_w.2))
def Jq (p_s : List (BitVec 8)) : Option (List (BitVec 8)) :=
 if ([] : List (BitVec 8)).length + p_s.length ≤ AP then (
 some (([] : List (BitVec 8)) ++ p_s)) else none
def Yc (p_w : (List (BitVec 8)) × Bool) : Option (((List (BitVec 8)) × Bool) × (List (BitVec 8)) × Int) :=
 if (p_w.2) = true then (
 some ((p_w.1, p_w.2), ([] : List (BitVec 8)), (4 : Int))) else (
 Option.bind (Jq p_w.1) fun r1 =>
 some ((p_w.1, p_w.2), r1, (0 : Int)))
def Vf (p_w : (List (BitVec 8)) × Bool) (p_x : Int) (p_most : Int) : Option (((List (BitVec 8)) × Bool) × Bool) :=
 Option.bind (if (decide (p_x < (0 : Int))) = true then (
 some true) else (
 some (decide (p_most < p_x)))) fun y1 =>
 if (y1) = true then (
 some ((p_w.1, true), !true)) else (
 some ((p_w.1, p_w.2), !p_w.2))
def Vn (p_w : (List (BitVec 8)) × Bool) (p_x : Int) : Option ((List (BitVec 8)) × Bool) :=
 Option.bind (Vf (p_w.1, p_w.2) p_x (65535 : Int)) fun r1 =>
 if (r1.2) = true then (
 Option.bind (ZM (r1.1.1, r1.1.2) (BitVec.ofInt 64 p_x) (2 : Int)) fun r2 =>
 some (r2.1, r2.2)) else (
 some (r1.1.1, r1.1.2))
def VQ (p_parts : List (List (BitVec 8))) (y1 : Int) (y2 : Bool) (y3 : List (BitVec 8)) : Option (LR (Int × Bool × (List (BitVec 8))) Empty) :=
 if (decide (y1 < (p_parts.length : Int))) = true then (
 Option.bind (ZC p_parts y1) fun x1 =>
 Option.bind (JI (y3, y2) x1) fun r4 =>
 some (.next (w64 (y1 + (1 : Int)), r4.2, r4.1))) else (
 some (.brk (y1, y2, y3)))
def Ut (p_id : QO) (p_r : Int) (p_under : Int) (p_parts : List (List (BitVec 8))) : Option Qa :=
 Option.bind (JI (([] : List (BitVec 8)), false) p_id.toList) fun r1 =>
 Option.bind (Zg (r1.1, r1.2) (BitVec.ofInt 32 p_r)) fun r2 =>
 Option.bind (Vn (r2.1, r2.2) p_under) fun r3 =>
 Option.bind (Q5 (fun (s : Int × Bool × (List (BitVec 8))) => VQ p_parts s.1 s.2.1 s.2.2) FU ((0 : Int), r3.2, r3.1)) fun (s1 : Int × Bool × (List (BitVec 8))) =>
 Option.bind (Yc (s1.2.2, s1.2.1)) fun r5 =>
 Option.bind (KW r5.2.1) fun r6 =>
 some r6
def WQ (p_id : QO) (p_r : Int) (p_public : Qa) : Option Qa :=
 Option.bind (Ut p_id p_r (33410 : Int) ([p_public.toList])) fun r1 =>
 some r1
def U1 (p_id : QO) (p_r : Int) (p_a : Qa) (p_b : Qa) : Option Qa :=
 Option.bind (Ut p_id p_r (33667 : Int) ([p_a.toList, p_b.toList])) fun r1 =>
 some r1
def Uf (p_height : Int) (p_kind : Int) (p_id : QO) (p_seed : Qa) (y1 : Int) (y2 : List Qa) : Option (LR (Int × (List Qa)) ((Option Qy) × Int)) :=
 if (decide (y1 < (Xq (1 : Int) p_height))) = true then (
 Option.bind (KY p_kind p_id (BitVec.ofInt 32 y1) p_seed) fun r2 =>
 if (!decide (r2.2 = (0 : Int))) = true then (
 some (.ret ((none : Option Qy), r2.2))) else (
 Option.bind (WQ p_id (w64 ((Xq (1 : Int) p_height) + y1)) r2.1) fun r3 =>
 if 0 ≤ w64 ((Xq (1 : Int) p_height) + y1) ∧ w64 ((Xq (1 : Int) p_height) + y1) < (y2.length : Int) then (
 some (.next (w64 (y1 + (1 : Int)), (y2.set ((w64 ((Xq (1 : Int) p_height) + y1)).toNat) r3)))) else none)) else (
 some (.brk (y1, y2)))
def Uh (p_id : QO) (y5 : Int) (y6 : List Qa) : Option (LR (Int × (List Qa)) Empty) :=
 if (decide ((0 : Int) < y5)) = true then (
 Option.bind (ZC y6 (w64 ((2 : Int) * y5))) fun x3 =>
 Option.bind (ZC y6 (w64 ((w64 ((2 : Int) * y5)) + (1 : Int)))) fun x4 =>
 Option.bind (U1 p_id y5 x3 x4) fun r4 =>
 if 0 ≤ y5 ∧ y5 < (y6.length : Int) then (
 some (.next (w64 (y5 - (1 : Int)), (y6.set y5.toNat r4)))) else none) else (
 some (.brk (y5, y6)))
def B2 (p_height : Int) (p_kind : Int) (p_id : QO) (p_seed : Qa) : Option ((Option Qy) × Int) :=
 Option.bind (UT p_height p_kind) fun r1 =>
 if (!r1) = true then (
 some ((none : Option Qy), (1 : Int))) else (
 if 0 ≤ p_height then (
 if 0 ≤ w64 ((2 : Int) * (Xq (1 : Int) p_height)) ∧ w64 ((2 : Int) * (Xq (1 : Int) p_height)) ≤ (4294967296 : Int) then (
 Option.bind (some (List.replicate (w64 ((2 : Int) * (Xq (1 : Int) p_height))).toNat (Vector.replicate 32 (0#8)))) fun x1 =>
 Option.bind (Z2 (fun (s : Int × (List Qa)) => Uf p_height p_kind p_id p_seed s.1 s.2) FU ((0 : Int), x1)) fun o => match o with
 | .inl (s2 : Int × (List Qa)) => (
 Option.bind (some (w64 ((Xq (1 : Int) p_height) - (1 : Int)))) fun x2 =>
 Option.bind (Q5 (fun (s : Int × (List Qa)) => Uh p_id s.1 s.2) FU (x2, s2.2)) fun (s1 : Int × (List Qa)) =>
 some ((some (p_height, p_kind, p_id, p_seed, s1.2)), (0 : Int)))
 | .inr x => some x) else none) else none)
def B9 (p_top : Int) (p_bottom : Int) (p_kind : Int) (p_seed : Qa) : Option ((Option (Int × Int × Qa × (Option Qy) × (Option Qy) × Int)) × Int) :=
 Option.bind (KL p_bottom p_kind) fun r1 =>
 if (decide (r1 = (0 : Int))) = true then (
 some (none, (1 : Int))) else (
 Option.bind (KB p_seed ([] : List (BitVec 8))) fun r2 =>
 Option.bind (B2 p_top p_kind r2.1 r2.2) fun r3 =>
 if (!decide (r3.2 = (0 : Int))) = true then (
 some (none, r3.2)) else (
 Option.bind (some ((p_bottom, p_kind, p_seed, r3.1, (none : Option Qy), (-1 : Int)))) fun x1 =>
 some ((some x1), (0 : Int))))
def KM (p_h : JO) : Option Bool :=
 Option.bind (if (decide ((1 : Int) ≤ p_h.1)) = true then (
 some (decide (p_h.1 < (2147483648 : Int)))) else (
 some false)) fun y1 =>
 Option.bind (if (y1) = true then (
 some (decide ((1 : Int) ≤ p_h.2.1))) else (
 some false)) fun y2 =>
 Option.bind (if (y2) = true then (
 some (decide (p_h.2.1 < (2147483648 : Int)))) else (
 some false)) fun y3 =>
 some y3
def Kx (p_h : JO) : Option ((List (BitVec 8)) × Int) :=
 Option.bind (KM p_h) fun r1 =>
 if (!r1) = true then (
 some (([] : List (BitVec 8)), (1 : Int))) else (
 Option.bind (Zg (([] : List (BitVec 8)), false) (BitVec.ofInt 32 p_h.1)) fun r2 =>
 Option.bind (Zg (r2.1, r2.2) (BitVec.ofInt 32 p_h.2.1)) fun r3 =>
 Option.bind (JI (r3.1, r3.2) p_h.2.2.1.toList) fun r4 =>
 Option.bind (JI (r4.1, r4.2) p_h.2.2.2.toList) fun r5 =>
 Option.bind (Yc (r5.1, r5.2)) fun r6 =>
 some (r6.2.1, r6.2.2))
def JX (p_n : Int) : Option (List (BitVec 8)) :=
 if (decide (p_n < (0 : Int))) = true then none else (
 Option.bind (some (w64 (p_n - (w64 ((0 : Int) - (0 : Int)))))) fun x1 =>
 if (decide ((0 : Int) < x1)) = true then (
 if 0 < x1 ∧ x1 ≤ (4294967296 : Int) then (
 if 0 ≤ (0 : Int) ∧ (0 : Int) ≤ ((List.replicate x1.toNat (0#8)).length : Int) then (
 some ((List.replicate x1.toNat (0#8)).take (0 : Int).toNat)) else none) else none) else (
 some ([] : List (BitVec 8))))
def Jj (p_slices : List (List (BitVec 8))) (y1 : Int) (y2 : Int) : Option (LR (Int × Int) Empty) :=
 if (decide (y2 < (p_slices.length : Int))) = true then (
 Option.bind (ZC p_slices y2) fun x1 =>
 if (decide ((w64 (y1 + (x1.length : Int))) < (0 : Int))) = true then none else (
 some (.next (w64 (y1 + (x1.length : Int)), w64 (y2 + (1 : Int)))))) else (
 some (.brk (y1, y2)))
def Ji (p_slices : List (List (BitVec 8))) (y5 : Int) (y6 : List (BitVec 8)) : Option (LR (Int × (List (BitVec 8))) Empty) :=
 if (decide (y5 < (p_slices.length : Int))) = true then (
 Option.bind (ZC p_slices y5) fun x2 =>
 if y6.length + x2.length ≤ AP then (
 some (.next (w64 (y5 + (1 : Int)), (y6 ++ x2)))) else none) else (
 some (.brk (y5, y6)))
def JR (p_slices : List (List (BitVec 8))) : Option (List (BitVec 8)) :=
 Option.bind (Q5 (fun (s : Int × Int) => Jj p_slices s.1 s.2) FU ((0 : Int), (0 : Int))) fun (s2 : Int × Int) =>
 Option.bind (JX s2.1) fun r1 =>
 Option.bind (Q5 (fun (s : Int × (List (BitVec 8))) => Ji p_slices s.1 s.2) FU ((0 : Int), r1)) fun (s1 : Int × (List (BitVec 8))) =>
 some s1.2
def XA (p_t : Option Qy) : Option (List (BitVec 8)) :=
 if (p_t.isNone) = true then (
 some ([] : List (BitVec 8))) else (
 Option.bind (p_t) fun x1 =>
 Option.bind (Zg (([] : List (BitVec 8)), false) (BitVec.ofInt 32 x1.1)) fun r1 =>
 Option.bind (p_t) fun x2 =>
 Option.bind (Zg (r1.1, r1.2) (BitVec.ofInt 32 x2.2.1)) fun r2 =>
 Option.bind (p_t) fun x3 =>
 Option.bind (JI (r2.1, r2.2) x3.2.2.1.toList) fun r3 =>
 Option.bind (p_t) fun x4 =>
 Option.bind (ZC x4.2.2.2.2 (1 : Int)) fun x5 =>
 Option.bind (JI (r3.1, r3.2) x5.toList) fun r4 =>
 Option.bind (Yc (r4.1, r4.2)) fun r5 =>
 some r5.2.1)
def XU (p_t : Option Qy) : Option Int :=
 if (p_t.isNone) = true then (
 some (0 : Int)) else (
 Option.bind (p_t) fun x1 =>
 if 0 ≤ x1.1 then (
 some (Xq (1 : Int) x1.1)) else none)
def Vv (p_s : Int × Int × Qa × (Option Qy) × (Option Qy) × Int) : Option Int :=
 Option.bind (XU p_s.2.2.2.1) fun r1 =>
 if 0 ≤ p_s.1 then (
 some (Xq r1 p_s.1)) else none
def Vu (p_s : Int × Int × Qa × (Option Qy) × (Option Qy) × Int) (p_i : Int) : Option ((Int × Int × Qa × (Option Qy) × (Option Qy) × Int) × (Option Qy) × Int) :=
 if (decide (p_s.2.2.2.2.2 = p_i)) = true then (
 some ((p_s.1, p_s.2.1, p_s.2.2.1, p_s.2.2.2.1, p_s.2.2.2.2.1, p_s.2.2.2.2.2), p_s.2.2.2.2.1, (0 : Int))) else (
 Option.bind (KB p_s.2.2.1 ([BitVec.ofInt 8 (UY p_i (24 : Int)), BitVec.ofInt 8 (UY p_i (16 : Int)), BitVec.ofInt 8 (UY p_i (8 : Int)), BitVec.ofInt 8 p_i])) fun r1 =>
 Option.bind (B2 p_s.1 p_s.2.1 r1.1 r1.2) fun r2 =>
 if (!decide (r2.2 = (0 : Int))) = true then (
 some ((p_s.1, p_s.2.1, p_s.2.2.1, p_s.2.2.2.1, p_s.2.2.2.2.1, p_s.2.2.2.2.2), (none : Option Qy), r2.2)) else (
 some ((p_s.1, p_s.2.1, p_s.2.2.1, p_s.2.2.2.1, r2.1, p_i), r2.1, (0 : Int))))
def Yu {Sy : Type} (p_f : Jy) (yl : Sy → Int → Option Sy) (x1 : BitVec 8) (y3 : Int) (y4 : Sy) : Option (LR (Int × Sy) Empty) :=
 if (decide ((0 : Int) ≤ y3)) = true then (
 if 0 ≤ y3 then (
 Option.bind (Yd p_f) fun r1 =>
 Option.bind (yl y4 (QfG (UY (x1.toNat : Int) y3) r1)) fun y5 =>
 some (.next (w64 (y3 - p_f.1), y5))) else none) else (
 some (.brk (y3, y4)))
def Yz {Sy : Type} (p_b : List (BitVec 8)) (p_f : Jy) (yl : Sy → Int → Option Sy) (y1 : Int) (y2 : Sy) : Option (LR (Int × Sy) Empty) :=
 if (decide (y1 < (p_b.length : Int))) = true then (
 Option.bind (ZC p_b y1) fun x1 =>
 Option.bind (Q5 (fun (s : Int × Sy) => Yu p_f yl x1 s.1 s.2) FU (w64 ((8 : Int) - p_f.1), y2)) fun (s1 : Int × Sy) =>
 some (.next (w64 (y1 + (1 : Int)), s1.2))) else (
 some (.brk (y1, y2)))
def X1 {Sy : Type} (p_f : Jy) (p_b : List (BitVec 8)) (yl : Sy → Int → Option Sy) (s0 : Sy) : Option Sy :=
 Option.bind (Q5 (fun (s : Int × Sy) => Yz p_b p_f yl s.1 s.2) FU ((0 : Int), s0)) fun (s2 : Int × Sy) =>
 some s2.2
def V3 {Sy : Type} (yl : Sy → Int → Option Sy) (q_0 : Jy) (q_1 : Qa) (s0 : Sy) : Option Sy :=
 Option.bind (X1 q_0 q_1.toList yl s0) fun y1 =>
 some y1
def Z3 (p_f : Jy) (y1 : Int) (d : Int) : Option Int :=
 Option.bind (Yd p_f) fun r1 =>
 some (w64 (y1 + (w64 (r1 - d))))
def VS (p_f : Jy) (p_h : Qa) : Option (List (BitVec 8)) :=
 Option.bind (V3 (fun (s : Int) (d : Int) => Z3 p_f s d) p_f p_h (0 : Int)) fun (s1 : Int) =>
 if 0 ≤ p_f.2.2 then (
 some ([BitVec.ofInt 8 (UY (Xq s1 p_f.2.2) (8 : Int)), BitVec.ofInt 8 (Xq s1 p_f.2.2)])) else none
def XY {Sy : Type} (yl : Sy → Int → Option Sy) (q_0 : Jy) (q_1 : List (BitVec 8)) (s0 : Sy) : Option Sy :=
 Option.bind (X1 q_0 q_1 yl s0) fun y1 =>
 some y1
def J9 (p_f : Jy) (y1 : List Int) (d : Int) : Option (List Int) :=
 if (decide ((y1.length : Int) < p_f.2.1)) = true then (
 if y1.length + ([d]).length ≤ AP then (
 some (y1 ++ ([d]))) else none) else (
 some y1)
def Y2 (p_f : Jy) (p_h : Qa) : Option (List Int) :=
 if 0 ≤ p_f.2.1 ∧ p_f.2.1 ≤ (4294967296 : Int) then (
 Option.bind (VS p_f p_h) fun r1 =>
 if 0 < r1.length ∧ p_h.toList.length + r1.length ≤ AP then (
 Option.bind (XY (fun (s : (List Int)) (d : Int) => J9 p_f s d) p_f (p_h.toList ++ r1) ([] : List Int)) fun (s1 : (List Int)) =>
 some s1) else none) else none
def XX (r6 : (List Int)) (p_id : QO) (p_q : BitVec 32) (p_seed : Qa) (y1 : Int) (y2 : Bool) (y3 : List (BitVec 8)) : Option (LR (Int × Bool × (List (BitVec 8))) Empty) :=
 if (decide (y1 < (r6.length : Int))) = true then (
 Option.bind (ZC r6 y1) fun x1 =>
 Option.bind (XM p_id p_q y1 p_seed) fun r7 =>
 Option.bind (XL p_id p_q y1 r7 (0 : Int) x1) fun r8 =>
 Option.bind (JI (y3, y2) r8.toList) fun r9 =>
 some (.next (w64 (y1 + (1 : Int)), r9.2, r9.1))) else (
 some (.brk (y1, y2, y3)))
def Wl (p_kind : Int) (p_id : QO) (p_q : BitVec 32) (p_seed : Qa) (p_message : List (BitVec 8)) : Option ((List (BitVec 8)) × Int) :=
 Option.bind (Kf p_kind) fun r1 =>
 if (!r1.2) = true then (
 some (([] : List (BitVec 8)), (1 : Int))) else (
 Option.bind (XM p_id p_q (65533 : Int) p_seed) fun r2 =>
 Option.bind (Zg (([] : List (BitVec 8)), false) (BitVec.ofInt 32 p_kind)) fun r3 =>
 Option.bind (JI (r3.1, r3.2) r2.toList) fun r4 =>
 Option.bind (YF p_id p_q (33153 : Int) ([r2.toList, p_message])) fun r5 =>
 Option.bind (Y2 r1.1 r5) fun r6 =>
 Option.bind (Q5 (fun (s : Int × Bool × (List (BitVec 8))) => XX r6 p_id p_q p_seed s.1 s.2.1 s.2.2) FU ((0 : Int), r4.2, r4.1)) fun (s1 : Int × Bool × (List (BitVec 8))) =>
 Option.bind (Yc (s1.2.2, s1.2.1)) fun r10 =>
 some (r10.2.1, r10.2.2))
def Xg (p_t : Option Qy) (y2 : Int) (y3 : Bool) (y4 : List (BitVec 8)) : Option (LR (Int × Bool × (List (BitVec 8))) Empty) :=
 if (decide ((1 : Int) < y2)) = true then (
 Option.bind (p_t) fun x5 =>
 Option.bind (ZC x5.2.2.2.2 (Qk8 y2 (1 : Int))) fun x6 =>
 Option.bind (JI (y4, y3) x6.toList) fun r7 =>
 some (.next (w64 (Int.tdiv y2 (2 : Int)), r7.2, r7.1))) else (
 some (.brk (y2, y3, y4)))
def VC (p_t : Option Qy) (p_q : Int) (p_message : List (BitVec 8)) : Option ((List (BitVec 8)) × Int) :=
 if (p_t.isNone) = true then (
 some (([] : List (BitVec 8)), (1 : Int))) else (
 Option.bind (if (decide (p_q < (0 : Int))) = true then (
 some true) else (
 Option.bind (XU p_t) fun r1 =>
 some (decide (r1 ≤ p_q)))) fun y1 =>
 if (y1) = true then (
 some (([] : List (BitVec 8)), (7 : Int))) else (
 Option.bind (p_t) fun x1 =>
 Option.bind (p_t) fun x2 =>
 Option.bind (p_t) fun x3 =>
 Option.bind (Wl x1.2.1 x2.2.2.1 (BitVec.ofInt 32 p_q) x3.2.2.2.1 p_message) fun r2 =>
 if (!decide (r2.2 = (0 : Int))) = true then (
 some (([] : List (BitVec 8)), r2.2)) else (
 Option.bind (Zg (([] : List (BitVec 8)), false) (BitVec.ofInt 32 p_q)) fun r3 =>
 Option.bind (JI (r3.1, r3.2) r2.1) fun r4 =>
 Option.bind (p_t) fun x4 =>
 Option.bind (Zg (r4.1, r4.2) (BitVec.ofInt 32 x4.1)) fun r5 =>
 Option.bind (XU p_t) fun r6 =>
 Option.bind (Q5 (fun (s : Int × Bool × (List (BitVec 8))) => Xg p_t s.1 s.2.1 s.2.2) FU (w64 (r6 + p_q), r5.2, r5.1)) fun (s1 : Int × Bool × (List (BitVec 8))) =>
 Option.bind (Yc (s1.2.2, s1.2.1)) fun r8 =>
 some (r8.2.1, r8.2.2))))
def Vq (p_s : Int × Int × Qa × (Option Qy) × (Option Qy) × Int) (p_n : Int) (p_message : List (BitVec 8)) : Option ((Int × Int × Qa × (Option Qy) × (Option Qy) × Int) × (List (BitVec 8)) × Int) :=
 Option.bind (if (decide (p_n < (0 : Int))) = true then (
 some true) else (
 Option.bind (Vv (p_s.1, p_s.2.1, p_s.2.2.1, p_s.2.2.2.1, p_s.2.2.2.2.1, p_s.2.2.2.2.2)) fun r1 =>
 some (decide (r1 ≤ p_n)))) fun y1 =>
 if (y1) = true then (
 some ((p_s.1, p_s.2.1, p_s.2.2.1, p_s.2.2.2.1, p_s.2.2.2.2.1, p_s.2.2.2.2.2), ([] : List (BitVec 8)), (7 : Int))) else (
 if 0 ≤ p_s.1 then (
 if 0 ≤ p_s.1 then (
 Option.bind (some (QfG p_n (w64 ((Xq (1 : Int) p_s.1) - (1 : Int))))) fun x1 =>
 Option.bind (Vu (p_s.1, p_s.2.1, p_s.2.2.1, p_s.2.2.2.1, p_s.2.2.2.2.1, p_s.2.2.2.2.2) (UY p_n p_s.1)) fun r2 =>
 if (!decide (r2.2.2 = (0 : Int))) = true then (
 some ((r2.1.1, r2.1.2.1, r2.1.2.2.1, r2.1.2.2.2.1, r2.1.2.2.2.2.1, r2.1.2.2.2.2.2), ([] : List (BitVec 8)), r2.2.2)) else (
 Option.bind (XA r2.2.1) fun r3 =>
 Option.bind (VC r2.1.2.2.2.1 (UY p_n p_s.1) r3) fun r4 =>
 if (!decide (r4.2 = (0 : Int))) = true then (
 some ((r2.1.1, r2.1.2.1, r2.1.2.2.1, r2.1.2.2.2.1, r2.1.2.2.2.2.1, r2.1.2.2.2.2.2), ([] : List (BitVec 8)), r4.2)) else (
 Option.bind (VC r2.2.1 x1 p_message) fun r5 =>
 if (!decide (r5.2 = (0 : Int))) = true then (
 some ((r2.1.1, r2.1.2.1, r2.1.2.2.1, r2.1.2.2.2.1, r2.1.2.2.2.2.1, r2.1.2.2.2.2.2), ([] : List (BitVec 8)), r5.2)) else (
 Option.bind (JR ([[0#8, 0#8, 0#8, 1#8], r4.1, r3, r5.1])) fun r6 =>
 some ((r2.1.1, r2.1.2.1, r2.1.2.2.1, r2.1.2.2.2.1, r2.1.2.2.2.2.1, r2.1.2.2.2.2.2), r6, (0 : Int)))))) else none) else none)
def WL (p_s : Int × Int × Qa × (Option Qy) × (Option Qy) × Int) (p_n : Int) (p_h : JO) : Option ((Int × Int × Qa × (Option Qy) × (Option Qy) × Int) × Qr × Int) :=
 Option.bind (Kx p_h) fun r1 =>
 if (!decide (r1.2 = (0 : Int))) = true then (
 Option.bind (some (((0, 0, (Vector.replicate 32 (0#8)), (Vector.replicate 32 (0#8))), ([] : List (BitVec 8))))) fun x1 =>
 some ((p_s.1, p_s.2.1, p_s.2.2.1, p_s.2.2.2.1, p_s.2.2.2.2.1, p_s.2.2.2.2.2), x1, r1.2)) else (
 Option.bind (Vq (p_s.1, p_s.2.1, p_s.2.2.1, p_s.2.2.2.1, p_s.2.2.2.2.1, p_s.2.2.2.2.2) p_n r1.1) fun r2 =>
 if (!decide (r2.2.2 = (0 : Int))) = true then (
 Option.bind (some (((0, 0, (Vector.replicate 32 (0#8)), (Vector.replicate 32 (0#8))), ([] : List (BitVec 8))))) fun x2 =>
 some ((r2.1.1, r2.1.2.1, r2.1.2.2.1, r2.1.2.2.2.1, r2.1.2.2.2.2.1, r2.1.2.2.2.2.2), x2, r2.2.2)) else (
 Option.bind (some ((p_h, r2.2.1))) fun x3 =>
 some ((r2.1.1, r2.1.2.1, r2.1.2.2.1, r2.1.2.2.2.1, r2.1.2.2.2.2.1, r2.1.2.2.2.2.2), x3, (0 : Int))))
def ZQ (p_bytes : Int) (y1 : BitVec 64) (y2 : Int) (y3 : List (BitVec 8)) : Option (LR ((BitVec 64) × Int × (List (BitVec 8))) Empty) :=
 if (decide (y2 < p_bytes)) = true then (
 if y3.length + ([(y1 % (256#64)).setWidth 8]).length ≤ AP then (
 some (.next (y1 / (256#64), w64 (y2 + (1 : Int)), (y3 ++ ([(y1 % (256#64)).setWidth 8]))))) else none) else (
 some (.brk (y1, y2, y3)))
def ZP (y6 : List (BitVec 8)) (y7 : Int) (y8 : List (BitVec 8)) : Option (LR (Int × (List (BitVec 8))) Empty) :=
 if (decide ((0 : Int) ≤ y7)) = true then (
 Option.bind (ZC y6 y7) fun x1 =>
 if y8.length + ([x1]).length ≤ AP then (
 some (.next (w64 (y7 - (1 : Int)), (y8 ++ ([x1]))))) else none) else (
 some (.brk (y7, y8)))
def Zz (p_x : BitVec 64) (p_bytes : Int) : Option (List (BitVec 8)) :=
 Option.bind (Q5 (fun (s : (BitVec 64) × Int × (List (BitVec 8))) => ZQ p_bytes s.1 s.2.1 s.2.2) FU (p_x, (0 : Int), ([] : List (BitVec 8)))) fun (s2 : (BitVec 64) × Int × (List (BitVec 8))) =>
 Option.bind (Q5 (fun (s : Int × (List (BitVec 8))) => ZP s2.2.2 s.1 s.2) FU (w64 (p_bytes - (1 : Int)), ([] : List (BitVec 8)))) fun (s1 : Int × (List (BitVec 8))) =>
 some s1.2
def Vh : Option (Vector (BitVec 32) 8) :=
 Option.bind (some (#v[1779033703#32, 3144134277#32, 1013904242#32, 2773480762#32, 1359893119#32, 2600822924#32, 528734635#32, 1541459225#32])) fun x1 =>
 some x1
def ZX (y1 : List (BitVec 8)) : Option (LR (List (BitVec 8)) Empty) :=
 if (!decide ((Int.tmod (y1.length : Int) (64 : Int)) = (56 : Int))) = true then (
 if y1.length + ([0#8]).length ≤ AP then (
 some (.next (y1 ++ ([0#8])))) else none) else (
 some (.brk y1))
def Y9 (p_b : List (BitVec 8)) : Option (List (BitVec 8)) :=
 if ([] : List (BitVec 8)).length + p_b.length ≤ AP then (
 if (([] : List (BitVec 8)) ++ p_b).length + ([128#8]).length ≤ AP then (
 Option.bind (Q5 (fun (s : (List (BitVec 8))) => ZX s) FU ((([] : List (BitVec 8)) ++ p_b) ++ ([128#8]))) fun (s1 : (List (BitVec 8))) =>
 Option.bind (Zz ((8#64) * (BitVec.ofInt 64 (p_b.length : Int))) (8 : Int)) fun r1 =>
 if s1.length + r1.length ≤ AP then (
 some (s1 ++ r1)) else none) else none) else none
def Jr (p_x : BitVec 32) (p_n : BitVec 32) : Option (BitVec 32) :=
 Option.bind (some ((p_x >>> p_n.toNat) ||| (p_x <<< (((32#32) - p_n).toNat)))) fun x1 =>
 some x1
def Z6 (p_b : List (BitVec 8)) (y1 : BitVec 64) (y2 : Int) : Option (LR ((BitVec 64) × Int) Empty) :=
 if (decide (y2 < (p_b.length : Int))) = true then (
 Option.bind (ZC p_b y2) fun x1 =>
 some (.next ((y1 * (256#64)) + (x1.setWidth 64), w64 (y2 + (1 : Int))))) else (
 some (.brk (y1, y2)))
def Xs (p_b : List (BitVec 8)) : Option (BitVec 64) :=
 Option.bind (Q5 (fun (s : (BitVec 64) × Int) => Z6 p_b s.1 s.2) FU (0#64, (0 : Int))) fun (s1 : (BitVec 64) × Int) =>
 some s1.1
def Z8 (p_b : List (BitVec 8)) (y1 : Int) (y2 : Vector (BitVec 32) 64) : Option (LR (Int × (Vector (BitVec 32) 64)) Empty) :=
 if (decide (y1 < (16 : Int))) = true then (
 Option.bind (YJ p_b (w64 ((4 : Int) * y1)) (w64 ((w64 ((4 : Int) * y1)) + (4 : Int)))) fun x1 =>
 Option.bind (Xs x1) fun r1 =>
 if 0 ≤ y1 ∧ y1 < (64 : Int) then (
 Option.bind (some ((y2.setIfInBounds y1.toNat (r1.setWidth 32)))) fun x2 =>
 some (.next (w64 (y1 + (1 : Int)), x2))) else none) else (
 some (.brk (y1, y2)))
def Z5 (y5 : Int) (y6 : Vector (BitVec 32) 64) : Option (LR (Int × (Vector (BitVec 32) 64)) Empty) :=
 if (decide (y5 < (64 : Int))) = true then (
 Option.bind (Vc y6 (w64 (y5 - (15 : Int)))) fun x3 =>
 Option.bind (Vc y6 (w64 (y5 - (2 : Int)))) fun x4 =>
 Option.bind (Vc y6 (w64 (y5 - (16 : Int)))) fun x5 =>
 Option.bind (Jr x3 (7#32)) fun r2 =>
 Option.bind (Jr x3 (18#32)) fun r3 =>
 Option.bind (Vc y6 (w64 (y5 - (7 : Int)))) fun x6 =>
 Option.bind (Jr x4 (17#32)) fun r4 =>
 Option.bind (Jr x4 (19#32)) fun r5 =>
 if 0 ≤ y5 ∧ y5 < (64 : Int) then (
 Option.bind (some ((y6.setIfInBounds y5.toNat (((x5 + ((r2 ^^^ r3) ^^^ (x3 / (8#32)))) + x6) + ((r4 ^^^ r5) ^^^ (x4 / (1024#32))))))) fun x7 =>
 some (.next (w64 (y5 + (1 : Int)), x7))) else none) else (
 some (.brk (y5, y6)))
def Xo (p_b : List (BitVec 8)) : Option (Vector (BitVec 32) 64) :=
 Option.bind (Q5 (fun (s : Int × (Vector (BitVec 32) 64)) => Z8 p_b s.1 s.2) FU ((0 : Int), (Vector.replicate 64 (0#32)))) fun (s2 : Int × (Vector (BitVec 32) 64)) =>
 Option.bind (Q5 (fun (s : Int × (Vector (BitVec 32) 64)) => Z5 s.1 s.2) FU ((16 : Int), s2.2)) fun (s1 : Int × (Vector (BitVec 32) 64)) =>
 some s1.2
def KZ : Option (Vector (BitVec 32) 64) :=
 Option.bind (some (#v[1116352408#32, 1899447441#32, 3049323471#32, 3921009573#32, 961987163#32, 1508970993#32, 2453635748#32, 2870763221#32, 3624381080#32, 310598401#32, 607225278#32, 1426881987#32, 1925078388#32, 2162078206#32, 2614888103#32, 3248222580#32, 3835390401#32, 4022224774#32, 264347078#32, 604807628#32, 770255983#32, 1249150122#32, 1555081692#32, 1996064986#32, 2554220882#32, 2821834349#32, 2952996808#32, 3210313671#32, 3336571891#32, 3584528711#32, 113926993#32, 338241895#32, 666307205#32, 773529912#32, 1294757372#32, 1396182291#32, 1695183700#32, 1986661051#32, 2177026350#32, 2456956037#32, 2730485921#32, 2820302411#32, 3259730800#32, 3345764771#32, 3516065817#32, 3600352804#32, 4094571909#32, 275423344#32, 430227734#32, 506948616#32, 659060556#32, 883997877#32, 958139571#32, 1322822218#32, 1537002063#32, 1747873779#32, 1955562222#32, 2024104815#32, 2227730452#32, 2361852424#32, 2428436474#32, 2756734187#32, 3204031479#32, 3329325298#32])) fun x1 =>
 some x1
def Yq (r2 : (Vector (BitVec 32) 64)) (r1 : (Vector (BitVec 32) 64)) (y1 : Int) (y2 : Vector (BitVec 32) 8) : Option (LR (Int × (Vector (BitVec 32) 8)) Empty) :=
 if (decide (y1 < (64 : Int))) = true then (
 Option.bind (some (((y2[4]) &&& (y2[5])) ||| (((4294967295#32) - (y2[4])) &&& (y2[6])))) fun x1 =>
 Option.bind (some ((((y2[0]) &&& (y2[1])) ||| ((y2[0]) &&& (y2[2]))) ||| ((y2[1]) &&& (y2[2])))) fun x2 =>
 Option.bind (Jr (y2[4]) (6#32)) fun r3 =>
 Option.bind (Jr (y2[4]) (11#32)) fun r4 =>
 Option.bind (Jr (y2[4]) (25#32)) fun r5 =>
 Option.bind (Vc r2 y1) fun x3 =>
 Option.bind (Vc r1 y1) fun x4 =>
 Option.bind (some (((((y2[7]) + ((r3 ^^^ r4) ^^^ r5)) + x1) + x3) + x4)) fun x5 =>
 Option.bind (Jr (y2[0]) (2#32)) fun r6 =>
 Option.bind (Jr (y2[0]) (13#32)) fun r7 =>
 Option.bind (Jr (y2[0]) (22#32)) fun r8 =>
 Option.bind (some (#v[x5 + (((r6 ^^^ r7) ^^^ r8) + x2), y2[0], y2[1], y2[2], (y2[3]) + x5, y2[4], y2[5], y2[6]])) fun x6 =>
 some (.next (w64 (y1 + (1 : Int)), x6))) else (
 some (.brk (y1, y2)))
def Yj (y4 : Vector (BitVec 32) 8) (y5 : Int) (y6 : Vector (BitVec 32) 8) : Option (LR (Int × (Vector (BitVec 32) 8)) Empty) :=
 if (decide (y5 < (8 : Int))) = true then (
 Option.bind (Vc y6 y5) fun x7 =>
 Option.bind (Vc y4 y5) fun x8 =>
 if 0 ≤ y5 ∧ y5 < (8 : Int) then (
 some (.next (w64 (y5 + (1 : Int)), (y6.setIfInBounds y5.toNat (x7 + x8))))) else none) else (
 some (.brk (y5, y6)))
def XI (p_h : Vector (BitVec 32) 8) (p_block : List (BitVec 8)) : Option (Vector (BitVec 32) 8) :=
 Option.bind (Xo p_block) fun r1 =>
 Option.bind (KZ) fun r2 =>
 Option.bind (Q5 (fun (s : Int × (Vector (BitVec 32) 8)) => Yq r2 r1 s.1 s.2) FU ((0 : Int), p_h)) fun (s2 : Int × (Vector (BitVec 32) 8)) =>
 Option.bind (Q5 (fun (s : Int × (Vector (BitVec 32) 8)) => Yj s2.2 s.1 s.2) FU ((0 : Int), p_h)) fun (s1 : Int × (Vector (BitVec 32) 8)) =>
 some s1.2
def YA (r2 : (List (BitVec 8))) (y1 : Int) (y2 : Vector (BitVec 32) 8) : Option (LR (Int × (Vector (BitVec 32) 8)) Empty) :=
 if (decide (y1 < (r2.length : Int))) = true then (
 Option.bind (YJ r2 y1 (w64 (y1 + (64 : Int)))) fun x1 =>
 Option.bind (XI y2 x1) fun r3 =>
 some (.next (w64 (y1 + (64 : Int)), r3))) else (
 some (.brk (y1, y2)))
def YD (y4 : Vector (BitVec 32) 8) (y5 : Int) (y6 : Qa) : Option (LR (Int × Qa) Empty) :=
 if (decide (y5 < (32 : Int))) = true then (
 Option.bind (Vc y4 (w64 (Int.tdiv y5 (4 : Int)))) fun x2 =>
 if 0 ≤ y5 ∧ y5 < (32 : Int) then (
 Option.bind (some ((y6.setIfInBounds y5.toNat ((x2 >>> (((24#32) - ((8#32) * (BitVec.ofInt 32 (Int.tmod y5 (4 : Int))))).toNat)).setWidth 8)))) fun x3 =>
 some (.next (w64 (y5 + (1 : Int)), x3))) else none) else (
 some (.brk (y5, y6)))
def YO (p_b : List (BitVec 8)) : Option Qa :=
 Option.bind (Vh) fun r1 =>
 Option.bind (Y9 p_b) fun r2 =>
 Option.bind (Q5 (fun (s : Int × (Vector (BitVec 32) 8)) => YA r2 s.1 s.2) FU ((0 : Int), r1)) fun (s2 : Int × (Vector (BitVec 32) 8)) =>
 Option.bind (Q5 (fun (s : Int × Qa) => YD s2.2 s.1 s.2) FU ((0 : Int), (Vector.replicate 32 (0#8)))) fun (s1 : Int × Qa) =>
 some s1.2
def Kg (p_b : List (BitVec 8)) : Option ((List (BitVec 8)) × Bool) :=
 Option.bind (Jq p_b) fun r1 =>
 Option.bind (some ((r1, false))) fun x1 =>
 some x1
def Zn (p_r : (List (BitVec 8)) × Bool) (p_n : Int) : Option (((List (BitVec 8)) × Bool) × (List (BitVec 8))) :=
 Option.bind (some p_r.2) fun y1 =>
 if (y1) = true then (
 some ((p_r.1, p_r.2), ([] : List (BitVec 8)))) else (
 Option.bind (if (decide (p_n < (0 : Int))) = true then (
 some true) else (
 some (decide ((p_r.1.length : Int) < p_n)))) fun y2 =>
 if (y2) = true then (
 some ((p_r.1, true), ([] : List (BitVec 8)))) else (
 Option.bind (YJ p_r.1 0 p_n) fun x1 =>
 Option.bind (YJ p_r.1 p_n (p_r.1.length : Int)) fun x2 =>
 some ((x2, p_r.2), x1)))
def Z0 (x1 : List (BitVec 8)) (y3 : BitVec 64) (y4 : Int) : Option (LR ((BitVec 64) × Int) Empty) :=
 if (decide (y4 < (x1.length : Int))) = true then (
 Option.bind (ZC x1 y4) fun x2 =>
 some (.next ((y3 <<< 8) ||| (x2.setWidth 64), w64 (y4 + (1 : Int))))) else (
 some (.brk (y3, y4)))
def YR (p_r : (List (BitVec 8)) × Bool) (p_bytes : Int) : Option ((BitVec 64) × Bool) :=
 Option.bind (some p_r.2) fun y1 =>
 Option.bind (if (y1) = true then (
 some true) else (
 some (decide ((p_r.1.length : Int) < p_bytes)))) fun y2 =>
 if (y2) = true then (
 some (0#64, false)) else (
 Option.bind (YJ p_r.1 0 p_bytes) fun x1 =>
 Option.bind (Q5 (fun (s : (BitVec 64) × Int) => Z0 x1 s.1 s.2) FU (0#64, (0 : Int))) fun (s1 : (BitVec 64) × Int) =>
 some (s1.1, true))
def ZL (p_r : (List (BitVec 8)) × Bool) (p_bytes : Int) : Option (((List (BitVec 8)) × Bool) × (BitVec 64)) :=
 Option.bind (YR (p_r.1, p_r.2) p_bytes) fun r1 =>
 Option.bind (Zn (p_r.1, p_r.2) p_bytes) fun r2 =>
 if (!r1.2) = true then (
 some ((r2.1.1, r2.1.2), 0#64)) else (
 some ((r2.1.1, r2.1.2), r1.1))
def Jb (p_r : (List (BitVec 8)) × Bool) : Option (((List (BitVec 8)) × Bool) × (BitVec 32)) :=
 Option.bind (ZL (p_r.1, p_r.2) (4 : Int)) fun r1 =>
 some ((r1.1.1, r1.1.2), r1.2.setWidth 32)
def QR (p_r : (List (BitVec 8)) × Bool) (p_n : Int) : Option (((List (BitVec 8)) × Bool) × (List (BitVec 8))) :=
 Option.bind (Zn (p_r.1, p_r.2) p_n) fun r1 =>
 some ((r1.1.1, r1.1.2), r1.2)
def Zw (p_r : (List (BitVec 8)) × Bool) : Option Int :=
 some (p_r.1.length : Int)
def Zm (p_r : (List (BitVec 8)) × Bool) : Option Bool :=
 Option.bind (some p_r.2) fun y1 =>
 some y1
def Vb (p_r : (List (BitVec 8)) × Bool) : Option Bool :=
 Option.bind (Zm (p_r.1, p_r.2)) fun r1 =>
 Option.bind (if (!r1) = true then (
 Option.bind (Zw (p_r.1, p_r.2)) fun r2 =>
 some (decide (r2 = (0 : Int)))) else (
 some false)) fun y1 =>
 some y1
def XS (p_height : Int) (y1 : Int) (y2 : List (BitVec 8)) (y3 : Bool) (y4 : List Qa) : Option (LR (Int × (List (BitVec 8)) × Bool × (List Qa)) Empty) :=
 if (decide (y1 < p_height)) = true then (
 Option.bind (QR (y2, y3) (32 : Int)) fun r7 =>
 Option.bind (Wi 32 r7.2) fun x2 =>
 if y4.length + ([x2]).length ≤ AP then (
 some (.next (w64 (y1 + (1 : Int)), r7.1.1, r7.1.2, (y4 ++ ([x2]))))) else none) else (
 some (.brk (y1, y2, y3, y4)))
def Kr (p_b : List (BitVec 8)) (p_height : Int) (p_kind : Int) : Option (UD × Bool) :=
 Option.bind (KL p_height p_kind) fun r1 =>
 if (!decide ((p_b.length : Int) = r1)) = true then (
 Option.bind (some ((0, ([] : List (BitVec 8)), ([] : List Qa)))) fun x1 =>
 some (x1, false)) else (
 Option.bind (Kg p_b) fun r2 =>
 Option.bind (Jb (r2.1, r2.2)) fun r3 =>
 Option.bind (Ud p_kind) fun r4 =>
 Option.bind (QR (r3.1.1, r3.1.2) r4) fun r5 =>
 Option.bind (Jb (r5.1.1, r5.1.2)) fun r6 =>
 Option.bind (Q5 (fun (s : Int × (List (BitVec 8)) × Bool × (List Qa)) => XS p_height s.1 s.2.1 s.2.2.1 s.2.2.2) FU ((0 : Int), r6.1.1, r6.1.2, ([] : List Qa))) fun (s1 : Int × (List (BitVec 8)) × Bool × (List Qa)) =>
 Option.bind (Vb (s1.2.1, s1.2.2.1)) fun r8 =>
 Option.bind (if (r8) = true then (
 some (decide ((r6.2.toNat : Int) = p_height))) else (
 some false)) fun y9 =>
 Option.bind (if (y9) = true then (
 if 0 ≤ p_height then (
 some (decide ((((r3.2.toNat : Int), r5.2, s1.2.2.2).1) < (Xq (1 : Int) p_height)))) else none) else (
 some false)) fun y10 =>
 Option.bind (if (y10) = true then (
 Option.bind (Kg (((r3.2.toNat : Int), r5.2, s1.2.2.2).2.1)) fun r9 =>
 Option.bind (Jb (r9.1, r9.2)) fun r10 =>
 some (decide ((r10.2.toNat : Int) = p_kind))) else (
 some false)) fun y11 =>
 some (((r3.2.toNat : Int), r5.2, s1.2.2.2), y11))
def YM (r7 : (List Int)) (r3 : Jy × Bool) (p_id : QO) (p_q : BitVec 32) (y2 : Int) (y3 : List Qa) (y4 : List (BitVec 8)) (y5 : Bool) : Option (LR (Int × (List Qa) × (List (BitVec 8)) × Bool) Empty) :=
 if (decide (y2 < (r7.length : Int))) = true then (
 Option.bind (ZC r7 y2) fun x2 =>
 Option.bind (QR (y4, y5) (32 : Int)) fun r8 =>
 Option.bind (Wi 32 r8.2) fun x3 =>
 Option.bind (Yd r3.1) fun r9 =>
 Option.bind (XL p_id p_q y2 x3 x2 r9) fun r10 =>
 if 0 ≤ y2 ∧ y2 < (y3.length : Int) then (
 some (.next (w64 (y2 + (1 : Int)), (y3.set y2.toNat r10), r8.1.1, r8.1.2))) else none) else (
 some (.brk (y2, y3, y4, y5)))
def Kk (p_id : QO) (p_q : BitVec 32) (p_message : List (BitVec 8)) (p_signature : List (BitVec 8)) : Option (Qa × Bool) :=
 Option.bind (Kg p_signature) fun r1 =>
 Option.bind (Jb (r1.1, r1.2)) fun r2 =>
 Option.bind (Kf (r2.2.toNat : Int)) fun r3 =>
 Option.bind (if (!r3.2) = true then (
 some true) else (
 Option.bind (Ud (r2.2.toNat : Int)) fun r4 =>
 some (!decide ((p_signature.length : Int) = r4)))) fun y1 =>
 if (y1) = true then (
 some ((Vector.replicate 32 (0#8)), false)) else (
 Option.bind (QR (r2.1.1, r2.1.2) (32 : Int)) fun r5 =>
 if 0 ≤ r3.1.2.1 ∧ r3.1.2.1 ≤ (4294967296 : Int) then (
 Option.bind (some (List.replicate r3.1.2.1.toNat (Vector.replicate 32 (0#8)))) fun x1 =>
 Option.bind (YF p_id p_q (33153 : Int) ([r5.2, p_message])) fun r6 =>
 Option.bind (Y2 r3.1 r6) fun r7 =>
 Option.bind (Q5 (fun (s : Int × (List Qa) × (List (BitVec 8)) × Bool) => YM r7 r3 p_id p_q s.1 s.2.1 s.2.2.1 s.2.2.2) FU ((0 : Int), x1, r5.1.1, r5.1.2)) fun (s1 : Int × (List Qa) × (List (BitVec 8)) × Bool) =>
 Option.bind (V5 p_id p_q s1.2.1) fun r11 =>
 some (r11, true)) else none)
def Vm (p_path : List Qa) (p_id : QO) (y1 : Int) (y2 : Int) (y3 : Qa) : Option (LR (Int × Int × Qa) Empty) :=
 if (decide (y2 < (p_path.length : Int))) = true then (
 Option.bind (ZC p_path y2) fun x1 =>
 Option.bind (if (decide ((Int.tmod y1 (2 : Int)) = (1 : Int))) = true then (
 some (y3, x1)) else (
 some (x1, y3))) fun (j1 : Qa × Qa) =>
 Option.bind (U1 p_id (w64 (Int.tdiv y1 (2 : Int))) j1.2 j1.1) fun r1 =>
 some (.next (w64 (Int.tdiv y1 (2 : Int)), w64 (y2 + (1 : Int)), r1))) else (
 some (.brk (y1, y2, y3)))
def WY (p_id : QO) (p_r : Int) (p_h : Qa) (p_path : List Qa) : Option Qa :=
 Option.bind (Q5 (fun (s : Int × Int × Qa) => Vm p_path p_id s.1 s.2.1 s.2.2) FU (p_r, (0 : Int), p_h)) fun (s1 : Int × Int × Qa) =>
 some s1.2.2
def Zp (p_s1 : List (BitVec 8)) (p_s2 : List (BitVec 8)) (y1 : Int) : Option (LR Int Bool) :=
 if (decide (y1 < (p_s1.length : Int))) = true then (
 Option.bind (ZC p_s1 y1) fun x1 =>
 Option.bind (ZC p_s2 y1) fun x2 =>
 if (!decide (x1 = x2)) = true then (
 some (.ret false)) else (
 some (.next (w64 (y1 + (1 : Int)))))) else (
 some (.brk y1))
def Yy (p_s1 : List (BitVec 8)) (p_s2 : List (BitVec 8)) : Option Bool :=
 if (!decide ((p_s1.length : Int) = (p_s2.length : Int))) = true then (
 some false) else (
 Option.bind (Z2 (fun (s : Int) => Zp p_s1 p_s2 s) FU (0 : Int)) fun o => match o with
 | .inl (s1 : Int) => (
 some true)
 | .inr x => some x)
def Ue (p_public : List (BitVec 8)) (p_message : List (BitVec 8)) (p_sig : List (BitVec 8)) : Option Bool :=
 if (!decide ((p_public.length : Int) = (56 : Int))) = true then (
 some false) else (
 Option.bind (Kg p_public) fun r1 =>
 Option.bind (Jb (r1.1, r1.2)) fun r2 =>
 Option.bind (Jb (r2.1.1, r2.1.2)) fun r3 =>
 Option.bind (QR (r3.1.1, r3.1.2) (16 : Int)) fun r4 =>
 Option.bind (Wi 16 r4.2) fun x1 =>
 Option.bind (QR (r4.1.1, r4.1.2) (32 : Int)) fun r5 =>
 Option.bind (UT (r2.2.toNat : Int) (r3.2.toNat : Int)) fun r6 =>
 if (!r6) = true then (
 some false) else (
 Option.bind (Kr p_sig (r2.2.toNat : Int) (r3.2.toNat : Int)) fun r7 =>
 if (!r7.2) = true then (
 some false) else (
 Option.bind (Kk x1 (BitVec.ofInt 32 r7.1.1) p_message r7.1.2.1) fun r8 =>
 if (!r8.2) = true then (
 some false) else (
 if 0 ≤ (r2.2.toNat : Int) then (
 Option.bind (some (w64 ((Xq (1 : Int) (r2.2.toNat : Int)) + r7.1.1))) fun x2 =>
 Option.bind (WQ x1 x2 r8.1) fun r9 =>
 Option.bind (WY x1 x2 r9 r7.1.2.2) fun r10 =>
 Option.bind (Yy r10.toList r5.2) fun r11 =>
 some r11) else none))))
def U9 (p_public : List (BitVec 8)) (p_message : List (BitVec 8)) (p_signature : List (BitVec 8)) : Option Bool :=
 if (!decide ((p_public.length : Int) = (60 : Int))) = true then (
 some false) else (
 Option.bind (Kg p_public) fun r1 =>
 Option.bind (Jb (r1.1, r1.2)) fun r2 =>
 if (!decide (r2.2 = (2#32))) = true then (
 some false) else (
 Option.bind (Jb (r2.1.1, r2.1.2)) fun r3 =>
 Option.bind (Jb (r3.1.1, r3.1.2)) fun r4 =>
 Option.bind (Kg p_signature) fun r5 =>
 Option.bind (Jb (r5.1, r5.2)) fun r6 =>
 if (!decide (r6.2 = (1#32))) = true then (
 some false) else (
 Option.bind (KL (r3.2.toNat : Int) (r4.2.toNat : Int)) fun r7 =>
 Option.bind (QR (r6.1.1, r6.1.2) r7) fun r8 =>
 Option.bind (QR (r8.1.1, r8.1.2) (56 : Int)) fun r9 =>
 Option.bind (Zw (r9.1.1, r9.1.2)) fun r10 =>
 Option.bind (QR (r9.1.1, r9.1.2) r10) fun r11 =>
 Option.bind (Zm (r11.1.1, r11.1.2)) fun r12 =>
 Option.bind (if (!r12) = true then (
 Option.bind (YJ p_public (4 : Int) (p_public.length : Int)) fun x1 =>
 Option.bind (Ue x1 r9.2 r8.2) fun r13 =>
 some r13) else (
 some false)) fun y1 =>
 Option.bind (if (y1) = true then (
 Option.bind (Ue r9.2 p_message r11.2) fun r14 =>
 some r14) else (
 some false)) fun y2 =>
 some y2)))
def Kt (p_s : Qr) (p_public : List (BitVec 8)) : Option Bool :=
 Option.bind (Kx p_s.1) fun r1 =>
 Option.bind (if (decide (r1.2 = (0 : Int))) = true then (
 Option.bind (U9 p_public r1.1 p_s.2) fun r2 =>
 some r2) else (
 some false)) fun y1 =>
 some y1
def Z1 (p_s : Int × Int × Qa × (Option Qy) × (Option Qy) × Int) : Option (List (BitVec 8)) :=
 Option.bind (XA p_s.2.2.2.1) fun r1 =>
 Option.bind (JR ([[0#8, 0#8, 0#8, 2#8], r1])) fun r2 =>
 some r2
def YB : Option (Int × Int × Qa × (Option Qy) × (Option Qy) × Int) :=
 Option.bind (some (#v[27#8, 0#8, 0#8, 0#8, 0#8, 0#8, 0#8, 0#8, 0#8, 0#8, 0#8, 0#8, 0#8, 0#8, 0#8, 0#8, 0#8, 0#8, 0#8, 0#8, 0#8, 0#8, 0#8, 0#8, 0#8, 0#8, 0#8, 0#8, 0#8, 0#8, 0#8, 0#8])) fun x1 =>
 Option.bind (B9 (1 : Int) (2 : Int) (3 : Int) x1) fun r1 =>
 Option.bind (r1.1) fun x2 =>
 some (x2.1, x2.2.1, x2.2.2.1, x2.2.2.2.1, x2.2.2.2.2.1, x2.2.2.2.2.2)
def Ua (p_public : List (BitVec 8)) : Option ((List (BitVec 8)) × (List Qr) × (List Qw) × (List QB)) :=
 Option.bind (Jq p_public) fun r1 =>
 some (r1, ([] : List Qr), ([] : List Qw), ([] : List QB))
def YC (p_s : Qr) (p_e : Int) : Option Int :=
 some (w64 (p_s.1.1 - p_e))
def QP (p_x : List Qr) (p_target : Int) (y1 : Int) (y2 : Int) : Option (LR (Int × Int) Empty) :=
 if (decide (y1 < y2)) = true then (
 Option.bind (some (w64 (((BitVec.ofInt 64 (w64 (y1 + y2))) >>> 1).toNat : Int))) fun x1 =>
 Option.bind (ZC p_x x1) fun x2 =>
 Option.bind (YC x2 p_target) fun r1 =>
 if (decide (r1 < (0 : Int))) = true then (
 some (.next (w64 (x1 + (1 : Int)), y2))) else (
 some (.next (y1, x1)))) else (
 some (.brk (y1, y2)))
def Q8 (p_x : List Qr) (p_target : Int) : Option (Int × Bool) :=
 Option.bind (Q5 (fun (s : Int × Int) => QP p_x p_target s.1 s.2) FU ((0 : Int), (p_x.length : Int))) fun (s1 : Int × Int) =>
 Option.bind (if (decide (s1.1 < (p_x.length : Int))) = true then (
 Option.bind (ZC p_x s1.1) fun x3 =>
 Option.bind (YC x3 p_target) fun r2 =>
 some (decide (r2 = (0 : Int)))) else (
 some false)) fun y5 =>
 some (s1.1, y5)
def JH (p_p : Option Zb) (p_e : Int) : Option (Int × Bool) :=
 Option.bind (p_p) fun x1 =>
 Option.bind (Q8 x1.2.1 p_e) fun r1 =>
 some (r1.1, r1.2)
def VU (p_f : Qw) (q_0 : Int) : Option Bool :=
 some (decide (p_f.1.1.1 = q_0))
def Jv (p_s : List Qw) (k1_0 : Int) (y1 : Int) : Option (LR Int Int) :=
 if (decide (y1 < (p_s.length : Int))) = true then (
 Option.bind (ZC p_s y1) fun x1 =>
 Option.bind (VU x1 k1_0) fun r1 =>
 if (r1) = true then (
 some (.ret y1)) else (
 some (.next (w64 (y1 + (1 : Int)))))) else (
 some (.brk y1))
def JD (p_s : List Qw) (k1_0 : Int) : Option Int :=
 Option.bind (Z2 (fun (s : Int) => Jv p_s k1_0 s) FU (0 : Int)) fun o => match o with
 | .inl (s1 : Int) => (
 some (-1 : Int))
 | .inr x => some x
def Jw (p_s : List Qw) (k1_0 : Int) : Option Bool :=
 Option.bind (JD p_s k1_0) fun r1 =>
 some (decide ((0 : Int) ≤ r1))
def Ks (p_p : Option Zb) (p_e : Int) : Option Bool :=
 Option.bind (p_p) fun x1 =>
 Option.bind (Jw x1.2.2.1 p_e) fun r1 =>
 some r1
def Yt (p_s : Qr) : Option Qr :=
 Option.bind (Jq p_s.2) fun r1 =>
 some (p_s.1, r1)
def ZR (p_s : List Qr) (p_i : Int) (p_v : List Qr) : Option (List Qr) :=
 if 0 ≤ p_i ∧ p_i ≤ (p_s.length : Int) ∧ p_v.length = 1 ∧ p_s.length ≤ 1000000 then some (p_s.take p_i.toNat ++ p_v ++ p_s.drop p_i.toNat) else none
def Zt (p_p : (List (BitVec 8)) × (List Qr) × (List Qw) × (List QB)) (p_s : Qr) : Option (((List (BitVec 8)) × (List Qr) × (List Qw) × (List QB)) × Int) :=
 Option.bind (Kt p_s p_p.1) fun r1 =>
 if (!r1) = true then (
 some ((p_p.1, p_p.2.1, p_p.2.2.1, p_p.2.2.2), (8 : Int))) else (
 Option.bind (JH (some (p_p.1, p_p.2.1, p_p.2.2.1, p_p.2.2.2)) p_s.1.1) fun r2 =>
 Option.bind (if (r2.2) = true then (
 Option.bind (ZC p_p.2.1 r2.1) fun x1 =>
 some (decide (x1.1 = p_s.1))) else (
 some false)) fun y1 =>
 if (y1) = true then (
 some ((p_p.1, p_p.2.1, p_p.2.2.1, p_p.2.2.2), (11 : Int))) else (
 if (r2.2) = true then (
 Option.bind (Ks (some (p_p.1, p_p.2.1, p_p.2.2.1, p_p.2.2.2)) p_s.1.1) fun r3 =>
 Option.bind (if (!r3) = true then (
 Option.bind (ZC p_p.2.1 r2.1) fun x2 =>
 Option.bind (Yt x2) fun r4 =>
 Option.bind (Yt p_s) fun r5 =>
 Option.bind (some ((r4, r5))) fun x3 =>
 if p_p.2.2.1.length + ([x3]).length ≤ AP then (
 some (p_p.2.2.1 ++ ([x3]))) else none) else (
 some p_p.2.2.1)) fun y2 =>
 some ((p_p.1, p_p.2.1, y2, p_p.2.2.2), (9 : Int))) else (
 Option.bind (some (decide ((64 : Int) ≤ (p_p.2.1.length : Int)))) fun x4 =>
 if (x4) = true then (
 some ((p_p.1, p_p.2.1, p_p.2.2.1, p_p.2.2.2), (5 : Int))) else (
 Option.bind (Yt p_s) fun r6 =>
 Option.bind (ZR p_p.2.1 r2.1 ([r6])) fun r7 =>
 some ((p_p.1, r7, p_p.2.2.1, p_p.2.2.2), (0 : Int))))))
def Zy (p_s : Int × Int × Qa × (Option Qy) × (Option Qy) × Int) (p_h : Kb) : Option ((Int × Int × Qa × (Option Qy) × (Option Qy) × Int) × Qr) :=
 Option.bind (WL (p_s.1, p_s.2.1, p_s.2.2.1, p_s.2.2.2.1, p_s.2.2.2.2.1, p_s.2.2.2.2.2) (w64 (((BitVec.ofInt 64 p_h.1) % (8#64)).toNat : Int)) p_h) fun r1 =>
 some ((r1.1.1, r1.1.2.1, r1.1.2.2.1, r1.1.2.2.2.1, r1.1.2.2.2.2.1, r1.1.2.2.2.2.2), (p_h, r1.2.1.2))
def Yv {Sy : Type} (x1 : Zb) (q_1 : Int) (yl : Sy → Int → Option Sy) (y1 : Int) (y2 : Sy) : Option (LR (Int × Sy) Empty) :=
 if (decide (y1 < (x1.2.2.2.length : Int))) = true then (
 Option.bind (ZC x1.2.2.2 y1) fun x2 =>
 if (decide (x2.1 = q_1)) = true then (
 Option.bind (yl y2 x2.2) fun y3 =>
 some (.next (w64 (y1 + (1 : Int)), y3))) else (
 some (.next (w64 (y1 + (1 : Int)), y2)))) else (
 some (.brk (y1, y2)))
def Xa {Sy : Type} (yl : Sy → Int → Option Sy) (q_0 : Option Zb) (q_1 : Int) (s0 : Sy) : Option Sy :=
 Option.bind (q_0) fun x1 =>
 Option.bind (Q5 (fun (s : Int × Sy) => Yv x1 q_1 yl s.1 s.2) FU ((0 : Int), s0)) fun (s1 : Int × Sy) =>
 some s1.2
def YH (y4 : List Int) (d : Int) (y5 : Int) : Option (LR Int Int) :=
 if (decide (y5 < (y4.length : Int))) = true then (
 Option.bind (ZC y4 y5) fun x3 =>
 if (decide (x3 = d)) = true then (
 some (.ret y5)) else (
 some (.next (w64 (y5 + (1 : Int)))))) else (
 some (.brk y5))
def Zc (y4 : List Int) (d : Int) : Option (List Int) :=
 Option.bind (Z2 (fun (s : Int) => YH y4 d s) FU (0 : Int)) fun o => match o with
 | .inl (s1 : Int) => (
 if y4.length + ([d]).length ≤ AP then (
 some (y4 ++ ([d]))) else none)
 | .inr (s1 : Int) => (
 some y4)
def J0 (p_n : Int) (p_p : Option Zb) (y2 : Int) (y3 : List Int) : Option (LR (Int × (List Int)) Bool) :=
 if (decide (y2 < (y3.length : Int))) = true then (
 Option.bind (ZC y3 y2) fun x1 =>
 if (decide (x1 = p_n)) = true then (
 some (.ret true)) else (
 Option.bind (ZC y3 y2) fun x2 =>
 Option.bind (Xa (fun (s : (List Int)) (d : Int) => Zc s d) p_p x2 y3) fun (s2 : (List Int)) =>
 some (.next (w64 (y2 + (1 : Int)), s2)))) else (
 some (.brk (y2, y3)))
def JW (p_p : Option Zb) (p_m : Int) (p_n : Int) : Option Bool :=
 if (p_p.isNone) = true then (
 some false) else (
 Option.bind (JH p_p p_m) fun r1 =>
 Option.bind (JH p_p p_n) fun r2 =>
 Option.bind (if (!r1.2) = true then (
 some true) else (
 some (!r2.2))) fun y1 =>
 if (y1) = true then (
 some false) else (
 Option.bind (Z2 (fun (s : Int × (List Int)) => J0 p_n p_p s.1 s.2) FU ((0 : Int), [p_m])) fun o => match o with
 | .inl (s3 : Int × (List Int)) => (
 some false)
 | .inr x => some x))
def Yk (p_p : (List (BitVec 8)) × (List Qr) × (List Qw) × (List QB)) (y1 : Int) (y2 : List Qr) : Option (LR (Int × (List Qr)) Empty) :=
 if (decide (y1 < (p_p.2.1.length : Int))) = true then (
 Option.bind (ZC p_p.2.1 y1) fun x1 =>
 Option.bind (Yt x1) fun r1 =>
 if y2.length + ([r1]).length ≤ AP then (
 some (.next (w64 (y1 + (1 : Int)), (y2 ++ ([r1]))))) else none) else (
 some (.brk (y1, y2)))
def XP (p_p : (List (BitVec 8)) × (List Qr) × (List Qw) × (List QB)) : Option (List Qr) :=
 Option.bind (Q5 (fun (s : Int × (List Qr)) => Yk p_p s.1 s.2) FU ((0 : Int), ([] : List Qr))) fun (s1 : Int × (List Qr)) =>
 some s1.2
def YL : Option Bool :=
 Option.bind (YB) fun r1 =>
 Option.bind (Z1 (r1.1, r1.2.1, r1.2.2.1, r1.2.2.2.1, r1.2.2.2.2.1, r1.2.2.2.2.2)) fun r2 =>
 Option.bind (Ua r2) fun r3 =>
 Option.bind (some (((3 : Int), (1 : Int), (Vector.replicate 32 (0#8)), (Vector.replicate 32 (0#8))))) fun x1 =>
 Option.bind (Zy (r1.1, r1.2.1, r1.2.2.1, r1.2.2.2.1, r1.2.2.2.2.1, r1.2.2.2.2.2) x1) fun r4 =>
 Option.bind (Zt (r3.1, r3.2.1, r3.2.2.1, r3.2.2.2) r4.2) fun r5 =>
 Option.bind (if (decide (r5.2 = (0 : Int))) = true then (
 Option.bind (XP (r5.1.1, r5.1.2.1, r5.1.2.2.1, r5.1.2.2.2)) fun r6 =>
 some (decide ((r6.length : Int) = (1 : Int)))) else (
 some false)) fun y1 =>
 Option.bind (if (y1) = true then (
 Option.bind (JW (some (r5.1.1, r5.1.2.1, r5.1.2.2.1, r5.1.2.2.2)) (3 : Int) (3 : Int)) fun r7 =>
 some r7) else (
 some false)) fun y2 =>
 some y2
def XN (p_b : List (BitVec 8)) : Option Qa :=
 if ([0#8]).length + p_b.length ≤ AP then (
 Option.bind (YO (([0#8]) ++ p_b)) fun r1 =>
 some r1) else none
def Xl (p_epoch : Int) (p_tree : Qa) : Option Qa :=
 Option.bind (Zz ((BitVec.ofInt 64 p_epoch) % (4294967296#64)) (4 : Int)) fun r1 =>
 if r1.length + p_tree.toList.length ≤ AP then (
 Option.bind (XN (r1 ++ p_tree.toList)) fun r2 =>
 some r2) else none
def Yp (p_n : Int) (y1 : Int) (y2 : List Qa) : Option (LR (Int × (List Qa)) Empty) :=
 if (decide (y1 ≤ p_n)) = true then (
 Option.bind (some (#v[BitVec.ofInt 8 y1, 0#8, 0#8, 0#8, 0#8, 0#8, 0#8, 0#8, 0#8, 0#8, 0#8, 0#8, 0#8, 0#8, 0#8, 0#8, 0#8, 0#8, 0#8, 0#8, 0#8, 0#8, 0#8, 0#8, 0#8, 0#8, 0#8, 0#8, 0#8, 0#8, 0#8, 0#8])) fun x1 =>
 Option.bind (Xl y1 x1) fun r1 =>
 if y2.length + ([r1]).length ≤ AP then (
 some (.next (w64 (y1 + (1 : Int)), (y2 ++ ([r1]))))) else none) else (
 some (.brk (y1, y2)))
def Yl (p_n : Int) : Option (List Qa) :=
 Option.bind (Q5 (fun (s : Int × (List Qa)) => Yp p_n s.1 s.2) FU ((1 : Int), ([] : List Qa))) fun (s1 : Int × (List Qa)) =>
 some s1.2
def XG (p_a : Qa) (p_b : Qa) : Option (List (BitVec 8)) :=
 if ([1#8]).length + p_a.toList.length ≤ AP then (
 if (([1#8]) ++ p_a.toList).length + p_b.toList.length ≤ AP then (
 some ((([1#8]) ++ p_a.toList) ++ p_b.toList)) else none) else none
def XB (p_a : Qa) (p_b : Qa) : Option Qa :=
 Option.bind (XG p_a p_b) fun r1 =>
 Option.bind (YO r1) fun r2 =>
 some r2
def XH (p_l : List Qa) (y1 : Int) : Option (LR Int Empty) :=
 if (decide (y1 < (w64 ((p_l.length : Int) - y1)))) = true then (
 some (.next (w64 ((2 : Int) * y1)))) else (
 some (.brk y1))
def Xc (rc : (List Qa) → Option Qa) (p_l : List Qa) : Option Qa :=
 if (decide ((p_l.length : Int) = (0 : Int))) = true then (
 Option.bind (YO ([] : List (BitVec 8))) fun r1 =>
 some r1) else (
 if (decide ((p_l.length : Int) = (1 : Int))) = true then (
 Option.bind (ZC p_l (0 : Int)) fun x1 =>
 some x1) else (
 Option.bind (Q5 (fun (s : Int) => XH p_l s) FU (1 : Int)) fun (s1 : Int) =>
 Option.bind (YJ p_l 0 s1) fun x2 =>
 Option.bind (rc x2) fun r2 =>
 Option.bind (YJ p_l s1 (p_l.length : Int)) fun x3 =>
 Option.bind (rc x3) fun r3 =>
 Option.bind (XB r2 r3) fun r4 =>
 some r4))
def Y8 : Nat → (List Qa) → Option Qa
  | 0 => fun _ => none
  | n + 1 => Xc (Y8 n)
def VK (p_l : List Qa) : Option Qa := Y8 FU p_l
def V6 (p_from : Int) (p_to : Int) : Option Bool :=
 Option.bind (if (decide ((0 : Int) ≤ p_from)) = true then (
 some (decide (p_from ≤ p_to))) else (
 some false)) fun y1 =>
 Option.bind (if (y1) = true then (
 some (decide (p_to ≤ (2147483647 : Int)))) else (
 some false)) fun y2 =>
 some y2
def Vr (p_x : BitVec 64) : Option Int :=
 Option.bind (if (decide ((4294967296#64) ≤ p_x)) = true then (
 some (p_x >>> 32, (32 : Int))) else (
 some (p_x, (0 : Int)))) fun (j1 : (BitVec 64) × Int) =>
 Option.bind (if (decide ((65536#64) ≤ j1.1)) = true then (
 some (j1.1 >>> 16, w64 (j1.2 + (16 : Int)))) else (
 some (j1.1, j1.2))) fun (j2 : (BitVec 64) × Int) =>
 Option.bind (if (decide ((256#64) ≤ j2.1)) = true then (
 some (j2.1 >>> 8, w64 (j2.2 + (8 : Int)))) else (
 some (j2.1, j2.2))) fun (j3 : (BitVec 64) × Int) =>
 Option.bind (ZC S_0 ((j3.1.setWidth 8).toNat : Int)) fun x1 =>
 some (w64 (j3.2 + (x1.toNat : Int)))
def Km (p_x : BitVec 64) : Option Int :=
 Option.bind (Vr p_x) fun r1 =>
 some r1
def ZY (p_x : BitVec 64) : Option Int :=
 if (decide (p_x = (0#64))) = true then (
 some (64 : Int)) else (
 Option.bind (Vc Zq ((((p_x &&& (-p_x)) * (285870213051353865#64)) >>> 58).toNat : Int)) fun x1 =>
 some (x1.toNat : Int))
def Ym (p_x : BitVec 64) : Option Int :=
 Option.bind (ZY p_x) fun r1 =>
 some r1
def Xh (p_from : Int) (p_to : Int) : Option Int :=
 Option.bind (Km (BitVec.ofInt 64 (w64 (p_to - p_from)))) fun r1 =>
 if 0 ≤ w64 (r1 - (1 : Int)) then (
 if (decide ((0 : Int) < p_from)) = true then (
 Option.bind (Ym (BitVec.ofInt 64 p_from)) fun r2 =>
 if 0 ≤ r2 then (
 Option.bind (some (if Xq (1 : Int) r2 < Xq (1 : Int) (w64 (r1 - (1 : Int))) then Xq (1 : Int) r2 else Xq (1 : Int) (w64 (r1 - (1 : Int))))) fun x1 =>
 some x1) else none) else (
 some (Xq (1 : Int) (w64 (r1 - (1 : Int)))))) else none
def XK (p_to : Int) (y1 : Int) (y2 : List Int) : Option (LR (Int × (List Int)) Empty) :=
 if (decide (y1 < p_to)) = true then (
 Option.bind (Xh y1 p_to) fun r2 =>
 if y2.length + ([r2]).length ≤ AP then (
 some (.next (w64 (y1 + r2), (y2 ++ ([r2]))))) else none) else (
 some (.brk (y1, y2)))
def ZG (p_from : Int) (p_to : Int) : Option (List Int) :=
 Option.bind (V6 p_from p_to) fun r1 =>
 if (!r1) = true then (
 some ([] : List Int)) else (
 Option.bind (Q5 (fun (s : Int × (List Int)) => XK p_to s.1 s.2) FU (p_from, ([] : List Int))) fun (s1 : Int × (List Int)) =>
 some s1.2)
def Y4 (p_r : Qu) : Option Bool :=
 Option.bind (V6 p_r.1 p_r.2.1) fun r1 =>
 Option.bind (if (r1) = true then (
 Option.bind (ZG p_r.1 p_r.2.1) fun r2 =>
 some (decide ((r2.length : Int) = (p_r.2.2.length : Int)))) else (
 some false)) fun y1 =>
 some y1
def Vz (p_a : Qa) (p_b : Qa) : Option Qa :=
 Option.bind (JR ([[1#8], p_a.toList, p_b.toList])) fun r1 =>
 Option.bind (KW r1) fun r2 =>
 some r2
def J1 (y1 : Qz) (y2 : List Qz) : Option (LR (Qz × (List Qz)) Empty) :=
 if (decide ((0 : Int) < (y2.length : Int))) = true then (
 Option.bind (ZC y2 (w64 ((y2.length : Int) - (1 : Int)))) fun x1 =>
 Option.bind (if (!decide (x1.2.1 = y1.2.1)) = true then (
 some true) else (
 if w64 ((2 : Int) * x1.2.1) ≠ 0 then (
 some (!decide ((Int.tmod x1.1 (w64 ((2 : Int) * x1.2.1))) = (0 : Int)))) else none)) fun y3 =>
 if (y3) = true then (
 some (.brk (y1, y2))) else (
 Option.bind (Vz x1.2.2 y1.2.2) fun r1 =>
 Option.bind (some ((x1.1, w64 ((2 : Int) * x1.2.1), r1))) fun x2 =>
 if 0 ≤ w64 ((y2.length : Int) - (1 : Int)) ∧ w64 ((y2.length : Int) - (1 : Int)) ≤ (y2.length : Int) then (
 some (.next (x2, (y2.take (w64 ((y2.length : Int) - (1 : Int))).toNat)))) else none)) else (
 some (.brk (y1, y2)))
def Xp (p_s : List Qz) (p_p : Qz) : Option (List Qz) :=
 Option.bind (Q5 (fun (s : Qz × (List Qz)) => J1 s.1 s.2) FU (p_p, p_s)) fun (s1 : Qz × (List Qz)) =>
 if s1.2.length + ([s1.1]).length ≤ AP then (
 some (s1.2 ++ ([s1.1]))) else none
def Zv (p_s : List Qz) (y1 : Int) (y2 : List Qa) : Option (LR (Int × (List Qa)) Empty) :=
 if (decide (y1 < (p_s.length : Int))) = true then (
 Option.bind (ZC p_s y1) fun x1 =>
 if y2.length + ([x1.2.2]).length ≤ AP then (
 some (.next (w64 (y1 + (1 : Int)), (y2 ++ ([x1.2.2]))))) else none) else (
 some (.brk (y1, y2)))
def Z7 (p_s : List Qz) : Option (List Qa) :=
 Option.bind (Q5 (fun (s : Int × (List Qa)) => Zv p_s s.1 s.2) FU ((0 : Int), ([] : List Qa))) fun (s1 : Int × (List Qa)) =>
 some s1.2
def Zx (r3 : (List Int)) (x1 : Qu) (y5 : Int) (y6 : Int) (y7 : List Qz) : Option (LR (Int × Int × (List Qz)) Empty) :=
 if (decide (y6 < (r3.length : Int))) = true then (
 Option.bind (ZC r3 y6) fun x2 =>
 Option.bind (ZC x1.2.2 y6) fun x3 =>
 Option.bind (some ((y5, x2, x3))) fun x4 =>
 Option.bind (Xp y7 x4) fun r4 =>
 some (.next (w64 (y5 + x2), w64 (y6 + (1 : Int)), r4))) else (
 some (.brk (y5, y6, y7)))
def ZS (p_a : Qu) (p_b : Qu) (y3 : Int) (y4 : List Qz) : Option (LR (Int × (List Qz)) Empty) :=
 if (decide (y3 < (([p_a, p_b]).length : Int))) = true then (
 Option.bind (ZC ([p_a, p_b]) y3) fun x1 =>
 Option.bind (ZG x1.1 x1.2.1) fun r3 =>
 Option.bind (Q5 (fun (s : Int × Int × (List Qz)) => Zx r3 x1 s.1 s.2.1 s.2.2) FU (x1.1, (0 : Int), y4)) fun (s1 : Int × Int × (List Qz)) =>
 some (.next (w64 (y3 + (1 : Int)), s1.2.2))) else (
 some (.brk (y3, y4)))
def XV (p_a : Qu) (p_b : Qu) : Option (Qu × Int) :=
 Option.bind (Y4 p_a) fun r1 =>
 Option.bind (if (!r1) = true then (
 some true) else (
 Option.bind (Y4 p_b) fun r2 =>
 some (!r2))) fun y1 =>
 Option.bind (if (y1) = true then (
 some true) else (
 some (!decide (p_a.2.1 = p_b.1)))) fun y2 =>
 if (y2) = true then (
 some ((0, 0, ([] : List Qa)), (1 : Int))) else (
 Option.bind (Q5 (fun (s : Int × (List Qz)) => ZS p_a p_b s.1 s.2) FU ((0 : Int), ([] : List Qz))) fun (s2 : Int × (List Qz)) =>
 Option.bind (Z7 s2.2) fun r5 =>
 Option.bind (some ((p_a.1, p_b.2.1, r5))) fun x5 =>
 some (x5, (0 : Int)))
def Xk (p_r : Qu) (y2 : Int) (y3 : Qa) : Option (LR (Int × Qa) Empty) :=
 if (decide ((0 : Int) ≤ y2)) = true then (
 Option.bind (ZC p_r.2.2 y2) fun x2 =>
 Option.bind (Vz x2 y3) fun r3 =>
 some (.next (w64 (y2 - (1 : Int)), r3))) else (
 some (.brk (y2, y3)))
def Ke (p_r : Qu) : Option (Qa × Int) :=
 Option.bind (Y4 p_r) fun r1 =>
 Option.bind (if (!r1) = true then (
 some true) else (
 some (!decide (p_r.1 = (0 : Int))))) fun y1 =>
 if (y1) = true then (
 some ((Vector.replicate 32 (0#8)), (1 : Int))) else (
 if (decide ((p_r.2.2.length : Int) = (0 : Int))) = true then (
 Option.bind (KW ([] : List (BitVec 8))) fun r2 =>
 some (r2, (0 : Int))) else (
 Option.bind (ZC p_r.2.2 (w64 ((p_r.2.2.length : Int) - (1 : Int)))) fun x1 =>
 Option.bind (Q5 (fun (s : Int × Qa) => Xk p_r s.1 s.2) FU (w64 ((p_r.2.2.length : Int) - (2 : Int)), x1)) fun (s1 : Int × Qa) =>
 some (s1.2, (0 : Int))))
def JL (x2 : List Qu) (y1 : Int) (y2 : Qu) : Option (LR (Int × Qu) Bool) :=
 if (decide (y1 < (x2.length : Int))) = true then (
 Option.bind (ZC x2 y1) fun x3 =>
 Option.bind (XV y2 x3) fun r1 =>
 if (!decide (r1.2 = (0 : Int))) = true then (
 some (.ret false)) else (
 some (.next (w64 (y1 + (1 : Int)), r1.1)))) else (
 some (.brk (y1, y2)))
def XQ (p_root : Qa) (p_l : List Qu) : Option Bool :=
 Option.bind (ZC p_l (0 : Int)) fun x1 =>
 Option.bind (YJ p_l (1 : Int) (p_l.length : Int)) fun x2 =>
 Option.bind (Z2 (fun (s : Int × Qu) => JL x2 s.1 s.2) FU ((0 : Int), x1)) fun o => match o with
 | .inl (s1 : Int × Qu) => (
 Option.bind (Ke s1.2) fun r2 =>
 Option.bind (if (decide (r2.2 = (0 : Int))) = true then (
 some (decide (r2.1 = p_root))) else (
 some false)) fun y5 =>
 some y5)
 | .inr x => some x
def VR (p_t : YS) (p_m : Int) (p_n : Int) (p_old : Qa) (p_root : Qa) : Option Bool :=
 Option.bind (if (decide (p_m < (0 : Int))) = true then (
 some true) else (
 some (decide (p_n < p_m)))) fun y1 =>
 Option.bind (if (y1) = true then (
 some true) else (
 some (decide ((2147483647 : Int) < p_n)))) fun y2 =>
 if (y2) = true then (
 some false) else (
 Option.bind (some ((0, p_m, p_t.1))) fun x1 =>
 Option.bind (some ((p_m, p_n, p_t.2))) fun x2 =>
 Option.bind (XQ p_old ([x1])) fun r1 =>
 Option.bind (if (r1) = true then (
 Option.bind (XQ p_root ([x1, x2])) fun r2 =>
 some r2) else (
 some false)) fun y3 =>
 some y3)
def JK (p_s : List QB) (p_v : QB) (y1 : Int) : Option (LR Int Int) :=
 if (decide (y1 < (p_s.length : Int))) = true then (
 Option.bind (ZC p_s y1) fun x1 =>
 if (decide (p_v = x1)) = true then (
 some (.ret y1)) else (
 some (.next (w64 (y1 + (1 : Int)))))) else (
 some (.brk y1))
def Ze (p_s : List QB) (p_v : QB) : Option Int :=
 Option.bind (Z2 (fun (s : Int) => JK p_s p_v s) FU (0 : Int)) fun o => match o with
 | .inl (s1 : Int) => (
 some (-1 : Int))
 | .inr x => some x
def JJ (p_s : List QB) (p_v : QB) : Option Bool :=
 Option.bind (Ze p_s p_v) fun r1 =>
 some (decide ((0 : Int) ≤ r1))
def X6 (p_p : (List (BitVec 8)) × (List Qr) × (List Qw) × (List QB)) (p_m : Int) (p_n : Int) (p_t : YS) : Option (((List (BitVec 8)) × (List Qr) × (List Qw) × (List QB)) × Int) :=
 Option.bind (some (decide (p_m < (1 : Int)))) fun y1 =>
 Option.bind (if (y1) = true then (
 some true) else (
 some (decide (p_n ≤ p_m)))) fun y2 =>
 if (y2) = true then (
 some ((p_p.1, p_p.2.1, p_p.2.2.1, p_p.2.2.2), (1 : Int))) else (
 Option.bind (JH (some (p_p.1, p_p.2.1, p_p.2.2.1, p_p.2.2.2)) p_m) fun r1 =>
 Option.bind (JH (some (p_p.1, p_p.2.1, p_p.2.2.1, p_p.2.2.2)) p_n) fun r2 =>
 Option.bind (if (!r1.2) = true then (
 some true) else (
 some (!r2.2))) fun y3 =>
 if (y3) = true then (
 some ((p_p.1, p_p.2.1, p_p.2.2.1, p_p.2.2.2), (12 : Int))) else (
 Option.bind (ZC p_p.2.1 r1.1) fun x1 =>
 Option.bind (ZC p_p.2.1 r2.1) fun x2 =>
 Option.bind (VR p_t p_m p_n x1.1.2.2.2 x2.1.2.2.2) fun r3 =>
 if (!r3) = true then (
 some ((p_p.1, p_p.2.1, p_p.2.2.1, p_p.2.2.2), (9 : Int))) else (
 Option.bind (some ((p_m, p_n))) fun x3 =>
 Option.bind (JJ p_p.2.2.2 x3) fun r4 =>
 if (!r4) = true then (
 if p_p.2.2.2.length + ([x3]).length ≤ AP then (
 some ((p_p.1, p_p.2.1, p_p.2.2.1, (p_p.2.2.2 ++ ([x3]))), (0 : Int))) else none) else (
 some ((p_p.1, p_p.2.1, p_p.2.2.1, p_p.2.2.2), (0 : Int))))))
def X2 (p_from : Int) (p_to : Int) : Option Bool :=
 Option.bind (if (decide ((0 : Int) ≤ p_from)) = true then (
 some (decide (p_from ≤ p_to))) else (
 some false)) fun y1 =>
 Option.bind (if (y1) = true then (
 some (decide (p_to ≤ (2147483647 : Int)))) else (
 some false)) fun y2 =>
 some y2
def ZK (p_to : Int) (p_from : Int) (y1 : Int) : Option (LR Int Empty) :=
 Option.bind (if (decide ((w64 ((2 : Int) * y1)) ≤ (w64 (p_to - p_from)))) = true then (
 if w64 ((2 : Int) * y1) ≠ 0 then (
 some (decide ((Int.tmod p_from (w64 ((2 : Int) * y1))) = (0 : Int)))) else none) else (
 some false)) fun y2 =>
 if (y2) = true then (
 some (.next (w64 ((2 : Int) * y1)))) else (
 some (.brk y1))
def Y3 (p_from : Int) (p_to : Int) : Option Int :=
 Option.bind (Q5 (fun (s : Int) => ZK p_to p_from s) FU (1 : Int)) fun (s1 : Int) =>
 some s1
def YU (p_to : Int) (y1 : Int) (y2 : List Int) : Option (LR (Int × (List Int)) Empty) :=
 if (decide (y1 < p_to)) = true then (
 Option.bind (Y3 y1 p_to) fun r2 =>
 if y2.length + ([r2]).length ≤ AP then (
 some (.next (w64 (y1 + r2), (y2 ++ ([r2]))))) else none) else (
 some (.brk (y1, y2)))
def YI (p_from : Int) (p_to : Int) : Option (List Int) :=
 Option.bind (X2 p_from p_to) fun r1 =>
 if (!r1) = true then (
 some ([] : List Int)) else (
 Option.bind (Q5 (fun (s : Int × (List Int)) => YU p_to s.1 s.2) FU (p_from, ([] : List Int))) fun (s1 : Int × (List Int)) =>
 some s1.2)
def Yg (r1 : (List Int)) (y3 : List Qa) (y4 : Int) (y5 : List Qa) : Option (LR ((List Qa) × Int × (List Qa)) Empty) :=
 if (decide (y4 < (r1.length : Int))) = true then (
 Option.bind (ZC r1 y4) fun x1 =>
 Option.bind (YJ y3 0 x1) fun x2 =>
 Option.bind (VK x2) fun r2 =>
 if y5.length + ([r2]).length ≤ AP then (
 Option.bind (ZC r1 y4) fun x3 =>
 Option.bind (YJ y3 x3 (y3.length : Int)) fun x4 =>
 some (.next (x4, w64 (y4 + (1 : Int)), (y5 ++ ([r2]))))) else none) else (
 some (.brk (y3, y4, y5)))
def Ye (p_from : Int) (p_l : List Qa) : Option (VV × Int) :=
 Option.bind (if (decide (p_from < (0 : Int))) = true then (
 some true) else (
 some (decide ((2147483647 : Int) < p_from)))) fun y1 =>
 Option.bind (if (y1) = true then (
 some true) else (
 some (decide ((w64 ((2147483647 : Int) - p_from)) < (p_l.length : Int))))) fun y2 =>
 if (y2) = true then (
 some ((0, 0, ([] : List Qa)), (1 : Int))) else (
 Option.bind (YI p_from (w64 (p_from + (p_l.length : Int)))) fun r1 =>
 Option.bind (Q5 (fun (s : (List Qa) × Int × (List Qa)) => Yg r1 s.1 s.2.1 s.2.2) FU (p_l, (0 : Int), ([] : List Qa))) fun (s1 : (List Qa) × Int × (List Qa)) =>
 Option.bind (some ((p_from, w64 (p_from + (p_l.length : Int)), s1.2.2))) fun x5 =>
 some (x5, (0 : Int)))
def Y7 (p_l : List Qa) (p_m : Int) : Option (VT × Int) :=
 Option.bind (if (decide (p_m < (0 : Int))) = true then (
 some true) else (
 some (decide ((p_l.length : Int) < p_m)))) fun y1 =>
 if (y1) = true then (
 Option.bind (some ((([] : List Qa), ([] : List Qa)))) fun x1 =>
 some (x1, (4 : Int))) else (
 Option.bind (YJ p_l 0 p_m) fun x2 =>
 Option.bind (Ye (0 : Int) x2) fun r1 =>
 Option.bind (YJ p_l p_m (p_l.length : Int)) fun x3 =>
 Option.bind (Ye p_m x3) fun r2 =>
 Option.bind (some ((r1.1.2.2, r2.1.2.2))) fun x4 =>
 some (x4, (0 : Int)))
def Xd (p_p : Option Zb) (y1 : Int) (y2 : List (Vector Int 2)) : Option (LR (Int × (List (Vector Int 2))) Empty) :=
 Option.bind (p_p) fun x1 =>
 if (decide (y1 < (x1.2.1.length : Int))) = true then (
 Option.bind (p_p) fun x2 =>
 Option.bind (ZC x2.2.1 (w64 (y1 - (1 : Int)))) fun x3 =>
 Option.bind (p_p) fun x4 =>
 Option.bind (ZC x4.2.1 y1) fun x5 =>
 Option.bind (JW p_p x3.1.1 x5.1.1) fun r1 =>
 if (!r1) = true then (
 Option.bind (some (#v[x3.1.1, x5.1.1])) fun x6 =>
 if y2.length + ([x6]).length ≤ AP then (
 some (.next (w64 (y1 + (1 : Int)), (y2 ++ ([x6]))))) else none) else (
 some (.next (w64 (y1 + (1 : Int)), y2)))) else (
 some (.brk (y1, y2)))
def X3 (p_p : Option Zb) : Option (List (Vector Int 2)) :=
 if (p_p.isNone) = true then (
 some ([] : List (Vector Int 2))) else (
 Option.bind (Q5 (fun (s : Int × (List (Vector Int 2))) => Xd p_p s.1 s.2) FU ((1 : Int), ([] : List (Vector Int 2)))) fun (s1 : Int × (List (Vector Int 2))) =>
 some s1.2)
def Yn (p_p : (List (BitVec 8)) × (List Qr) × (List Qw) × (List QB)) (y1 : Int) (y2 : List Qw) : Option (LR (Int × (List Qw)) Empty) :=
 if (decide (y1 < (p_p.2.2.1.length : Int))) = true then (
 Option.bind (ZC p_p.2.2.1 y1) fun x1 =>
 Option.bind (Yt x1.1) fun r1 =>
 Option.bind (Yt x1.2) fun r2 =>
 Option.bind (some ((r1, r2))) fun x2 =>
 if y2.length + ([x2]).length ≤ AP then (
 some (.next (w64 (y1 + (1 : Int)), (y2 ++ ([x2]))))) else none) else (
 some (.brk (y1, y2)))
def XD (p_p : (List (BitVec 8)) × (List Qr) × (List Qw) × (List QB)) : Option (List Qw) :=
 Option.bind (Q5 (fun (s : Int × (List Qw)) => Yn p_p s.1 s.2) FU ((0 : Int), ([] : List Qw))) fun (s1 : Int × (List Qw)) =>
 some s1.2
def J5 (p_order : List (BitVec 8)) (y2 : Int) (y3 : Vector Bool 9) (y4 : List (BitVec 8)) (y5 : List Qr) (y6 : List Qw) (y7 : List QB) (y8 : Int) (y9 : Int) (y10 : Qa) (y11 : Option Qy) (y12 : Option Qy) (y13 : Int) : Option (LR (Int × (Vector Bool 9) × (List (BitVec 8)) × (List Qr) × (List Qw) × (List QB) × Int × Int × Qa × (Option Qy) × (Option Qy) × Int) Bool) :=
 if (decide (y2 < (p_order.length : Int))) = true then (
 Option.bind (ZC p_order y2) fun x1 =>
 Option.bind (some (w64 ((1 : Int) + ((x1 % (8#8)).toNat : Int)))) fun x2 =>
 Option.bind (Yl x2) fun r6 =>
 Option.bind (VK r6) fun r7 =>
 Option.bind (some ((x2, (1 : Int), (Vector.replicate 32 (0#8)), r7))) fun x3 =>
 Option.bind (Zy (y8, y9, y10, y11, y12, y13) x3) fun r8 =>
 Option.bind (Zt (y4, y5, y6, y7) r8.2) fun r9 =>
 Option.bind (Vc y3 x2) fun x4 =>
 Option.bind (if (!((decide (r9.2 = (0 : Int))) == (!x4))) = true then (
 some true) else (
 Option.bind (Vc y3 x2) fun x5 =>
 Option.bind (if (x5) = true then (
 some (!decide (r9.2 = (11 : Int)))) else (
 some false)) fun y15 =>
 some y15)) fun y14 =>
 if (y14) = true then (
 some (.ret false)) else (
 if 0 ≤ x2 ∧ x2 < (9 : Int) then (
 some (.next (w64 (y2 + (1 : Int)), (y3.setIfInBounds x2.toNat true), r9.1.1, r9.1.2.1, r9.1.2.2.1, r9.1.2.2.2, r8.1.1, r8.1.2.1, r8.1.2.2.1, r8.1.2.2.2.1, r8.1.2.2.2.2.1, r8.1.2.2.2.2.2))) else none)) else (
 some (.brk (y2, y3, y4, y5, y6, y7, y8, y9, y10, y11, y12, y13)))
def J6 (y17 : Vector Bool 9) (y28 : Int) (y29 : Int) (y30 : List (BitVec 8)) (y31 : List Qr) (y32 : List Qw) (y33 : List QB) : Option (LR (Int × Int × (List (BitVec 8)) × (List Qr) × (List Qw) × (List QB)) Bool) :=
 if (decide (y29 ≤ (8 : Int))) = true then (
 Option.bind (Vc y17 y29) fun x6 =>
 if (!x6) = true then (
 some (.next (y28, w64 (y29 + (1 : Int)), y30, y31, y32, y33))) else (
 if (decide ((0 : Int) < y28)) = true then (
 Option.bind (Yl y29) fun r10 =>
 Option.bind (Y7 r10 y28) fun r11 =>
 Option.bind (X6 (y30, y31, y32, y33) y28 y29 r11.1) fun r12 =>
 if (!decide (r12.2 = (0 : Int))) = true then (
 some (.ret false)) else (
 some (.next (y29, w64 (y29 + (1 : Int)), r12.1.1, r12.1.2.1, r12.1.2.2.1, r12.1.2.2.2)))) else (
 some (.next (y29, w64 (y29 + (1 : Int)), y30, y31, y32, y33))))) else (
 some (.brk (y28, y29, y30, y31, y32, y33)))
def J3 (y36 : List (BitVec 8)) (y37 : List Qr) (y38 : List Qw) (y39 : List QB) (y40 : Int) (y17 : Vector Bool 9) (y41 : Int) : Option (LR Int Bool) :=
 if (decide (y41 ≤ (8 : Int))) = true then (
 Option.bind (JW (some (y36, y37, y38, y39)) y40 y41) fun r13 =>
 Option.bind (Vc y17 y40) fun x7 =>
 Option.bind (if (x7) = true then (
 Option.bind (Vc y17 y41) fun x8 =>
 some x8) else (
 some false)) fun y42 =>
 Option.bind (if (y42) = true then (
 some (decide (y40 ≤ y41))) else (
 some false)) fun y43 =>
 if (!(r13 == y43)) = true then (
 some (.ret false)) else (
 some (.next (w64 (y41 + (1 : Int)))))) else (
 some (.brk y41))
def J4 (y36 : List (BitVec 8)) (y37 : List Qr) (y38 : List Qw) (y39 : List QB) (y17 : Vector Bool 9) (y40 : Int) : Option (LR Int Bool) :=
 if (decide (y40 ≤ (8 : Int))) = true then (
 Option.bind (Z2 (fun (s : Int) => J3 y36 y37 y38 y39 y40 y17 s) FU (1 : Int)) fun o => match o with
 | .inl (s1 : Int) => (
 some (.next (w64 (y40 + (1 : Int)))))
 | .inr x => some (.ret x)) else (
 some (.brk y40))
def ZZ (p_order : List (BitVec 8)) : Option Bool :=
 Option.bind (YL) fun r1 =>
 Option.bind (if (!r1) = true then (
 some true) else (
 some (decide ((8 : Int) < (p_order.length : Int))))) fun y1 =>
 if (y1) = true then (
 Option.bind (YL) fun r2 =>
 some r2) else (
 Option.bind (YB) fun r3 =>
 Option.bind (Z1 (r3.1, r3.2.1, r3.2.2.1, r3.2.2.2.1, r3.2.2.2.2.1, r3.2.2.2.2.2)) fun r4 =>
 Option.bind (Ua r4) fun r5 =>
 Option.bind (Z2 (fun (s : Int × (Vector Bool 9) × (List (BitVec 8)) × (List Qr) × (List Qw) × (List QB) × Int × Int × Qa × (Option Qy) × (Option Qy) × Int) => J5 p_order s.1 s.2.1 s.2.2.1 s.2.2.2.1 s.2.2.2.2.1 s.2.2.2.2.2.1 s.2.2.2.2.2.2.1 s.2.2.2.2.2.2.2.1 s.2.2.2.2.2.2.2.2.1 s.2.2.2.2.2.2.2.2.2.1 s.2.2.2.2.2.2.2.2.2.2.1 s.2.2.2.2.2.2.2.2.2.2.2) FU ((0 : Int), (Vector.replicate 9 false), r5.1, r5.2.1, r5.2.2.1, r5.2.2.2, r3.1, r3.2.1, r3.2.2.1, r3.2.2.2.1, r3.2.2.2.2.1, r3.2.2.2.2.2)) fun o => match o with
 | .inl (s4 : Int × (Vector Bool 9) × (List (BitVec 8)) × (List Qr) × (List Qw) × (List QB) × Int × Int × Qa × (Option Qy) × (Option Qy) × Int) => (
 Option.bind (Z2 (fun (s : Int × Int × (List (BitVec 8)) × (List Qr) × (List Qw) × (List QB)) => J6 s4.2.1 s.1 s.2.1 s.2.2.1 s.2.2.2.1 s.2.2.2.2.1 s.2.2.2.2.2) FU ((0 : Int), (1 : Int), s4.2.2.1, s4.2.2.2.1, s4.2.2.2.2.1, s4.2.2.2.2.2.1)) fun o => match o with
 | .inl (s3 : Int × Int × (List (BitVec 8)) × (List Qr) × (List Qw) × (List QB)) => (
 Option.bind (Z2 (fun (s : Int) => J4 s3.2.2.1 s3.2.2.2.1 s3.2.2.2.2.1 s3.2.2.2.2.2 s4.2.1 s) FU (1 : Int)) fun o => match o with
 | .inl (s2 : Int) => (
 Option.bind (X3 (some (s3.2.2.1, s3.2.2.2.1, s3.2.2.2.2.1, s3.2.2.2.2.2))) fun r14 =>
 Option.bind (if (decide ((r14.length : Int) = (0 : Int))) = true then (
 Option.bind (XD (s3.2.2.1, s3.2.2.2.1, s3.2.2.2.2.1, s3.2.2.2.2.2)) fun r15 =>
 some (decide ((r15.length : Int) = (0 : Int)))) else (
 some false)) fun y46 =>
 some y46)
 | .inr x => some x)
 | .inr x => some x)
 | .inr x => some x)
end M
end Go.Sl
set_option linter.unusedSimpArgs false
namespace Go.Sl
theorem J7 {n : Nat} (h : n ≤ 9000000000) : n < FU := by unfold FU; omega
theorem Bi {σ ρ : Type} {f : σ → Option (LR σ ρ)} {n : Nat} {s s' : σ} (h : f s = some (.next s')) : Z2 f (n + 1) s = Z2 f n s' := by
 show (match f s with | none => none | some (.next s') => Z2 f n s' | some (.brk s') => some (.inl s') | some (.ret r) => some (.inr r)) = _
 rw [h]
theorem WV {σ ρ : Type} {f : σ → Option (LR σ ρ)} {n : Nat} {s s' : σ} (h : f s = some (.brk s')) : Z2 f (n + 1) s = some (.inl s') := by
 show (match f s with | none => none | some (.next s') => Z2 f n s' | some (.brk s') => some (.inl s') | some (.ret r) => some (.inr r)) = _
 rw [h]
theorem B6 {σ ρ : Type} {f : σ → Option (LR σ ρ)} {n : Nat} {s : σ} {r : ρ} (h : f s = some (.ret r)) : Z2 f (n + 1) s = some (.inr r) := by
 show (match f s with | none => none | some (.next s') => Z2 f n s' | some (.brk s') => some (.inl s') | some (.ret r) => some (.inr r)) = _
 rw [h]
theorem Vx {σ ρ : Type} {f : σ → Option (LR σ ρ)} (I : σ → Prop) (μ : σ → Nat) (Q : σ ⊕ ρ → Prop)
  (h : ∀ s, I s → (∃ s', f s = some (.next s') ∧ I s' ∧ μ s' < μ s) ∨ (∃ s', f s = some (.brk s') ∧ Q (.inl s')) ∨ ∃ r, f s = some (.ret r) ∧ Q (.inr r)) :
  ∀ (n : Nat) (s : σ), I s → μ s < n → ∃ o, Z2 f n s = some o ∧ Q o
 | 0, s, _, hn => by omega
 | n + 1, s, hI, hn => by
  rcases h s hI with ⟨s', e, hI', hm⟩ | ⟨s', e, hq⟩ | ⟨r, e, hq⟩
  ·rw [Bi e]
   exact Vx I μ Q h n s' hI' (by omega)
  ·exact ⟨_, WV e, hq⟩
  ·exact ⟨_, B6 e, hq⟩
theorem WP {σ : Type} {f : σ → Option (LR σ Empty)} (I : σ → Prop) (μ : σ → Nat) (Q : σ → Prop)
  (h : ∀ s, I s → (∃ s', f s = some (.next s') ∧ I s' ∧ μ s' < μ s) ∨ ∃ s', f s = some (.brk s') ∧ Q s') (n : Nat) (s : σ) (hI : I s) (hn : μ s < n) : ∃ s', Q5 f n s = some s' ∧ Q s' := by
 obtain ⟨o, ho, hq⟩ := Vx I μ (fun o => match o with | .inl s => Q s | .inr e => e.elim) (fun s hs => (h s hs).elim .inl (fun h => .inr (.inl h))) n s hI hn
 unfold Q5
 rw [ho]
 cases o with
 | inl s' => exact ⟨s', rfl, hq⟩
 | inr e => exact e.elim
theorem YK {σ : Type} {f : σ → Option (LR σ Empty)} {n : Nat} {s s' : σ} (h : f s = some (.next s')) : Q5 f (n + 1) s = Q5 f n s' := by
 unfold Q5; rw [Bi h]
theorem Xj {σ : Type} {f : σ → Option (LR σ Empty)} {n : Nat} {s s' : σ} (h : f s = some (.brk s')) : Q5 f (n + 1) s = some s' := by
 unfold Q5; rw [WV h]
def Ya {σ : Type} (step : Nat → σ → σ) : Nat → Nat → σ → σ
 | _, 0, s => s
 | i, n + 1, s => Ya step (i + 1) n (step i s)
theorem U7 {σ : Type} (step : Nat → σ → σ) : ∀ (n i : Nat) (s : σ), Ya step i (n + 1) s = step (i + n) (Ya step i n s)
 | 0, i, s => rfl
 | n + 1, i, s => by
  show Ya step (i + 1) (n + 1) (step i s) = step (i + (n + 1)) (Ya step (i + 1) n (step i s))
  rw [U7 step n (i + 1), show i + 1 + n = i + (n + 1) by omega]
theorem Qbm {σ : Type} (step : Nat → σ → σ) : ∀ (n m i : Nat) (s : σ), Ya step i (n + m) s = Ya step (i + n) m (Ya step i n s)
 | 0, m, i, s => by simp [Ya]
 | n + 1, m, i, s => by
  rw [show n + 1 + m = (n + m) + 1 by omega]
  show Ya step (i + 1) (n + m) (step i s) = Ya step (i + (n + 1)) m (Ya step (i + 1) n (step i s))
  rw [Qbm step n m (i + 1), show i + 1 + n = i + (n + 1) by omega]
theorem BK {σ : Type} {f g : Nat → σ → σ} : ∀ (n i : Nat) (s : σ), (∀ j, i ≤ j → j < i + n → ∀ s, f j s = g j s) → Ya f i n s = Ya g i n s
 | 0, _, _, _ => rfl
 | n + 1, i, s, h => by
  show Ya f (i + 1) n (f i s) = Ya g (i + 1) n (g i s)
  rw [h i (Nat.le_refl _) (by omega)]
  exact BK n (i + 1) _ fun j h1 h2 => h j (by omega) (by omega)
theorem JB {τ σ : Type} {f : τ → Option (LR τ Empty)} (en : Nat → σ → τ) (step : Nat → σ → σ) (lo hi : Nat)
  (h : ∀ i s, lo ≤ i → i < hi → f (en i s) = some (.next (en (i + 1) (step i s)))) (he : ∀ s, f (en hi s) = some (.brk (en hi s))) :
  ∀ (n : Nat) (s : σ), lo ≤ hi → hi - lo < n → Q5 f n (en lo s) = some (en hi (Ya step lo (hi - lo) s)) := by
 have key : ∀ (d i n : Nat) (s : σ), lo ≤ i → i + d = hi → d < n → Q5 f n (en i s) = some (en hi (Ya step i d s)) := by
  intro d
  induction d with
  | zero =>
   intro i n s hl hd hn
   cases n with
   | zero => omega
   | succ n =>
    have : i = hi := by omega
    subst this
    exact Xj (he s)
  | succ d ih =>
   intro i n s hl hd hn
   cases n with
   | zero => omega
   | succ n =>
    rw [YK (h i s hl (by omega))]
    exact ih (i + 1) n (step i s) (by omega) (by omega) (by omega)
 intro n s hle hn
 exact key (hi - lo) lo n s (Nat.le_refl _) (by omega) hn
section
variable {α β : Type}
theorem Ju {l : List α} {i : Int} {k : Nat} (hi : i = (k : Int)) (h : k < l.length) : ZC l i = some l[k] := by
 subst hi
 unfold ZC
 rw [if_pos (by omega)]
 simp [h]
theorem Qej {n : Nat} {v : Vector α n} {i : Int} {k : Nat} (hi : i = (k : Int)) (h : k < n) : Vc v i = some v[k] := by
 subst hi
 unfold Vc
 rw [if_pos (by omega)]
 simp [h]
theorem Z9 {l : List α} {lo hi : Int} {a b : Nat} (ha : lo = (a : Int)) (hb : hi = (b : Int)) (h1 : a ≤ b) (h2 : b ≤ l.length) : YJ l lo hi = some ((l.take b).drop a) := by
 subst ha hb
 unfold YJ
 rw [if_pos ⟨by omega, by omega, by omega⟩]
 simp
theorem Qc {o : Option α} {f : α → Option β} {x : α} (h : o = some x) : Option.bind o f = f x := by rw [h]; rfl
theorem QQ {c : Prop} [Decidable c] {x y : α} (h : c) : (if c then x else y) = x := if_pos h
theorem QV {c : Prop} [Decidable c] {x y : α} (h : ¬ c) : (if c then x else y) = y := if_neg h
end
theorem Jm {n : Int} (h1 : -9223372036854775808 ≤ n) (h2 : n < 9223372036854775808) : w64 n = n := Jk ⟨h1, h2⟩
theorem qm {n : Nat} (h : n < 9223372036854775808) : w64 (n : Int) = n := Jk ⟨by omega, by omega⟩
end Go.Sl
namespace Go.Sl
section
variable {α τ σ ρ : Type}
def Qgr (step : Nat → σ → α → σ ⊕ ρ) : Nat → σ → List α → σ ⊕ ρ
 | _, s, [] => .inl s
 | i, s, x :: xs => match step i s x with
  | .inl s' => Qgr step (i + 1) s' xs
  | .inr r => .inr r
theorem Qgd {f : τ → Option (LR τ ρ)} (l : List α) (en : Nat → σ → τ) (step : Nat → σ → α → σ ⊕ ρ) (I : Nat → σ → Prop)
  (h : ∀ i s (hi : i < l.length), I i s → f (en i s) = some (match step i s l[i] with | .inl s' => .next (en (i + 1) s') | .inr r => .ret r))
  (hI : ∀ i s s' (hi : i < l.length), I i s → step i s l[i] = .inl s' → I (i + 1) s')
  (he : ∀ s, I l.length s → f (en l.length s) = some (.brk (en l.length s))) :
  ∀ (d i n : Nat) (s : σ), i + d = l.length → d < n → I i s → Z2 f n (en i s) = some (match Qgr step i s (l.drop i) with | .inl s' => .inl (en l.length s') | .inr r => .inr r) := by
 intro d
 induction d with
 | zero =>
  intro i n s hd hn hi
  obtain ⟨n, rfl⟩ : ∃ k, n = k + 1 := ⟨n - 1, by omega⟩
  have : i = l.length := by omega
  subst this
  rw [WV (he s hi), List.drop_length]; rfl
 | succ d ih =>
  intro i n s hd hn hi
  obtain ⟨n, rfl⟩ : ∃ k, n = k + 1 := ⟨n - 1, by omega⟩
  have hl : i < l.length := by omega
  have h1 := h i s hl hi
  rw [List.drop_eq_getElem_cons hl, Qgr]
  cases hs : step i s l[i] with
  | inl s' => rw [hs] at h1; rw [Bi h1, ih (i + 1) n s' (by omega) (by omega) (hI i s s' hl hi hs)]
  | inr r => rw [hs] at h1; rw [B6 h1]
theorem QfT {f : τ → Option (LR τ ρ)} (l : List α) (en : Nat → σ → τ) (step : Nat → σ → α → σ ⊕ ρ) (I : Nat → σ → Prop) (s : σ) (hn : l.length ≤ 9000000000) (h0 : I 0 s)
  (h : ∀ i s (hi : i < l.length), I i s → f (en i s) = some (match step i s l[i] with | .inl s' => .next (en (i + 1) s') | .inr r => .ret r))
  (hI : ∀ i s s' (hi : i < l.length), I i s → step i s l[i] = .inl s' → I (i + 1) s')
  (he : ∀ s, I l.length s → f (en l.length s) = some (.brk (en l.length s))) :
  Z2 f FU (en 0 s) = some (match Qgr step 0 s l with | .inl s' => .inl (en l.length s') | .inr r => .inr r) := by
 have := Qgd l en step I h hI he l.length 0 FU s (by omega) (J7 hn) h0
 simpa using this
theorem Qk1 [DecidableEq α] {f : Int → Option (LR Int Bool)} (a b : List α) (hl : a.length = b.length) (hn : a.length ≤ 9000000000)
  (h : ∀ i (h1 : i < a.length) (h2 : i < b.length), f (i : Int) = some (if a[i] = b[i] then .next ((i : Int) + 1) else .ret false)) (he : f (a.length : Int) = some (.brk (a.length : Int))) :
  Z2 f FU (0 : Int) = some (if a = b then .inl (a.length : Int) else .inr false) := by
 have h1 := QfT (f := f) a (fun i (_ : Unit) => (i : Int)) (fun i _ x => if b[i]? = some x then .inl () else .inr false) (fun _ _ => True) () hn trivial (fun i s hi _ => by
  rw [h i hi (by omega), List.getElem?_eq_getElem (show i < b.length by omega)]
  by_cases e : a[i] = b[i]
  ·rw [if_pos e, if_pos (by rw [e])]; simp
  ·rw [if_neg e, if_neg (by simpa using fun e' => e e'.symm)]) (fun _ _ _ _ _ _ => trivial) (fun _ _ => he)
 have key : ∀ (d i : Nat), i + d = a.length → Qgr (fun i (_ : Unit) x => if b[i]? = some x then .inl () else .inr false) i () (a.drop i) = (if a.drop i = b.drop i then .inl () else .inr false : Unit ⊕ Bool) := by
  intro d
  induction d with
  | zero => intro i hi; rw [List.drop_eq_nil_of_le (by omega), List.drop_eq_nil_of_le (by omega)]; rfl
  | succ d ih =>
   intro i hi
   have h1 : i < a.length := by omega
   have h2 : i < b.length := by omega
   have ea := List.drop_eq_getElem_cons h1
   have eb := List.drop_eq_getElem_cons h2
   rw [ea, eb, Qgr, List.getElem?_eq_getElem h2]
   by_cases e : a[i] = b[i]
   ·rw [if_pos (by rw [e])]
    show Qgr _ (i + 1) () _ = _
    rw [ih (i + 1) (by omega)]
    by_cases e2 : a.drop (i + 1) = b.drop (i + 1)
    ·rw [if_pos e2, if_pos (by rw [e, e2])]
    ·rw [if_neg e2, if_neg (by intro hc; injection hc with _ hc; exact e2 hc)]
   ·rw [if_neg (by simpa using fun e' => e e'.symm), if_neg (by intro hc; injection hc with hc _; exact e hc)]
 have h2 := key a.length 0 (by omega)
 simp only [List.drop_zero] at h2
 have h3 : Z2 f FU (0 : Int) = _ := h1
 rw [h3, h2]
 by_cases e : a = b
 ·rw [if_pos e, if_pos e]
 ·rw [if_neg e, if_neg e]
theorem QeA {β : Type} {f : Int × List β → Option (LR (Int × List β) Empty)} (l : List α) (g : α → β) (hn : l.length ≤ 9000000000)
  (h : ∀ i (hi : i < l.length) (acc : List β), acc.length = i → f ((i : Int), acc) = some (.next ((i : Int) + 1, acc ++ [g l[i]]))) (he : ∀ acc : List β, f ((l.length : Int), acc) = some (.brk ((l.length : Int), acc))) :
  Q5 f FU ((0 : Int), []) = some ((l.length : Int), l.map g) := by
 have h1 := JB (f := f) (fun i (_ : Unit) => ((i : Int), (l.take i).map g)) (fun _ s => s) 0 l.length (fun i s _ h2 => by
  rw [h i h2 _ (by simp; omega)]
  rw [List.take_succ_eq_append_getElem h2, List.map_append]; rfl) (fun s => he _) FU () (by omega) (J7 hn)
 simpa using h1
end
end Go.Sl
namespace Go.Sl.Pu
open Go.Sl Go.Sl.M
def gv {w n : Nat} (v : Vector (BitVec w) n) (j : Nat) : BitVec w := v[j]?.getD 0
theorem Vg {w n : Nat} {v : Vector (BitVec w) n} {i : Int} {k : Nat} (hi : i = (k : Int)) (h : k < n) : Vc v i = some (gv v k) := by
 rw [Qej hi h]; simp [gv, h]
theorem BM {w n : Nat} {v : Vector (BitVec w) n} {k : Nat} {x : BitVec w} (h : k < n) : gv (v.setIfInBounds k x) k = x := by
 simp [gv, h]
theorem Qbj {w n : Nat} {v : Vector (BitVec w) n} {k j : Nat} {x : BitVec w} (h : k ≠ j) : gv (v.setIfInBounds k x) j = gv v j := by
 simp [gv, Vector.getElem?_setIfInBounds, h]
theorem Qjs {w n : Nat} {v : Vector (BitVec w) n} {k : Nat} {x y : BitVec w} : (v.setIfInBounds k x).setIfInBounds k y = v.setIfInBounds k y := by
 apply Vector.ext; intro i hi
 simp only [Vector.getElem_setIfInBounds]
 split <;> rfl
def gl {w : Nat} (b : List (BitVec w)) (j : Nat) : BitVec w := b.getD j 0
theorem WD {x : BitVec 32} {k : Int} {a b : Nat} (h1 : ((BitVec.ofInt 64 k) &&& 31#64).toNat = a) (h2 : (32#64 - ((BitVec.ofInt 64 k) &&& 31#64)).toNat = b) : Jg x k = some (x >>> b ||| x <<< a) := by
 unfold Jg
 rw [h1, h2, BitVec.or_comm]; rfl
theorem VA {x n : BitVec 32} {a b : Nat} (h1 : n.toNat = b) (h2 : (32#32 - n).toNat = a) : Jr x n = some (x >>> b ||| x <<< a) := by
 unfold Jr
 rw [h1, h2]; rfl
def rr (x : BitVec 32) (n : Nat) : BitVec 32 := x >>> n ||| x <<< (32 - n)
def be {w : Nat} (x : BitVec w) (k : Nat) : List (BitVec 8) := (List.range k).map fun j => (x >>> (8 * (k - 1 - j))).setWidth 8
theorem JG {w : Nat} (x : BitVec w) (k : Nat) : (be x k).length = k := by simp [be]
def le {w : Nat} (x : BitVec w) (k : Nat) : List (BitVec 8) := (List.range k).map fun j => (x >>> (8 * j)).setWidth 8
theorem Qjg (x : BitVec 64) : (x % 256#64).setWidth 8 = x.setWidth 8 := by
 apply BitVec.eq_of_toNat_eq
 simp [BitVec.toNat_setWidth, BitVec.toNat_umod]
theorem QhS (x : BitVec 64) : x / 256#64 = x >>> 8 := by
 apply BitVec.eq_of_toNat_eq
 simp [BitVec.toNat_udiv, Nat.shiftRight_eq_div_pow]
theorem QdC (x : BitVec 64) (k : Nat) (hk : k ≤ 1000) : Zz x k = some (be x k) := by
 unfold Zz
 have h1 := JB (f := fun (s : (BitVec 64) × Int × (List (BitVec 8))) => ZQ k s.1 s.2.1 s.2.2) (fun i (_ : Unit) => (x >>> (8 * i), (i : Int), le x i)) (fun _ s => s) 0 k (fun i s h1 h2 => by
   simp only [ZQ]
   rw [QQ (by simp; omega), QQ (by simp [le, AP]; omega), Qjg, QhS]
   have e : le x (i + 1) = le x i ++ [(x >>> (8 * i)).setWidth 8] := by simp [le, List.range_succ]
   rw [e, Jk (by omega), show 8 * (i + 1) = 8 * i + 8 by omega, BitVec.shiftRight_add]
   rfl) (fun s => by
   simp only [ZQ]
   rw [QV (by simp)]) FU () (by omega) (J7 (by omega))
 have e0 : ((x, (0 : Int), ([] : List (BitVec 8))) : (BitVec 64) × Int × (List (BitVec 8))) = (x >>> (8 * 0), ((0 : Nat) : Int), le x 0) := by simp [le]
 rw [e0, Qc h1]
 -- the other way round
 have h2 := JB (f := fun (s : Int × (List (BitVec 8))) => ZP (le x k) s.1 s.2) (fun i (_ : Unit) => ((k : Int) - 1 - i, (be x k).take i)) (fun _ s => s) 0 k (fun i s h1 h2 => by
   simp only [ZP]
   rw [QQ (by simp; omega)]
   have hl : ZC (le x k) ((k : Int) - 1 - i) = some ((x >>> (8 * (k - 1 - i))).setWidth 8) := by
    rw [Ju (k := k - 1 - i) (by omega) (by simp [le]; omega)]
    simp [le]
   rw [Qc hl, QQ (by simp [AP]; omega), Jk (by omega)]
   have e : (be x k).take (i + 1) = (be x k).take i ++ [(x >>> (8 * (k - 1 - i))).setWidth 8] := by
    rw [List.take_succ_eq_append_getElem (by rw [JG]; exact h2)]
    simp [be]
   rw [e]
   have : (k : Int) - 1 - (i : Int) - 1 = (k : Int) - 1 - ((i + 1 : Nat) : Int) := by omega
   rw [this]) (fun s => by
   simp only [ZP]
   rw [QV (by simp; omega)]) FU () (by omega) (J7 (by omega))
 have e1 : ((w64 ((k : Int) - 1), ([] : List (BitVec 8))) : Int × List (BitVec 8)) = ((k : Int) - 1 - ((0 : Nat) : Int), (be x k).take 0) := by
  rw [Jk (by omega)]; simp
 rw [e1, Qc h2, List.take_of_length_le (by rw [JG]; omega)]
def val (b : List (BitVec 8)) : BitVec 64 := b.foldl (fun x c => x * 256#64 + c.setWidth 64) 0#64
theorem Qiq (b : List (BitVec 8)) (hb : b.length ≤ 4294967296) : Xs b = some (val b) := by
 unfold Xs
 have h1 := JB (f := fun (s : (BitVec 64) × Int) => Z6 b s.1 s.2) (fun i (_ : Unit) => (val (b.take i), (i : Int))) (fun _ s => s) 0 b.length (fun i s h1 h2 => by
   simp only [Z6]
   have e : val (b.take (i + 1)) = val (b.take i) * 256#64 + b[i].setWidth 64 := by
    unfold val; rw [List.take_succ_eq_append_getElem h2, List.foldl_append]; rfl
   rw [QQ (by simp; omega), Qc (Ju rfl h2), Jk (by omega), e]
   rfl) (fun s => by
   simp only [Z6]
   rw [QV (by simp)]) FU () (by omega) (J7 (by omega))
 have e0 : ((0#64, (0 : Int)) : (BitVec 64) × Int) = (val (b.take 0), ((0 : Nat) : Int)) := by simp [val]
 rw [e0, Qc h1, List.take_length]
def sg0 (x : BitVec 32) : BitVec 32 := (rr x 7 ^^^ rr x 18) ^^^ (x >>> 3)
def sg1 (x : BitVec 32) : BitVec 32 := (rr x 17 ^^^ rr x 19) ^^^ (x >>> 10)
def stW (i : Nat) (v : Vector (BitVec 32) 64) : Vector (BitVec 32) 64 := v.setIfInBounds i (((gv v (i - 16) + sg0 (gv v (i - 15))) + gv v (i - 7)) + sg1 (gv v (i - 2)))
theorem QiN (v : Vector (BitVec 32) 64) : Q5 (fun (s : Int × (Vector (BitVec 32) 64)) => Xf s.1 s.2) FU (16, v) = some (64, Ya stW 16 48 v) := by
 refine JB (fun i v => ((i : Int), v)) stW 16 64 (fun i v h1 h2 => ?_) (fun v => ?_) FU v (by omega) (J7 (by omega))
 ·simp only [Xf]
  rw [QQ (by simp; omega), Jk (n := (i : Int) - 15) (by omega), Jk (n := (i : Int) - 2) (by omega), Jk (n := (i : Int) - 16) (by omega), Jk (n := (i : Int) - 7) (by omega), Jk (n := (i : Int) + 1) (by omega)]
  simp only [Vg (n := 64) (v := v) (i := (i : Int) - 15) (k := i - 15) (by omega) (by omega), Vg (n := 64) (v := v) (i := (i : Int) - 2) (k := i - 2) (by omega) (by omega), Vg (n := 64) (v := v) (i := (i : Int) - 16) (k := i - 16) (by omega) (by omega), Vg (n := 64) (v := v) (i := (i : Int) - 7) (k := i - 7) (by omega) (by omega), Option.bind_some,
   WD (k := -7) (a := 25) (b := 7) (by decide) (by decide), WD (k := -18) (a := 14) (b := 18) (by decide) (by decide), WD (k := -17) (a := 15) (b := 17) (by decide) (by decide), WD (k := -19) (a := 13) (b := 19) (by decide) (by decide)]
  rw [QQ ⟨by omega, by omega⟩]
  rfl
 ·simp only [Xf]
  rw [QV (by simp)]
theorem Qlj (x : BitVec 32) : x / 8#32 = x >>> 3 := by
 apply BitVec.eq_of_toNat_eq; simp [BitVec.toNat_udiv, Nat.shiftRight_eq_div_pow]
theorem Qko (x : BitVec 32) : x / 1024#32 = x >>> 10 := by
 apply BitVec.eq_of_toNat_eq; simp [BitVec.toNat_udiv, Nat.shiftRight_eq_div_pow]
theorem Qjd (v : Vector (BitVec 32) 64) : Q5 (fun (s : Int × (Vector (BitVec 32) 64)) => Z5 s.1 s.2) FU (16, v) = some (64, Ya stW 16 48 v) := by
 refine JB (fun i v => ((i : Int), v)) stW 16 64 (fun i v h1 h2 => ?_) (fun v => ?_) FU v (by omega) (J7 (by omega))
 ·simp only [Z5]
  rw [QQ (by simp; omega), Jk (n := (i : Int) - 15) (by omega), Jk (n := (i : Int) - 2) (by omega), Jk (n := (i : Int) - 16) (by omega), Jk (n := (i : Int) - 7) (by omega), Jk (n := (i : Int) + 1) (by omega)]
  simp only [Vg (n := 64) (v := v) (i := (i : Int) - 15) (k := i - 15) (by omega) (by omega), Vg (n := 64) (v := v) (i := (i : Int) - 2) (k := i - 2) (by omega) (by omega), Vg (n := 64) (v := v) (i := (i : Int) - 16) (k := i - 16) (by omega) (by omega), Vg (n := 64) (v := v) (i := (i : Int) - 7) (k := i - 7) (by omega) (by omega), Option.bind_some,
   VA (n := 7#32) (a := 25) (b := 7) (by decide) (by decide), VA (n := 18#32) (a := 14) (b := 18) (by decide) (by decide), VA (n := 17#32) (a := 15) (b := 17) (by decide) (by decide), VA (n := 19#32) (a := 13) (b := 19) (by decide) (by decide), Qlj, Qko]
  rw [QQ ⟨by omega, by omega⟩]
  rfl
 ·simp only [Z5]
  rw [QV (by simp)]
def pb (b : List (BitVec 8)) (i : Nat) (v : Vector (BitVec 32) 64) : Vector (BitVec 32) 64 := v.setIfInBounds (i / 4) ((gv v (i / 4) <<< 8) ||| (gl b i).setWidth 32)
def wd (b : List (BitVec 8)) (t : Nat) : BitVec 32 := ((((gl b (4 * t)).setWidth 32 <<< 8 ||| (gl b (4 * t + 1)).setWidth 32) <<< 8 ||| (gl b (4 * t + 2)).setWidth 32) <<< 8) ||| (gl b (4 * t + 3)).setWidth 32
def pw (b : List (BitVec 8)) (t : Nat) (v : Vector (BitVec 32) 64) : Vector (BitVec 32) 64 := v.setIfInBounds t (wd b t)
theorem pb4 (b : List (BitVec 8)) (t : Nat) (v : Vector (BitVec 32) 64) (ht : t < 64) (h0 : gv v t = 0) : Ya (pb b) (4 * t) 4 v = pw b t v := by
 have e0 : (4 * t) / 4 = t := by omega
 have e1 : (4 * t + 1) / 4 = t := by omega
 have e2 : (4 * t + 1 + 1) / 4 = t := by omega
 have e3 : (4 * t + 1 + 1 + 1) / 4 = t := by omega
 simp only [Ya, pb, e0, e1, e2, e3, BM ht, Qjs, h0, pw, wd]
 simp
theorem QkP (b : List (BitVec 8)) : ∀ (t i : Nat) (v : Vector (BitVec 32) 64), (∀ j, i ≤ j → gv v j = 0) → ∀ j, i + t ≤ j → gv (Ya (pw b) i t v) j = 0
 | 0, i, v, h, j, hj => h j (by omega)
 | t + 1, i, v, h, j, hj => QkP b t (i + 1) (pw b i v) (fun k hk => by unfold pw; rw [Qbj (by omega)]; exact h k (by omega)) j (by omega)
theorem Qkn (j : Nat) : gv (Vector.replicate 64 (0#32)) j = 0 := by
 unfold gv
 by_cases h : j < 64
 ·simp [h]
 ·simp [Vector.getElem?_eq_none (Nat.not_lt.1 h)]
theorem QkS (b : List (BitVec 8)) : ∀ (t : Nat), t ≤ 16 → Ya (pb b) 0 (4 * t) (Vector.replicate 64 (0#32)) = Ya (pw b) 0 t (Vector.replicate 64 (0#32))
 | 0, _ => rfl
 | t + 1, h => by
  rw [show 4 * (t + 1) = 4 * t + 4 by omega, Qbm, QkS b t (by omega), U7 (pw b) t 0, Nat.zero_add, Nat.zero_add]
  exact pb4 b t _ (by omega) (QkP b t 0 _ (fun j _ => Qkn j) t (by omega))
theorem QiK (b : List (BitVec 8)) (hb : 64 ≤ b.length) (v : Vector (BitVec 32) 64) : Q5 (fun (s : Int × (Vector (BitVec 32) 64)) => Xi (b.take 64) s.1 s.2) FU (0, v) = some (64, Ya (pb b) 0 64 v) := by
 refine JB (fun i v => ((i : Int), v)) (pb b) 0 64 (fun i v h1 h2 => ?_) (fun v => ?_) FU v (by omega) (J7 (by omega))
 ·simp only [Xi]
  have hd : w64 (Int.tdiv (i : Int) 4) = ((i / 4 : Nat) : Int) := by
   rw [show (4 : Int) = ((4 : Nat) : Int) from rfl, ← Int.ofNat_tdiv]; exact qm (by omega)
  rw [QQ (by simp; omega), hd, Jk (n := (i : Int) + 1) (by omega)]
  have hg : ZC (b.take 64) (i : Int) = some (gl b i) := by
   rw [Ju rfl (by simp; omega)]; simp [gl, List.getElem?_eq_getElem (show i < b.length by omega)]
  rw [Qc hg, Qc (Vg rfl (by omega)), QQ ⟨by omega, by omega⟩]
  rfl
 ·simp only [Xi]
  rw [QV (by simp; omega)]
theorem Qj7 (Y : BitVec 32) (c : BitVec 8) : Y * 256#32 + c.setWidth 32 = Y <<< 8 ||| c.setWidth 32 := by
 have e : Y * 256#32 = Y <<< 8 := by
  apply BitVec.eq_of_toNat_eq; simp [BitVec.toNat_mul, BitVec.toNat_shiftLeft, Nat.shiftLeft_eq]
 rw [e]
 apply BitVec.add_eq_or_of_and_eq_zero
 apply BitVec.eq_of_getLsbD_eq
 intro i hi
 simp only [BitVec.getLsbD_and, BitVec.getLsbD_shiftLeft, BitVec.getLsbD_setWidth, BitVec.getLsbD_zero]
 by_cases h : i < 8
 ·simp [h]
 ·rw [BitVec.getLsbD_of_ge c i (by omega)]; simp
theorem QlV (c0 c1 c2 c3 : BitVec 8) : (val [c0, c1, c2, c3]).setWidth 32 = (((c0.setWidth 32 <<< 8 ||| c1.setWidth 32) <<< 8 ||| c2.setWidth 32) <<< 8) ||| c3.setWidth 32 := by
 have hs : ∀ (X : BitVec 64) (c : BitVec 8), (X * 256#64 + c.setWidth 64).setWidth 32 = (X.setWidth 32) <<< 8 ||| c.setWidth 32 := by
  intro X c
  rw [← Qj7]
  apply BitVec.eq_of_toNat_eq
  simp only [BitVec.toNat_setWidth, BitVec.toNat_add, BitVec.toNat_mul, BitVec.toNat_ofNat]
  omega
 simp only [val, List.foldl_cons, List.foldl_nil, hs]
 simp
theorem Qio (b : List (BitVec 8)) (hb : 64 ≤ b.length) (v : Vector (BitVec 32) 64) : Q5 (fun (s : Int × (Vector (BitVec 32) 64)) => Z8 b s.1 s.2) FU (0, v) = some (16, Ya (pw b) 0 16 v) := by
 refine JB (fun i v => ((i : Int), v)) (pw b) 0 16 (fun i v h1 h2 => ?_) (fun v => ?_) FU v (by omega) (J7 (by omega))
 ·simp only [Z8]
  rw [QQ (by simp; omega), Jk (n := 4 * (i : Int)) (by omega), Jk (n := 4 * (i : Int) + 4) (by omega), Jk (n := (i : Int) + 1) (by omega)]
  have hsl : YJ b (4 * (i : Int)) (4 * (i : Int) + 4) = some [gl b (4 * i), gl b (4 * i + 1), gl b (4 * i + 2), gl b (4 * i + 3)] := by
   rw [Z9 (a := 4 * i) (b := 4 * i + 4) (by omega) (by omega) (by omega) (by omega)]
   congr 1
   apply List.ext_getElem
   ·simp; omega
   ·intro j h1 h2
    simp only [List.length_cons, List.length_nil] at h2
    have hj : j = 0 ∨ j = 1 ∨ j = 2 ∨ j = 3 := by omega
    rcases hj with rfl | rfl | rfl | rfl <;> simp [gl, List.getElem?_eq_getElem, show 4 * i < b.length by omega, show 4 * i + 1 < b.length by omega, show 4 * i + 2 < b.length by omega, show 4 * i + 3 < b.length by omega]
  rw [Qc hsl, Qc (Qiq _ (by simp)), QQ ⟨by omega, by omega⟩, QlV]
  rfl
 ·simp only [Z8]
  rw [QV (by simp)]
def QdB (b : List (BitVec 8)) : Vector (BitVec 32) 64 := Ya stW 16 48 (Ya (pw b) 0 16 (Vector.replicate 64 (0#32)))
theorem QeS (b : List (BitVec 8)) (hb : 64 ≤ b.length) : Kj b = some (QdB b) := by
 unfold Kj
 rw [Qc (Z9 (lo := 0) (hi := 64) (a := 0) (b := 64) rfl rfl (by omega) hb), List.drop_zero, Qc (QiK b hb _)]
 have := QkS b 16 (by omega)
 rw [show 4 * 16 = 64 from rfl] at this
 simp only [this, QiN, Option.bind_some]
 rfl
theorem Qjb (b : List (BitVec 8)) (hb : 64 ≤ b.length) : Xo b = some (QdB b) := by
 unfold Xo
 rw [Qc (Qio b hb _)]
 simp only [Qjd, Option.bind_some]
 rfl
end Go.Sl.Pu
namespace Go.Sl.Pu
open Go.Sl Go.Sl.M
def rnd (w : Vector (BitVec 32) 64) (i : Nat) (v : Vector (BitVec 32) 8) : Vector (BitVec 32) 8 :=
 #v[((((v[7] + ((rr v[4] 6 ^^^ rr v[4] 11) ^^^ rr v[4] 25)) + (v[6] ^^^ (v[4] &&& (v[5] ^^^ v[6])))) + gv YY i) + gv w i) + (((rr v[0] 2 ^^^ rr v[0] 13) ^^^ rr v[0] 22) + ((v[0] &&& v[1]) ||| (v[2] &&& (v[0] ||| v[1])))),
  v[0], v[1], v[2], v[3] + ((((v[7] + ((rr v[4] 6 ^^^ rr v[4] 11) ^^^ rr v[4] 25)) + (v[6] ^^^ (v[4] &&& (v[5] ^^^ v[6])))) + gv YY i) + gv w i), v[4], v[5], v[6]]
theorem Qks (w : Vector (BitVec 32) 64) (v : Vector (BitVec 32) 8) (i : Nat) (h2 : i < 64) : Zd w (i : Int) v = some (.next (((i + 1 : Nat) : Int), rnd w i v)) := by
  unfold Zd
  rw [QQ (by simp; omega), Jk (n := (i : Int) + 1) (by omega)]
  rw [Qc (WD (k := -6) (a := 26) (b := 6) (by decide) (by decide))]
  rw [Qc (WD (k := -11) (a := 21) (b := 11) (by decide) (by decide))]
  rw [Qc (WD (k := -25) (a := 7) (b := 25) (by decide) (by decide))]
  rw [Qc (Vg (n := 64) (i := (i : Int)) (k := i) rfl h2)]
  rw [Qc (Vg (n := 64) (i := (i : Int)) (k := i) rfl h2)]
  rw [Option.bind_some]
  rw [Qc (WD (k := -2) (a := 30) (b := 2) (by decide) (by decide))]
  rw [Qc (WD (k := -13) (a := 19) (b := 13) (by decide) (by decide))]
  rw [Qc (WD (k := -22) (a := 10) (b := 22) (by decide) (by decide))]
  rw [Option.bind_some]
  rw [Option.bind_some]
  rfl
theorem Qk6 (w : Vector (BitVec 32) 64) (v : Vector (BitVec 32) 8) : Zd w ((64 : Nat) : Int) v = some (.brk (((64 : Nat) : Int), v)) := by
 unfold Zd
 exact if_neg (by simp)
theorem Qis (w : Vector (BitVec 32) 64) (v : Q6) : Q5 (fun (s : Int × Q6) => Zd w s.1 s.2) FU (0, v) = some (64, Ya (rnd w) 0 64 v) := by
 have h := JB (f := fun (s : Int × Q6) => Zd w s.1 s.2) (fun i (v : Q6) => ((i : Int), v)) (rnd w) 0 64 (fun i v h1 h2 => Qks w v i h2) (fun v => Qk6 w v) FU v (by omega) (J7 (by omega))
 rw [Nat.sub_zero] at h
 exact h
theorem QlE (a b c : BitVec 32) : a &&& b ||| ((4294967295#32) - a) &&& c = c ^^^ (a &&& (b ^^^ c)) := by
 have e : (4294967295#32) - a = ~~~a := by
  rw [show (4294967295#32) = BitVec.allOnes 32 by decide, BitVec.allOnes_sub_eq_not]
 rw [e]
 apply BitVec.eq_of_getLsbD_eq
 intro i hi
 simp only [BitVec.getLsbD_or, BitVec.getLsbD_and, BitVec.getLsbD_not, BitVec.getLsbD_xor, hi, decide_true, Bool.true_and]
 cases a.getLsbD i <;> cases b.getLsbD i <;> cases c.getLsbD i <;> rfl
theorem QkU (a b c : BitVec 32) : (a &&& b ||| a &&& c) ||| b &&& c = a &&& b ||| c &&& (a ||| b) := by
 apply BitVec.eq_of_getLsbD_eq
 intro i hi
 simp only [BitVec.getLsbD_or, BitVec.getLsbD_and]
 cases a.getLsbD i <;> cases b.getLsbD i <;> cases c.getLsbD i <;> rfl
theorem QjY (w : Vector (BitVec 32) 64) (v : Vector (BitVec 32) 8) : Q5 (fun (s : Int × (Vector (BitVec 32) 8)) => Yq YY w s.1 s.2) FU (0, v) = some (64, Ya (rnd w) 0 64 v) := by
 refine JB (fun i v => ((i : Int), v)) (rnd w) 0 64 (fun i v h1 h2 => ?_) (fun v => ?_) FU v (by omega) (J7 (by omega))
 ·simp only [Yq]
  rw [QQ (by simp; omega), Jk (n := (i : Int) + 1) (by omega)]
  simp only [VA (n := 6#32) (a := 26) (b := 6) (by decide) (by decide), VA (n := 11#32) (a := 21) (b := 11) (by decide) (by decide), VA (n := 25#32) (a := 7) (b := 25) (by decide) (by decide),
   VA (n := 2#32) (a := 30) (b := 2) (by decide) (by decide), VA (n := 13#32) (a := 19) (b := 13) (by decide) (by decide), VA (n := 22#32) (a := 10) (b := 22) (by decide) (by decide), Option.bind_some, Vg (n := 64) (i := (i : Int)) (k := i) rfl h2, QlE, QkU]
  rfl
 ·simp only [Yq]
  rw [QV (by simp)]
def QjJ (a : Vector (BitVec 32) 8) (i : Nat) (v : Vector (BitVec 32) 8) : Vector (BitVec 32) 8 := v.setIfInBounds i (gv v i + gv a i)
theorem Qjo (a v : Vector (BitVec 32) 8) : Q5 (fun (s : Int × (Vector (BitVec 32) 8)) => Yj a s.1 s.2) FU (0, v) = some (8, Ya (QjJ a) 0 8 v) := by
 refine JB (fun i v => ((i : Int), v)) (QjJ a) 0 8 (fun i v h1 h2 => ?_) (fun v => ?_) FU v (by omega) (J7 (by omega))
 ·simp only [Yj]
  rw [QQ (by simp; omega), Jk (n := (i : Int) + 1) (by omega)]
  simp only [Option.bind_some, Vg (n := 8) (i := (i : Int)) (k := i) rfl h2]
  rw [QQ ⟨by omega, by omega⟩]
  rfl
 ·simp only [Yj]
  rw [QV (by simp)]
theorem Qkk (a v : Vector (BitVec 32) 8) : Q5 (fun (s : Int × Q6) => XZ a s.1 s.2) FU (0, v) = some (8, Ya (QjJ a) 0 8 v) := Qjo a v
def blk (s : Vector (BitVec 32) 8) (b : List (BitVec 8)) : Vector (BitVec 32) 8 := Ya (QjJ (Ya (rnd (QdB b)) 0 64 s)) 0 8 s
theorem Qc8 (s : Vector (BitVec 32) 8) (b : List (BitVec 8)) (hb : 64 ≤ b.length) : YN s b = some (blk s b) := by
 unfold YN
 rw [Qc (QeS b hb)]
 simp only [Qis, Qkk, Option.bind_some]
 rfl
theorem Qj5 (s : Vector (BitVec 32) 8) (b : List (BitVec 8)) (hb : 64 ≤ b.length) : XI s b = some (blk s b) := by
 unfold XI
 rw [Qc (Qjb b hb), Qc (show KZ = some YY from rfl)]
 simp only [QjY, Qjo, Option.bind_some]
 rfl
theorem B5 (s : Vector (BitVec 32) 8) {b b' : List (BitVec 8)} (h : ∀ i, i < 64 → gl b i = gl b' i) : blk s b = blk s b' := by
 have : QdB b = QdB b' := by
  unfold QdB
  rw [BK (f := pw b) (g := pw b') 16 0 _ fun j _ hj v => ?_]
  unfold pw wd
  rw [h (4 * j) (by omega), h (4 * j + 1) (by omega), h (4 * j + 2) (by omega), h (4 * j + 3) (by omega)]
 unfold blk
 rw [this]
def Qk5 (h : Vector (BitVec 32) 8) : Vector (BitVec 8) 32 := Ya (fun i (o : Vector (BitVec 8) 32) => o.setIfInBounds i ((gv h (i / 4) >>> (24 - 8 * (i % 4))).setWidth 8)) 0 32 (Vector.replicate 32 (0#8))
theorem QiD (h : Vector (BitVec 32) 8) : Q5 (fun (s : Int × Qa) => KD h s.1 s.2) FU (0, Vector.replicate 32 (0#8)) = some (32, Qk5 h) := by
 refine JB (fun i v => ((i : Int), v)) (fun i (o : Vector (BitVec 8) 32) => o.setIfInBounds i ((gv h (i / 4) >>> (24 - 8 * (i % 4))).setWidth 8)) 0 32 (fun i v h1 h2 => ?_) (fun v => ?_) FU _ (by omega) (J7 (by omega))
 ·simp only [KD]
  have hd : w64 (Int.tdiv (i : Int) 4) = ((i / 4 : Nat) : Int) := by
   rw [show (4 : Int) = ((4 : Nat) : Int) from rfl, ← Int.ofNat_tdiv]; exact qm (by omega)
  have hm : Int.tmod (i : Int) 4 = ((i % 4 : Nat) : Int) := by
   rw [show (4 : Int) = ((4 : Nat) : Int) from rfl, ← Int.ofNat_tmod]
  rw [QQ (by simp; omega), hd, Qc (Vg rfl (by omega)), hm, Jk (n := 8 * ((i % 4 : Nat) : Int)) (by omega), Jk (n := 24 - 8 * ((i % 4 : Nat) : Int)) (by omega), QQ (by omega), QQ ⟨by omega, by omega⟩, Jk (n := (i : Int) + 1) (by omega)]
  have : (24 - 8 * ((i % 4 : Nat) : Int)).toNat = 24 - 8 * (i % 4) := by omega
  rw [this]
  rfl
 ·simp only [KD]
  rw [QV (by simp)]
theorem Qj0 (h : Vector (BitVec 32) 8) : Q5 (fun (s : Int × Qa) => YD h s.1 s.2) FU (0, Vector.replicate 32 (0#8)) = some (32, Qk5 h) := by
 refine JB (fun i v => ((i : Int), v)) (fun i (o : Vector (BitVec 8) 32) => o.setIfInBounds i ((gv h (i / 4) >>> (24 - 8 * (i % 4))).setWidth 8)) 0 32 (fun i v h1 h2 => ?_) (fun v => ?_) FU _ (by omega) (J7 (by omega))
 ·simp only [YD]
  have hd : w64 (Int.tdiv (i : Int) 4) = ((i / 4 : Nat) : Int) := by
   rw [show (4 : Int) = ((4 : Nat) : Int) from rfl, ← Int.ofNat_tdiv]; exact qm (by omega)
  have hm : Int.tmod (i : Int) 4 = ((i % 4 : Nat) : Int) := by
   rw [show (4 : Int) = ((4 : Nat) : Int) from rfl, ← Int.ofNat_tmod]
  rw [QQ (by simp; omega), hd, Qc (Vg rfl (by omega)), hm, QQ ⟨by omega, by omega⟩, Jk (n := (i : Int) + 1) (by omega)]
  have h4 : i % 4 = 0 ∨ i % 4 = 1 ∨ i % 4 = 2 ∨ i % 4 = 3 := by omega
  have : (24#32 - 8#32 * BitVec.ofInt 32 ((i % 4 : Nat) : Int)).toNat = 24 - 8 * (i % 4) := by
   rcases h4 with h | h | h | h <;> rw [h] <;> decide
  rw [this]
  rfl
 ·simp only [YD]
  rw [QV (by simp)]
def zs (n : Nat) : Nat := if n % 64 < 56 then 55 - n % 64 else 119 - n % 64
def pad (b : List (BitVec 8)) : List (BitVec 8) := b ++ ([128#8] ++ (List.replicate (zs b.length) (0#8) ++ be ((BitVec.ofNat 64 b.length) <<< 3) 8))
theorem QgW (b : List (BitVec 8)) : (pad b).length = b.length + zs b.length + 9 := by
 simp [pad, JG]; omega
theorem Qhi (b : List (BitVec 8)) (hb : b.length ≤ 4000000000) : Y9 b = some (pad b) := by
 unfold Y9
 rw [QQ (by simp [AP]; omega), QQ (by simp [AP]; omega), List.nil_append]
 have hz : zs b.length ≤ 63 := by unfold zs; split <;> omega
 have h1 := JB (f := fun (s : List (BitVec 8)) => ZX s) (fun i (_ : Unit) => (b ++ [128#8]) ++ List.replicate i (0#8)) (fun _ s => s) 0 (zs b.length) (fun i s h1 h2 => by
   simp only [ZX]
   have hl : (((b ++ [128#8]) ++ List.replicate i (0#8)).length : Int) = ((b.length + 1 + i : Nat) : Int) := by simp; omega
   have hm : Int.tmod ((b.length + 1 + i : Nat) : Int) 64 = (((b.length + 1 + i) % 64 : Nat) : Int) := by
    rw [show (64 : Int) = ((64 : Nat) : Int) from rfl, ← Int.ofNat_tmod]
   rw [hl, hm, QQ (by
    simp only [Bool.not_eq_true', decide_eq_false_iff_not]
    unfold zs at h2; split at h2 <;> omega), QQ (by simp [AP]; omega)]
   rw [List.append_assoc, ← List.replicate_succ']) (fun s => by
   simp only [ZX]
   have hl : (((b ++ [128#8]) ++ List.replicate (zs b.length) (0#8)).length : Int) = ((b.length + 1 + zs b.length : Nat) : Int) := by simp; omega
   have hm : Int.tmod ((b.length + 1 + zs b.length : Nat) : Int) 64 = (((b.length + 1 + zs b.length) % 64 : Nat) : Int) := by
    rw [show (64 : Int) = ((64 : Nat) : Int) from rfl, ← Int.ofNat_tmod]
   rw [hl, hm, QV (by
    simp only [Bool.not_eq_true', decide_eq_false_iff_not, Decidable.not_not]
    unfold zs; split <;> omega)]) FU () (by omega) (J7 (by omega))
 have e0 : (b ++ [128#8]) = (b ++ [128#8]) ++ List.replicate 0 (0#8) := by simp
 rw [e0]
 rw [Qc h1]
 have e8 : (8#64) * (BitVec.ofInt 64 (b.length : Int)) = (BitVec.ofNat 64 b.length) <<< 3 := by
  apply BitVec.eq_of_toNat_eq
  simp [BitVec.toNat_mul, BitVec.toNat_shiftLeft, Nat.shiftLeft_eq]
  omega
 rw [e8]
 rw [Qc (show Zz _ 8 = some _ from QdC _ 8 (by omega)), QQ (by simp [AP, JG]; omega)]
 simp [pad]
def Qdj (p : List (BitVec 8)) (k : Nat) : Vector (BitVec 32) 8 := Ya (fun i s => blk s (p.drop (64 * i))) 0 k Zr
def sha (b : List (BitVec 8)) : Vector (BitVec 8) 32 := Qk5 (Qdj (pad b) ((pad b).length / 64))
theorem Qei (b : List (BitVec 8)) {i k : Nat} (h : i < k) : gl (b.take k) i = gl b i := by
 simp only [gl, List.getD_eq_getElem?_getD, List.getElem?_take, if_pos h]
theorem Uo (b : List (BitVec 8)) (i k : Nat) : gl (b.drop k) i = gl b (k + i) := by
 simp only [gl, List.getD_eq_getElem?_getD, List.getElem?_drop]
theorem Qd5 (b : List (BitVec 8)) (hb : b.length ≤ 4000000000) : YO b = some (sha b) := by
 unfold YO
 rw [Qc (show Vh = some Zr from rfl), Qc (Qhi b hb)]
 have hlen := QgW b
 have hdiv : 64 * ((pad b).length / 64) = (pad b).length := by
  rw [hlen]; unfold zs; split <;> omega
 have hle : (pad b).length ≤ 4000000200 := by rw [hlen]; unfold zs; split <;> omega
 have h1 := JB (f := fun (s : Int × (Vector (BitVec 32) 8)) => YA (pad b) s.1 s.2) (fun i v => ((64 * i : Nat), v)) (fun i s => blk s ((pad b).drop (64 * i))) 0 ((pad b).length / 64) (fun i v h1 h2 => by
   simp only [YA]
   have hi : 64 * i + 64 ≤ (pad b).length := by omega
   rw [QQ (by simp; omega), Jk (n := ((64 * i : Nat) : Int) + 64) (by omega)]
   rw [Qc (Z9 (a := 64 * i) (b := 64 * i + 64) rfl (by omega) (by omega) hi), Qc (Qj5 _ _ (by simp; omega))]
   have : (((64 * i : Nat) : Int) + 64) = ((64 * (i + 1) : Nat) : Int) := by omega
   rw [this]
   have hc : blk v (((pad b).take (64 * i + 64)).drop (64 * i)) = blk v ((pad b).drop (64 * i)) := by
    refine B5 v fun j hj => ?_
    rw [Uo, Uo, Qei _ (by omega)]
   rw [hc]) (fun v => by
   simp only [YA]
   rw [QV (by simp; omega)]) FU Zr (by omega) (J7 (by omega))
 have e0 : ((0 : Int), Zr) = (((64 * 0 : Nat) : Int), Zr) := rfl
 rw [e0, Qc h1]
 simp only [Qj0, Option.bind_some]
 rfl
end Go.Sl.Pu
namespace Go.Sl.Pu
open Go.Sl Go.Sl.M
theorem WT (a b : List (BitVec 8)) (i : Nat) : gl (a ++ b) i = if i < a.length then gl a i else gl b (i - a.length) := by
 simp only [gl, List.getD_eq_getElem?_getD]
 split
 ·rename_i h; rw [List.getElem?_append_left h]
 ·rename_i h; rw [List.getElem?_append_right (by omega)]
theorem Qjq (n i : Nat) : gl (List.replicate n (0#8)) i = 0 := by
 simp only [gl, List.getD_eq_getElem?_getD, List.getElem?_replicate]
 split <;> rfl
theorem Qlz {w : Nat} (x : BitVec w) (k i : Nat) (h : i < k) : gl (be x k) i = (x >>> (8 * (k - 1 - i))).setWidth 8 := by
 simp [gl, be, h]
theorem QkT (b : List (BitVec 8)) (i : Nat) (h : b.length ≤ i) : gl b i = 0 := by
 simp [gl, List.getElem?_eq_none h]
theorem Qgk {n : Nat} (v : Vector (BitVec 8) n) (j : Nat) : gl v.toList j = gv v j := by
 simp only [gl, gv, List.getD_eq_getElem?_getD]
 by_cases h : j < n
 ·simp [h]
 ·rw [List.getElem?_eq_none (by simpa using h), Vector.getElem?_eq_none (by omega)]
theorem Qkz {n : Nat} (l : List (BitVec 8)) (h : l.length ≤ n) (j : Nat) : gv (Qgl (Vector.replicate n (0#8)) 0 l) j = gl l j := by
 rw [← Qgk, QbH _ _ _ (by omega)]
 simp only [List.take_zero, List.nil_append]
 rw [WT]
 split
 ·rfl
 ·rename_i hj
  rw [Uo, Qgk, QkT l j (by omega)]
  unfold gv
  by_cases h2 : 0 + l.length + (j - l.length) < n
  ·rw [Vector.getElem?_eq_getElem h2]; simp
  ·rw [Vector.getElem?_eq_none (by omega)]; rfl
def QhF (S : Nat) (x : BitVec 64) (i : Nat) (v : Vector (BitVec 8) 128) : Vector (BitVec 8) 128 := v.setIfInBounds (S - 1 - i) ((x >>> (8 * i)).setWidth 8)
theorem QgZ (S : Nat) (x : BitVec 64) (hS : S ≤ 128) (v : Vector (BitVec 8) 128) : ∀ (k : Nat), k ≤ S → ∀ j, gv (Ya (QhF S x) 0 k v) j = if S - k ≤ j ∧ j < S then (x >>> (8 * (S - 1 - j))).setWidth 8 else gv v j
 | 0, _, j => by rw [if_neg (by omega)]; rfl
 | k + 1, hk, j => by
  rw [U7, Nat.zero_add]
  unfold QhF
  by_cases hj : S - 1 - k = j
  ·subst hj
   rw [BM (by omega), if_pos ⟨by omega, by omega⟩]
   congr 2; omega
  ·rw [Qbj hj]
   have ih := QgZ S x hS v k (by omega) j
   unfold QhF at ih
   rw [ih]
   by_cases h2 : S - k ≤ j ∧ j < S
   ·rw [if_pos h2, if_pos ⟨by omega, h2.2⟩]
   ·rw [if_neg h2, if_neg (by omega)]
theorem Qld (b : List (BitVec 8)) (hb : b.length ≤ 4000000000) : Q5 (fun (s : (List (BitVec 8)) × Q6) => VW s.1 s.2) FU (b, Zr) = some (b.drop (64 * (b.length / 64)), Ya (fun i s => blk s (b.drop (64 * i))) 0 (b.length / 64) Zr) := by
 have h := JB (f := fun (s : (List (BitVec 8)) × Q6) => VW s.1 s.2) (fun i (v : Q6) => (b.drop (64 * i), v)) (fun i s => blk s (b.drop (64 * i))) 0 (b.length / 64) (fun i v h1 h2 => by
  simp only [VW]
  have hl : (b.drop (64 * i)).length = b.length - 64 * i := by simp
  rw [QQ (by rw [hl]; simp; omega), Qc (Qc8 _ _ (by rw [hl]; omega)), Qc (Z9 (lo := 64) (a := 64) (b := (b.drop (64 * i)).length) rfl rfl (by rw [hl]; omega) (Nat.le_refl _)), List.take_length, List.drop_drop]
  rw [show 64 * i + 64 = 64 * (i + 1) by omega]) (fun v => by
  simp only [VW]
  rw [QV (by simp; omega)]) FU Zr (by omega) (J7 (by omega))
 exact h
theorem Qlf (S : Nat) (b : List (BitVec 8)) (hS : S = 64 ∨ S = 128) (v : Vector (BitVec 8) 128) : Q5 (fun (s : Int × (Vector (BitVec 8) 128)) => Kz (S : Int) b s.1 s.2) FU ((0 : Int), v) = some ((8 : Int), Ya (QhF S ((BitVec.ofNat 64 b.length) <<< 3)) 0 8 v) := by
 refine JB (fun i v => ((i : Int), v)) (QhF S ((BitVec.ofNat 64 b.length) <<< 3)) 0 8 (fun i v h1 h2 => ?_) (fun v => ?_) FU v (by omega) (J7 (by omega))
 ·simp only [Kz]
  rw [QQ (by simp; omega), Jk (n := 8 * (i : Int)) (by omega), QQ (by omega), Jk (n := (S : Int) - 1) (by omega), Jk (n := (S : Int) - 1 - (i : Int)) (by omega), QQ ⟨by omega, by omega⟩, Jk (n := (i : Int) + 1) (by omega)]
  have e1 : ((S : Int) - 1 - (i : Int)).toNat = S - 1 - i := by omega
  have e2 : (8 * (i : Int)).toNat = 8 * i := by omega
  rw [e1, e2]
  rfl
 ·simp only [Kz]
  rw [QV (by simp)]
theorem Qcs (b : List (BitVec 8)) (hb : b.length ≤ 4000000000) : KW b = some (sha b) := by
 unfold KW
 rw [Qc (Qld b hb)]
 generalize hst : Ya (fun i s => blk s (b.drop (64 * i))) 0 (b.length / 64) Zr = st
 have hl : (b.drop (64 * (b.length / 64))).length = b.length % 64 := by simp; omega
 have hst2 : Qdj (pad b) (b.length / 64) = st := by
  rw [← hst]
  unfold Qdj
  refine BK _ 0 _ fun i _ hi s => ?_
  refine B5 s fun j hj => ?_
  rw [Uo, Uo]
  unfold pad
  rw [WT, if_pos (by omega)]
 have hsize : (if (decide ((56 : Int) ≤ ((b.drop (64 * (b.length / 64))).length : Int))) = true then some (128 : Int) else some (64 : Int)) = some (((if b.length % 64 < 56 then 64 else 128 : Nat)) : Int) := by
  rw [hl]
  by_cases h : b.length % 64 < 56
  ·rw [if_neg (by simp; omega), if_pos h]; rfl
  ·rw [if_pos (by simp; omega), if_neg h]; rfl
 simp only []
 rw [hsize]
 generalize hS : (if b.length % 64 < 56 then 64 else 128 : Nat) = S
 have hS2 : S = 64 ∨ S = 128 := by rw [← hS]; split <;> simp
 rw [Option.bind_some, QQ ⟨by omega, by rw [hl]; omega⟩, Option.bind_some]
 rw [Qc (Qlf S b hS2 _)]
 simp only []
 generalize hT : Ya (QhF S ((BitVec.ofNat 64 b.length) <<< 3)) 0 8 ((Qgl (Vector.replicate 128 (0#8)) 0 ((b.drop (64 * (b.length / 64))).take 128)).setIfInBounds ((b.drop (64 * (b.length / 64))).length : Int).toNat (128#8)) = T
 -- the tail is the padded text's end
 have htail : ∀ j, j < S → gl T.toList j = gl ((pad b).drop (64 * (b.length / 64))) j := by
  intro j hj
  rw [Qgk, ← hT, QgZ S _ (by omega) _ 8 (by omega), Uo]
  have hr : ((b.drop (64 * (b.length / 64))).length : Int).toNat = b.length % 64 := by rw [hl]; omega
  rw [hr]
  unfold pad
  rw [WT, WT, WT]
  simp only [List.length_cons, List.length_nil, List.length_replicate]
  have hz : zs b.length = S - 9 - b.length % 64 := by
   rw [← hS]; unfold zs; split <;> omega
  have hz2 : b.length % 64 ≤ S - 9 := by rw [← hS]; split <;> omega
  have hz3 : 64 ≤ S := by omega
  by_cases h1 : S - 8 ≤ j ∧ j < S
  ·rw [if_pos h1, if_neg (by rw [← hS] at h1; split at h1 <;> omega), if_neg (by rw [← hS] at h1; split at h1 <;> omega), if_neg (by rw [hz]; omega), Qlz _ _ _ (by rw [hz]; omega)]
   congr 2
   rw [hz]; omega
  ·rw [if_neg h1]
   by_cases h2 : b.length % 64 = j
   ·rw [h2, BM (by omega), if_neg (by omega), if_pos (by omega)]
    have : 64 * (b.length / 64) + j - b.length = 0 := by omega
    rw [this]; rfl
   ·rw [Qbj h2, Qkz _ (by simp; omega), Qei _ (by omega), Uo]
    by_cases h3 : j < b.length % 64
    ·rw [if_pos (by omega)]
    ·rw [if_neg (by omega), if_neg (by omega), if_pos (by rw [hz]; omega), Qjq, QkT _ _ (by omega)]
 rw [Qc (Qc8 _ _ (by simp))]
 have hb1 : blk st T.toList = Qdj (pad b) (b.length / 64 + 1) := by
  unfold Qdj
  rw [U7, Nat.zero_add]
  show _ = blk (Qdj (pad b) (b.length / 64)) _
  rw [hst2]
  exact B5 st fun j hj => htail j (by omega)
 have hlen := QgW b
 have hK : (pad b).length / 64 = b.length / 64 + S / 64 := by
  rw [hlen, ← hS]; unfold zs; split <;> omega
 rcases hS2 with rfl | rfl
 ·rw [QV (by simp), Option.bind_some]
  rw [Qc (QiD _), hb1]
  unfold sha
  rw [hK]
 ·rw [QQ (by simp), Qc (Qc8 _ _ (by simp)), Option.bind_some]
  rw [Qc (QiD _)]
  unfold sha
  rw [hK, hb1]
  have : blk (Qdj (pad b) (b.length / 64 + 1)) ((T.toList.drop 64).take 64) = Qdj (pad b) (b.length / 64 + 128 / 64) := by
   rw [show b.length / 64 + 128 / 64 = (b.length / 64 + 1) + 1 by omega]
   conv => rhs; unfold Qdj
   rw [U7, Nat.zero_add]
   show _ = blk (Qdj (pad b) (b.length / 64 + 1)) _
   refine B5 _ fun j hj => ?_
   rw [Qei _ hj, Uo, htail _ (by omega), Uo, Uo]
   congr 1; omega
  rw [this]
end Go.Sl.Pu
namespace Go.Sl
namespace Pu
open Go.Sl Go.Sl.M
def body (parts : List (List (BitVec 8))) : List (BitVec 8) := parts.flatMap fun p => be (BitVec.ofNat 32 p.length) 4 ++ p
def Qky (tag : BitVec 8) (parts : List (List (BitVec 8))) : List (BitVec 8) := tag :: body parts
def VH (parts : List (List (BitVec 8))) : Nat := (parts.map fun p => 4 + p.length).sum
theorem QeF (parts : List (List (BitVec 8))) : (body parts).length = VH parts := by
 unfold body VH
 rw [List.length_flatMap]
 congr 1
 apply List.map_congr_left
 intro p _
 rw [List.length_append, JG]
theorem Qc3 (parts : List (List (BitVec 8))) (i : Nat) (hi : i < parts.length) : VH (parts.take (i + 1)) = VH (parts.take i) + (4 + parts[i].length) := by
 unfold VH
 rw [List.take_succ_eq_append_getElem hi]; simp only [List.map_append, List.map_cons, List.map_nil, List.sum_append, List.sum_cons, List.sum_nil, Nat.add_zero]
theorem QhO (parts : List (List (BitVec 8))) (i : Nat) (hi : i < parts.length) : body (parts.take (i + 1)) = (body (parts.take i) ++ be (BitVec.ofNat 32 parts[i].length) 4) ++ parts[i] := by
 unfold body
 rw [List.take_succ_eq_append_getElem hi]; simp only [List.flatMap_append, List.flatMap_cons, List.flatMap_nil, List.append_nil, List.append_assoc]
theorem QeO (parts : List (List (BitVec 8))) (i : Nat) : VH (parts.take i) ≤ VH parts := by
 unfold VH
 conv => rhs; rw [← List.take_append_drop i parts]
 rw [List.map_append, List.sum_append]; omega
theorem be4 (n : Nat) : be (BitVec.ofNat 32 n) 4 = [((BitVec.ofInt 32 (n : Int)) >>> 24).setWidth 8, ((BitVec.ofInt 32 (n : Int)) >>> 16).setWidth 8, ((BitVec.ofInt 32 (n : Int)) >>> 8).setWidth 8, (BitVec.ofInt 32 (n : Int)).setWidth 8] := by
 have e : BitVec.ofInt 32 (n : Int) = BitVec.ofNat 32 n := by
  apply BitVec.eq_of_toNat_eq; simp
 rw [e]
 simp [be, List.range_succ]
theorem QdH : ∀ (parts : List (List (BitVec 8))), 4 * parts.length ≤ VH parts
 | [] => by simp
 | q :: r => by
  have e : VH (q :: r) = 4 + q.length + VH r := by simp [VH]
  have := QdH r
  rw [e, List.length_cons]; omega
theorem Qkf (tag : BitVec 8) (parts : List (List (BitVec 8))) (hs : VH parts ≤ 4000000000) : WN tag parts = some (Qky tag parts) := by
 have hpl := QdH parts
 unfold WN
 have h1 := JB (f := fun (s : Int × Int) => V1 parts s.1 s.2) (fun i (_ : Unit) => ((1 + VH (parts.take i) : Nat), (i : Int))) (fun _ s => s) 0 parts.length (fun i s h1 h2 => by
   simp only [V1]
   have h3 := Qc3 parts i h2
   have h4 := QeO parts (i + 1)
   rw [QQ (by simp; omega), Qc (Ju rfl h2), Jk (n := 4 + (parts[i].length : Int)) (by omega), Jk (by omega), Option.bind_some, Jk (n := (i : Int) + 1) (by omega), h3]
   have : ((1 + VH (parts.take i) : Nat) : Int) + (4 + (parts[i].length : Int)) = ((1 + (VH (parts.take i) + (4 + parts[i].length)) : Nat) : Int) := by omega
   rw [this]; rfl) (fun s => by
   simp only [V1]
   rw [QV (by simp)]) FU () (by omega) (J7 (by omega))
 have e0 : (((1 : Int), (0 : Int)) : Int × Int) = (((1 + VH (parts.take 0) : Nat) : Int), ((0 : Nat) : Int)) := by simp [VH]
 rw [e0, Qc h1, List.take_length]
 rw [QQ ⟨by omega, by omega⟩, QQ (by simp [AP])]
 have h2 := JB (f := fun (s : Int × (List (BitVec 8))) => V0 parts s.1 s.2) (fun i (_ : Unit) => ((i : Int), tag :: body (parts.take i))) (fun _ s => s) 0 parts.length (fun i s h1 h2 => by
   simp only [V0]
   have h3 := Qc3 parts i h2
   have h4 := QeO parts (i + 1)
   have h5 := QeF (parts.take i)
   rw [QQ (by simp; omega), Qc (Ju rfl h2), QQ (by simp [AP]; omega), QQ (by simp [AP]; omega), Jk (n := (i : Int) + 1) (by omega), ← be4, QhO parts i h2]
   rfl) (fun s => by
   simp only [V0]
   rw [QV (by simp)]) FU () (by omega) (J7 (by omega))
 have e1 : (((0 : Int), ([] : List (BitVec 8)) ++ [tag]) : Int × List (BitVec 8)) = (((0 : Nat) : Int), tag :: body (parts.take 0)) := by simp [body]
 rw [e1, Qc h2, List.take_length]
 rfl
def qS (tag : BitVec 8) (parts : List (List (BitVec 8))) : Vector (BitVec 8) 32 := sha (Qky tag parts)
theorem QiG (tag : BitVec 8) (parts : List (List (BitVec 8))) : (Qky tag parts).length = VH parts + 1 := by
 unfold Qky; rw [List.length_cons, QeF]
theorem qc (tag : BitVec 8) (parts : List (List (BitVec 8))) (hs : VH parts ≤ 3000000000) : KA tag parts = some (qS tag parts) := by
 unfold KA
 rw [Qc (Qkf tag parts (by omega)), Qc (Qcs _ (by rw [QiG]; omega))]
 rfl
end Pu
end Go.Sl
namespace Go.Sl
section
variable {σ τ α : Type}
def Vd (y : σ → α → Option σ) : σ → List α → Option σ
 | s, [] => some s
 | s, x :: xs => Option.bind (y s x) fun s' => Vd y s' xs
theorem Qat (y : σ → α → Option σ) : ∀ (a b : List α) (s : σ), Vd y s (a ++ b) = Option.bind (Vd y s a) fun s' => Vd y s' b
 | [], b, s => rfl
 | x :: a, b, s => by
  rw [List.cons_append, Vd, Vd]
  cases y s x with
  | none => rfl
  | some s' => simp only [Option.bind_some]; exact Qat y a b s'
theorem QgD {f : τ → Option (LR τ Empty)} {n : Nat} {s : τ} (h : f s = none) : Q5 f (n + 1) s = none := by
 unfold Q5 Z2; rw [h]
theorem QbE {f : τ → Option (LR τ Empty)} (l : List α) (en : Nat → σ → τ) (y : σ → α → Option σ)
  (h : ∀ i s (hi : i < l.length), f (en i s) = Option.bind (y s l[i]) fun s' => some (.next (en (i + 1) s')))
  (he : ∀ s, f (en l.length s) = some (.brk (en l.length s))) (hn : l.length ≤ 9000000000) (s : σ) :
  Q5 f FU (en 0 s) = Option.bind (Vd y s l) fun s' => some (en l.length s') := by
 have key : ∀ (d i n : Nat) (s : σ), i + d = l.length → d < n → Q5 f n (en i s) = Option.bind (Vd y s (l.drop i)) fun s' => some (en l.length s') := by
  intro d
  induction d with
  | zero =>
   intro i n s hd hn
   obtain ⟨n, rfl⟩ : ∃ k, n = k + 1 := ⟨n - 1, by omega⟩
   have : i = l.length := by omega
   subst this
   rw [Xj (he s), List.drop_length]; rfl
  | succ d ih =>
   intro i n s hd hn
   obtain ⟨n, rfl⟩ : ∃ k, n = k + 1 := ⟨n - 1, by omega⟩
   have hl : i < l.length := by omega
   have h1 := h i s hl
   rw [List.drop_eq_getElem_cons hl, Vd]
   cases hy : y s l[i] with
   | none => rw [hy] at h1; rw [QgD h1]; rfl
   | some s' =>
    rw [hy, Option.bind_some] at h1
    rw [YK h1, Option.bind_some]
    exact ih (i + 1) n s' (by omega) (by omega)
 have := key l.length 0 FU s (by omega) (J7 hn)
 simpa using this
theorem qC {β : Type} (y : σ → α → Option σ) (g : β → List α) : ∀ (b : List β) (s : σ), Vd (fun s c => Vd y s (g c)) s b = Vd y s (b.flatMap g)
 | [], s => rfl
 | c :: b, s => by
  rw [List.flatMap_cons, Qat, Vd]
  congr 1; funext s'
  exact qC y g b s'
end
theorem QaA (a k : Nat) (hk : k ≤ 64) : UY (a : Int) (k : Int) = ((a / 2 ^ k : Nat) : Int) := by
 unfold UY
 rw [Int.toNat_natCast, Nat.min_eq_left hk]
 have : ((2 : Int) ^ k) = ((2 ^ k : Nat) : Int) := by simp
 rw [this, Int.fdiv_eq_ediv_of_nonneg _ (Int.natCast_nonneg _)]; simp
theorem Qfk (a k : Nat) (hk : k ≤ 64) (h : a * 2 ^ k < 9223372036854775808) : Xq (a : Int) (k : Int) = ((a * 2 ^ k : Nat) : Int) := by
 unfold Xq
 rw [Int.toNat_natCast, Nat.min_eq_left hk]
 have : ((2 : Int) ^ k) = ((2 ^ k : Nat) : Int) := by simp
 rw [this, ← Int.natCast_mul, qm h]
theorem Qdu (a k : Nat) (hk : k ≤ 32) (ha : a < 9223372036854775808) : QfG (a : Int) ((2 ^ k - 1 : Nat) : Int) = ((a % 2 ^ k : Nat) : Int) := by
 unfold QfG
 have e : ∀ n : Nat, BitVec.ofInt 64 (n : Int) = BitVec.ofNat 64 n := fun n => by apply BitVec.eq_of_toNat_eq; simp
 have h2 : 2 ^ k ≤ 2 ^ 32 := Nat.pow_le_pow_right (by decide) hk
 have h3 : (2 : Nat) ^ 32 = 4294967296 := by decide
 have h4 : (2 : Nat) ^ 64 = 18446744073709551616 := by decide
 rw [e, e, BitVec.toNat_and, BitVec.toNat_ofNat, BitVec.toNat_ofNat, h4, Nat.mod_eq_of_lt (by omega), Nat.mod_eq_of_lt (by omega), Nat.and_two_pow_sub_one_eq_mod]
 have := Nat.mod_lt a (Nat.two_pow_pos k)
 exact qm (by omega)
namespace Pu
open Go.Sl Go.Sl.M
def ZA : Nat → Nat
 | 1 => 1 | 2 => 2 | 3 => 4 | 4 => 8 | _ => 0
def Js : Nat → Nat
 | 1 => 265 | 2 => 133 | 3 => 67 | 4 => 34 | _ => 0
def W6 : Nat → Nat
 | 1 => 7 | 2 => 6 | 3 => 4 | _ => 0
def JU (k : Nat) : Prop := k = 1 ∨ k = 2 ∨ k = 3 ∨ k = 4
instance (k : Nat) : Decidable (JU k) := by unfold JU; infer_instance
abbrev frm (k : Nat) : Jy := ((ZA k : Int), (Js k : Int), (W6 k : Int))
theorem Qg5 {k : Nat} (hk : JU k) : Kf (k : Int) = some (frm k, true) := by
 rcases hk with rfl | rfl | rfl | rfl <;> rfl
theorem QkD {k : Int} (hk : ¬ (1 ≤ k ∧ k ≤ 4)) : Kf k = some ((0, 0, 0), false) := by
 unfold Kf
 by_cases h : k < 1
 ·rw [QQ (by simpa using h), Option.bind_some, QQ rfl]
 ·rw [QV (by simpa using h), Option.bind_some, QQ (by simp; omega)]
theorem QbW {k : Nat} (hk : JU k) : Yd (frm k) = some ((2 ^ ZA k - 1 : Nat) : Int) := by
 rcases hk with rfl | rfl | rfl | rfl <;> rfl
theorem qN {k : Nat} (hk : JU k) : ZA k = 1 ∨ ZA k = 2 ∨ ZA k = 4 ∨ ZA k = 8 := by
 rcases hk with rfl | rfl | rfl | rfl <;> simp [ZA]
def dg (bits c j : Nat) : Nat := c / 2 ^ (8 - bits * (j + 1)) % 2 ^ bits
def dgs (bits : Nat) (c : BitVec 8) : List Int := (List.range (8 / bits)).map fun j => (dg bits c.toNat j : Int)
def QcI (bits : Nat) (b : List (BitVec 8)) : List Int := b.flatMap (dgs bits)
theorem qb (bits : Nat) (c : BitVec 8) : (dgs bits c).length = 8 / bits := by simp [dgs]
theorem Qak (bits : Nat) : ∀ (b : List (BitVec 8)), (QcI bits b).length = b.length * (8 / bits)
 | [] => by simp [QcI]
 | c :: b => by
  show (dgs bits c ++ QcI bits b).length = _
  rw [List.length_append, qb, Qak bits b, List.length_cons, Nat.add_mul]; omega
theorem Qlu (bits c j : Nat) : dg bits c j < 2 ^ bits := Nat.mod_lt _ (Nat.two_pow_pos _)
theorem QeJ {bits : Nat} {b : List (BitVec 8)} {d : Int} (h : d ∈ QcI bits b) : 0 ≤ d ∧ d < (2 ^ bits : Nat) := by
 obtain ⟨c, _, hc⟩ := List.mem_flatMap.1 h
 obtain ⟨j, _, rfl⟩ := List.mem_map.1 hc
 have := Qlu bits c.toNat j
 omega
theorem Qk7 {Sy : Type} {k : Nat} (hk : JU k) (yl : Sy → Int → Option Sy) (c : BitVec 8) (s : Sy) :
  Q5 (fun (s : Int × Sy) => Yu (frm k) yl c s.1 s.2) FU (w64 ((8 : Int) - (frm k).1), s) = Option.bind (Vd yl s (dgs (ZA k) c)) fun s' => some ((8 : Int) - (ZA k : Int) * ((8 / ZA k : Nat) + 1 : Int), s') := by
 have hb := qN hk
 have h := QbE (f := fun (s : Int × Sy) => Yu (frm k) yl c s.1 s.2) (dgs (ZA k) c) (fun i s => ((8 : Int) - (ZA k : Int) * ((i : Int) + 1), s)) yl (fun i s hi => by
  rw [qb] at hi
  have hle : ZA k * (i + 1) ≤ 8 := by
   rcases hb with h | h | h | h <;> rw [h] at hi ⊢ <;> omega
  have e1 : (8 : Int) - (ZA k : Int) * ((i : Int) + 1) = ((8 - ZA k * (i + 1) : Nat) : Int) := by
   have : ((ZA k * (i + 1) : Nat) : Int) = (ZA k : Int) * ((i : Int) + 1) := by simp
   omega
  simp only [Yu]
  have hc := c.isLt
  rw [e1, QQ (by simp), QQ (by omega), Qc (QbW hk), QaA _ _ (by omega), Qdu _ _ (by omega) (Nat.lt_of_le_of_lt (Nat.div_le_self _ _) (by omega))]
  have e2 : (dgs (ZA k) c)[i]'(by rw [qb]; exact hi) = ((c.toNat / 2 ^ (8 - ZA k * (i + 1)) % 2 ^ ZA k : Nat) : Int) := by simp [dgs, dg]
  rw [e2]
  congr 1; funext s'
  have e3 : w64 (((8 - ZA k * (i + 1) : Nat) : Int) - (frm k).1) = (8 : Int) - (ZA k : Int) * (((i + 1 : Nat) : Int) + 1) := by
   rw [Jm (by show _ ≤ _ - ((ZA k : Nat) : Int); omega) (by show _ - ((ZA k : Nat) : Int) < _; omega)]
   show _ - ((ZA k : Nat) : Int) = _
   rw [← e1]
   rcases hb with h | h | h | h <;> rw [h] <;> omega
  rw [e3]) (fun s => by
  simp only [Yu, qb]
  rw [QV (by simp; rcases hb with h | h | h | h <;> rw [h] <;> omega)]) (by rw [qb]; rcases hb with h | h | h | h <;> rw [h] <;> omega) s
 have e0 : w64 ((8 : Int) - (frm k).1) = (8 : Int) - (ZA k : Int) * (((0 : Nat) : Int) + 1) := by
  show w64 ((8 : Int) - (ZA k : Int)) = _
  rcases hb with h | h | h | h <;> rw [h] <;> decide
 rw [e0]
 rw [qb] at h
 exact h
theorem Qi4 {Sy : Type} {k : Nat} (hk : JU k) (b : List (BitVec 8)) (hb : b.length ≤ 4000000000) (yl : Sy → Int → Option Sy) (s : Sy) : X1 (frm k) b yl s = Vd yl s (QcI (ZA k) b) := by
 unfold X1
 have h := QbE (f := fun (s : Int × Sy) => Yz b (frm k) yl s.1 s.2) b (fun i s => ((i : Int), s)) (fun s c => Vd yl s (dgs (ZA k) c)) (fun i s hi => by
  simp only [Yz]
  rw [QQ (by simp; omega), Qc (Ju rfl hi), Qk7 hk]
  cases Vd yl s (dgs (ZA k) b[i]) with
  | none => rfl
  | some s' =>
   simp only [Option.bind_some]
   rw [Jk (n := (i : Int) + 1) (by omega)]; rfl) (fun s => by
  simp only [Yz]
  rw [QV (by simp)]) (by omega) s
 have h' : Q5 (fun (s : Int × Sy) => Yz b (frm k) yl s.1 s.2) FU ((0 : Int), s) = _ := h
 rw [h', qC]
 unfold QcI
 cases Vd yl s (b.flatMap (dgs (ZA k))) <;> rfl
def Qf4 (bits : Nat) (b : List (BitVec 8)) : Nat := ((QcI bits b).map fun d => (2 ^ bits - 1 : Nat) - d.toNat).sum
theorem QjT (bits : Nat) (b : List (BitVec 8)) : Qf4 bits b ≤ b.length * (8 / bits) * (2 ^ bits - 1) := by
 unfold Qf4
 have key : ∀ l : List Int, (l.map fun d => (2 ^ bits - 1 : Nat) - d.toNat).sum ≤ l.length * (2 ^ bits - 1) := by
  intro l
  induction l with
  | nil => simp
  | cons d l ih => simp only [List.map_cons, List.sum_cons, List.length_cons, Nat.add_mul]; omega
 have := key (QcI bits b)
 rwa [Qak] at this
theorem QeD {k : Nat} (hk : JU k) : ∀ (l : List Int) (s : Nat), (∀ d ∈ l, 0 ≤ d ∧ d < (2 ^ ZA k : Nat)) → s + l.length * 255 < 4000000000 →
  Vd (fun (s : Int) (d : Int) => Z3 (frm k) s d) (s : Int) l = some ((s + (l.map fun d => (2 ^ ZA k - 1 : Nat) - d.toNat).sum : Nat) : Int)
 | [], s, _, _ => by simp [Vd]
 | d :: l, s, hd, hs => by
  have hb : 2 ^ ZA k ≤ 256 := by rcases qN hk with h | h | h | h <;> rw [h] <;> decide
  have h1 := hd d (by simp)
  rw [List.length_cons, Nat.add_mul] at hs
  rw [Vd]
  have e : Z3 (frm k) (s : Int) d = some ((s + ((2 ^ ZA k - 1 : Nat) - d.toNat) : Nat) : Int) := by
   unfold Z3
   rw [Qc (QbW hk), Jm (n := ((2 ^ ZA k - 1 : Nat) : Int) - d) (by omega) (by omega), Jm (by omega) (by omega)]
   congr 1; omega
  rw [e, Option.bind_some, QeD hk l _ (fun d hd' => hd d (by simp [hd'])) (by omega)]
  congr 1
  simp only [List.map_cons, List.sum_cons]; omega
def csb (k : Nat) (h : List (BitVec 8)) : List (BitVec 8) := [BitVec.ofNat 8 (Qf4 (ZA k) h * 2 ^ W6 k / 256), BitVec.ofNat 8 (Qf4 (ZA k) h * 2 ^ W6 k)]
theorem Qh2 {k : Nat} (hk : JU k) (h : Qa) : Qf4 (ZA k) h.toList * 2 ^ W6 k < 65536 := by
 have := QjT (ZA k) h.toList
 rw [Vector.length_toList] at this
 rcases hk with rfl | rfl | rfl | rfl <;> simp [ZA, W6] at this ⊢ <;> omega
theorem Qi9 {k : Nat} (hk : JU k) : W6 k ≤ 7 := by rcases hk with rfl | rfl | rfl | rfl <;> simp [W6]
theorem Qku {k : Nat} (hk : JU k) (h : Qa) : VS (frm k) h = some (csb k h.toList) := by
 unfold VS V3
 have h1 := QeD hk (QcI (ZA k) h.toList) 0 (fun d hd => QeJ hd) (by rw [Qak, Vector.length_toList]; rcases qN hk with h | h | h | h <;> rw [h] <;> omega)
 rw [Qi4 hk _ (by simp)]
 have h1' : Vd (fun (s : Int) (d : Int) => Z3 (frm k) s d) (0 : Int) (QcI (ZA k) h.toList) = some ((Qf4 (ZA k) h.toList : Nat) : Int) := by
  have e : ((0 : Nat) : Int) = 0 := rfl
  rw [e] at h1
  rw [h1]; unfold Qf4; congr 2; omega
 rw [h1', Option.bind_some, Option.bind_some]
 have hs := Qh2 hk h
 have hsh := Qi9 hk
 rw [QQ (show (0 : Int) ≤ (frm k).2.2 from Int.natCast_nonneg _)]
 show some [BitVec.ofInt 8 (UY (Xq _ (W6 k : Int)) 8), BitVec.ofInt 8 (Xq _ (W6 k : Int))] = _
 rw [Qfk _ _ (by omega) (by omega)]
 have e8 : ((8 : Int)) = ((8 : Nat) : Int) := rfl
 rw [e8, QaA _ 8 (by omega)]
 have e : ∀ n : Nat, BitVec.ofInt 8 (n : Int) = BitVec.ofNat 8 n := fun n => by apply BitVec.eq_of_toNat_eq; simp
 rw [e, e]
 rfl
def UE (k : Nat) (h : Qa) : List Int := (QcI (ZA k) (h.toList ++ csb k h.toList)).take (Js k)
theorem Qd6 (k : Nat) (h : List (BitVec 8)) : (csb k h).length = 2 := rfl
theorem Qia {k : Nat} (hk : JU k) : Js k ≤ 34 * (8 / ZA k) := by rcases hk with rfl | rfl | rfl | rfl <;> simp [Js, ZA]
theorem Qcw {k : Nat} (hk : JU k) (h : Qa) : (UE k h).length = Js k := by
 unfold UE
 rw [List.length_take, Qak, List.length_append, Qd6, Vector.length_toList]
 exact Nat.min_eq_left (Qia hk)
theorem Qja {k : Nat} {h : Qa} {d : Int} (hd : d ∈ UE k h) : 0 ≤ d ∧ d < (2 ^ ZA k : Nat) := QeJ (List.mem_of_mem_take hd)
theorem Qcj {k : Nat} (hk : JU k) : ∀ (l acc : List Int), acc.length ≤ Js k → Vd (fun (s : List Int) (d : Int) => J9 (frm k) s d) acc l = some (acc ++ l.take (Js k - acc.length))
 | [], acc, _ => by simp [Vd]
 | d :: l, acc, ha => by
  rw [Vd]
  unfold J9
  have hc : Js k ≤ 265 := by rcases hk with rfl | rfl | rfl | rfl <;> simp [Js]
  by_cases h : acc.length < Js k
  ·rw [QQ (show decide ((acc.length : Int) < (Js k : Int)) = true by simpa using h), QQ (by simp [AP]; omega), Option.bind_some]
   have := Qcj hk l (acc ++ [d]) (by simp; omega)
   have h2 : Vd (fun (s : List Int) (d : Int) => J9 (frm k) s d) (acc ++ [d]) l = _ := this
   unfold J9 at h2
   rw [h2]
   have e : Js k - acc.length = (Js k - (acc ++ [d]).length) + 1 := by simp; omega
   rw [e, List.take_succ_cons, List.append_assoc]; rfl
  ·rw [QV (show ¬ decide ((acc.length : Int) < (Js k : Int)) = true by simpa using h), Option.bind_some]
   have := Qcj hk l acc ha
   unfold J9 at this
   rw [this]
   have e : Js k - acc.length = 0 := by omega
   simp [e]
theorem QcN {k : Nat} (hk : JU k) (h : Qa) : Y2 (frm k) h = some (UE k h) := by
 unfold Y2 XY
 have hc : Js k ≤ 265 := by rcases hk with rfl | rfl | rfl | rfl <;> simp [Js]
 rw [QQ (show 0 ≤ (Js k : Int) ∧ (Js k : Int) ≤ 4294967296 by omega), Qc (Qku hk h), QQ (by rw [Qd6]; simp [AP]), Qi4 hk _ (by simp [Qd6]), Qcj hk _ _ (by simp)]
 rfl
theorem QhU {k : Nat} (hk : JU k) : Vi (k : Int) = some (Js k : Int) := by
 unfold Vi; rw [Qc (Qg5 hk)]
theorem Qe9 {k : Int} (hk : ¬ (1 ≤ k ∧ k ≤ 4)) : Vi k = some 0 := by
 unfold Vi; rw [Qc (QkD hk)]
def JN (k : Nat) : Nat := 36 + 32 * Js k
theorem QdL {k : Nat} (hk : JU k) : Ud (k : Int) = some (JN k : Int) := by
 rcases hk with rfl | rfl | rfl | rfl <;> rfl
theorem be2 {w : Nat} (x : BitVec w) : be x 2 = [(x >>> 8).setWidth 8, x.setWidth 8] := by simp [be, List.range_succ]
end Pu
end Go.Sl
namespace Go.Sl.Pu
open Go.Sl Go.Sl.M
theorem QlG (x : BitVec 64) (k : Nat) (hk : k ≤ 8) (b : List (BitVec 8)) (hb : b.length ≤ 4000000000) :
  ∃ y, Q5 (fun (s : Int × (List (BitVec 8))) => ZB x s.1 s.2) FU ((k : Int) - 1, b) = some (y, b ++ be x k) := by
 have h := JB (f := fun (s : Int × (List (BitVec 8))) => ZB x s.1 s.2) (fun i (_ : Unit) => ((k : Int) - 1 - (i : Int), b ++ (be x k).take i)) (fun _ s => s) 0 k (fun i s h1 h2 => by
  simp only [ZB]
  have e1 : (k : Int) - 1 - (i : Int) = ((k - 1 - i : Nat) : Int) := by omega
  rw [e1, QQ (by simp), Jm (n := 8 * ((k - 1 - i : Nat) : Int)) (by omega) (by omega), QQ (by omega), QQ (by simp [AP, JG]; omega), Jm (by omega) (by omega)]
  have e2 : (8 * ((k - 1 - i : Nat) : Int)).toNat = 8 * (k - 1 - i) := by omega
  have e3 : (be x k).take (i + 1) = (be x k).take i ++ [(x >>> (8 * (k - 1 - i))).setWidth 8] := by
   rw [List.take_succ_eq_append_getElem (by rw [JG]; exact h2)]
   simp [be]
  have e5 : ((k - 1 - i : Nat) : Int) - 1 = (k : Int) - 1 - ((i + 1 : Nat) : Int) := by omega
  rw [e2, e3, ← List.append_assoc, e5]) (fun s => by
  simp only [ZB]
  rw [QV (by simp; omega)]) FU () (by omega) (J7 (by omega))
 refine ⟨(k : Int) - 1 - (k : Int), ?_⟩
 have e : (be x k).take k = be x k := List.take_of_length_le (by rw [JG]; exact Nat.le_refl _)
 simpa [e] using h
theorem Qcc (b : List (BitVec 8)) (hb : b.length ≤ 4000000000) (x : BitVec 64) (k : Nat) (hk : k ≤ 8) : ZM (b, false) x (k : Int) = some (b ++ be x k, false) := by
 unfold ZM
 obtain ⟨y, hy⟩ := QlG x k hk b hb
 rw [Option.bind_some, QV (by simp), Jm (by omega) (by omega), Qc hy]
theorem Qbx {w : Nat} (x : BitVec w) (k : Nat) (hk : 8 * k ≤ w) (hw : w ≤ 64) : be (x.setWidth 64) k = be x k := by
 simp only [be]
 apply List.map_congr_left
 intro j hj
 apply BitVec.eq_of_getLsbD_eq
 intro i hi
 simp only [BitVec.getLsbD_setWidth, BitVec.getLsbD_ushiftRight, hi, decide_true, Bool.true_and]
 have := List.mem_range.1 hj
 have h64 : 8 * (k - 1 - j) + i < 64 := by omega
 simp [h64]
theorem Ws (b : List (BitVec 8)) (hb : b.length ≤ 4000000000) (x : BitVec 32) : Zg (b, false) x = some (b ++ be x 4, false) := by
 unfold Zg
 have h := Qcc b hb (x.setWidth 64) 4 (by omega)
 have h' : ZM (b, false) (x.setWidth 64) (4 : Int) = _ := h
 rw [Qc h', Qbx x 4 (by omega) (by omega)]
theorem Vy (b c : List (BitVec 8)) (h : b.length + c.length ≤ 4000000000) : JI (b, false) c = some (b ++ c, false) := by
 unfold JI
 rw [Option.bind_some, QQ (by simp), QQ (by simp [AP]; omega)]
theorem Qft (b : List (BitVec 8)) (h : b.length ≤ 4000000000) : Jq b = some b := by
 unfold Jq
 rw [QQ (by simp [AP]; omega)]; rfl
theorem QaN (b : List (BitVec 8)) (h : b.length ≤ 4000000000) : Yc (b, false) = some ((b, false), b, 0) := by
 unfold Yc
 rw [QV (by simp), Qc (Qft b h)]
theorem qh (b : List (BitVec 8)) (h : b.length ≤ 4000000000) : Kg b = some (b, false) := by
 unfold Kg
 rw [Qc (Qft b h), Option.bind_some]
theorem Qfr (b : List (BitVec 8)) (n : Nat) (h : n ≤ b.length) : Zn (b, false) (n : Int) = some ((b.drop n, false), b.take n) := by
 unfold Zn
 rw [Option.bind_some, QV (by simp), QV (by simp), Option.bind_some, QV (by simp; omega), Qc (Z9 (lo := 0) (a := 0) (b := n) rfl rfl (by omega) h), Qc (Z9 (lo := (n : Int)) (hi := (b.length : Int)) (a := n) (b := b.length) rfl rfl h (Nat.le_refl _))]
 simp
theorem QbD (b : List (BitVec 8)) (n : Int) (h : n < 0 ∨ (b.length : Int) < n) : Zn (b, false) n = some ((b, true), []) := by
 unfold Zn
 rw [Option.bind_some, QV (by simp)]
 by_cases hn : n < 0
 ·rw [QQ (by simpa using hn), Option.bind_some, QQ rfl]
 ·rw [QV (by simpa using hn), Option.bind_some, QQ (by simp; omega)]
theorem QdW (b : List (BitVec 8)) (n : Int) : Zn (b, true) n = some ((b, true), []) := by
 unfold Zn
 rw [Option.bind_some, QQ rfl]
theorem Qkj (b : List (BitVec 8)) (hb : b.length ≤ 100) : Q5 (fun (s : (BitVec 64) × Int) => Z0 b s.1 s.2) FU (0#64, (0 : Int)) = some (val b, (b.length : Int)) := by
 have h := JB (f := fun (s : (BitVec 64) × Int) => Z0 b s.1 s.2) (fun i (_ : Unit) => (val (b.take i), (i : Int))) (fun _ s => s) 0 b.length (fun i s h1 h2 => by
  simp only [Z0]
  rw [QQ (by simp; omega), Qc (Ju rfl h2), Jk (n := (i : Int) + 1) (by omega)]
  have e : val (b.take (i + 1)) = (val (b.take i) <<< 8) ||| (b[i]).setWidth 64 := by
   rw [List.take_succ_eq_append_getElem h2]
   unfold val
   rw [List.foldl_append]
   simp only [List.foldl_cons, List.foldl_nil]
   generalize List.foldl (fun x c => x * 256#64 + BitVec.setWidth 64 c) 0#64 (List.take i b) = X
   generalize b[i] = c
   have hmul : X * 256#64 = X <<< 8 := by
    apply BitVec.eq_of_toNat_eq
    simp [BitVec.toNat_mul, BitVec.toNat_shiftLeft, Nat.shiftLeft_eq]
   rw [hmul]
   apply BitVec.eq_of_toNat_eq
   have hc := c.isLt
   rw [BitVec.toNat_add, BitVec.toNat_or, BitVec.toNat_shiftLeft, BitVec.toNat_setWidth]
   have h1 : c.toNat % 2 ^ 64 = c.toNat := Nat.mod_eq_of_lt (by omega)
   rw [h1]
   have h2 : (X.toNat <<< 8 % 2 ^ 64) = 2 ^ 8 * (X.toNat % 2 ^ 56) := by rw [Nat.shiftLeft_eq]; omega
   rw [h2, Nat.two_pow_add_eq_or_of_lt (by omega)]
   have hx : X.toNat % 2 ^ 56 < 2 ^ 56 := Nat.mod_lt _ (by decide)
   rw [← Nat.two_pow_add_eq_or_of_lt (by omega)]
   omega
  rw [e]; rfl) (fun s => by
  simp only [Z0]
  rw [QV (by simp)]) FU () (by omega) (J7 (by omega))
 simpa [val] using h
theorem Qkh (b : List (BitVec 8)) (k : Nat) (hk : k ≤ 8) (h : k ≤ b.length) : YR (b, false) (k : Int) = some (val (b.take k), true) := by
 unfold YR
 rw [Option.bind_some, QV (by simp), Option.bind_some, QV (by simp; omega), Qc (Z9 (lo := 0) (a := 0) (b := k) rfl rfl (by omega) h), List.drop_zero, Qc (Qkj (b.take k) (by simp; omega))]
theorem Qf1 (b : List (BitVec 8)) (k : Int) (h : (b.length : Int) < k) : YR (b, false) k = some (0#64, false) := by
 unfold YR
 rw [Option.bind_some, QV (by simp), Option.bind_some, QQ (by simp; omega)]
theorem Qgn (b : List (BitVec 8)) (k : Nat) (hk : k ≤ 8) (h : k ≤ b.length) : ZL (b, false) (k : Int) = some ((b.drop k, false), val (b.take k)) := by
 unfold ZL
 rw [Qc (Qkh b k hk h), Qc (Qfr b k h), QV (by simp)]
theorem Qdc (b : List (BitVec 8)) (k : Int) (h : (b.length : Int) < k) : ZL (b, false) k = some ((b, true), 0#64) := by
 unfold ZL
 rw [Qc (Qf1 b k h), Qc (QbD b k (.inr h)), QQ (by simp)]
theorem QgP (b : List (BitVec 8)) (h : 4 ≤ b.length) : Jb (b, false) = some ((b.drop 4, false), (val (b.take 4)).setWidth 32) := by
 unfold Jb
 have h' : ZL (b, false) (4 : Int) = _ := Qgn b 4 (by omega) h
 rw [Qc h']
theorem QfJ (b : List (BitVec 8)) (h : b.length < 4) : Jb (b, false) = some ((b, true), 0#32) := by
 unfold Jb
 rw [Qc (Qdc b 4 (by omega))]; rfl
theorem QaU (b : List (BitVec 8)) (n : Nat) (h : n ≤ b.length) : QR (b, false) (n : Int) = some ((b.drop n, false), b.take n) := by
 unfold QR
 rw [Qc (Qfr b n h)]
theorem Bm (b : List (BitVec 8)) (n : Int) (h : n < 0 ∨ (b.length : Int) < n) : QR (b, false) n = some ((b, true), []) := by
 unfold QR
 rw [Qc (QbD b n h)]
theorem Uj (b : List (BitVec 8)) (n : Int) : QR (b, true) n = some ((b, true), []) := by
 unfold QR
 rw [Qc (QdW b n)]
theorem Qjm (b : List (BitVec 8)) (k : Nat) (hk : b.length ≤ k) (h8 : k ≤ 7) : (val b).toNat < 2 ^ (8 * k) := by
 have key : ∀ (b : List (BitVec 8)) (x : BitVec 64) (n : Nat), x.toNat < 2 ^ (8 * n) → n + b.length ≤ 7 → (b.foldl (fun x c => x * 256#64 + c.setWidth 64) x).toNat < 2 ^ (8 * (n + b.length)) := by
  intro b
  induction b with
  | nil => intro x n h _; simpa using h
  | cons c b ih =>
   intro x n h hn
   rw [List.foldl_cons, List.length_cons]
   simp only [List.length_cons] at hn
   have hx : (x * 256#64 + c.setWidth 64).toNat < 2 ^ (8 * (n + 1)) := by
    have hc := c.isLt
    have e : 2 ^ (8 * (n + 1)) = 256 * 2 ^ (8 * n) := by rw [Nat.mul_add, Nat.pow_add, Nat.mul_comm]
    have hp : 2 ^ (8 * (n + 1)) ≤ 2 ^ 56 := Nat.pow_le_pow_right (by decide) (by omega)
    have h56 : (2 : Nat) ^ 56 = 72057594037927936 := by decide
    rw [h56] at hp
    have h3 : (x * 256#64 + c.setWidth 64).toNat = x.toNat * 256 + c.toNat := by
     rw [BitVec.toNat_add, BitVec.toNat_mul, BitVec.toNat_setWidth]
     have h64 : (2 : Nat) ^ 64 = 18446744073709551616 := by decide
     rw [h64]
     have h2 : (256#64).toNat = 256 := rfl
     rw [h2]
     generalize 2 ^ (8 * n) = z at *
     generalize 2 ^ (8 * (n + 1)) = z2 at *
     omega
    rw [h3]
    generalize 2 ^ (8 * n) = z at *
    generalize 2 ^ (8 * (n + 1)) = z2 at *
    omega
   have := ih _ (n + 1) hx (by omega)
   rw [show n + (b.length + 1) = n + 1 + b.length by omega]
   exact this
 have := key b 0#64 0 (by simp) (by omega)
 rw [Nat.zero_add] at this
 exact Nat.lt_of_lt_of_le this (Nat.pow_le_pow_right (by decide) (by omega))
theorem QfE (x : BitVec 32) : val (be x 4) = x.setWidth 64 := by
 have e : be x 4 = [(x >>> 24).setWidth 8, (x >>> 16).setWidth 8, (x >>> 8).setWidth 8, x.setWidth 8] := by simp [be, List.range_succ]
 rw [e]
 apply BitVec.eq_of_toNat_eq
 have hx := x.isLt
 simp only [val, List.foldl_cons, List.foldl_nil, BitVec.toNat_add, BitVec.toNat_mul, BitVec.toNat_setWidth, BitVec.toNat_ushiftRight, BitVec.toNat_ofNat, Nat.shiftRight_eq_div_pow]
 omega
end Go.Sl.Pu
namespace Go.Sl.Pu
open Go.Sl Go.Sl.M
def und (id : QO) (q : BitVec 32) (i : Nat) (b : List (BitVec 8)) : Qa := sha (((id.toList ++ be q 4) ++ be (BitVec.ofNat 16 i) 2) ++ b)
theorem Qlv (i : Nat) : be (BitVec.ofNat 16 i) 2 = [BitVec.ofNat 8 (i / 256), BitVec.ofNat 8 i] := by
 rw [be2]
 have a1 : ((BitVec.ofNat 16 i) >>> 8).setWidth 8 = BitVec.ofNat 8 (i / 256) := by apply BitVec.eq_of_toNat_eq; simp [Nat.shiftRight_eq_div_pow]; omega
 have a2 : (BitVec.ofNat 16 i).setWidth 8 = BitVec.ofNat 8 i := by apply BitVec.eq_of_toNat_eq; simp
 rw [a1, a2]
theorem Qj2 (i : Nat) : be (BitVec.ofNat 64 i) 2 = be (BitVec.ofNat 16 i) 2 := by
 rw [be2, Qlv]
 have a1 : ((BitVec.ofNat 64 i) >>> 8).setWidth 8 = BitVec.ofNat 8 (i / 256) := by apply BitVec.eq_of_toNat_eq; simp [Nat.shiftRight_eq_div_pow]; omega
 have a2 : (BitVec.ofNat 64 i).setWidth 8 = BitVec.ofNat 8 i := by apply BitVec.eq_of_toNat_eq; simp
 rw [a1, a2]
theorem QlP (q : BitVec 32) : be q 4 = [(q >>> 24).setWidth 8, (q >>> 16).setWidth 8, (q >>> 8).setWidth 8, q.setWidth 8] := by simp [be, List.range_succ]
theorem QjW (n : Nat) : BitVec.ofInt 64 (n : Int) = BitVec.ofNat 64 n := by apply BitVec.eq_of_toNat_eq; simp
theorem QfR (n : Nat) : BitVec.ofInt 8 (n : Int) = BitVec.ofNat 8 n := by apply BitVec.eq_of_toNat_eq; simp
theorem Up (n : Nat) : BitVec.ofInt 32 (n : Int) = BitVec.ofNat 32 n := by apply BitVec.eq_of_toNat_eq; simp
def tot (parts : List (List (BitVec 8))) : Nat := (parts.map List.length).sum
theorem Qam (parts : List (List (BitVec 8))) : ∀ i, (parts.take i).flatten.length ≤ tot parts := by
 induction parts with
 | nil => intro i; simp [tot]
 | cons p r ih =>
  intro i
  cases i with
  | zero => simp
  | succ i =>
   have := ih i
   simp only [tot, List.map_cons, List.sum_cons] at *
   simp only [List.take_succ_cons, List.flatten_cons, List.length_append]; omega
theorem BI (id : QO) (q : BitVec 32) (i : Nat) (parts : List (List (BitVec 8))) (hp : tot parts ≤ 3000000000) (hl : parts.length ≤ 1000000) :
  YF id q (i : Int) parts = some (und id q i parts.flatten) := by
 unfold YF
 have e8 : UY (i : Int) 8 = ((i / 256 : Nat) : Int) := QaA i 8 (by omega)
 have eh : ([(q >>> 24).setWidth 8, (q >>> 16).setWidth 8, (q >>> 8).setWidth 8, q.setWidth 8, BitVec.ofInt 8 (UY (i : Int) 8), BitVec.ofInt 8 (i : Int)] : List (BitVec 8)) = be q 4 ++ be (BitVec.ofNat 16 i) 2 := by
  rw [e8, QfR, QfR, QlP, Qlv]; rfl
 rw [eh, QQ (by omega), QQ (by simp [AP]), QQ (by simp [AP, JG])]
 have h := JB (f := fun (s : Int × (List (BitVec 8))) => Xm parts s.1 s.2) (fun j (_ : Unit) => ((j : Int), (([] ++ id.toList) ++ (be q 4 ++ be (BitVec.ofNat 16 i) 2)) ++ (parts.take j).flatten)) (fun _ s => s) 0 parts.length (fun j s h1 h2 => by
  simp only [Xm]
  have h3 := Qam parts (j + 1)
  rw [List.take_succ_eq_append_getElem h2, List.flatten_append, List.length_append] at h3
  rw [QQ (by simp; omega), Qc (Ju rfl h2), QQ (by simp [AP, JG] at h3 ⊢; omega), Jk (n := (j : Int) + 1) (by omega), List.take_succ_eq_append_getElem h2, List.flatten_append]
  simp) (fun s => by
  simp only [Xm]
  rw [QV (by simp)]) FU () (by omega) (J7 (by omega))
 have h' : Q5 (fun (s : Int × (List (BitVec 8))) => Xm parts s.1 s.2) FU ((0 : Int), ([] ++ id.toList) ++ (be q 4 ++ be (BitVec.ofNat 16 i) 2)) = some ((parts.length : Int), (([] ++ id.toList) ++ (be q 4 ++ be (BitVec.ofNat 16 i) 2)) ++ parts.flatten) := by
  simpa using h
 rw [Qc h']
 have h3 := Qam parts parts.length
 rw [List.take_length] at h3
 rw [Qc (Qcs _ (by simp [JG] at h3 ⊢; omega))]
 unfold und
 simp
def qr (id : QO) (q : BitVec 32) (i : Nat) (seed : Qa) : Qa := und id q i (255#8 :: seed.toList)
theorem Qa8 (id : QO) (q : BitVec 32) (i : Nat) (seed : Qa) : XM id q (i : Int) seed = some (qr id q i seed) := by
 unfold XM
 rw [Qc (BI id q i _ (by simp [tot]) (by simp))]
 simp [qr]
def Qii (id : QO) (q : BitVec 32) (i : Nat) (j : Nat) (h : Qa) : Qa := und id q i (BitVec.ofNat 8 j :: h.toList)
def U8 (id : QO) (q : BitVec 32) (i : Nat) (fr n : Nat) (h : Qa) : Qa := Ya (Qii id q i) fr n h
theorem Qh8 (id : QO) (q : BitVec 32) (i : Nat) (fr n m : Nat) (h : Qa) : U8 id q i fr (n + m) h = U8 id q i (fr + n) m (U8 id q i fr n h) := Qbm _ n m fr h
theorem QcD (id : QO) (q : BitVec 32) (i : Nat) (h : Qa) (fr to : Nat) (h1 : fr ≤ to) (h2 : to ≤ 1000) : XL id q (i : Int) h (fr : Int) (to : Int) = some (U8 id q i fr (to - fr) h) := by
 unfold XL
 have hl := JB (f := fun (s : Int × Qa) => X7 (to : Int) id q (i : Int) s.1 s.2) (fun j (h : Qa) => ((j : Int), h)) (Qii id q i) fr to (fun j s h1 h2 => by
  simp only [X7]
  rw [QQ (by simp; omega), Qc (BI id q i _ (by simp [tot]) (by simp)), Jk (n := (j : Int) + 1) (by omega), QfR]
  simp [Qii]) (fun s => by
  simp only [X7]
  rw [QV (by simp)]) FU h h1 (J7 (by omega))
 rw [Qc hl]; rfl
def K8 (k : Nat) : Nat := 2 ^ ZA k - 1
theorem Qc5 {k : Nat} (hk : JU k) : K8 k ≤ 255 := by rcases hk with rfl | rfl | rfl | rfl <;> simp [K8, ZA]
theorem VM {k : Nat} (hk : JU k) : Js k ≤ 265 := by rcases hk with rfl | rfl | rfl | rfl <;> simp [Js]
theorem Qg9 {k : Nat} (hk : JU k) {h : Qa} {d : Int} (hd : d ∈ UE k h) : ∃ n : Nat, d = (n : Int) ∧ n ≤ K8 k := by
 obtain ⟨h0, h1⟩ := Qja hd
 exact ⟨d.toNat, by omega, by unfold K8; omega⟩
def cat (n : Nat) (f : Nat → Qa) : List (BitVec 8) := (List.range n).flatMap fun i => (f i).toList
theorem BY (n : Nat) (f : Nat → Qa) : cat (n + 1) f = cat n f ++ (f n).toList := by simp [cat, List.range_succ]
theorem qk (n : Nat) (f : Nat → Qa) : (cat n f).length = 32 * n := by
 induction n with
 | zero => rfl
 | succ n ih => rw [BY, List.length_append, ih, Vector.length_toList]; omega
theorem Qhx {n : Nat} {f g : Nat → Qa} (h : ∀ i, i < n → f i = g i) : cat n f = cat n g := by
 induction n with
 | zero => rfl
 | succ n ih => rw [BY, BY, ih fun i hi => h i (by omega), h n (by omega)]
theorem Qdx (id : QO) (q : BitVec 32) (n : Nat) (f : Nat → Qa) (hn : n ≤ 1000000) : V5 id q ((List.range n).map f) = some (und id q 32896 (cat n f)) := by
 unfold V5
 have hl : ((List.range n).map f).length = n := by simp
 rw [hl, Jm (n := 32 * (n : Int)) (by omega) (by omega), QQ (by omega)]
 have h := JB (f := fun (s : Int × (List (BitVec 8))) => Y6 ((List.range n).map f) s.1 s.2) (fun j (_ : Unit) => ((j : Int), cat j f)) (fun _ s => s) 0 n (fun j s h1 h2 => by
  simp only [Y6, hl]
  rw [QQ (by simp; omega), Qc (Ju rfl (by rw [hl]; exact h2)), QQ (by rw [qk]; simp [AP]; omega), Jk (n := (j : Int) + 1) (by omega), BY]
  simp) (fun s => by
  simp only [Y6, hl]
  rw [QV (by simp)]) FU () (by omega) (J7 (by omega))
 have h' : Q5 (fun (s : Int × (List (BitVec 8))) => Y6 ((List.range n).map f) s.1 s.2) FU ((0 : Int), []) = some ((n : Int), cat n f) := h
 have hu : YF id q (32896 : Int) [cat n f] = _ := BI id q 32896 [cat n f] (by simp [tot, qk]; omega) (by simp)
 rw [Qc h', Qc hu]
 simp
theorem Qfg {α : Type} (n i : Nat) (g : Nat → α) (z x : α) (h : i < n) (hx : x = g i) : ((List.range i).map g ++ List.replicate (n - i) z).set i x = (List.range (i + 1)).map g ++ List.replicate (n - (i + 1)) z := by
 rw [List.set_append_right _ _ (by simp)]
 have e : n - i = (n - (i + 1)) + 1 := by omega
 rw [e, List.replicate_succ, List.range_succ, List.map_append]
 simp [hx]
def Qdg (k : Nat) (id : QO) (q : BitVec 32) (seed : Qa) : Qa := und id q 32896 (cat (Js k) fun i => U8 id q i 0 (K8 k) (qr id q i seed))
theorem QhE {k : Nat} (hk : JU k) (id : QO) (q : BitVec 32) (seed : Qa) : KY (k : Int) id q seed = some (Qdg k id q seed, 0) := by
 unfold KY
 have hc := VM hk
 have hm := Qc5 hk
 rw [Qc (Qg5 hk), QV (by simp)]
 simp only []
 rw [QQ (show 0 ≤ (Js k : Int) ∧ (Js k : Int) ≤ 4294967296 by omega), Int.toNat_natCast]
 let g : Nat → Qa := fun i => U8 id q i 0 (K8 k) (qr id q i seed)
 have hmost : Yd (frm k) = some (K8 k : Int) := QbW hk
 have h := JB (f := fun (s : Int × (List Qa)) => Y5 (List.replicate (Js k) (Vector.replicate 32 (0#8))) id q seed (frm k, true) s.1 s.2) (fun j (_ : Unit) => ((j : Int), (List.range j).map g ++ List.replicate (Js k - j) (Vector.replicate 32 (0#8)))) (fun _ s => s) 0 (Js k) (fun j s h1 h2 => by
  simp only [Y5]
  have hch := QcD id q j (qr id q j seed) 0 (K8 k) (by omega) (by omega)
  have hch' : XL id q (j : Int) (qr id q j seed) (0 : Int) (K8 k : Int) = _ := hch
  rw [QQ (by simp; omega), Qc (Qa8 id q j seed), Qc hmost, Qc hch', QQ (by simp; omega), Jk (n := (j : Int) + 1) (by omega), Int.toNat_natCast, Qfg (Js k) j g (Vector.replicate 32 (0#8)) (U8 id q j 0 (K8 k - 0) (qr id q j seed)) h2 rfl]
  rfl) (fun s => by
  simp only [Y5]
  rw [QV (by simp)]) FU () (by omega) (J7 (by omega))
 have h' : Q5 (fun (s : Int × (List Qa)) => Y5 (List.replicate (Js k) (Vector.replicate 32 (0#8))) id q seed (frm k, true) s.1 s.2) FU ((0 : Int), List.replicate (Js k) (Vector.replicate 32 (0#8))) = some ((Js k : Int), (List.range (Js k)).map g) := by simpa using h
 rw [Option.bind_some, Qc h', Qc (Qdx id q _ g (by omega))]
 rfl
end Go.Sl.Pu
namespace Go.Sl.Pu
open Go.Sl Go.Sl.M
def QbO (k : Nat) (id : QO) (q : BitVec 32) (salt msg : List (BitVec 8)) : List Int := UE k (und id q 33153 (salt ++ msg))
def dgt (l : List Int) (i : Nat) : Nat := (l.getD i 0).toNat
theorem Qgq {k : Nat} (hk : JU k) (h : Qa) (i : Nat) : dgt (UE k h) i ≤ K8 k := by
 unfold dgt
 by_cases hi : i < (UE k h).length
 ·have e : (UE k h).getD i 0 = (UE k h)[i] := by simp [hi]
  rw [e]
  obtain ⟨n, hn, hle⟩ := Qg9 hk (List.getElem_mem hi)
  rw [hn]; simpa using hle
 ·have e : (UE k h).getD i 0 = 0 := by simp [Nat.not_lt.1 hi]
  rw [e]; simp
theorem QiO {k : Nat} (hk : JU k) (h : Qa) (i : Nat) (hi : i < Js k) : ZC (UE k h) (i : Int) = some ((dgt (UE k h) i : Nat) : Int) := by
 have hi' : i < (UE k h).length := by rw [Qcw hk]; exact hi
 rw [Ju rfl hi']
 unfold dgt
 have e : (UE k h).getD i 0 = (UE k h)[i] := by simp [hi']
 rw [e]
 obtain ⟨n, hn, hle⟩ := Qg9 hk (List.getElem_mem hi')
 rw [hn]; simp
def VI (id : QO) (q : BitVec 32) (seed : Qa) : Qa := qr id q 65533 seed
def UR (k : Nat) (id : QO) (q : BitVec 32) (seed : Qa) (msg : List (BitVec 8)) : List (BitVec 8) :=
 (be (BitVec.ofNat 32 k) 4 ++ (VI id q seed).toList) ++ cat (Js k) fun i => U8 id q i 0 (dgt (QbO k id q (VI id q seed).toList msg) i) (qr id q i seed)
theorem BD {k : Nat} (id : QO) (q : BitVec 32) (seed : Qa) (msg : List (BitVec 8)) : (UR k id q seed msg).length = JN k := by
 unfold UR
 rw [List.length_append, List.length_append, JG, Vector.length_toList, qk]; unfold JN; omega
theorem QkA {k : Nat} (hk : JU k) (id : QO) (q : BitVec 32) (seed : Qa) (msg : List (BitVec 8)) (hm : msg.length ≤ 2000000000) : Wl (k : Int) id q seed msg = some (UR k id q seed msg, 0) := by
 unfold Wl
 have hc := VM hk
 have hmo := Qc5 hk
 rw [Qc (Qg5 hk), QV (by simp)]
 have hs : XM id q (65533 : Int) seed = some (VI id q seed) := Qa8 id q 65533 seed
 rw [Qc hs, Up]
 rw [Qc (Ws [] (by simp) (BitVec.ofNat 32 k))]
 simp only [List.nil_append]
 rw [Qc (Vy (be (BitVec.ofNat 32 k) 4) (VI id q seed).toList (by simp [JG]))]
 have hu : YF id q (33153 : Int) [(VI id q seed).toList, msg] = some (und id q 33153 ((VI id q seed).toList ++ msg)) := by
  have := BI id q 33153 [(VI id q seed).toList, msg] (by simp [tot]; omega) (by simp)
  simpa using this
 rw [Qc hu, Qc (QcN hk _)]
 have hl := Qcw hk (und id q 33153 ((VI id q seed).toList ++ msg))
 have h := JB (f := fun (s : Int × Bool × (List (BitVec 8))) => XX (UE k (und id q 33153 ((VI id q seed).toList ++ msg))) id q seed s.1 s.2.1 s.2.2) (fun j (_ : Unit) => ((j : Int), false, (be (BitVec.ofNat 32 k) 4 ++ (VI id q seed).toList) ++ cat j fun i => U8 id q i 0 (dgt (QbO k id q (VI id q seed).toList msg) i) (qr id q i seed))) (fun _ s => s) 0 (Js k) (fun j s h1 h2 => by
  simp only [XX, hl]
  have hd := Qgq hk (und id q 33153 ((VI id q seed).toList ++ msg)) j
  have hch := QcD id q j (qr id q j seed) 0 (dgt (UE k (und id q 33153 ((VI id q seed).toList ++ msg))) j) (by omega) (by omega)
  have hch' : XL id q (j : Int) (qr id q j seed) (0 : Int) ((dgt (UE k (und id q 33153 ((VI id q seed).toList ++ msg))) j : Nat) : Int) = _ := hch
  rw [QQ (by simp; omega), Qc (QiO hk _ j h2), Qc (Qa8 id q j seed), Qc hch', Qc (Vy _ _ (by simp [JG, qk]; omega)), Jk (n := (j : Int) + 1) (by omega), BY, ← List.append_assoc]
  rfl) (fun s => by
  simp only [XX, hl]
  rw [QV (by simp)]) FU () (by omega) (J7 (by omega))
 have h' : Q5 (fun (s : Int × Bool × (List (BitVec 8))) => XX (UE k (und id q 33153 ((VI id q seed).toList ++ msg))) id q seed s.1 s.2.1 s.2.2) FU ((0 : Int), false, (be (BitVec.ofNat 32 k) 4 ++ (VI id q seed).toList)) = some ((Js k : Int), false, UR k id q seed msg) := by
  have e : cat 0 (fun i => U8 id q i 0 (dgt (QbO k id q (VI id q seed).toList msg) i) (qr id q i seed)) = [] := rfl
  rw [e, List.append_nil] at h
  exact h
 rw [Qc h']
 rw [Qc (QaN _ (by rw [BD]; unfold JN; omega))]
def hat (b : List (BitVec 8)) (off : Nat) : Qa := Vector.ofFn fun j : Fin 32 => b.getD (off + j.val) 0#8
theorem q6 (b : List (BitVec 8)) (off : Nat) (h : off + 32 ≤ b.length) : (hat b off).toList = (b.drop off).take 32 := by
 apply List.ext_getElem?
 intro i
 rw [List.getElem?_take]
 by_cases hi : i < 32
 ·rw [if_pos hi, List.getElem?_drop]
  have h2 : off + i < b.length := by omega
  have : (hat b off).toList[i]? = some (b.getD (off + i) 0#8) := by
   unfold hat
   rw [List.getElem?_eq_getElem (by simp; exact hi)]
   simp
  rw [this]; simp [h2]
 ·rw [if_neg hi, List.getElem?_eq_none (by simp; omega)]
theorem Qi0 (b : List (BitVec 8)) (off : Nat) (h : off + 32 ≤ b.length) : Wi 32 ((b.drop off).take 32) = some (hat b off) := by
 have hl : 32 ≤ ((b.drop off).take 32).length := by simp; omega
 unfold Wi
 rw [dif_pos hl]
 refine congrArg some (Vector.toList_inj.1 ?_)
 rw [W2, q6 b off h, List.take_take, Nat.min_self]
def Qbn (k : Nat) (id : QO) (q : BitVec 32) (msg sig : List (BitVec 8)) : Qa :=
 und id q 32896 (cat (Js k) fun i => U8 id q i (dgt (QbO k id q ((sig.drop 4).take 32) msg) i) (K8 k - dgt (QbO k id q ((sig.drop 4).take 32) msg) i) (hat sig (36 + 32 * i)))
def Qje (k : Nat) (sig : List (BitVec 8)) : Prop := JU k ∧ sig.length = JN k ∧ (val (sig.take 4)).toNat = k
theorem Qkc (b : List (BitVec 8)) : (((val (b.take 4)).setWidth 32).toNat : Int) = ((val (b.take 4)).toNat : Int) := by
 have := Qjm (b.take 4) 4 (by simp; omega) (by omega)
 have h32 : (2 : Nat) ^ (8 * 4) = 4294967296 := by decide
 rw [h32] at this
 rw [BitVec.toNat_setWidth, Nat.mod_eq_of_lt (by omega)]
theorem QfP {k : Nat} (id : QO) (q : BitVec 32) (msg sig : List (BitVec 8)) (hm : msg.length ≤ 2000000000) (hs : Qje k sig) : Kk id q msg sig = some (Qbn k id q msg sig, true) := by
 obtain ⟨hk, hl, hv⟩ := hs
 have hc := VM hk
 have hmo := Qc5 hk
 have hsz : sig.length = 36 + 32 * Js k := hl
 unfold Kk
 rw [Qc (qh sig (by omega)), Qc (QgP sig (by omega))]
 simp only [Qkc, hv]
 rw [Qc (Qg5 hk), QV (by simp), Qc (QdL hk), Option.bind_some, QV (by simp [hl])]
 have hp : QR (sig.drop 4, false) (32 : Int) = _ := QaU (sig.drop 4) 32 (by simp; omega)
 rw [Qc hp]
 simp only [List.drop_drop]
 rw [QQ (show 0 ≤ (Js k : Int) ∧ (Js k : Int) ≤ 4294967296 by omega), Int.toNat_natCast, Option.bind_some]
 have hu : YF id q (33153 : Int) [(sig.drop 4).take 32, msg] = some (und id q 33153 ((sig.drop 4).take 32 ++ msg)) := by
  have := BI id q 33153 [(sig.drop 4).take 32, msg] (by simp [tot]; omega) (by simp)
  simpa using this
 rw [Qc hu, Qc (QcN hk _)]
 have hdl := Qcw hk (und id q 33153 ((sig.drop 4).take 32 ++ msg))
 let g : Nat → Qa := fun i => U8 id q i (dgt (QbO k id q ((sig.drop 4).take 32) msg) i) (K8 k - dgt (QbO k id q ((sig.drop 4).take 32) msg) i) (hat sig (36 + 32 * i))
 have hmost : Yd (frm k) = some (K8 k : Int) := QbW hk
 have h := JB (f := fun (s : Int × (List Qa) × (List (BitVec 8)) × Bool) => YM (UE k (und id q 33153 ((sig.drop 4).take 32 ++ msg))) (frm k, true) id q s.1 s.2.1 s.2.2.1 s.2.2.2) (fun j (_ : Unit) => ((j : Int), (List.range j).map g ++ List.replicate (Js k - j) (Vector.replicate 32 (0#8)), sig.drop (36 + 32 * j), false)) (fun _ s => s) 0 (Js k) (fun j s h1 h2 => by
  simp only [YM, hdl]
  have hd := Qgq hk (und id q 33153 ((sig.drop 4).take 32 ++ msg)) j
  have hch := QcD id q j (hat sig (36 + 32 * j)) (dgt (UE k (und id q 33153 ((sig.drop 4).take 32 ++ msg))) j) (K8 k) (by omega) (by omega)
  have hp2 : QR (sig.drop (36 + 32 * j), false) (32 : Int) = _ := QaU (sig.drop (36 + 32 * j)) 32 (by simp; omega)
  rw [QQ (by simp; omega), Qc (QiO hk _ j h2), Qc hp2]
  simp only []
  rw [Qc (Qi0 sig (36 + 32 * j) (by omega)), Qc hmost, Qc hch, QQ (by simp; omega), Jk (n := (j : Int) + 1) (by omega), Int.toNat_natCast, Qfg (Js k) j g (Vector.replicate 32 (0#8)) (U8 id q j (dgt (UE k (und id q 33153 ((sig.drop 4).take 32 ++ msg))) j) (K8 k - dgt (UE k (und id q 33153 ((sig.drop 4).take 32 ++ msg))) j) (hat sig (36 + 32 * j))) h2 rfl, List.drop_drop]
  rfl) (fun s => by
  simp only [YM, hdl]
  rw [QV (by simp)]) FU () (by omega) (J7 (by omega))
 have h' : Q5 (fun (s : Int × (List Qa) × (List (BitVec 8)) × Bool) => YM (UE k (und id q 33153 ((sig.drop 4).take 32 ++ msg))) (frm k, true) id q s.1 s.2.1 s.2.2.1 s.2.2.2) FU ((0 : Int), List.replicate (Js k) (Vector.replicate 32 (0#8)), sig.drop (4 + 32), false) = some ((Js k : Int), (List.range (Js k)).map g, sig.drop (36 + 32 * Js k), false) := by simpa using h
 rw [Qc h', Qc (Qdx id q _ g (by omega))]
 rfl
end Go.Sl.Pu
namespace Go.Sl.Pu
open Go.Sl Go.Sl.M
theorem Qlp (k : Nat) (id : QO) (q : BitVec 32) (seed : Qa) (msg : List (BitVec 8)) : (UR k id q seed msg).take 4 = be (BitVec.ofNat 32 k) 4 := by
 unfold UR
 rw [List.append_assoc, List.take_append_of_le_length (by rw [JG]; exact Nat.le_refl _), List.take_of_length_le (by rw [JG]; exact Nat.le_refl _)]
theorem Qi7 {k : Nat} (hk : JU k) (id : QO) (q : BitVec 32) (seed : Qa) (msg : List (BitVec 8)) : Qje k (UR k id q seed msg) := by
 refine ⟨hk, BD id q seed msg, ?_⟩
 rw [Qlp, QfE]
 rcases hk with rfl | rfl | rfl | rfl <;> rfl
theorem QhY (k : Nat) (id : QO) (q : BitVec 32) (seed : Qa) (msg : List (BitVec 8)) : ((UR k id q seed msg).drop 4).take 32 = (VI id q seed).toList := by
 unfold UR
 rw [List.append_assoc, List.drop_left' (JG _ _), List.take_left' (by simp)]
theorem QjM (pre : List (BitVec 8)) (n : Nat) (f : Nat → Qa) (i : Nat) (hi : i < n) (p : Nat) (hp : pre.length = p) : hat (pre ++ cat n f) (p + 32 * i) = f i := by
 apply Vector.toList_inj.1
 rw [q6 _ _ (by rw [List.length_append, qk, hp]; omega)]
 have e : pre ++ cat n f = (pre ++ cat i f) ++ ((f i).toList ++ ((List.range (n - (i + 1))).flatMap fun j => (f (i + 1 + j)).toList)) := by
  rw [List.append_assoc]
  congr 1
  have hn : n = i + (1 + (n - (i + 1))) := by omega
  conv => lhs; rw [hn]
  unfold cat
  rw [List.range_add, List.flatMap_append, List.range_add, List.map_append, List.flatMap_append]
  simp [List.flatMap_map, Nat.add_assoc]
 rw [e, List.drop_left' (by rw [List.length_append, qk, hp]), List.take_left' (by simp)]
theorem Qf0 {k : Nat} (hk : JU k) (id : QO) (q : BitVec 32) (seed : Qa) (msg : List (BitVec 8)) : Qbn k id q msg (UR k id q seed msg) = Qdg k id q seed := by
 unfold Qbn Qdg
 rw [QhY]
 refine congrArg (und id q 32896) (Qhx fun i hi => ?_)
 have hd := Qgq hk (und id q 33153 ((VI id q seed).toList ++ msg)) i
 have e : hat (UR k id q seed msg) (36 + 32 * i) = U8 id q i 0 (dgt (QbO k id q (VI id q seed).toList msg) i) (qr id q i seed) := by
  unfold UR
  exact QjM _ _ (fun i => U8 id q i 0 (dgt (QbO k id q (VI id q seed).toList msg) i) (qr id q i seed)) i hi 36 (by simp [JG])
 rw [e]
 have hd' : dgt (QbO k id q (VI id q seed).toList msg) i ≤ K8 k := hd
 have := Qh8 id q i 0 (dgt (QbO k id q (VI id q seed).toList msg) i) (K8 k - dgt (QbO k id q (VI id q seed).toList msg) i) (qr id q i seed)
 rw [Nat.zero_add] at this
 rw [← this]; congr 1; omega
end Go.Sl.Pu
set_option maxRecDepth 20000
namespace Go.Sl.Pu
open Go.Sl Go.Sl.M
attribute [local irreducible] sha w64 Qdg und UR
def IsH (h : Nat) : Prop := h = 1 ∨ h = 2 ∨ h = 3 ∨ h = 4
def KK (h : Nat) : Nat := 2 ^ h
theorem BN {h : Nat} (hh : IsH h) : 2 ≤ KK h ∧ KK h ≤ 16 := by rcases hh with rfl | rfl | rfl | rfl <;> decide
theorem B4 {h : Nat} (hh : IsH h) : Xq (1 : Int) (h : Int) = (KK h : Int) := by rcases hh with rfl | rfl | rfl | rfl <;> with_unfolding_all rfl
theorem Wf {h : Nat} (hh : IsH h) : 1 ≤ h ∧ h ≤ 4 := by unfold IsH at hh; omega
theorem Qgy {k : Nat} (hk : JU k) : 1 ≤ k ∧ k ≤ 4 := by unfold JU at hk; omega
theorem QfC {k : Nat} (hk : JU k) : 0 < Js k := by rcases hk with rfl | rfl | rfl | rfl <;> decide
theorem QdS {h k : Nat} (hh : IsH h) (hk : JU k) : UT (h : Int) (k : Int) = some true := by
 unfold UT
 have h1 := Wf hh
 have h2 := QfC hk
 rw [QQ (by rw [decide_eq_true_eq]; omega), Option.bind_some, QQ (by rw [decide_eq_true_eq]; omega), Qc (QhU hk), Option.bind_some, decide_eq_true (by omega)]
theorem QgK {h k : Int} (hn : ¬ ((1 ≤ h ∧ h ≤ 4) ∧ (1 ≤ k ∧ k ≤ 4))) : UT h k = some false := by
 unfold UT
 by_cases h1 : 1 ≤ h
 ·by_cases h2 : h ≤ 4
  ·have hk : ¬ (1 ≤ k ∧ k ≤ 4) := fun hk => hn ⟨⟨h1, h2⟩, hk⟩
   rw [QQ (decide_eq_true h1), Option.bind_some, QQ (decide_eq_true h2), Qc (Qe9 hk)]
   rfl
  ·rw [QQ (decide_eq_true h1), Option.bind_some, QV (by rw [decide_eq_true_eq]; exact h2)]
   rfl
 ·rw [QV (by rw [decide_eq_true_eq]; exact h1), Option.bind_some, QV (by decide)]
  rfl
def ndh (id : QO) (r u : Nat) (b : List (BitVec 8)) : Qa := sha (((id.toList ++ be (BitVec.ofNat 32 r) 4) ++ be (BitVec.ofNat 16 u) 2) ++ b)
theorem Qj8 (b : List (BitVec 8)) (hb : b.length ≤ 4000000000) (u : Nat) (hu : u ≤ 65535) : Vn (b, false) (u : Int) = some (b ++ be (BitVec.ofNat 16 u) 2, false) := by
 unfold Vn Vf
 simp only []
 rw [QV (by rw [decide_eq_true_eq]; omega), Option.bind_some, QV (by rw [decide_eq_true_eq]; omega), Option.bind_some, QQ (by rfl), QjW]
 have h : ZM (b, false) (BitVec.ofNat 64 u) (2 : Int) = _ := Qcc b hb (BitVec.ofNat 64 u) 2 (by omega)
 simp only [Bool.not_false]
 rw [Qc h, Qj2]
theorem Qe8 (id : QO) (r u : Nat) (parts : List (List (BitVec 8))) (hu : u ≤ 65535) (hp : tot parts ≤ 1000000) (hl : parts.length ≤ 1000000) : Ut id (r : Int) (u : Int) parts = some (ndh id r u parts.flatten) := by
 unfold Ut
 rw [Qc (Vy [] id.toList (by simp))]
 simp only [List.nil_append]
 rw [Up, Qc (Ws id.toList (by simp) (BitVec.ofNat 32 r)), Qc (Qj8 _ (by simp [JG]) u hu)]
 have h := JB (f := fun (s : Int × Bool × (List (BitVec 8))) => VQ parts s.1 s.2.1 s.2.2) (fun j (_ : Unit) => ((j : Int), false, ((id.toList ++ be (BitVec.ofNat 32 r) 4) ++ be (BitVec.ofNat 16 u) 2) ++ (parts.take j).flatten)) (fun _ s => s) 0 parts.length (fun j s h1 h2 => by
  simp only [VQ]
  have h3 := Qam parts (j + 1)
  rw [List.take_succ_eq_append_getElem h2, List.flatten_append, List.length_append] at h3
  rw [QQ (by rw [decide_eq_true_eq]; omega), Qc (Ju rfl h2), Qc (Vy _ _ (by simp [JG] at h3 ⊢; omega)), Jm (n := (j : Int) + 1) (by omega) (by omega), List.take_succ_eq_append_getElem h2, List.flatten_append]
  simp) (fun s => by
  simp only [VQ]
  rw [QV (by rw [decide_eq_true_eq]; omega)]) FU () (by omega) (J7 (by omega))
 have h' : Q5 (fun (s : Int × Bool × (List (BitVec 8))) => VQ parts s.1 s.2.1 s.2.2) FU ((0 : Int), false, (id.toList ++ be (BitVec.ofNat 32 r) 4) ++ be (BitVec.ofNat 16 u) 2) = some ((parts.length : Int), false, ((id.toList ++ be (BitVec.ofNat 32 r) 4) ++ be (BitVec.ofNat 16 u) 2) ++ parts.flatten) := by
  have e : ((id.toList ++ be (BitVec.ofNat 32 r) 4) ++ be (BitVec.ofNat 16 u) 2) ++ (parts.take 0).flatten = (id.toList ++ be (BitVec.ofNat 32 r) 4) ++ be (BitVec.ofNat 16 u) 2 := by simp
  rw [e, List.take_length] at h
  exact h
 have h3 := Qam parts parts.length
 rw [List.take_length] at h3
 rw [Qc h', Qc (QaN _ (by simp [JG] at h3 ⊢; omega)), Qc (Qcs _ (by simp [JG] at h3 ⊢; omega))]
 unfold ndh; rfl
theorem Qfw (id : QO) (r : Nat) (p : Qa) : WQ id (r : Int) p = some (ndh id r 33410 p.toList) := by
 unfold WQ
 have h : Ut id (r : Int) (33410 : Int) [p.toList] = _ := Qe8 id r 33410 [p.toList] (by omega) (by simp [tot]) (by simp)
 rw [Qc h]; simp
theorem Qa1 (id : QO) (r : Nat) (a b : Qa) : U1 id (r : Int) a b = some (ndh id r 33667 (a.toList ++ b.toList)) := by
 unfold U1
 have h : Ut id (r : Int) (33667 : Int) [a.toList, b.toList] = _ := Qe8 id r 33667 [a.toList, b.toList] (by omega) (by simp [tot]) (by simp)
 rw [Qc h]; simp
section
variable (k : Nat) (id : QO) (seed : Qa) (K : Nat)
def lfv (r : Nat) : Qa := ndh id r 33410 (Qdg k id (BitVec.ofNat 32 (r - K)) seed).toList
def tv (r : Nat) : Qa :=
 if h : r < K ∧ 0 < r then ndh id r 33667 ((tv (2 * r)).toList ++ (tv (2 * r + 1)).toList) else lfv k id seed K r
termination_by K - r
decreasing_by
 ·omega
 ·omega
theorem Qhd {r : Nat} (h : K ≤ r) : tv k id seed K r = lfv k id seed K r := by rw [tv, dif_neg (by omega)]
theorem QeE {r : Nat} (h : r < K) (h0 : 0 < r) : tv k id seed K r = ndh id r 33667 ((tv k id seed K (2 * r)).toList ++ (tv k id seed K (2 * r + 1)).toList) := by
 conv => lhs; rw [tv]
 rw [dif_pos ⟨h, h0⟩]
end
def Qan : Qa := Vector.replicate 32 (0#8)
theorem QgL {α : Type} (n i : Nat) (f : Nat → α) (x : α) : ((List.range n).map f).set i x = (List.range n).map (fun r => if r = i then x else f r) := by
 apply List.ext_getElem
 ·simp
 ·intro j h1 h2
  simp only [List.length_map, List.length_range, List.length_set] at h1 h2
  rw [List.getElem_set]
  by_cases h : i = j
  ·simp [h]
  ·rw [if_neg h]; simp; intro hc; exact absurd hc.symm h
def BJ (k : Nat) (id : QO) (seed : Qa) (K : Nat) : List Qa := (List.range (2 * K)).map fun r => if r = 0 then Qan else tv k id seed K r
theorem Qcf {k : Nat} {id : QO} {seed : Qa} {K r : Nat} (h0 : 0 < r) (h : r < 2 * K) : ZC (BJ k id seed K) (r : Int) = some (tv k id seed K r) := by
 unfold BJ
 rw [Ju rfl (by simp; exact h), List.getElem_map, List.getElem_range, if_neg (by omega)]
theorem QgG {h k : Nat} (hh : IsH h) (hk : JU k) (id : QO) (seed : Qa) : B2 (h : Int) (k : Int) id seed = some (some ((h : Int), (k : Int), id, seed, BJ k id seed (KK h)), 0) := by
 unfold B2
 obtain ⟨hK1, hK2⟩ := BN hh
 have hhl := Wf hh
 rw [Qc (QdS hh hk), QV (by decide), QQ (by omega), B4 hh]
 have hsh := B4 hh
 generalize KK h = K at hK1 hK2 hsh ⊢
 have w2 : w64 ((2 : Int) * (K : Int)) = ((2 * K : Nat) : Int) := by rw [Jm (by omega) (by omega)]; omega
 have w3 : w64 ((K : Int) - 1) = ((K - 1 : Nat) : Int) := by rw [Jm (by omega) (by omega)]; omega
 rw [w2, w3, QQ (by clear w2 w3 hsh; omega), Option.bind_some, Int.toNat_natCast]
 clear w2 w3
 have h0 : List.replicate (2 * K) (Vector.replicate 32 (0#8)) = (List.range (2 * K)).map (fun r => if K ≤ r ∧ r < K + 0 then tv k id seed K r else Qan) := by
  apply List.ext_getElem
  ·simp
  ·intro j h1 h2
   simp; rw [if_neg (by omega)]; rfl
 obtain ⟨o, ho, hq⟩ := Vx (f := fun (s : Int × (List Qa)) => Uf (h : Int) (k : Int) id seed s.1 s.2) (fun s => ∃ q, q ≤ K ∧ s = ((q : Int), (List.range (2 * K)).map (fun r => if K ≤ r ∧ r < K + q then tv k id seed K r else Qan))) (fun s => K - s.1.toNat) (fun o => o = .inl ((K : Int), (List.range (2 * K)).map (fun r => if K ≤ r ∧ r < K + K then tv k id seed K r else Qan))) (by
  rintro s ⟨q, hq, rfl⟩
  by_cases hl : q < K
  ·refine .inl ⟨(((q + 1 : Nat) : Int), (List.range (2 * K)).map (fun r => if K ≤ r ∧ r < K + (q + 1) then tv k id seed K r else Qan)), ?_, ⟨q + 1, by omega, rfl⟩, ?_⟩
   ·simp only [Uf, hsh]
    have w4 : w64 ((K : Int) + (q : Int)) = ((K + q : Nat) : Int) := by rw [Jm (by omega) (by omega)]; omega
    have w5 : w64 ((q : Int) + 1) = ((q + 1 : Nat) : Int) := by rw [Jm (by omega) (by omega)]; omega
    rw [QQ (by clear w4 w5 hsh; rw [decide_eq_true_eq]; omega), Up, Qc (QhE hk id _ seed), QV (by simp), w4, w5, Qc (Qfw id (K + q) _), QQ (by clear w4 w5 hsh; simp; omega), Int.toNat_natCast, QgL]
    refine congrArg some (congrArg LR.next (Prod.ext rfl ?_))
    apply List.map_congr_left
    intro r hr
    by_cases e : r = K + q
    ·subst e
     rw [if_pos rfl, if_pos (by clear w4 w5 hsh; omega), Qhd _ _ _ _ (by clear w4 w5 hsh; omega)]
     unfold lfv
     rw [Nat.add_sub_cancel_left]
    ·rw [if_neg e]
     by_cases e2 : K ≤ r ∧ r < K + q
     ·rw [if_pos e2, if_pos (by clear w4 w5 hsh; omega)]
     ·rw [if_neg e2, if_neg (by clear w4 w5 hsh; omega)]
   ·simp only [Int.toNat_natCast]; clear hsh; omega
  ·have : q = K := by clear hsh; omega
   subst this
   exact .inr (.inl ⟨_, by
    simp only [Uf, hsh]
    rw [QV (by clear hsh; rw [decide_eq_true_eq]; omega)], rfl⟩)) FU ((0 : Int), (List.range (2 * K)).map (fun r => if K ≤ r ∧ r < K + 0 then tv k id seed K r else Qan)) ⟨0, Nat.zero_le _, rfl⟩ (by
   have := J7 (n := K) (by clear hsh; omega)
   clear hsh
   simp only []; omega)
 rw [h0, Qc ho, hq]
 simp only []
 have h1 : (List.range (2 * K)).map (fun r => if K ≤ r ∧ r < K + K then tv k id seed K r else Qan) = (List.range (2 * K)).map (fun r => if K - 1 < r then tv k id seed K r else Qan) := by
  apply List.map_congr_left
  intro r hr
  have := List.mem_range.1 hr
  by_cases e : K ≤ r
  ·rw [if_pos (by clear hsh; omega), if_pos (by clear hsh; omega)]
  ·rw [if_neg (by clear hsh; omega), if_neg (by clear hsh; omega)]
 obtain ⟨s', hs', hq'⟩ := WP (f := fun (s : Int × (List Qa)) => Uh id s.1 s.2) (fun s => ∃ y, y < K ∧ s = ((y : Int), (List.range (2 * K)).map (fun r => if y < r then tv k id seed K r else Qan))) (fun s => s.1.toNat) (fun s => s = ((0 : Int), (List.range (2 * K)).map (fun r => if 0 < r then tv k id seed K r else Qan))) (by
  rintro s ⟨y, hy, rfl⟩
  by_cases hl : 0 < y
  ·obtain ⟨y, rfl⟩ : ∃ m, y = m + 1 := ⟨y - 1, by clear hsh; omega⟩
   refine .inl ⟨((y : Int), (List.range (2 * K)).map (fun r => if y < r then tv k id seed K r else Qan)), ?_, ⟨y, by clear hsh; omega, rfl⟩, ?_⟩
   ·simp only [Uh]
    have g1 : ZC ((List.range (2 * K)).map (fun r => if y + 1 < r then tv k id seed K r else Qan)) ((2 * (y + 1) : Nat) : Int) = some (tv k id seed K (2 * (y + 1))) := by
     rw [Ju rfl (by simp; clear hsh; omega)]
     rw [List.getElem_map, List.getElem_range, if_pos (by clear hsh; omega)]
    have g2 : ZC ((List.range (2 * K)).map (fun r => if y + 1 < r then tv k id seed K r else Qan)) ((2 * (y + 1) + 1 : Nat) : Int) = some (tv k id seed K (2 * (y + 1) + 1)) := by
     rw [Ju rfl (by simp; clear hsh; omega)]
     rw [List.getElem_map, List.getElem_range, if_pos (by clear hsh; omega)]
    have w4 : w64 ((2 : Int) * ((y + 1 : Nat) : Int)) = ((2 * (y + 1) : Nat) : Int) := by rw [Jm (by clear hsh; omega) (by clear hsh; omega)]; rfl
    have w5 : w64 (((2 * (y + 1) : Nat) : Int) + 1) = ((2 * (y + 1) + 1 : Nat) : Int) := by rw [Jm (by clear w4 hsh; omega) (by clear w4 hsh; omega)]; rfl
    have w6 : w64 (((y + 1 : Nat) : Int) - 1) = (y : Int) := by rw [Jm (by clear w4 w5 hsh; omega) (by clear w4 w5 hsh; omega)]; clear w4 w5 hsh; omega
    rw [QQ (by clear w4 w5 w6 hsh; simp), w4, w5, w6, Qc g1, Qc g2, Qc (Qa1 id (y + 1) _ _), QQ (by clear w4 w5 w6 hsh; simp; omega), Int.toNat_natCast, QgL]
    clear w4 w5 w6 g1 g2
    refine congrArg some (congrArg LR.next (Prod.ext rfl ?_))
    apply List.map_congr_left
    intro r hr
    by_cases e : r = y + 1
    ·subst e
     rw [if_pos rfl, if_pos (by clear hsh; omega), QeE k id seed K hy (by clear hsh; omega)]
    ·rw [if_neg e]
     by_cases e2 : y + 1 < r
     ·rw [if_pos e2, if_pos (by clear hsh; omega)]
     ·rw [if_neg e2, if_neg (by clear hsh; omega)]
   ·simp only [Int.toNat_natCast]; clear hsh; omega
  ·have : y = 0 := by clear hsh; omega
   subst this
   exact .inr ⟨_, by
    simp only [Uh]
    rw [QV (by simp)]; rfl, rfl⟩) FU (((K - 1 : Nat) : Int), (List.range (2 * K)).map (fun r => if K - 1 < r then tv k id seed K r else Qan)) ⟨K - 1, by clear hsh; omega, rfl⟩ (by
   simp only [Int.toNat_natCast]
   exact J7 (by clear hsh; omega))
 rw [h1, Option.bind_some, Qc hs', hq']
 refine congrArg some (Prod.ext (congrArg some ?_) rfl)
 refine congrArg (fun v => ((h : Int), (k : Int), id, seed, v)) ?_
 unfold BJ
 apply List.map_congr_left
 intro r hr
 by_cases e : r = 0
 ·rw [if_neg (by clear hsh; omega), if_pos e]
 ·rw [if_pos (by clear hsh; omega), if_neg e]
abbrev trS (h k : Nat) (id : QO) (seed : Qa) : Option Qy := some ((h : Int), (k : Int), id, seed, BJ k id seed (KK h))
theorem Qcq {h k : Nat} (hh : IsH h) (id : QO) (seed : Qa) : XU (trS h k id seed) = some (KK h : Int) := by
 unfold XU
 rw [QV (by simp), Option.bind_some, QQ (by simp), B4 hh]
def KH (h k : Nat) (id : QO) (seed : Qa) : List (BitVec 8) := ((be (BitVec.ofNat 32 h) 4 ++ be (BitVec.ofNat 32 k) 4) ++ id.toList) ++ (tv k id seed (KK h) 1).toList
theorem WS (h k : Nat) (id : QO) (seed : Qa) : (KH h k id seed).length = 56 := by simp [KH, JG]
theorem QcZ {h k : Nat} (hh : IsH h) (id : QO) (seed : Qa) : XA (trS h k id seed) = some (KH h k id seed) := by
 unfold XA
 obtain ⟨hK1, hK2⟩ := BN hh
 have g : ZC (BJ k id seed (KK h)) (1 : Int) = some (tv k id seed (KK h) 1) := Qcf (r := 1) (by omega) (by omega)
 rw [QV (by simp)]
 simp only [trS, Option.bind_some]
 rw [Up, Up, Qc (Ws [] (by simp) _), Qc (Ws _ (by simp [JG]) _), Qc (Vy _ _ (by simp [JG])), Qc g, Qc (Vy _ _ (by simp [JG])), Qc (QaN _ (by simp [JG]))]
 rfl
theorem QaQ {h k : Nat} (hh : IsH h) (hk : JU k) : KL (h : Int) (k : Int) = some ((8 + JN k + 32 * h : Nat) : Int) := by
 unfold KL
 have h1 := Wf hh
 have h2 : JN k ≤ 100000 := by have := VM hk; unfold JN; omega
 rw [Qc (QdS hh hk), QV (by decide), Qc (QdL hk), Option.bind_some, Jm (n := 8 + (JN k : Int)) (by omega) (by omega), Jm (n := 32 * (h : Int)) (by omega) (by omega), Jm (by omega) (by omega)]
 refine congrArg some ?_
 omega
theorem QiS {h k : Int} (hn : ¬ ((1 ≤ h ∧ h ≤ 4) ∧ (1 ≤ k ∧ k ≤ 4))) : KL h k = some 0 := by
 unfold KL
 rw [Qc (QgK hn), QQ (by rfl)]
def sib (r : Nat) : Nat := r + 1 - 2 * (r % 2)
def pth (f : Nat → Qa) (r : Nat) : List Qa := if h : 1 < r then f (sib r) :: pth f (r / 2) else []
termination_by r
decreasing_by omega
theorem Qec (f : Nat → Qa) {r : Nat} (h : ¬ 1 < r) : pth f r = [] := by rw [pth, dif_neg h]
theorem QcY (f : Nat → Qa) {r : Nat} (h : 1 < r) : pth f r = f (sib r) :: pth f (r / 2) := by
 conv => lhs; rw [pth]
 rw [dif_pos h]
def Qcz (l : List Qa) : List (BitVec 8) := l.flatMap fun x => x.toList
theorem Qip (l : List Qa) : (Qcz l).length = 32 * l.length := by
 induction l with
 | nil => rfl
 | cons x l ih =>
  show (x.toList ++ Qcz l).length = _
  rw [List.length_append, ih, Vector.length_toList, List.length_cons]; omega
theorem Qha (f : Nat → Qa) : ∀ (h r : Nat), 2 ^ h ≤ r → r < 2 ^ (h + 1) → (pth f r).length = h := by
 intro h
 induction h with
 | zero => intro r h1 h2; rw [Qec f (by simp at h2; omega)]; rfl
 | succ h ih =>
  intro r h1 h2
  have e1 : 2 ^ (h + 1) = 2 ^ h * 2 := Nat.pow_succ ..
  have e2 : 2 ^ (h + 1 + 1) = 2 ^ (h + 1) * 2 := Nat.pow_succ ..
  have e0 : 0 < 2 ^ h := Nat.pow_pos (by omega)
  rw [QcY f (by omega), List.length_cons, ih (r / 2) (by omega) (by omega)]
theorem QiR : ∀ r : Fin 32, Qk8 (r.val : Int) 1 = ((sib r.val : Nat) : Int) := by with_unfolding_all decide
def Wm (h k : Nat) (id : QO) (seed : Qa) (q : Nat) (msg : List (BitVec 8)) : List (BitVec 8) :=
 ((be (BitVec.ofNat 32 q) 4 ++ UR k id (BitVec.ofNat 32 q) seed msg) ++ be (BitVec.ofNat 32 h) 4) ++ Qcz (pth (tv k id seed (KK h)) (KK h + q))
theorem Wg {h k : Nat} (id : QO) (seed : Qa) (q : Nat) (hq : q < KK h) (msg : List (BitVec 8)) : (Wm h k id seed q msg).length = 8 + JN k + 32 * h := by
 unfold Wm
 rw [List.length_append, List.length_append, List.length_append, JG, JG, BD, Qip, Qha _ h (KK h + q) (by unfold KK; omega) (by rw [Nat.pow_succ]; unfold KK at hq ⊢; omega)]
 omega
theorem Qhp (h k : Nat) (id : QO) (seed : Qa) (hK : KK h ≤ 16) : ∀ (n r fuel : Nat) (b : List (BitVec 8)), r ≤ n → 0 < r → r < 2 * KK h → b.length + 32 * n ≤ 1000000 → n < fuel →
  ∃ r', Q5 (fun (s : Int × Bool × (List (BitVec 8))) => Xg (trS h k id seed) s.1 s.2.1 s.2.2) fuel ((r : Int), false, b) = some (r', false, b ++ Qcz (pth (tv k id seed (KK h)) r)) := by
 intro n
 induction n with
 | zero => intro r fuel b h1 h2; omega
 | succ n ih =>
  intro r fuel b h1 h2 h3 hb hfu
  obtain ⟨fuel, rfl⟩ : ∃ m, fuel = m + 1 := ⟨fuel - 1, by omega⟩
  by_cases hr : 1 < r
  ·have hx := QiR ⟨r, by omega⟩
   simp only [] at hx
   have hs : 0 < sib r ∧ sib r < 2 * KK h := by
    have : 2 * KK h % 2 = 0 := by omega
    unfold sib; omega
   have g := Qcf (k := k) (id := id) (seed := seed) hs.1 hs.2
   obtain ⟨r', hr'⟩ := ih (r / 2) fuel (b ++ (tv k id seed (KK h) (sib r)).toList) (by omega) (by omega) (by omega) (by rw [List.length_append, Vector.length_toList]; omega) (by omega)
   refine ⟨r', ?_⟩
   have hd : Int.tdiv (r : Int) 2 = ((r / 2 : Nat) : Int) := (Int.ofNat_tdiv r 2).symm
   rw [YK (s' := (((r / 2 : Nat) : Int), false, b ++ (tv k id seed (KK h) (sib r)).toList)) (by
    simp only [Xg]
    rw [QQ (by rw [decide_eq_true_eq]; omega), Option.bind_some, hx, Qc g, Qc (Vy _ _ (by rw [Vector.length_toList]; omega)), hd]
    clear hx g hr' hd
    rw [Jm (by omega) (by omega)]), hr', QcY _ hr]
   simp [Qcz]
  ·refine ⟨(r : Int), ?_⟩
   rw [Xj (s' := ((r : Int), false, b)) (by
    simp only [Xg]
    rw [QV (by rw [decide_eq_true_eq]; omega)]), Qec _ hr]
   simp [Qcz]
theorem QfI {h k : Nat} (hh : IsH h) (hk : JU k) (id : QO) (seed : Qa) (q : Nat) (hq : q < KK h) (msg : List (BitVec 8)) (hm : msg.length ≤ 2000000000) : VC (trS h k id seed) (q : Int) msg = some (Wm h k id seed q msg, 0) := by
 unfold VC
 obtain ⟨hK1, hK2⟩ := BN hh
 have hhl := Wf hh
 have hsz : JN k ≤ 100000 := by have := VM hk; unfold JN; omega
 have hsl := BD (k := k) id (BitVec.ofNat 32 q) seed msg
 obtain ⟨r', hl⟩ := Qhp h k id seed hK2 (KK h + q) (KK h + q) FU ((be (BitVec.ofNat 32 q) 4 ++ UR k id (BitVec.ofNat 32 q) seed msg) ++ be (BitVec.ofNat 32 h) 4) (Nat.le_refl _) (by omega) (by omega) (by simp only [List.length_append, JG]; omega) (J7 (by omega))
 rw [QV (by simp), QV (by rw [decide_eq_true_eq]; omega), Qc (Qcq hh id seed), Option.bind_some, QV (by rw [decide_eq_true_eq]; omega), Option.bind_some, Option.bind_some, Option.bind_some]
 simp only []
 rw [Up, Qc (QkA hk id _ seed msg hm), QV (by simp), Qc (Ws [] (by simp) _)]
 simp only [List.nil_append]
 rw [Qc (Vy _ _ (by rw [JG]; omega)), Option.bind_some]
 simp only []
 rw [Up, Qc (Ws _ (by rw [List.length_append, JG]; omega) _), Qc (Qcq hh id seed)]
 rw [show w64 ((KK h : Int) + (q : Int)) = ((KK h + q : Nat) : Int) by rw [Jm (by omega) (by omega)]; omega, Qc hl]
 simp only []
 rw [Qc (QaN _ (by have := Wg (k := k) id seed q hq msg; unfold Wm at this; omega))]
 rfl
end Go.Sl.Pu
