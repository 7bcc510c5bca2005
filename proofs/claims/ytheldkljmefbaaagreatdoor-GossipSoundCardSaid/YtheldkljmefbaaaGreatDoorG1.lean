set_option linter.unusedVariables false
namespace Go.Sl
def w64 (n : Int) : Int := (n + 9223372036854775808) % 18446744073709551616 - 9223372036854775808
theorem Jr {n : Int} (h : -9223372036854775808 ≤ n ∧ n < 9223372036854775808) : w64 n = n := by unfold w64; omega
def Qfr (p q : Int) : Int := w64 ((BitVec.ofInt 64 p &&& BitVec.ofInt 64 q).toNat : Int)
def Qlt (p q : Int) : Int := w64 ((BitVec.ofInt 64 p ^^^ BitVec.ofInt 64 q).toNat : Int)
def XG (p : Int) (n : Int) : Int := w64 (p * 2 ^ (min n.toNat 64))
def U9 (p : Int) (n : Int) : Int := p.fdiv (2 ^ (min n.toNat 64))
def JW {α : Type} (l : List α) (i : Int) : Option α := if 0 ≤ i then l[i.toNat]? else none
def Kh {α : Type} {n : Nat} (v : Vector α n) (i : Int) : Option α := if 0 ≤ i then v[i.toNat]? else none
def Zk {α : Type} (l : List α) (lo hi : Int) : Option (List α) := if 0 ≤ lo ∧ lo ≤ hi ∧ hi ≤ l.length then some ((l.take hi.toNat).drop lo.toNat) else none
def QdX {α : Type} (n : Nat) (l : List α) (h : n ≤ l.length) : Vector α n := ⟨(l.take n).toArray, by simp [Nat.min_eq_left h]⟩
theorem Bx {α : Type} (n : Nat) (l : List α) (h : n ≤ l.length) : (QdX n l h).toList = l.take n := by simp [QdX]
def Wy {α : Type} (n : Nat) (l : List α) : Option (Vector α n) := if h : n ≤ l.length then some (QdX n l h) else none
def Qgw {α : Type} {n : Nat} (v : Vector α n) (lo : Nat) (l : List α) : Vector α n :=
 if h : lo + l.length ≤ n then ⟨(v.toList.take lo ++ l ++ v.toList.drop (lo + l.length)).toArray, by simp; omega⟩ else v
theorem QbY {α : Type} {n : Nat} (v : Vector α n) (lo : Nat) (l : List α) (h : lo + l.length ≤ n) : (Qgw v lo l).toList = v.toList.take lo ++ l ++ v.toList.drop (lo + l.length) := by
 unfold Qgw; rw [dif_pos h]; simp
inductive LR (σ ρ : Type) where
 | next (s : σ)
 | brk (s : σ)
 | ret (r : ρ)
def ZO {σ ρ : Type} (f : σ → Option (LR σ ρ)) : Nat → σ → Option (σ ⊕ ρ)
 | 0, _ => none
 | n + 1, s => match f s with
  | none => none
  | some (.next s') => ZO f n s'
  | some (.brk s') => some (.inl s')
  | some (.ret r) => some (.inr r)
def Q3 {σ : Type} (f : σ → Option (LR σ Empty)) (n : Nat) (s : σ) : Option σ :=
 match ZO f n s with
 | none => none
 | some (.inl s') => some s'
 | some (.inr e) => e.elim
theorem QgT {σ : Type} {f : σ → Option (LR σ Empty)} {n : Nat} {s s' : σ} (h : Q3 f n s = some s') : ∃ o, ZO f n s = some o ∧ o = .inl s' := by
 unfold Q3 at h
 split at h
 ·cases h
 ·rename_i s2 he; cases h; exact ⟨_, he, rfl⟩
 ·rename_i e _; exact e.elim
def FU : Nat := 4611686018427387904
def AP : Nat := 4294967296
theorem bind_some {α β : Type} {o : Option α} {f : α → Option β} {r : β} (h : Option.bind o f = some r) : ∃ x, o = some x ∧ f x = some r := Option.bind_eq_some_iff.1 h
theorem QD {α : Type} {c : Prop} [Decidable c] {x : Option α} {r : α} (h : (if c then x else none) = some r) : c ∧ x = some r := by
 by_cases hc : c
 ·rw [if_pos hc] at h; exact ⟨hc, h⟩
 ·rw [if_neg hc] at h; cases h
theorem bt {α : Type} {b : Bool} {x y r : α} (hb : b = true) (h : (if b = true then x else y) = r) : x = r := by rwa [if_pos hb] at h
theorem bf {α : Type} {b : Bool} {x y r : α} (hb : b = false) (h : (if b = true then x else y) = r) : y = r := by rwa [if_neg (by rw [hb]; decide)] at h
theorem Jb {α : Type} {l : List α} {i : Int} {x : α} (h : JW l i = some x) : 0 ≤ i ∧ ∃ hi : i.toNat < l.length, l[i.toNat] = x := by
 unfold JW at h
 split at h
 ·rename_i h0; obtain ⟨h1, h2⟩ := List.getElem?_eq_some_iff.1 h; exact ⟨h0, h1, h2⟩
 ·cases h
theorem QT {α : Type} {n : Nat} {v : Vector α n} {i : Int} {x : α} (h : Kh v i = some x) : 0 ≤ i ∧ ∃ hi : i.toNat < n, v[i.toNat] = x := by
 unfold Kh at h
 split at h
 ·rename_i h0; obtain ⟨h1, h2⟩ := Vector.getElem?_eq_some_iff.1 h; exact ⟨h0, h1, h2⟩
 ·cases h
theorem qk {α : Type} {l r : List α} {lo hi : Int} (h : Zk l lo hi = some r) : 0 ≤ lo ∧ lo ≤ hi ∧ hi ≤ l.length ∧ (l.take hi.toNat).drop lo.toNat = r := by
 obtain ⟨⟨h0, h1, h2⟩, h3⟩ := QD h
 exact ⟨h0, h1, h2, Option.some.inj h3⟩
theorem Qe6 {α : Type} {n : Nat} {l : List α} {v : Vector α n} (h : Wy n l = some v) : ∃ hl : n ≤ l.length, QdX n l hl = v := by
 unfold Wy at h
 split at h
 ·rename_i hl; exact ⟨hl, Option.some.inj h⟩
 ·cases h
end Go.Sl
set_option maxRecDepth 100000
namespace Go.Sl
namespace M
abbrev JC : Type := Int × Int × Int
abbrev Q4 : Type := Vector (BitVec 32) 8
abbrev Qa : Type := Vector (BitVec 8) 32
abbrev QL : Type := Vector (BitVec 8) 16
abbrev QF : Type := Int × Int × QL × Qa × (List Qa)
abbrev Qen : Type := Int × Int × Qa × (Option QF) × (Option QF) × Int
abbrev JP : Type := Int × Int × Qa × Qa
abbrev QB : Type := JP × (List (BitVec 8))
abbrev Zf : Type := Int × Int × Qa × Qa
abbrev QdD : Type := (List (BitVec 8)) × Bool
abbrev US : Type := Int × (List (BitVec 8)) × (List Qa)
abbrev Q8 : Type := QB × QB
abbrev QZ : Type := Int × Int
abbrev ZT : Type := (List (BitVec 8)) × (List QB) × (List Q8) × (List QZ)
abbrev Qr : Type := Int × Int × (List Qa)
abbrev Qu : Type := Int × Int × Qa
abbrev Xs : Type := (List Qa) × (List Qa)
abbrev ZQ : Type := (List Qa) × (List Qa)
def S_0 : List (BitVec 8) := [0#8, 1#8, 2#8, 2#8, 3#8, 3#8, 3#8, 3#8, 4#8, 4#8, 4#8, 4#8, 4#8, 4#8, 4#8, 4#8, 5#8, 5#8, 5#8, 5#8, 5#8, 5#8, 5#8, 5#8, 5#8, 5#8, 5#8, 5#8, 5#8, 5#8, 5#8, 5#8, 6#8, 6#8, 6#8, 6#8, 6#8, 6#8, 6#8, 6#8, 6#8, 6#8, 6#8, 6#8, 6#8, 6#8, 6#8, 6#8, 6#8, 6#8, 6#8, 6#8, 6#8, 6#8, 6#8, 6#8, 6#8, 6#8, 6#8, 6#8, 6#8, 6#8, 6#8, 6#8, 7#8, 7#8, 7#8, 7#8, 7#8, 7#8, 7#8, 7#8, 7#8, 7#8, 7#8, 7#8, 7#8, 7#8, 7#8, 7#8, 7#8, 7#8, 7#8, 7#8, 7#8, 7#8, 7#8, 7#8, 7#8, 7#8, 7#8, 7#8, 7#8, 7#8, 7#8, 7#8, 7#8, 7#8, 7#8, 7#8, 7#8, 7#8, 7#8, 7#8, 7#8, 7#8, 7#8, 7#8, 7#8, 7#8, 7#8, 7#8, 7#8, 7#8, 7#8, 7#8, 7#8, 7#8, 7#8, 7#8, 7#8, 7#8, 7#8, 7#8, 7#8, 7#8, 7#8, 7#8, 8#8, 8#8, 8#8, 8#8, 8#8, 8#8, 8#8, 8#8, 8#8, 8#8, 8#8, 8#8, 8#8, 8#8, 8#8, 8#8, 8#8, 8#8, 8#8, 8#8, 8#8, 8#8, 8#8, 8#8, 8#8, 8#8, 8#8, 8#8, 8#8, 8#8, 8#8, 8#8, 8#8, 8#8, 8#8, 8#8, 8#8, 8#8, 8#8, 8#8, 8#8, 8#8, 8#8, 8#8, 8#8, 8#8, 8#8, 8#8, 8#8, 8#8, 8#8, 8#8, 8#8, 8#8, 8#8, 8#8, 8#8, 8#8, 8#8, 8#8, 8#8, 8#8, 8#8, 8#8, 8#8, 8#8, 8#8, 8#8, 8#8, 8#8, 8#8, 8#8, 8#8, 8#8, 8#8, 8#8, 8#8, 8#8, 8#8, 8#8, 8#8, 8#8, 8#8, 8#8, 8#8, 8#8, 8#8, 8#8, 8#8, 8#8, 8#8, 8#8, 8#8, 8#8, 8#8, 8#8, 8#8, 8#8, 8#8, 8#8, 8#8, 8#8, 8#8, 8#8, 8#8, 8#8, 8#8, 8#8, 8#8, 8#8, 8#8, 8#8, 8#8, 8#8, 8#8, 8#8, 8#8, 8#8, 8#8, 8#8, 8#8, 8#8, 8#8, 8#8, 8#8, 8#8, 8#8, 8#8]
def Kz : Vector JC 5 := #v[(0, 0, 0), (1, 265, 7), (2, 133, 6), (4, 67, 4), (8, 34, 0)]
def Zu : Q4 := #v[1779033703#32, 3144134277#32, 1013904242#32, 2773480762#32, 1359893119#32, 2600822924#32, 528734635#32, 1541459225#32]
def YX : Vector (BitVec 32) 64 := #v[1116352408#32, 1899447441#32, 3049323471#32, 3921009573#32, 961987163#32, 1508970993#32, 2453635748#32, 2870763221#32, 3624381080#32, 310598401#32, 607225278#32, 1426881987#32, 1925078388#32, 2162078206#32, 2614888103#32, 3248222580#32, 3835390401#32, 4022224774#32, 264347078#32, 604807628#32, 770255983#32, 1249150122#32, 1555081692#32, 1996064986#32, 2554220882#32, 2821834349#32, 2952996808#32, 3210313671#32, 3336571891#32, 3584528711#32, 113926993#32, 338241895#32, 666307205#32, 773529912#32, 1294757372#32, 1396182291#32, 1695183700#32, 1986661051#32, 2177026350#32, 2456956037#32, 2730485921#32, 2820302411#32, 3259730800#32, 3345764771#32, 3516065817#32, 3600352804#32, 4094571909#32, 275423344#32, 430227734#32, 506948616#32, 659060556#32, 883997877#32, 958139571#32, 1322822218#32, 1537002063#32, 1747873779#32, 1955562222#32, 2024104815#32, 2227730452#32, 2361852424#32, 2428436474#32, 2756734187#32, 3204031479#32, 3329325298#32]
def XM : Vector (BitVec 8) 32 := #v[0#8, 1#8, 28#8, 2#8, 29#8, 14#8, 24#8, 3#8, 30#8, 22#8, 20#8, 15#8, 25#8, 17#8, 4#8, 8#8, 31#8, 27#8, 13#8, 23#8, 21#8, 19#8, 16#8, 7#8, 26#8, 12#8, 18#8, 6#8, 11#8, 5#8, 10#8, 9#8]
def Zs : Vector (BitVec 8) 64 := #v[0#8, 1#8, 56#8, 2#8, 57#8, 49#8, 28#8, 3#8, 61#8, 58#8, 42#8, 50#8, 38#8, 29#8, 17#8, 4#8, 62#8, 47#8, 59#8, 36#8, 45#8, 43#8, 51#8, 22#8, 53#8, 39#8, 33#8, 30#8, 24#8, 18#8, 12#8, 5#8, 63#8, 55#8, 48#8, 27#8, 60#8, 41#8, 37#8, 16#8, 46#8, 35#8, 44#8, 21#8, 52#8, 32#8, 23#8, 11#8, 54#8, 26#8, 40#8, 15#8, 34#8, 20#8, 31#8, 10#8, 25#8, 14#8, 19#8, 9#8, 13#8, 8#8, 7#8, 6#8]
def Ks (p_kind : Int) : Option (JC × Bool) :=
 Option.bind (if (decide (p_kind < (1 : Int))) = true then (
 some true) else (
 some (decide ((4 : Int) < p_kind)))) fun y1 =>
 if (y1) = true then (
 some ((0, 0, 0), false)) else (
 Option.bind (Kh Kz p_kind) fun x1 =>
 some (x1, true))
def Vs (p_kind : Int) : Option Int :=
 Option.bind (Ks p_kind) fun r1 =>
 some r1.1.2.1
def U1 (p_height : Int) (p_kind : Int) : Option Bool :=
 Option.bind (if (decide ((1 : Int) ≤ p_height)) = true then (
 some (decide (p_height ≤ (4 : Int)))) else (
 some false)) fun y1 =>
 Option.bind (if (y1) = true then (
 Option.bind (Vs p_kind) fun r1 =>
 some (decide ((0 : Int) < r1))) else (
 some false)) fun y2 =>
 some y2
def Uk (p_kind : Int) : Option Int :=
 Option.bind (Ks p_kind) fun r1 =>
 if (!r1.2) = true then (
 some (0 : Int)) else (
 Option.bind (some (w64 ((4 : Int) + (w64 ((32 : Int) * (w64 ((1 : Int) + r1.1.2.1))))))) fun x1 =>
 some x1)
def Ua (p_height : Int) (p_kind : Int) : Option Int :=
 Option.bind (U1 p_height p_kind) fun r1 =>
 if (!r1) = true then (
 some (0 : Int)) else (
 Option.bind (Uk p_kind) fun r2 =>
 Option.bind (some (w64 ((w64 ((8 : Int) + r2)) + (w64 ((32 : Int) * p_height))))) fun x1 =>
 some x1)
def Jh (p_x : BitVec 32) (p_k : Int) : Option (BitVec 32) :=
 Option.bind (some ((p_x <<< (((BitVec.ofInt 64 p_k) &&& (31#64)).toNat)) ||| (p_x >>> (((32#64) - ((BitVec.ofInt 64 p_k) &&& (31#64))).toNat)))) fun x1 =>
 some x1
def Xu (x1 : List (BitVec 8)) (y1 : Int) (y2 : Vector (BitVec 32) 64) : Option (LR (Int × (Vector (BitVec 32) 64)) Empty) :=
 if (decide (y1 < (x1.length : Int))) = true then (
 Option.bind (JW x1 y1) fun x2 =>
 Option.bind (Kh y2 (w64 (Int.tdiv y1 (4 : Int)))) fun x3 =>
 if 0 ≤ w64 (Int.tdiv y1 (4 : Int)) ∧ w64 (Int.tdiv y1 (4 : Int)) < (64 : Int) then (
 Option.bind (some ((y2.setIfInBounds ((w64 (Int.tdiv y1 (4 : Int))).toNat) ((x3 <<< 8) ||| (x2.setWidth 32))))) fun x4 =>
 some (.next (w64 (y1 + (1 : Int)), x4))) else none) else (
 some (.brk (y1, y2)))
def Xw (y5 : Int) (y6 : Vector (BitVec 32) 64) : Option (LR (Int × (Vector (BitVec 32) 64)) Empty) :=
 if (decide (y5 < (64 : Int))) = true then (
 Option.bind (Kh y6 (w64 (y5 - (15 : Int)))) fun x5 =>
 Option.bind (Jh x5 (-7 : Int)) fun r1 =>
 Option.bind (Kh y6 (w64 (y5 - (15 : Int)))) fun x6 =>
 Option.bind (Jh x6 (-18 : Int)) fun r2 =>
 Option.bind (Kh y6 (w64 (y5 - (15 : Int)))) fun x7 =>
 Option.bind (Kh y6 (w64 (y5 - (2 : Int)))) fun x8 =>
 Option.bind (Jh x8 (-17 : Int)) fun r3 =>
 Option.bind (Kh y6 (w64 (y5 - (2 : Int)))) fun x9 =>
 Option.bind (Jh x9 (-19 : Int)) fun r4 =>
 Option.bind (Kh y6 (w64 (y5 - (2 : Int)))) fun x10 =>
 Option.bind (Kh y6 (w64 (y5 - (16 : Int)))) fun x11 =>
 Option.bind (Kh y6 (w64 (y5 - (7 : Int)))) fun x12 =>
 if 0 ≤ y5 ∧ y5 < (64 : Int) then (
 Option.bind (some ((y6.setIfInBounds y5.toNat (((x11 + ((r1 ^^^ r2) ^^^ (x7 >>> 3))) + x12) + ((r3 ^^^ r4) ^^^ (x10 >>> 10)))))) fun x13 =>
 some (.next (w64 (y5 + (1 : Int)), x13))) else none) else (
 some (.brk (y5, y6)))
def Kx (p_block : List (BitVec 8)) : Option (Vector (BitVec 32) 64) :=
 Option.bind (Zk p_block 0 (64 : Int)) fun x1 =>
 Option.bind (Q3 (fun (s : Int × (Vector (BitVec 32) 64)) => Xu x1 s.1 s.2) FU ((0 : Int), (Vector.replicate 64 (0#32)))) fun (s2 : Int × (Vector (BitVec 32) 64)) =>
 Option.bind (Q3 (fun (s : Int × (Vector (BitVec 32) 64)) => Xw s.1 s.2) FU ((16 : Int), s2.2)) fun (s1 : Int × (Vector (BitVec 32) 64)) =>
 some s1.2
def Ze (r1 : (Vector (BitVec 32) 64)) (y1 : Int) (y2 : Q4) : Option (LR (Int × Q4) Empty) :=
 if (decide (y1 < (64 : Int))) = true then (
 Option.bind (Jh (y2[4]) (-6 : Int)) fun r2 =>
 Option.bind (Jh (y2[4]) (-11 : Int)) fun r3 =>
 Option.bind (Jh (y2[4]) (-25 : Int)) fun r4 =>
 Option.bind (Kh YX y1) fun x1 =>
 Option.bind (Kh r1 y1) fun x2 =>
 Option.bind (some (((((y2[7]) + ((r2 ^^^ r3) ^^^ r4)) + ((y2[6]) ^^^ ((y2[4]) &&& ((y2[5]) ^^^ (y2[6]))))) + x1) + x2)) fun x3 =>
 Option.bind (Jh (y2[0]) (-2 : Int)) fun r5 =>
 Option.bind (Jh (y2[0]) (-13 : Int)) fun r6 =>
 Option.bind (Jh (y2[0]) (-22 : Int)) fun r7 =>
 Option.bind (some (((r5 ^^^ r6) ^^^ r7) + (((y2[0]) &&& (y2[1])) ||| ((y2[2]) &&& ((y2[0]) ||| (y2[1])))))) fun x4 =>
 Option.bind (some (#v[x3 + x4, y2[0], y2[1], y2[2], (y2[3]) + x3, y2[4], y2[5], y2[6]])) fun x5 =>
 some (.next (w64 (y1 + (1 : Int)), x5))) else (
 some (.brk (y1, y2)))
def Va (y4 : Q4) (y5 : Int) (y6 : Q4) : Option (LR (Int × Q4) Empty) :=
 if (decide (y5 < (8 : Int))) = true then (
 Option.bind (Kh y6 y5) fun x6 =>
 Option.bind (Kh y4 y5) fun x7 =>
 if 0 ≤ y5 ∧ y5 < (8 : Int) then (
 some (.next (w64 (y5 + (1 : Int)), (y6.setIfInBounds y5.toNat (x6 + x7))))) else none) else (
 some (.brk (y5, y6)))
def YT (p_s : Q4) (p_b : List (BitVec 8)) : Option Q4 :=
 Option.bind (Kx p_b) fun r1 =>
 Option.bind (Q3 (fun (s : Int × Q4) => Ze r1 s.1 s.2) FU ((0 : Int), p_s)) fun (s2 : Int × Q4) =>
 Option.bind (Q3 (fun (s : Int × Q4) => Va s2.2 s.1 s.2) FU ((0 : Int), p_s)) fun (s1 : Int × Q4) =>
 some s1.2
def Ka (y1 : List (BitVec 8)) (y2 : Q4) : Option (LR ((List (BitVec 8)) × Q4) Empty) :=
 if (decide ((64 : Int) ≤ (y1.length : Int))) = true then (
 Option.bind (YT y2 y1) fun r1 =>
 Option.bind (Zk y1 (64 : Int) (y1.length : Int)) fun x1 =>
 some (.next (x1, r1))) else (
 some (.brk (y1, y2)))
def KM (y5 : Int) (p_b : List (BitVec 8)) (y6 : Int) (y7 : Vector (BitVec 8) 128) : Option (LR (Int × (Vector (BitVec 8) 128)) Empty) :=
 if (decide (y6 < (8 : Int))) = true then (
 if 0 ≤ w64 ((8 : Int) * y6) then (
 if 0 ≤ w64 ((w64 (y5 - (1 : Int))) - y6) ∧ w64 ((w64 (y5 - (1 : Int))) - y6) < (128 : Int) then (
 Option.bind (some ((y7.setIfInBounds ((w64 ((w64 (y5 - (1 : Int))) - y6)).toNat) ((((BitVec.ofInt 64 (p_b.length : Int)) <<< 3) >>> ((w64 ((8 : Int) * y6)).toNat)).setWidth 8)))) fun x3 =>
 some (.next (w64 (y6 + (1 : Int)), x3))) else none) else none) else (
 some (.brk (y6, y7)))
def KN (y10 : Q4) (y11 : Int) (y12 : Qa) : Option (LR (Int × Qa) Empty) :=
 if (decide (y11 < (32 : Int))) = true then (
 Option.bind (Kh y10 (w64 (Int.tdiv y11 (4 : Int)))) fun x4 =>
 if 0 ≤ w64 ((24 : Int) - (w64 ((8 : Int) * (Int.tmod y11 (4 : Int))))) then (
 if 0 ≤ y11 ∧ y11 < (32 : Int) then (
 Option.bind (some ((y12.setIfInBounds y11.toNat ((x4 >>> ((w64 ((24 : Int) - (w64 ((8 : Int) * (Int.tmod y11 (4 : Int)))))).toNat)).setWidth 8)))) fun x5 =>
 some (.next (w64 (y11 + (1 : Int)), x5))) else none) else none) else (
 some (.brk (y11, y12)))
def KZ (p_b : List (BitVec 8)) : Option Qa :=
 Option.bind (Q3 (fun (s : (List (BitVec 8)) × Q4) => Ka s.1 s.2) FU (p_b, Zu)) fun (s3 : (List (BitVec 8)) × Q4) =>
 Option.bind (if (decide ((56 : Int) ≤ (s3.1.length : Int))) = true then (
 some (128 : Int)) else (
 some (64 : Int))) fun y5 =>
 if 0 ≤ (s3.1.length : Int) ∧ (s3.1.length : Int) < (128 : Int) then (
 Option.bind (some (((Qgw (Vector.replicate 128 (0#8)) 0 (s3.1.take 128)).setIfInBounds ((s3.1.length : Int).toNat) (128#8)))) fun x2 =>
 Option.bind (Q3 (fun (s : Int × (Vector (BitVec 8) 128)) => KM y5 p_b s.1 s.2) FU ((0 : Int), x2)) fun (s2 : Int × (Vector (BitVec 8) 128)) =>
 Option.bind (YT s3.2 s2.2.toList) fun r2 =>
 Option.bind (if (decide (y5 = (128 : Int))) = true then (
 Option.bind (YT r2 ((s2.2.toList.drop 64).take 64)) fun r3 =>
 some r3) else (
 some r2)) fun y10 =>
 Option.bind (Q3 (fun (s : Int × Qa) => KN y10 s.1 s.2) FU ((0 : Int), (Vector.replicate 32 (0#8)))) fun (s1 : Int × Qa) =>
 some s1.2) else none
def Ke (p_parts : List (List (BitVec 8))) (y1 : Int) (y2 : Int) : Option (LR (Int × Int) Empty) :=
 if (decide (y2 < (p_parts.length : Int))) = true then (
 Option.bind (JW p_parts y2) fun x1 =>
 Option.bind (some (w64 (y1 + (w64 ((4 : Int) + (x1.length : Int)))))) fun x2 =>
 some (.next (x2, w64 (y2 + (1 : Int))))) else (
 some (.brk (y1, y2)))
def Ko (p_parts : List (List (BitVec 8))) (y5 : Int) (y6 : List (BitVec 8)) : Option (LR (Int × (List (BitVec 8))) Empty) :=
 if (decide (y5 < (p_parts.length : Int))) = true then (
 Option.bind (JW p_parts y5) fun x3 =>
 if y6.length + ([((BitVec.ofInt 32 (x3.length : Int)) >>> 24).setWidth 8, ((BitVec.ofInt 32 (x3.length : Int)) >>> 16).setWidth 8, ((BitVec.ofInt 32 (x3.length : Int)) >>> 8).setWidth 8, (BitVec.ofInt 32 (x3.length : Int)).setWidth 8]).length ≤ AP then (
 if (y6 ++ ([((BitVec.ofInt 32 (x3.length : Int)) >>> 24).setWidth 8, ((BitVec.ofInt 32 (x3.length : Int)) >>> 16).setWidth 8, ((BitVec.ofInt 32 (x3.length : Int)) >>> 8).setWidth 8, (BitVec.ofInt 32 (x3.length : Int)).setWidth 8])).length + x3.length ≤ AP then (
 some (.next (w64 (y5 + (1 : Int)), ((y6 ++ ([((BitVec.ofInt 32 (x3.length : Int)) >>> 24).setWidth 8, ((BitVec.ofInt 32 (x3.length : Int)) >>> 16).setWidth 8, ((BitVec.ofInt 32 (x3.length : Int)) >>> 8).setWidth 8, (BitVec.ofInt 32 (x3.length : Int)).setWidth 8])) ++ x3)))) else none) else none) else (
 some (.brk (y5, y6)))
def Bb (p_tag : BitVec 8) (p_parts : List (List (BitVec 8))) : Option (List (BitVec 8)) :=
 Option.bind (Q3 (fun (s : Int × Int) => Ke p_parts s.1 s.2) FU ((1 : Int), (0 : Int))) fun (s2 : Int × Int) =>
 if 0 ≤ s2.1 ∧ s2.1 ≤ (4294967296 : Int) then (
 if ([] : List (BitVec 8)).length + ([p_tag]).length ≤ AP then (
 Option.bind (Q3 (fun (s : Int × (List (BitVec 8))) => Ko p_parts s.1 s.2) FU ((0 : Int), (([] : List (BitVec 8)) ++ ([p_tag])))) fun (s1 : Int × (List (BitVec 8))) =>
 some s1.2) else none) else none
def KS (p_tag : BitVec 8) (p_parts : List (List (BitVec 8))) : Option Qa :=
 Option.bind (Bb p_tag p_parts) fun r1 =>
 Option.bind (KZ r1) fun r2 =>
 some r2
def KO (p_seed : Qa) (p_number : List (BitVec 8)) : Option (QL × Qa) :=
 Option.bind (if (decide ((0 : Int) < (p_number.length : Int))) = true then (
 if ([p_seed.toList]).length + ([p_number]).length ≤ AP then (
 some (([p_seed.toList]) ++ ([p_number]))) else none) else (
 some ([p_seed.toList]))) fun y1 =>
 Option.bind (KS (105#8) y1) fun r1 =>
 Option.bind (Zk r1.toList 0 (16 : Int)) fun x1 =>
 Option.bind (Wy 16 x1) fun x2 =>
 Option.bind (KS (115#8) y1) fun r2 =>
 some (x2, r2)
def XF (p_parts : List (List (BitVec 8))) (y1 : Int) (y2 : List (BitVec 8)) : Option (LR (Int × (List (BitVec 8))) Empty) :=
 if (decide (y1 < (p_parts.length : Int))) = true then (
 Option.bind (JW p_parts y1) fun x1 =>
 if y2.length + x1.length ≤ AP then (
 some (.next (w64 (y1 + (1 : Int)), (y2 ++ x1)))) else none) else (
 some (.brk (y1, y2)))
def YN (p_id : QL) (p_q : BitVec 32) (p_i : Int) (p_parts : List (List (BitVec 8))) : Option Qa :=
 if 0 ≤ (64 : Int) ∧ (64 : Int) ≤ (4294967296 : Int) then (
 if ([] : List (BitVec 8)).length + p_id.toList.length ≤ AP then (
 if (([] : List (BitVec 8)) ++ p_id.toList).length + ([(p_q >>> 24).setWidth 8, (p_q >>> 16).setWidth 8, (p_q >>> 8).setWidth 8, p_q.setWidth 8, BitVec.ofInt 8 (U9 p_i (8 : Int)), BitVec.ofInt 8 p_i]).length ≤ AP then (
 Option.bind (Q3 (fun (s : Int × (List (BitVec 8))) => XF p_parts s.1 s.2) FU ((0 : Int), ((([] : List (BitVec 8)) ++ p_id.toList) ++ ([(p_q >>> 24).setWidth 8, (p_q >>> 16).setWidth 8, (p_q >>> 8).setWidth 8, p_q.setWidth 8, BitVec.ofInt 8 (U9 p_i (8 : Int)), BitVec.ofInt 8 p_i])))) fun (s1 : Int × (List (BitVec 8))) =>
 Option.bind (KZ s1.2) fun r1 =>
 some r1) else none) else none) else none
def Vi (p_to : Int) (p_id : QL) (p_q : BitVec 32) (p_i : Int) (y1 : Int) (y2 : Qa) : Option (LR (Int × Qa) Empty) :=
 if (decide (y1 < p_to)) = true then (
 Option.bind (YN p_id p_q p_i ([[BitVec.ofInt 8 y1], y2.toList])) fun r1 =>
 some (.next (w64 (y1 + (1 : Int)), r1))) else (
 some (.brk (y1, y2)))
def X0 (p_id : QL) (p_q : BitVec 32) (p_i : Int) (p_h : Qa) (p_from : Int) (p_to : Int) : Option Qa :=
 Option.bind (Q3 (fun (s : Int × Qa) => Vi p_to p_id p_q p_i s.1 s.2) FU (p_from, p_h)) fun (s1 : Int × Qa) =>
 some s1.2
def XZ (p_id : QL) (p_q : BitVec 32) (p_i : Int) (p_seed : Qa) : Option Qa :=
 Option.bind (YN p_id p_q p_i ([[255#8], p_seed.toList])) fun r1 =>
 some r1
def Yj (p_f : JC) : Option Int :=
 if 0 ≤ p_f.1 then (
 some (w64 ((XG (1 : Int) p_f.1) - (1 : Int)))) else none
def Xb (p_ends : List Qa) (y1 : Int) (y2 : List (BitVec 8)) : Option (LR (Int × (List (BitVec 8))) Empty) :=
 if (decide (y1 < (p_ends.length : Int))) = true then (
 Option.bind (JW p_ends y1) fun x1 =>
 if y2.length + x1.toList.length ≤ AP then (
 some (.next (w64 (y1 + (1 : Int)), (y2 ++ x1.toList)))) else none) else (
 some (.brk (y1, y2)))
def Kk (p_id : QL) (p_q : BitVec 32) (p_ends : List Qa) : Option Qa :=
 if 0 ≤ w64 ((32 : Int) * (p_ends.length : Int)) ∧ w64 ((32 : Int) * (p_ends.length : Int)) ≤ (4294967296 : Int) then (
 Option.bind (Q3 (fun (s : Int × (List (BitVec 8))) => Xb p_ends s.1 s.2) FU ((0 : Int), ([] : List (BitVec 8)))) fun (s1 : Int × (List (BitVec 8))) =>
 Option.bind (YN p_id p_q (32896 : Int) ([s1.2])) fun r1 =>
 some r1) else none
def Xe (x1 : List Qa) (p_id : QL) (p_q : BitVec 32) (p_seed : Qa) (r1 : JC × Bool) (y1 : Int) (y2 : List Qa) : Option (LR (Int × (List Qa)) Empty) :=
 if (decide (y1 < (x1.length : Int))) = true then (
 Option.bind (XZ p_id p_q y1 p_seed) fun r2 =>
 Option.bind (Yj r1.1) fun r3 =>
 Option.bind (X0 p_id p_q y1 r2 (0 : Int) r3) fun r4 =>
 if 0 ≤ y1 ∧ y1 < (y2.length : Int) then (
 some (.next (w64 (y1 + (1 : Int)), (y2.set y1.toNat r4)))) else none) else (
 some (.brk (y1, y2)))
def Uc (p_kind : Int) (p_id : QL) (p_q : BitVec 32) (p_seed : Qa) : Option (Qa × Int) :=
 Option.bind (Ks p_kind) fun r1 =>
 if (!r1.2) = true then (
 some ((Vector.replicate 32 (0#8)), (1 : Int))) else (
 if 0 ≤ r1.1.2.1 ∧ r1.1.2.1 ≤ (4294967296 : Int) then (
 Option.bind (some (List.replicate r1.1.2.1.toNat (Vector.replicate 32 (0#8)))) fun x1 =>
 Option.bind (Q3 (fun (s : Int × (List Qa)) => Xe x1 p_id p_q p_seed r1 s.1 s.2) FU ((0 : Int), x1)) fun (s1 : Int × (List Qa)) =>
 Option.bind (Kk p_id p_q s1.2) fun r5 =>
 some (r5, (0 : Int))) else none)
def ZI (p_x : BitVec 64) (y2 : Int) (y3 : List (BitVec 8)) : Option (LR (Int × (List (BitVec 8))) Empty) :=
 if (decide ((0 : Int) ≤ y2)) = true then (
 if 0 ≤ w64 ((8 : Int) * y2) then (
 if y3.length + ([(p_x >>> ((w64 ((8 : Int) * y2)).toNat)).setWidth 8]).length ≤ AP then (
 some (.next (w64 (y2 - (1 : Int)), (y3 ++ ([(p_x >>> ((w64 ((8 : Int) * y2)).toNat)).setWidth 8]))))) else none) else none) else (
 some (.brk (y2, y3)))
def ZP (p_w : (List (BitVec 8)) × Bool) (p_x : BitVec 64) (p_bytes : Int) : Option ((List (BitVec 8)) × Bool) :=
 Option.bind (some p_w.2) fun y1 =>
 if (y1) = true then (
 some (p_w.1, p_w.2)) else (
 Option.bind (Q3 (fun (s : Int × (List (BitVec 8))) => ZI p_x s.1 s.2) FU (w64 (p_bytes - (1 : Int)), p_w.1)) fun (s1 : Int × (List (BitVec 8))) =>
 some (s1.2, p_w.2))
def Zj (p_w : (List (BitVec 8)) × Bool) (p_x : BitVec 32) : Option ((List (BitVec 8)) × Bool) :=
 Option.bind (ZP (p_w.1, p_w.2) (p_x.setWidth 64) (4 : Int)) fun r1 =>
 some (r1.1, r1.2)
def JI (p_w : (List (BitVec 8)) × Bool) (p_b : List (BitVec 8)) : Option ((List (BitVec 8)) × Bool) :=
 Option.bind (some (!p_w.2)) fun y1 =>
 if (y1) = true then (
 if p_w.1.length + p_b.length ≤ AP then (
 some ((p_w.1 ++ p_b), p_w.2)) else none) else (
 some (p_w.1, p_w.2))
def Jq (p_s : List (BitVec 8)) : Option (List (BitVec 8)) :=
 if ([] : List (BitVec 8)).length + p_s.length ≤ AP then (
 some (([] : List (BitVec 8)) ++ p_s)) else none
def Yk (p_w : (List (BitVec 8)) × Bool) : Option (((List (BitVec 8)) × Bool) × (List (BitVec 8)) × Int) :=
 if (p_w.2) = true then (
 some ((p_w.1, p_w.2), ([] : List (BitVec 8)), (4 : Int))) else (
 Option.bind (Jq p_w.1) fun r1 =>
 some ((p_w.1, p_w.2), r1, (0 : Int)))
def Vu (p_w : (List (BitVec 8)) × Bool) (p_x : Int) (p_most : Int) : Option (((List (BitVec 8)) × Bool) × Bool) :=
 Option.bind (if (decide (p_x < (0 : Int))) = true then (
 some true) else (
 some (decide (p_most < p_x)))) fun y1 =>
 if (y1) = true then (
 some ((p_w.1, true), !true)) else (
 some ((p_w.1, p_w.2), !p_w.2))
def VH (p_w : (List (BitVec 8)) × Bool) (p_x : Int) : Option ((List (BitVec 8)) × Bool) :=
 Option.bind (Vu (p_w.1, p_w.2) p_x (65535 : Int)) fun r1 =>
 if (r1.2) = true then (
 Option.bind (ZP (r1.1.1, r1.1.2) (BitVec.ofInt 64 p_x) (2 : Int)) fun r2 =>
 some (r2.1, r2.2)) else (
 some (r1.1.1, r1.1.2))
def V7 (p_parts : List (List (BitVec 8))) (y1 : Int) (y2 : Bool) (y3 : List (BitVec 8)) : Option (LR (Int × Bool × (List (BitVec 8))) Empty) :=
 if (decide (y1 < (p_parts.length : Int))) = true then (
 Option.bind (JW p_parts y1) fun x1 =>
 Option.bind (JI (y3, y2) x1) fun r4 =>
 some (.next (w64 (y1 + (1 : Int)), r4.2, r4.1))) else (
 some (.brk (y1, y2, y3)))
def UF (p_id : QL) (p_r : Int) (p_under : Int) (p_parts : List (List (BitVec 8))) : Option Qa :=
 Option.bind (JI (([] : List (BitVec 8)), false) p_id.toList) fun r1 =>
 Option.bind (Zj (r1.1, r1.2) (BitVec.ofInt 32 p_r)) fun r2 =>
 Option.bind (VH (r2.1, r2.2) p_under) fun r3 =>
 Option.bind (Q3 (fun (s : Int × Bool × (List (BitVec 8))) => V7 p_parts s.1 s.2.1 s.2.2) FU ((0 : Int), r3.2, r3.1)) fun (s1 : Int × Bool × (List (BitVec 8))) =>
 Option.bind (Yk (s1.2.2, s1.2.1)) fun r5 =>
 Option.bind (KZ r5.2.1) fun r6 =>
 some r6
def Bh (p_id : QL) (p_r : Int) (p_public : Qa) : Option Qa :=
 Option.bind (UF p_id p_r (33410 : Int) ([p_public.toList])) fun r1 =>
 some r1
def Wa (p_id : QL) (p_r : Int) (p_a : Qa) (p_b : Qa) : Option Qa :=
 Option.bind (UF p_id p_r (33667 : Int) ([p_a.toList, p_b.toList])) fun r1 =>
 some r1
def Up (p_height : Int) (p_kind : Int) (p_id : QL) (p_seed : Qa) (y1 : Int) (y2 : List Qa) : Option (LR (Int × (List Qa)) ((Option QF) × Int)) :=
 if (decide (y1 < (XG (1 : Int) p_height))) = true then (
 Option.bind (Uc p_kind p_id (BitVec.ofInt 32 y1) p_seed) fun r2 =>
 if (!decide (r2.2 = (0 : Int))) = true then (
 some (.ret ((none : Option QF), r2.2))) else (
 Option.bind (Bh p_id (w64 ((XG (1 : Int) p_height) + y1)) r2.1) fun r3 =>
 if 0 ≤ w64 ((XG (1 : Int) p_height) + y1) ∧ w64 ((XG (1 : Int) p_height) + y1) < (y2.length : Int) then (
 some (.next (w64 (y1 + (1 : Int)), (y2.set ((w64 ((XG (1 : Int) p_height) + y1)).toNat) r3)))) else none)) else (
 some (.brk (y1, y2)))
def Uq (p_id : QL) (y5 : Int) (y6 : List Qa) : Option (LR (Int × (List Qa)) Empty) :=
 if (decide ((0 : Int) < y5)) = true then (
 Option.bind (JW y6 (w64 ((2 : Int) * y5))) fun x3 =>
 Option.bind (JW y6 (w64 ((w64 ((2 : Int) * y5)) + (1 : Int)))) fun x4 =>
 Option.bind (Wa p_id y5 x3 x4) fun r4 =>
 if 0 ≤ y5 ∧ y5 < (y6.length : Int) then (
 some (.next (w64 (y5 - (1 : Int)), (y6.set y5.toNat r4)))) else none) else (
 some (.brk (y5, y6)))
def qM (p_height : Int) (p_kind : Int) (p_id : QL) (p_seed : Qa) : Option ((Option QF) × Int) :=
 Option.bind (U1 p_height p_kind) fun r1 =>
 if (!r1) = true then (
 some ((none : Option QF), (1 : Int))) else (
 if 0 ≤ p_height then (
 if 0 ≤ w64 ((2 : Int) * (XG (1 : Int) p_height)) ∧ w64 ((2 : Int) * (XG (1 : Int) p_height)) ≤ (4294967296 : Int) then (
 Option.bind (some (List.replicate (w64 ((2 : Int) * (XG (1 : Int) p_height))).toNat (Vector.replicate 32 (0#8)))) fun x1 =>
 Option.bind (ZO (fun (s : Int × (List Qa)) => Up p_height p_kind p_id p_seed s.1 s.2) FU ((0 : Int), x1)) fun o => match o with
 | .inl (s2 : Int × (List Qa)) => (
 Option.bind (some (w64 ((XG (1 : Int) p_height) - (1 : Int)))) fun x2 =>
 Option.bind (Q3 (fun (s : Int × (List Qa)) => Uq p_id s.1 s.2) FU (x2, s2.2)) fun (s1 : Int × (List Qa)) =>
 some ((some (p_height, p_kind, p_id, p_seed, s1.2)), (0 : Int)))
 | .inr x => some x) else none) else none)
def qv (p_top : Int) (p_bottom : Int) (p_kind : Int) (p_seed : Qa) : Option ((Option (Int × Int × Qa × (Option QF) × (Option QF) × Int)) × Int) :=
 Option.bind (Ua p_bottom p_kind) fun r1 =>
 if (decide (r1 = (0 : Int))) = true then (
 some (none, (1 : Int))) else (
 Option.bind (KO p_seed ([] : List (BitVec 8))) fun r2 =>
 Option.bind (qM p_top p_kind r2.1 r2.2) fun r3 =>
 if (!decide (r3.2 = (0 : Int))) = true then (
 some (none, r3.2)) else (
 Option.bind (some ((p_bottom, p_kind, p_seed, r3.1, (none : Option QF), (-1 : Int)))) fun x1 =>
 some ((some x1), (0 : Int))))
def K5 (p_h : JP) : Option Bool :=
 Option.bind (if (decide ((1 : Int) ≤ p_h.1)) = true then (
 some (decide (p_h.1 < (2147483648 : Int)))) else (
 some false)) fun y1 =>
 Option.bind (if (y1) = true then (
 some (decide ((1 : Int) ≤ p_h.2.1))) else (
 some false)) fun y2 =>
 Option.bind (if (y2) = true then (
 some (decide (p_h.2.1 < (2147483648 : Int)))) else (
 some false)) fun y3 =>
 some y3
def KP (p_h : JP) : Option ((List (BitVec 8)) × Int) :=
 Option.bind (K5 p_h) fun r1 =>
 if (!r1) = true then (
 some (([] : List (BitVec 8)), (1 : Int))) else (
 Option.bind (Zj (([] : List (BitVec 8)), false) (BitVec.ofInt 32 p_h.1)) fun r2 =>
 Option.bind (Zj (r2.1, r2.2) (BitVec.ofInt 32 p_h.2.1)) fun r3 =>
 Option.bind (JI (r3.1, r3.2) p_h.2.2.1.toList) fun r4 =>
 Option.bind (JI (r4.1, r4.2) p_h.2.2.2.toList) fun r5 =>
 Option.bind (Yk (r5.1, r5.2)) fun r6 =>
 some (r6.2.1, r6.2.2))
def JU (p_n : Int) : Option (List (BitVec 8)) :=
 if (decide (p_n < (0 : Int))) = true then none else (
 Option.bind (some (w64 (p_n - (w64 ((0 : Int) - (0 : Int)))))) fun x1 =>
 if (decide ((0 : Int) < x1)) = true then (
 if 0 < x1 ∧ x1 ≤ (4294967296 : Int) then (
 if 0 ≤ (0 : Int) ∧ (0 : Int) ≤ ((List.replicate x1.toNat (0#8)).length : Int) then (
 some ((List.replicate x1.toNat (0#8)).take (0 : Int).toNat)) else none) else none) else (
 some ([] : List (BitVec 8))))
def Jl (p_slices : List (List (BitVec 8))) (y1 : Int) (y2 : Int) : Option (LR (Int × Int) Empty) :=
 if (decide (y2 < (p_slices.length : Int))) = true then (
 Option.bind (JW p_slices y2) fun x1 =>
 if (decide ((w64 (y1 + (x1.length : Int))) < (0 : Int))) = true then none else (
 some (.next (w64 (y1 + (x1.length : Int)), w64 (y2 + (1 : Int)))))) else (
 some (.brk (y1, y2)))
def Jk (p_slices : List (List (BitVec 8))) (y5 : Int) (y6 : List (BitVec 8)) : Option (LR (Int × (List (BitVec 8))) Empty) :=
 if (decide (y5 < (p_slices.length : Int))) = true then (
 Option.bind (JW p_slices y5) fun x2 =>
 if y6.length + x2.length ≤ AP then (
 some (.next (w64 (y5 + (1 : Int)), (y6 ++ x2)))) else none) else (
 some (.brk (y5, y6)))
def JR (p_slices : List (List (BitVec 8))) : Option (List (BitVec 8)) :=
 Option.bind (Q3 (fun (s : Int × Int) => Jl p_slices s.1 s.2) FU ((0 : Int), (0 : Int))) fun (s2 : Int × Int) =>
 Option.bind (JU s2.1) fun r1 =>
 Option.bind (Q3 (fun (s : Int × (List (BitVec 8))) => Jk p_slices s.1 s.2) FU ((0 : Int), r1)) fun (s1 : Int × (List (BitVec 8))) =>
 some s1.2
def XN (p_t : Option QF) : Option (List (BitVec 8)) :=
 if (p_t.isNone) = true then (
 some ([] : List (BitVec 8))) else (
 Option.bind (p_t) fun x1 =>
 Option.bind (Zj (([] : List (BitVec 8)), false) (BitVec.ofInt 32 x1.1)) fun r1 =>
 Option.bind (p_t) fun x2 =>
 Option.bind (Zj (r1.1, r1.2) (BitVec.ofInt 32 x2.2.1)) fun r2 =>
 Option.bind (p_t) fun x3 =>
 Option.bind (JI (r2.1, r2.2) x3.2.2.1.toList) fun r3 =>
 Option.bind (p_t) fun x4 =>
 Option.bind (JW x4.2.2.2.2 (1 : Int)) fun x5 =>
 Option.bind (JI (r3.1, r3.2) x5.toList) fun r4 =>
 Option.bind (Yk (r4.1, r4.2)) fun r5 =>
 some r5.2.1)
def X4 (p_t : Option QF) : Option Int :=
 if (p_t.isNone) = true then (
 some (0 : Int)) else (
 Option.bind (p_t) fun x1 =>
 if 0 ≤ x1.1 then (
 some (XG (1 : Int) x1.1)) else none)
def Vx (p_s : Int × Int × Qa × (Option QF) × (Option QF) × Int) : Option Int :=
 Option.bind (X4 p_s.2.2.2.1) fun r1 =>
 if 0 ≤ p_s.1 then (
 some (XG r1 p_s.1)) else none
def VG (p_s : Int × Int × Qa × (Option QF) × (Option QF) × Int) (p_i : Int) : Option ((Int × Int × Qa × (Option QF) × (Option QF) × Int) × (Option QF) × Int) :=
 if (decide (p_s.2.2.2.2.2 = p_i)) = true then (
 some ((p_s.1, p_s.2.1, p_s.2.2.1, p_s.2.2.2.1, p_s.2.2.2.2.1, p_s.2.2.2.2.2), p_s.2.2.2.2.1, (0 : Int))) else (
 Option.bind (KO p_s.2.2.1 ([BitVec.ofInt 8 (U9 p_i (24 : Int)), BitVec.ofInt 8 (U9 p_i (16 : Int)), BitVec.ofInt 8 (U9 p_i (8 : Int)), BitVec.ofInt 8 p_i])) fun r1 =>
 Option.bind (qM p_s.1 p_s.2.1 r1.1 r1.2) fun r2 =>
 if (!decide (r2.2 = (0 : Int))) = true then (
 some ((p_s.1, p_s.2.1, p_s.2.2.1, p_s.2.2.2.1, p_s.2.2.2.2.1, p_s.2.2.2.2.2), (none : Option QF), r2.2)) else (
 some ((p_s.1, p_s.2.1, p_s.2.2.1, p_s.2.2.2.1, r2.1, p_i), r2.1, (0 : Int))))
def Yy {Sy : Type} (p_f : JC) (yl : Sy → Int → Option Sy) (x1 : BitVec 8) (y3 : Int) (y4 : Sy) : Option (LR (Int × Sy) Empty) :=
 if (decide ((0 : Int) ≤ y3)) = true then (
 if 0 ≤ y3 then (
 Option.bind (Yj p_f) fun r1 =>
 Option.bind (yl y4 (Qfr (U9 (x1.toNat : Int) y3) r1)) fun y5 =>
 some (.next (w64 (y3 - p_f.1), y5))) else none) else (
 some (.brk (y3, y4)))
def YC {Sy : Type} (p_b : List (BitVec 8)) (p_f : JC) (yl : Sy → Int → Option Sy) (y1 : Int) (y2 : Sy) : Option (LR (Int × Sy) Empty) :=
 if (decide (y1 < (p_b.length : Int))) = true then (
 Option.bind (JW p_b y1) fun x1 =>
 Option.bind (Q3 (fun (s : Int × Sy) => Yy p_f yl x1 s.1 s.2) FU (w64 ((8 : Int) - p_f.1), y2)) fun (s1 : Int × Sy) =>
 some (.next (w64 (y1 + (1 : Int)), s1.2))) else (
 some (.brk (y1, y2)))
def Vj {Sy : Type} (p_f : JC) (p_b : List (BitVec 8)) (yl : Sy → Int → Option Sy) (s0 : Sy) : Option Sy :=
 Option.bind (Q3 (fun (s : Int × Sy) => YC p_b p_f yl s.1 s.2) FU ((0 : Int), s0)) fun (s2 : Int × Sy) =>
 some s2.2
def Kl {Sy : Type} (yl : Sy → Int → Option Sy) (q_0 : JC) (q_1 : Qa) (s0 : Sy) : Option Sy :=
 Option.bind (Vj q_0 q_1.toList yl s0) fun y1 =>
 some y1
def Yc (p_f : JC) (y1 : Int) (d : Int) : Option Int :=
 Option.bind (Yj p_f) fun r1 =>
 some (w64 (y1 + (w64 (r1 - d))))
def V3 (p_f : JC) (p_h : Qa) : Option (List (BitVec 8)) :=
 Option.bind (Kl (fun (s : Int) (d : Int) => Yc p_f s d) p_f p_h (0 : Int)) fun (s1 : Int) =>
 if 0 ≤ p_f.2.2 then (
 some ([BitVec.ofInt 8 (U9 (XG s1 p_f.2.2) (8 : Int)), BitVec.ofInt 8 (XG s1 p_f.2.2)])) else none
def Vb {Sy : Type} (yl : Sy → Int → Option Sy) (q_0 : JC) (q_1 : List (BitVec 8)) (s0 : Sy) : Option Sy :=
 Option.bind (Vj q_0 q_1 yl s0) fun y1 =>
 some y1
def J3 (p_f : JC) (y1 : List Int) (d : Int) : Option (List Int) :=
 if (decide ((y1.length : Int) < p_f.2.1)) = true then (
 if y1.length + ([d]).length ≤ AP then (
 some (y1 ++ ([d]))) else none) else (
 some y1)
def Xa (p_f : JC) (p_h : Qa) : Option (List Int) :=
 if 0 ≤ p_f.2.1 ∧ p_f.2.1 ≤ (4294967296 : Int) then (
 Option.bind (V3 p_f p_h) fun r1 =>
 if 0 < r1.length ∧ p_h.toList.length + r1.length ≤ AP then (
 Option.bind (Vb (fun (s : (List Int)) (d : Int) => J3 p_f s d) p_f (p_h.toList ++ r1) ([] : List Int)) fun (s1 : (List Int)) =>
 some s1) else none) else none
def X7 (r6 : (List Int)) (p_id : QL) (p_q : BitVec 32) (p_seed : Qa) (y1 : Int) (y2 : Bool) (y3 : List (BitVec 8)) : Option (LR (Int × Bool × (List (BitVec 8))) Empty) :=
 if (decide (y1 < (r6.length : Int))) = true then (
 Option.bind (JW r6 y1) fun x1 =>
 Option.bind (XZ p_id p_q y1 p_seed) fun r7 =>
 Option.bind (X0 p_id p_q y1 r7 (0 : Int) x1) fun r8 =>
 Option.bind (JI (y3, y2) r8.toList) fun r9 =>
 some (.next (w64 (y1 + (1 : Int)), r9.2, r9.1))) else (
 some (.brk (y1, y2, y3)))
def Wk (p_kind : Int) (p_id : QL) (p_q : BitVec 32) (p_seed : Qa) (p_message : List (BitVec 8)) : Option ((List (BitVec 8)) × Int) :=
 Option.bind (Ks p_kind) fun r1 =>
 if (!r1.2) = true then (
 some (([] : List (BitVec 8)), (1 : Int))) else (
 Option.bind (XZ p_id p_q (65533 : Int) p_seed) fun r2 =>
 Option.bind (Zj (([] : List (BitVec 8)), false) (BitVec.ofInt 32 p_kind)) fun r3 =>
 Option.bind (JI (r3.1, r3.2) r2.toList) fun r4 =>
 Option.bind (YN p_id p_q (33153 : Int) ([r2.toList, p_message])) fun r5 =>
 Option.bind (Xa r1.1 r5) fun r6 =>
 Option.bind (Q3 (fun (s : Int × Bool × (List (BitVec 8))) => X7 r6 p_id p_q p_seed s.1 s.2.1 s.2.2) FU ((0 : Int), r4.2, r4.1)) fun (s1 : Int × Bool × (List (BitVec 8))) =>
 Option.bind (Yk (s1.2.2, s1.2.1)) fun r10 =>
 some (r10.2.1, r10.2.2))
def Xx (p_t : Option QF) (y2 : Int) (y3 : Bool) (y4 : List (BitVec 8)) : Option (LR (Int × Bool × (List (BitVec 8))) Empty) :=
 if (decide ((1 : Int) < y2)) = true then (
 Option.bind (p_t) fun x5 =>
 Option.bind (JW x5.2.2.2.2 (Qlt y2 (1 : Int))) fun x6 =>
 Option.bind (JI (y4, y3) x6.toList) fun r7 =>
 some (.next (w64 (Int.tdiv y2 (2 : Int)), r7.2, r7.1))) else (
 some (.brk (y2, y3, y4)))
def VN (p_t : Option QF) (p_q : Int) (p_message : List (BitVec 8)) : Option ((List (BitVec 8)) × Int) :=
 if (p_t.isNone) = true then (
 some (([] : List (BitVec 8)), (1 : Int))) else (
 Option.bind (if (decide (p_q < (0 : Int))) = true then (
 some true) else (
 Option.bind (X4 p_t) fun r1 =>
 some (decide (r1 ≤ p_q)))) fun y1 =>
 if (y1) = true then (
 some (([] : List (BitVec 8)), (7 : Int))) else (
 Option.bind (p_t) fun x1 =>
 Option.bind (p_t) fun x2 =>
 Option.bind (p_t) fun x3 =>
 Option.bind (Wk x1.2.1 x2.2.2.1 (BitVec.ofInt 32 p_q) x3.2.2.2.1 p_message) fun r2 =>
 if (!decide (r2.2 = (0 : Int))) = true then (
 some (([] : List (BitVec 8)), r2.2)) else (
 Option.bind (Zj (([] : List (BitVec 8)), false) (BitVec.ofInt 32 p_q)) fun r3 =>
 Option.bind (JI (r3.1, r3.2) r2.1) fun r4 =>
 Option.bind (p_t) fun x4 =>
 Option.bind (Zj (r4.1, r4.2) (BitVec.ofInt 32 x4.1)) fun r5 =>
 Option.bind (X4 p_t) fun r6 =>
 Option.bind (Q3 (fun (s : Int × Bool × (List (BitVec 8))) => Xx p_t s.1 s.2.1 s.2.2) FU (w64 (r6 + p_q), r5.2, r5.1)) fun (s1 : Int × Bool × (List (BitVec 8))) =>
 Option.bind (Yk (s1.2.2, s1.2.1)) fun r8 =>
 some (r8.2.1, r8.2.2))))
def Vz (p_s : Int × Int × Qa × (Option QF) × (Option QF) × Int) (p_n : Int) (p_message : List (BitVec 8)) : Option ((Int × Int × Qa × (Option QF) × (Option QF) × Int) × (List (BitVec 8)) × Int) :=
 Option.bind (if (decide (p_n < (0 : Int))) = true then (
 some true) else (
 Option.bind (Vx (p_s.1, p_s.2.1, p_s.2.2.1, p_s.2.2.2.1, p_s.2.2.2.2.1, p_s.2.2.2.2.2)) fun r1 =>
 some (decide (r1 ≤ p_n)))) fun y1 =>
 if (y1) = true then (
 some ((p_s.1, p_s.2.1, p_s.2.2.1, p_s.2.2.2.1, p_s.2.2.2.2.1, p_s.2.2.2.2.2), ([] : List (BitVec 8)), (7 : Int))) else (
 if 0 ≤ p_s.1 then (
 if 0 ≤ p_s.1 then (
 Option.bind (some (Qfr p_n (w64 ((XG (1 : Int) p_s.1) - (1 : Int))))) fun x1 =>
 Option.bind (VG (p_s.1, p_s.2.1, p_s.2.2.1, p_s.2.2.2.1, p_s.2.2.2.2.1, p_s.2.2.2.2.2) (U9 p_n p_s.1)) fun r2 =>
 if (!decide (r2.2.2 = (0 : Int))) = true then (
 some ((r2.1.1, r2.1.2.1, r2.1.2.2.1, r2.1.2.2.2.1, r2.1.2.2.2.2.1, r2.1.2.2.2.2.2), ([] : List (BitVec 8)), r2.2.2)) else (
 Option.bind (XN r2.2.1) fun r3 =>
 Option.bind (VN r2.1.2.2.2.1 (U9 p_n p_s.1) r3) fun r4 =>
 if (!decide (r4.2 = (0 : Int))) = true then (
 some ((r2.1.1, r2.1.2.1, r2.1.2.2.1, r2.1.2.2.2.1, r2.1.2.2.2.2.1, r2.1.2.2.2.2.2), ([] : List (BitVec 8)), r4.2)) else (
 Option.bind (VN r2.2.1 x1 p_message) fun r5 =>
 if (!decide (r5.2 = (0 : Int))) = true then (
 some ((r2.1.1, r2.1.2.1, r2.1.2.2.1, r2.1.2.2.2.1, r2.1.2.2.2.2.1, r2.1.2.2.2.2.2), ([] : List (BitVec 8)), r5.2)) else (
 Option.bind (JR ([[0#8, 0#8, 0#8, 1#8], r4.1, r3, r5.1])) fun r6 =>
 some ((r2.1.1, r2.1.2.1, r2.1.2.2.1, r2.1.2.2.2.1, r2.1.2.2.2.2.1, r2.1.2.2.2.2.2), r6, (0 : Int)))))) else none) else none)
def W9 (p_s : Int × Int × Qa × (Option QF) × (Option QF) × Int) (p_n : Int) (p_h : JP) : Option ((Int × Int × Qa × (Option QF) × (Option QF) × Int) × QB × Int) :=
 Option.bind (KP p_h) fun r1 =>
 if (!decide (r1.2 = (0 : Int))) = true then (
 Option.bind (some (((0, 0, (Vector.replicate 32 (0#8)), (Vector.replicate 32 (0#8))), ([] : List (BitVec 8))))) fun x1 =>
 some ((p_s.1, p_s.2.1, p_s.2.2.1, p_s.2.2.2.1, p_s.2.2.2.2.1, p_s.2.2.2.2.2), x1, r1.2)) else (
 Option.bind (Vz (p_s.1, p_s.2.1, p_s.2.2.1, p_s.2.2.2.1, p_s.2.2.2.2.1, p_s.2.2.2.2.2) p_n r1.1) fun r2 =>
 if (!decide (r2.2.2 = (0 : Int))) = true then (
 Option.bind (some (((0, 0, (Vector.replicate 32 (0#8)), (Vector.replicate 32 (0#8))), ([] : List (BitVec 8))))) fun x2 =>
 some ((r2.1.1, r2.1.2.1, r2.1.2.2.1, r2.1.2.2.2.1, r2.1.2.2.2.2.1, r2.1.2.2.2.2.2), x2, r2.2.2)) else (
 Option.bind (some ((p_h, r2.2.1))) fun x3 =>
 some ((r2.1.1, r2.1.2.1, r2.1.2.2.1, r2.1.2.2.2.1, r2.1.2.2.2.2.1, r2.1.2.2.2.2.2), x3, (0 : Int))))
def VB (p_h : Zf) : Option Bool :=
 Option.bind (if (decide ((1 : Int) ≤ p_h.1)) = true then (
 some (decide (p_h.1 ≤ (2147483647 : Int)))) else (
 some false)) fun y1 =>
 Option.bind (if (y1) = true then (
 some (decide ((1 : Int) ≤ p_h.2.1))) else (
 some false)) fun y2 =>
 Option.bind (if (y2) = true then (
 some (decide (p_h.2.1 ≤ (2147483647 : Int)))) else (
 some false)) fun y3 =>
 some y3
def Z0 (p_bytes : Int) (y1 : BitVec 64) (y2 : Int) (y3 : List (BitVec 8)) : Option (LR ((BitVec 64) × Int × (List (BitVec 8))) Empty) :=
 if (decide (y2 < p_bytes)) = true then (
 if y3.length + ([(y1 % (256#64)).setWidth 8]).length ≤ AP then (
 some (.next (y1 / (256#64), w64 (y2 + (1 : Int)), (y3 ++ ([(y1 % (256#64)).setWidth 8]))))) else none) else (
 some (.brk (y1, y2, y3)))
def ZZ (y6 : List (BitVec 8)) (y7 : Int) (y8 : List (BitVec 8)) : Option (LR (Int × (List (BitVec 8))) Empty) :=
 if (decide ((0 : Int) ≤ y7)) = true then (
 Option.bind (JW y6 y7) fun x1 =>
 if y8.length + ([x1]).length ≤ AP then (
 some (.next (w64 (y7 - (1 : Int)), (y8 ++ ([x1]))))) else none) else (
 some (.brk (y7, y8)))
def ZD (p_x : BitVec 64) (p_bytes : Int) : Option (List (BitVec 8)) :=
 Option.bind (Q3 (fun (s : (BitVec 64) × Int × (List (BitVec 8))) => Z0 p_bytes s.1 s.2.1 s.2.2) FU (p_x, (0 : Int), ([] : List (BitVec 8)))) fun (s2 : (BitVec 64) × Int × (List (BitVec 8))) =>
 Option.bind (Q3 (fun (s : Int × (List (BitVec 8))) => ZZ s2.2.2 s.1 s.2) FU (w64 (p_bytes - (1 : Int)), ([] : List (BitVec 8)))) fun (s1 : Int × (List (BitVec 8))) =>
 some s1.2
def Vt : Option (Vector (BitVec 32) 8) :=
 Option.bind (some (#v[1779033703#32, 3144134277#32, 1013904242#32, 2773480762#32, 1359893119#32, 2600822924#32, 528734635#32, 1541459225#32])) fun x1 =>
 some x1
def Z1 (y1 : List (BitVec 8)) : Option (LR (List (BitVec 8)) Empty) :=
 if (!decide ((Int.tmod (y1.length : Int) (64 : Int)) = (56 : Int))) = true then (
 if y1.length + ([0#8]).length ≤ AP then (
 some (.next (y1 ++ ([0#8])))) else none) else (
 some (.brk y1))
def Xk (p_b : List (BitVec 8)) : Option (List (BitVec 8)) :=
 if ([] : List (BitVec 8)).length + p_b.length ≤ AP then (
 if (([] : List (BitVec 8)) ++ p_b).length + ([128#8]).length ≤ AP then (
 Option.bind (Q3 (fun (s : (List (BitVec 8))) => Z1 s) FU ((([] : List (BitVec 8)) ++ p_b) ++ ([128#8]))) fun (s1 : (List (BitVec 8))) =>
 Option.bind (ZD ((8#64) * (BitVec.ofInt 64 (p_b.length : Int))) (8 : Int)) fun r1 =>
 if s1.length + r1.length ≤ AP then (
 some (s1 ++ r1)) else none) else none) else none
def Jt (p_x : BitVec 32) (p_n : BitVec 32) : Option (BitVec 32) :=
 Option.bind (some ((p_x >>> p_n.toNat) ||| (p_x <<< (((32#32) - p_n).toNat)))) fun x1 =>
 some x1
def Yf (p_b : List (BitVec 8)) (y1 : BitVec 64) (y2 : Int) : Option (LR ((BitVec 64) × Int) Empty) :=
 if (decide (y2 < (p_b.length : Int))) = true then (
 Option.bind (JW p_b y2) fun x1 =>
 some (.next ((y1 * (256#64)) + (x1.setWidth 64), w64 (y2 + (1 : Int))))) else (
 some (.brk (y1, y2)))
def XC (p_b : List (BitVec 8)) : Option (BitVec 64) :=
 Option.bind (Q3 (fun (s : (BitVec 64) × Int) => Yf p_b s.1 s.2) FU (0#64, (0 : Int))) fun (s1 : (BitVec 64) × Int) =>
 some s1.1
def Ye (p_b : List (BitVec 8)) (y1 : Int) (y2 : Vector (BitVec 32) 64) : Option (LR (Int × (Vector (BitVec 32) 64)) Empty) :=
 if (decide (y1 < (16 : Int))) = true then (
 Option.bind (Zk p_b (w64 ((4 : Int) * y1)) (w64 ((w64 ((4 : Int) * y1)) + (4 : Int)))) fun x1 =>
 Option.bind (XC x1) fun r1 =>
 if 0 ≤ y1 ∧ y1 < (64 : Int) then (
 Option.bind (some ((y2.setIfInBounds y1.toNat (r1.setWidth 32)))) fun x2 =>
 some (.next (w64 (y1 + (1 : Int)), x2))) else none) else (
 some (.brk (y1, y2)))
def Yg (y5 : Int) (y6 : Vector (BitVec 32) 64) : Option (LR (Int × (Vector (BitVec 32) 64)) Empty) :=
 if (decide (y5 < (64 : Int))) = true then (
 Option.bind (Kh y6 (w64 (y5 - (15 : Int)))) fun x3 =>
 Option.bind (Kh y6 (w64 (y5 - (2 : Int)))) fun x4 =>
 Option.bind (Kh y6 (w64 (y5 - (16 : Int)))) fun x5 =>
 Option.bind (Jt x3 (7#32)) fun r2 =>
 Option.bind (Jt x3 (18#32)) fun r3 =>
 Option.bind (Kh y6 (w64 (y5 - (7 : Int)))) fun x6 =>
 Option.bind (Jt x4 (17#32)) fun r4 =>
 Option.bind (Jt x4 (19#32)) fun r5 =>
 if 0 ≤ y5 ∧ y5 < (64 : Int) then (
 Option.bind (some ((y6.setIfInBounds y5.toNat (((x5 + ((r2 ^^^ r3) ^^^ (x3 / (8#32)))) + x6) + ((r4 ^^^ r5) ^^^ (x4 / (1024#32))))))) fun x7 =>
 some (.next (w64 (y5 + (1 : Int)), x7))) else none) else (
 some (.brk (y5, y6)))
def XD (p_b : List (BitVec 8)) : Option (Vector (BitVec 32) 64) :=
 Option.bind (Q3 (fun (s : Int × (Vector (BitVec 32) 64)) => Ye p_b s.1 s.2) FU ((0 : Int), (Vector.replicate 64 (0#32)))) fun (s2 : Int × (Vector (BitVec 32) 64)) =>
 Option.bind (Q3 (fun (s : Int × (Vector (BitVec 32) 64)) => Yg s.1 s.2) FU ((16 : Int), s2.2)) fun (s1 : Int × (Vector (BitVec 32) 64)) =>
 some s1.2
def K2 : Option (Vector (BitVec 32) 64) :=
 Option.bind (some (#v[1116352408#32, 1899447441#32, 3049323471#32, 3921009573#32, 961987163#32, 1508970993#32, 2453635748#32, 2870763221#32, 3624381080#32, 310598401#32, 607225278#32, 1426881987#32, 1925078388#32, 2162078206#32, 2614888103#32, 3248222580#32, 3835390401#32, 4022224774#32, 264347078#32, 604807628#32, 770255983#32, 1249150122#32, 1555081692#32, 1996064986#32, 2554220882#32, 2821834349#32, 2952996808#32, 3210313671#32, 3336571891#32, 3584528711#32, 113926993#32, 338241895#32, 666307205#32, 773529912#32, 1294757372#32, 1396182291#32, 1695183700#32, 1986661051#32, 2177026350#32, 2456956037#32, 2730485921#32, 2820302411#32, 3259730800#32, 3345764771#32, 3516065817#32, 3600352804#32, 4094571909#32, 275423344#32, 430227734#32, 506948616#32, 659060556#32, 883997877#32, 958139571#32, 1322822218#32, 1537002063#32, 1747873779#32, 1955562222#32, 2024104815#32, 2227730452#32, 2361852424#32, 2428436474#32, 2756734187#32, 3204031479#32, 3329325298#32])) fun x1 =>
 some x1
def Yq (r2 : (Vector (BitVec 32) 64)) (r1 : (Vector (BitVec 32) 64)) (y1 : Int) (y2 : Vector (BitVec 32) 8) : Option (LR (Int × (Vector (BitVec 32) 8)) Empty) :=
 if (decide (y1 < (64 : Int))) = true then (
 Option.bind (some (((y2[4]) &&& (y2[5])) ||| (((4294967295#32) - (y2[4])) &&& (y2[6])))) fun x1 =>
 Option.bind (some ((((y2[0]) &&& (y2[1])) ||| ((y2[0]) &&& (y2[2]))) ||| ((y2[1]) &&& (y2[2])))) fun x2 =>
 Option.bind (Jt (y2[4]) (6#32)) fun r3 =>
 Option.bind (Jt (y2[4]) (11#32)) fun r4 =>
 Option.bind (Jt (y2[4]) (25#32)) fun r5 =>
 Option.bind (Kh r2 y1) fun x3 =>
 Option.bind (Kh r1 y1) fun x4 =>
 Option.bind (some (((((y2[7]) + ((r3 ^^^ r4) ^^^ r5)) + x1) + x3) + x4)) fun x5 =>
 Option.bind (Jt (y2[0]) (2#32)) fun r6 =>
 Option.bind (Jt (y2[0]) (13#32)) fun r7 =>
 Option.bind (Jt (y2[0]) (22#32)) fun r8 =>
 Option.bind (some (#v[x5 + (((r6 ^^^ r7) ^^^ r8) + x2), y2[0], y2[1], y2[2], (y2[3]) + x5, y2[4], y2[5], y2[6]])) fun x6 =>
 some (.next (w64 (y1 + (1 : Int)), x6))) else (
 some (.brk (y1, y2)))
def Ys (y4 : Vector (BitVec 32) 8) (y5 : Int) (y6 : Vector (BitVec 32) 8) : Option (LR (Int × (Vector (BitVec 32) 8)) Empty) :=
 if (decide (y5 < (8 : Int))) = true then (
 Option.bind (Kh y6 y5) fun x7 =>
 Option.bind (Kh y4 y5) fun x8 =>
 if 0 ≤ y5 ∧ y5 < (8 : Int) then (
 some (.next (w64 (y5 + (1 : Int)), (y6.setIfInBounds y5.toNat (x7 + x8))))) else none) else (
 some (.brk (y5, y6)))
def XY (p_h : Vector (BitVec 32) 8) (p_block : List (BitVec 8)) : Option (Vector (BitVec 32) 8) :=
 Option.bind (XD p_block) fun r1 =>
 Option.bind (K2) fun r2 =>
 Option.bind (Q3 (fun (s : Int × (Vector (BitVec 32) 8)) => Yq r2 r1 s.1 s.2) FU ((0 : Int), p_h)) fun (s2 : Int × (Vector (BitVec 32) 8)) =>
 Option.bind (Q3 (fun (s : Int × (Vector (BitVec 32) 8)) => Ys s2.2 s.1 s.2) FU ((0 : Int), p_h)) fun (s1 : Int × (Vector (BitVec 32) 8)) =>
 some s1.2
def YI (r2 : (List (BitVec 8))) (y1 : Int) (y2 : Vector (BitVec 32) 8) : Option (LR (Int × (Vector (BitVec 32) 8)) Empty) :=
 if (decide (y1 < (r2.length : Int))) = true then (
 Option.bind (Zk r2 y1 (w64 (y1 + (64 : Int)))) fun x1 =>
 Option.bind (XY y2 x1) fun r3 =>
 some (.next (w64 (y1 + (64 : Int)), r3))) else (
 some (.brk (y1, y2)))
def YK (y4 : Vector (BitVec 32) 8) (y5 : Int) (y6 : Qa) : Option (LR (Int × Qa) Empty) :=
 if (decide (y5 < (32 : Int))) = true then (
 Option.bind (Kh y4 (w64 (Int.tdiv y5 (4 : Int)))) fun x2 =>
 if 0 ≤ y5 ∧ y5 < (32 : Int) then (
 Option.bind (some ((y6.setIfInBounds y5.toNat ((x2 >>> (((24#32) - ((8#32) * (BitVec.ofInt 32 (Int.tmod y5 (4 : Int))))).toNat)).setWidth 8)))) fun x3 =>
 some (.next (w64 (y5 + (1 : Int)), x3))) else none) else (
 some (.brk (y5, y6)))
def Z2 (p_b : List (BitVec 8)) : Option Qa :=
 Option.bind (Vt) fun r1 =>
 Option.bind (Xk p_b) fun r2 =>
 Option.bind (Q3 (fun (s : Int × (Vector (BitVec 32) 8)) => YI r2 s.1 s.2) FU ((0 : Int), r1)) fun (s2 : Int × (Vector (BitVec 32) 8)) =>
 Option.bind (Q3 (fun (s : Int × Qa) => YK s2.2 s.1 s.2) FU ((0 : Int), (Vector.replicate 32 (0#8)))) fun (s1 : Int × Qa) =>
 some s1.2
def ZM (p_a : List (BitVec 8)) (p_b : List (BitVec 8)) (y1 : Int) : Option (LR Int Bool) :=
 if (decide (y1 < (p_a.length : Int))) = true then (
 Option.bind (JW p_a y1) fun x1 =>
 Option.bind (JW p_b y1) fun x2 =>
 if (!decide (x1 = x2)) = true then (
 some (.ret false)) else (
 some (.next (w64 (y1 + (1 : Int)))))) else (
 some (.brk y1))
def XQ (p_a : List (BitVec 8)) (p_b : List (BitVec 8)) : Option Bool :=
 if (!decide ((p_a.length : Int) = (p_b.length : Int))) = true then (
 some false) else (
 Option.bind (ZO (fun (s : Int) => ZM p_a p_b s) FU (0 : Int)) fun o => match o with
 | .inl (s1 : Int) => (
 some true)
 | .inr x => some x)
def KA (p_b : List (BitVec 8)) : Option ((List (BitVec 8)) × Bool) :=
 Option.bind (Jq p_b) fun r1 =>
 Option.bind (some ((r1, false))) fun x1 =>
 some x1
def Zo (p_r : (List (BitVec 8)) × Bool) (p_n : Int) : Option (((List (BitVec 8)) × Bool) × (List (BitVec 8))) :=
 Option.bind (some p_r.2) fun y1 =>
 if (y1) = true then (
 some ((p_r.1, p_r.2), ([] : List (BitVec 8)))) else (
 Option.bind (if (decide (p_n < (0 : Int))) = true then (
 some true) else (
 some (decide ((p_r.1.length : Int) < p_n)))) fun y2 =>
 if (y2) = true then (
 some ((p_r.1, true), ([] : List (BitVec 8)))) else (
 Option.bind (Zk p_r.1 0 p_n) fun x1 =>
 Option.bind (Zk p_r.1 p_n (p_r.1.length : Int)) fun x2 =>
 some ((x2, p_r.2), x1)))
def Z6 (x1 : List (BitVec 8)) (y3 : BitVec 64) (y4 : Int) : Option (LR ((BitVec 64) × Int) Empty) :=
 if (decide (y4 < (x1.length : Int))) = true then (
 Option.bind (JW x1 y4) fun x2 =>
 some (.next ((y3 <<< 8) ||| (x2.setWidth 64), w64 (y4 + (1 : Int))))) else (
 some (.brk (y3, y4)))
def YU (p_r : (List (BitVec 8)) × Bool) (p_bytes : Int) : Option ((BitVec 64) × Bool) :=
 Option.bind (some p_r.2) fun y1 =>
 Option.bind (if (y1) = true then (
 some true) else (
 some (decide ((p_r.1.length : Int) < p_bytes)))) fun y2 =>
 if (y2) = true then (
 some (0#64, false)) else (
 Option.bind (Zk p_r.1 0 p_bytes) fun x1 =>
 Option.bind (Q3 (fun (s : (BitVec 64) × Int) => Z6 x1 s.1 s.2) FU (0#64, (0 : Int))) fun (s1 : (BitVec 64) × Int) =>
 some (s1.1, true))
def ZS (p_r : (List (BitVec 8)) × Bool) (p_bytes : Int) : Option (((List (BitVec 8)) × Bool) × (BitVec 64)) :=
 Option.bind (YU (p_r.1, p_r.2) p_bytes) fun r1 =>
 Option.bind (Zo (p_r.1, p_r.2) p_bytes) fun r2 =>
 if (!r1.2) = true then (
 some ((r2.1.1, r2.1.2), 0#64)) else (
 some ((r2.1.1, r2.1.2), r1.1))
def Q9 (p_r : (List (BitVec 8)) × Bool) : Option (((List (BitVec 8)) × Bool) × (BitVec 32)) :=
 Option.bind (ZS (p_r.1, p_r.2) (4 : Int)) fun r1 =>
 some ((r1.1.1, r1.1.2), r1.2.setWidth 32)
def QN (p_r : (List (BitVec 8)) × Bool) (p_n : Int) : Option (((List (BitVec 8)) × Bool) × (List (BitVec 8))) :=
 Option.bind (Zo (p_r.1, p_r.2) p_n) fun r1 =>
 some ((r1.1.1, r1.1.2), r1.2)
def ZA (p_r : (List (BitVec 8)) × Bool) : Option Int :=
 some (p_r.1.length : Int)
def Zp (p_r : (List (BitVec 8)) × Bool) : Option Bool :=
 Option.bind (some p_r.2) fun y1 =>
 some y1
def Vk (p_r : (List (BitVec 8)) × Bool) : Option Bool :=
 Option.bind (Zp (p_r.1, p_r.2)) fun r1 =>
 Option.bind (if (!r1) = true then (
 Option.bind (ZA (p_r.1, p_r.2)) fun r2 =>
 some (decide (r2 = (0 : Int)))) else (
 some false)) fun y1 =>
 some y1
def X5 (p_height : Int) (y1 : Int) (y2 : List (BitVec 8)) (y3 : Bool) (y4 : List Qa) : Option (LR (Int × (List (BitVec 8)) × Bool × (List Qa)) Empty) :=
 if (decide (y1 < p_height)) = true then (
 Option.bind (QN (y2, y3) (32 : Int)) fun r7 =>
 Option.bind (Wy 32 r7.2) fun x2 =>
 if y4.length + ([x2]).length ≤ AP then (
 some (.next (w64 (y1 + (1 : Int)), r7.1.1, r7.1.2, (y4 ++ ([x2]))))) else none) else (
 some (.brk (y1, y2, y3, y4)))
def KI (p_b : List (BitVec 8)) (p_height : Int) (p_kind : Int) : Option (US × Bool) :=
 Option.bind (Ua p_height p_kind) fun r1 =>
 if (!decide ((p_b.length : Int) = r1)) = true then (
 Option.bind (some ((0, ([] : List (BitVec 8)), ([] : List Qa)))) fun x1 =>
 some (x1, false)) else (
 Option.bind (KA p_b) fun r2 =>
 Option.bind (Q9 (r2.1, r2.2)) fun r3 =>
 Option.bind (Uk p_kind) fun r4 =>
 Option.bind (QN (r3.1.1, r3.1.2) r4) fun r5 =>
 Option.bind (Q9 (r5.1.1, r5.1.2)) fun r6 =>
 Option.bind (Q3 (fun (s : Int × (List (BitVec 8)) × Bool × (List Qa)) => X5 p_height s.1 s.2.1 s.2.2.1 s.2.2.2) FU ((0 : Int), r6.1.1, r6.1.2, ([] : List Qa))) fun (s1 : Int × (List (BitVec 8)) × Bool × (List Qa)) =>
 Option.bind (Vk (s1.2.1, s1.2.2.1)) fun r8 =>
 Option.bind (if (r8) = true then (
 some (decide ((r6.2.toNat : Int) = p_height))) else (
 some false)) fun y9 =>
 Option.bind (if (y9) = true then (
 if 0 ≤ p_height then (
 some (decide ((((r3.2.toNat : Int), r5.2, s1.2.2.2).1) < (XG (1 : Int) p_height)))) else none) else (
 some false)) fun y10 =>
 Option.bind (if (y10) = true then (
 Option.bind (KA (((r3.2.toNat : Int), r5.2, s1.2.2.2).2.1)) fun r9 =>
 Option.bind (Q9 (r9.1, r9.2)) fun r10 =>
 some (decide ((r10.2.toNat : Int) = p_kind))) else (
 some false)) fun y11 =>
 some (((r3.2.toNat : Int), r5.2, s1.2.2.2), y11))
def YW (r7 : (List Int)) (r3 : JC × Bool) (p_id : QL) (p_q : BitVec 32) (y2 : Int) (y3 : List Qa) (y4 : List (BitVec 8)) (y5 : Bool) : Option (LR (Int × (List Qa) × (List (BitVec 8)) × Bool) Empty) :=
 if (decide (y2 < (r7.length : Int))) = true then (
 Option.bind (JW r7 y2) fun x2 =>
 Option.bind (QN (y4, y5) (32 : Int)) fun r8 =>
 Option.bind (Wy 32 r8.2) fun x3 =>
 Option.bind (Yj r3.1) fun r9 =>
 Option.bind (X0 p_id p_q y2 x3 x2 r9) fun r10 =>
 if 0 ≤ y2 ∧ y2 < (y3.length : Int) then (
 some (.next (w64 (y2 + (1 : Int)), (y3.set y2.toNat r10), r8.1.1, r8.1.2))) else none) else (
 some (.brk (y2, y3, y4, y5)))
def Ku (p_id : QL) (p_q : BitVec 32) (p_message : List (BitVec 8)) (p_signature : List (BitVec 8)) : Option (Qa × Bool) :=
 Option.bind (KA p_signature) fun r1 =>
 Option.bind (Q9 (r1.1, r1.2)) fun r2 =>
 Option.bind (Ks (r2.2.toNat : Int)) fun r3 =>
 Option.bind (if (!r3.2) = true then (
 some true) else (
 Option.bind (Uk (r2.2.toNat : Int)) fun r4 =>
 some (!decide ((p_signature.length : Int) = r4)))) fun y1 =>
 if (y1) = true then (
 some ((Vector.replicate 32 (0#8)), false)) else (
 Option.bind (QN (r2.1.1, r2.1.2) (32 : Int)) fun r5 =>
 if 0 ≤ r3.1.2.1 ∧ r3.1.2.1 ≤ (4294967296 : Int) then (
 Option.bind (some (List.replicate r3.1.2.1.toNat (Vector.replicate 32 (0#8)))) fun x1 =>
 Option.bind (YN p_id p_q (33153 : Int) ([r5.2, p_message])) fun r6 =>
 Option.bind (Xa r3.1 r6) fun r7 =>
 Option.bind (Q3 (fun (s : Int × (List Qa) × (List (BitVec 8)) × Bool) => YW r7 r3 p_id p_q s.1 s.2.1 s.2.2.1 s.2.2.2) FU ((0 : Int), x1, r5.1.1, r5.1.2)) fun (s1 : Int × (List Qa) × (List (BitVec 8)) × Bool) =>
 Option.bind (Kk p_id p_q s1.2.1) fun r11 =>
 some (r11, true)) else none)
def Vr (p_path : List Qa) (p_id : QL) (y1 : Int) (y2 : Int) (y3 : Qa) : Option (LR (Int × Int × Qa) Empty) :=
 if (decide (y2 < (p_path.length : Int))) = true then (
 Option.bind (JW p_path y2) fun x1 =>
 Option.bind (if (decide ((Int.tmod y1 (2 : Int)) = (1 : Int))) = true then (
 some (y3, x1)) else (
 some (x1, y3))) fun (j1 : Qa × Qa) =>
 Option.bind (Wa p_id (w64 (Int.tdiv y1 (2 : Int))) j1.2 j1.1) fun r1 =>
 some (.next (w64 (Int.tdiv y1 (2 : Int)), w64 (y2 + (1 : Int)), r1))) else (
 some (.brk (y1, y2, y3)))
def W5 (p_id : QL) (p_r : Int) (p_h : Qa) (p_path : List Qa) : Option Qa :=
 Option.bind (Q3 (fun (s : Int × Int × Qa) => Vr p_path p_id s.1 s.2.1 s.2.2) FU (p_r, (0 : Int), p_h)) fun (s1 : Int × Int × Qa) =>
 some s1.2.2
def Zq (p_s1 : List (BitVec 8)) (p_s2 : List (BitVec 8)) (y1 : Int) : Option (LR Int Bool) :=
 if (decide (y1 < (p_s1.length : Int))) = true then (
 Option.bind (JW p_s1 y1) fun x1 =>
 Option.bind (JW p_s2 y1) fun x2 =>
 if (!decide (x1 = x2)) = true then (
 some (.ret false)) else (
 some (.next (w64 (y1 + (1 : Int)))))) else (
 some (.brk y1))
def Yw (p_s1 : List (BitVec 8)) (p_s2 : List (BitVec 8)) : Option Bool :=
 if (!decide ((p_s1.length : Int) = (p_s2.length : Int))) = true then (
 some false) else (
 Option.bind (ZO (fun (s : Int) => Zq p_s1 p_s2 s) FU (0 : Int)) fun o => match o with
 | .inl (s1 : Int) => (
 some true)
 | .inr x => some x)
def Ur (p_public : List (BitVec 8)) (p_message : List (BitVec 8)) (p_sig : List (BitVec 8)) : Option Bool :=
 if (!decide ((p_public.length : Int) = (56 : Int))) = true then (
 some false) else (
 Option.bind (KA p_public) fun r1 =>
 Option.bind (Q9 (r1.1, r1.2)) fun r2 =>
 Option.bind (Q9 (r2.1.1, r2.1.2)) fun r3 =>
 Option.bind (QN (r3.1.1, r3.1.2) (16 : Int)) fun r4 =>
 Option.bind (Wy 16 r4.2) fun x1 =>
 Option.bind (QN (r4.1.1, r4.1.2) (32 : Int)) fun r5 =>
 Option.bind (U1 (r2.2.toNat : Int) (r3.2.toNat : Int)) fun r6 =>
 if (!r6) = true then (
 some false) else (
 Option.bind (KI p_sig (r2.2.toNat : Int) (r3.2.toNat : Int)) fun r7 =>
 if (!r7.2) = true then (
 some false) else (
 Option.bind (Ku x1 (BitVec.ofInt 32 r7.1.1) p_message r7.1.2.1) fun r8 =>
 if (!r8.2) = true then (
 some false) else (
 if 0 ≤ (r2.2.toNat : Int) then (
 Option.bind (some (w64 ((XG (1 : Int) (r2.2.toNat : Int)) + r7.1.1))) fun x2 =>
 Option.bind (Bh x1 x2 r8.1) fun r9 =>
 Option.bind (W5 x1 x2 r9 r7.1.2.2) fun r10 =>
 Option.bind (Yw r10.toList r5.2) fun r11 =>
 some r11) else none))))
def Wz (p_public : List (BitVec 8)) (p_message : List (BitVec 8)) (p_signature : List (BitVec 8)) : Option Bool :=
 if (!decide ((p_public.length : Int) = (60 : Int))) = true then (
 some false) else (
 Option.bind (KA p_public) fun r1 =>
 Option.bind (Q9 (r1.1, r1.2)) fun r2 =>
 if (!decide (r2.2 = (2#32))) = true then (
 some false) else (
 Option.bind (Q9 (r2.1.1, r2.1.2)) fun r3 =>
 Option.bind (Q9 (r3.1.1, r3.1.2)) fun r4 =>
 Option.bind (KA p_signature) fun r5 =>
 Option.bind (Q9 (r5.1, r5.2)) fun r6 =>
 if (!decide (r6.2 = (1#32))) = true then (
 some false) else (
 Option.bind (Ua (r3.2.toNat : Int) (r4.2.toNat : Int)) fun r7 =>
 Option.bind (QN (r6.1.1, r6.1.2) r7) fun r8 =>
 Option.bind (QN (r8.1.1, r8.1.2) (56 : Int)) fun r9 =>
 Option.bind (ZA (r9.1.1, r9.1.2)) fun r10 =>
 Option.bind (QN (r9.1.1, r9.1.2) r10) fun r11 =>
 Option.bind (Zp (r11.1.1, r11.1.2)) fun r12 =>
 Option.bind (if (!r12) = true then (
 Option.bind (Zk p_public (4 : Int) (p_public.length : Int)) fun x1 =>
 Option.bind (Ur x1 r9.2 r8.2) fun r13 =>
 some r13) else (
 some false)) fun y1 =>
 Option.bind (if (y1) = true then (
 Option.bind (Ur r9.2 p_message r11.2) fun r14 =>
 some r14) else (
 some false)) fun y2 =>
 some y2)))
def KF (p_s : QB) (p_public : List (BitVec 8)) : Option Bool :=
 Option.bind (KP p_s.1) fun r1 =>
 Option.bind (if (decide (r1.2 = (0 : Int))) = true then (
 Option.bind (Wz p_public r1.1 p_s.2) fun r2 =>
 some r2) else (
 some false)) fun y1 =>
 some y1
def Ya (p_s : Int × Int × Qa × (Option QF) × (Option QF) × Int) : Option (List (BitVec 8)) :=
 Option.bind (XN p_s.2.2.2.1) fun r1 =>
 Option.bind (JR ([[0#8, 0#8, 0#8, 2#8], r1])) fun r2 =>
 some r2
def YJ : Option (Int × Int × Qa × (Option QF) × (Option QF) × Int) :=
 Option.bind (some (#v[27#8, 0#8, 0#8, 0#8, 0#8, 0#8, 0#8, 0#8, 0#8, 0#8, 0#8, 0#8, 0#8, 0#8, 0#8, 0#8, 0#8, 0#8, 0#8, 0#8, 0#8, 0#8, 0#8, 0#8, 0#8, 0#8, 0#8, 0#8, 0#8, 0#8, 0#8, 0#8])) fun x1 =>
 Option.bind (qv (1 : Int) (2 : Int) (3 : Int) x1) fun r1 =>
 Option.bind (r1.1) fun x2 =>
 some (x2.1, x2.2.1, x2.2.2.1, x2.2.2.2.1, x2.2.2.2.2.1, x2.2.2.2.2.2)
def Un (p_public : List (BitVec 8)) : Option ((List (BitVec 8)) × (List QB) × (List Q8) × (List QZ)) :=
 Option.bind (Jq p_public) fun r1 =>
 some (r1, ([] : List QB), ([] : List Q8), ([] : List QZ))
def YL (p_s : QB) (p_e : Int) : Option Int :=
 some (w64 (p_s.1.1 - p_e))
def QM (p_x : List QB) (p_target : Int) (y1 : Int) (y2 : Int) : Option (LR (Int × Int) Empty) :=
 if (decide (y1 < y2)) = true then (
 Option.bind (some (w64 (((BitVec.ofInt 64 (w64 (y1 + y2))) >>> 1).toNat : Int))) fun x1 =>
 Option.bind (JW p_x x1) fun x2 =>
 Option.bind (YL x2 p_target) fun r1 =>
 if (decide (r1 < (0 : Int))) = true then (
 some (.next (w64 (x1 + (1 : Int)), y2))) else (
 some (.next (y1, x1)))) else (
 some (.brk (y1, y2)))
def Q6 (p_x : List QB) (p_target : Int) : Option (Int × Bool) :=
 Option.bind (Q3 (fun (s : Int × Int) => QM p_x p_target s.1 s.2) FU ((0 : Int), (p_x.length : Int))) fun (s1 : Int × Int) =>
 Option.bind (if (decide (s1.1 < (p_x.length : Int))) = true then (
 Option.bind (JW p_x s1.1) fun x3 =>
 Option.bind (YL x3 p_target) fun r2 =>
 some (decide (r2 = (0 : Int)))) else (
 some false)) fun y5 =>
 some (s1.1, y5)
def JB (p_p : Option ZT) (p_e : Int) : Option (Int × Bool) :=
 Option.bind (p_p) fun x1 =>
 Option.bind (Q6 x1.2.1 p_e) fun r1 =>
 some (r1.1, r1.2)
def Kc (p_f : Q8) (q_0 : Int) : Option Bool :=
 some (decide (p_f.1.1.1 = q_0))
def Jv (p_s : List Q8) (k1_0 : Int) (y1 : Int) : Option (LR Int Int) :=
 if (decide (y1 < (p_s.length : Int))) = true then (
 Option.bind (JW p_s y1) fun x1 =>
 Option.bind (Kc x1 k1_0) fun r1 =>
 if (r1) = true then (
 some (.ret y1)) else (
 some (.next (w64 (y1 + (1 : Int)))))) else (
 some (.brk y1))
def JE (p_s : List Q8) (k1_0 : Int) : Option Int :=
 Option.bind (ZO (fun (s : Int) => Jv p_s k1_0 s) FU (0 : Int)) fun o => match o with
 | .inl (s1 : Int) => (
 some (-1 : Int))
 | .inr x => some x
def Jw (p_s : List Q8) (k1_0 : Int) : Option Bool :=
 Option.bind (JE p_s k1_0) fun r1 =>
 some (decide ((0 : Int) ≤ r1))
def KJ (p_p : Option ZT) (p_e : Int) : Option Bool :=
 Option.bind (p_p) fun x1 =>
 Option.bind (Jw x1.2.2.1 p_e) fun r1 =>
 some r1
def Xt (p_s : QB) : Option QB :=
 Option.bind (Jq p_s.2) fun r1 =>
 some (p_s.1, r1)
def ZX (p_s : List QB) (p_i : Int) (p_v : List QB) : Option (List QB) :=
 if 0 ≤ p_i ∧ p_i ≤ (p_s.length : Int) ∧ p_v.length = 1 ∧ p_s.length ≤ 1000000 then some (p_s.take p_i.toNat ++ p_v ++ p_s.drop p_i.toNat) else none
def ZU (p_p : (List (BitVec 8)) × (List QB) × (List Q8) × (List QZ)) (p_s : QB) : Option (((List (BitVec 8)) × (List QB) × (List Q8) × (List QZ)) × Int) :=
 Option.bind (KF p_s p_p.1) fun r1 =>
 if (!r1) = true then (
 some ((p_p.1, p_p.2.1, p_p.2.2.1, p_p.2.2.2), (8 : Int))) else (
 Option.bind (JB (some (p_p.1, p_p.2.1, p_p.2.2.1, p_p.2.2.2)) p_s.1.1) fun r2 =>
 Option.bind (if (r2.2) = true then (
 Option.bind (JW p_p.2.1 r2.1) fun x1 =>
 some (decide (x1.1 = p_s.1))) else (
 some false)) fun y1 =>
 if (y1) = true then (
 some ((p_p.1, p_p.2.1, p_p.2.2.1, p_p.2.2.2), (11 : Int))) else (
 if (r2.2) = true then (
 Option.bind (KJ (some (p_p.1, p_p.2.1, p_p.2.2.1, p_p.2.2.2)) p_s.1.1) fun r3 =>
 Option.bind (if (!r3) = true then (
 Option.bind (JW p_p.2.1 r2.1) fun x2 =>
 Option.bind (Xt x2) fun r4 =>
 Option.bind (Xt p_s) fun r5 =>
 Option.bind (some ((r4, r5))) fun x3 =>
 if p_p.2.2.1.length + ([x3]).length ≤ AP then (
 some (p_p.2.2.1 ++ ([x3]))) else none) else (
 some p_p.2.2.1)) fun y2 =>
 some ((p_p.1, p_p.2.1, y2, p_p.2.2.2), (9 : Int))) else (
 Option.bind (some (decide ((64 : Int) ≤ (p_p.2.1.length : Int)))) fun x4 =>
 if (x4) = true then (
 some ((p_p.1, p_p.2.1, p_p.2.2.1, p_p.2.2.2), (5 : Int))) else (
 Option.bind (Xt p_s) fun r6 =>
 Option.bind (ZX p_p.2.1 r2.1 ([r6])) fun r7 =>
 some ((p_p.1, r7, p_p.2.2.1, p_p.2.2.2), (0 : Int))))))
def Zg (p_s : Int × Int × Qa × (Option QF) × (Option QF) × Int) (p_h : Zf) : Option ((Int × Int × Qa × (Option QF) × (Option QF) × Int) × QB) :=
 Option.bind (W9 (p_s.1, p_s.2.1, p_s.2.2.1, p_s.2.2.2.1, p_s.2.2.2.2.1, p_s.2.2.2.2.2) (w64 (((BitVec.ofInt 64 p_h.1) % (8#64)).toNat : Int)) p_h) fun r1 =>
 some ((r1.1.1, r1.1.2.1, r1.1.2.2.1, r1.1.2.2.2.1, r1.1.2.2.2.2.1, r1.1.2.2.2.2.2), (p_h, r1.2.1.2))
def YG {Sy : Type} (x1 : ZT) (q_1 : Int) (yl : Sy → Int → Option Sy) (y1 : Int) (y2 : Sy) : Option (LR (Int × Sy) Empty) :=
 if (decide (y1 < (x1.2.2.2.length : Int))) = true then (
 Option.bind (JW x1.2.2.2 y1) fun x2 =>
 if (decide (x2.1 = q_1)) = true then (
 Option.bind (yl y2 x2.2) fun y3 =>
 some (.next (w64 (y1 + (1 : Int)), y3))) else (
 some (.next (w64 (y1 + (1 : Int)), y2)))) else (
 some (.brk (y1, y2)))
def Xi {Sy : Type} (yl : Sy → Int → Option Sy) (q_0 : Option ZT) (q_1 : Int) (s0 : Sy) : Option Sy :=
 Option.bind (q_0) fun x1 =>
 Option.bind (Q3 (fun (s : Int × Sy) => YG x1 q_1 yl s.1 s.2) FU ((0 : Int), s0)) fun (s1 : Int × Sy) =>
 some s1.2
def YQ (y4 : List Int) (d : Int) (y5 : Int) : Option (LR Int Int) :=
 if (decide (y5 < (y4.length : Int))) = true then (
 Option.bind (JW y4 y5) fun x3 =>
 if (decide (x3 = d)) = true then (
 some (.ret y5)) else (
 some (.next (w64 (y5 + (1 : Int)))))) else (
 some (.brk y5))
def Zb (y4 : List Int) (d : Int) : Option (List Int) :=
 Option.bind (ZO (fun (s : Int) => YQ y4 d s) FU (0 : Int)) fun o => match o with
 | .inl (s1 : Int) => (
 if y4.length + ([d]).length ≤ AP then (
 some (y4 ++ ([d]))) else none)
 | .inr (s1 : Int) => (
 some y4)
def JZ (p_n : Int) (p_p : Option ZT) (y2 : Int) (y3 : List Int) : Option (LR (Int × (List Int)) Bool) :=
 if (decide (y2 < (y3.length : Int))) = true then (
 Option.bind (JW y3 y2) fun x1 =>
 if (decide (x1 = p_n)) = true then (
 some (.ret true)) else (
 Option.bind (JW y3 y2) fun x2 =>
 Option.bind (Xi (fun (s : (List Int)) (d : Int) => Zb s d) p_p x2 y3) fun (s2 : (List Int)) =>
 some (.next (w64 (y2 + (1 : Int)), s2)))) else (
 some (.brk (y2, y3)))
def J6 (p_p : Option ZT) (p_m : Int) (p_n : Int) : Option Bool :=
 if (p_p.isNone) = true then (
 some false) else (
 Option.bind (JB p_p p_m) fun r1 =>
 Option.bind (JB p_p p_n) fun r2 =>
 Option.bind (if (!r1.2) = true then (
 some true) else (
 some (!r2.2))) fun y1 =>
 if (y1) = true then (
 some false) else (
 Option.bind (ZO (fun (s : Int × (List Int)) => JZ p_n p_p s.1 s.2) FU ((0 : Int), [p_m])) fun o => match o with
 | .inl (s3 : Int × (List Int)) => (
 some false)
 | .inr x => some x))
def Yr (p_p : (List (BitVec 8)) × (List QB) × (List Q8) × (List QZ)) (y1 : Int) (y2 : List QB) : Option (LR (Int × (List QB)) Empty) :=
 if (decide (y1 < (p_p.2.1.length : Int))) = true then (
 Option.bind (JW p_p.2.1 y1) fun x1 =>
 Option.bind (Xt x1) fun r1 =>
 if y2.length + ([r1]).length ≤ AP then (
 some (.next (w64 (y1 + (1 : Int)), (y2 ++ ([r1]))))) else none) else (
 some (.brk (y1, y2)))
def XS (p_p : (List (BitVec 8)) × (List QB) × (List Q8) × (List QZ)) : Option (List QB) :=
 Option.bind (Q3 (fun (s : Int × (List QB)) => Yr p_p s.1 s.2) FU ((0 : Int), ([] : List QB))) fun (s1 : Int × (List QB)) =>
 some s1.2
def YR : Option Bool :=
 Option.bind (YJ) fun r1 =>
 Option.bind (Ya (r1.1, r1.2.1, r1.2.2.1, r1.2.2.2.1, r1.2.2.2.2.1, r1.2.2.2.2.2)) fun r2 =>
 Option.bind (Un r2) fun r3 =>
 Option.bind (some (((3 : Int), (1 : Int), (Vector.replicate 32 (0#8)), (Vector.replicate 32 (0#8))))) fun x1 =>
 Option.bind (Zg (r1.1, r1.2.1, r1.2.2.1, r1.2.2.2.1, r1.2.2.2.2.1, r1.2.2.2.2.2) x1) fun r4 =>
 Option.bind (ZU (r3.1, r3.2.1, r3.2.2.1, r3.2.2.2) r4.2) fun r5 =>
 Option.bind (if (decide (r5.2 = (0 : Int))) = true then (
 Option.bind (XS (r5.1.1, r5.1.2.1, r5.1.2.2.1, r5.1.2.2.2)) fun r6 =>
 some (decide ((r6.length : Int) = (1 : Int)))) else (
 some false)) fun y1 =>
 Option.bind (if (y1) = true then (
 Option.bind (J6 (some (r5.1.1, r5.1.2.1, r5.1.2.2.1, r5.1.2.2.2)) (3 : Int) (3 : Int)) fun r7 =>
 some r7) else (
 some false)) fun y2 =>
 some y2
def X3 (p_b : List (BitVec 8)) : Option Qa :=
 if ([0#8]).length + p_b.length ≤ AP then (
 Option.bind (Z2 (([0#8]) ++ p_b)) fun r1 =>
 some r1) else none
def XH (p_epoch : Int) (p_tree : Qa) : Option Qa :=
 Option.bind (ZD ((BitVec.ofInt 64 p_epoch) % (4294967296#64)) (4 : Int)) fun r1 =>
 if r1.length + p_tree.toList.length ≤ AP then (
 Option.bind (X3 (r1 ++ p_tree.toList)) fun r2 =>
 some r2) else none
def Yo (p_n : Int) (y1 : Int) (y2 : List Qa) : Option (LR (Int × (List Qa)) Empty) :=
 if (decide (y1 ≤ p_n)) = true then (
 Option.bind (some (#v[BitVec.ofInt 8 y1, 0#8, 0#8, 0#8, 0#8, 0#8, 0#8, 0#8, 0#8, 0#8, 0#8, 0#8, 0#8, 0#8, 0#8, 0#8, 0#8, 0#8, 0#8, 0#8, 0#8, 0#8, 0#8, 0#8, 0#8, 0#8, 0#8, 0#8, 0#8, 0#8, 0#8, 0#8])) fun x1 =>
 Option.bind (XH y1 x1) fun r1 =>
 if y2.length + ([r1]).length ≤ AP then (
 some (.next (w64 (y1 + (1 : Int)), (y2 ++ ([r1]))))) else none) else (
 some (.brk (y1, y2)))
def Y4 (p_n : Int) : Option (List Qa) :=
 Option.bind (Q3 (fun (s : Int × (List Qa)) => Yo p_n s.1 s.2) FU ((1 : Int), ([] : List Qa))) fun (s1 : Int × (List Qa)) =>
 some s1.2
def Z9 (p_a : Qa) (p_b : Qa) : Option (List (BitVec 8)) :=
 if ([1#8]).length + p_a.toList.length ≤ AP then (
 if (([1#8]) ++ p_a.toList).length + p_b.toList.length ≤ AP then (
 some ((([1#8]) ++ p_a.toList) ++ p_b.toList)) else none) else none
def YF (p_a : Qa) (p_b : Qa) : Option Qa :=
 Option.bind (Z9 p_a p_b) fun r1 =>
 Option.bind (Z2 r1) fun r2 =>
 some r2
def XX (p_l : List Qa) (y1 : Int) : Option (LR Int Empty) :=
 if (decide (y1 < (w64 ((p_l.length : Int) - y1)))) = true then (
 some (.next (w64 ((2 : Int) * y1)))) else (
 some (.brk y1))
def Xn (rc : (List Qa) → Option Qa) (p_l : List Qa) : Option Qa :=
 if (decide ((p_l.length : Int) = (0 : Int))) = true then (
 Option.bind (Z2 ([] : List (BitVec 8))) fun r1 =>
 some r1) else (
 if (decide ((p_l.length : Int) = (1 : Int))) = true then (
 Option.bind (JW p_l (0 : Int)) fun x1 =>
 some x1) else (
 Option.bind (Q3 (fun (s : Int) => XX p_l s) FU (1 : Int)) fun (s1 : Int) =>
 Option.bind (Zk p_l 0 s1) fun x2 =>
 Option.bind (rc x2) fun r2 =>
 Option.bind (Zk p_l s1 (p_l.length : Int)) fun x3 =>
 Option.bind (rc x3) fun r3 =>
 Option.bind (YF r2 r3) fun r4 =>
 some r4))
def Xh : Nat → (List Qa) → Option Qa
  | 0 => fun _ => none
  | n + 1 => Xn (Xh n)
def Yz (p_l : List Qa) : Option Qa := Xh FU p_l
def Km (p_from : Int) (p_to : Int) : Option Bool :=
 Option.bind (if (decide ((0 : Int) ≤ p_from)) = true then (
 some (decide (p_from ≤ p_to))) else (
 some false)) fun y1 =>
 Option.bind (if (y1) = true then (
 some (decide (p_to ≤ (2147483647 : Int)))) else (
 some false)) fun y2 =>
 some y2
def Vw (p_x : BitVec 64) : Option Int :=
 Option.bind (if (decide ((4294967296#64) ≤ p_x)) = true then (
 some (p_x >>> 32, (32 : Int))) else (
 some (p_x, (0 : Int)))) fun (j1 : (BitVec 64) × Int) =>
 Option.bind (if (decide ((65536#64) ≤ j1.1)) = true then (
 some (j1.1 >>> 16, w64 (j1.2 + (16 : Int)))) else (
 some (j1.1, j1.2))) fun (j2 : (BitVec 64) × Int) =>
 Option.bind (if (decide ((256#64) ≤ j2.1)) = true then (
 some (j2.1 >>> 8, w64 (j2.2 + (8 : Int)))) else (
 some (j2.1, j2.2))) fun (j3 : (BitVec 64) × Int) =>
 Option.bind (JW S_0 ((j3.1.setWidth 8).toNat : Int)) fun x1 =>
 some (w64 (j3.2 + (x1.toNat : Int)))
def Kw (p_x : BitVec 64) : Option Int :=
 Option.bind (Vw p_x) fun r1 =>
 some r1
def Z5 (p_x : BitVec 64) : Option Int :=
 if (decide (p_x = (0#64))) = true then (
 some (64 : Int)) else (
 Option.bind (Kh Zs ((((p_x &&& (-p_x)) * (285870213051353865#64)) >>> 58).toNat : Int)) fun x1 =>
 some (x1.toNat : Int))
def Yp (p_x : BitVec 64) : Option Int :=
 Option.bind (Z5 p_x) fun r1 =>
 some r1
def Xy (p_from : Int) (p_to : Int) : Option Int :=
 Option.bind (Kw (BitVec.ofInt 64 (w64 (p_to - p_from)))) fun r1 =>
 if 0 ≤ w64 (r1 - (1 : Int)) then (
 if (decide ((0 : Int) < p_from)) = true then (
 Option.bind (Yp (BitVec.ofInt 64 p_from)) fun r2 =>
 if 0 ≤ r2 then (
 Option.bind (some (if XG (1 : Int) r2 < XG (1 : Int) (w64 (r1 - (1 : Int))) then XG (1 : Int) r2 else XG (1 : Int) (w64 (r1 - (1 : Int))))) fun x1 =>
 some x1) else none) else (
 some (XG (1 : Int) (w64 (r1 - (1 : Int)))))) else none
def X2 (p_to : Int) (y1 : Int) (y2 : List Int) : Option (LR (Int × (List Int)) Empty) :=
 if (decide (y1 < p_to)) = true then (
 Option.bind (Xy y1 p_to) fun r2 =>
 if y2.length + ([r2]).length ≤ AP then (
 some (.next (w64 (y1 + r2), (y2 ++ ([r2]))))) else none) else (
 some (.brk (y1, y2)))
def ZJ (p_from : Int) (p_to : Int) : Option (List Int) :=
 Option.bind (Km p_from p_to) fun r1 =>
 if (!r1) = true then (
 some ([] : List Int)) else (
 Option.bind (Q3 (fun (s : Int × (List Int)) => X2 p_to s.1 s.2) FU (p_from, ([] : List Int))) fun (s1 : Int × (List Int)) =>
 some s1.2)
def Xd (p_r : Qr) : Option Bool :=
 Option.bind (Km p_r.1 p_r.2.1) fun r1 =>
 Option.bind (if (r1) = true then (
 Option.bind (ZJ p_r.1 p_r.2.1) fun r2 =>
 some (decide ((r2.length : Int) = (p_r.2.2.length : Int)))) else (
 some false)) fun y1 =>
 some y1
def VM (p_a : Qa) (p_b : Qa) : Option Qa :=
 Option.bind (JR ([[1#8], p_a.toList, p_b.toList])) fun r1 =>
 Option.bind (KZ r1) fun r2 =>
 some r2
def J0 (y1 : Qu) (y2 : List Qu) : Option (LR (Qu × (List Qu)) Empty) :=
 if (decide ((0 : Int) < (y2.length : Int))) = true then (
 Option.bind (JW y2 (w64 ((y2.length : Int) - (1 : Int)))) fun x1 =>
 Option.bind (if (!decide (x1.2.1 = y1.2.1)) = true then (
 some true) else (
 if w64 ((2 : Int) * x1.2.1) ≠ 0 then (
 some (!decide ((Int.tmod x1.1 (w64 ((2 : Int) * x1.2.1))) = (0 : Int)))) else none)) fun y3 =>
 if (y3) = true then (
 some (.brk (y1, y2))) else (
 Option.bind (VM x1.2.2 y1.2.2) fun r1 =>
 Option.bind (some ((x1.1, w64 ((2 : Int) * x1.2.1), r1))) fun x2 =>
 if 0 ≤ w64 ((y2.length : Int) - (1 : Int)) ∧ w64 ((y2.length : Int) - (1 : Int)) ≤ (y2.length : Int) then (
 some (.next (x2, (y2.take (w64 ((y2.length : Int) - (1 : Int))).toNat)))) else none)) else (
 some (.brk (y1, y2)))
def XA (p_s : List Qu) (p_p : Qu) : Option (List Qu) :=
 Option.bind (Q3 (fun (s : Qu × (List Qu)) => J0 s.1 s.2) FU (p_p, p_s)) fun (s1 : Qu × (List Qu)) =>
 if s1.2.length + ([s1.1]).length ≤ AP then (
 some (s1.2 ++ ([s1.1]))) else none
def ZB (p_s : List Qu) (y1 : Int) (y2 : List Qa) : Option (LR (Int × (List Qa)) Empty) :=
 if (decide (y1 < (p_s.length : Int))) = true then (
 Option.bind (JW p_s y1) fun x1 =>
 if y2.length + ([x1.2.2]).length ≤ AP then (
 some (.next (w64 (y1 + (1 : Int)), (y2 ++ ([x1.2.2]))))) else none) else (
 some (.brk (y1, y2)))
def Yd (p_s : List Qu) : Option (List Qa) :=
 Option.bind (Q3 (fun (s : Int × (List Qa)) => ZB p_s s.1 s.2) FU ((0 : Int), ([] : List Qa))) fun (s1 : Int × (List Qa)) =>
 some s1.2
def ZC (r3 : (List Int)) (x1 : Qr) (y5 : Int) (y6 : Int) (y7 : List Qu) : Option (LR (Int × Int × (List Qu)) Empty) :=
 if (decide (y6 < (r3.length : Int))) = true then (
 Option.bind (JW r3 y6) fun x2 =>
 Option.bind (JW x1.2.2 y6) fun x3 =>
 Option.bind (some ((y5, x2, x3))) fun x4 =>
 Option.bind (XA y7 x4) fun r4 =>
 some (.next (w64 (y5 + x2), w64 (y6 + (1 : Int)), r4))) else (
 some (.brk (y5, y6, y7)))
def ZW (p_a : Qr) (p_b : Qr) (y3 : Int) (y4 : List Qu) : Option (LR (Int × (List Qu)) Empty) :=
 if (decide (y3 < (([p_a, p_b]).length : Int))) = true then (
 Option.bind (JW ([p_a, p_b]) y3) fun x1 =>
 Option.bind (ZJ x1.1 x1.2.1) fun r3 =>
 Option.bind (Q3 (fun (s : Int × Int × (List Qu)) => ZC r3 x1 s.1 s.2.1 s.2.2) FU (x1.1, (0 : Int), y4)) fun (s1 : Int × Int × (List Qu)) =>
 some (.next (w64 (y3 + (1 : Int)), s1.2.2))) else (
 some (.brk (y3, y4)))
def X8 (p_a : Qr) (p_b : Qr) : Option (Qr × Int) :=
 Option.bind (Xd p_a) fun r1 =>
 Option.bind (if (!r1) = true then (
 some true) else (
 Option.bind (Xd p_b) fun r2 =>
 some (!r2))) fun y1 =>
 Option.bind (if (y1) = true then (
 some true) else (
 some (!decide (p_a.2.1 = p_b.1)))) fun y2 =>
 if (y2) = true then (
 some ((0, 0, ([] : List Qa)), (1 : Int))) else (
 Option.bind (Q3 (fun (s : Int × (List Qu)) => ZW p_a p_b s.1 s.2) FU ((0 : Int), ([] : List Qu))) fun (s2 : Int × (List Qu)) =>
 Option.bind (Yd s2.2) fun r5 =>
 Option.bind (some ((p_a.1, p_b.2.1, r5))) fun x5 =>
 some (x5, (0 : Int)))
def Xv (p_r : Qr) (y2 : Int) (y3 : Qa) : Option (LR (Int × Qa) Empty) :=
 if (decide ((0 : Int) ≤ y2)) = true then (
 Option.bind (JW p_r.2.2 y2) fun x2 =>
 Option.bind (VM x2 y3) fun r3 =>
 some (.next (w64 (y2 - (1 : Int)), r3))) else (
 some (.brk (y2, y3)))
def Kr (p_r : Qr) : Option (Qa × Int) :=
 Option.bind (Xd p_r) fun r1 =>
 Option.bind (if (!r1) = true then (
 some true) else (
 some (!decide (p_r.1 = (0 : Int))))) fun y1 =>
 if (y1) = true then (
 some ((Vector.replicate 32 (0#8)), (1 : Int))) else (
 if (decide ((p_r.2.2.length : Int) = (0 : Int))) = true then (
 Option.bind (KZ ([] : List (BitVec 8))) fun r2 =>
 some (r2, (0 : Int))) else (
 Option.bind (JW p_r.2.2 (w64 ((p_r.2.2.length : Int) - (1 : Int)))) fun x1 =>
 Option.bind (Q3 (fun (s : Int × Qa) => Xv p_r s.1 s.2) FU (w64 ((p_r.2.2.length : Int) - (2 : Int)), x1)) fun (s1 : Int × Qa) =>
 some (s1.2, (0 : Int))))
def JM (x2 : List Qr) (y1 : Int) (y2 : Qr) : Option (LR (Int × Qr) Bool) :=
 if (decide (y1 < (x2.length : Int))) = true then (
 Option.bind (JW x2 y1) fun x3 =>
 Option.bind (X8 y2 x3) fun r1 =>
 if (!decide (r1.2 = (0 : Int))) = true then (
 some (.ret false)) else (
 some (.next (w64 (y1 + (1 : Int)), r1.1)))) else (
 some (.brk (y1, y2)))
def XV (p_root : Qa) (p_l : List Qr) : Option Bool :=
 Option.bind (JW p_l (0 : Int)) fun x1 =>
 Option.bind (Zk p_l (1 : Int) (p_l.length : Int)) fun x2 =>
 Option.bind (ZO (fun (s : Int × Qr) => JM x2 s.1 s.2) FU ((0 : Int), x1)) fun o => match o with
 | .inl (s1 : Int × Qr) => (
 Option.bind (Kr s1.2) fun r2 =>
 Option.bind (if (decide (r2.2 = (0 : Int))) = true then (
 some (decide (r2.1 = p_root))) else (
 some false)) fun y5 =>
 some y5)
 | .inr x => some x
def V6 (p_t : Xs) (p_m : Int) (p_n : Int) (p_old : Qa) (p_root : Qa) : Option Bool :=
 Option.bind (if (decide (p_m < (0 : Int))) = true then (
 some true) else (
 some (decide (p_n < p_m)))) fun y1 =>
 Option.bind (if (y1) = true then (
 some true) else (
 some (decide ((2147483647 : Int) < p_n)))) fun y2 =>
 if (y2) = true then (
 some false) else (
 Option.bind (some ((0, p_m, p_t.1))) fun x1 =>
 Option.bind (some ((p_m, p_n, p_t.2))) fun x2 =>
 Option.bind (XV p_old ([x1])) fun r1 =>
 Option.bind (if (r1) = true then (
 Option.bind (XV p_root ([x1, x2])) fun r2 =>
 some r2) else (
 some false)) fun y3 =>
 some y3)
def JK (p_s : List QZ) (p_v : QZ) (y1 : Int) : Option (LR Int Int) :=
 if (decide (y1 < (p_s.length : Int))) = true then (
 Option.bind (JW p_s y1) fun x1 =>
 if (decide (p_v = x1)) = true then (
 some (.ret y1)) else (
 some (.next (w64 (y1 + (1 : Int)))))) else (
 some (.brk y1))
def Zi (p_s : List QZ) (p_v : QZ) : Option Int :=
 Option.bind (ZO (fun (s : Int) => JK p_s p_v s) FU (0 : Int)) fun o => match o with
 | .inl (s1 : Int) => (
 some (-1 : Int))
 | .inr x => some x
def JL (p_s : List QZ) (p_v : QZ) : Option Bool :=
 Option.bind (Zi p_s p_v) fun r1 =>
 some (decide ((0 : Int) ≤ r1))
def Vf (p_p : (List (BitVec 8)) × (List QB) × (List Q8) × (List QZ)) (p_m : Int) (p_n : Int) (p_t : Xs) : Option (((List (BitVec 8)) × (List QB) × (List Q8) × (List QZ)) × Int) :=
 Option.bind (some (decide (p_m < (1 : Int)))) fun y1 =>
 Option.bind (if (y1) = true then (
 some true) else (
 some (decide (p_n ≤ p_m)))) fun y2 =>
 if (y2) = true then (
 some ((p_p.1, p_p.2.1, p_p.2.2.1, p_p.2.2.2), (1 : Int))) else (
 Option.bind (JB (some (p_p.1, p_p.2.1, p_p.2.2.1, p_p.2.2.2)) p_m) fun r1 =>
 Option.bind (JB (some (p_p.1, p_p.2.1, p_p.2.2.1, p_p.2.2.2)) p_n) fun r2 =>
 Option.bind (if (!r1.2) = true then (
 some true) else (
 some (!r2.2))) fun y3 =>
 if (y3) = true then (
 some ((p_p.1, p_p.2.1, p_p.2.2.1, p_p.2.2.2), (12 : Int))) else (
 Option.bind (JW p_p.2.1 r1.1) fun x1 =>
 Option.bind (JW p_p.2.1 r2.1) fun x2 =>
 Option.bind (V6 p_t p_m p_n x1.1.2.2.2 x2.1.2.2.2) fun r3 =>
 if (!r3) = true then (
 some ((p_p.1, p_p.2.1, p_p.2.2.1, p_p.2.2.2), (9 : Int))) else (
 Option.bind (some ((p_m, p_n))) fun x3 =>
 Option.bind (JL p_p.2.2.2 x3) fun r4 =>
 if (!r4) = true then (
 if p_p.2.2.2.length + ([x3]).length ≤ AP then (
 some ((p_p.1, p_p.2.1, p_p.2.2.1, (p_p.2.2.2 ++ ([x3]))), (0 : Int))) else none) else (
 some ((p_p.1, p_p.2.1, p_p.2.2.1, p_p.2.2.2), (0 : Int))))))
def ZH (p_b : List (List (BitVec 8))) (p_a : List (List (BitVec 8))) (y1 : Int) (y2 : Int) : Option (LR Int Bool) :=
 if (decide (y2 < (p_b.length : Int))) = true then (
 Option.bind (JW p_a y1) fun x1 =>
 Option.bind (JW p_b y2) fun x2 =>
 Option.bind (XQ x1 x2) fun r1 =>
 Option.bind (if (!r1) = true then (
 Option.bind (JW p_a y1) fun x3 =>
 Option.bind (Z2 x3) fun r2 =>
 Option.bind (JW p_b y2) fun x4 =>
 Option.bind (Z2 x4) fun r3 =>
 some (decide (r2 = r3))) else (
 some false)) fun y3 =>
 if (y3) = true then (
 some (.ret true)) else (
 some (.next (w64 (y2 + (1 : Int)))))) else (
 some (.brk y2))
def ZF (p_a : List (List (BitVec 8))) (p_b : List (List (BitVec 8))) (y1 : Int) : Option (LR Int Bool) :=
 if (decide (y1 < (p_a.length : Int))) = true then (
 Option.bind (ZO (fun (s : Int) => ZH p_b p_a y1 s) FU (0 : Int)) fun o => match o with
 | .inl (s1 : Int) => (
 some (.next (w64 (y1 + (1 : Int)))))
 | .inr x => some (.ret x)) else (
 some (.brk y1))
def Ym (p_a : List (List (BitVec 8))) (p_b : List (List (BitVec 8))) : Option Bool :=
 Option.bind (ZO (fun (s : Int) => ZF p_a p_b s) FU (0 : Int)) fun o => match o with
 | .inl (s2 : Int) => (
 some false)
 | .inr x => some x
def Vl (p_from : Int) (p_to : Int) : Option Bool :=
 Option.bind (if (decide ((0 : Int) ≤ p_from)) = true then (
 some (decide (p_from ≤ p_to))) else (
 some false)) fun y1 =>
 Option.bind (if (y1) = true then (
 some (decide (p_to ≤ (2147483647 : Int)))) else (
 some false)) fun y2 =>
 some y2
def ZN (p_to : Int) (p_from : Int) (y1 : Int) : Option (LR Int Empty) :=
 Option.bind (if (decide ((w64 ((2 : Int) * y1)) ≤ (w64 (p_to - p_from)))) = true then (
 if w64 ((2 : Int) * y1) ≠ 0 then (
 some (decide ((Int.tmod p_from (w64 ((2 : Int) * y1))) = (0 : Int)))) else none) else (
 some false)) fun y2 =>
 if (y2) = true then (
 some (.next (w64 ((2 : Int) * y1)))) else (
 some (.brk y1))
def Y8 (p_from : Int) (p_to : Int) : Option Int :=
 Option.bind (Q3 (fun (s : Int) => ZN p_to p_from s) FU (1 : Int)) fun (s1 : Int) =>
 some s1
def Y0 (p_to : Int) (y1 : Int) (y2 : List Int) : Option (LR (Int × (List Int)) Empty) :=
 if (decide (y1 < p_to)) = true then (
 Option.bind (Y8 y1 p_to) fun r2 =>
 if y2.length + ([r2]).length ≤ AP then (
 some (.next (w64 (y1 + r2), (y2 ++ ([r2]))))) else none) else (
 some (.brk (y1, y2)))
def Zc (p_from : Int) (p_to : Int) : Option (List Int) :=
 Option.bind (Vl p_from p_to) fun r1 =>
 if (!r1) = true then (
 some ([] : List Int)) else (
 Option.bind (Q3 (fun (s : Int × (List Int)) => Y0 p_to s.1 s.2) FU (p_from, ([] : List Int))) fun (s1 : Int × (List Int)) =>
 some s1.2)
def JH (p_sizes : List Int) (y1 : Int) (y2 : Int) : Option (LR (Int × Int) Int) :=
 if (decide ((w64 (y2 + (1 : Int))) < (p_sizes.length : Int))) = true then (
 Option.bind (JW p_sizes y2) fun x1 =>
 Option.bind (JW p_sizes (w64 (y2 + (1 : Int)))) fun x2 =>
 Option.bind (if (decide (x1 = x2)) = true then (
 Option.bind (JW p_sizes y2) fun x3 =>
 if w64 ((2 : Int) * x3) ≠ 0 then (
 some (decide ((Int.tmod y1 (w64 ((2 : Int) * x3))) = (0 : Int)))) else none) else (
 some false)) fun y3 =>
 if (y3) = true then (
 some (.ret y2)) else (
 Option.bind (JW p_sizes y2) fun x4 =>
 some (.next (w64 (y1 + x4), w64 (y2 + (1 : Int)))))) else (
 some (.brk (y1, y2)))
def ZR (p_from : Int) (p_sizes : List Int) : Option Int :=
 Option.bind (ZO (fun (s : Int × Int) => JH p_sizes s.1 s.2) FU (p_from, (0 : Int))) fun o => match o with
 | .inl (s1 : Int × Int) => (
 some (-1 : Int))
 | .inr x => some x
def YE (p_sizes : List Int) (p_l : List Qa) (p_i : Int) : Option ((List Int) × (List Qa)) :=
 Option.bind (Zk p_sizes 0 p_i) fun x1 =>
 if ([] : List Int).length + x1.length ≤ AP then (
 Option.bind (JW p_sizes p_i) fun x2 =>
 if (([] : List Int) ++ x1).length + ([w64 ((2 : Int) * x2)]).length ≤ AP then (
 Option.bind (Zk p_sizes (w64 (p_i + (2 : Int))) (p_sizes.length : Int)) fun x3 =>
 if ((([] : List Int) ++ x1) ++ ([w64 ((2 : Int) * x2)])).length + x3.length ≤ AP then (
 Option.bind (Zk p_l 0 p_i) fun x4 =>
 if ([] : List Qa).length + x4.length ≤ AP then (
 Option.bind (JW p_l p_i) fun x5 =>
 Option.bind (JW p_l (w64 (p_i + (1 : Int)))) fun x6 =>
 Option.bind (YF x5 x6) fun r1 =>
 if (([] : List Qa) ++ x4).length + ([r1]).length ≤ AP then (
 Option.bind (Zk p_l (w64 (p_i + (2 : Int))) (p_l.length : Int)) fun x7 =>
 if ((([] : List Qa) ++ x4) ++ ([r1])).length + x7.length ≤ AP then (
 some ((((([] : List Int) ++ x1) ++ ([w64 ((2 : Int) * x2)])) ++ x3), (((([] : List Qa) ++ x4) ++ ([r1])) ++ x7))) else none) else none) else none) else none) else none) else none
def Zv (p_from : Int) (y1 : List Int) (y2 : List Qa) (y3 : Int) (y4 : List (List (BitVec 8))) : Option (LR ((List Int) × (List Qa) × Int × (List (List (BitVec 8)))) Empty) :=
 if (decide ((0 : Int) ≤ y3)) = true then (
 Option.bind (JW y2 y3) fun x1 =>
 Option.bind (JW y2 (w64 (y3 + (1 : Int)))) fun x2 =>
 Option.bind (Z9 x1 x2) fun r2 =>
 if y4.length + ([r2]).length ≤ AP then (
 Option.bind (YE y1 y2 y3) fun r3 =>
 Option.bind (ZR p_from r3.1) fun r4 =>
 some (.next (r3.1, r3.2, r4, (y4 ++ ([r2]))))) else none) else (
 some (.brk (y1, y2, y3, y4)))
def Zx (y9 : List Qa) (y10 : List (List (BitVec 8))) : Option (LR ((List Qa) × (List (List (BitVec 8)))) Empty) :=
 if (decide ((1 : Int) < (y9.length : Int))) = true then (
 Option.bind (JW y9 (w64 ((y9.length : Int) - (2 : Int)))) fun x3 =>
 Option.bind (JW y9 (w64 ((y9.length : Int) - (1 : Int)))) fun x4 =>
 Option.bind (Z9 x3 x4) fun r5 =>
 if y10.length + ([r5]).length ≤ AP then (
 Option.bind (Zk y9 0 (w64 ((y9.length : Int) - (2 : Int)))) fun x5 =>
 if ([] : List Qa).length + x5.length ≤ AP then (
 Option.bind (JW y9 (w64 ((y9.length : Int) - (2 : Int)))) fun x6 =>
 Option.bind (JW y9 (w64 ((y9.length : Int) - (1 : Int)))) fun x7 =>
 Option.bind (YF x6 x7) fun r6 =>
 if (([] : List Qa) ++ x5).length + ([r6]).length ≤ AP then (
 some (.next (((([] : List Qa) ++ x5) ++ ([r6])), (y10 ++ ([r5]))))) else none) else none) else none) else (
 some (.brk (y9, y10)))
def Xf (p_from : Int) (p_sizes : List Int) (p_l : List Qa) : Option (List (List (BitVec 8))) :=
 Option.bind (ZR p_from p_sizes) fun r1 =>
 Option.bind (Q3 (fun (s : (List Int) × (List Qa) × Int × (List (List (BitVec 8)))) => Zv p_from s.1 s.2.1 s.2.2.1 s.2.2.2) FU (p_sizes, p_l, r1, ([] : List (List (BitVec 8))))) fun (s2 : (List Int) × (List Qa) × Int × (List (List (BitVec 8)))) =>
 Option.bind (Q3 (fun (s : (List Qa) × (List (List (BitVec 8)))) => Zx s.1 s.2) FU (s2.2.1, s2.2.2.2)) fun (s1 : (List Qa) × (List (List (BitVec 8)))) =>
 some s1.2
def YS (p_t : ZQ) (p_m : Int) (p_n : Int) (p_between : List Qa) : Option (List (List (BitVec 8))) :=
 Option.bind (Zc (0 : Int) p_m) fun r1 =>
 if ([] : List Int).length + r1.length ≤ AP then (
 Option.bind (Zc p_m (w64 (p_m + (p_between.length : Int)))) fun r2 =>
 if (([] : List Int) ++ r1).length + r2.length ≤ AP then (
 Option.bind (Zc (w64 (p_m + (p_between.length : Int))) p_n) fun r3 =>
 if ((([] : List Int) ++ r1) ++ r2).length + r3.length ≤ AP then (
 if ([] : List Qa).length + p_t.1.length ≤ AP then (
 if (([] : List Qa) ++ p_t.1).length + p_between.length ≤ AP then (
 if ((([] : List Qa) ++ p_t.1) ++ p_between).length + p_t.2.length ≤ AP then (
 Option.bind (Xf (0 : Int) (((([] : List Int) ++ r1) ++ r2) ++ r3) (((([] : List Qa) ++ p_t.1) ++ p_between) ++ p_t.2)) fun r6 =>
 some r6) else none) else none) else none) else none) else none) else none
def XR (p_l : List Qa) (y1 : Int) : Option (LR Int Empty) :=
 if (decide (y1 < (w64 ((p_l.length : Int) - y1)))) = true then (
 some (.next (w64 ((2 : Int) * y1)))) else (
 some (.brk y1))
def Xg (rc : (List Qa) → Option (List (List (BitVec 8)))) (p_l : List Qa) : Option (List (List (BitVec 8))) :=
 if (decide ((p_l.length : Int) < (2 : Int))) = true then (
 some ([] : List (List (BitVec 8)))) else (
 Option.bind (Q3 (fun (s : Int) => XR p_l s) FU (1 : Int)) fun (s1 : Int) =>
 Option.bind (Zk p_l 0 s1) fun x1 =>
 Option.bind (rc x1) fun r1 =>
 Option.bind (Zk p_l s1 (p_l.length : Int)) fun x2 =>
 Option.bind (rc x2) fun r2 =>
 if r1.length + r2.length ≤ AP then (
 Option.bind (Zk p_l 0 s1) fun x3 =>
 Option.bind (Yz x3) fun r3 =>
 Option.bind (Zk p_l s1 (p_l.length : Int)) fun x4 =>
 Option.bind (Yz x4) fun r4 =>
 Option.bind (Z9 r3 r4) fun r5 =>
 if (r1 ++ r2).length + ([r5]).length ≤ AP then (
 some ((r1 ++ r2) ++ ([r5]))) else none) else none)
def Xj : Nat → (List Qa) → Option (List (List (BitVec 8)))
  | 0 => fun _ => none
  | n + 1 => Xg (Xj n)
def VV (p_l : List Qa) : Option (List (List (BitVec 8))) := Xj FU p_l
def Yh (p_h : Zf) (p_n : BitVec 8) (p_t : ZQ) : Option Bool :=
 Option.bind (some (w64 ((1 : Int) + ((p_n % (20#8)).toNat : Int)))) fun x1 =>
 Option.bind (YR) fun r1 =>
 Option.bind (if (!r1) = true then (
 some true) else (
 some (decide ((70 : Int) < (p_t.1.length : Int))))) fun y1 =>
 Option.bind (if (y1) = true then (
 some true) else (
 some (decide ((70 : Int) < (p_t.2.length : Int))))) fun y2 =>
 Option.bind (if (y2) = true then (
 some true) else (
 some (decide (p_h.1 < (1 : Int))))) fun y3 =>
 Option.bind (if (y3) = true then (
 some true) else (
 some (decide (x1 ≤ p_h.1)))) fun y4 =>
 Option.bind (if (y4) = true then (
 some true) else (
 Option.bind (VB p_h) fun r2 =>
 some (!r2))) fun y5 =>
 if (y5) = true then (
 Option.bind (YR) fun r3 =>
 some r3) else (
 Option.bind (YJ) fun r4 =>
 Option.bind (Ya (r4.1, r4.2.1, r4.2.2.1, r4.2.2.2.1, r4.2.2.2.2.1, r4.2.2.2.2.2)) fun r5 =>
 Option.bind (Un r5) fun r6 =>
 Option.bind (Y4 x1) fun r7 =>
 Option.bind (Zg (r4.1, r4.2.1, r4.2.2.1, r4.2.2.2.1, r4.2.2.2.2.1, r4.2.2.2.2.2) p_h) fun r8 =>
 Option.bind (ZU (r6.1, r6.2.1, r6.2.2.1, r6.2.2.2) r8.2) fun r9 =>
 if (!decide (r9.2 = (0 : Int))) = true then (
 some false) else (
 Option.bind (Yz r7) fun r10 =>
 Option.bind (some ((x1, (1 : Int), (Vector.replicate 32 (0#8)), r10))) fun x2 =>
 Option.bind (Zg (r8.1.1, r8.1.2.1, r8.1.2.2.1, r8.1.2.2.2.1, r8.1.2.2.2.2.1, r8.1.2.2.2.2.2) x2) fun r11 =>
 Option.bind (ZU (r9.1.1, r9.1.2.1, r9.1.2.2.1, r9.1.2.2.2) r11.2) fun r12 =>
 if (!decide (r12.2 = (0 : Int))) = true then (
 some false) else (
 Option.bind (Vf (r12.1.1, r12.1.2.1, r12.1.2.2.1, r12.1.2.2.2) p_h.1 x1 p_t) fun r13 =>
 if (!decide (r13.2 = (0 : Int))) = true then (
 Option.bind (J6 (some (r13.1.1, r13.1.2.1, r13.1.2.2.1, r13.1.2.2.2)) p_h.1 x1) fun r14 =>
 some (!r14)) else (
 Option.bind (J6 (some (r13.1.1, r13.1.2.1, r13.1.2.2.1, r13.1.2.2.2)) p_h.1 x1) fun r15 =>
 Option.bind (if (r15) = true then (
 Option.bind (Zk r7 0 p_h.1) fun x3 =>
 Option.bind (Yz x3) fun r16 =>
 Option.bind (if (decide (p_h.2.2.2 = r16)) = true then (
 some true) else (
 Option.bind (YS p_t p_h.1 x1 ([] : List Qa)) fun r17 =>
 Option.bind (VV r7) fun r18 =>
 Option.bind (Ym r17 r18) fun r19 =>
 some r19)) fun y7 =>
 some y7) else (
 some false)) fun y6 =>
 some y6))))
end M
end Go.Sl
set_option linter.unusedSimpArgs false
namespace Go.Sl
theorem J4 {n : Nat} (h : n ≤ 9000000000) : n < FU := by unfold FU; omega
theorem Uo {σ ρ : Type} {f : σ → Option (LR σ ρ)} {n : Nat} {s s' : σ} (h : f s = some (.next s')) : ZO f (n + 1) s = ZO f n s' := by
 show (match f s with | none => none | some (.next s') => ZO f n s' | some (.brk s') => some (.inl s') | some (.ret r) => some (.inr r)) = _
 rw [h]
theorem KL {σ ρ : Type} {f : σ → Option (LR σ ρ)} {n : Nat} {s s' : σ} (h : f s = some (.brk s')) : ZO f (n + 1) s = some (.inl s') := by
 show (match f s with | none => none | some (.next s') => ZO f n s' | some (.brk s') => some (.inl s') | some (.ret r) => some (.inr r)) = _
 rw [h]
theorem Wd {σ ρ : Type} {f : σ → Option (LR σ ρ)} {n : Nat} {s : σ} {r : ρ} (h : f s = some (.ret r)) : ZO f (n + 1) s = some (.inr r) := by
 show (match f s with | none => none | some (.next s') => ZO f n s' | some (.brk s') => some (.inl s') | some (.ret r) => some (.inr r)) = _
 rw [h]
theorem Wc {σ ρ : Type} {f : σ → Option (LR σ ρ)} (I : σ → Prop) (μ : σ → Nat) (Q : σ ⊕ ρ → Prop)
  (h : ∀ s, I s → (∃ s', f s = some (.next s') ∧ I s' ∧ μ s' < μ s) ∨ (∃ s', f s = some (.brk s') ∧ Q (.inl s')) ∨ ∃ r, f s = some (.ret r) ∧ Q (.inr r)) :
  ∀ (n : Nat) (s : σ), I s → μ s < n → ∃ o, ZO f n s = some o ∧ Q o
 | 0, s, _, hn => by omega
 | n + 1, s, hI, hn => by
  rcases h s hI with ⟨s', e, hI', hm⟩ | ⟨s', e, hq⟩ | ⟨r, e, hq⟩
  ·rw [Uo e]
   exact Wc I μ Q h n s' hI' (by omega)
  ·exact ⟨_, KL e, hq⟩
  ·exact ⟨_, Wd e, hq⟩
theorem qw {σ : Type} {f : σ → Option (LR σ Empty)} (I : σ → Prop) (μ : σ → Nat) (Q : σ → Prop)
  (h : ∀ s, I s → (∃ s', f s = some (.next s') ∧ I s' ∧ μ s' < μ s) ∨ ∃ s', f s = some (.brk s') ∧ Q s') (n : Nat) (s : σ) (hI : I s) (hn : μ s < n) : ∃ s', Q3 f n s = some s' ∧ Q s' := by
 obtain ⟨o, ho, hq⟩ := Wc I μ (fun o => match o with | .inl s => Q s | .inr e => e.elim) (fun s hs => (h s hs).elim .inl (fun h => .inr (.inl h))) n s hI hn
 unfold Q3
 rw [ho]
 cases o with
 | inl s' => exact ⟨s', rfl, hq⟩
 | inr e => exact e.elim
theorem Yx {σ : Type} {f : σ → Option (LR σ Empty)} {n : Nat} {s s' : σ} (h : f s = some (.next s')) : Q3 f (n + 1) s = Q3 f n s' := by
 unfold Q3; rw [Uo h]
theorem YM {σ : Type} {f : σ → Option (LR σ Empty)} {n : Nat} {s s' : σ} (h : f s = some (.brk s')) : Q3 f (n + 1) s = some s' := by
 unfold Q3; rw [KL h]
def Yi {σ : Type} (step : Nat → σ → σ) : Nat → Nat → σ → σ
 | _, 0, s => s
 | i, n + 1, s => Yi step (i + 1) n (step i s)
theorem Wl {σ : Type} (step : Nat → σ → σ) : ∀ (n i : Nat) (s : σ), Yi step i (n + 1) s = step (i + n) (Yi step i n s)
 | 0, i, s => rfl
 | n + 1, i, s => by
  show Yi step (i + 1) (n + 1) (step i s) = step (i + (n + 1)) (Yi step (i + 1) n (step i s))
  rw [Wl step n (i + 1), show i + 1 + n = i + (n + 1) by omega]
theorem Qbl {σ : Type} (step : Nat → σ → σ) : ∀ (n m i : Nat) (s : σ), Yi step i (n + m) s = Yi step (i + n) m (Yi step i n s)
 | 0, m, i, s => by simp [Yi]
 | n + 1, m, i, s => by
  rw [show n + 1 + m = (n + m) + 1 by omega]
  show Yi step (i + 1) (n + m) (step i s) = Yi step (i + (n + 1)) m (Yi step (i + 1) n (step i s))
  rw [Qbl step n m (i + 1), show i + 1 + n = i + (n + 1) by omega]
theorem qp {σ : Type} {f g : Nat → σ → σ} : ∀ (n i : Nat) (s : σ), (∀ j, i ≤ j → j < i + n → ∀ s, f j s = g j s) → Yi f i n s = Yi g i n s
 | 0, _, _, _ => rfl
 | n + 1, i, s, h => by
  show Yi f (i + 1) n (f i s) = Yi g (i + 1) n (g i s)
  rw [h i (Nat.le_refl _) (by omega)]
  exact qp n (i + 1) _ fun j h1 h2 => h j (by omega) (by omega)
theorem JD {τ σ : Type} {f : τ → Option (LR τ Empty)} (en : Nat → σ → τ) (step : Nat → σ → σ) (lo hi : Nat)
  (h : ∀ i s, lo ≤ i → i < hi → f (en i s) = some (.next (en (i + 1) (step i s)))) (he : ∀ s, f (en hi s) = some (.brk (en hi s))) :
  ∀ (n : Nat) (s : σ), lo ≤ hi → hi - lo < n → Q3 f n (en lo s) = some (en hi (Yi step lo (hi - lo) s)) := by
 have key : ∀ (d i n : Nat) (s : σ), lo ≤ i → i + d = hi → d < n → Q3 f n (en i s) = some (en hi (Yi step i d s)) := by
  intro d
  induction d with
  | zero =>
   intro i n s hl hd hn
   cases n with
   | zero => omega
   | succ n =>
    have : i = hi := by omega
    subst this
    exact YM (he s)
  | succ d ih =>
   intro i n s hl hd hn
   cases n with
   | zero => omega
   | succ n =>
    rw [Yx (h i s hl (by omega))]
    exact ih (i + 1) n (step i s) (by omega) (by omega) (by omega)
 intro n s hle hn
 exact key (hi - lo) lo n s (Nat.le_refl _) (by omega) hn
section
variable {α β : Type}
theorem Jm {l : List α} {i : Int} {k : Nat} (hi : i = (k : Int)) (h : k < l.length) : JW l i = some l[k] := by
 subst hi
 unfold JW
 rw [if_pos (by omega)]
 simp [h]
theorem Qho {n : Nat} {v : Vector α n} {i : Int} {k : Nat} (hi : i = (k : Int)) (h : k < n) : Kh v i = some v[k] := by
 subst hi
 unfold Kh
 rw [if_pos (by omega)]
 simp [h]
theorem Zt {l : List α} {lo hi : Int} {a b : Nat} (ha : lo = (a : Int)) (hb : hi = (b : Int)) (h1 : a ≤ b) (h2 : b ≤ l.length) : Zk l lo hi = some ((l.take b).drop a) := by
 subst ha hb
 unfold Zk
 rw [if_pos ⟨by omega, by omega, by omega⟩]
 simp
theorem Qc {o : Option α} {f : α → Option β} {x : α} (h : o = some x) : Option.bind o f = f x := by rw [h]; rfl
theorem QI {c : Prop} [Decidable c] {x y : α} (h : c) : (if c then x else y) = x := if_pos h
theorem QU {c : Prop} [Decidable c] {x y : α} (h : ¬ c) : (if c then x else y) = y := if_neg h
end
theorem Ji {n : Int} (h1 : -9223372036854775808 ≤ n) (h2 : n < 9223372036854775808) : w64 n = n := Jr ⟨h1, h2⟩
theorem qD {n : Nat} (h : n < 9223372036854775808) : w64 (n : Int) = n := Jr ⟨by omega, by omega⟩
end Go.Sl
namespace Go.Sl
theorem orE (c d : Bool) : (if c = true then some true else some d) = some (c || d) := by cases c <;> rfl
section
variable {α τ σ ρ : Type}
def Qgm (step : Nat → σ → α → σ ⊕ ρ) : Nat → σ → List α → σ ⊕ ρ
 | _, s, [] => .inl s
 | i, s, x :: xs => match step i s x with
  | .inl s' => Qgm step (i + 1) s' xs
  | .inr r => .inr r
theorem Qgt {f : τ → Option (LR τ ρ)} (l : List α) (en : Nat → σ → τ) (step : Nat → σ → α → σ ⊕ ρ) (I : Nat → σ → Prop)
  (h : ∀ i s (hi : i < l.length), I i s → f (en i s) = some (match step i s l[i] with | .inl s' => .next (en (i + 1) s') | .inr r => .ret r))
  (hI : ∀ i s s' (hi : i < l.length), I i s → step i s l[i] = .inl s' → I (i + 1) s')
  (he : ∀ s, I l.length s → f (en l.length s) = some (.brk (en l.length s))) :
  ∀ (d i n : Nat) (s : σ), i + d = l.length → d < n → I i s → ZO f n (en i s) = some (match Qgm step i s (l.drop i) with | .inl s' => .inl (en l.length s') | .inr r => .inr r) := by
 intro d
 induction d with
 | zero =>
  intro i n s hd hn hi
  obtain ⟨n, rfl⟩ : ∃ k, n = k + 1 := ⟨n - 1, by omega⟩
  have : i = l.length := by omega
  subst this
  rw [KL (he s hi), List.drop_length]; rfl
 | succ d ih =>
  intro i n s hd hn hi
  obtain ⟨n, rfl⟩ : ∃ k, n = k + 1 := ⟨n - 1, by omega⟩
  have hl : i < l.length := by omega
  have h1 := h i s hl hi
  rw [List.drop_eq_getElem_cons hl, Qgm]
  cases hs : step i s l[i] with
  | inl s' => rw [hs] at h1; rw [Uo h1, ih (i + 1) n s' (by omega) (by omega) (hI i s s' hl hi hs)]
  | inr r => rw [hs] at h1; rw [Wd h1]
theorem Qgo {f : τ → Option (LR τ ρ)} (l : List α) (en : Nat → σ → τ) (step : Nat → σ → α → σ ⊕ ρ) (I : Nat → σ → Prop) (s : σ) (hn : l.length ≤ 9000000000) (h0 : I 0 s)
  (h : ∀ i s (hi : i < l.length), I i s → f (en i s) = some (match step i s l[i] with | .inl s' => .next (en (i + 1) s') | .inr r => .ret r))
  (hI : ∀ i s s' (hi : i < l.length), I i s → step i s l[i] = .inl s' → I (i + 1) s')
  (he : ∀ s, I l.length s → f (en l.length s) = some (.brk (en l.length s))) :
  ZO f FU (en 0 s) = some (match Qgm step 0 s l with | .inl s' => .inl (en l.length s') | .inr r => .inr r) := by
 have := Qgt l en step I h hI he l.length 0 FU s (by omega) (J4 hn) h0
 simpa using this
theorem Qlx [DecidableEq α] {f : Int → Option (LR Int Bool)} (a b : List α) (hl : a.length = b.length) (hn : a.length ≤ 9000000000)
  (h : ∀ i (h1 : i < a.length) (h2 : i < b.length), f (i : Int) = some (if a[i] = b[i] then .next ((i : Int) + 1) else .ret false)) (he : f (a.length : Int) = some (.brk (a.length : Int))) :
  ZO f FU (0 : Int) = some (if a = b then .inl (a.length : Int) else .inr false) := by
 have h1 := Qgo (f := f) a (fun i (_ : Unit) => (i : Int)) (fun i _ x => if b[i]? = some x then .inl () else .inr false) (fun _ _ => True) () hn trivial (fun i s hi _ => by
  rw [h i hi (by omega), List.getElem?_eq_getElem (show i < b.length by omega)]
  by_cases e : a[i] = b[i]
  ·rw [if_pos e, if_pos (by rw [e])]; simp
  ·rw [if_neg e, if_neg (by simpa using fun e' => e e'.symm)]) (fun _ _ _ _ _ _ => trivial) (fun _ _ => he)
 have key : ∀ (d i : Nat), i + d = a.length → Qgm (fun i (_ : Unit) x => if b[i]? = some x then .inl () else .inr false) i () (a.drop i) = (if a.drop i = b.drop i then .inl () else .inr false : Unit ⊕ Bool) := by
  intro d
  induction d with
  | zero => intro i hi; rw [List.drop_eq_nil_of_le (by omega), List.drop_eq_nil_of_le (by omega)]; rfl
  | succ d ih =>
   intro i hi
   have h1 : i < a.length := by omega
   have h2 : i < b.length := by omega
   have ea := List.drop_eq_getElem_cons h1
   have eb := List.drop_eq_getElem_cons h2
   rw [ea, eb, Qgm, List.getElem?_eq_getElem h2]
   by_cases e : a[i] = b[i]
   ·rw [if_pos (by rw [e])]
    show Qgm _ (i + 1) () _ = _
    rw [ih (i + 1) (by omega)]
    by_cases e2 : a.drop (i + 1) = b.drop (i + 1)
    ·rw [if_pos e2, if_pos (by rw [e, e2])]
    ·rw [if_neg e2, if_neg (by intro hc; injection hc with _ hc; exact e2 hc)]
   ·rw [if_neg (by simpa using fun e' => e e'.symm), if_neg (by intro hc; injection hc with hc _; exact e hc)]
 have h2 := key a.length 0 (by omega)
 simp only [List.drop_zero] at h2
 have h3 : ZO f FU (0 : Int) = _ := h1
 rw [h3, h2]
 by_cases e : a = b
 ·rw [if_pos e, if_pos e]
 ·rw [if_neg e, if_neg e]
theorem QhB {β : Type} {f : Int × List β → Option (LR (Int × List β) Empty)} (l : List α) (g : α → β) (hn : l.length ≤ 9000000000)
  (h : ∀ i (hi : i < l.length) (acc : List β), acc.length = i → f ((i : Int), acc) = some (.next ((i : Int) + 1, acc ++ [g l[i]]))) (he : ∀ acc : List β, f ((l.length : Int), acc) = some (.brk ((l.length : Int), acc))) :
  Q3 f FU ((0 : Int), []) = some ((l.length : Int), l.map g) := by
 have h1 := JD (f := f) (fun i (_ : Unit) => ((i : Int), (l.take i).map g)) (fun _ s => s) 0 l.length (fun i s _ h2 => by
  rw [h i h2 _ (by simp; omega)]
  rw [List.take_succ_eq_append_getElem h2, List.map_append]; rfl) (fun s => he _) FU () (by omega) (J4 hn)
 simpa using h1
end
end Go.Sl
namespace Go.Sl.Pu
open Go.Sl Go.Sl.M
def gv {w n : Nat} (v : Vector (BitVec w) n) (j : Nat) : BitVec w := v[j]?.getD 0
theorem Vp {w n : Nat} {v : Vector (BitVec w) n} {i : Int} {k : Nat} (hi : i = (k : Int)) (h : k < n) : Kh v i = some (gv v k) := by
 rw [Qho hi h]; simp [gv, h]
theorem BZ {w n : Nat} {v : Vector (BitVec w) n} {k : Nat} {x : BitVec w} (h : k < n) : gv (v.setIfInBounds k x) k = x := by
 simp [gv, h]
theorem Qbv {w n : Nat} {v : Vector (BitVec w) n} {k j : Nat} {x : BitVec w} (h : k ≠ j) : gv (v.setIfInBounds k x) j = gv v j := by
 simp [gv, Vector.getElem?_setIfInBounds, h]
theorem QkC {w n : Nat} {v : Vector (BitVec w) n} {k : Nat} {x y : BitVec w} : (v.setIfInBounds k x).setIfInBounds k y = v.setIfInBounds k y := by
 apply Vector.ext; intro i hi
 simp only [Vector.getElem_setIfInBounds]
 split <;> rfl
def gl {w : Nat} (b : List (BitVec w)) (j : Nat) : BitVec w := b.getD j 0
theorem WX {x : BitVec 32} {k : Int} {a b : Nat} (h1 : ((BitVec.ofInt 64 k) &&& 31#64).toNat = a) (h2 : (32#64 - ((BitVec.ofInt 64 k) &&& 31#64)).toNat = b) : Jh x k = some (x >>> b ||| x <<< a) := by
 unfold Jh
 rw [h1, h2, BitVec.or_comm]; rfl
theorem VJ {x n : BitVec 32} {a b : Nat} (h1 : n.toNat = b) (h2 : (32#32 - n).toNat = a) : Jt x n = some (x >>> b ||| x <<< a) := by
 unfold Jt
 rw [h1, h2]; rfl
def rr (x : BitVec 32) (n : Nat) : BitVec 32 := x >>> n ||| x <<< (32 - n)
def be {w : Nat} (x : BitVec w) (k : Nat) : List (BitVec 8) := (List.range k).map fun j => (x >>> (8 * (k - 1 - j))).setWidth 8
theorem JG {w : Nat} (x : BitVec w) (k : Nat) : (be x k).length = k := by simp [be]
def le {w : Nat} (x : BitVec w) (k : Nat) : List (BitVec 8) := (List.range k).map fun j => (x >>> (8 * j)).setWidth 8
theorem QjK (x : BitVec 64) : (x % 256#64).setWidth 8 = x.setWidth 8 := by
 apply BitVec.eq_of_toNat_eq
 simp [BitVec.toNat_setWidth, BitVec.toNat_umod]
theorem Qih (x : BitVec 64) : x / 256#64 = x >>> 8 := by
 apply BitVec.eq_of_toNat_eq
 simp [BitVec.toNat_udiv, Nat.shiftRight_eq_div_pow]
theorem QdP (x : BitVec 64) (k : Nat) (hk : k ≤ 1000) : ZD x k = some (be x k) := by
 unfold ZD
 have h1 := JD (f := fun (s : (BitVec 64) × Int × (List (BitVec 8))) => Z0 k s.1 s.2.1 s.2.2) (fun i (_ : Unit) => (x >>> (8 * i), (i : Int), le x i)) (fun _ s => s) 0 k (fun i s h1 h2 => by
   simp only [Z0]
   rw [QI (by simp; omega), QI (by simp [le, AP]; omega), QjK, Qih]
   have e : le x (i + 1) = le x i ++ [(x >>> (8 * i)).setWidth 8] := by simp [le, List.range_succ]
   rw [e, Jr (by omega), show 8 * (i + 1) = 8 * i + 8 by omega, BitVec.shiftRight_add]
   rfl) (fun s => by
   simp only [Z0]
   rw [QU (by simp)]) FU () (by omega) (J4 (by omega))
 have e0 : ((x, (0 : Int), ([] : List (BitVec 8))) : (BitVec 64) × Int × (List (BitVec 8))) = (x >>> (8 * 0), ((0 : Nat) : Int), le x 0) := by simp [le]
 rw [e0, Qc h1]
 -- the other way round
 have h2 := JD (f := fun (s : Int × (List (BitVec 8))) => ZZ (le x k) s.1 s.2) (fun i (_ : Unit) => ((k : Int) - 1 - i, (be x k).take i)) (fun _ s => s) 0 k (fun i s h1 h2 => by
   simp only [ZZ]
   rw [QI (by simp; omega)]
   have hl : JW (le x k) ((k : Int) - 1 - i) = some ((x >>> (8 * (k - 1 - i))).setWidth 8) := by
    rw [Jm (k := k - 1 - i) (by omega) (by simp [le]; omega)]
    simp [le]
   rw [Qc hl, QI (by simp [AP]; omega), Jr (by omega)]
   have e : (be x k).take (i + 1) = (be x k).take i ++ [(x >>> (8 * (k - 1 - i))).setWidth 8] := by
    rw [List.take_succ_eq_append_getElem (by rw [JG]; exact h2)]
    simp [be]
   rw [e]
   have : (k : Int) - 1 - (i : Int) - 1 = (k : Int) - 1 - ((i + 1 : Nat) : Int) := by omega
   rw [this]) (fun s => by
   simp only [ZZ]
   rw [QU (by simp; omega)]) FU () (by omega) (J4 (by omega))
 have e1 : ((w64 ((k : Int) - 1), ([] : List (BitVec 8))) : Int × List (BitVec 8)) = ((k : Int) - 1 - ((0 : Nat) : Int), (be x k).take 0) := by
  rw [Jr (by omega)]; simp
 rw [e1, Qc h2, List.take_of_length_le (by rw [JG]; omega)]
def val (b : List (BitVec 8)) : BitVec 64 := b.foldl (fun x c => x * 256#64 + c.setWidth 64) 0#64
theorem Qjl (b : List (BitVec 8)) (hb : b.length ≤ 4294967296) : XC b = some (val b) := by
 unfold XC
 have h1 := JD (f := fun (s : (BitVec 64) × Int) => Yf b s.1 s.2) (fun i (_ : Unit) => (val (b.take i), (i : Int))) (fun _ s => s) 0 b.length (fun i s h1 h2 => by
   simp only [Yf]
   have e : val (b.take (i + 1)) = val (b.take i) * 256#64 + b[i].setWidth 64 := by
    unfold val; rw [List.take_succ_eq_append_getElem h2, List.foldl_append]; rfl
   rw [QI (by simp; omega), Qc (Jm rfl h2), Jr (by omega), e]
   rfl) (fun s => by
   simp only [Yf]
   rw [QU (by simp)]) FU () (by omega) (J4 (by omega))
 have e0 : ((0#64, (0 : Int)) : (BitVec 64) × Int) = (val (b.take 0), ((0 : Nat) : Int)) := by simp [val]
 rw [e0, Qc h1, List.take_length]
def sg0 (x : BitVec 32) : BitVec 32 := (rr x 7 ^^^ rr x 18) ^^^ (x >>> 3)
def sg1 (x : BitVec 32) : BitVec 32 := (rr x 17 ^^^ rr x 19) ^^^ (x >>> 10)
def stW (i : Nat) (v : Vector (BitVec 32) 64) : Vector (BitVec 32) 64 := v.setIfInBounds i (((gv v (i - 16) + sg0 (gv v (i - 15))) + gv v (i - 7)) + sg1 (gv v (i - 2)))
theorem Qjj (v : Vector (BitVec 32) 64) : Q3 (fun (s : Int × (Vector (BitVec 32) 64)) => Xw s.1 s.2) FU (16, v) = some (64, Yi stW 16 48 v) := by
 refine JD (fun i v => ((i : Int), v)) stW 16 64 (fun i v h1 h2 => ?_) (fun v => ?_) FU v (by omega) (J4 (by omega))
 ·simp only [Xw]
  rw [QI (by simp; omega), Jr (n := (i : Int) - 15) (by omega), Jr (n := (i : Int) - 2) (by omega), Jr (n := (i : Int) - 16) (by omega), Jr (n := (i : Int) - 7) (by omega), Jr (n := (i : Int) + 1) (by omega)]
  simp only [Vp (n := 64) (v := v) (i := (i : Int) - 15) (k := i - 15) (by omega) (by omega), Vp (n := 64) (v := v) (i := (i : Int) - 2) (k := i - 2) (by omega) (by omega), Vp (n := 64) (v := v) (i := (i : Int) - 16) (k := i - 16) (by omega) (by omega), Vp (n := 64) (v := v) (i := (i : Int) - 7) (k := i - 7) (by omega) (by omega), Option.bind_some,
   WX (k := -7) (a := 25) (b := 7) (by decide) (by decide), WX (k := -18) (a := 14) (b := 18) (by decide) (by decide), WX (k := -17) (a := 15) (b := 17) (by decide) (by decide), WX (k := -19) (a := 13) (b := 19) (by decide) (by decide)]
  rw [QI ⟨by omega, by omega⟩]
  rfl
 ·simp only [Xw]
  rw [QU (by simp)]
theorem Qlz (x : BitVec 32) : x / 8#32 = x >>> 3 := by
 apply BitVec.eq_of_toNat_eq; simp [BitVec.toNat_udiv, Nat.shiftRight_eq_div_pow]
theorem Qj9 (x : BitVec 32) : x / 1024#32 = x >>> 10 := by
 apply BitVec.eq_of_toNat_eq; simp [BitVec.toNat_udiv, Nat.shiftRight_eq_div_pow]
theorem QiU (v : Vector (BitVec 32) 64) : Q3 (fun (s : Int × (Vector (BitVec 32) 64)) => Yg s.1 s.2) FU (16, v) = some (64, Yi stW 16 48 v) := by
 refine JD (fun i v => ((i : Int), v)) stW 16 64 (fun i v h1 h2 => ?_) (fun v => ?_) FU v (by omega) (J4 (by omega))
 ·simp only [Yg]
  rw [QI (by simp; omega), Jr (n := (i : Int) - 15) (by omega), Jr (n := (i : Int) - 2) (by omega), Jr (n := (i : Int) - 16) (by omega), Jr (n := (i : Int) - 7) (by omega), Jr (n := (i : Int) + 1) (by omega)]
  simp only [Vp (n := 64) (v := v) (i := (i : Int) - 15) (k := i - 15) (by omega) (by omega), Vp (n := 64) (v := v) (i := (i : Int) - 2) (k := i - 2) (by omega) (by omega), Vp (n := 64) (v := v) (i := (i : Int) - 16) (k := i - 16) (by omega) (by omega), Vp (n := 64) (v := v) (i := (i : Int) - 7) (k := i - 7) (by omega) (by omega), Option.bind_some,
   VJ (n := 7#32) (a := 25) (b := 7) (by decide) (by decide), VJ (n := 18#32) (a := 14) (b := 18) (by decide) (by decide), VJ (n := 17#32) (a := 15) (b := 17) (by decide) (by decide), VJ (n := 19#32) (a := 13) (b := 19) (by decide) (by decide), Qlz, Qj9]
  rw [QI ⟨by omega, by omega⟩]
  rfl
 ·simp only [Yg]
  rw [QU (by simp)]
def pb (b : List (BitVec 8)) (i : Nat) (v : Vector (BitVec 32) 64) : Vector (BitVec 32) 64 := v.setIfInBounds (i / 4) ((gv v (i / 4) <<< 8) ||| (gl b i).setWidth 32)
def wd (b : List (BitVec 8)) (t : Nat) : BitVec 32 := ((((gl b (4 * t)).setWidth 32 <<< 8 ||| (gl b (4 * t + 1)).setWidth 32) <<< 8 ||| (gl b (4 * t + 2)).setWidth 32) <<< 8) ||| (gl b (4 * t + 3)).setWidth 32
def pw (b : List (BitVec 8)) (t : Nat) (v : Vector (BitVec 32) 64) : Vector (BitVec 32) 64 := v.setIfInBounds t (wd b t)
theorem pb4 (b : List (BitVec 8)) (t : Nat) (v : Vector (BitVec 32) 64) (ht : t < 64) (h0 : gv v t = 0) : Yi (pb b) (4 * t) 4 v = pw b t v := by
 have e0 : (4 * t) / 4 = t := by omega
 have e1 : (4 * t + 1) / 4 = t := by omega
 have e2 : (4 * t + 1 + 1) / 4 = t := by omega
 have e3 : (4 * t + 1 + 1 + 1) / 4 = t := by omega
 simp only [Yi, pb, e0, e1, e2, e3, BZ ht, QkC, h0, pw, wd]
 simp
theorem Qk5 (b : List (BitVec 8)) : ∀ (t i : Nat) (v : Vector (BitVec 32) 64), (∀ j, i ≤ j → gv v j = 0) → ∀ j, i + t ≤ j → gv (Yi (pw b) i t v) j = 0
 | 0, i, v, h, j, hj => h j (by omega)
 | t + 1, i, v, h, j, hj => Qk5 b t (i + 1) (pw b i v) (fun k hk => by unfold pw; rw [Qbv (by omega)]; exact h k (by omega)) j (by omega)
theorem Qku (j : Nat) : gv (Vector.replicate 64 (0#32)) j = 0 := by
 unfold gv
 by_cases h : j < 64
 ·simp [h]
 ·simp [Vector.getElem?_eq_none (Nat.not_lt.1 h)]
theorem Qk3 (b : List (BitVec 8)) : ∀ (t : Nat), t ≤ 16 → Yi (pb b) 0 (4 * t) (Vector.replicate 64 (0#32)) = Yi (pw b) 0 t (Vector.replicate 64 (0#32))
 | 0, _ => rfl
 | t + 1, h => by
  rw [show 4 * (t + 1) = 4 * t + 4 by omega, Qbl, Qk3 b t (by omega), Wl (pw b) t 0, Nat.zero_add, Nat.zero_add]
  exact pb4 b t _ (by omega) (Qk5 b t 0 _ (fun j _ => Qku j) t (by omega))
theorem QiM (b : List (BitVec 8)) (hb : 64 ≤ b.length) (v : Vector (BitVec 32) 64) : Q3 (fun (s : Int × (Vector (BitVec 32) 64)) => Xu (b.take 64) s.1 s.2) FU (0, v) = some (64, Yi (pb b) 0 64 v) := by
 refine JD (fun i v => ((i : Int), v)) (pb b) 0 64 (fun i v h1 h2 => ?_) (fun v => ?_) FU v (by omega) (J4 (by omega))
 ·simp only [Xu]
  have hd : w64 (Int.tdiv (i : Int) 4) = ((i / 4 : Nat) : Int) := by
   rw [show (4 : Int) = ((4 : Nat) : Int) from rfl, ← Int.ofNat_tdiv]; exact qD (by omega)
  rw [QI (by simp; omega), hd, Jr (n := (i : Int) + 1) (by omega)]
  have hg : JW (b.take 64) (i : Int) = some (gl b i) := by
   rw [Jm rfl (by simp; omega)]; simp [gl, List.getElem?_eq_getElem (show i < b.length by omega)]
  rw [Qc hg, Qc (Vp rfl (by omega)), QI ⟨by omega, by omega⟩]
  rfl
 ·simp only [Xu]
  rw [QU (by simp; omega)]
theorem QkZ (Y : BitVec 32) (c : BitVec 8) : Y * 256#32 + c.setWidth 32 = Y <<< 8 ||| c.setWidth 32 := by
 have e : Y * 256#32 = Y <<< 8 := by
  apply BitVec.eq_of_toNat_eq; simp [BitVec.toNat_mul, BitVec.toNat_shiftLeft, Nat.shiftLeft_eq]
 rw [e]
 apply BitVec.add_eq_or_of_and_eq_zero
 apply BitVec.eq_of_getLsbD_eq
 intro i hi
 simp only [BitVec.getLsbD_and, BitVec.getLsbD_shiftLeft, BitVec.getLsbD_setWidth, BitVec.getLsbD_zero]
 by_cases h : i < 8
 ·simp [h]
 ·rw [BitVec.getLsbD_of_ge c i (by omega)]; simp
theorem Qmd (c0 c1 c2 c3 : BitVec 8) : (val [c0, c1, c2, c3]).setWidth 32 = (((c0.setWidth 32 <<< 8 ||| c1.setWidth 32) <<< 8 ||| c2.setWidth 32) <<< 8) ||| c3.setWidth 32 := by
 have hs : ∀ (X : BitVec 64) (c : BitVec 8), (X * 256#64 + c.setWidth 64).setWidth 32 = (X.setWidth 32) <<< 8 ||| c.setWidth 32 := by
  intro X c
  rw [← QkZ]
  apply BitVec.eq_of_toNat_eq
  simp only [BitVec.toNat_setWidth, BitVec.toNat_add, BitVec.toNat_mul, BitVec.toNat_ofNat]
  omega
 simp only [val, List.foldl_cons, List.foldl_nil, hs]
 simp
theorem Qjp (b : List (BitVec 8)) (hb : 64 ≤ b.length) (v : Vector (BitVec 32) 64) : Q3 (fun (s : Int × (Vector (BitVec 32) 64)) => Ye b s.1 s.2) FU (0, v) = some (16, Yi (pw b) 0 16 v) := by
 refine JD (fun i v => ((i : Int), v)) (pw b) 0 16 (fun i v h1 h2 => ?_) (fun v => ?_) FU v (by omega) (J4 (by omega))
 ·simp only [Ye]
  rw [QI (by simp; omega), Jr (n := 4 * (i : Int)) (by omega), Jr (n := 4 * (i : Int) + 4) (by omega), Jr (n := (i : Int) + 1) (by omega)]
  have hsl : Zk b (4 * (i : Int)) (4 * (i : Int) + 4) = some [gl b (4 * i), gl b (4 * i + 1), gl b (4 * i + 2), gl b (4 * i + 3)] := by
   rw [Zt (a := 4 * i) (b := 4 * i + 4) (by omega) (by omega) (by omega) (by omega)]
   congr 1
   apply List.ext_getElem
   ·simp; omega
   ·intro j h1 h2
    simp only [List.length_cons, List.length_nil] at h2
    have hj : j = 0 ∨ j = 1 ∨ j = 2 ∨ j = 3 := by omega
    rcases hj with rfl | rfl | rfl | rfl <;> simp [gl, List.getElem?_eq_getElem, show 4 * i < b.length by omega, show 4 * i + 1 < b.length by omega, show 4 * i + 2 < b.length by omega, show 4 * i + 3 < b.length by omega]
  rw [Qc hsl, Qc (Qjl _ (by simp)), QI ⟨by omega, by omega⟩, Qmd]
  rfl
 ·simp only [Ye]
  rw [QU (by simp)]
def Qeb (b : List (BitVec 8)) : Vector (BitVec 32) 64 := Yi stW 16 48 (Yi (pw b) 0 16 (Vector.replicate 64 (0#32)))
theorem Qfw (b : List (BitVec 8)) (hb : 64 ≤ b.length) : Kx b = some (Qeb b) := by
 unfold Kx
 rw [Qc (Zt (lo := 0) (hi := 64) (a := 0) (b := 64) rfl rfl (by omega) hb), List.drop_zero, Qc (QiM b hb _)]
 have := Qk3 b 16 (by omega)
 rw [show 4 * 16 = 64 from rfl] at this
 simp only [this, Qjj, Option.bind_some]
 rfl
theorem Qjh (b : List (BitVec 8)) (hb : 64 ≤ b.length) : XD b = some (Qeb b) := by
 unfold XD
 rw [Qc (Qjp b hb _)]
 simp only [QiU, Option.bind_some]
 rfl
end Go.Sl.Pu
namespace Go.Sl.Pu
open Go.Sl Go.Sl.M
def rnd (w : Vector (BitVec 32) 64) (i : Nat) (v : Vector (BitVec 32) 8) : Vector (BitVec 32) 8 :=
 #v[((((v[7] + ((rr v[4] 6 ^^^ rr v[4] 11) ^^^ rr v[4] 25)) + (v[6] ^^^ (v[4] &&& (v[5] ^^^ v[6])))) + gv YX i) + gv w i) + (((rr v[0] 2 ^^^ rr v[0] 13) ^^^ rr v[0] 22) + ((v[0] &&& v[1]) ||| (v[2] &&& (v[0] ||| v[1])))),
  v[0], v[1], v[2], v[3] + ((((v[7] + ((rr v[4] 6 ^^^ rr v[4] 11) ^^^ rr v[4] 25)) + (v[6] ^^^ (v[4] &&& (v[5] ^^^ v[6])))) + gv YX i) + gv w i), v[4], v[5], v[6]]
theorem Qj3 (w : Vector (BitVec 32) 64) (v : Vector (BitVec 32) 8) (i : Nat) (h2 : i < 64) : Ze w (i : Int) v = some (.next (((i + 1 : Nat) : Int), rnd w i v)) := by
  unfold Ze
  rw [QI (by simp; omega), Jr (n := (i : Int) + 1) (by omega)]
  rw [Qc (WX (k := -6) (a := 26) (b := 6) (by decide) (by decide))]
  rw [Qc (WX (k := -11) (a := 21) (b := 11) (by decide) (by decide))]
  rw [Qc (WX (k := -25) (a := 7) (b := 25) (by decide) (by decide))]
  rw [Qc (Vp (n := 64) (i := (i : Int)) (k := i) rfl h2)]
  rw [Qc (Vp (n := 64) (i := (i : Int)) (k := i) rfl h2)]
  rw [Option.bind_some]
  rw [Qc (WX (k := -2) (a := 30) (b := 2) (by decide) (by decide))]
  rw [Qc (WX (k := -13) (a := 19) (b := 13) (by decide) (by decide))]
  rw [Qc (WX (k := -22) (a := 10) (b := 22) (by decide) (by decide))]
  rw [Option.bind_some]
  rw [Option.bind_some]
  rfl
theorem QlI (w : Vector (BitVec 32) 64) (v : Vector (BitVec 32) 8) : Ze w ((64 : Nat) : Int) v = some (.brk (((64 : Nat) : Int), v)) := by
 unfold Ze
 exact if_neg (by simp)
theorem Qjr (w : Vector (BitVec 32) 64) (v : Q4) : Q3 (fun (s : Int × Q4) => Ze w s.1 s.2) FU (0, v) = some (64, Yi (rnd w) 0 64 v) := by
 have h := JD (f := fun (s : Int × Q4) => Ze w s.1 s.2) (fun i (v : Q4) => ((i : Int), v)) (rnd w) 0 64 (fun i v h1 h2 => Qj3 w v i h2) (fun v => QlI w v) FU v (by omega) (J4 (by omega))
 rw [Nat.sub_zero] at h
 exact h
theorem QlW (a b c : BitVec 32) : a &&& b ||| ((4294967295#32) - a) &&& c = c ^^^ (a &&& (b ^^^ c)) := by
 have e : (4294967295#32) - a = ~~~a := by
  rw [show (4294967295#32) = BitVec.allOnes 32 by decide, BitVec.allOnes_sub_eq_not]
 rw [e]
 apply BitVec.eq_of_getLsbD_eq
 intro i hi
 simp only [BitVec.getLsbD_or, BitVec.getLsbD_and, BitVec.getLsbD_not, BitVec.getLsbD_xor, hi, decide_true, Bool.true_and]
 cases a.getLsbD i <;> cases b.getLsbD i <;> cases c.getLsbD i <;> rfl
theorem Qlv (a b c : BitVec 32) : (a &&& b ||| a &&& c) ||| b &&& c = a &&& b ||| c &&& (a ||| b) := by
 apply BitVec.eq_of_getLsbD_eq
 intro i hi
 simp only [BitVec.getLsbD_or, BitVec.getLsbD_and]
 cases a.getLsbD i <;> cases b.getLsbD i <;> cases c.getLsbD i <;> rfl
theorem Qkl (w : Vector (BitVec 32) 64) (v : Vector (BitVec 32) 8) : Q3 (fun (s : Int × (Vector (BitVec 32) 8)) => Yq YX w s.1 s.2) FU (0, v) = some (64, Yi (rnd w) 0 64 v) := by
 refine JD (fun i v => ((i : Int), v)) (rnd w) 0 64 (fun i v h1 h2 => ?_) (fun v => ?_) FU v (by omega) (J4 (by omega))
 ·simp only [Yq]
  rw [QI (by simp; omega), Jr (n := (i : Int) + 1) (by omega)]
  simp only [VJ (n := 6#32) (a := 26) (b := 6) (by decide) (by decide), VJ (n := 11#32) (a := 21) (b := 11) (by decide) (by decide), VJ (n := 25#32) (a := 7) (b := 25) (by decide) (by decide),
   VJ (n := 2#32) (a := 30) (b := 2) (by decide) (by decide), VJ (n := 13#32) (a := 19) (b := 13) (by decide) (by decide), VJ (n := 22#32) (a := 10) (b := 22) (by decide) (by decide), Option.bind_some, Vp (n := 64) (i := (i : Int)) (k := i) rfl h2, QlW, Qlv]
  rfl
 ·simp only [Yq]
  rw [QU (by simp)]
def QkQ (a : Vector (BitVec 32) 8) (i : Nat) (v : Vector (BitVec 32) 8) : Vector (BitVec 32) 8 := v.setIfInBounds i (gv v i + gv a i)
theorem Qjc (a v : Vector (BitVec 32) 8) : Q3 (fun (s : Int × (Vector (BitVec 32) 8)) => Ys a s.1 s.2) FU (0, v) = some (8, Yi (QkQ a) 0 8 v) := by
 refine JD (fun i v => ((i : Int), v)) (QkQ a) 0 8 (fun i v h1 h2 => ?_) (fun v => ?_) FU v (by omega) (J4 (by omega))
 ·simp only [Ys]
  rw [QI (by simp; omega), Jr (n := (i : Int) + 1) (by omega)]
  simp only [Option.bind_some, Vp (n := 8) (i := (i : Int)) (k := i) rfl h2]
  rw [QI ⟨by omega, by omega⟩]
  rfl
 ·simp only [Ys]
  rw [QU (by simp)]
theorem Qko (a v : Vector (BitVec 32) 8) : Q3 (fun (s : Int × Q4) => Va a s.1 s.2) FU (0, v) = some (8, Yi (QkQ a) 0 8 v) := Qjc a v
def blk (s : Vector (BitVec 32) 8) (b : List (BitVec 8)) : Vector (BitVec 32) 8 := Yi (QkQ (Yi (rnd (Qeb b)) 0 64 s)) 0 8 s
theorem Qdv (s : Vector (BitVec 32) 8) (b : List (BitVec 8)) (hb : 64 ≤ b.length) : YT s b = some (blk s b) := by
 unfold YT
 rw [Qc (Qfw b hb)]
 simp only [Qjr, Qko, Option.bind_some]
 rfl
theorem QjZ (s : Vector (BitVec 32) 8) (b : List (BitVec 8)) (hb : 64 ≤ b.length) : XY s b = some (blk s b) := by
 unfold XY
 rw [Qc (Qjh b hb), Qc (show K2 = some YX from rfl)]
 simp only [Qkl, Qjc, Option.bind_some]
 rfl
theorem qx (s : Vector (BitVec 32) 8) {b b' : List (BitVec 8)} (h : ∀ i, i < 64 → gl b i = gl b' i) : blk s b = blk s b' := by
 have : Qeb b = Qeb b' := by
  unfold Qeb
  rw [qp (f := pw b) (g := pw b') 16 0 _ fun j _ hj v => ?_]
  unfold pw wd
  rw [h (4 * j) (by omega), h (4 * j + 1) (by omega), h (4 * j + 2) (by omega), h (4 * j + 3) (by omega)]
 unfold blk
 rw [this]
def Qlp (h : Vector (BitVec 32) 8) : Vector (BitVec 8) 32 := Yi (fun i (o : Vector (BitVec 8) 32) => o.setIfInBounds i ((gv h (i / 4) >>> (24 - 8 * (i % 4))).setWidth 8)) 0 32 (Vector.replicate 32 (0#8))
theorem QiO (h : Vector (BitVec 32) 8) : Q3 (fun (s : Int × Qa) => KN h s.1 s.2) FU (0, Vector.replicate 32 (0#8)) = some (32, Qlp h) := by
 refine JD (fun i v => ((i : Int), v)) (fun i (o : Vector (BitVec 8) 32) => o.setIfInBounds i ((gv h (i / 4) >>> (24 - 8 * (i % 4))).setWidth 8)) 0 32 (fun i v h1 h2 => ?_) (fun v => ?_) FU _ (by omega) (J4 (by omega))
 ·simp only [KN]
  have hd : w64 (Int.tdiv (i : Int) 4) = ((i / 4 : Nat) : Int) := by
   rw [show (4 : Int) = ((4 : Nat) : Int) from rfl, ← Int.ofNat_tdiv]; exact qD (by omega)
  have hm : Int.tmod (i : Int) 4 = ((i % 4 : Nat) : Int) := by
   rw [show (4 : Int) = ((4 : Nat) : Int) from rfl, ← Int.ofNat_tmod]
  rw [QI (by simp; omega), hd, Qc (Vp rfl (by omega)), hm, Jr (n := 8 * ((i % 4 : Nat) : Int)) (by omega), Jr (n := 24 - 8 * ((i % 4 : Nat) : Int)) (by omega), QI (by omega), QI ⟨by omega, by omega⟩, Jr (n := (i : Int) + 1) (by omega)]
  have : (24 - 8 * ((i % 4 : Nat) : Int)).toNat = 24 - 8 * (i % 4) := by omega
  rw [this]
  rfl
 ·simp only [KN]
  rw [QU (by simp)]
theorem QkJ (h : Vector (BitVec 32) 8) : Q3 (fun (s : Int × Qa) => YK h s.1 s.2) FU (0, Vector.replicate 32 (0#8)) = some (32, Qlp h) := by
 refine JD (fun i v => ((i : Int), v)) (fun i (o : Vector (BitVec 8) 32) => o.setIfInBounds i ((gv h (i / 4) >>> (24 - 8 * (i % 4))).setWidth 8)) 0 32 (fun i v h1 h2 => ?_) (fun v => ?_) FU _ (by omega) (J4 (by omega))
 ·simp only [YK]
  have hd : w64 (Int.tdiv (i : Int) 4) = ((i / 4 : Nat) : Int) := by
   rw [show (4 : Int) = ((4 : Nat) : Int) from rfl, ← Int.ofNat_tdiv]; exact qD (by omega)
  have hm : Int.tmod (i : Int) 4 = ((i % 4 : Nat) : Int) := by
   rw [show (4 : Int) = ((4 : Nat) : Int) from rfl, ← Int.ofNat_tmod]
  rw [QI (by simp; omega), hd, Qc (Vp rfl (by omega)), hm, QI ⟨by omega, by omega⟩, Jr (n := (i : Int) + 1) (by omega)]
  have h4 : i % 4 = 0 ∨ i % 4 = 1 ∨ i % 4 = 2 ∨ i % 4 = 3 := by omega
  have : (24#32 - 8#32 * BitVec.ofInt 32 ((i % 4 : Nat) : Int)).toNat = 24 - 8 * (i % 4) := by
   rcases h4 with h | h | h | h <;> rw [h] <;> decide
  rw [this]
  rfl
 ·simp only [YK]
  rw [QU (by simp)]
def zs (n : Nat) : Nat := if n % 64 < 56 then 55 - n % 64 else 119 - n % 64
def pad (b : List (BitVec 8)) : List (BitVec 8) := b ++ ([128#8] ++ (List.replicate (zs b.length) (0#8) ++ be ((BitVec.ofNat 64 b.length) <<< 3) 8))
theorem QhD (b : List (BitVec 8)) : (pad b).length = b.length + zs b.length + 9 := by
 simp [pad, JG]; omega
theorem Qin (b : List (BitVec 8)) (hb : b.length ≤ 4000000000) : Xk b = some (pad b) := by
 unfold Xk
 rw [QI (by simp [AP]; omega), QI (by simp [AP]; omega), List.nil_append]
 have hz : zs b.length ≤ 63 := by unfold zs; split <;> omega
 have h1 := JD (f := fun (s : List (BitVec 8)) => Z1 s) (fun i (_ : Unit) => (b ++ [128#8]) ++ List.replicate i (0#8)) (fun _ s => s) 0 (zs b.length) (fun i s h1 h2 => by
   simp only [Z1]
   have hl : (((b ++ [128#8]) ++ List.replicate i (0#8)).length : Int) = ((b.length + 1 + i : Nat) : Int) := by simp; omega
   have hm : Int.tmod ((b.length + 1 + i : Nat) : Int) 64 = (((b.length + 1 + i) % 64 : Nat) : Int) := by
    rw [show (64 : Int) = ((64 : Nat) : Int) from rfl, ← Int.ofNat_tmod]
   rw [hl, hm, QI (by
    simp only [Bool.not_eq_true', decide_eq_false_iff_not]
    unfold zs at h2; split at h2 <;> omega), QI (by simp [AP]; omega)]
   rw [List.append_assoc, ← List.replicate_succ']) (fun s => by
   simp only [Z1]
   have hl : (((b ++ [128#8]) ++ List.replicate (zs b.length) (0#8)).length : Int) = ((b.length + 1 + zs b.length : Nat) : Int) := by simp; omega
   have hm : Int.tmod ((b.length + 1 + zs b.length : Nat) : Int) 64 = (((b.length + 1 + zs b.length) % 64 : Nat) : Int) := by
    rw [show (64 : Int) = ((64 : Nat) : Int) from rfl, ← Int.ofNat_tmod]
   rw [hl, hm, QU (by
    simp only [Bool.not_eq_true', decide_eq_false_iff_not, Decidable.not_not]
    unfold zs; split <;> omega)]) FU () (by omega) (J4 (by omega))
 have e0 : (b ++ [128#8]) = (b ++ [128#8]) ++ List.replicate 0 (0#8) := by simp
 rw [e0]
 rw [Qc h1]
 have e8 : (8#64) * (BitVec.ofInt 64 (b.length : Int)) = (BitVec.ofNat 64 b.length) <<< 3 := by
  apply BitVec.eq_of_toNat_eq
  simp [BitVec.toNat_mul, BitVec.toNat_shiftLeft, Nat.shiftLeft_eq]
  omega
 rw [e8]
 rw [Qc (show ZD _ 8 = some _ from QdP _ 8 (by omega)), QI (by simp [AP, JG]; omega)]
 simp [pad]
def QdF (p : List (BitVec 8)) (k : Nat) : Vector (BitVec 32) 8 := Yi (fun i s => blk s (p.drop (64 * i))) 0 k Zu
def sha (b : List (BitVec 8)) : Vector (BitVec 8) 32 := Qlp (QdF (pad b) ((pad b).length / 64))
theorem Qef (b : List (BitVec 8)) {i k : Nat} (h : i < k) : gl (b.take k) i = gl b i := by
 simp only [gl, List.getD_eq_getElem?_getD, List.getElem?_take, if_pos h]
theorem Uz (b : List (BitVec 8)) (i k : Nat) : gl (b.drop k) i = gl b (k + i) := by
 simp only [gl, List.getD_eq_getElem?_getD, List.getElem?_drop]
theorem QaL (b : List (BitVec 8)) (hb : b.length ≤ 4000000000) : Z2 b = some (sha b) := by
 unfold Z2
 rw [Qc (show Vt = some Zu from rfl), Qc (Qin b hb)]
 have hlen := QhD b
 have hdiv : 64 * ((pad b).length / 64) = (pad b).length := by
  rw [hlen]; unfold zs; split <;> omega
 have hle : (pad b).length ≤ 4000000200 := by rw [hlen]; unfold zs; split <;> omega
 have h1 := JD (f := fun (s : Int × (Vector (BitVec 32) 8)) => YI (pad b) s.1 s.2) (fun i v => ((64 * i : Nat), v)) (fun i s => blk s ((pad b).drop (64 * i))) 0 ((pad b).length / 64) (fun i v h1 h2 => by
   simp only [YI]
   have hi : 64 * i + 64 ≤ (pad b).length := by omega
   rw [QI (by simp; omega), Jr (n := ((64 * i : Nat) : Int) + 64) (by omega)]
   rw [Qc (Zt (a := 64 * i) (b := 64 * i + 64) rfl (by omega) (by omega) hi), Qc (QjZ _ _ (by simp; omega))]
   have : (((64 * i : Nat) : Int) + 64) = ((64 * (i + 1) : Nat) : Int) := by omega
   rw [this]
   have hc : blk v (((pad b).take (64 * i + 64)).drop (64 * i)) = blk v ((pad b).drop (64 * i)) := by
    refine qx v fun j hj => ?_
    rw [Uz, Uz, Qef _ (by omega)]
   rw [hc]) (fun v => by
   simp only [YI]
   rw [QU (by simp; omega)]) FU Zu (by omega) (J4 (by omega))
 have e0 : ((0 : Int), Zu) = (((64 * 0 : Nat) : Int), Zu) := rfl
 rw [e0, Qc h1]
 simp only [QkJ, Option.bind_some]
 rfl
end Go.Sl.Pu
namespace Go.Sl.Pu
open Go.Sl Go.Sl.M
theorem Bf (a b : List (BitVec 8)) (i : Nat) : gl (a ++ b) i = if i < a.length then gl a i else gl b (i - a.length) := by
 simp only [gl, List.getD_eq_getElem?_getD]
 split
 ·rename_i h; rw [List.getElem?_append_left h]
 ·rename_i h; rw [List.getElem?_append_right (by omega)]
theorem QiI (n i : Nat) : gl (List.replicate n (0#8)) i = 0 := by
 simp only [gl, List.getD_eq_getElem?_getD, List.getElem?_replicate]
 split <;> rfl
theorem QlN {w : Nat} (x : BitVec w) (k i : Nat) (h : i < k) : gl (be x k) i = (x >>> (8 * (k - 1 - i))).setWidth 8 := by
 simp [gl, be, h]
theorem Qk9 (b : List (BitVec 8)) (i : Nat) (h : b.length ≤ i) : gl b i = 0 := by
 simp [gl, List.getElem?_eq_none h]
theorem Qgz {n : Nat} (v : Vector (BitVec 8) n) (j : Nat) : gl v.toList j = gv v j := by
 simp only [gl, gv, List.getD_eq_getElem?_getD]
 by_cases h : j < n
 ·simp [h]
 ·rw [List.getElem?_eq_none (by simpa using h), Vector.getElem?_eq_none (by omega)]
theorem Qkv {n : Nat} (l : List (BitVec 8)) (h : l.length ≤ n) (j : Nat) : gv (Qgw (Vector.replicate n (0#8)) 0 l) j = gl l j := by
 rw [← Qgz, QbY _ _ _ (by omega)]
 simp only [List.take_zero, List.nil_append]
 rw [Bf]
 split
 ·rfl
 ·rename_i hj
  rw [Uz, Qgz, Qk9 l j (by omega)]
  unfold gv
  by_cases h2 : 0 + l.length + (j - l.length) < n
  ·rw [Vector.getElem?_eq_getElem h2]; simp
  ·rw [Vector.getElem?_eq_none (by omega)]; rfl
def Qiq (S : Nat) (x : BitVec 64) (i : Nat) (v : Vector (BitVec 8) 128) : Vector (BitVec 8) 128 := v.setIfInBounds (S - 1 - i) ((x >>> (8 * i)).setWidth 8)
theorem Qhi (S : Nat) (x : BitVec 64) (hS : S ≤ 128) (v : Vector (BitVec 8) 128) : ∀ (k : Nat), k ≤ S → ∀ j, gv (Yi (Qiq S x) 0 k v) j = if S - k ≤ j ∧ j < S then (x >>> (8 * (S - 1 - j))).setWidth 8 else gv v j
 | 0, _, j => by rw [if_neg (by omega)]; rfl
 | k + 1, hk, j => by
  rw [Wl, Nat.zero_add]
  unfold Qiq
  by_cases hj : S - 1 - k = j
  ·subst hj
   rw [BZ (by omega), if_pos ⟨by omega, by omega⟩]
   congr 2; omega
  ·rw [Qbv hj]
   have ih := Qhi S x hS v k (by omega) j
   unfold Qiq at ih
   rw [ih]
   by_cases h2 : S - k ≤ j ∧ j < S
   ·rw [if_pos h2, if_pos ⟨by omega, h2.2⟩]
   ·rw [if_neg h2, if_neg (by omega)]
theorem QlK (b : List (BitVec 8)) (hb : b.length ≤ 4000000000) : Q3 (fun (s : (List (BitVec 8)) × Q4) => Ka s.1 s.2) FU (b, Zu) = some (b.drop (64 * (b.length / 64)), Yi (fun i s => blk s (b.drop (64 * i))) 0 (b.length / 64) Zu) := by
 have h := JD (f := fun (s : (List (BitVec 8)) × Q4) => Ka s.1 s.2) (fun i (v : Q4) => (b.drop (64 * i), v)) (fun i s => blk s (b.drop (64 * i))) 0 (b.length / 64) (fun i v h1 h2 => by
  simp only [Ka]
  have hl : (b.drop (64 * i)).length = b.length - 64 * i := by simp
  rw [QI (by rw [hl]; simp; omega), Qc (Qdv _ _ (by rw [hl]; omega)), Qc (Zt (lo := 64) (a := 64) (b := (b.drop (64 * i)).length) rfl rfl (by rw [hl]; omega) (Nat.le_refl _)), List.take_length, List.drop_drop]
  rw [show 64 * i + 64 = 64 * (i + 1) by omega]) (fun v => by
  simp only [Ka]
  rw [QU (by simp; omega)]) FU Zu (by omega) (J4 (by omega))
 exact h
theorem QlF (S : Nat) (b : List (BitVec 8)) (hS : S = 64 ∨ S = 128) (v : Vector (BitVec 8) 128) : Q3 (fun (s : Int × (Vector (BitVec 8) 128)) => KM (S : Int) b s.1 s.2) FU ((0 : Int), v) = some ((8 : Int), Yi (Qiq S ((BitVec.ofNat 64 b.length) <<< 3)) 0 8 v) := by
 refine JD (fun i v => ((i : Int), v)) (Qiq S ((BitVec.ofNat 64 b.length) <<< 3)) 0 8 (fun i v h1 h2 => ?_) (fun v => ?_) FU v (by omega) (J4 (by omega))
 ·simp only [KM]
  rw [QI (by simp; omega), Jr (n := 8 * (i : Int)) (by omega), QI (by omega), Jr (n := (S : Int) - 1) (by omega), Jr (n := (S : Int) - 1 - (i : Int)) (by omega), QI ⟨by omega, by omega⟩, Jr (n := (i : Int) + 1) (by omega)]
  have e1 : ((S : Int) - 1 - (i : Int)).toNat = S - 1 - i := by omega
  have e2 : (8 * (i : Int)).toNat = 8 * i := by omega
  rw [e1, e2]
  rfl
 ·simp only [KM]
  rw [QU (by simp)]
theorem QcS (b : List (BitVec 8)) (hb : b.length ≤ 4000000000) : KZ b = some (sha b) := by
 unfold KZ
 rw [Qc (QlK b hb)]
 generalize hst : Yi (fun i s => blk s (b.drop (64 * i))) 0 (b.length / 64) Zu = st
 have hl : (b.drop (64 * (b.length / 64))).length = b.length % 64 := by simp; omega
 have hst2 : QdF (pad b) (b.length / 64) = st := by
  rw [← hst]
  unfold QdF
  refine qp _ 0 _ fun i _ hi s => ?_
  refine qx s fun j hj => ?_
  rw [Uz, Uz]
  unfold pad
  rw [Bf, if_pos (by omega)]
 have hsize : (if (decide ((56 : Int) ≤ ((b.drop (64 * (b.length / 64))).length : Int))) = true then some (128 : Int) else some (64 : Int)) = some (((if b.length % 64 < 56 then 64 else 128 : Nat)) : Int) := by
  rw [hl]
  by_cases h : b.length % 64 < 56
  ·rw [if_neg (by simp; omega), if_pos h]; rfl
  ·rw [if_pos (by simp; omega), if_neg h]; rfl
 simp only []
 rw [hsize]
 generalize hS : (if b.length % 64 < 56 then 64 else 128 : Nat) = S
 have hS2 : S = 64 ∨ S = 128 := by rw [← hS]; split <;> simp
 rw [Option.bind_some, QI ⟨by omega, by rw [hl]; omega⟩, Option.bind_some]
 rw [Qc (QlF S b hS2 _)]
 simp only []
 generalize hT : Yi (Qiq S ((BitVec.ofNat 64 b.length) <<< 3)) 0 8 ((Qgw (Vector.replicate 128 (0#8)) 0 ((b.drop (64 * (b.length / 64))).take 128)).setIfInBounds ((b.drop (64 * (b.length / 64))).length : Int).toNat (128#8)) = T
 -- the tail is the padded text's end
 have htail : ∀ j, j < S → gl T.toList j = gl ((pad b).drop (64 * (b.length / 64))) j := by
  intro j hj
  rw [Qgz, ← hT, Qhi S _ (by omega) _ 8 (by omega), Uz]
  have hr : ((b.drop (64 * (b.length / 64))).length : Int).toNat = b.length % 64 := by rw [hl]; omega
  rw [hr]
  unfold pad
  rw [Bf, Bf, Bf]
  simp only [List.length_cons, List.length_nil, List.length_replicate]
  have hz : zs b.length = S - 9 - b.length % 64 := by
   rw [← hS]; unfold zs; split <;> omega
  have hz2 : b.length % 64 ≤ S - 9 := by rw [← hS]; split <;> omega
  have hz3 : 64 ≤ S := by omega
  by_cases h1 : S - 8 ≤ j ∧ j < S
  ·rw [if_pos h1, if_neg (by rw [← hS] at h1; split at h1 <;> omega), if_neg (by rw [← hS] at h1; split at h1 <;> omega), if_neg (by rw [hz]; omega), QlN _ _ _ (by rw [hz]; omega)]
   congr 2
   rw [hz]; omega
  ·rw [if_neg h1]
   by_cases h2 : b.length % 64 = j
   ·rw [h2, BZ (by omega), if_neg (by omega), if_pos (by omega)]
    have : 64 * (b.length / 64) + j - b.length = 0 := by omega
    rw [this]; rfl
   ·rw [Qbv h2, Qkv _ (by simp; omega), Qef _ (by omega), Uz]
    by_cases h3 : j < b.length % 64
    ·rw [if_pos (by omega)]
    ·rw [if_neg (by omega), if_neg (by omega), if_pos (by rw [hz]; omega), QiI, Qk9 _ _ (by omega)]
 rw [Qc (Qdv _ _ (by simp))]
 have hb1 : blk st T.toList = QdF (pad b) (b.length / 64 + 1) := by
  unfold QdF
  rw [Wl, Nat.zero_add]
  show _ = blk (QdF (pad b) (b.length / 64)) _
  rw [hst2]
  exact qx st fun j hj => htail j (by omega)
 have hlen := QhD b
 have hK : (pad b).length / 64 = b.length / 64 + S / 64 := by
  rw [hlen, ← hS]; unfold zs; split <;> omega
 rcases hS2 with rfl | rfl
 ·rw [QU (by simp), Option.bind_some]
  rw [Qc (QiO _), hb1]
  unfold sha
  rw [hK]
 ·rw [QI (by simp), Qc (Qdv _ _ (by simp)), Option.bind_some]
  rw [Qc (QiO _)]
  unfold sha
  rw [hK, hb1]
  have : blk (QdF (pad b) (b.length / 64 + 1)) ((T.toList.drop 64).take 64) = QdF (pad b) (b.length / 64 + 128 / 64) := by
   rw [show b.length / 64 + 128 / 64 = (b.length / 64 + 1) + 1 by omega]
   conv => rhs; unfold QdF
   rw [Wl, Nat.zero_add]
   show _ = blk (QdF (pad b) (b.length / 64 + 1)) _
   refine qx _ fun j hj => ?_
   rw [Qef _ hj, Uz, htail _ (by omega), Uz, Uz]
   congr 1; omega
  rw [this]
end Go.Sl.Pu
namespace Go.Sl
theorem Qc3 {τ ρ : Type} {f : τ → Option (LR τ ρ)} (en : Nat → τ) (n : Nat) (r : Nat → Option ρ) (h : ∀ i, i < n → f (en i) = some (match r i with | some x => .ret x | none => .next (en (i + 1)))) (he : f (en n) = some (.brk (en n))) (hn : n ≤ 9000000000) :
  ZO f FU (en 0) = some (match (List.range n).findSome? r with | some x => .inr x | none => .inl (en n)) := by
 have key : ∀ (d i fuel : Nat), i + d = n → d < fuel → ZO f fuel (en i) = some (match ((List.range' i d).findSome? r) with | some x => .inr x | none => .inl (en n)) := by
  intro d
  induction d with
  | zero =>
   intro i fuel hi hf
   cases fuel with
   | zero => omega
   | succ fuel =>
    have : i = n := by omega
    subst this
    rw [KL he]; rfl
  | succ d ih =>
   intro i fuel hi hf
   cases fuel with
   | zero => omega
   | succ fuel =>
    have h1 := h i (by omega)
    rw [List.range'_succ, List.findSome?_cons]
    cases hr : r i with
    | some x => rw [hr] at h1; rw [Wd h1]
    | none => rw [hr] at h1; rw [Uo h1, ih (i + 1) fuel (by omega) (by omega)]
 have := key n 0 FU (by omega) (J4 hn)
 rw [← List.range_eq_range'] at this
 exact this
theorem Qij {ρ : Type} {n : Nat} {r : Nat → Option ρ} (h : ∀ i, i < n → r i = none) : (List.range n).findSome? r = none := by
 rw [List.findSome?_eq_none_iff]
 intro i hi; exact h i (List.mem_range.1 hi)
theorem Qd9 {ρ : Type} {n : Nat} {r : Nat → Option ρ} {x : ρ} (h : ∀ i, i < n → r i = none ∨ r i = some x) (hx : ∃ i, i < n ∧ r i ≠ none) : (List.range n).findSome? r = some x := by
 cases hf : (List.range n).findSome? r with
 | none =>
  rw [List.findSome?_eq_none_iff] at hf
  obtain ⟨i, hi, hr⟩ := hx
  exact absurd (hf i (List.mem_range.2 hi)) hr
 | some y =>
  obtain ⟨i, hi, hr⟩ := List.exists_of_findSome?_eq_some hf
  rcases h i (List.mem_range.1 hi) with h | h
  ·rw [h] at hr; cases hr
  ·rw [h] at hr; exact hr.symm
namespace Pu
open Go.Sl Go.Sl.M
theorem Qkb (a b : List (BitVec 8)) (ha : a.length ≤ 4294967296) : XQ a b = some (decide (a = b)) := by
 unfold XQ
 by_cases hl : a.length = b.length
 ·rw [QU (by simp [hl])]
  have h1 := Qc3 (f := fun (s : Int) => ZM a b s) (fun i => (i : Int)) a.length (fun i => if a[i]? = b[i]? then none else some false) (fun i hi => by
   simp only [ZM]
   rw [QI (by simp; omega), Qc (Jm rfl hi), Qc (Jm rfl (by omega)), Jr (by omega)]
   rw [List.getElem?_eq_getElem hi, List.getElem?_eq_getElem (show i < b.length by omega)]
   by_cases he : a[i] = b[i]
   ·rw [QU (by simp [he]), if_pos (by rw [he])]; rfl
   ·rw [QI (by simp [he]), if_neg (by simpa using he)]) (by
   simp only [ZM]
   rw [QU (by simp)]) (by omega)
  have h1' : ZO (fun (s : Int) => ZM a b s) FU (0 : Int) = _ := h1
  rw [Qc h1']
  by_cases hab : a = b
  ·rw [Qij (fun i hi => by rw [hab]; simp)]
   simp [hab]
  ·rw [Qd9 (x := false) (fun i hi => by split <;> simp) (by
    apply Decidable.byContradiction
    intro hc
    apply hab
    apply List.ext_getElem? 
    intro i
    by_cases hi : i < a.length
    ·apply Decidable.byContradiction
     intro hn
     exact hc ⟨i, hi, by rw [if_neg hn]; simp⟩
    ·rw [List.getElem?_eq_none (by omega), List.getElem?_eq_none (by omega)])]
   simp [hab]
 ·rw [QI (by simp; omega)]
  have : a ≠ b := fun e => hl (by rw [e])
  simp [this]
def body (parts : List (List (BitVec 8))) : List (BitVec 8) := parts.flatMap fun p => be (BitVec.ofNat 32 p.length) 4 ++ p
def Qkd (tag : BitVec 8) (parts : List (List (BitVec 8))) : List (BitVec 8) := tag :: body parts
def VT (parts : List (List (BitVec 8))) : Nat := (parts.map fun p => 4 + p.length).sum
theorem Qfv (parts : List (List (BitVec 8))) : (body parts).length = VT parts := by
 unfold body VT
 rw [List.length_flatMap]
 congr 1
 apply List.map_congr_left
 intro p _
 rw [List.length_append, JG]
theorem Qcy (parts : List (List (BitVec 8))) (i : Nat) (hi : i < parts.length) : VT (parts.take (i + 1)) = VT (parts.take i) + (4 + parts[i].length) := by
 unfold VT
 rw [List.take_succ_eq_append_getElem hi]; simp only [List.map_append, List.map_cons, List.map_nil, List.sum_append, List.sum_cons, List.sum_nil, Nat.add_zero]
theorem QhY (parts : List (List (BitVec 8))) (i : Nat) (hi : i < parts.length) : body (parts.take (i + 1)) = (body (parts.take i) ++ be (BitVec.ofNat 32 parts[i].length) 4) ++ parts[i] := by
 unfold body
 rw [List.take_succ_eq_append_getElem hi]; simp only [List.flatMap_append, List.flatMap_cons, List.flatMap_nil, List.append_nil, List.append_assoc]
theorem Qe2 (parts : List (List (BitVec 8))) (i : Nat) : VT (parts.take i) ≤ VT parts := by
 unfold VT
 conv => rhs; rw [← List.take_append_drop i parts]
 rw [List.map_append, List.sum_append]; omega
theorem be4 (n : Nat) : be (BitVec.ofNat 32 n) 4 = [((BitVec.ofInt 32 (n : Int)) >>> 24).setWidth 8, ((BitVec.ofInt 32 (n : Int)) >>> 16).setWidth 8, ((BitVec.ofInt 32 (n : Int)) >>> 8).setWidth 8, (BitVec.ofInt 32 (n : Int)).setWidth 8] := by
 have e : BitVec.ofInt 32 (n : Int) = BitVec.ofNat 32 n := by
  apply BitVec.eq_of_toNat_eq; simp
 rw [e]
 simp [be, List.range_succ]
theorem Qd1 : ∀ (parts : List (List (BitVec 8))), 4 * parts.length ≤ VT parts
 | [] => by simp
 | q :: r => by
  have e : VT (q :: r) = 4 + q.length + VT r := by simp [VT]
  have := Qd1 r
  rw [e, List.length_cons]; omega
theorem Qki (tag : BitVec 8) (parts : List (List (BitVec 8))) (hs : VT parts ≤ 4000000000) : Bb tag parts = some (Qkd tag parts) := by
 have hpl := Qd1 parts
 unfold Bb
 have h1 := JD (f := fun (s : Int × Int) => Ke parts s.1 s.2) (fun i (_ : Unit) => ((1 + VT (parts.take i) : Nat), (i : Int))) (fun _ s => s) 0 parts.length (fun i s h1 h2 => by
   simp only [Ke]
   have h3 := Qcy parts i h2
   have h4 := Qe2 parts (i + 1)
   rw [QI (by simp; omega), Qc (Jm rfl h2), Jr (n := 4 + (parts[i].length : Int)) (by omega), Jr (by omega), Option.bind_some, Jr (n := (i : Int) + 1) (by omega), h3]
   have : ((1 + VT (parts.take i) : Nat) : Int) + (4 + (parts[i].length : Int)) = ((1 + (VT (parts.take i) + (4 + parts[i].length)) : Nat) : Int) := by omega
   rw [this]; rfl) (fun s => by
   simp only [Ke]
   rw [QU (by simp)]) FU () (by omega) (J4 (by omega))
 have e0 : (((1 : Int), (0 : Int)) : Int × Int) = (((1 + VT (parts.take 0) : Nat) : Int), ((0 : Nat) : Int)) := by simp [VT]
 rw [e0, Qc h1, List.take_length]
 rw [QI ⟨by omega, by omega⟩, QI (by simp [AP])]
 have h2 := JD (f := fun (s : Int × (List (BitVec 8))) => Ko parts s.1 s.2) (fun i (_ : Unit) => ((i : Int), tag :: body (parts.take i))) (fun _ s => s) 0 parts.length (fun i s h1 h2 => by
   simp only [Ko]
   have h3 := Qcy parts i h2
   have h4 := Qe2 parts (i + 1)
   have h5 := Qfv (parts.take i)
   rw [QI (by simp; omega), Qc (Jm rfl h2), QI (by simp [AP]; omega), QI (by simp [AP]; omega), Jr (n := (i : Int) + 1) (by omega), ← be4, QhY parts i h2]
   rfl) (fun s => by
   simp only [Ko]
   rw [QU (by simp)]) FU () (by omega) (J4 (by omega))
 have e1 : (((0 : Int), ([] : List (BitVec 8)) ++ [tag]) : Int × List (BitVec 8)) = (((0 : Nat) : Int), tag :: body (parts.take 0)) := by simp [body]
 rw [e1, Qc h2, List.take_length]
 rfl
def Qab (tag : BitVec 8) (parts : List (List (BitVec 8))) : Vector (BitVec 8) 32 := sha (Qkd tag parts)
theorem QiC (tag : BitVec 8) (parts : List (List (BitVec 8))) : (Qkd tag parts).length = VT parts + 1 := by
 unfold Qkd; rw [List.length_cons, Qfv]
theorem qs (tag : BitVec 8) (parts : List (List (BitVec 8))) (hs : VT parts ≤ 3000000000) : KS tag parts = some (Qab tag parts) := by
 unfold KS
 rw [Qc (Qki tag parts (by omega)), Qc (QcS _ (by rw [QiC]; omega))]
 rfl
end Pu
end Go.Sl
namespace Go.Sl
section
variable {σ τ α : Type}
def Vo (y : σ → α → Option σ) : σ → List α → Option σ
 | s, [] => some s
 | s, x :: xs => Option.bind (y s x) fun s' => Vo y s' xs
theorem Qbg (y : σ → α → Option σ) : ∀ (a b : List α) (s : σ), Vo y s (a ++ b) = Option.bind (Vo y s a) fun s' => Vo y s' b
 | [], b, s => rfl
 | x :: a, b, s => by
  rw [List.cons_append, Vo, Vo]
  cases y s x with
  | none => rfl
  | some s' => simp only [Option.bind_some]; exact Qbg y a b s'
theorem QgB {f : τ → Option (LR τ Empty)} {n : Nat} {s : τ} (h : f s = none) : Q3 f (n + 1) s = none := by
 unfold Q3 ZO; rw [h]
theorem QbT {f : τ → Option (LR τ Empty)} (l : List α) (en : Nat → σ → τ) (y : σ → α → Option σ)
  (h : ∀ i s (hi : i < l.length), f (en i s) = Option.bind (y s l[i]) fun s' => some (.next (en (i + 1) s')))
  (he : ∀ s, f (en l.length s) = some (.brk (en l.length s))) (hn : l.length ≤ 9000000000) (s : σ) :
  Q3 f FU (en 0 s) = Option.bind (Vo y s l) fun s' => some (en l.length s') := by
 have key : ∀ (d i n : Nat) (s : σ), i + d = l.length → d < n → Q3 f n (en i s) = Option.bind (Vo y s (l.drop i)) fun s' => some (en l.length s') := by
  intro d
  induction d with
  | zero =>
   intro i n s hd hn
   obtain ⟨n, rfl⟩ : ∃ k, n = k + 1 := ⟨n - 1, by omega⟩
   have : i = l.length := by omega
   subst this
   rw [YM (he s), List.drop_length]; rfl
  | succ d ih =>
   intro i n s hd hn
   obtain ⟨n, rfl⟩ : ∃ k, n = k + 1 := ⟨n - 1, by omega⟩
   have hl : i < l.length := by omega
   have h1 := h i s hl
   rw [List.drop_eq_getElem_cons hl, Vo]
   cases hy : y s l[i] with
   | none => rw [hy] at h1; rw [QgB h1]; rfl
   | some s' =>
    rw [hy, Option.bind_some] at h1
    rw [Yx h1, Option.bind_some]
    exact ih (i + 1) n s' (by omega) (by omega)
 have := key l.length 0 FU s (by omega) (J4 hn)
 simpa using this
theorem q8 {β : Type} (y : σ → α → Option σ) (g : β → List α) : ∀ (b : List β) (s : σ), Vo (fun s c => Vo y s (g c)) s b = Vo y s (b.flatMap g)
 | [], s => rfl
 | c :: b, s => by
  rw [List.flatMap_cons, Qbg, Vo]
  congr 1; funext s'
  exact q8 y g b s'
end
theorem Qbf (a k : Nat) (hk : k ≤ 64) : U9 (a : Int) (k : Int) = ((a / 2 ^ k : Nat) : Int) := by
 unfold U9
 rw [Int.toNat_natCast, Nat.min_eq_left hk]
 have : ((2 : Int) ^ k) = ((2 ^ k : Nat) : Int) := by simp
 rw [this, Int.fdiv_eq_ediv_of_nonneg _ (Int.natCast_nonneg _)]; simp
theorem Qfc (a k : Nat) (hk : k ≤ 64) (h : a * 2 ^ k < 9223372036854775808) : XG (a : Int) (k : Int) = ((a * 2 ^ k : Nat) : Int) := by
 unfold XG
 rw [Int.toNat_natCast, Nat.min_eq_left hk]
 have : ((2 : Int) ^ k) = ((2 ^ k : Nat) : Int) := by simp
 rw [this, ← Int.natCast_mul, qD h]
theorem Qd3 (a k : Nat) (hk : k ≤ 32) (ha : a < 9223372036854775808) : Qfr (a : Int) ((2 ^ k - 1 : Nat) : Int) = ((a % 2 ^ k : Nat) : Int) := by
 unfold Qfr
 have e : ∀ n : Nat, BitVec.ofInt 64 (n : Int) = BitVec.ofNat 64 n := fun n => by apply BitVec.eq_of_toNat_eq; simp
 have h2 : 2 ^ k ≤ 2 ^ 32 := Nat.pow_le_pow_right (by decide) hk
 have h3 : (2 : Nat) ^ 32 = 4294967296 := by decide
 have h4 : (2 : Nat) ^ 64 = 18446744073709551616 := by decide
 rw [e, e, BitVec.toNat_and, BitVec.toNat_ofNat, BitVec.toNat_ofNat, h4, Nat.mod_eq_of_lt (by omega), Nat.mod_eq_of_lt (by omega), Nat.and_two_pow_sub_one_eq_mod]
 have := Nat.mod_lt a (Nat.two_pow_pos k)
 exact qD (by omega)
namespace Pu
open Go.Sl Go.Sl.M
def ZE : Nat → Nat
 | 1 => 1 | 2 => 2 | 3 => 4 | 4 => 8 | _ => 0
def Js : Nat → Nat
 | 1 => 265 | 2 => 133 | 3 => 67 | 4 => 34 | _ => 0
def Bn : Nat → Nat
 | 1 => 7 | 2 => 6 | 3 => 4 | _ => 0
def JT (k : Nat) : Prop := k = 1 ∨ k = 2 ∨ k = 3 ∨ k = 4
instance (k : Nat) : Decidable (JT k) := by unfold JT; infer_instance
abbrev frm (k : Nat) : JC := ((ZE k : Int), (Js k : Int), (Bn k : Int))
theorem Qha {k : Nat} (hk : JT k) : Ks (k : Int) = some (frm k, true) := by
 rcases hk with rfl | rfl | rfl | rfl <;> rfl
theorem QjV {k : Int} (hk : ¬ (1 ≤ k ∧ k ≤ 4)) : Ks k = some ((0, 0, 0), false) := by
 unfold Ks
 by_cases h : k < 1
 ·rw [QI (by simpa using h), Option.bind_some, QI rfl]
 ·rw [QU (by simpa using h), Option.bind_some, QI (by simp; omega)]
theorem Qcv {k : Nat} (hk : JT k) : Yj (frm k) = some ((2 ^ ZE k - 1 : Nat) : Int) := by
 rcases hk with rfl | rfl | rfl | rfl <;> rfl
theorem Qam {k : Nat} (hk : JT k) : ZE k = 1 ∨ ZE k = 2 ∨ ZE k = 4 ∨ ZE k = 8 := by
 rcases hk with rfl | rfl | rfl | rfl <;> simp [ZE]
def dg (bits c j : Nat) : Nat := c / 2 ^ (8 - bits * (j + 1)) % 2 ^ bits
def dgs (bits : Nat) (c : BitVec 8) : List Int := (List.range (8 / bits)).map fun j => (dg bits c.toNat j : Int)
def Qdd (bits : Nat) (b : List (BitVec 8)) : List Int := b.flatMap (dgs bits)
theorem qG (bits : Nat) (c : BitVec 8) : (dgs bits c).length = 8 / bits := by simp [dgs]
theorem QaZ (bits : Nat) : ∀ (b : List (BitVec 8)), (Qdd bits b).length = b.length * (8 / bits)
 | [] => by simp [Qdd]
 | c :: b => by
  show (dgs bits c ++ Qdd bits b).length = _
  rw [List.length_append, qG, QaZ bits b, List.length_cons, Nat.add_mul]; omega
theorem QlT (bits c j : Nat) : dg bits c j < 2 ^ bits := Nat.mod_lt _ (Nat.two_pow_pos _)
theorem QfD {bits : Nat} {b : List (BitVec 8)} {d : Int} (h : d ∈ Qdd bits b) : 0 ≤ d ∧ d < (2 ^ bits : Nat) := by
 obtain ⟨c, _, hc⟩ := List.mem_flatMap.1 h
 obtain ⟨j, _, rfl⟩ := List.mem_map.1 hc
 have := QlT bits c.toNat j
 omega
theorem Qlq {Sy : Type} {k : Nat} (hk : JT k) (yl : Sy → Int → Option Sy) (c : BitVec 8) (s : Sy) :
  Q3 (fun (s : Int × Sy) => Yy (frm k) yl c s.1 s.2) FU (w64 ((8 : Int) - (frm k).1), s) = Option.bind (Vo yl s (dgs (ZE k) c)) fun s' => some ((8 : Int) - (ZE k : Int) * ((8 / ZE k : Nat) + 1 : Int), s') := by
 have hb := Qam hk
 have h := QbT (f := fun (s : Int × Sy) => Yy (frm k) yl c s.1 s.2) (dgs (ZE k) c) (fun i s => ((8 : Int) - (ZE k : Int) * ((i : Int) + 1), s)) yl (fun i s hi => by
  rw [qG] at hi
  have hle : ZE k * (i + 1) ≤ 8 := by
   rcases hb with h | h | h | h <;> rw [h] at hi ⊢ <;> omega
  have e1 : (8 : Int) - (ZE k : Int) * ((i : Int) + 1) = ((8 - ZE k * (i + 1) : Nat) : Int) := by
   have : ((ZE k * (i + 1) : Nat) : Int) = (ZE k : Int) * ((i : Int) + 1) := by simp
   omega
  simp only [Yy]
  have hc := c.isLt
  rw [e1, QI (by simp), QI (by omega), Qc (Qcv hk), Qbf _ _ (by omega), Qd3 _ _ (by omega) (Nat.lt_of_le_of_lt (Nat.div_le_self _ _) (by omega))]
  have e2 : (dgs (ZE k) c)[i]'(by rw [qG]; exact hi) = ((c.toNat / 2 ^ (8 - ZE k * (i + 1)) % 2 ^ ZE k : Nat) : Int) := by simp [dgs, dg]
  rw [e2]
  congr 1; funext s'
  have e3 : w64 (((8 - ZE k * (i + 1) : Nat) : Int) - (frm k).1) = (8 : Int) - (ZE k : Int) * (((i + 1 : Nat) : Int) + 1) := by
   rw [Ji (by show _ ≤ _ - ((ZE k : Nat) : Int); omega) (by show _ - ((ZE k : Nat) : Int) < _; omega)]
   show _ - ((ZE k : Nat) : Int) = _
   rw [← e1]
   rcases hb with h | h | h | h <;> rw [h] <;> omega
  rw [e3]) (fun s => by
  simp only [Yy, qG]
  rw [QU (by simp; rcases hb with h | h | h | h <;> rw [h] <;> omega)]) (by rw [qG]; rcases hb with h | h | h | h <;> rw [h] <;> omega) s
 have e0 : w64 ((8 : Int) - (frm k).1) = (8 : Int) - (ZE k : Int) * (((0 : Nat) : Int) + 1) := by
  show w64 ((8 : Int) - (ZE k : Int)) = _
  rcases hb with h | h | h | h <;> rw [h] <;> decide
 rw [e0]
 rw [qG] at h
 exact h
theorem QiL {Sy : Type} {k : Nat} (hk : JT k) (b : List (BitVec 8)) (hb : b.length ≤ 4000000000) (yl : Sy → Int → Option Sy) (s : Sy) : Vj (frm k) b yl s = Vo yl s (Qdd (ZE k) b) := by
 unfold Vj
 have h := QbT (f := fun (s : Int × Sy) => YC b (frm k) yl s.1 s.2) b (fun i s => ((i : Int), s)) (fun s c => Vo yl s (dgs (ZE k) c)) (fun i s hi => by
  simp only [YC]
  rw [QI (by simp; omega), Qc (Jm rfl hi), Qlq hk]
  cases Vo yl s (dgs (ZE k) b[i]) with
  | none => rfl
  | some s' =>
   simp only [Option.bind_some]
   rw [Jr (n := (i : Int) + 1) (by omega)]; rfl) (fun s => by
  simp only [YC]
  rw [QU (by simp)]) (by omega) s
 have h' : Q3 (fun (s : Int × Sy) => YC b (frm k) yl s.1 s.2) FU ((0 : Int), s) = _ := h
 rw [h', q8]
 unfold Qdd
 cases Vo yl s (b.flatMap (dgs (ZE k))) <;> rfl
def Qgd (bits : Nat) (b : List (BitVec 8)) : Nat := ((Qdd bits b).map fun d => (2 ^ bits - 1 : Nat) - d.toNat).sum
theorem QjP (bits : Nat) (b : List (BitVec 8)) : Qgd bits b ≤ b.length * (8 / bits) * (2 ^ bits - 1) := by
 unfold Qgd
 have key : ∀ l : List Int, (l.map fun d => (2 ^ bits - 1 : Nat) - d.toNat).sum ≤ l.length * (2 ^ bits - 1) := by
  intro l
  induction l with
  | nil => simp
  | cons d l ih => simp only [List.map_cons, List.sum_cons, List.length_cons, Nat.add_mul]; omega
 have := key (Qdd bits b)
 rwa [QaZ] at this
theorem Qe9 {k : Nat} (hk : JT k) : ∀ (l : List Int) (s : Nat), (∀ d ∈ l, 0 ≤ d ∧ d < (2 ^ ZE k : Nat)) → s + l.length * 255 < 4000000000 →
  Vo (fun (s : Int) (d : Int) => Yc (frm k) s d) (s : Int) l = some ((s + (l.map fun d => (2 ^ ZE k - 1 : Nat) - d.toNat).sum : Nat) : Int)
 | [], s, _, _ => by simp [Vo]
 | d :: l, s, hd, hs => by
  have hb : 2 ^ ZE k ≤ 256 := by rcases Qam hk with h | h | h | h <;> rw [h] <;> decide
  have h1 := hd d (by simp)
  rw [List.length_cons, Nat.add_mul] at hs
  rw [Vo]
  have e : Yc (frm k) (s : Int) d = some ((s + ((2 ^ ZE k - 1 : Nat) - d.toNat) : Nat) : Int) := by
   unfold Yc
   rw [Qc (Qcv hk), Ji (n := ((2 ^ ZE k - 1 : Nat) : Int) - d) (by omega) (by omega), Ji (by omega) (by omega)]
   congr 1; omega
  rw [e, Option.bind_some, Qe9 hk l _ (fun d hd' => hd d (by simp [hd'])) (by omega)]
  congr 1
  simp only [List.map_cons, List.sum_cons]; omega
def csb (k : Nat) (h : List (BitVec 8)) : List (BitVec 8) := [BitVec.ofNat 8 (Qgd (ZE k) h * 2 ^ Bn k / 256), BitVec.ofNat 8 (Qgd (ZE k) h * 2 ^ Bn k)]
theorem Qiu {k : Nat} (hk : JT k) (h : Qa) : Qgd (ZE k) h.toList * 2 ^ Bn k < 65536 := by
 have := QjP (ZE k) h.toList
 rw [Vector.length_toList] at this
 rcases hk with rfl | rfl | rfl | rfl <;> simp [ZE, Bn] at this ⊢ <;> omega
theorem QiF {k : Nat} (hk : JT k) : Bn k ≤ 7 := by rcases hk with rfl | rfl | rfl | rfl <;> simp [Bn]
theorem QjQ {k : Nat} (hk : JT k) (h : Qa) : V3 (frm k) h = some (csb k h.toList) := by
 unfold V3 Kl
 have h1 := Qe9 hk (Qdd (ZE k) h.toList) 0 (fun d hd => QfD hd) (by rw [QaZ, Vector.length_toList]; rcases Qam hk with h | h | h | h <;> rw [h] <;> omega)
 rw [QiL hk _ (by simp)]
 have h1' : Vo (fun (s : Int) (d : Int) => Yc (frm k) s d) (0 : Int) (Qdd (ZE k) h.toList) = some ((Qgd (ZE k) h.toList : Nat) : Int) := by
  have e : ((0 : Nat) : Int) = 0 := rfl
  rw [e] at h1
  rw [h1]; unfold Qgd; congr 2; omega
 rw [h1', Option.bind_some, Option.bind_some]
 have hs := Qiu hk h
 have hsh := QiF hk
 rw [QI (show (0 : Int) ≤ (frm k).2.2 from Int.natCast_nonneg _)]
 show some [BitVec.ofInt 8 (U9 (XG _ (Bn k : Int)) 8), BitVec.ofInt 8 (XG _ (Bn k : Int))] = _
 rw [Qfc _ _ (by omega) (by omega)]
 have e8 : ((8 : Int)) = ((8 : Nat) : Int) := rfl
 rw [e8, Qbf _ 8 (by omega)]
 have e : ∀ n : Nat, BitVec.ofInt 8 (n : Int) = BitVec.ofNat 8 n := fun n => by apply BitVec.eq_of_toNat_eq; simp
 rw [e, e]
 rfl
def UP (k : Nat) (h : Qa) : List Int := (Qdd (ZE k) (h.toList ++ csb k h.toList)).take (Js k)
theorem Qet (k : Nat) (h : List (BitVec 8)) : (csb k h).length = 2 := rfl
theorem Qif {k : Nat} (hk : JT k) : Js k ≤ 34 * (8 / ZE k) := by rcases hk with rfl | rfl | rfl | rfl <;> simp [Js, ZE]
theorem QcN {k : Nat} (hk : JT k) (h : Qa) : (UP k h).length = Js k := by
 unfold UP
 rw [List.length_take, QaZ, List.length_append, Qet, Vector.length_toList]
 exact Nat.min_eq_left (Qif hk)
theorem Qjn {k : Nat} {h : Qa} {d : Int} (hd : d ∈ UP k h) : 0 ≤ d ∧ d < (2 ^ ZE k : Nat) := QfD (List.mem_of_mem_take hd)
theorem Qdg {k : Nat} (hk : JT k) : ∀ (l acc : List Int), acc.length ≤ Js k → Vo (fun (s : List Int) (d : Int) => J3 (frm k) s d) acc l = some (acc ++ l.take (Js k - acc.length))
 | [], acc, _ => by simp [Vo]
 | d :: l, acc, ha => by
  rw [Vo]
  unfold J3
  have hc : Js k ≤ 265 := by rcases hk with rfl | rfl | rfl | rfl <;> simp [Js]
  by_cases h : acc.length < Js k
  ·rw [QI (show decide ((acc.length : Int) < (Js k : Int)) = true by simpa using h), QI (by simp [AP]; omega), Option.bind_some]
   have := Qdg hk l (acc ++ [d]) (by simp; omega)
   have h2 : Vo (fun (s : List Int) (d : Int) => J3 (frm k) s d) (acc ++ [d]) l = _ := this
   unfold J3 at h2
   rw [h2]
   have e : Js k - acc.length = (Js k - (acc ++ [d]).length) + 1 := by simp; omega
   rw [e, List.take_succ_cons, List.append_assoc]; rfl
  ·rw [QU (show ¬ decide ((acc.length : Int) < (Js k : Int)) = true by simpa using h), Option.bind_some]
   have := Qdg hk l acc ha
   unfold J3 at this
   rw [this]
   have e : Js k - acc.length = 0 := by omega
   simp [e]
theorem Qdc {k : Nat} (hk : JT k) (h : Qa) : Xa (frm k) h = some (UP k h) := by
 unfold Xa Vb
 have hc : Js k ≤ 265 := by rcases hk with rfl | rfl | rfl | rfl <;> simp [Js]
 rw [QI (show 0 ≤ (Js k : Int) ∧ (Js k : Int) ≤ 4294967296 by omega), Qc (QjQ hk h), QI (by rw [Qet]; simp [AP]), QiL hk _ (by simp [Qet]), Qdg hk _ _ (by simp)]
 rfl
theorem QhX {k : Nat} (hk : JT k) : Vs (k : Int) = some (Js k : Int) := by
 unfold Vs; rw [Qc (Qha hk)]
theorem Qe4 {k : Int} (hk : ¬ (1 ≤ k ∧ k ≤ 4)) : Vs k = some 0 := by
 unfold Vs; rw [Qc (QjV hk)]
def JO (k : Nat) : Nat := 36 + 32 * Js k
theorem QeI {k : Nat} (hk : JT k) : Uk (k : Int) = some (JO k : Int) := by
 rcases hk with rfl | rfl | rfl | rfl <;> rfl
theorem be2 {w : Nat} (x : BitVec w) : be x 2 = [(x >>> 8).setWidth 8, x.setWidth 8] := by simp [be, List.range_succ]
end Pu
end Go.Sl
namespace Go.Sl.Pu
open Go.Sl Go.Sl.M
theorem QlP (x : BitVec 64) (k : Nat) (hk : k ≤ 8) (b : List (BitVec 8)) (hb : b.length ≤ 4000000000) :
  ∃ y, Q3 (fun (s : Int × (List (BitVec 8))) => ZI x s.1 s.2) FU ((k : Int) - 1, b) = some (y, b ++ be x k) := by
 have h := JD (f := fun (s : Int × (List (BitVec 8))) => ZI x s.1 s.2) (fun i (_ : Unit) => ((k : Int) - 1 - (i : Int), b ++ (be x k).take i)) (fun _ s => s) 0 k (fun i s h1 h2 => by
  simp only [ZI]
  have e1 : (k : Int) - 1 - (i : Int) = ((k - 1 - i : Nat) : Int) := by omega
  rw [e1, QI (by simp), Ji (n := 8 * ((k - 1 - i : Nat) : Int)) (by omega) (by omega), QI (by omega), QI (by simp [AP, JG]; omega), Ji (by omega) (by omega)]
  have e2 : (8 * ((k - 1 - i : Nat) : Int)).toNat = 8 * (k - 1 - i) := by omega
  have e3 : (be x k).take (i + 1) = (be x k).take i ++ [(x >>> (8 * (k - 1 - i))).setWidth 8] := by
   rw [List.take_succ_eq_append_getElem (by rw [JG]; exact h2)]
   simp [be]
  have e5 : ((k - 1 - i : Nat) : Int) - 1 = (k : Int) - 1 - ((i + 1 : Nat) : Int) := by omega
  rw [e2, e3, ← List.append_assoc, e5]) (fun s => by
  simp only [ZI]
  rw [QU (by simp; omega)]) FU () (by omega) (J4 (by omega))
 refine ⟨(k : Int) - 1 - (k : Int), ?_⟩
 have e : (be x k).take k = be x k := List.take_of_length_le (by rw [JG]; exact Nat.le_refl _)
 simpa [e] using h
theorem Qdu (b : List (BitVec 8)) (hb : b.length ≤ 4000000000) (x : BitVec 64) (k : Nat) (hk : k ≤ 8) : ZP (b, false) x (k : Int) = some (b ++ be x k, false) := by
 unfold ZP
 obtain ⟨y, hy⟩ := QlP x k hk b hb
 rw [Option.bind_some, QU (by simp), Ji (by omega) (by omega), Qc hy]
theorem Qb2 {w : Nat} (x : BitVec w) (k : Nat) (hk : 8 * k ≤ w) (hw : w ≤ 64) : be (x.setWidth 64) k = be x k := by
 simp only [be]
 apply List.map_congr_left
 intro j hj
 apply BitVec.eq_of_getLsbD_eq
 intro i hi
 simp only [BitVec.getLsbD_setWidth, BitVec.getLsbD_ushiftRight, hi, decide_true, Bool.true_and]
 have := List.mem_range.1 hj
 have h64 : 8 * (k - 1 - j) + i < 64 := by omega
 simp [h64]
theorem WV (b : List (BitVec 8)) (hb : b.length ≤ 4000000000) (x : BitVec 32) : Zj (b, false) x = some (b ++ be x 4, false) := by
 unfold Zj
 have h := Qdu b hb (x.setWidth 64) 4 (by omega)
 have h' : ZP (b, false) (x.setWidth 64) (4 : Int) = _ := h
 rw [Qc h', Qb2 x 4 (by omega) (by omega)]
theorem VK (b c : List (BitVec 8)) (h : b.length + c.length ≤ 4000000000) : JI (b, false) c = some (b ++ c, false) := by
 unfold JI
 rw [Option.bind_some, QI (by simp), QI (by simp [AP]; omega)]
theorem Qe7 (b : List (BitVec 8)) (h : b.length ≤ 4000000000) : Jq b = some b := by
 unfold Jq
 rw [QI (by simp [AP]; omega)]; rfl
theorem QaS (b : List (BitVec 8)) (h : b.length ≤ 4000000000) : Yk (b, false) = some ((b, false), b, 0) := by
 unfold Yk
 rw [QU (by simp), Qc (Qe7 b h)]
theorem qz (b : List (BitVec 8)) (h : b.length ≤ 4000000000) : KA b = some (b, false) := by
 unfold KA
 rw [Qc (Qe7 b h), Option.bind_some]
theorem QfF (b : List (BitVec 8)) (n : Nat) (h : n ≤ b.length) : Zo (b, false) (n : Int) = some ((b.drop n, false), b.take n) := by
 unfold Zo
 rw [Option.bind_some, QU (by simp), QU (by simp), Option.bind_some, QU (by simp; omega), Qc (Zt (lo := 0) (a := 0) (b := n) rfl rfl (by omega) h), Qc (Zt (lo := (n : Int)) (hi := (b.length : Int)) (a := n) (b := b.length) rfl rfl h (Nat.le_refl _))]
 simp
theorem Qcb (b : List (BitVec 8)) (n : Int) (h : n < 0 ∨ (b.length : Int) < n) : Zo (b, false) n = some ((b, true), []) := by
 unfold Zo
 rw [Option.bind_some, QU (by simp)]
 by_cases hn : n < 0
 ·rw [QI (by simpa using hn), Option.bind_some, QI rfl]
 ·rw [QU (by simpa using hn), Option.bind_some, QI (by simp; omega)]
theorem QeU (b : List (BitVec 8)) (n : Int) : Zo (b, true) n = some ((b, true), []) := by
 unfold Zo
 rw [Option.bind_some, QI rfl]
theorem QjU (b : List (BitVec 8)) (hb : b.length ≤ 100) : Q3 (fun (s : (BitVec 64) × Int) => Z6 b s.1 s.2) FU (0#64, (0 : Int)) = some (val b, (b.length : Int)) := by
 have h := JD (f := fun (s : (BitVec 64) × Int) => Z6 b s.1 s.2) (fun i (_ : Unit) => (val (b.take i), (i : Int))) (fun _ s => s) 0 b.length (fun i s h1 h2 => by
  simp only [Z6]
  rw [QI (by simp; omega), Qc (Jm rfl h2), Jr (n := (i : Int) + 1) (by omega)]
  have e : val (b.take (i + 1)) = (val (b.take i) <<< 8) ||| (b[i]).setWidth 64 := by
   rw [List.take_succ_eq_append_getElem h2]
   unfold val
   rw [List.foldl_append]
   simp only [List.foldl_cons, List.foldl_nil]
   generalize List.foldl (fun x c => x * 256#64 + BitVec.setWidth 64 c) 0#64 (List.take i b) = X
   generalize b[i] = c
   have hmul : X * 256#64 = X <<< 8 := by
    apply BitVec.eq_of_toNat_eq
    simp [BitVec.toNat_mul, BitVec.toNat_shiftLeft, Nat.shiftLeft_eq]
   rw [hmul]
   apply BitVec.eq_of_toNat_eq
   have hc := c.isLt
   rw [BitVec.toNat_add, BitVec.toNat_or, BitVec.toNat_shiftLeft, BitVec.toNat_setWidth]
   have h1 : c.toNat % 2 ^ 64 = c.toNat := Nat.mod_eq_of_lt (by omega)
   rw [h1]
   have h2 : (X.toNat <<< 8 % 2 ^ 64) = 2 ^ 8 * (X.toNat % 2 ^ 56) := by rw [Nat.shiftLeft_eq]; omega
   rw [h2, Nat.two_pow_add_eq_or_of_lt (by omega)]
   have hx : X.toNat % 2 ^ 56 < 2 ^ 56 := Nat.mod_lt _ (by decide)
   rw [← Nat.two_pow_add_eq_or_of_lt (by omega)]
   omega
  rw [e]; rfl) (fun s => by
  simp only [Z6]
  rw [QU (by simp)]) FU () (by omega) (J4 (by omega))
 simpa [val] using h
theorem QjR (b : List (BitVec 8)) (k : Nat) (hk : k ≤ 8) (h : k ≤ b.length) : YU (b, false) (k : Int) = some (val (b.take k), true) := by
 unfold YU
 rw [Option.bind_some, QU (by simp), Option.bind_some, QU (by simp; omega), Qc (Zt (lo := 0) (a := 0) (b := k) rfl rfl (by omega) h), List.drop_zero, Qc (QjU (b.take k) (by simp; omega))]
theorem QgQ (b : List (BitVec 8)) (k : Int) (h : (b.length : Int) < k) : YU (b, false) k = some (0#64, false) := by
 unfold YU
 rw [Option.bind_some, QU (by simp), Option.bind_some, QI (by simp; omega)]
theorem QgS (b : List (BitVec 8)) (k : Nat) (hk : k ≤ 8) (h : k ≤ b.length) : ZS (b, false) (k : Int) = some ((b.drop k, false), val (b.take k)) := by
 unfold ZS
 rw [Qc (QjR b k hk h), Qc (QfF b k h), QU (by simp)]
theorem QdJ (b : List (BitVec 8)) (k : Int) (h : (b.length : Int) < k) : ZS (b, false) k = some ((b, true), 0#64) := by
 unfold ZS
 rw [Qc (QgQ b k h), Qc (Qcb b k (.inr h)), QI (by simp)]
theorem Qhj (b : List (BitVec 8)) (h : 4 ≤ b.length) : Q9 (b, false) = some ((b.drop 4, false), (val (b.take 4)).setWidth 32) := by
 unfold Q9
 have h' : ZS (b, false) (4 : Int) = _ := QgS b 4 (by omega) h
 rw [Qc h']
theorem QgN (b : List (BitVec 8)) (h : b.length < 4) : Q9 (b, false) = some ((b, true), 0#32) := by
 unfold Q9
 rw [Qc (QdJ b 4 (by omega))]; rfl
theorem Qbs (b : List (BitVec 8)) (n : Nat) (h : n ≤ b.length) : QN (b, false) (n : Int) = some ((b.drop n, false), b.take n) := by
 unfold QN
 rw [Qc (QfF b n h)]
theorem BD (b : List (BitVec 8)) (n : Int) (h : n < 0 ∨ (b.length : Int) < n) : QN (b, false) n = some ((b, true), []) := by
 unfold QN
 rw [Qc (Qcb b n h)]
theorem Ut (b : List (BitVec 8)) (n : Int) : QN (b, true) n = some ((b, true), []) := by
 unfold QN
 rw [Qc (QeU b n)]
theorem QiP (b : List (BitVec 8)) (k : Nat) (hk : b.length ≤ k) (h8 : k ≤ 7) : (val b).toNat < 2 ^ (8 * k) := by
 have key : ∀ (b : List (BitVec 8)) (x : BitVec 64) (n : Nat), x.toNat < 2 ^ (8 * n) → n + b.length ≤ 7 → (b.foldl (fun x c => x * 256#64 + c.setWidth 64) x).toNat < 2 ^ (8 * (n + b.length)) := by
  intro b
  induction b with
  | nil => intro x n h _; simpa using h
  | cons c b ih =>
   intro x n h hn
   rw [List.foldl_cons, List.length_cons]
   simp only [List.length_cons] at hn
   have hx : (x * 256#64 + c.setWidth 64).toNat < 2 ^ (8 * (n + 1)) := by
    have hc := c.isLt
    have e : 2 ^ (8 * (n + 1)) = 256 * 2 ^ (8 * n) := by rw [Nat.mul_add, Nat.pow_add, Nat.mul_comm]
    have hp : 2 ^ (8 * (n + 1)) ≤ 2 ^ 56 := Nat.pow_le_pow_right (by decide) (by omega)
    have h56 : (2 : Nat) ^ 56 = 72057594037927936 := by decide
    rw [h56] at hp
    have h3 : (x * 256#64 + c.setWidth 64).toNat = x.toNat * 256 + c.toNat := by
     rw [BitVec.toNat_add, BitVec.toNat_mul, BitVec.toNat_setWidth]
     have h64 : (2 : Nat) ^ 64 = 18446744073709551616 := by decide
     rw [h64]
     have h2 : (256#64).toNat = 256 := rfl
     rw [h2]
     generalize 2 ^ (8 * n) = z at *
     generalize 2 ^ (8 * (n + 1)) = z2 at *
     omega
    rw [h3]
    generalize 2 ^ (8 * n) = z at *
    generalize 2 ^ (8 * (n + 1)) = z2 at *
    omega
   have := ih _ (n + 1) hx (by omega)
   rw [show n + (b.length + 1) = n + 1 + b.length by omega]
   exact this
 have := key b 0#64 0 (by simp) (by omega)
 rw [Nat.zero_add] at this
 exact Nat.lt_of_lt_of_le this (Nat.pow_le_pow_right (by decide) (by omega))
theorem Qfm (x : BitVec 32) : val (be x 4) = x.setWidth 64 := by
 have e : be x 4 = [(x >>> 24).setWidth 8, (x >>> 16).setWidth 8, (x >>> 8).setWidth 8, x.setWidth 8] := by simp [be, List.range_succ]
 rw [e]
 apply BitVec.eq_of_toNat_eq
 have hx := x.isLt
 simp only [val, List.foldl_cons, List.foldl_nil, BitVec.toNat_add, BitVec.toNat_mul, BitVec.toNat_setWidth, BitVec.toNat_ushiftRight, BitVec.toNat_ofNat, Nat.shiftRight_eq_div_pow]
 omega
end Go.Sl.Pu
namespace Go.Sl.Pu
open Go.Sl Go.Sl.M
def und (id : QL) (q : BitVec 32) (i : Nat) (b : List (BitVec 8)) : Qa := sha (((id.toList ++ be q 4) ++ be (BitVec.ofNat 16 i) 2) ++ b)
theorem QlR (i : Nat) : be (BitVec.ofNat 16 i) 2 = [BitVec.ofNat 8 (i / 256), BitVec.ofNat 8 i] := by
 rw [be2]
 have a1 : ((BitVec.ofNat 16 i) >>> 8).setWidth 8 = BitVec.ofNat 8 (i / 256) := by apply BitVec.eq_of_toNat_eq; simp [Nat.shiftRight_eq_div_pow]; omega
 have a2 : (BitVec.ofNat 16 i).setWidth 8 = BitVec.ofNat 8 i := by apply BitVec.eq_of_toNat_eq; simp
 rw [a1, a2]
theorem Qkq (i : Nat) : be (BitVec.ofNat 64 i) 2 = be (BitVec.ofNat 16 i) 2 := by
 rw [be2, QlR]
 have a1 : ((BitVec.ofNat 64 i) >>> 8).setWidth 8 = BitVec.ofNat 8 (i / 256) := by apply BitVec.eq_of_toNat_eq; simp [Nat.shiftRight_eq_div_pow]; omega
 have a2 : (BitVec.ofNat 64 i).setWidth 8 = BitVec.ofNat 8 i := by apply BitVec.eq_of_toNat_eq; simp
 rw [a1, a2]
theorem Ql9 (q : BitVec 32) : be q 4 = [(q >>> 24).setWidth 8, (q >>> 16).setWidth 8, (q >>> 8).setWidth 8, q.setWidth 8] := by simp [be, List.range_succ]
theorem Qka (n : Nat) : BitVec.ofInt 64 (n : Int) = BitVec.ofNat 64 n := by apply BitVec.eq_of_toNat_eq; simp
theorem QgU (n : Nat) : BitVec.ofInt 8 (n : Int) = BitVec.ofNat 8 n := by apply BitVec.eq_of_toNat_eq; simp
theorem Uy (n : Nat) : BitVec.ofInt 32 (n : Int) = BitVec.ofNat 32 n := by apply BitVec.eq_of_toNat_eq; simp
def tot (parts : List (List (BitVec 8))) : Nat := (parts.map List.length).sum
theorem Qa1 (parts : List (List (BitVec 8))) : ∀ i, (parts.take i).flatten.length ≤ tot parts := by
 induction parts with
 | nil => intro i; simp [tot]
 | cons p r ih =>
  intro i
  cases i with
  | zero => simp
  | succ i =>
   have := ih i
   simp only [tot, List.map_cons, List.sum_cons] at *
   simp only [List.take_succ_cons, List.flatten_cons, List.length_append]; omega
theorem qb (id : QL) (q : BitVec 32) (i : Nat) (parts : List (List (BitVec 8))) (hp : tot parts ≤ 3000000000) (hl : parts.length ≤ 1000000) :
  YN id q (i : Int) parts = some (und id q i parts.flatten) := by
 unfold YN
 have e8 : U9 (i : Int) 8 = ((i / 256 : Nat) : Int) := Qbf i 8 (by omega)
 have eh : ([(q >>> 24).setWidth 8, (q >>> 16).setWidth 8, (q >>> 8).setWidth 8, q.setWidth 8, BitVec.ofInt 8 (U9 (i : Int) 8), BitVec.ofInt 8 (i : Int)] : List (BitVec 8)) = be q 4 ++ be (BitVec.ofNat 16 i) 2 := by
  rw [e8, QgU, QgU, Ql9, QlR]; rfl
 rw [eh, QI (by omega), QI (by simp [AP]), QI (by simp [AP, JG])]
 have h := JD (f := fun (s : Int × (List (BitVec 8))) => XF parts s.1 s.2) (fun j (_ : Unit) => ((j : Int), (([] ++ id.toList) ++ (be q 4 ++ be (BitVec.ofNat 16 i) 2)) ++ (parts.take j).flatten)) (fun _ s => s) 0 parts.length (fun j s h1 h2 => by
  simp only [XF]
  have h3 := Qa1 parts (j + 1)
  rw [List.take_succ_eq_append_getElem h2, List.flatten_append, List.length_append] at h3
  rw [QI (by simp; omega), Qc (Jm rfl h2), QI (by simp [AP, JG] at h3 ⊢; omega), Jr (n := (j : Int) + 1) (by omega), List.take_succ_eq_append_getElem h2, List.flatten_append]
  simp) (fun s => by
  simp only [XF]
  rw [QU (by simp)]) FU () (by omega) (J4 (by omega))
 have h' : Q3 (fun (s : Int × (List (BitVec 8))) => XF parts s.1 s.2) FU ((0 : Int), ([] ++ id.toList) ++ (be q 4 ++ be (BitVec.ofNat 16 i) 2)) = some ((parts.length : Int), (([] ++ id.toList) ++ (be q 4 ++ be (BitVec.ofNat 16 i) 2)) ++ parts.flatten) := by
  simpa using h
 rw [Qc h']
 have h3 := Qa1 parts parts.length
 rw [List.take_length] at h3
 rw [Qc (QcS _ (by simp [JG] at h3 ⊢; omega))]
 unfold und
 simp
def qO (id : QL) (q : BitVec 32) (i : Nat) (seed : Qa) : Qa := und id q i (255#8 :: seed.toList)
theorem Qbm (id : QL) (q : BitVec 32) (i : Nat) (seed : Qa) : XZ id q (i : Int) seed = some (qO id q i seed) := by
 unfold XZ
 rw [Qc (qb id q i _ (by simp [tot]) (by simp))]
 simp [qO]
def Qjx (id : QL) (q : BitVec 32) (i : Nat) (j : Nat) (h : Qa) : Qa := und id q i (BitVec.ofNat 8 j :: h.toList)
def WB (id : QL) (q : BitVec 32) (i : Nat) (fr n : Nat) (h : Qa) : Qa := Yi (Qjx id q i) fr n h
theorem Qit (id : QL) (q : BitVec 32) (i : Nat) (fr n m : Nat) (h : Qa) : WB id q i fr (n + m) h = WB id q i (fr + n) m (WB id q i fr n h) := Qbl _ n m fr h
theorem QcU (id : QL) (q : BitVec 32) (i : Nat) (h : Qa) (fr to : Nat) (h1 : fr ≤ to) (h2 : to ≤ 1000) : X0 id q (i : Int) h (fr : Int) (to : Int) = some (WB id q i fr (to - fr) h) := by
 unfold X0
 have hl := JD (f := fun (s : Int × Qa) => Vi (to : Int) id q (i : Int) s.1 s.2) (fun j (h : Qa) => ((j : Int), h)) (Qjx id q i) fr to (fun j s h1 h2 => by
  simp only [Vi]
  rw [QI (by simp; omega), Qc (qb id q i _ (by simp [tot]) (by simp)), Jr (n := (j : Int) + 1) (by omega), QgU]
  simp [Qjx]) (fun s => by
  simp only [Vi]
  rw [QU (by simp)]) FU h h1 (J4 (by omega))
 rw [Qc hl]; rfl
def Ug (k : Nat) : Nat := 2 ^ ZE k - 1
theorem Qcz {k : Nat} (hk : JT k) : Ug k ≤ 255 := by rcases hk with rfl | rfl | rfl | rfl <;> simp [Ug, ZE]
theorem Kb {k : Nat} (hk : JT k) : Js k ≤ 265 := by rcases hk with rfl | rfl | rfl | rfl <;> simp [Js]
theorem Qhq {k : Nat} (hk : JT k) {h : Qa} {d : Int} (hd : d ∈ UP k h) : ∃ n : Nat, d = (n : Int) ∧ n ≤ Ug k := by
 obtain ⟨h0, h1⟩ := Qjn hd
 exact ⟨d.toNat, by omega, by unfold Ug; omega⟩
def cat (n : Nat) (f : Nat → Qa) : List (BitVec 8) := (List.range n).flatMap fun i => (f i).toList
theorem qc (n : Nat) (f : Nat → Qa) : cat (n + 1) f = cat n f ++ (f n).toList := by simp [cat, List.range_succ]
theorem qH (n : Nat) (f : Nat → Qa) : (cat n f).length = 32 * n := by
 induction n with
 | zero => rfl
 | succ n ih => rw [qc, List.length_append, ih, Vector.length_toList]; omega
theorem QhS {n : Nat} {f g : Nat → Qa} (h : ∀ i, i < n → f i = g i) : cat n f = cat n g := by
 induction n with
 | zero => rfl
 | succ n ih => rw [qc, qc, ih fun i hi => h i (by omega), h n (by omega)]
theorem QdV (id : QL) (q : BitVec 32) (n : Nat) (f : Nat → Qa) (hn : n ≤ 1000000) : Kk id q ((List.range n).map f) = some (und id q 32896 (cat n f)) := by
 unfold Kk
 have hl : ((List.range n).map f).length = n := by simp
 rw [hl, Ji (n := 32 * (n : Int)) (by omega) (by omega), QI (by omega)]
 have h := JD (f := fun (s : Int × (List (BitVec 8))) => Xb ((List.range n).map f) s.1 s.2) (fun j (_ : Unit) => ((j : Int), cat j f)) (fun _ s => s) 0 n (fun j s h1 h2 => by
  simp only [Xb, hl]
  rw [QI (by simp; omega), Qc (Jm rfl (by rw [hl]; exact h2)), QI (by rw [qH]; simp [AP]; omega), Jr (n := (j : Int) + 1) (by omega), qc]
  simp) (fun s => by
  simp only [Xb, hl]
  rw [QU (by simp)]) FU () (by omega) (J4 (by omega))
 have h' : Q3 (fun (s : Int × (List (BitVec 8))) => Xb ((List.range n).map f) s.1 s.2) FU ((0 : Int), []) = some ((n : Int), cat n f) := h
 have hu : YN id q (32896 : Int) [cat n f] = _ := qb id q 32896 [cat n f] (by simp [tot, qH]; omega) (by simp)
 rw [Qc h', Qc hu]
 simp
theorem QfH {α : Type} (n i : Nat) (g : Nat → α) (z x : α) (h : i < n) (hx : x = g i) : ((List.range i).map g ++ List.replicate (n - i) z).set i x = (List.range (i + 1)).map g ++ List.replicate (n - (i + 1)) z := by
 rw [List.set_append_right _ _ (by simp)]
 have e : n - i = (n - (i + 1)) + 1 := by omega
 rw [e, List.replicate_succ, List.range_succ, List.map_append]
 simp [hx]
def QdK (k : Nat) (id : QL) (q : BitVec 32) (seed : Qa) : Qa := und id q 32896 (cat (Js k) fun i => WB id q i 0 (Ug k) (qO id q i seed))
theorem QhT {k : Nat} (hk : JT k) (id : QL) (q : BitVec 32) (seed : Qa) : Uc (k : Int) id q seed = some (QdK k id q seed, 0) := by
 unfold Uc
 have hc := Kb hk
 have hm := Qcz hk
 rw [Qc (Qha hk), QU (by simp)]
 simp only []
 rw [QI (show 0 ≤ (Js k : Int) ∧ (Js k : Int) ≤ 4294967296 by omega), Int.toNat_natCast]
 let g : Nat → Qa := fun i => WB id q i 0 (Ug k) (qO id q i seed)
 have hmost : Yj (frm k) = some (Ug k : Int) := Qcv hk
 have h := JD (f := fun (s : Int × (List Qa)) => Xe (List.replicate (Js k) (Vector.replicate 32 (0#8))) id q seed (frm k, true) s.1 s.2) (fun j (_ : Unit) => ((j : Int), (List.range j).map g ++ List.replicate (Js k - j) (Vector.replicate 32 (0#8)))) (fun _ s => s) 0 (Js k) (fun j s h1 h2 => by
  simp only [Xe]
  have hch := QcU id q j (qO id q j seed) 0 (Ug k) (by omega) (by omega)
  have hch' : X0 id q (j : Int) (qO id q j seed) (0 : Int) (Ug k : Int) = _ := hch
  rw [QI (by simp; omega), Qc (Qbm id q j seed), Qc hmost, Qc hch', QI (by simp; omega), Jr (n := (j : Int) + 1) (by omega), Int.toNat_natCast, QfH (Js k) j g (Vector.replicate 32 (0#8)) (WB id q j 0 (Ug k - 0) (qO id q j seed)) h2 rfl]
  rfl) (fun s => by
  simp only [Xe]
  rw [QU (by simp)]) FU () (by omega) (J4 (by omega))
 have h' : Q3 (fun (s : Int × (List Qa)) => Xe (List.replicate (Js k) (Vector.replicate 32 (0#8))) id q seed (frm k, true) s.1 s.2) FU ((0 : Int), List.replicate (Js k) (Vector.replicate 32 (0#8))) = some ((Js k : Int), (List.range (Js k)).map g) := by simpa using h
 rw [Option.bind_some, Qc h', Qc (QdV id q _ g (by omega))]
 rfl
end Go.Sl.Pu
namespace Go.Sl.Pu
open Go.Sl Go.Sl.M
def Qcg (k : Nat) (id : QL) (q : BitVec 32) (salt msg : List (BitVec 8)) : List Int := UP k (und id q 33153 (salt ++ msg))
def dgt (l : List Int) (i : Nat) : Nat := (l.getD i 0).toNat
theorem Qgb {k : Nat} (hk : JT k) (h : Qa) (i : Nat) : dgt (UP k h) i ≤ Ug k := by
 unfold dgt
 by_cases hi : i < (UP k h).length
 ·have e : (UP k h).getD i 0 = (UP k h)[i] := by simp [hi]
  rw [e]
  obtain ⟨n, hn, hle⟩ := Qhq hk (List.getElem_mem hi)
  rw [hn]; simpa using hle
 ·have e : (UP k h).getD i 0 = 0 := by simp [Nat.not_lt.1 hi]
  rw [e]; simp
theorem Qji {k : Nat} (hk : JT k) (h : Qa) (i : Nat) (hi : i < Js k) : JW (UP k h) (i : Int) = some ((dgt (UP k h) i : Nat) : Int) := by
 have hi' : i < (UP k h).length := by rw [QcN hk]; exact hi
 rw [Jm rfl hi']
 unfold dgt
 have e : (UP k h).getD i 0 = (UP k h)[i] := by simp [hi']
 rw [e]
 obtain ⟨n, hn, hle⟩ := Qhq hk (List.getElem_mem hi')
 rw [hn]; simp
def VU (id : QL) (q : BitVec 32) (seed : Qa) : Qa := qO id q 65533 seed
def U4 (k : Nat) (id : QL) (q : BitVec 32) (seed : Qa) (msg : List (BitVec 8)) : List (BitVec 8) :=
 (be (BitVec.ofNat 32 k) 4 ++ (VU id q seed).toList) ++ cat (Js k) fun i => WB id q i 0 (dgt (Qcg k id q (VU id q seed).toList msg) i) (qO id q i seed)
theorem B0 {k : Nat} (id : QL) (q : BitVec 32) (seed : Qa) (msg : List (BitVec 8)) : (U4 k id q seed msg).length = JO k := by
 unfold U4
 rw [List.length_append, List.length_append, JG, Vector.length_toList, qH]; unfold JO; omega
theorem QkB {k : Nat} (hk : JT k) (id : QL) (q : BitVec 32) (seed : Qa) (msg : List (BitVec 8)) (hm : msg.length ≤ 2000000000) : Wk (k : Int) id q seed msg = some (U4 k id q seed msg, 0) := by
 unfold Wk
 have hc := Kb hk
 have hmo := Qcz hk
 rw [Qc (Qha hk), QU (by simp)]
 have hs : XZ id q (65533 : Int) seed = some (VU id q seed) := Qbm id q 65533 seed
 rw [Qc hs, Uy]
 rw [Qc (WV [] (by simp) (BitVec.ofNat 32 k))]
 simp only [List.nil_append]
 rw [Qc (VK (be (BitVec.ofNat 32 k) 4) (VU id q seed).toList (by simp [JG]))]
 have hu : YN id q (33153 : Int) [(VU id q seed).toList, msg] = some (und id q 33153 ((VU id q seed).toList ++ msg)) := by
  have := qb id q 33153 [(VU id q seed).toList, msg] (by simp [tot]; omega) (by simp)
  simpa using this
 rw [Qc hu, Qc (Qdc hk _)]
 have hl := QcN hk (und id q 33153 ((VU id q seed).toList ++ msg))
 have h := JD (f := fun (s : Int × Bool × (List (BitVec 8))) => X7 (UP k (und id q 33153 ((VU id q seed).toList ++ msg))) id q seed s.1 s.2.1 s.2.2) (fun j (_ : Unit) => ((j : Int), false, (be (BitVec.ofNat 32 k) 4 ++ (VU id q seed).toList) ++ cat j fun i => WB id q i 0 (dgt (Qcg k id q (VU id q seed).toList msg) i) (qO id q i seed))) (fun _ s => s) 0 (Js k) (fun j s h1 h2 => by
  simp only [X7, hl]
  have hd := Qgb hk (und id q 33153 ((VU id q seed).toList ++ msg)) j
  have hch := QcU id q j (qO id q j seed) 0 (dgt (UP k (und id q 33153 ((VU id q seed).toList ++ msg))) j) (by omega) (by omega)
  have hch' : X0 id q (j : Int) (qO id q j seed) (0 : Int) ((dgt (UP k (und id q 33153 ((VU id q seed).toList ++ msg))) j : Nat) : Int) = _ := hch
  rw [QI (by simp; omega), Qc (Qji hk _ j h2), Qc (Qbm id q j seed), Qc hch', Qc (VK _ _ (by simp [JG, qH]; omega)), Jr (n := (j : Int) + 1) (by omega), qc, ← List.append_assoc]
  rfl) (fun s => by
  simp only [X7, hl]
  rw [QU (by simp)]) FU () (by omega) (J4 (by omega))
 have h' : Q3 (fun (s : Int × Bool × (List (BitVec 8))) => X7 (UP k (und id q 33153 ((VU id q seed).toList ++ msg))) id q seed s.1 s.2.1 s.2.2) FU ((0 : Int), false, (be (BitVec.ofNat 32 k) 4 ++ (VU id q seed).toList)) = some ((Js k : Int), false, U4 k id q seed msg) := by
  have e : cat 0 (fun i => WB id q i 0 (dgt (Qcg k id q (VU id q seed).toList msg) i) (qO id q i seed)) = [] := rfl
  rw [e, List.append_nil] at h
  exact h
 rw [Qc h']
 rw [Qc (QaS _ (by rw [B0]; unfold JO; omega))]
def hat (b : List (BitVec 8)) (off : Nat) : Qa := Vector.ofFn fun j : Fin 32 => b.getD (off + j.val) 0#8
theorem Qas (b : List (BitVec 8)) (off : Nat) (h : off + 32 ≤ b.length) : (hat b off).toList = (b.drop off).take 32 := by
 apply List.ext_getElem?
 intro i
 rw [List.getElem?_take]
 by_cases hi : i < 32
 ·rw [if_pos hi, List.getElem?_drop]
  have h2 : off + i < b.length := by omega
  have : (hat b off).toList[i]? = some (b.getD (off + i) 0#8) := by
   unfold hat
   rw [List.getElem?_eq_getElem (by simp; exact hi)]
   simp
  rw [this]; simp [h2]
 ·rw [if_neg hi, List.getElem?_eq_none (by simp; omega)]
theorem QiD (b : List (BitVec 8)) (off : Nat) (h : off + 32 ≤ b.length) : Wy 32 ((b.drop off).take 32) = some (hat b off) := by
 have hl : 32 ≤ ((b.drop off).take 32).length := by simp; omega
 unfold Wy
 rw [dif_pos hl]
 refine congrArg some (Vector.toList_inj.1 ?_)
 rw [Bx, Qas b off h, List.take_take, Nat.min_self]
def Qca (k : Nat) (id : QL) (q : BitVec 32) (msg sig : List (BitVec 8)) : Qa :=
 und id q 32896 (cat (Js k) fun i => WB id q i (dgt (Qcg k id q ((sig.drop 4).take 32) msg) i) (Ug k - dgt (Qcg k id q ((sig.drop 4).take 32) msg) i) (hat sig (36 + 32 * i)))
def Qjt (k : Nat) (sig : List (BitVec 8)) : Prop := JT k ∧ sig.length = JO k ∧ (val (sig.take 4)).toNat = k
theorem Qj4 (b : List (BitVec 8)) : (((val (b.take 4)).setWidth 32).toNat : Int) = ((val (b.take 4)).toNat : Int) := by
 have := QiP (b.take 4) 4 (by simp; omega) (by omega)
 have h32 : (2 : Nat) ^ (8 * 4) = 4294967296 := by decide
 rw [h32] at this
 rw [BitVec.toNat_setWidth, Nat.mod_eq_of_lt (by omega)]
theorem Qgn {k : Nat} (id : QL) (q : BitVec 32) (msg sig : List (BitVec 8)) (hm : msg.length ≤ 2000000000) (hs : Qjt k sig) : Ku id q msg sig = some (Qca k id q msg sig, true) := by
 obtain ⟨hk, hl, hv⟩ := hs
 have hc := Kb hk
 have hmo := Qcz hk
 have hsz : sig.length = 36 + 32 * Js k := hl
 unfold Ku
 rw [Qc (qz sig (by omega)), Qc (Qhj sig (by omega))]
 simp only [Qj4, hv]
 rw [Qc (Qha hk), QU (by simp), Qc (QeI hk), Option.bind_some, QU (by simp [hl])]
 have hp : QN (sig.drop 4, false) (32 : Int) = _ := Qbs (sig.drop 4) 32 (by simp; omega)
 rw [Qc hp]
 simp only [List.drop_drop]
 rw [QI (show 0 ≤ (Js k : Int) ∧ (Js k : Int) ≤ 4294967296 by omega), Int.toNat_natCast, Option.bind_some]
 have hu : YN id q (33153 : Int) [(sig.drop 4).take 32, msg] = some (und id q 33153 ((sig.drop 4).take 32 ++ msg)) := by
  have := qb id q 33153 [(sig.drop 4).take 32, msg] (by simp [tot]; omega) (by simp)
  simpa using this
 rw [Qc hu, Qc (Qdc hk _)]
 have hdl := QcN hk (und id q 33153 ((sig.drop 4).take 32 ++ msg))
 let g : Nat → Qa := fun i => WB id q i (dgt (Qcg k id q ((sig.drop 4).take 32) msg) i) (Ug k - dgt (Qcg k id q ((sig.drop 4).take 32) msg) i) (hat sig (36 + 32 * i))
 have hmost : Yj (frm k) = some (Ug k : Int) := Qcv hk
 have h := JD (f := fun (s : Int × (List Qa) × (List (BitVec 8)) × Bool) => YW (UP k (und id q 33153 ((sig.drop 4).take 32 ++ msg))) (frm k, true) id q s.1 s.2.1 s.2.2.1 s.2.2.2) (fun j (_ : Unit) => ((j : Int), (List.range j).map g ++ List.replicate (Js k - j) (Vector.replicate 32 (0#8)), sig.drop (36 + 32 * j), false)) (fun _ s => s) 0 (Js k) (fun j s h1 h2 => by
  simp only [YW, hdl]
  have hd := Qgb hk (und id q 33153 ((sig.drop 4).take 32 ++ msg)) j
  have hch := QcU id q j (hat sig (36 + 32 * j)) (dgt (UP k (und id q 33153 ((sig.drop 4).take 32 ++ msg))) j) (Ug k) (by omega) (by omega)
  have hp2 : QN (sig.drop (36 + 32 * j), false) (32 : Int) = _ := Qbs (sig.drop (36 + 32 * j)) 32 (by simp; omega)
  rw [QI (by simp; omega), Qc (Qji hk _ j h2), Qc hp2]
  simp only []
  rw [Qc (QiD sig (36 + 32 * j) (by omega)), Qc hmost, Qc hch, QI (by simp; omega), Jr (n := (j : Int) + 1) (by omega), Int.toNat_natCast, QfH (Js k) j g (Vector.replicate 32 (0#8)) (WB id q j (dgt (UP k (und id q 33153 ((sig.drop 4).take 32 ++ msg))) j) (Ug k - dgt (UP k (und id q 33153 ((sig.drop 4).take 32 ++ msg))) j) (hat sig (36 + 32 * j))) h2 rfl, List.drop_drop]
  rfl) (fun s => by
  simp only [YW, hdl]
  rw [QU (by simp)]) FU () (by omega) (J4 (by omega))
 have h' : Q3 (fun (s : Int × (List Qa) × (List (BitVec 8)) × Bool) => YW (UP k (und id q 33153 ((sig.drop 4).take 32 ++ msg))) (frm k, true) id q s.1 s.2.1 s.2.2.1 s.2.2.2) FU ((0 : Int), List.replicate (Js k) (Vector.replicate 32 (0#8)), sig.drop (4 + 32), false) = some ((Js k : Int), (List.range (Js k)).map g, sig.drop (36 + 32 * Js k), false) := by simpa using h
 rw [Qc h', Qc (QdV id q _ g (by omega))]
 rfl
end Go.Sl.Pu
namespace Go.Sl.Pu
open Go.Sl Go.Sl.M
theorem QlZ (k : Nat) (id : QL) (q : BitVec 32) (seed : Qa) (msg : List (BitVec 8)) : (U4 k id q seed msg).take 4 = be (BitVec.ofNat 32 k) 4 := by
 unfold U4
 rw [List.append_assoc, List.take_append_of_le_length (by rw [JG]; exact Nat.le_refl _), List.take_of_length_le (by rw [JG]; exact Nat.le_refl _)]
theorem QiT {k : Nat} (hk : JT k) (id : QL) (q : BitVec 32) (seed : Qa) (msg : List (BitVec 8)) : Qjt k (U4 k id q seed msg) := by
 refine ⟨hk, B0 id q seed msg, ?_⟩
 rw [QlZ, Qfm]
 rcases hk with rfl | rfl | rfl | rfl <;> rfl
theorem Qia (k : Nat) (id : QL) (q : BitVec 32) (seed : Qa) (msg : List (BitVec 8)) : ((U4 k id q seed msg).drop 4).take 32 = (VU id q seed).toList := by
 unfold U4
 rw [List.append_assoc, List.drop_left' (JG _ _), List.take_left' (by simp)]
theorem Qj7 (pre : List (BitVec 8)) (n : Nat) (f : Nat → Qa) (i : Nat) (hi : i < n) (p : Nat) (hp : pre.length = p) : hat (pre ++ cat n f) (p + 32 * i) = f i := by
 apply Vector.toList_inj.1
 rw [Qas _ _ (by rw [List.length_append, qH, hp]; omega)]
 have e : pre ++ cat n f = (pre ++ cat i f) ++ ((f i).toList ++ ((List.range (n - (i + 1))).flatMap fun j => (f (i + 1 + j)).toList)) := by
  rw [List.append_assoc]
  congr 1
  have hn : n = i + (1 + (n - (i + 1))) := by omega
  conv => lhs; rw [hn]
  unfold cat
  rw [List.range_add, List.flatMap_append, List.range_add, List.map_append, List.flatMap_append]
  simp [List.flatMap_map, Nat.add_assoc]
 rw [e, List.drop_left' (by rw [List.length_append, qH, hp]), List.take_left' (by simp)]
theorem Qgq {k : Nat} (hk : JT k) (id : QL) (q : BitVec 32) (seed : Qa) (msg : List (BitVec 8)) : Qca k id q msg (U4 k id q seed msg) = QdK k id q seed := by
 unfold Qca QdK
 rw [Qia]
 refine congrArg (und id q 32896) (QhS fun i hi => ?_)
 have hd := Qgb hk (und id q 33153 ((VU id q seed).toList ++ msg)) i
 have e : hat (U4 k id q seed msg) (36 + 32 * i) = WB id q i 0 (dgt (Qcg k id q (VU id q seed).toList msg) i) (qO id q i seed) := by
  unfold U4
  exact Qj7 _ _ (fun i => WB id q i 0 (dgt (Qcg k id q (VU id q seed).toList msg) i) (qO id q i seed)) i hi 36 (by simp [JG])
 rw [e]
 have hd' : dgt (Qcg k id q (VU id q seed).toList msg) i ≤ Ug k := hd
 have := Qit id q i 0 (dgt (Qcg k id q (VU id q seed).toList msg) i) (Ug k - dgt (Qcg k id q (VU id q seed).toList msg) i) (qO id q i seed)
 rw [Nat.zero_add] at this
 rw [← this]; congr 1; omega
end Go.Sl.Pu
set_option maxRecDepth 20000
namespace Go.Sl.Pu
open Go.Sl Go.Sl.M
attribute [local irreducible] sha w64 QdK und U4
def IsH (h : Nat) : Prop := h = 1 ∨ h = 2 ∨ h = 3 ∨ h = 4
def KK (h : Nat) : Nat := 2 ^ h
theorem B5 {h : Nat} (hh : IsH h) : 2 ≤ KK h ∧ KK h ≤ 16 := by rcases hh with rfl | rfl | rfl | rfl <;> decide
theorem qL {h : Nat} (hh : IsH h) : XG (1 : Int) (h : Int) = (KK h : Int) := by rcases hh with rfl | rfl | rfl | rfl <;> with_unfolding_all rfl
theorem Wq {h : Nat} (hh : IsH h) : 1 ≤ h ∧ h ≤ 4 := by unfold IsH at hh; omega
theorem QgO {k : Nat} (hk : JT k) : 1 ≤ k ∧ k ≤ 4 := by unfold JT at hk; omega
theorem Qf9 {k : Nat} (hk : JT k) : 0 < Js k := by rcases hk with rfl | rfl | rfl | rfl <;> decide
theorem Qez {h k : Nat} (hh : IsH h) (hk : JT k) : U1 (h : Int) (k : Int) = some true := by
 unfold U1
 have h1 := Wq hh
 have h2 := Qf9 hk
 rw [QI (by rw [decide_eq_true_eq]; omega), Option.bind_some, QI (by rw [decide_eq_true_eq]; omega), Qc (QhX hk), Option.bind_some, decide_eq_true (by omega)]
theorem Qhd {h k : Int} (hn : ¬ ((1 ≤ h ∧ h ≤ 4) ∧ (1 ≤ k ∧ k ≤ 4))) : U1 h k = some false := by
 unfold U1
 by_cases h1 : 1 ≤ h
 ·by_cases h2 : h ≤ 4
  ·have hk : ¬ (1 ≤ k ∧ k ≤ 4) := fun hk => hn ⟨⟨h1, h2⟩, hk⟩
   rw [QI (decide_eq_true h1), Option.bind_some, QI (decide_eq_true h2), Qc (Qe4 hk)]
   rfl
  ·rw [QI (decide_eq_true h1), Option.bind_some, QU (by rw [decide_eq_true_eq]; exact h2)]
   rfl
 ·rw [QU (by rw [decide_eq_true_eq]; exact h1), Option.bind_some, QU (by decide)]
  rfl
def ndh (id : QL) (r u : Nat) (b : List (BitVec 8)) : Qa := sha (((id.toList ++ be (BitVec.ofNat 32 r) 4) ++ be (BitVec.ofNat 16 u) 2) ++ b)
theorem Qkp (b : List (BitVec 8)) (hb : b.length ≤ 4000000000) (u : Nat) (hu : u ≤ 65535) : VH (b, false) (u : Int) = some (b ++ be (BitVec.ofNat 16 u) 2, false) := by
 unfold VH Vu
 simp only []
 rw [QU (by rw [decide_eq_true_eq]; omega), Option.bind_some, QU (by rw [decide_eq_true_eq]; omega), Option.bind_some, QI (by rfl), Qka]
 have h : ZP (b, false) (BitVec.ofNat 64 u) (2 : Int) = _ := Qdu b hb (BitVec.ofNat 64 u) 2 (by omega)
 simp only [Bool.not_false]
 rw [Qc h, Qkq]
theorem Qfy (id : QL) (r u : Nat) (parts : List (List (BitVec 8))) (hu : u ≤ 65535) (hp : tot parts ≤ 1000000) (hl : parts.length ≤ 1000000) : UF id (r : Int) (u : Int) parts = some (ndh id r u parts.flatten) := by
 unfold UF
 rw [Qc (VK [] id.toList (by simp))]
 simp only [List.nil_append]
 rw [Uy, Qc (WV id.toList (by simp) (BitVec.ofNat 32 r)), Qc (Qkp _ (by simp [JG]) u hu)]
 have h := JD (f := fun (s : Int × Bool × (List (BitVec 8))) => V7 parts s.1 s.2.1 s.2.2) (fun j (_ : Unit) => ((j : Int), false, ((id.toList ++ be (BitVec.ofNat 32 r) 4) ++ be (BitVec.ofNat 16 u) 2) ++ (parts.take j).flatten)) (fun _ s => s) 0 parts.length (fun j s h1 h2 => by
  simp only [V7]
  have h3 := Qa1 parts (j + 1)
  rw [List.take_succ_eq_append_getElem h2, List.flatten_append, List.length_append] at h3
  rw [QI (by rw [decide_eq_true_eq]; omega), Qc (Jm rfl h2), Qc (VK _ _ (by simp [JG] at h3 ⊢; omega)), Ji (n := (j : Int) + 1) (by omega) (by omega), List.take_succ_eq_append_getElem h2, List.flatten_append]
  simp) (fun s => by
  simp only [V7]
  rw [QU (by rw [decide_eq_true_eq]; omega)]) FU () (by omega) (J4 (by omega))
 have h' : Q3 (fun (s : Int × Bool × (List (BitVec 8))) => V7 parts s.1 s.2.1 s.2.2) FU ((0 : Int), false, (id.toList ++ be (BitVec.ofNat 32 r) 4) ++ be (BitVec.ofNat 16 u) 2) = some ((parts.length : Int), false, ((id.toList ++ be (BitVec.ofNat 32 r) 4) ++ be (BitVec.ofNat 16 u) 2) ++ parts.flatten) := by
  have e : ((id.toList ++ be (BitVec.ofNat 32 r) 4) ++ be (BitVec.ofNat 16 u) 2) ++ (parts.take 0).flatten = (id.toList ++ be (BitVec.ofNat 32 r) 4) ++ be (BitVec.ofNat 16 u) 2 := by simp
  rw [e, List.take_length] at h
  exact h
 have h3 := Qa1 parts parts.length
 rw [List.take_length] at h3
 rw [Qc h', Qc (QaS _ (by simp [JG] at h3 ⊢; omega)), Qc (QcS _ (by simp [JG] at h3 ⊢; omega))]
 unfold ndh; rfl
theorem Qe8 (id : QL) (r : Nat) (p : Qa) : Bh id (r : Int) p = some (ndh id r 33410 p.toList) := by
 unfold Bh
 have h : UF id (r : Int) (33410 : Int) [p.toList] = _ := Qfy id r 33410 [p.toList] (by omega) (by simp [tot]) (by simp)
 rw [Qc h]; simp
theorem QbH (id : QL) (r : Nat) (a b : Qa) : Wa id (r : Int) a b = some (ndh id r 33667 (a.toList ++ b.toList)) := by
 unfold Wa
 have h : UF id (r : Int) (33667 : Int) [a.toList, b.toList] = _ := Qfy id r 33667 [a.toList, b.toList] (by omega) (by simp [tot]) (by simp)
 rw [Qc h]; simp
section
variable (k : Nat) (id : QL) (seed : Qa) (K : Nat)
def lfv (r : Nat) : Qa := ndh id r 33410 (QdK k id (BitVec.ofNat 32 (r - K)) seed).toList
def tv (r : Nat) : Qa :=
 if h : r < K ∧ 0 < r then ndh id r 33667 ((tv (2 * r)).toList ++ (tv (2 * r + 1)).toList) else lfv k id seed K r
termination_by K - r
decreasing_by
 ·omega
 ·omega
theorem Qg0 {r : Nat} (h : K ≤ r) : tv k id seed K r = lfv k id seed K r := by rw [tv, dif_neg (by omega)]
theorem QfU {r : Nat} (h : r < K) (h0 : 0 < r) : tv k id seed K r = ndh id r 33667 ((tv k id seed K (2 * r)).toList ++ (tv k id seed K (2 * r + 1)).toList) := by
 conv => lhs; rw [tv]
 rw [dif_pos ⟨h, h0⟩]
end
def QaI : Qa := Vector.replicate 32 (0#8)
theorem Qhz {α : Type} (n i : Nat) (f : Nat → α) (x : α) : ((List.range n).map f).set i x = (List.range n).map (fun r => if r = i then x else f r) := by
 apply List.ext_getElem
 ·simp
 ·intro j h1 h2
  simp only [List.length_map, List.length_range, List.length_set] at h1 h2
  rw [List.getElem_set]
  by_cases h : i = j
  ·simp [h]
  ·rw [if_neg h]; simp; intro hc; exact absurd hc.symm h
def BY (k : Nat) (id : QL) (seed : Qa) (K : Nat) : List Qa := (List.range (2 * K)).map fun r => if r = 0 then QaI else tv k id seed K r
theorem QcQ {k : Nat} {id : QL} {seed : Qa} {K r : Nat} (h0 : 0 < r) (h : r < 2 * K) : JW (BY k id seed K) (r : Int) = some (tv k id seed K r) := by
 unfold BY
 rw [Jm rfl (by simp; exact h), List.getElem_map, List.getElem_range, if_neg (by omega)]
theorem Qg6 {h k : Nat} (hh : IsH h) (hk : JT k) (id : QL) (seed : Qa) : qM (h : Int) (k : Int) id seed = some (some ((h : Int), (k : Int), id, seed, BY k id seed (KK h)), 0) := by
 unfold qM
 obtain ⟨hK1, hK2⟩ := B5 hh
 have hhl := Wq hh
 rw [Qc (Qez hh hk), QU (by decide), QI (by omega), qL hh]
 have hsh := qL hh
 generalize KK h = K at hK1 hK2 hsh ⊢
 have w2 : w64 ((2 : Int) * (K : Int)) = ((2 * K : Nat) : Int) := by rw [Ji (by omega) (by omega)]; omega
 have w3 : w64 ((K : Int) - 1) = ((K - 1 : Nat) : Int) := by rw [Ji (by omega) (by omega)]; omega
 rw [w2, w3, QI (by clear w2 w3 hsh; omega), Option.bind_some, Int.toNat_natCast]
 clear w2 w3
 have h0 : List.replicate (2 * K) (Vector.replicate 32 (0#8)) = (List.range (2 * K)).map (fun r => if K ≤ r ∧ r < K + 0 then tv k id seed K r else QaI) := by
  apply List.ext_getElem
  ·simp
  ·intro j h1 h2
   simp; rw [if_neg (by omega)]; rfl
 obtain ⟨o, ho, hq⟩ := Wc (f := fun (s : Int × (List Qa)) => Up (h : Int) (k : Int) id seed s.1 s.2) (fun s => ∃ q, q ≤ K ∧ s = ((q : Int), (List.range (2 * K)).map (fun r => if K ≤ r ∧ r < K + q then tv k id seed K r else QaI))) (fun s => K - s.1.toNat) (fun o => o = .inl ((K : Int), (List.range (2 * K)).map (fun r => if K ≤ r ∧ r < K + K then tv k id seed K r else QaI))) (by
  rintro s ⟨q, hq, rfl⟩
  by_cases hl : q < K
  ·refine .inl ⟨(((q + 1 : Nat) : Int), (List.range (2 * K)).map (fun r => if K ≤ r ∧ r < K + (q + 1) then tv k id seed K r else QaI)), ?_, ⟨q + 1, by omega, rfl⟩, ?_⟩
   ·simp only [Up, hsh]
    have w4 : w64 ((K : Int) + (q : Int)) = ((K + q : Nat) : Int) := by rw [Ji (by omega) (by omega)]; omega
    have w5 : w64 ((q : Int) + 1) = ((q + 1 : Nat) : Int) := by rw [Ji (by omega) (by omega)]; omega
    rw [QI (by clear w4 w5 hsh; rw [decide_eq_true_eq]; omega), Uy, Qc (QhT hk id _ seed), QU (by simp), w4, w5, Qc (Qe8 id (K + q) _), QI (by clear w4 w5 hsh; simp; omega), Int.toNat_natCast, Qhz]
    refine congrArg some (congrArg LR.next (Prod.ext rfl ?_))
    apply List.map_congr_left
    intro r hr
    by_cases e : r = K + q
    ·subst e
     rw [if_pos rfl, if_pos (by clear w4 w5 hsh; omega), Qg0 _ _ _ _ (by clear w4 w5 hsh; omega)]
     unfold lfv
     rw [Nat.add_sub_cancel_left]
    ·rw [if_neg e]
     by_cases e2 : K ≤ r ∧ r < K + q
     ·rw [if_pos e2, if_pos (by clear w4 w5 hsh; omega)]
     ·rw [if_neg e2, if_neg (by clear w4 w5 hsh; omega)]
   ·simp only [Int.toNat_natCast]; clear hsh; omega
  ·have : q = K := by clear hsh; omega
   subst this
   exact .inr (.inl ⟨_, by
    simp only [Up, hsh]
    rw [QU (by clear hsh; rw [decide_eq_true_eq]; omega)], rfl⟩)) FU ((0 : Int), (List.range (2 * K)).map (fun r => if K ≤ r ∧ r < K + 0 then tv k id seed K r else QaI)) ⟨0, Nat.zero_le _, rfl⟩ (by
   have := J4 (n := K) (by clear hsh; omega)
   clear hsh
   simp only []; omega)
 rw [h0, Qc ho, hq]
 simp only []
 have h1 : (List.range (2 * K)).map (fun r => if K ≤ r ∧ r < K + K then tv k id seed K r else QaI) = (List.range (2 * K)).map (fun r => if K - 1 < r then tv k id seed K r else QaI) := by
  apply List.map_congr_left
  intro r hr
  have := List.mem_range.1 hr
  by_cases e : K ≤ r
  ·rw [if_pos (by clear hsh; omega), if_pos (by clear hsh; omega)]
  ·rw [if_neg (by clear hsh; omega), if_neg (by clear hsh; omega)]
 obtain ⟨s', hs', hq'⟩ := qw (f := fun (s : Int × (List Qa)) => Uq id s.1 s.2) (fun s => ∃ y, y < K ∧ s = ((y : Int), (List.range (2 * K)).map (fun r => if y < r then tv k id seed K r else QaI))) (fun s => s.1.toNat) (fun s => s = ((0 : Int), (List.range (2 * K)).map (fun r => if 0 < r then tv k id seed K r else QaI))) (by
  rintro s ⟨y, hy, rfl⟩
  by_cases hl : 0 < y
  ·obtain ⟨y, rfl⟩ : ∃ m, y = m + 1 := ⟨y - 1, by clear hsh; omega⟩
   refine .inl ⟨((y : Int), (List.range (2 * K)).map (fun r => if y < r then tv k id seed K r else QaI)), ?_, ⟨y, by clear hsh; omega, rfl⟩, ?_⟩
   ·simp only [Uq]
    have g1 : JW ((List.range (2 * K)).map (fun r => if y + 1 < r then tv k id seed K r else QaI)) ((2 * (y + 1) : Nat) : Int) = some (tv k id seed K (2 * (y + 1))) := by
     rw [Jm rfl (by simp; clear hsh; omega)]
     rw [List.getElem_map, List.getElem_range, if_pos (by clear hsh; omega)]
    have g2 : JW ((List.range (2 * K)).map (fun r => if y + 1 < r then tv k id seed K r else QaI)) ((2 * (y + 1) + 1 : Nat) : Int) = some (tv k id seed K (2 * (y + 1) + 1)) := by
     rw [Jm rfl (by simp; clear hsh; omega)]
     rw [List.getElem_map, List.getElem_range, if_pos (by clear hsh; omega)]
    have w4 : w64 ((2 : Int) * ((y + 1 : Nat) : Int)) = ((2 * (y + 1) : Nat) : Int) := by rw [Ji (by clear hsh; omega) (by clear hsh; omega)]; rfl
    have w5 : w64 (((2 * (y + 1) : Nat) : Int) + 1) = ((2 * (y + 1) + 1 : Nat) : Int) := by rw [Ji (by clear w4 hsh; omega) (by clear w4 hsh; omega)]; rfl
    have w6 : w64 (((y + 1 : Nat) : Int) - 1) = (y : Int) := by rw [Ji (by clear w4 w5 hsh; omega) (by clear w4 w5 hsh; omega)]; clear w4 w5 hsh; omega
    rw [QI (by clear w4 w5 w6 hsh; simp), w4, w5, w6, Qc g1, Qc g2, Qc (QbH id (y + 1) _ _), QI (by clear w4 w5 w6 hsh; simp; omega), Int.toNat_natCast, Qhz]
    clear w4 w5 w6 g1 g2
    refine congrArg some (congrArg LR.next (Prod.ext rfl ?_))
    apply List.map_congr_left
    intro r hr
    by_cases e : r = y + 1
    ·subst e
     rw [if_pos rfl, if_pos (by clear hsh; omega), QfU k id seed K hy (by clear hsh; omega)]
    ·rw [if_neg e]
     by_cases e2 : y + 1 < r
     ·rw [if_pos e2, if_pos (by clear hsh; omega)]
     ·rw [if_neg e2, if_neg (by clear hsh; omega)]
   ·simp only [Int.toNat_natCast]; clear hsh; omega
  ·have : y = 0 := by clear hsh; omega
   subst this
   exact .inr ⟨_, by
    simp only [Uq]
    rw [QU (by simp)]; rfl, rfl⟩) FU (((K - 1 : Nat) : Int), (List.range (2 * K)).map (fun r => if K - 1 < r then tv k id seed K r else QaI)) ⟨K - 1, by clear hsh; omega, rfl⟩ (by
   simp only [Int.toNat_natCast]
   exact J4 (by clear hsh; omega))
 rw [h1, Option.bind_some, Qc hs', hq']
 refine congrArg some (Prod.ext (congrArg some ?_) rfl)
 refine congrArg (fun v => ((h : Int), (k : Int), id, seed, v)) ?_
 unfold BY
 apply List.map_congr_left
 intro r hr
 by_cases e : r = 0
 ·rw [if_neg (by clear hsh; omega), if_pos e]
 ·rw [if_pos (by clear hsh; omega), if_neg e]
abbrev trS (h k : Nat) (id : QL) (seed : Qa) : Option QF := some ((h : Int), (k : Int), id, seed, BY k id seed (KK h))
theorem QcJ {h k : Nat} (hh : IsH h) (id : QL) (seed : Qa) : X4 (trS h k id seed) = some (KK h : Int) := by
 unfold X4
 rw [QU (by simp), Option.bind_some, QI (by simp), qL hh]
def K7 (h k : Nat) (id : QL) (seed : Qa) : List (BitVec 8) := ((be (BitVec.ofNat 32 h) 4 ++ be (BitVec.ofNat 32 k) 4) ++ id.toList) ++ (tv k id seed (KK h) 1).toList
theorem Ba (h k : Nat) (id : QL) (seed : Qa) : (K7 h k id seed).length = 56 := by simp [K7, JG]
theorem Qdi {h k : Nat} (hh : IsH h) (id : QL) (seed : Qa) : XN (trS h k id seed) = some (K7 h k id seed) := by
 unfold XN
 obtain ⟨hK1, hK2⟩ := B5 hh
 have g : JW (BY k id seed (KK h)) (1 : Int) = some (tv k id seed (KK h) 1) := QcQ (r := 1) (by omega) (by omega)
 rw [QU (by simp)]
 simp only [trS, Option.bind_some]
 rw [Uy, Uy, Qc (WV [] (by simp) _), Qc (WV _ (by simp [JG]) _), Qc (VK _ _ (by simp [JG])), Qc g, Qc (VK _ _ (by simp [JG])), Qc (QaS _ (by simp [JG]))]
 rfl
theorem Qbb {h k : Nat} (hh : IsH h) (hk : JT k) : Ua (h : Int) (k : Int) = some ((8 + JO k + 32 * h : Nat) : Int) := by
 unfold Ua
 have h1 := Wq hh
 have h2 : JO k ≤ 100000 := by have := Kb hk; unfold JO; omega
 rw [Qc (Qez hh hk), QU (by decide), Qc (QeI hk), Option.bind_some, Ji (n := 8 + (JO k : Int)) (by omega) (by omega), Ji (n := 32 * (h : Int)) (by omega) (by omega), Ji (by omega) (by omega)]
 refine congrArg some ?_
 omega
theorem Qjy {h k : Int} (hn : ¬ ((1 ≤ h ∧ h ≤ 4) ∧ (1 ≤ k ∧ k ≤ 4))) : Ua h k = some 0 := by
 unfold Ua
 rw [Qc (Qhd hn), QI (by rfl)]
def sib (r : Nat) : Nat := r + 1 - 2 * (r % 2)
def pth (f : Nat → Qa) (r : Nat) : List Qa := if h : 1 < r then f (sib r) :: pth f (r / 2) else []
termination_by r
decreasing_by omega
theorem Qeh (f : Nat → Qa) {r : Nat} (h : ¬ 1 < r) : pth f r = [] := by rw [pth, dif_neg h]
theorem QcA (f : Nat → Qa) {r : Nat} (h : 1 < r) : pth f r = f (sib r) :: pth f (r / 2) := by
 conv => lhs; rw [pth]
 rw [dif_pos h]
def QcT (l : List Qa) : List (BitVec 8) := l.flatMap fun x => x.toList
theorem Qi7 (l : List Qa) : (QcT l).length = 32 * l.length := by
 induction l with
 | nil => rfl
 | cons x l ih =>
  show (x.toList ++ QcT l).length = _
  rw [List.length_append, ih, Vector.length_toList, List.length_cons]; omega
theorem QhE (f : Nat → Qa) : ∀ (h r : Nat), 2 ^ h ≤ r → r < 2 ^ (h + 1) → (pth f r).length = h := by
 intro h
 induction h with
 | zero => intro r h1 h2; rw [Qeh f (by simp at h2; omega)]; rfl
 | succ h ih =>
  intro r h1 h2
  have e1 : 2 ^ (h + 1) = 2 ^ h * 2 := Nat.pow_succ ..
  have e2 : 2 ^ (h + 1 + 1) = 2 ^ (h + 1) * 2 := Nat.pow_succ ..
  have e0 : 0 < 2 ^ h := Nat.pow_pos (by omega)
  rw [QcA f (by omega), List.length_cons, ih (r / 2) (by omega) (by omega)]
theorem Qja : ∀ r : Fin 32, Qlt (r.val : Int) 1 = ((sib r.val : Nat) : Int) := by with_unfolding_all decide
def WD (h k : Nat) (id : QL) (seed : Qa) (q : Nat) (msg : List (BitVec 8)) : List (BitVec 8) :=
 ((be (BitVec.ofNat 32 q) 4 ++ U4 k id (BitVec.ofNat 32 q) seed msg) ++ be (BitVec.ofNat 32 h) 4) ++ QcT (pth (tv k id seed (KK h)) (KK h + q))
theorem Wv {h k : Nat} (id : QL) (seed : Qa) (q : Nat) (hq : q < KK h) (msg : List (BitVec 8)) : (WD h k id seed q msg).length = 8 + JO k + 32 * h := by
 unfold WD
 rw [List.length_append, List.length_append, List.length_append, JG, JG, B0, Qi7, QhE _ h (KK h + q) (by unfold KK; omega) (by rw [Nat.pow_succ]; unfold KK at hq ⊢; omega)]
 omega
theorem QhV (h k : Nat) (id : QL) (seed : Qa) (hK : KK h ≤ 16) : ∀ (n r fuel : Nat) (b : List (BitVec 8)), r ≤ n → 0 < r → r < 2 * KK h → b.length + 32 * n ≤ 1000000 → n < fuel →
  ∃ r', Q3 (fun (s : Int × Bool × (List (BitVec 8))) => Xx (trS h k id seed) s.1 s.2.1 s.2.2) fuel ((r : Int), false, b) = some (r', false, b ++ QcT (pth (tv k id seed (KK h)) r)) := by
 intro n
 induction n with
 | zero => intro r fuel b h1 h2; omega
 | succ n ih =>
  intro r fuel b h1 h2 h3 hb hfu
  obtain ⟨fuel, rfl⟩ : ∃ m, fuel = m + 1 := ⟨fuel - 1, by omega⟩
  by_cases hr : 1 < r
  ·have hx := Qja ⟨r, by omega⟩
   simp only [] at hx
   have hs : 0 < sib r ∧ sib r < 2 * KK h := by
    have : 2 * KK h % 2 = 0 := by omega
    unfold sib; omega
   have g := QcQ (k := k) (id := id) (seed := seed) hs.1 hs.2
   obtain ⟨r', hr'⟩ := ih (r / 2) fuel (b ++ (tv k id seed (KK h) (sib r)).toList) (by omega) (by omega) (by omega) (by rw [List.length_append, Vector.length_toList]; omega) (by omega)
   refine ⟨r', ?_⟩
   have hd : Int.tdiv (r : Int) 2 = ((r / 2 : Nat) : Int) := (Int.ofNat_tdiv r 2).symm
   rw [Yx (s' := (((r / 2 : Nat) : Int), false, b ++ (tv k id seed (KK h) (sib r)).toList)) (by
    simp only [Xx]
    rw [QI (by rw [decide_eq_true_eq]; omega), Option.bind_some, hx, Qc g, Qc (VK _ _ (by rw [Vector.length_toList]; omega)), hd]
    clear hx g hr' hd
    rw [Ji (by omega) (by omega)]), hr', QcA _ hr]
   simp [QcT]
  ·refine ⟨(r : Int), ?_⟩
   rw [YM (s' := ((r : Int), false, b)) (by
    simp only [Xx]
    rw [QU (by rw [decide_eq_true_eq]; omega)]), Qeh _ hr]
   simp [QcT]
theorem QfY {h k : Nat} (hh : IsH h) (hk : JT k) (id : QL) (seed : Qa) (q : Nat) (hq : q < KK h) (msg : List (BitVec 8)) (hm : msg.length ≤ 2000000000) : VN (trS h k id seed) (q : Int) msg = some (WD h k id seed q msg, 0) := by
 unfold VN
 obtain ⟨hK1, hK2⟩ := B5 hh
 have hhl := Wq hh
 have hsz : JO k ≤ 100000 := by have := Kb hk; unfold JO; omega
 have hsl := B0 (k := k) id (BitVec.ofNat 32 q) seed msg
 obtain ⟨r', hl⟩ := QhV h k id seed hK2 (KK h + q) (KK h + q) FU ((be (BitVec.ofNat 32 q) 4 ++ U4 k id (BitVec.ofNat 32 q) seed msg) ++ be (BitVec.ofNat 32 h) 4) (Nat.le_refl _) (by omega) (by omega) (by simp only [List.length_append, JG]; omega) (J4 (by omega))
 rw [QU (by simp), QU (by rw [decide_eq_true_eq]; omega), Qc (QcJ hh id seed), Option.bind_some, QU (by rw [decide_eq_true_eq]; omega), Option.bind_some, Option.bind_some, Option.bind_some]
 simp only []
 rw [Uy, Qc (QkB hk id _ seed msg hm), QU (by simp), Qc (WV [] (by simp) _)]
 simp only [List.nil_append]
 rw [Qc (VK _ _ (by rw [JG]; omega)), Option.bind_some]
 simp only []
 rw [Uy, Qc (WV _ (by rw [List.length_append, JG]; omega) _), Qc (QcJ hh id seed)]
 rw [show w64 ((KK h : Int) + (q : Int)) = ((KK h + q : Nat) : Int) by rw [Ji (by omega) (by omega)]; omega, Qc hl]
 simp only []
 rw [Qc (QaS _ (by have := Wv (k := k) id seed q hq msg; unfold WD at this; omega))]
 rfl
end Go.Sl.Pu
