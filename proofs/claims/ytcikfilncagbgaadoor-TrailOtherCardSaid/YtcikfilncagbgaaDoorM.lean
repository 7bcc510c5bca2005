import Derived.Test.YtcikfilncagbgaaDoorBase
set_option linter.unusedVariables false
set_option maxRecDepth 100000
namespace Go.Sl
namespace M
abbrev T_hash_state : Type := Vector (BitVec 32) 8
abbrev T_api_Hash : Type := Vector (BitVec 8) 32
abbrev T_frontier_part : Type := Int × Int × T_api_Hash
abbrev T_frontier_Range : Type := Int × Int × (List T_api_Hash)
abbrev T_rolodexref15_Range : Type := Int × Int × (List T_api_Hash)
abbrev T_trail_Trail : Type := (List T_api_Hash) × (List T_api_Hash)
abbrev T_rolodexref16_Trail : Type := (List T_api_Hash) × (List T_api_Hash)
abbrev T_rolodexlaw16_Said : Type := Int × Int × T_api_Hash × T_api_Hash
def S_0 : List (BitVec 8) := [0#8, 1#8, 2#8, 2#8, 3#8, 3#8, 3#8, 3#8, 4#8, 4#8, 4#8, 4#8, 4#8, 4#8, 4#8, 4#8, 5#8, 5#8, 5#8, 5#8, 5#8, 5#8, 5#8, 5#8, 5#8, 5#8, 5#8, 5#8, 5#8, 5#8, 5#8, 5#8, 6#8, 6#8, 6#8, 6#8, 6#8, 6#8, 6#8, 6#8, 6#8, 6#8, 6#8, 6#8, 6#8, 6#8, 6#8, 6#8, 6#8, 6#8, 6#8, 6#8, 6#8, 6#8, 6#8, 6#8, 6#8, 6#8, 6#8, 6#8, 6#8, 6#8, 6#8, 6#8, 7#8, 7#8, 7#8, 7#8, 7#8, 7#8, 7#8, 7#8, 7#8, 7#8, 7#8, 7#8, 7#8, 7#8, 7#8, 7#8, 7#8, 7#8, 7#8, 7#8, 7#8, 7#8, 7#8, 7#8, 7#8, 7#8, 7#8, 7#8, 7#8, 7#8, 7#8, 7#8, 7#8, 7#8, 7#8, 7#8, 7#8, 7#8, 7#8, 7#8, 7#8, 7#8, 7#8, 7#8, 7#8, 7#8, 7#8, 7#8, 7#8, 7#8, 7#8, 7#8, 7#8, 7#8, 7#8, 7#8, 7#8, 7#8, 7#8, 7#8, 7#8, 7#8, 7#8, 7#8, 8#8, 8#8, 8#8, 8#8, 8#8, 8#8, 8#8, 8#8, 8#8, 8#8, 8#8, 8#8, 8#8, 8#8, 8#8, 8#8, 8#8, 8#8, 8#8, 8#8, 8#8, 8#8, 8#8, 8#8, 8#8, 8#8, 8#8, 8#8, 8#8, 8#8, 8#8, 8#8, 8#8, 8#8, 8#8, 8#8, 8#8, 8#8, 8#8, 8#8, 8#8, 8#8, 8#8, 8#8, 8#8, 8#8, 8#8, 8#8, 8#8, 8#8, 8#8, 8#8, 8#8, 8#8, 8#8, 8#8, 8#8, 8#8, 8#8, 8#8, 8#8, 8#8, 8#8, 8#8, 8#8, 8#8, 8#8, 8#8, 8#8, 8#8, 8#8, 8#8, 8#8, 8#8, 8#8, 8#8, 8#8, 8#8, 8#8, 8#8, 8#8, 8#8, 8#8, 8#8, 8#8, 8#8, 8#8, 8#8, 8#8, 8#8, 8#8, 8#8, 8#8, 8#8, 8#8, 8#8, 8#8, 8#8, 8#8, 8#8, 8#8, 8#8, 8#8, 8#8, 8#8, 8#8, 8#8, 8#8, 8#8, 8#8, 8#8, 8#8, 8#8, 8#8, 8#8, 8#8, 8#8, 8#8, 8#8, 8#8, 8#8, 8#8, 8#8, 8#8, 8#8, 8#8, 8#8, 8#8]
def G_hash_begin : T_hash_state := #v[1779033703#32, 3144134277#32, 1013904242#32, 2773480762#32, 1359893119#32, 2600822924#32, 528734635#32, 1541459225#32]
def G_hash_rounds : Vector (BitVec 32) 64 := #v[1116352408#32, 1899447441#32, 3049323471#32, 3921009573#32, 961987163#32, 1508970993#32, 2453635748#32, 2870763221#32, 3624381080#32, 310598401#32, 607225278#32, 1426881987#32, 1925078388#32, 2162078206#32, 2614888103#32, 3248222580#32, 3835390401#32, 4022224774#32, 264347078#32, 604807628#32, 770255983#32, 1249150122#32, 1555081692#32, 1996064986#32, 2554220882#32, 2821834349#32, 2952996808#32, 3210313671#32, 3336571891#32, 3584528711#32, 113926993#32, 338241895#32, 666307205#32, 773529912#32, 1294757372#32, 1396182291#32, 1695183700#32, 1986661051#32, 2177026350#32, 2456956037#32, 2730485921#32, 2820302411#32, 3259730800#32, 3345764771#32, 3516065817#32, 3600352804#32, 4094571909#32, 275423344#32, 430227734#32, 506948616#32, 659060556#32, 883997877#32, 958139571#32, 1322822218#32, 1537002063#32, 1747873779#32, 1955562222#32, 2024104815#32, 2227730452#32, 2361852424#32, 2428436474#32, 2756734187#32, 3204031479#32, 3329325298#32]
def G_math_bits_deBruijn32tab : Vector (BitVec 8) 32 := #v[0#8, 1#8, 28#8, 2#8, 29#8, 14#8, 24#8, 3#8, 30#8, 22#8, 20#8, 15#8, 25#8, 17#8, 4#8, 8#8, 31#8, 27#8, 13#8, 23#8, 21#8, 19#8, 16#8, 7#8, 26#8, 12#8, 18#8, 6#8, 11#8, 5#8, 10#8, 9#8]
def G_math_bits_deBruijn64tab : Vector (BitVec 8) 64 := #v[0#8, 1#8, 56#8, 2#8, 57#8, 49#8, 28#8, 3#8, 61#8, 58#8, 42#8, 50#8, 38#8, 29#8, 17#8, 4#8, 62#8, 47#8, 59#8, 36#8, 45#8, 43#8, 51#8, 22#8, 53#8, 39#8, 33#8, 30#8, 24#8, 18#8, 12#8, 5#8, 63#8, 55#8, 48#8, 27#8, 60#8, 41#8, 37#8, 16#8, 46#8, 35#8, 44#8, 21#8, 52#8, 32#8, 23#8, 11#8, 54#8, 26#8, 40#8, 15#8, 34#8, 20#8, 31#8, 10#8, 25#8, 14#8, 19#8, 9#8, 13#8, 8#8, 7#8, 6#8]
/- math/bits.RotateLeft32 -/
def math_bits_RotateLeft32 (p_x : BitVec 32) (p_k : Int) : Option (BitVec 32) :=
 Option.bind (some ((p_x <<< (((BitVec.ofInt 64 p_k) &&& (31#64)).toNat)) ||| (p_x >>> (((32#64) - ((BitVec.ofInt 64 p_k) &&& (31#64))).toNat)))) fun x1 =>
 some x1
/- rolodex/hash.schedule -/
def hash_schedule_L1 (x1 : List (BitVec 8)) (y1 : Int) (y2 : Vector (BitVec 32) 64) : Option (LR (Int × (Vector (BitVec 32) 64)) Empty) :=
 if (decide (y1 < (x1.length : Int))) = true then (
 Option.bind (lget x1 y1) fun x2 =>
 Option.bind (vget y2 (w64 (Int.tdiv y1 (4 : Int)))) fun x3 =>
 if 0 ≤ w64 (Int.tdiv y1 (4 : Int)) ∧ w64 (Int.tdiv y1 (4 : Int)) < (64 : Int) then (
 Option.bind (some ((y2.setIfInBounds ((w64 (Int.tdiv y1 (4 : Int))).toNat) ((x3 <<< 8) ||| (x2.setWidth 32))))) fun x4 =>
 some (.next (w64 (y1 + (1 : Int)), x4))) else none) else (
 some (.brk (y1, y2)))
def hash_schedule_L2 (y5 : Int) (y6 : Vector (BitVec 32) 64) : Option (LR (Int × (Vector (BitVec 32) 64)) Empty) :=
 if (decide (y5 < (64 : Int))) = true then (
 Option.bind (vget y6 (w64 (y5 - (15 : Int)))) fun x5 =>
 Option.bind (math_bits_RotateLeft32 x5 (-7 : Int)) fun r1 =>
 Option.bind (vget y6 (w64 (y5 - (15 : Int)))) fun x6 =>
 Option.bind (math_bits_RotateLeft32 x6 (-18 : Int)) fun r2 =>
 Option.bind (vget y6 (w64 (y5 - (15 : Int)))) fun x7 =>
 Option.bind (vget y6 (w64 (y5 - (2 : Int)))) fun x8 =>
 Option.bind (math_bits_RotateLeft32 x8 (-17 : Int)) fun r3 =>
 Option.bind (vget y6 (w64 (y5 - (2 : Int)))) fun x9 =>
 Option.bind (math_bits_RotateLeft32 x9 (-19 : Int)) fun r4 =>
 Option.bind (vget y6 (w64 (y5 - (2 : Int)))) fun x10 =>
 Option.bind (vget y6 (w64 (y5 - (16 : Int)))) fun x11 =>
 Option.bind (vget y6 (w64 (y5 - (7 : Int)))) fun x12 =>
 if 0 ≤ y5 ∧ y5 < (64 : Int) then (
 Option.bind (some ((y6.setIfInBounds y5.toNat (((x11 + ((r1 ^^^ r2) ^^^ (x7 >>> 3))) + x12) + ((r3 ^^^ r4) ^^^ (x10 >>> 10)))))) fun x13 =>
 some (.next (w64 (y5 + (1 : Int)), x13))) else none) else (
 some (.brk (y5, y6)))
def hash_schedule (p_block : List (BitVec 8)) : Option (Vector (BitVec 32) 64) :=
 Option.bind (lslice p_block 0 (64 : Int)) fun x1 =>
 Option.bind (loopS (fun (s : Int × (Vector (BitVec 32) 64)) => hash_schedule_L1 x1 s.1 s.2) FU ((0 : Int), (Vector.replicate 64 (0#32)))) fun (s2 : Int × (Vector (BitVec 32) 64)) =>
 Option.bind (loopS (fun (s : Int × (Vector (BitVec 32) 64)) => hash_schedule_L2 s.1 s.2) FU ((16 : Int), s2.2)) fun (s1 : Int × (Vector (BitVec 32) 64)) =>
 some s1.2
/- (rolodex/hash.state).block -/
def hash_state_block_L1 (r1 : (Vector (BitVec 32) 64)) (y1 : Int) (y2 : T_hash_state) : Option (LR (Int × T_hash_state) Empty) :=
 if (decide (y1 < (64 : Int))) = true then (
 Option.bind (math_bits_RotateLeft32 (y2[4]) (-6 : Int)) fun r2 =>
 Option.bind (math_bits_RotateLeft32 (y2[4]) (-11 : Int)) fun r3 =>
 Option.bind (math_bits_RotateLeft32 (y2[4]) (-25 : Int)) fun r4 =>
 Option.bind (vget G_hash_rounds y1) fun x1 =>
 Option.bind (vget r1 y1) fun x2 =>
 Option.bind (some (((((y2[7]) + ((r2 ^^^ r3) ^^^ r4)) + ((y2[6]) ^^^ ((y2[4]) &&& ((y2[5]) ^^^ (y2[6]))))) + x1) + x2)) fun x3 =>
 Option.bind (math_bits_RotateLeft32 (y2[0]) (-2 : Int)) fun r5 =>
 Option.bind (math_bits_RotateLeft32 (y2[0]) (-13 : Int)) fun r6 =>
 Option.bind (math_bits_RotateLeft32 (y2[0]) (-22 : Int)) fun r7 =>
 Option.bind (some (((r5 ^^^ r6) ^^^ r7) + (((y2[0]) &&& (y2[1])) ||| ((y2[2]) &&& ((y2[0]) ||| (y2[1])))))) fun x4 =>
 Option.bind (some (#v[x3 + x4, y2[0], y2[1], y2[2], (y2[3]) + x3, y2[4], y2[5], y2[6]])) fun x5 =>
 some (.next (w64 (y1 + (1 : Int)), x5))) else (
 some (.brk (y1, y2)))
def hash_state_block_L2 (y4 : T_hash_state) (y5 : Int) (y6 : T_hash_state) : Option (LR (Int × T_hash_state) Empty) :=
 if (decide (y5 < (8 : Int))) = true then (
 Option.bind (vget y6 y5) fun x6 =>
 Option.bind (vget y4 y5) fun x7 =>
 if 0 ≤ y5 ∧ y5 < (8 : Int) then (
 some (.next (w64 (y5 + (1 : Int)), (y6.setIfInBounds y5.toNat (x6 + x7))))) else none) else (
 some (.brk (y5, y6)))
def hash_state_block (p_s : T_hash_state) (p_b : List (BitVec 8)) : Option T_hash_state :=
 Option.bind (hash_schedule p_b) fun r1 =>
 Option.bind (loopS (fun (s : Int × T_hash_state) => hash_state_block_L1 r1 s.1 s.2) FU ((0 : Int), p_s)) fun (s2 : Int × T_hash_state) =>
 Option.bind (loopS (fun (s : Int × T_hash_state) => hash_state_block_L2 s2.2 s.1 s.2) FU ((0 : Int), p_s)) fun (s1 : Int × T_hash_state) =>
 some s1.2
/- rolodex/hash.Sum -/
def hash_Sum_L1 (y1 : List (BitVec 8)) (y2 : T_hash_state) : Option (LR ((List (BitVec 8)) × T_hash_state) Empty) :=
 if (decide ((64 : Int) ≤ (y1.length : Int))) = true then (
 Option.bind (hash_state_block y2 y1) fun r1 =>
 Option.bind (lslice y1 (64 : Int) (y1.length : Int)) fun x1 =>
 some (.next (x1, r1))) else (
 some (.brk (y1, y2)))
def hash_Sum_L2 (y5 : Int) (p_b : List (BitVec 8)) (y6 : Int) (y7 : Vector (BitVec 8) 128) : Option (LR (Int × (Vector (BitVec 8) 128)) Empty) :=
 if (decide (y6 < (8 : Int))) = true then (
 if 0 ≤ w64 ((8 : Int) * y6) then (
 if 0 ≤ w64 ((w64 (y5 - (1 : Int))) - y6) ∧ w64 ((w64 (y5 - (1 : Int))) - y6) < (128 : Int) then (
 Option.bind (some ((y7.setIfInBounds ((w64 ((w64 (y5 - (1 : Int))) - y6)).toNat) ((((BitVec.ofInt 64 (p_b.length : Int)) <<< 3) >>> ((w64 ((8 : Int) * y6)).toNat)).setWidth 8)))) fun x3 =>
 some (.next (w64 (y6 + (1 : Int)), x3))) else none) else none) else (
 some (.brk (y6, y7)))
def hash_Sum_L3 (y10 : T_hash_state) (y11 : Int) (y12 : T_api_Hash) : Option (LR (Int × T_api_Hash) Empty) :=
 if (decide (y11 < (32 : Int))) = true then (
 Option.bind (vget y10 (w64 (Int.tdiv y11 (4 : Int)))) fun x4 =>
 if 0 ≤ w64 ((24 : Int) - (w64 ((8 : Int) * (Int.tmod y11 (4 : Int))))) then (
 if 0 ≤ y11 ∧ y11 < (32 : Int) then (
 Option.bind (some ((y12.setIfInBounds y11.toNat ((x4 >>> ((w64 ((24 : Int) - (w64 ((8 : Int) * (Int.tmod y11 (4 : Int)))))).toNat)).setWidth 8)))) fun x5 =>
 some (.next (w64 (y11 + (1 : Int)), x5))) else none) else none) else (
 some (.brk (y11, y12)))
def hash_Sum (p_b : List (BitVec 8)) : Option T_api_Hash :=
 Option.bind (loopS (fun (s : (List (BitVec 8)) × T_hash_state) => hash_Sum_L1 s.1 s.2) FU (p_b, G_hash_begin)) fun (s3 : (List (BitVec 8)) × T_hash_state) =>
 Option.bind (if (decide ((56 : Int) ≤ (s3.1.length : Int))) = true then (
 some (128 : Int)) else (
 some (64 : Int))) fun y5 =>
 if 0 ≤ (s3.1.length : Int) ∧ (s3.1.length : Int) < (128 : Int) then (
 Option.bind (some (((vput (Vector.replicate 128 (0#8)) 0 (s3.1.take 128)).setIfInBounds ((s3.1.length : Int).toNat) (128#8)))) fun x2 =>
 Option.bind (loopS (fun (s : Int × (Vector (BitVec 8) 128)) => hash_Sum_L2 y5 p_b s.1 s.2) FU ((0 : Int), x2)) fun (s2 : Int × (Vector (BitVec 8) 128)) =>
 Option.bind (hash_state_block s3.2 s2.2.toList) fun r2 =>
 Option.bind (if (decide (y5 = (128 : Int))) = true then (
 Option.bind (hash_state_block r2 ((s2.2.toList.drop 64).take 64)) fun r3 =>
 some r3) else (
 some r2)) fun y10 =>
 Option.bind (loopS (fun (s : Int × T_api_Hash) => hash_Sum_L3 y10 s.1 s.2) FU ((0 : Int), (Vector.replicate 32 (0#8)))) fun (s1 : Int × T_api_Hash) =>
 some s1.2) else none
/- slices.Grow[[]byte,byte]__nilsl -/
def slices_Grow_byte_byte_nilsl (p_n : Int) : Option (List (BitVec 8)) :=
 if (decide (p_n < (0 : Int))) = true then none else (
 Option.bind (some (w64 (p_n - (w64 ((0 : Int) - (0 : Int)))))) fun x1 =>
 if (decide ((0 : Int) < x1)) = true then (
 if 0 < x1 ∧ x1 ≤ (4294967296 : Int) then (
 if 0 ≤ (0 : Int) ∧ (0 : Int) ≤ ((List.replicate x1.toNat (0#8)).length : Int) then (
 some ((List.replicate x1.toNat (0#8)).take (0 : Int).toNat)) else none) else none) else (
 some ([] : List (BitVec 8))))
/- slices.Concat[[]byte,byte] -/
def slices_Concat_byte_byte_L1 (p_slices : List (List (BitVec 8))) (y1 : Int) (y2 : Int) : Option (LR (Int × Int) Empty) :=
 if (decide (y2 < (p_slices.length : Int))) = true then (
 Option.bind (lget p_slices y2) fun x1 =>
 if (decide ((w64 (y1 + (x1.length : Int))) < (0 : Int))) = true then none else (
 some (.next (w64 (y1 + (x1.length : Int)), w64 (y2 + (1 : Int)))))) else (
 some (.brk (y1, y2)))
def slices_Concat_byte_byte_L2 (p_slices : List (List (BitVec 8))) (y5 : Int) (y6 : List (BitVec 8)) : Option (LR (Int × (List (BitVec 8))) Empty) :=
 if (decide (y5 < (p_slices.length : Int))) = true then (
 Option.bind (lget p_slices y5) fun x2 =>
 if y6.length + x2.length ≤ AP then (
 some (.next (w64 (y5 + (1 : Int)), (y6 ++ x2)))) else none) else (
 some (.brk (y5, y6)))
def slices_Concat_byte_byte (p_slices : List (List (BitVec 8))) : Option (List (BitVec 8)) :=
 Option.bind (loopS (fun (s : Int × Int) => slices_Concat_byte_byte_L1 p_slices s.1 s.2) FU ((0 : Int), (0 : Int))) fun (s2 : Int × Int) =>
 Option.bind (slices_Grow_byte_byte_nilsl s2.1) fun r1 =>
 Option.bind (loopS (fun (s : Int × (List (BitVec 8))) => slices_Concat_byte_byte_L2 p_slices s.1 s.2) FU ((0 : Int), r1)) fun (s1 : Int × (List (BitVec 8))) =>
 some s1.2
/- rolodex/frontier.Node -/
def frontier_Node (p_a : T_api_Hash) (p_b : T_api_Hash) : Option T_api_Hash :=
 Option.bind (slices_Concat_byte_byte ([[1#8], p_a.toList, p_b.toList])) fun r1 =>
 Option.bind (hash_Sum r1) fun r2 =>
 some r2
/- (rolodex/frontier.stack).put -/
def frontier_stack_put_L1 (y1 : T_frontier_part) (y2 : List T_frontier_part) : Option (LR (T_frontier_part × (List T_frontier_part)) Empty) :=
 if (decide ((0 : Int) < (y2.length : Int))) = true then (
 Option.bind (lget y2 (w64 ((y2.length : Int) - (1 : Int)))) fun x1 =>
 Option.bind (if (!decide (x1.2.1 = y1.2.1)) = true then (
 some true) else (
 if w64 ((2 : Int) * x1.2.1) ≠ 0 then (
 some (!decide ((Int.tmod x1.1 (w64 ((2 : Int) * x1.2.1))) = (0 : Int)))) else none)) fun y3 =>
 if (y3) = true then (
 some (.brk (y1, y2))) else (
 Option.bind (frontier_Node x1.2.2 y1.2.2) fun r1 =>
 Option.bind (some ((x1.1, w64 ((2 : Int) * x1.2.1), r1))) fun x2 =>
 if 0 ≤ w64 ((y2.length : Int) - (1 : Int)) ∧ w64 ((y2.length : Int) - (1 : Int)) ≤ (y2.length : Int) then (
 some (.next (x2, (y2.take (w64 ((y2.length : Int) - (1 : Int))).toNat)))) else none)) else (
 some (.brk (y1, y2)))
def frontier_stack_put (p_s : List T_frontier_part) (p_p : T_frontier_part) : Option (List T_frontier_part) :=
 Option.bind (loopS (fun (s : T_frontier_part × (List T_frontier_part)) => frontier_stack_put_L1 s.1 s.2) FU (p_p, p_s)) fun (s1 : T_frontier_part × (List T_frontier_part)) =>
 if s1.2.length + ([s1.1]).length ≤ AP then (
 some (s1.2 ++ ([s1.1]))) else none
/- (rolodex/frontier.stack).hashes -/
def frontier_stack_hashes_L1 (p_s : List T_frontier_part) (y1 : Int) (y2 : List T_api_Hash) : Option (LR (Int × (List T_api_Hash)) Empty) :=
 if (decide (y1 < (p_s.length : Int))) = true then (
 Option.bind (lget p_s y1) fun x1 =>
 if y2.length + ([x1.2.2]).length ≤ AP then (
 some (.next (w64 (y1 + (1 : Int)), (y2 ++ ([x1.2.2]))))) else none) else (
 some (.brk (y1, y2)))
def frontier_stack_hashes (p_s : List T_frontier_part) : Option (List T_api_Hash) :=
 Option.bind (loopS (fun (s : Int × (List T_api_Hash)) => frontier_stack_hashes_L1 p_s s.1 s.2) FU ((0 : Int), ([] : List T_api_Hash))) fun (s1 : Int × (List T_api_Hash)) =>
 some s1.2
/- rolodex/frontier.Of -/
def frontier_Of_L1 (p_l : List T_api_Hash) (p_from : Int) (y3 : Int) (y4 : List T_frontier_part) : Option (LR (Int × (List T_frontier_part)) Empty) :=
 if (decide (y3 < (p_l.length : Int))) = true then (
 Option.bind (lget p_l y3) fun x1 =>
 Option.bind (some ((w64 (p_from + y3), (1 : Int), x1))) fun x2 =>
 Option.bind (frontier_stack_put y4 x2) fun r1 =>
 some (.next (w64 (y3 + (1 : Int)), r1))) else (
 some (.brk (y3, y4)))
def frontier_Of (p_from : Int) (p_l : List T_api_Hash) : Option (T_frontier_Range × Int) :=
 Option.bind (if (decide (p_from < (0 : Int))) = true then (
 some true) else (
 some (decide ((2147483647 : Int) < p_from)))) fun y1 =>
 Option.bind (if (y1) = true then (
 some true) else (
 some (decide ((w64 ((2147483647 : Int) - p_from)) < (p_l.length : Int))))) fun y2 =>
 if (y2) = true then (
 some ((0, 0, ([] : List T_api_Hash)), (1 : Int))) else (
 Option.bind (loopS (fun (s : Int × (List T_frontier_part)) => frontier_Of_L1 p_l p_from s.1 s.2) FU ((0 : Int), ([] : List T_frontier_part))) fun (s1 : Int × (List T_frontier_part)) =>
 Option.bind (frontier_stack_hashes s1.2) fun r2 =>
 Option.bind (some ((p_from, w64 (p_from + (p_l.length : Int)), r2))) fun x3 =>
 some (x3, (0 : Int)))
/- rolodex/rolodexlaw15.awake -/
def rolodexlaw15_awake : Option Bool :=
 Option.bind (some (#v[1#8, 0#8, 0#8, 0#8, 0#8, 0#8, 0#8, 0#8, 0#8, 0#8, 0#8, 0#8, 0#8, 0#8, 0#8, 0#8, 0#8, 0#8, 0#8, 0#8, 0#8, 0#8, 0#8, 0#8, 0#8, 0#8, 0#8, 0#8, 0#8, 0#8, 0#8, 0#8])) fun x1 =>
 Option.bind (some (#v[2#8, 0#8, 0#8, 0#8, 0#8, 0#8, 0#8, 0#8, 0#8, 0#8, 0#8, 0#8, 0#8, 0#8, 0#8, 0#8, 0#8, 0#8, 0#8, 0#8, 0#8, 0#8, 0#8, 0#8, 0#8, 0#8, 0#8, 0#8, 0#8, 0#8, 0#8, 0#8])) fun x2 =>
 Option.bind (some (#v[3#8, 0#8, 0#8, 0#8, 0#8, 0#8, 0#8, 0#8, 0#8, 0#8, 0#8, 0#8, 0#8, 0#8, 0#8, 0#8, 0#8, 0#8, 0#8, 0#8, 0#8, 0#8, 0#8, 0#8, 0#8, 0#8, 0#8, 0#8, 0#8, 0#8, 0#8, 0#8])) fun x3 =>
 Option.bind (frontier_Of (0 : Int) ([x1, x2, x3])) fun r1 =>
 Option.bind (if (decide (r1.2 = (0 : Int))) = true then (
 some (decide ((r1.1.2.2.length : Int) = (2 : Int)))) else (
 some false)) fun y1 =>
 Option.bind (if (y1) = true then (
 some (decide (r1.1.2.1 = (3 : Int)))) else (
 some false)) fun y2 =>
 some y2
/- rolodex/frontier.Leaf -/
def frontier_Leaf (p_b : List (BitVec 8)) : Option T_api_Hash :=
 Option.bind (slices_Concat_byte_byte ([[0#8], p_b])) fun r1 =>
 Option.bind (hash_Sum r1) fun r2 =>
 some r2
/- rolodex/rolodexref02.Start -/
def rolodexref02_Start : Option (Vector (BitVec 32) 8) :=
 Option.bind (some (#v[1779033703#32, 3144134277#32, 1013904242#32, 2773480762#32, 1359893119#32, 2600822924#32, 528734635#32, 1541459225#32])) fun x1 =>
 some x1
/- rolodex/rolodexref01.Number -/
def rolodexref01_Number_L1 (p_bytes : Int) (y1 : BitVec 64) (y2 : Int) (y3 : List (BitVec 8)) : Option (LR ((BitVec 64) × Int × (List (BitVec 8))) Empty) :=
 if (decide (y2 < p_bytes)) = true then (
 if y3.length + ([(y1 % (256#64)).setWidth 8]).length ≤ AP then (
 some (.next (y1 / (256#64), w64 (y2 + (1 : Int)), (y3 ++ ([(y1 % (256#64)).setWidth 8]))))) else none) else (
 some (.brk (y1, y2, y3)))
def rolodexref01_Number_L2 (y6 : List (BitVec 8)) (y7 : Int) (y8 : List (BitVec 8)) : Option (LR (Int × (List (BitVec 8))) Empty) :=
 if (decide ((0 : Int) ≤ y7)) = true then (
 Option.bind (lget y6 y7) fun x1 =>
 if y8.length + ([x1]).length ≤ AP then (
 some (.next (w64 (y7 - (1 : Int)), (y8 ++ ([x1]))))) else none) else (
 some (.brk (y7, y8)))
def rolodexref01_Number (p_x : BitVec 64) (p_bytes : Int) : Option (List (BitVec 8)) :=
 Option.bind (loopS (fun (s : (BitVec 64) × Int × (List (BitVec 8))) => rolodexref01_Number_L1 p_bytes s.1 s.2.1 s.2.2) FU (p_x, (0 : Int), ([] : List (BitVec 8)))) fun (s2 : (BitVec 64) × Int × (List (BitVec 8))) =>
 Option.bind (loopS (fun (s : Int × (List (BitVec 8))) => rolodexref01_Number_L2 s2.2.2 s.1 s.2) FU (w64 (p_bytes - (1 : Int)), ([] : List (BitVec 8)))) fun (s1 : Int × (List (BitVec 8))) =>
 some s1.2
/- rolodex/rolodexref02.Padded -/
def rolodexref02_Padded_L1 (y1 : List (BitVec 8)) : Option (LR (List (BitVec 8)) Empty) :=
 if (!decide ((Int.tmod (y1.length : Int) (64 : Int)) = (56 : Int))) = true then (
 if y1.length + ([0#8]).length ≤ AP then (
 some (.next (y1 ++ ([0#8])))) else none) else (
 some (.brk y1))
def rolodexref02_Padded (p_b : List (BitVec 8)) : Option (List (BitVec 8)) :=
 if ([] : List (BitVec 8)).length + p_b.length ≤ AP then (
 if (([] : List (BitVec 8)) ++ p_b).length + ([128#8]).length ≤ AP then (
 Option.bind (loopS (fun (s : (List (BitVec 8))) => rolodexref02_Padded_L1 s) FU ((([] : List (BitVec 8)) ++ p_b) ++ ([128#8]))) fun (s1 : (List (BitVec 8))) =>
 Option.bind (rolodexref01_Number ((8#64) * (BitVec.ofInt 64 (p_b.length : Int))) (8 : Int)) fun r1 =>
 if s1.length + r1.length ≤ AP then (
 some (s1 ++ r1)) else none) else none) else none
/- rolodex/rolodexref02.turned -/
def rolodexref02_turned (p_x : BitVec 32) (p_n : BitVec 32) : Option (BitVec 32) :=
 Option.bind (some ((p_x >>> p_n.toNat) ||| (p_x <<< (((32#32) - p_n).toNat)))) fun x1 =>
 some x1
/- rolodex/rolodexref01.Value -/
def rolodexref01_Value_L1 (p_b : List (BitVec 8)) (y1 : BitVec 64) (y2 : Int) : Option (LR ((BitVec 64) × Int) Empty) :=
 if (decide (y2 < (p_b.length : Int))) = true then (
 Option.bind (lget p_b y2) fun x1 =>
 some (.next ((y1 * (256#64)) + (x1.setWidth 64), w64 (y2 + (1 : Int))))) else (
 some (.brk (y1, y2)))
def rolodexref01_Value (p_b : List (BitVec 8)) : Option (BitVec 64) :=
 Option.bind (loopS (fun (s : (BitVec 64) × Int) => rolodexref01_Value_L1 p_b s.1 s.2) FU (0#64, (0 : Int))) fun (s1 : (BitVec 64) × Int) =>
 some s1.1
/- rolodex/rolodexref02.words -/
def rolodexref02_words_L1 (p_b : List (BitVec 8)) (y1 : Int) (y2 : Vector (BitVec 32) 64) : Option (LR (Int × (Vector (BitVec 32) 64)) Empty) :=
 if (decide (y1 < (16 : Int))) = true then (
 Option.bind (lslice p_b (w64 ((4 : Int) * y1)) (w64 ((w64 ((4 : Int) * y1)) + (4 : Int)))) fun x1 =>
 Option.bind (rolodexref01_Value x1) fun r1 =>
 if 0 ≤ y1 ∧ y1 < (64 : Int) then (
 Option.bind (some ((y2.setIfInBounds y1.toNat (r1.setWidth 32)))) fun x2 =>
 some (.next (w64 (y1 + (1 : Int)), x2))) else none) else (
 some (.brk (y1, y2)))
def rolodexref02_words_L2 (y5 : Int) (y6 : Vector (BitVec 32) 64) : Option (LR (Int × (Vector (BitVec 32) 64)) Empty) :=
 if (decide (y5 < (64 : Int))) = true then (
 Option.bind (vget y6 (w64 (y5 - (15 : Int)))) fun x3 =>
 Option.bind (vget y6 (w64 (y5 - (2 : Int)))) fun x4 =>
 Option.bind (vget y6 (w64 (y5 - (16 : Int)))) fun x5 =>
 Option.bind (rolodexref02_turned x3 (7#32)) fun r2 =>
 Option.bind (rolodexref02_turned x3 (18#32)) fun r3 =>
 Option.bind (vget y6 (w64 (y5 - (7 : Int)))) fun x6 =>
 Option.bind (rolodexref02_turned x4 (17#32)) fun r4 =>
 Option.bind (rolodexref02_turned x4 (19#32)) fun r5 =>
 if 0 ≤ y5 ∧ y5 < (64 : Int) then (
 Option.bind (some ((y6.setIfInBounds y5.toNat (((x5 + ((r2 ^^^ r3) ^^^ (x3 / (8#32)))) + x6) + ((r4 ^^^ r5) ^^^ (x4 / (1024#32))))))) fun x7 =>
 some (.next (w64 (y5 + (1 : Int)), x7))) else none) else (
 some (.brk (y5, y6)))
def rolodexref02_words (p_b : List (BitVec 8)) : Option (Vector (BitVec 32) 64) :=
 Option.bind (loopS (fun (s : Int × (Vector (BitVec 32) 64)) => rolodexref02_words_L1 p_b s.1 s.2) FU ((0 : Int), (Vector.replicate 64 (0#32)))) fun (s2 : Int × (Vector (BitVec 32) 64)) =>
 Option.bind (loopS (fun (s : Int × (Vector (BitVec 32) 64)) => rolodexref02_words_L2 s.1 s.2) FU ((16 : Int), s2.2)) fun (s1 : Int × (Vector (BitVec 32) 64)) =>
 some s1.2
/- rolodex/rolodexref02.K -/
def rolodexref02_K : Option (Vector (BitVec 32) 64) :=
 Option.bind (some (#v[1116352408#32, 1899447441#32, 3049323471#32, 3921009573#32, 961987163#32, 1508970993#32, 2453635748#32, 2870763221#32, 3624381080#32, 310598401#32, 607225278#32, 1426881987#32, 1925078388#32, 2162078206#32, 2614888103#32, 3248222580#32, 3835390401#32, 4022224774#32, 264347078#32, 604807628#32, 770255983#32, 1249150122#32, 1555081692#32, 1996064986#32, 2554220882#32, 2821834349#32, 2952996808#32, 3210313671#32, 3336571891#32, 3584528711#32, 113926993#32, 338241895#32, 666307205#32, 773529912#32, 1294757372#32, 1396182291#32, 1695183700#32, 1986661051#32, 2177026350#32, 2456956037#32, 2730485921#32, 2820302411#32, 3259730800#32, 3345764771#32, 3516065817#32, 3600352804#32, 4094571909#32, 275423344#32, 430227734#32, 506948616#32, 659060556#32, 883997877#32, 958139571#32, 1322822218#32, 1537002063#32, 1747873779#32, 1955562222#32, 2024104815#32, 2227730452#32, 2361852424#32, 2428436474#32, 2756734187#32, 3204031479#32, 3329325298#32])) fun x1 =>
 some x1
/- rolodex/rolodexref02.take -/
def rolodexref02_take_L1 (r2 : (Vector (BitVec 32) 64)) (r1 : (Vector (BitVec 32) 64)) (y1 : Int) (y2 : Vector (BitVec 32) 8) : Option (LR (Int × (Vector (BitVec 32) 8)) Empty) :=
 if (decide (y1 < (64 : Int))) = true then (
 Option.bind (some (((y2[4]) &&& (y2[5])) ||| (((4294967295#32) - (y2[4])) &&& (y2[6])))) fun x1 =>
 Option.bind (some ((((y2[0]) &&& (y2[1])) ||| ((y2[0]) &&& (y2[2]))) ||| ((y2[1]) &&& (y2[2])))) fun x2 =>
 Option.bind (rolodexref02_turned (y2[4]) (6#32)) fun r3 =>
 Option.bind (rolodexref02_turned (y2[4]) (11#32)) fun r4 =>
 Option.bind (rolodexref02_turned (y2[4]) (25#32)) fun r5 =>
 Option.bind (vget r2 y1) fun x3 =>
 Option.bind (vget r1 y1) fun x4 =>
 Option.bind (some (((((y2[7]) + ((r3 ^^^ r4) ^^^ r5)) + x1) + x3) + x4)) fun x5 =>
 Option.bind (rolodexref02_turned (y2[0]) (2#32)) fun r6 =>
 Option.bind (rolodexref02_turned (y2[0]) (13#32)) fun r7 =>
 Option.bind (rolodexref02_turned (y2[0]) (22#32)) fun r8 =>
 Option.bind (some (#v[x5 + (((r6 ^^^ r7) ^^^ r8) + x2), y2[0], y2[1], y2[2], (y2[3]) + x5, y2[4], y2[5], y2[6]])) fun x6 =>
 some (.next (w64 (y1 + (1 : Int)), x6))) else (
 some (.brk (y1, y2)))
def rolodexref02_take_L2 (y4 : Vector (BitVec 32) 8) (y5 : Int) (y6 : Vector (BitVec 32) 8) : Option (LR (Int × (Vector (BitVec 32) 8)) Empty) :=
 if (decide (y5 < (8 : Int))) = true then (
 Option.bind (vget y6 y5) fun x7 =>
 Option.bind (vget y4 y5) fun x8 =>
 if 0 ≤ y5 ∧ y5 < (8 : Int) then (
 some (.next (w64 (y5 + (1 : Int)), (y6.setIfInBounds y5.toNat (x7 + x8))))) else none) else (
 some (.brk (y5, y6)))
def rolodexref02_take (p_h : Vector (BitVec 32) 8) (p_block : List (BitVec 8)) : Option (Vector (BitVec 32) 8) :=
 Option.bind (rolodexref02_words p_block) fun r1 =>
 Option.bind (rolodexref02_K) fun r2 =>
 Option.bind (loopS (fun (s : Int × (Vector (BitVec 32) 8)) => rolodexref02_take_L1 r2 r1 s.1 s.2) FU ((0 : Int), p_h)) fun (s2 : Int × (Vector (BitVec 32) 8)) =>
 Option.bind (loopS (fun (s : Int × (Vector (BitVec 32) 8)) => rolodexref02_take_L2 s2.2 s.1 s.2) FU ((0 : Int), p_h)) fun (s1 : Int × (Vector (BitVec 32) 8)) =>
 some s1.2
/- rolodex/rolodexref02.Sum -/
def rolodexref02_Sum_L1 (r2 : (List (BitVec 8))) (y1 : Int) (y2 : Vector (BitVec 32) 8) : Option (LR (Int × (Vector (BitVec 32) 8)) Empty) :=
 if (decide (y1 < (r2.length : Int))) = true then (
 Option.bind (lslice r2 y1 (w64 (y1 + (64 : Int)))) fun x1 =>
 Option.bind (rolodexref02_take y2 x1) fun r3 =>
 some (.next (w64 (y1 + (64 : Int)), r3))) else (
 some (.brk (y1, y2)))
def rolodexref02_Sum_L2 (y4 : Vector (BitVec 32) 8) (y5 : Int) (y6 : T_api_Hash) : Option (LR (Int × T_api_Hash) Empty) :=
 if (decide (y5 < (32 : Int))) = true then (
 Option.bind (vget y4 (w64 (Int.tdiv y5 (4 : Int)))) fun x2 =>
 if 0 ≤ y5 ∧ y5 < (32 : Int) then (
 Option.bind (some ((y6.setIfInBounds y5.toNat ((x2 >>> (((24#32) - ((8#32) * (BitVec.ofInt 32 (Int.tmod y5 (4 : Int))))).toNat)).setWidth 8)))) fun x3 =>
 some (.next (w64 (y5 + (1 : Int)), x3))) else none) else (
 some (.brk (y5, y6)))
def rolodexref02_Sum (p_b : List (BitVec 8)) : Option T_api_Hash :=
 Option.bind (rolodexref02_Start) fun r1 =>
 Option.bind (rolodexref02_Padded p_b) fun r2 =>
 Option.bind (loopS (fun (s : Int × (Vector (BitVec 32) 8)) => rolodexref02_Sum_L1 r2 s.1 s.2) FU ((0 : Int), r1)) fun (s2 : Int × (Vector (BitVec 32) 8)) =>
 Option.bind (loopS (fun (s : Int × T_api_Hash) => rolodexref02_Sum_L2 s2.2 s.1 s.2) FU ((0 : Int), (Vector.replicate 32 (0#8)))) fun (s1 : Int × T_api_Hash) =>
 some s1.2
/- rolodex/rolodexref15.Leaf -/
def rolodexref15_Leaf (p_b : List (BitVec 8)) : Option T_api_Hash :=
 if ([0#8]).length + p_b.length ≤ AP then (
 Option.bind (rolodexref02_Sum (([0#8]) ++ p_b)) fun r1 =>
 some r1) else none
/- rolodex/rolodexref15.Text -/
def rolodexref15_Text (p_a : T_api_Hash) (p_b : T_api_Hash) : Option (List (BitVec 8)) :=
 if ([1#8]).length + p_a.toList.length ≤ AP then (
 if (([1#8]) ++ p_a.toList).length + p_b.toList.length ≤ AP then (
 some ((([1#8]) ++ p_a.toList) ++ p_b.toList)) else none) else none
/- rolodex/rolodexref15.Node -/
def rolodexref15_Node (p_a : T_api_Hash) (p_b : T_api_Hash) : Option T_api_Hash :=
 Option.bind (rolodexref15_Text p_a p_b) fun r1 =>
 Option.bind (rolodexref02_Sum r1) fun r2 =>
 some r2
/- rolodex/rolodexlaw15.FrontierHashes -/
def rolodexlaw15_FrontierHashes (p_b : List (BitVec 8)) (p_x : T_api_Hash) (p_y : T_api_Hash) : Option Bool :=
 Option.bind (rolodexlaw15_awake) fun r1 =>
 Option.bind (if (!r1) = true then (
 some true) else (
 some (decide ((500 : Int) < (p_b.length : Int))))) fun y1 =>
 if (y1) = true then (
 Option.bind (rolodexlaw15_awake) fun r2 =>
 some r2) else (
 Option.bind (frontier_Leaf p_b) fun r3 =>
 Option.bind (rolodexref15_Leaf p_b) fun r4 =>
 Option.bind (if (decide (r3 = r4)) = true then (
 Option.bind (frontier_Node p_x p_y) fun r5 =>
 Option.bind (rolodexref15_Node p_x p_y) fun r6 =>
 some (decide (r5 = r6))) else (
 some false)) fun y2 =>
 some y2)
/- rolodex/frontier.may -/
def frontier_may (p_from : Int) (p_to : Int) : Option Bool :=
 Option.bind (if (decide ((0 : Int) ≤ p_from)) = true then (
 some (decide (p_from ≤ p_to))) else (
 some false)) fun y1 =>
 Option.bind (if (y1) = true then (
 some (decide (p_to ≤ (2147483647 : Int)))) else (
 some false)) fun y2 =>
 some y2
/- math/bits.Len32 -/
def math_bits_Len32 (p_x : BitVec 32) : Option Int :=
 Option.bind (if (decide ((65536#32) ≤ p_x)) = true then (
 some (p_x >>> 16, (16 : Int))) else (
 some (p_x, (0 : Int)))) fun (j1 : (BitVec 32) × Int) =>
 Option.bind (if (decide ((256#32) ≤ j1.1)) = true then (
 some (j1.1 >>> 8, w64 (j1.2 + (8 : Int)))) else (
 some (j1.1, j1.2))) fun (j2 : (BitVec 32) × Int) =>
 Option.bind (lget S_0 ((j2.1.setWidth 8).toNat : Int)) fun x1 =>
 some (w64 (j2.2 + (x1.toNat : Int)))
/- math/bits.Len64 -/
def math_bits_Len64 (p_x : BitVec 64) : Option Int :=
 Option.bind (if (decide ((4294967296#64) ≤ p_x)) = true then (
 some (p_x >>> 32, (32 : Int))) else (
 some (p_x, (0 : Int)))) fun (j1 : (BitVec 64) × Int) =>
 Option.bind (if (decide ((65536#64) ≤ j1.1)) = true then (
 some (j1.1 >>> 16, w64 (j1.2 + (16 : Int)))) else (
 some (j1.1, j1.2))) fun (j2 : (BitVec 64) × Int) =>
 Option.bind (if (decide ((256#64) ≤ j2.1)) = true then (
 some (j2.1 >>> 8, w64 (j2.2 + (8 : Int)))) else (
 some (j2.1, j2.2))) fun (j3 : (BitVec 64) × Int) =>
 Option.bind (lget S_0 ((j3.1.setWidth 8).toNat : Int)) fun x1 =>
 some (w64 (j3.2 + (x1.toNat : Int)))
/- math/bits.Len -/
def math_bits_Len (p_x : BitVec 64) : Option Int :=
 Option.bind (math_bits_Len64 p_x) fun r1 =>
 some r1
/- math/bits.TrailingZeros32 -/
def math_bits_TrailingZeros32 (p_x : BitVec 32) : Option Int :=
 if (decide (p_x = (0#32))) = true then (
 some (32 : Int)) else (
 Option.bind (vget G_math_bits_deBruijn32tab ((((p_x &&& (-p_x)) * (125613361#32)) >>> 27).toNat : Int)) fun x1 =>
 some (x1.toNat : Int))
/- math/bits.TrailingZeros64 -/
def math_bits_TrailingZeros64 (p_x : BitVec 64) : Option Int :=
 if (decide (p_x = (0#64))) = true then (
 some (64 : Int)) else (
 Option.bind (vget G_math_bits_deBruijn64tab ((((p_x &&& (-p_x)) * (285870213051353865#64)) >>> 58).toNat : Int)) fun x1 =>
 some (x1.toNat : Int))
/- math/bits.TrailingZeros -/
def math_bits_TrailingZeros (p_x : BitVec 64) : Option Int :=
 Option.bind (math_bits_TrailingZeros64 p_x) fun r1 =>
 some r1
/- rolodex/frontier.segment -/
def frontier_segment (p_from : Int) (p_to : Int) : Option Int :=
 Option.bind (math_bits_Len (BitVec.ofInt 64 (w64 (p_to - p_from)))) fun r1 =>
 if 0 ≤ w64 (r1 - (1 : Int)) then (
 if (decide ((0 : Int) < p_from)) = true then (
 Option.bind (math_bits_TrailingZeros (BitVec.ofInt 64 p_from)) fun r2 =>
 if 0 ≤ r2 then (
 Option.bind (some (if ishl (1 : Int) r2 < ishl (1 : Int) (w64 (r1 - (1 : Int))) then ishl (1 : Int) r2 else ishl (1 : Int) (w64 (r1 - (1 : Int))))) fun x1 =>
 some x1) else none) else (
 some (ishl (1 : Int) (w64 (r1 - (1 : Int)))))) else none
/- rolodex/frontier.Segments -/
def frontier_Segments_L1 (p_to : Int) (y1 : Int) (y2 : List Int) : Option (LR (Int × (List Int)) Empty) :=
 if (decide (y1 < p_to)) = true then (
 Option.bind (frontier_segment y1 p_to) fun r2 =>
 if y2.length + ([r2]).length ≤ AP then (
 some (.next (w64 (y1 + r2), (y2 ++ ([r2]))))) else none) else (
 some (.brk (y1, y2)))
def frontier_Segments (p_from : Int) (p_to : Int) : Option (List Int) :=
 Option.bind (frontier_may p_from p_to) fun r1 =>
 if (!r1) = true then (
 some ([] : List Int)) else (
 Option.bind (loopS (fun (s : Int × (List Int)) => frontier_Segments_L1 p_to s.1 s.2) FU (p_from, ([] : List Int))) fun (s1 : Int × (List Int)) =>
 some s1.2)
/- rolodex/rolodexref04.Ints -/
def rolodexref04_Ints_L1 (p_a : List Int) (p_b : List Int) (y1 : Int) : Option (LR Int Bool) :=
 if (decide (y1 < (p_a.length : Int))) = true then (
 Option.bind (lget p_a y1) fun x1 =>
 Option.bind (lget p_b y1) fun x2 =>
 if (!decide (x1 = x2)) = true then (
 some (.ret false)) else (
 some (.next (w64 (y1 + (1 : Int)))))) else (
 some (.brk y1))
def rolodexref04_Ints (p_a : List Int) (p_b : List Int) : Option Bool :=
 if (!decide ((p_a.length : Int) = (p_b.length : Int))) = true then (
 some false) else (
 Option.bind (loopO (fun (s : Int) => rolodexref04_Ints_L1 p_a p_b s) FU (0 : Int)) fun o => match o with
 | .inl (s1 : Int) => (
 some true)
 | .inr x => some x)
/- rolodex/rolodexref15.May -/
def rolodexref15_May (p_from : Int) (p_to : Int) : Option Bool :=
 Option.bind (if (decide ((0 : Int) ≤ p_from)) = true then (
 some (decide (p_from ≤ p_to))) else (
 some false)) fun y1 =>
 Option.bind (if (y1) = true then (
 some (decide (p_to ≤ (2147483647 : Int)))) else (
 some false)) fun y2 =>
 some y2
/- rolodex/rolodexref15.Size -/
def rolodexref15_Size_L1 (p_to : Int) (p_from : Int) (y1 : Int) : Option (LR Int Empty) :=
 Option.bind (if (decide ((w64 ((2 : Int) * y1)) ≤ (w64 (p_to - p_from)))) = true then (
 if w64 ((2 : Int) * y1) ≠ 0 then (
 some (decide ((Int.tmod p_from (w64 ((2 : Int) * y1))) = (0 : Int)))) else none) else (
 some false)) fun y2 =>
 if (y2) = true then (
 some (.next (w64 ((2 : Int) * y1)))) else (
 some (.brk y1))
def rolodexref15_Size (p_from : Int) (p_to : Int) : Option Int :=
 Option.bind (loopS (fun (s : Int) => rolodexref15_Size_L1 p_to p_from s) FU (1 : Int)) fun (s1 : Int) =>
 some s1
/- rolodex/rolodexref15.Segments -/
def rolodexref15_Segments_L1 (p_to : Int) (y1 : Int) (y2 : List Int) : Option (LR (Int × (List Int)) Empty) :=
 if (decide (y1 < p_to)) = true then (
 Option.bind (rolodexref15_Size y1 p_to) fun r2 =>
 if y2.length + ([r2]).length ≤ AP then (
 some (.next (w64 (y1 + r2), (y2 ++ ([r2]))))) else none) else (
 some (.brk (y1, y2)))
def rolodexref15_Segments (p_from : Int) (p_to : Int) : Option (List Int) :=
 Option.bind (rolodexref15_May p_from p_to) fun r1 =>
 if (!r1) = true then (
 some ([] : List Int)) else (
 Option.bind (loopS (fun (s : Int × (List Int)) => rolodexref15_Segments_L1 p_to s.1 s.2) FU (p_from, ([] : List Int))) fun (s1 : Int × (List Int)) =>
 some s1.2)
/- rolodex/rolodexlaw15.FrontierSegments -/
def rolodexlaw15_FrontierSegments_L1 (r1 : (List Int)) (y2 : Int) (y3 : Int) : Option (LR (Int × Int) Bool) :=
 if (decide (y3 < (r1.length : Int))) = true then (
 Option.bind (lget r1 y3) fun x1 =>
 Option.bind (if (decide (x1 < (1 : Int))) = true then (
 some true) else (
 Option.bind (lget r1 y3) fun x2 =>
 Option.bind (lget r1 y3) fun x3 =>
 some (!decide ((iand x2 (w64 (x3 - (1 : Int)))) = (0 : Int))))) fun y4 =>
 Option.bind (if (y4) = true then (
 some true) else (
 Option.bind (lget r1 y3) fun x4 =>
 if x4 ≠ 0 then (
 some (!decide ((Int.tmod y2 x4) = (0 : Int)))) else none)) fun y5 =>
 if (y5) = true then (
 some (.ret false)) else (
 Option.bind (lget r1 y3) fun x5 =>
 some (.next (w64 (y2 + x5), w64 (y3 + (1 : Int)))))) else (
 some (.brk (y2, y3)))
def rolodexlaw15_FrontierSegments (p_from : Int) (p_end : Int) : Option Bool :=
 Option.bind (frontier_Segments p_from p_end) fun r1 =>
 Option.bind (rolodexlaw15_awake) fun r2 =>
 Option.bind (if (!r2) = true then (
 some true) else (
 Option.bind (rolodexref15_Segments p_from p_end) fun r3 =>
 Option.bind (rolodexref04_Ints r1 r3) fun r4 =>
 some (!r4))) fun y1 =>
 if (y1) = true then (
 some false) else (
 Option.bind (rolodexref15_May p_from p_end) fun r5 =>
 if (!r5) = true then (
 some (decide ((r1.length : Int) = (0 : Int)))) else (
 Option.bind (loopO (fun (s : Int × Int) => rolodexlaw15_FrontierSegments_L1 r1 s.1 s.2) FU (p_from, (0 : Int))) fun o => match o with
 | .inl (s1 : Int × Int) => (
 Option.bind (if (decide (s1.1 = p_end)) = true then (
 some (decide ((r1.length : Int) ≤ (62 : Int)))) else (
 some false)) fun y8 =>
 some y8)
 | .inr x => some x))
/- rolodex/rolodexref15.List -/
def rolodexref15_List_L1 (p_l : List T_api_Hash) (y1 : Int) : Option (LR Int Empty) :=
 if (decide (y1 < (w64 ((p_l.length : Int) - y1)))) = true then (
 some (.next (w64 ((2 : Int) * y1)))) else (
 some (.brk y1))
def rolodexref15_List_B (rc : (List T_api_Hash) → Option T_api_Hash) (p_l : List T_api_Hash) : Option T_api_Hash :=
 if (decide ((p_l.length : Int) = (0 : Int))) = true then (
 Option.bind (rolodexref02_Sum ([] : List (BitVec 8))) fun r1 =>
 some r1) else (
 if (decide ((p_l.length : Int) = (1 : Int))) = true then (
 Option.bind (lget p_l (0 : Int)) fun x1 =>
 some x1) else (
 Option.bind (loopS (fun (s : Int) => rolodexref15_List_L1 p_l s) FU (1 : Int)) fun (s1 : Int) =>
 Option.bind (lslice p_l 0 s1) fun x2 =>
 Option.bind (rc x2) fun r2 =>
 Option.bind (lslice p_l s1 (p_l.length : Int)) fun x3 =>
 Option.bind (rc x3) fun r3 =>
 Option.bind (rolodexref15_Node r2 r3) fun r4 =>
 some r4))
def rolodexref15_List_F : Nat → (List T_api_Hash) → Option T_api_Hash
   | 0 => fun _ => none
   | n + 1 => rolodexref15_List_B (rolodexref15_List_F n)
def rolodexref15_List (p_l : List T_api_Hash) : Option T_api_Hash := rolodexref15_List_F FU p_l
/- rolodex/rolodexref15.Of -/
def rolodexref15_Of_L1 (r1 : (List Int)) (y3 : List T_api_Hash) (y4 : Int) (y5 : List T_api_Hash) : Option (LR ((List T_api_Hash) × Int × (List T_api_Hash)) Empty) :=
 if (decide (y4 < (r1.length : Int))) = true then (
 Option.bind (lget r1 y4) fun x1 =>
 Option.bind (lslice y3 0 x1) fun x2 =>
 Option.bind (rolodexref15_List x2) fun r2 =>
 if y5.length + ([r2]).length ≤ AP then (
 Option.bind (lget r1 y4) fun x3 =>
 Option.bind (lslice y3 x3 (y3.length : Int)) fun x4 =>
 some (.next (x4, w64 (y4 + (1 : Int)), (y5 ++ ([r2]))))) else none) else (
 some (.brk (y3, y4, y5)))
def rolodexref15_Of (p_from : Int) (p_l : List T_api_Hash) : Option (T_rolodexref15_Range × Int) :=
 Option.bind (if (decide (p_from < (0 : Int))) = true then (
 some true) else (
 some (decide ((2147483647 : Int) < p_from)))) fun y1 =>
 Option.bind (if (y1) = true then (
 some true) else (
 some (decide ((w64 ((2147483647 : Int) - p_from)) < (p_l.length : Int))))) fun y2 =>
 if (y2) = true then (
 some ((0, 0, ([] : List T_api_Hash)), (1 : Int))) else (
 Option.bind (rolodexref15_Segments p_from (w64 (p_from + (p_l.length : Int)))) fun r1 =>
 Option.bind (loopS (fun (s : (List T_api_Hash) × Int × (List T_api_Hash)) => rolodexref15_Of_L1 r1 s.1 s.2.1 s.2.2) FU (p_l, (0 : Int), ([] : List T_api_Hash))) fun (s1 : (List T_api_Hash) × Int × (List T_api_Hash)) =>
 Option.bind (some ((p_from, w64 (p_from + (p_l.length : Int)), s1.2.2))) fun x5 =>
 some (x5, (0 : Int)))
/- rolodex/frontier.Formed -/
def frontier_Formed (p_r : T_frontier_Range) : Option Bool :=
 Option.bind (frontier_may p_r.1 p_r.2.1) fun r1 =>
 Option.bind (if (r1) = true then (
 Option.bind (frontier_Segments p_r.1 p_r.2.1) fun r2 =>
 some (decide ((r2.length : Int) = (p_r.2.2.length : Int)))) else (
 some false)) fun y1 =>
 some y1
/- rolodex/frontier.Root -/
def frontier_Root_L1 (p_r : T_frontier_Range) (y2 : Int) (y3 : T_api_Hash) : Option (LR (Int × T_api_Hash) Empty) :=
 if (decide ((0 : Int) ≤ y2)) = true then (
 Option.bind (lget p_r.2.2 y2) fun x2 =>
 Option.bind (frontier_Node x2 y3) fun r3 =>
 some (.next (w64 (y2 - (1 : Int)), r3))) else (
 some (.brk (y2, y3)))
def frontier_Root (p_r : T_frontier_Range) : Option (T_api_Hash × Int) :=
 Option.bind (frontier_Formed p_r) fun r1 =>
 Option.bind (if (!r1) = true then (
 some true) else (
 some (!decide (p_r.1 = (0 : Int))))) fun y1 =>
 if (y1) = true then (
 some ((Vector.replicate 32 (0#8)), (1 : Int))) else (
 if (decide ((p_r.2.2.length : Int) = (0 : Int))) = true then (
 Option.bind (hash_Sum ([] : List (BitVec 8))) fun r2 =>
 some (r2, (0 : Int))) else (
 Option.bind (lget p_r.2.2 (w64 ((p_r.2.2.length : Int) - (1 : Int)))) fun x1 =>
 Option.bind (loopS (fun (s : Int × T_api_Hash) => frontier_Root_L1 p_r s.1 s.2) FU (w64 ((p_r.2.2.length : Int) - (2 : Int)), x1)) fun (s1 : Int × T_api_Hash) =>
 some (s1.2, (0 : Int))))
/- rolodex/rolodexref15.Same -/
def rolodexref15_Same_L1 (p_a : List T_api_Hash) (p_b : List T_api_Hash) (y1 : Int) : Option (LR Int Bool) :=
 if (decide (y1 < (p_a.length : Int))) = true then (
 Option.bind (lget p_a y1) fun x1 =>
 Option.bind (lget p_b y1) fun x2 =>
 if (!decide (x1 = x2)) = true then (
 some (.ret false)) else (
 some (.next (w64 (y1 + (1 : Int)))))) else (
 some (.brk y1))
def rolodexref15_Same (p_a : List T_api_Hash) (p_b : List T_api_Hash) : Option Bool :=
 if (!decide ((p_a.length : Int) = (p_b.length : Int))) = true then (
 some false) else (
 Option.bind (loopO (fun (s : Int) => rolodexref15_Same_L1 p_a p_b s) FU (0 : Int)) fun o => match o with
 | .inl (s1 : Int) => (
 some true)
 | .inr x => some x)
/- rolodex/rolodexref15.Ranges -/
def rolodexref15_Ranges (p_a : T_rolodexref15_Range) (p_b : T_rolodexref15_Range) : Option Bool :=
 Option.bind (if (decide (p_a.1 = p_b.1)) = true then (
 some (decide (p_a.2.1 = p_b.2.1))) else (
 some false)) fun y1 =>
 Option.bind (if (y1) = true then (
 Option.bind (rolodexref15_Same p_a.2.2 p_b.2.2) fun r1 =>
 some r1) else (
 some false)) fun y2 =>
 some y2
/- rolodex/rolodexlaw15.to -/
def rolodexlaw15_to (p_r : T_frontier_Range) : Option T_rolodexref15_Range :=
 some p_r
/- rolodex/rolodexlaw15.FrontierRanges -/
def rolodexlaw15_FrontierRanges (p_from : Int) (p_l : List T_api_Hash) : Option Bool :=
 Option.bind (rolodexlaw15_awake) fun r1 =>
 Option.bind (if (!r1) = true then (
 some true) else (
 some (decide ((60 : Int) < (p_l.length : Int))))) fun y1 =>
 if (y1) = true then (
 Option.bind (rolodexlaw15_awake) fun r2 =>
 some r2) else (
 Option.bind (frontier_Of p_from p_l) fun r3 =>
 Option.bind (rolodexref15_Of p_from p_l) fun r4 =>
 Option.bind (frontier_Root r3.1) fun r5 =>
 Option.bind (if (!decide (r3.2 = r4.2)) = true then (
 some true) else (
 Option.bind (rolodexlaw15_to r3.1) fun r6 =>
 Option.bind (rolodexref15_Ranges r6 r4.1) fun r7 =>
 some (!r7))) fun y2 =>
 Option.bind (if (y2) = true then (
 some true) else (
 Option.bind (if (decide (r3.2 = (0 : Int))) = true then (
 Option.bind (frontier_Formed r3.1) fun r8 =>
 some (!r8)) else (
 some false)) fun y4 =>
 some y4)) fun y3 =>
 if (y3) = true then (
 some false) else (
 Option.bind (if (!decide (p_from = (0 : Int))) = true then (
 some true) else (
 Option.bind (if (decide (r3.2 = (0 : Int))) = true then (
 some (decide (r5.2 = (0 : Int)))) else (
 some false)) fun y6 =>
 Option.bind (if (y6) = true then (
 Option.bind (rolodexref15_List p_l) fun r9 =>
 some (decide (r5.1 = r9))) else (
 some false)) fun y7 =>
 some y7)) fun y5 =>
 some y5))
/- rolodex/frontier.Join -/
def frontier_Join_L2 (r3 : (List Int)) (x1 : T_frontier_Range) (y5 : Int) (y6 : Int) (y7 : List T_frontier_part) : Option (LR (Int × Int × (List T_frontier_part)) Empty) :=
 if (decide (y6 < (r3.length : Int))) = true then (
 Option.bind (lget r3 y6) fun x2 =>
 Option.bind (lget x1.2.2 y6) fun x3 =>
 Option.bind (some ((y5, x2, x3))) fun x4 =>
 Option.bind (frontier_stack_put y7 x4) fun r4 =>
 some (.next (w64 (y5 + x2), w64 (y6 + (1 : Int)), r4))) else (
 some (.brk (y5, y6, y7)))
def frontier_Join_L1 (p_a : T_frontier_Range) (p_b : T_frontier_Range) (y3 : Int) (y4 : List T_frontier_part) : Option (LR (Int × (List T_frontier_part)) Empty) :=
 if (decide (y3 < (([p_a, p_b]).length : Int))) = true then (
 Option.bind (lget ([p_a, p_b]) y3) fun x1 =>
 Option.bind (frontier_Segments x1.1 x1.2.1) fun r3 =>
 Option.bind (loopS (fun (s : Int × Int × (List T_frontier_part)) => frontier_Join_L2 r3 x1 s.1 s.2.1 s.2.2) FU (x1.1, (0 : Int), y4)) fun (s1 : Int × Int × (List T_frontier_part)) =>
 some (.next (w64 (y3 + (1 : Int)), s1.2.2))) else (
 some (.brk (y3, y4)))
def frontier_Join (p_a : T_frontier_Range) (p_b : T_frontier_Range) : Option (T_frontier_Range × Int) :=
 Option.bind (frontier_Formed p_a) fun r1 =>
 Option.bind (if (!r1) = true then (
 some true) else (
 Option.bind (frontier_Formed p_b) fun r2 =>
 some (!r2))) fun y1 =>
 Option.bind (if (y1) = true then (
 some true) else (
 some (!decide (p_a.2.1 = p_b.1)))) fun y2 =>
 if (y2) = true then (
 some ((0, 0, ([] : List T_api_Hash)), (1 : Int))) else (
 Option.bind (loopS (fun (s : Int × (List T_frontier_part)) => frontier_Join_L1 p_a p_b s.1 s.2) FU ((0 : Int), ([] : List T_frontier_part))) fun (s2 : Int × (List T_frontier_part)) =>
 Option.bind (frontier_stack_hashes s2.2) fun r5 =>
 Option.bind (some ((p_a.1, p_b.2.1, r5))) fun x5 =>
 some (x5, (0 : Int)))
/- rolodex/rolodexlaw15.FrontierParts -/
def rolodexlaw15_FrontierParts (p_from : BitVec 16) (p_l : List T_api_Hash) (p_cut : Vector (BitVec 8) 2) : Option Bool :=
 Option.bind (rolodexlaw15_awake) fun r1 =>
 Option.bind (if (!r1) = true then (
 some true) else (
 some (decide ((60 : Int) < (p_l.length : Int))))) fun y1 =>
 if (y1) = true then (
 Option.bind (rolodexlaw15_awake) fun r2 =>
 some r2) else (
 Option.bind (vget p_cut (0 : Int)) fun x1 =>
 if w64 ((p_l.length : Int) + (1 : Int)) ≠ 0 then (
 Option.bind (some (Int.tmod (x1.toNat : Int) (w64 ((p_l.length : Int) + (1 : Int))))) fun x2 =>
 Option.bind (vget p_cut (1 : Int)) fun x3 =>
 if w64 ((w64 ((p_l.length : Int) - x2)) + (1 : Int)) ≠ 0 then (
 Option.bind (some (w64 (x2 + (Int.tmod (x3.toNat : Int) (w64 ((w64 ((p_l.length : Int) - x2)) + (1 : Int))))))) fun x4 =>
 Option.bind (frontier_Of (p_from.toNat : Int) p_l) fun r3 =>
 Option.bind (lslice p_l 0 x2) fun x5 =>
 Option.bind (frontier_Of (p_from.toNat : Int) x5) fun r4 =>
 Option.bind (lslice p_l x2 x4) fun x6 =>
 Option.bind (frontier_Of (w64 ((p_from.toNat : Int) + x2)) x6) fun r5 =>
 Option.bind (lslice p_l x4 (p_l.length : Int)) fun x7 =>
 Option.bind (frontier_Of (w64 ((p_from.toNat : Int) + x4)) x7) fun r6 =>
 Option.bind (frontier_Join r4.1 r5.1) fun r7 =>
 Option.bind (frontier_Join r7.1 r6.1) fun r8 =>
 Option.bind (frontier_Join r5.1 r6.1) fun r9 =>
 Option.bind (frontier_Join r4.1 r9.1) fun r10 =>
 Option.bind (if (decide (r7.2 = (0 : Int))) = true then (
 some (decide (r8.2 = (0 : Int)))) else (
 some false)) fun y2 =>
 Option.bind (if (y2) = true then (
 some (decide (r9.2 = (0 : Int)))) else (
 some false)) fun y3 =>
 Option.bind (if (y3) = true then (
 some (decide (r10.2 = (0 : Int)))) else (
 some false)) fun y4 =>
 Option.bind (if (y4) = true then (
 Option.bind (rolodexlaw15_to r8.1) fun r11 =>
 Option.bind (rolodexlaw15_to r3.1) fun r12 =>
 Option.bind (rolodexref15_Ranges r11 r12) fun r13 =>
 some r13) else (
 some false)) fun y5 =>
 Option.bind (if (y5) = true then (
 Option.bind (rolodexlaw15_to r10.1) fun r14 =>
 Option.bind (rolodexlaw15_to r3.1) fun r15 =>
 Option.bind (rolodexref15_Ranges r14 r15) fun r16 =>
 some r16) else (
 some false)) fun y6 =>
 some y6) else none) else none)
/- rolodex/rolodexref15.Formed -/
def rolodexref15_Formed (p_r : T_rolodexref15_Range) : Option Bool :=
 Option.bind (rolodexref15_May p_r.1 p_r.2.1) fun r1 =>
 Option.bind (if (r1) = true then (
 Option.bind (rolodexref15_Segments p_r.1 p_r.2.1) fun r2 =>
 some (decide ((p_r.2.2.length : Int) = (r2.length : Int)))) else (
 some false)) fun y1 =>
 some y1
/- rolodex/rolodexref15.First -/
def rolodexref15_First_L1 (p_sizes : List Int) (y1 : Int) (y2 : Int) : Option (LR (Int × Int) Int) :=
 if (decide ((w64 (y2 + (1 : Int))) < (p_sizes.length : Int))) = true then (
 Option.bind (lget p_sizes y2) fun x1 =>
 Option.bind (lget p_sizes (w64 (y2 + (1 : Int)))) fun x2 =>
 Option.bind (if (decide (x1 = x2)) = true then (
 Option.bind (lget p_sizes y2) fun x3 =>
 if w64 ((2 : Int) * x3) ≠ 0 then (
 some (decide ((Int.tmod y1 (w64 ((2 : Int) * x3))) = (0 : Int)))) else none) else (
 some false)) fun y3 =>
 if (y3) = true then (
 some (.ret y2)) else (
 Option.bind (lget p_sizes y2) fun x4 =>
 some (.next (w64 (y1 + x4), w64 (y2 + (1 : Int)))))) else (
 some (.brk (y1, y2)))
def rolodexref15_First (p_from : Int) (p_sizes : List Int) : Option Int :=
 Option.bind (loopO (fun (s : Int × Int) => rolodexref15_First_L1 p_sizes s.1 s.2) FU (p_from, (0 : Int))) fun o => match o with
 | .inl (s1 : Int × Int) => (
 some (-1 : Int))
 | .inr x => some x
/- rolodex/rolodexref15.Made -/
def rolodexref15_Made (p_sizes : List Int) (p_l : List T_api_Hash) (p_i : Int) : Option ((List Int) × (List T_api_Hash)) :=
 Option.bind (lslice p_sizes 0 p_i) fun x1 =>
 if ([] : List Int).length + x1.length ≤ AP then (
 Option.bind (lget p_sizes p_i) fun x2 =>
 if (([] : List Int) ++ x1).length + ([w64 ((2 : Int) * x2)]).length ≤ AP then (
 Option.bind (lslice p_sizes (w64 (p_i + (2 : Int))) (p_sizes.length : Int)) fun x3 =>
 if ((([] : List Int) ++ x1) ++ ([w64 ((2 : Int) * x2)])).length + x3.length ≤ AP then (
 Option.bind (lslice p_l 0 p_i) fun x4 =>
 if ([] : List T_api_Hash).length + x4.length ≤ AP then (
 Option.bind (lget p_l p_i) fun x5 =>
 Option.bind (lget p_l (w64 (p_i + (1 : Int)))) fun x6 =>
 Option.bind (rolodexref15_Node x5 x6) fun r1 =>
 if (([] : List T_api_Hash) ++ x4).length + ([r1]).length ≤ AP then (
 Option.bind (lslice p_l (w64 (p_i + (2 : Int))) (p_l.length : Int)) fun x7 =>
 if ((([] : List T_api_Hash) ++ x4) ++ ([r1])).length + x7.length ≤ AP then (
 some ((((([] : List Int) ++ x1) ++ ([w64 ((2 : Int) * x2)])) ++ x3), (((([] : List T_api_Hash) ++ x4) ++ ([r1])) ++ x7))) else none) else none) else none) else none) else none) else none
/- rolodex/rolodexref15.Join -/
def rolodexref15_Join_L1 (p_a : T_rolodexref15_Range) (y3 : Int) (y4 : List T_api_Hash) (y5 : List Int) : Option (LR (Int × (List T_api_Hash) × (List Int)) Empty) :=
 if (decide ((0 : Int) ≤ y3)) = true then (
 Option.bind (rolodexref15_First p_a.1 y5) fun r5 =>
 if (decide ((0 : Int) ≤ r5)) = true then (
 Option.bind (rolodexref15_Made y5 y4 r5) fun r6 =>
 some (.next (r5, r6.2, r6.1))) else (
 some (.next (r5, y4, y5)))) else (
 some (.brk (y3, y4, y5)))
def rolodexref15_Join (p_a : T_rolodexref15_Range) (p_b : T_rolodexref15_Range) : Option (T_rolodexref15_Range × Int) :=
 Option.bind (rolodexref15_Formed p_a) fun r1 =>
 Option.bind (if (!r1) = true then (
 some true) else (
 Option.bind (rolodexref15_Formed p_b) fun r2 =>
 some (!r2))) fun y1 =>
 Option.bind (if (y1) = true then (
 some true) else (
 some (!decide (p_a.2.1 = p_b.1)))) fun y2 =>
 if (y2) = true then (
 some ((0, 0, ([] : List T_api_Hash)), (1 : Int))) else (
 Option.bind (rolodexref15_Segments p_a.1 p_a.2.1) fun r3 =>
 if ([] : List Int).length + r3.length ≤ AP then (
 Option.bind (rolodexref15_Segments p_b.1 p_b.2.1) fun r4 =>
 if (([] : List Int) ++ r3).length + r4.length ≤ AP then (
 if ([] : List T_api_Hash).length + p_a.2.2.length ≤ AP then (
 if (([] : List T_api_Hash) ++ p_a.2.2).length + p_b.2.2.length ≤ AP then (
 Option.bind (loopS (fun (s : Int × (List T_api_Hash) × (List Int)) => rolodexref15_Join_L1 p_a s.1 s.2.1 s.2.2) FU ((0 : Int), ((([] : List T_api_Hash) ++ p_a.2.2) ++ p_b.2.2), ((([] : List Int) ++ r3) ++ r4))) fun (s1 : Int × (List T_api_Hash) × (List Int)) =>
 Option.bind (some ((p_a.1, p_b.2.1, s1.2.1))) fun x1 =>
 some (x1, (0 : Int))) else none) else none) else none) else none)
/- rolodex/rolodexref15.fold -/
def rolodexref15_fold_B (rc : (List T_api_Hash) → Option T_api_Hash) (p_l : List T_api_Hash) : Option T_api_Hash :=
 if (decide ((p_l.length : Int) = (1 : Int))) = true then (
 Option.bind (lget p_l (0 : Int)) fun x1 =>
 some x1) else (
 Option.bind (lget p_l (0 : Int)) fun x2 =>
 Option.bind (lslice p_l (1 : Int) (p_l.length : Int)) fun x3 =>
 Option.bind (rc x3) fun r1 =>
 Option.bind (rolodexref15_Node x2 r1) fun r2 =>
 some r2)
def rolodexref15_fold_F : Nat → (List T_api_Hash) → Option T_api_Hash
   | 0 => fun _ => none
   | n + 1 => rolodexref15_fold_B (rolodexref15_fold_F n)
def rolodexref15_fold (p_l : List T_api_Hash) : Option T_api_Hash := rolodexref15_fold_F FU p_l
/- rolodex/rolodexref15.Root -/
def rolodexref15_Root (p_r : T_rolodexref15_Range) : Option (T_api_Hash × Int) :=
 Option.bind (rolodexref15_Formed p_r) fun r1 =>
 Option.bind (if (!r1) = true then (
 some true) else (
 some (!decide (p_r.1 = (0 : Int))))) fun y1 =>
 if (y1) = true then (
 some ((Vector.replicate 32 (0#8)), (1 : Int))) else (
 if (decide ((p_r.2.2.length : Int) = (0 : Int))) = true then (
 Option.bind (rolodexref02_Sum ([] : List (BitVec 8))) fun r2 =>
 some (r2, (0 : Int))) else (
 Option.bind (rolodexref15_fold p_r.2.2) fun r3 =>
 some (r3, (0 : Int))))
/- rolodex/rolodexlaw15.FrontierJoins -/
def rolodexlaw15_FrontierJoins (p_a : T_rolodexref15_Range) (p_b : T_rolodexref15_Range) : Option Bool :=
 Option.bind (rolodexlaw15_awake) fun r1 =>
 Option.bind (if (!r1) = true then (
 some true) else (
 some (decide ((70 : Int) < (p_a.2.2.length : Int))))) fun y1 =>
 Option.bind (if (y1) = true then (
 some true) else (
 some (decide ((70 : Int) < (p_b.2.2.length : Int))))) fun y2 =>
 if (y2) = true then (
 Option.bind (rolodexlaw15_awake) fun r2 =>
 some r2) else (
 Option.bind (frontier_Join p_a p_b) fun r3 =>
 Option.bind (rolodexref15_Join p_a p_b) fun r4 =>
 Option.bind (frontier_Root p_a) fun r5 =>
 Option.bind (rolodexref15_Root p_a) fun r6 =>
 Option.bind (if (decide (r3.2 = r4.2)) = true then (
 Option.bind (rolodexlaw15_to r3.1) fun r7 =>
 Option.bind (rolodexref15_Ranges r7 r4.1) fun r8 =>
 some r8) else (
 some false)) fun y3 =>
 Option.bind (if (y3) = true then (
 some (decide (r5.1 = r6.1))) else (
 some false)) fun y4 =>
 Option.bind (if (y4) = true then (
 some (decide (r5.2 = r6.2))) else (
 some false)) fun y5 =>
 Option.bind (if (y5) = true then (
 Option.bind (frontier_Formed p_a) fun r9 =>
 Option.bind (rolodexref15_Formed p_a) fun r10 =>
 some (r9 == r10)) else (
 some false)) fun y6 =>
 some y6)
/- rolodex/rolodexlaw15.FrontierGrows -/
def rolodexlaw15_FrontierGrows_L1 (p_l : List T_api_Hash) (y2 : Int) (y3 : T_frontier_Range) : Option (LR (Int × T_frontier_Range) Bool) :=
 if (decide (y2 < (p_l.length : Int))) = true then (
 Option.bind (lslice p_l y2 (w64 (y2 + (1 : Int)))) fun x1 =>
 Option.bind (frontier_Of y2 x1) fun r3 =>
 if ([] : List T_api_Hash).length + y3.2.2.length ≤ AP then (
 Option.bind (frontier_Join y3 r3.1) fun r4 =>
 Option.bind (if (!decide (r3.2 = (0 : Int))) = true then (
 some true) else (
 some (!decide (r4.2 = (0 : Int))))) fun y4 =>
 Option.bind (if (y4) = true then (
 some true) else (
 Option.bind (rolodexref15_Same (([] : List T_api_Hash) ++ y3.2.2) y3.2.2) fun r5 =>
 some (!r5))) fun y5 =>
 if (y5) = true then (
 some (.ret false)) else (
 Option.bind (frontier_Root r4.1) fun r6 =>
 Option.bind (if (!decide (r6.2 = (0 : Int))) = true then (
 some true) else (
 Option.bind (lslice p_l 0 (w64 (y2 + (1 : Int)))) fun x2 =>
 Option.bind (rolodexref15_List x2) fun r7 =>
 some (!decide (r6.1 = r7)))) fun y6 =>
 if (y6) = true then (
 some (.ret false)) else (
 some (.next (w64 (y2 + (1 : Int)), r4.1))))) else none) else (
 some (.brk (y2, y3)))
def rolodexlaw15_FrontierGrows (p_l : List T_api_Hash) : Option Bool :=
 Option.bind (rolodexlaw15_awake) fun r1 =>
 Option.bind (if (!r1) = true then (
 some true) else (
 some (decide ((40 : Int) < (p_l.length : Int))))) fun y1 =>
 if (y1) = true then (
 Option.bind (rolodexlaw15_awake) fun r2 =>
 some r2) else (
 Option.bind (loopO (fun (s : Int × T_frontier_Range) => rolodexlaw15_FrontierGrows_L1 p_l s.1 s.2) FU ((0 : Int), (0, 0, ([] : List T_api_Hash)))) fun o => match o with
 | .inl (s1 : Int × T_frontier_Range) => (
 some (decide (s1.2.2.1 = (p_l.length : Int))))
 | .inr x => some x)
/- rolodex/trail.rooted -/
def trail_rooted_L1 (x2 : List T_frontier_Range) (y1 : Int) (y2 : T_frontier_Range) : Option (LR (Int × T_frontier_Range) Bool) :=
 if (decide (y1 < (x2.length : Int))) = true then (
 Option.bind (lget x2 y1) fun x3 =>
 Option.bind (frontier_Join y2 x3) fun r1 =>
 if (!decide (r1.2 = (0 : Int))) = true then (
 some (.ret false)) else (
 some (.next (w64 (y1 + (1 : Int)), r1.1)))) else (
 some (.brk (y1, y2)))
def trail_rooted (p_root : T_api_Hash) (p_l : List T_frontier_Range) : Option Bool :=
 Option.bind (lget p_l (0 : Int)) fun x1 =>
 Option.bind (lslice p_l (1 : Int) (p_l.length : Int)) fun x2 =>
 Option.bind (loopO (fun (s : Int × T_frontier_Range) => trail_rooted_L1 x2 s.1 s.2) FU ((0 : Int), x1)) fun o => match o with
 | .inl (s1 : Int × T_frontier_Range) => (
 Option.bind (frontier_Root s1.2) fun r2 =>
 Option.bind (if (decide (r2.2 = (0 : Int))) = true then (
 some (decide (r2.1 = p_root))) else (
 some false)) fun y5 =>
 some y5)
 | .inr x => some x
/- rolodex/trail.IsEntry -/
def trail_IsEntry (p_t : T_trail_Trail) (p_i : Int) (p_n : Int) (p_h : T_api_Hash) (p_root : T_api_Hash) : Option Bool :=
 Option.bind (if (decide (p_i < (0 : Int))) = true then (
 some true) else (
 some (decide (p_n ≤ p_i)))) fun y1 =>
 Option.bind (if (y1) = true then (
 some true) else (
 some (decide ((2147483647 : Int) < p_n)))) fun y2 =>
 if (y2) = true then (
 some false) else (
 Option.bind (some ((0, p_i, p_t.1))) fun x1 =>
 Option.bind (some ((p_i, w64 (p_i + (1 : Int)), [p_h]))) fun x2 =>
 Option.bind (some ((w64 (p_i + (1 : Int)), p_n, p_t.2))) fun x3 =>
 Option.bind (trail_rooted p_root ([x1, x2, x3])) fun r1 =>
 some r1)
/- rolodex/rolodexlaw16.awake -/
def rolodexlaw16_awake : Option Bool :=
 Option.bind (some (#v[5#8, 0#8, 0#8, 0#8, 0#8, 0#8, 0#8, 0#8, 0#8, 0#8, 0#8, 0#8, 0#8, 0#8, 0#8, 0#8, 0#8, 0#8, 0#8, 0#8, 0#8, 0#8, 0#8, 0#8, 0#8, 0#8, 0#8, 0#8, 0#8, 0#8, 0#8, 0#8])) fun x1 =>
 Option.bind (some (#v[5#8, 0#8, 0#8, 0#8, 0#8, 0#8, 0#8, 0#8, 0#8, 0#8, 0#8, 0#8, 0#8, 0#8, 0#8, 0#8, 0#8, 0#8, 0#8, 0#8, 0#8, 0#8, 0#8, 0#8, 0#8, 0#8, 0#8, 0#8, 0#8, 0#8, 0#8, 0#8])) fun x2 =>
 Option.bind (trail_IsEntry (([] : List T_api_Hash), ([] : List T_api_Hash)) (0 : Int) (1 : Int) x1 x2) fun r1 =>
 some r1
/- rolodex/rolodexlaw16.few -/
def rolodexlaw16_few (p_t : T_rolodexref16_Trail) : Option Bool :=
 Option.bind (if (decide ((p_t.1.length : Int) ≤ (70 : Int))) = true then (
 some (decide ((p_t.2.length : Int) ≤ (70 : Int)))) else (
 some false)) fun y1 =>
 some y1
/- rolodex/rolodexref01.Same -/
def rolodexref01_Same_L1 (p_a : List (BitVec 8)) (p_b : List (BitVec 8)) (y1 : Int) : Option (LR Int Bool) :=
 if (decide (y1 < (p_a.length : Int))) = true then (
 Option.bind (lget p_a y1) fun x1 =>
 Option.bind (lget p_b y1) fun x2 =>
 if (!decide (x1 = x2)) = true then (
 some (.ret false)) else (
 some (.next (w64 (y1 + (1 : Int)))))) else (
 some (.brk y1))
def rolodexref01_Same (p_a : List (BitVec 8)) (p_b : List (BitVec 8)) : Option Bool :=
 if (!decide ((p_a.length : Int) = (p_b.length : Int))) = true then (
 some false) else (
 Option.bind (loopO (fun (s : Int) => rolodexref01_Same_L1 p_a p_b s) FU (0 : Int)) fun o => match o with
 | .inl (s1 : Int) => (
 some true)
 | .inr x => some x)
/- rolodex/rolodexref12.Clash -/
def rolodexref12_Clash_L2 (p_b : List (List (BitVec 8))) (p_a : List (List (BitVec 8))) (y1 : Int) (y2 : Int) : Option (LR Int Bool) :=
 if (decide (y2 < (p_b.length : Int))) = true then (
 Option.bind (lget p_a y1) fun x1 =>
 Option.bind (lget p_b y2) fun x2 =>
 Option.bind (rolodexref01_Same x1 x2) fun r1 =>
 Option.bind (if (!r1) = true then (
 Option.bind (lget p_a y1) fun x3 =>
 Option.bind (rolodexref02_Sum x3) fun r2 =>
 Option.bind (lget p_b y2) fun x4 =>
 Option.bind (rolodexref02_Sum x4) fun r3 =>
 some (decide (r2 = r3))) else (
 some false)) fun y3 =>
 if (y3) = true then (
 some (.ret true)) else (
 some (.next (w64 (y2 + (1 : Int)))))) else (
 some (.brk y2))
def rolodexref12_Clash_L1 (p_a : List (List (BitVec 8))) (p_b : List (List (BitVec 8))) (y1 : Int) : Option (LR Int Bool) :=
 if (decide (y1 < (p_a.length : Int))) = true then (
 Option.bind (loopO (fun (s : Int) => rolodexref12_Clash_L2 p_b p_a y1 s) FU (0 : Int)) fun o => match o with
 | .inl (s1 : Int) => (
 some (.next (w64 (y1 + (1 : Int)))))
 | .inr x => some (.ret x)) else (
 some (.brk y1))
def rolodexref12_Clash (p_a : List (List (BitVec 8))) (p_b : List (List (BitVec 8))) : Option Bool :=
 Option.bind (loopO (fun (s : Int) => rolodexref12_Clash_L1 p_a p_b s) FU (0 : Int)) fun o => match o with
 | .inl (s2 : Int) => (
 some false)
 | .inr x => some x
/- rolodex/rolodexref16.Joined -/
def rolodexref16_Joined_L1 (p_from : Int) (y1 : List Int) (y2 : List T_api_Hash) (y3 : Int) (y4 : List (List (BitVec 8))) : Option (LR ((List Int) × (List T_api_Hash) × Int × (List (List (BitVec 8)))) Empty) :=
 if (decide ((0 : Int) ≤ y3)) = true then (
 Option.bind (lget y2 y3) fun x1 =>
 Option.bind (lget y2 (w64 (y3 + (1 : Int)))) fun x2 =>
 Option.bind (rolodexref15_Text x1 x2) fun r2 =>
 if y4.length + ([r2]).length ≤ AP then (
 Option.bind (rolodexref15_Made y1 y2 y3) fun r3 =>
 Option.bind (rolodexref15_First p_from r3.1) fun r4 =>
 some (.next (r3.1, r3.2, r4, (y4 ++ ([r2]))))) else none) else (
 some (.brk (y1, y2, y3, y4)))
def rolodexref16_Joined_L2 (y9 : List T_api_Hash) (y10 : List (List (BitVec 8))) : Option (LR ((List T_api_Hash) × (List (List (BitVec 8)))) Empty) :=
 if (decide ((1 : Int) < (y9.length : Int))) = true then (
 Option.bind (lget y9 (w64 ((y9.length : Int) - (2 : Int)))) fun x3 =>
 Option.bind (lget y9 (w64 ((y9.length : Int) - (1 : Int)))) fun x4 =>
 Option.bind (rolodexref15_Text x3 x4) fun r5 =>
 if y10.length + ([r5]).length ≤ AP then (
 Option.bind (lslice y9 0 (w64 ((y9.length : Int) - (2 : Int)))) fun x5 =>
 if ([] : List T_api_Hash).length + x5.length ≤ AP then (
 Option.bind (lget y9 (w64 ((y9.length : Int) - (2 : Int)))) fun x6 =>
 Option.bind (lget y9 (w64 ((y9.length : Int) - (1 : Int)))) fun x7 =>
 Option.bind (rolodexref15_Node x6 x7) fun r6 =>
 if (([] : List T_api_Hash) ++ x5).length + ([r6]).length ≤ AP then (
 some (.next (((([] : List T_api_Hash) ++ x5) ++ ([r6])), (y10 ++ ([r5]))))) else none) else none) else none) else (
 some (.brk (y9, y10)))
def rolodexref16_Joined (p_from : Int) (p_sizes : List Int) (p_l : List T_api_Hash) : Option (List (List (BitVec 8))) :=
 Option.bind (rolodexref15_First p_from p_sizes) fun r1 =>
 Option.bind (loopS (fun (s : (List Int) × (List T_api_Hash) × Int × (List (List (BitVec 8)))) => rolodexref16_Joined_L1 p_from s.1 s.2.1 s.2.2.1 s.2.2.2) FU (p_sizes, p_l, r1, ([] : List (List (BitVec 8))))) fun (s2 : (List Int) × (List T_api_Hash) × Int × (List (List (BitVec 8)))) =>
 Option.bind (loopS (fun (s : (List T_api_Hash) × (List (List (BitVec 8)))) => rolodexref16_Joined_L2 s.1 s.2) FU (s2.2.1, s2.2.2.2)) fun (s1 : (List T_api_Hash) × (List (List (BitVec 8)))) =>
 some s1.2
/- rolodex/rolodexref16.Texts -/
def rolodexref16_Texts (p_t : T_rolodexref16_Trail) (p_m : Int) (p_n : Int) (p_between : List T_api_Hash) : Option (List (List (BitVec 8))) :=
 Option.bind (rolodexref15_Segments (0 : Int) p_m) fun r1 =>
 if ([] : List Int).length + r1.length ≤ AP then (
 Option.bind (rolodexref15_Segments p_m (w64 (p_m + (p_between.length : Int)))) fun r2 =>
 if (([] : List Int) ++ r1).length + r2.length ≤ AP then (
 Option.bind (rolodexref15_Segments (w64 (p_m + (p_between.length : Int))) p_n) fun r3 =>
 if ((([] : List Int) ++ r1) ++ r2).length + r3.length ≤ AP then (
 if ([] : List T_api_Hash).length + p_t.1.length ≤ AP then (
 if (([] : List T_api_Hash) ++ p_t.1).length + p_between.length ≤ AP then (
 if ((([] : List T_api_Hash) ++ p_t.1) ++ p_between).length + p_t.2.length ≤ AP then (
 Option.bind (rolodexref16_Joined (0 : Int) (((([] : List Int) ++ r1) ++ r2) ++ r3) (((([] : List T_api_Hash) ++ p_t.1) ++ p_between) ++ p_t.2)) fun r6 =>
 some r6) else none) else none) else none) else none) else none) else none
/- rolodex/rolodexref16.Tree -/
def rolodexref16_Tree_L1 (p_l : List T_api_Hash) (y1 : Int) : Option (LR Int Empty) :=
 if (decide (y1 < (w64 ((p_l.length : Int) - y1)))) = true then (
 some (.next (w64 ((2 : Int) * y1)))) else (
 some (.brk y1))
def rolodexref16_Tree_B (rc : (List T_api_Hash) → Option (List (List (BitVec 8)))) (p_l : List T_api_Hash) : Option (List (List (BitVec 8))) :=
 if (decide ((p_l.length : Int) < (2 : Int))) = true then (
 some ([] : List (List (BitVec 8)))) else (
 Option.bind (loopS (fun (s : Int) => rolodexref16_Tree_L1 p_l s) FU (1 : Int)) fun (s1 : Int) =>
 Option.bind (lslice p_l 0 s1) fun x1 =>
 Option.bind (rc x1) fun r1 =>
 Option.bind (lslice p_l s1 (p_l.length : Int)) fun x2 =>
 Option.bind (rc x2) fun r2 =>
 if r1.length + r2.length ≤ AP then (
 Option.bind (lslice p_l 0 s1) fun x3 =>
 Option.bind (rolodexref15_List x3) fun r3 =>
 Option.bind (lslice p_l s1 (p_l.length : Int)) fun x4 =>
 Option.bind (rolodexref15_List x4) fun r4 =>
 Option.bind (rolodexref15_Text r3 r4) fun r5 =>
 if (r1 ++ r2).length + ([r5]).length ≤ AP then (
 some ((r1 ++ r2) ++ ([r5]))) else none) else none)
def rolodexref16_Tree_F : Nat → (List T_api_Hash) → Option (List (List (BitVec 8)))
   | 0 => fun _ => none
   | n + 1 => rolodexref16_Tree_B (rolodexref16_Tree_F n)
def rolodexref16_Tree (p_l : List T_api_Hash) : Option (List (List (BitVec 8))) := rolodexref16_Tree_F FU p_l
/- rolodex/rolodexlaw16.TrailEntries -/
def rolodexlaw16_TrailEntries (p_l : List T_api_Hash) (p_t : T_rolodexref16_Trail) (p_s : T_rolodexlaw16_Said) : Option Bool :=
 Option.bind (rolodexlaw16_awake) fun r1 =>
 Option.bind (if (!r1) = true then (
 some true) else (
 some (decide ((40 : Int) < (p_l.length : Int))))) fun y1 =>
 Option.bind (if (y1) = true then (
 some true) else (
 Option.bind (rolodexlaw16_few p_t) fun r2 =>
 some (!r2))) fun y2 =>
 Option.bind (if (y2) = true then (
 some true) else (
 Option.bind (rolodexref15_List p_l) fun r3 =>
 Option.bind (trail_IsEntry p_t p_s.1 (p_l.length : Int) p_s.2.2.1 r3) fun r4 =>
 some (!r4))) fun y3 =>
 if (y3) = true then (
 Option.bind (rolodexlaw16_awake) fun r5 =>
 some r5) else (
 Option.bind (if (decide (p_s.1 < (0 : Int))) = true then (
 some true) else (
 some (decide ((p_l.length : Int) ≤ p_s.1)))) fun y4 =>
 if (y4) = true then (
 some false) else (
 Option.bind (lget p_l p_s.1) fun x1 =>
 if (decide (x1 = p_s.2.2.1)) = true then (
 some true) else (
 Option.bind (rolodexref16_Texts p_t p_s.1 (p_l.length : Int) ([p_s.2.2.1])) fun r6 =>
 Option.bind (rolodexref16_Tree p_l) fun r7 =>
 Option.bind (rolodexref12_Clash r6 r7) fun r8 =>
 some r8)))
/- rolodex/rolodexref16.All -/
def rolodexref16_All (p_a : T_rolodexref15_Range) (p_b : T_rolodexref15_Range) (p_c : T_rolodexref15_Range) : Option (T_api_Hash × Bool) :=
 Option.bind (rolodexref15_Join p_a p_b) fun r1 =>
 Option.bind (rolodexref15_Join r1.1 p_c) fun r2 =>
 Option.bind (rolodexref15_Root r2.1) fun r3 =>
 Option.bind (if (decide (r1.2 = (0 : Int))) = true then (
 some (decide (r2.2 = (0 : Int)))) else (
 some false)) fun y1 =>
 Option.bind (if (y1) = true then (
 some (decide (r3.2 = (0 : Int)))) else (
 some false)) fun y2 =>
 some (r3.1, y2)
/- rolodex/rolodexref16.IsEntry -/
def rolodexref16_IsEntry (p_t : T_rolodexref16_Trail) (p_i : Int) (p_n : Int) (p_h : T_api_Hash) (p_root : T_api_Hash) : Option Bool :=
 Option.bind (if (decide (p_i < (0 : Int))) = true then (
 some true) else (
 some (decide (p_n ≤ p_i)))) fun y1 =>
 Option.bind (if (y1) = true then (
 some true) else (
 some (decide ((2147483647 : Int) < p_n)))) fun y2 =>
 if (y2) = true then (
 some false) else (
 Option.bind (some ((0, p_i, p_t.1))) fun x1 =>
 Option.bind (some ((p_i, w64 (p_i + (1 : Int)), [p_h]))) fun x2 =>
 Option.bind (some ((w64 (p_i + (1 : Int)), p_n, p_t.2))) fun x3 =>
 Option.bind (rolodexref16_All x1 x2 x3) fun r1 =>
 Option.bind (if (r1.2) = true then (
 some (decide (r1.1 = p_root))) else (
 some false)) fun y3 =>
 some y3)
/- rolodex/trail.IsGrowth -/
def trail_IsGrowth (p_t : T_trail_Trail) (p_m : Int) (p_n : Int) (p_old : T_api_Hash) (p_root : T_api_Hash) : Option Bool :=
 Option.bind (if (decide (p_m < (0 : Int))) = true then (
 some true) else (
 some (decide (p_n < p_m)))) fun y1 =>
 Option.bind (if (y1) = true then (
 some true) else (
 some (decide ((2147483647 : Int) < p_n)))) fun y2 =>
 if (y2) = true then (
 some false) else (
 Option.bind (some ((0, p_m, p_t.1))) fun x1 =>
 Option.bind (some ((p_m, p_n, p_t.2))) fun x2 =>
 Option.bind (trail_rooted p_old ([x1])) fun r1 =>
 Option.bind (if (r1) = true then (
 Option.bind (trail_rooted p_root ([x1, x2])) fun r2 =>
 some r2) else (
 some false)) fun y3 =>
 some y3)
/- rolodex/rolodexref16.IsGrowth -/
def rolodexref16_IsGrowth (p_t : T_rolodexref16_Trail) (p_m : Int) (p_n : Int) (p_old : T_api_Hash) (p_root : T_api_Hash) : Option Bool :=
 Option.bind (if (decide (p_m < (0 : Int))) = true then (
 some true) else (
 some (decide (p_n < p_m)))) fun y1 =>
 Option.bind (if (y1) = true then (
 some true) else (
 some (decide ((2147483647 : Int) < p_n)))) fun y2 =>
 if (y2) = true then (
 some false) else (
 Option.bind (some ((0, p_m, p_t.1))) fun x1 =>
 Option.bind (rolodexref15_Root x1) fun r1 =>
 Option.bind (some ((p_m, p_n, p_t.2))) fun x2 =>
 Option.bind (some ((p_n, p_n, ([] : List T_api_Hash)))) fun x3 =>
 Option.bind (rolodexref16_All x1 x2 x3) fun r2 =>
 Option.bind (if (decide (r1.2 = (0 : Int))) = true then (
 some (decide (r1.1 = p_old))) else (
 some false)) fun y3 =>
 Option.bind (if (y3) = true then (
 some r2.2) else (
 some false)) fun y4 =>
 Option.bind (if (y4) = true then (
 some (decide (r2.1 = p_root))) else (
 some false)) fun y5 =>
 some y5)
/- rolodex/rolodexlaw16.TrailChecks -/
def rolodexlaw16_TrailChecks (p_t : T_rolodexref16_Trail) (p_s : T_rolodexlaw16_Said) : Option Bool :=
 Option.bind (rolodexlaw16_awake) fun r1 =>
 Option.bind (if (!r1) = true then (
 some true) else (
 Option.bind (rolodexlaw16_few p_t) fun r2 =>
 some (!r2))) fun y1 =>
 if (y1) = true then (
 Option.bind (rolodexlaw16_awake) fun r3 =>
 some r3) else (
 Option.bind (trail_IsEntry p_t p_s.1 p_s.2.1 p_s.2.2.1 p_s.2.2.2) fun r4 =>
 Option.bind (rolodexref16_IsEntry p_t p_s.1 p_s.2.1 p_s.2.2.1 p_s.2.2.2) fun r5 =>
 Option.bind (if (!(r4 == r5)) = true then (
 some true) else (
 Option.bind (trail_IsGrowth p_t p_s.1 p_s.2.1 p_s.2.2.1 p_s.2.2.2) fun r6 =>
 Option.bind (rolodexref16_IsGrowth p_t p_s.1 p_s.2.1 p_s.2.2.1 p_s.2.2.2) fun r7 =>
 some (!(r6 == r7)))) fun y2 =>
 if (y2) = true then (
 some false) else (
 Option.bind (if (decide (p_s.1 < (0 : Int))) = true then (
 some true) else (
 some (decide (p_s.2.1 ≤ p_s.1)))) fun y3 =>
 Option.bind (if (y3) = true then (
 some true) else (
 some (decide ((2147483647 : Int) < p_s.2.1)))) fun y4 =>
 if (y4) = true then (
 some true) else (
 Option.bind (some ((0, p_s.1, p_t.1))) fun x1 =>
 Option.bind (some ((p_s.1, w64 (p_s.1 + (1 : Int)), [p_s.2.2.1]))) fun x2 =>
 Option.bind (some ((w64 (p_s.1 + (1 : Int)), p_s.2.1, p_t.2))) fun x3 =>
 Option.bind (rolodexref16_All x1 x2 x3) fun r8 =>
 Option.bind (rolodexref15_Root x1) fun r9 =>
 Option.bind (some ((p_s.1, p_s.2.1, p_t.2))) fun x4 =>
 Option.bind (some ((p_s.2.1, p_s.2.1, ([] : List T_api_Hash)))) fun x5 =>
 Option.bind (rolodexref16_All x1 x4 x5) fun r10 =>
 Option.bind (trail_IsEntry p_t p_s.1 p_s.2.1 p_s.2.2.1 r8.1) fun r11 =>
 Option.bind (rolodexref16_IsEntry p_t p_s.1 p_s.2.1 p_s.2.2.1 r8.1) fun r12 =>
 Option.bind (if (r11 == r12) = true then (
 Option.bind (trail_IsGrowth p_t p_s.1 p_s.2.1 r9.1 r10.1) fun r13 =>
 Option.bind (rolodexref16_IsGrowth p_t p_s.1 p_s.2.1 r9.1 r10.1) fun r14 =>
 some (r13 == r14)) else (
 some false)) fun y5 =>
 some y5)))
/- rolodex/rolodexlaw16.TrailGrowths -/
def rolodexlaw16_TrailGrowths (p_l : List T_api_Hash) (p_t : T_rolodexref16_Trail) (p_s : T_rolodexlaw16_Said) : Option Bool :=
 Option.bind (rolodexlaw16_awake) fun r1 =>
 Option.bind (if (!r1) = true then (
 some true) else (
 some (decide ((40 : Int) < (p_l.length : Int))))) fun y1 =>
 Option.bind (if (y1) = true then (
 some true) else (
 Option.bind (rolodexlaw16_few p_t) fun r2 =>
 some (!r2))) fun y2 =>
 Option.bind (if (y2) = true then (
 some true) else (
 Option.bind (rolodexref15_List p_l) fun r3 =>
 Option.bind (trail_IsGrowth p_t p_s.1 (p_l.length : Int) p_s.2.2.1 r3) fun r4 =>
 some (!r4))) fun y3 =>
 if (y3) = true then (
 Option.bind (rolodexlaw16_awake) fun r5 =>
 some r5) else (
 Option.bind (if (decide (p_s.1 < (0 : Int))) = true then (
 some true) else (
 some (decide ((p_l.length : Int) < p_s.1)))) fun y4 =>
 if (y4) = true then (
 some false) else (
 Option.bind (lslice p_l 0 p_s.1) fun x1 =>
 Option.bind (rolodexref15_List x1) fun r6 =>
 if (decide (r6 = p_s.2.2.1)) = true then (
 some true) else (
 Option.bind (rolodexref16_Texts p_t p_s.1 (p_l.length : Int) ([] : List T_api_Hash)) fun r7 =>
 Option.bind (rolodexref16_Tree p_l) fun r8 =>
 Option.bind (rolodexref12_Clash r7 r8) fun r9 =>
 some r9)))
/- rolodex/trail.of -/
def trail_of (p_l : List T_api_Hash) (p_from : Int) (p_to : Int) : Option (List T_api_Hash) :=
 Option.bind (lslice p_l p_from p_to) fun x1 =>
 Option.bind (frontier_Of p_from x1) fun r1 =>
 some r1.1.2.2
/- rolodex/trail.Entry -/
def trail_Entry (p_l : List T_api_Hash) (p_i : Int) : Option (T_trail_Trail × Int) :=
 Option.bind (if (decide (p_i < (0 : Int))) = true then (
 some true) else (
 some (decide ((p_l.length : Int) ≤ p_i)))) fun y1 =>
 if (y1) = true then (
 Option.bind (some ((([] : List T_api_Hash), ([] : List T_api_Hash)))) fun x1 =>
 some (x1, (4 : Int))) else (
 Option.bind (trail_of p_l (0 : Int) p_i) fun r1 =>
 Option.bind (trail_of p_l (w64 (p_i + (1 : Int))) (p_l.length : Int)) fun r2 =>
 Option.bind (some ((r1, r2))) fun x2 =>
 some (x2, (0 : Int)))
/- rolodex/rolodexref16.Entry -/
def rolodexref16_Entry (p_l : List T_api_Hash) (p_i : Int) : Option (T_rolodexref16_Trail × Int) :=
 Option.bind (if (decide (p_i < (0 : Int))) = true then (
 some true) else (
 some (decide ((p_l.length : Int) ≤ p_i)))) fun y1 =>
 if (y1) = true then (
 Option.bind (some ((([] : List T_api_Hash), ([] : List T_api_Hash)))) fun x1 =>
 some (x1, (4 : Int))) else (
 Option.bind (lslice p_l 0 p_i) fun x2 =>
 Option.bind (rolodexref15_Of (0 : Int) x2) fun r1 =>
 Option.bind (lslice p_l (w64 (p_i + (1 : Int))) (p_l.length : Int)) fun x3 =>
 Option.bind (rolodexref15_Of (w64 (p_i + (1 : Int))) x3) fun r2 =>
 Option.bind (some ((r1.1.2.2, r2.1.2.2))) fun x4 =>
 some (x4, (0 : Int)))
/- rolodex/trail.Growth -/
def trail_Growth (p_l : List T_api_Hash) (p_m : Int) : Option (T_trail_Trail × Int) :=
 Option.bind (if (decide (p_m < (0 : Int))) = true then (
 some true) else (
 some (decide ((p_l.length : Int) < p_m)))) fun y1 =>
 if (y1) = true then (
 Option.bind (some ((([] : List T_api_Hash), ([] : List T_api_Hash)))) fun x1 =>
 some (x1, (4 : Int))) else (
 Option.bind (trail_of p_l (0 : Int) p_m) fun r1 =>
 Option.bind (trail_of p_l p_m (p_l.length : Int)) fun r2 =>
 Option.bind (some ((r1, r2))) fun x2 =>
 some (x2, (0 : Int)))
/- rolodex/rolodexref16.Growth -/
def rolodexref16_Growth (p_l : List T_api_Hash) (p_m : Int) : Option (T_rolodexref16_Trail × Int) :=
 Option.bind (if (decide (p_m < (0 : Int))) = true then (
 some true) else (
 some (decide ((p_l.length : Int) < p_m)))) fun y1 =>
 if (y1) = true then (
 Option.bind (some ((([] : List T_api_Hash), ([] : List T_api_Hash)))) fun x1 =>
 some (x1, (4 : Int))) else (
 Option.bind (lslice p_l 0 p_m) fun x2 =>
 Option.bind (rolodexref15_Of (0 : Int) x2) fun r1 =>
 Option.bind (lslice p_l p_m (p_l.length : Int)) fun x3 =>
 Option.bind (rolodexref15_Of p_m x3) fun r2 =>
 Option.bind (some ((r1.1.2.2, r2.1.2.2))) fun x4 =>
 some (x4, (0 : Int)))
/- rolodex/rolodexref16.Same -/
def rolodexref16_Same (p_a : T_rolodexref16_Trail) (p_b : T_rolodexref16_Trail) : Option Bool :=
 Option.bind (rolodexref15_Same p_a.1 p_b.1) fun r1 =>
 Option.bind (if (r1) = true then (
 Option.bind (rolodexref15_Same p_a.2 p_b.2) fun r2 =>
 some r2) else (
 some false)) fun y1 =>
 some y1
/- rolodex/rolodexlaw16.TrailTells -/
def rolodexlaw16_TrailTells (p_l : List T_api_Hash) (p_i : Int) : Option Bool :=
 Option.bind (rolodexlaw16_awake) fun r1 =>
 Option.bind (if (!r1) = true then (
 some true) else (
 some (decide ((50 : Int) < (p_l.length : Int))))) fun y1 =>
 if (y1) = true then (
 Option.bind (rolodexlaw16_awake) fun r2 =>
 some r2) else (
 Option.bind (trail_Entry p_l p_i) fun r3 =>
 Option.bind (rolodexref16_Entry p_l p_i) fun r4 =>
 Option.bind (trail_Growth p_l p_i) fun r5 =>
 Option.bind (rolodexref16_Growth p_l p_i) fun r6 =>
 Option.bind (if (decide (r3.2 = r4.2)) = true then (
 some (decide (r5.2 = r6.2))) else (
 some false)) fun y2 =>
 Option.bind (if (y2) = true then (
 Option.bind (rolodexref16_Same r3.1 r4.1) fun r7 =>
 some r7) else (
 some false)) fun y3 =>
 Option.bind (if (y3) = true then (
 Option.bind (rolodexref16_Same r5.1 r6.1) fun r8 =>
 some r8) else (
 some false)) fun y4 =>
 some y4)
/- rolodex/rolodexlaw16.TrailOther -/
def rolodexlaw16_TrailOther (p_l : List T_api_Hash) (p_m : BitVec 8) (p_x : T_api_Hash) : Option Bool :=
 Option.bind (rolodexlaw16_awake) fun r1 =>
 Option.bind (if (!r1) = true then (
 some true) else (
 some (decide ((50 : Int) < (p_l.length : Int))))) fun y1 =>
 Option.bind (if (y1) = true then (
 some true) else (
 some (decide ((p_l.length : Int) < (2 : Int))))) fun y2 =>
 if (y2) = true then (
 Option.bind (rolodexlaw16_awake) fun r2 =>
 some r2) else (
 if (p_l.length : Int) ≠ 0 then (
 Option.bind (some (Int.tmod (p_m.toNat : Int) (p_l.length : Int))) fun x1 =>
 Option.bind (rolodexref15_List p_l) fun r3 =>
 Option.bind (trail_Entry p_l x1) fun r4 =>
 if ([] : List T_api_Hash).length + r4.1.1.length ≤ AP then (
 if (([] : List T_api_Hash) ++ r4.1.1).length + ([p_x]).length ≤ AP then (
 Option.bind (some ((((([] : List T_api_Hash) ++ r4.1.1) ++ ([p_x])), r4.1.2))) fun x2 =>
 if ([] : List T_api_Hash).length + r4.1.2.length ≤ AP then (
 if (([] : List T_api_Hash) ++ r4.1.2).length + ([p_x]).length ≤ AP then (
 Option.bind (some ((r4.1.1, ((([] : List T_api_Hash) ++ r4.1.2) ++ ([p_x]))))) fun x3 =>
 Option.bind (some ((r4.1.2, r4.1.1))) fun x4 =>
 Option.bind (some (decide ((r4.1.1.length : Int) = (r4.1.2.length : Int)))) fun x5 =>
 Option.bind (lget p_l x1) fun x6 =>
 Option.bind (trail_IsEntry x2 x1 (p_l.length : Int) x6 r3) fun r5 =>
 Option.bind (if (!r5) = true then (
 Option.bind (lget p_l x1) fun x7 =>
 Option.bind (trail_IsEntry x3 x1 (p_l.length : Int) x7 r3) fun r6 =>
 some (!r6)) else (
 some false)) fun y3 =>
 Option.bind (if (y3) = true then (
 Option.bind (lget p_l x1) fun x8 =>
 Option.bind (trail_IsEntry r4.1 (p_l.length : Int) (p_l.length : Int) x8 r3) fun r7 =>
 some (!r7)) else (
 some false)) fun y4 =>
 Option.bind (if (y4) = true then (
 Option.bind (lget p_l x1) fun x9 =>
 Option.bind (trail_IsEntry r4.1 (-1 : Int) (p_l.length : Int) x9 r3) fun r8 =>
 some (!r8)) else (
 some false)) fun y5 =>
 Option.bind (if (y5) = true then (
 Option.bind (trail_IsGrowth r4.1 (w64 ((p_l.length : Int) + (1 : Int))) (p_l.length : Int) r3 r3) fun r9 =>
 some (!r9)) else (
 some false)) fun y6 =>
 Option.bind (if (y6) = true then (
 Option.bind (if (x5) = true then (
 some true) else (
 Option.bind (lget p_l x1) fun x10 =>
 Option.bind (trail_IsEntry x4 x1 (p_l.length : Int) x10 r3) fun r10 =>
 some (!r10))) fun y8 =>
 some y8) else (
 some false)) fun y7 =>
 some y7) else none) else none) else none) else none) else none)
/- rolodex/rolodexlaw16.TrailRight -/
def rolodexlaw16_TrailRight (p_l : List T_api_Hash) (p_m : BitVec 8) : Option Bool :=
 Option.bind (rolodexlaw16_awake) fun r1 =>
 Option.bind (if (!r1) = true then (
 some true) else (
 some (decide ((50 : Int) < (p_l.length : Int))))) fun y1 =>
 Option.bind (if (y1) = true then (
 some true) else (
 some (decide ((p_l.length : Int) = (0 : Int))))) fun y2 =>
 if (y2) = true then (
 Option.bind (rolodexlaw16_awake) fun r2 =>
 some r2) else (
 if (p_l.length : Int) ≠ 0 then (
 Option.bind (some (Int.tmod (p_m.toNat : Int) (p_l.length : Int))) fun x1 =>
 Option.bind (rolodexref15_List p_l) fun r3 =>
 Option.bind (trail_Entry p_l x1) fun r4 =>
 Option.bind (trail_Growth p_l (w64 (x1 + (1 : Int)))) fun r5 =>
 Option.bind (trail_Growth p_l (0 : Int)) fun r6 =>
 Option.bind (if (decide (r4.2 = (0 : Int))) = true then (
 some (decide (r5.2 = (0 : Int)))) else (
 some false)) fun y3 =>
 Option.bind (if (y3) = true then (
 some (decide (r6.2 = (0 : Int)))) else (
 some false)) fun y4 =>
 Option.bind (if (y4) = true then (
 Option.bind (lget p_l x1) fun x2 =>
 Option.bind (trail_IsEntry r4.1 x1 (p_l.length : Int) x2 r3) fun r7 =>
 some r7) else (
 some false)) fun y5 =>
 Option.bind (if (y5) = true then (
 Option.bind (lslice p_l 0 (w64 (x1 + (1 : Int)))) fun x3 =>
 Option.bind (rolodexref15_List x3) fun r8 =>
 Option.bind (trail_IsGrowth r5.1 (w64 (x1 + (1 : Int))) (p_l.length : Int) r8 r3) fun r9 =>
 some r9) else (
 some false)) fun y6 =>
 Option.bind (if (y6) = true then (
 Option.bind (rolodexref15_List ([] : List T_api_Hash)) fun r10 =>
 Option.bind (trail_IsGrowth r6.1 (0 : Int) (p_l.length : Int) r10 r3) fun r11 =>
 some r11) else (
 some false)) fun y7 =>
 some y7) else none)
end M
end Go.Sl
