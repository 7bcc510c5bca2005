import Derived.Test.YtheldkljmefbaaaGreatDoorG1
import Derived.Test.YtheldkljmefbaaaGreatDoorG2
set_option linter.unusedVariables false
set_option maxRecDepth 100000
namespace Go.Sl
namespace M
abbrev T_lmots_form : Type := Int × Int × Int
abbrev T_hash_state : Type := Vector (BitVec 32) 8
abbrev T_api_Hash : Type := Vector (BitVec 8) 32
abbrev T_api_ID : Type := Vector (BitVec 8) 16
abbrev T_lms_Tree : Type := Int × Int × T_api_ID × T_api_Hash × (List T_api_Hash)
abbrev T_hss_Signer : Type := Int × Int × T_api_Hash × (Option T_lms_Tree) × (Option T_lms_Tree) × Int
abbrev T_head_Head : Type := Int × Int × T_api_Hash × T_api_Hash
abbrev T_head_Signed : Type := T_head_Head × (List (BitVec 8))
abbrev T_rolodexref17_Head : Type := Int × Int × T_api_Hash × T_api_Hash
abbrev T_wire_Reader : Type := (List (BitVec 8)) × Bool
abbrev T_lms_signature : Type := Int × (List (BitVec 8)) × (List T_api_Hash)
abbrev T_gossip_Fork : Type := T_head_Signed × T_head_Signed
abbrev T_gossip_link : Type := Int × Int
abbrev T_gossip_Pool : Type := (List (BitVec 8)) × (List T_head_Signed) × (List T_gossip_Fork) × (List T_gossip_link)
abbrev T_trail_Trail : Type := (List T_api_Hash) × (List T_api_Hash)
def G_lmots_forms : Vector T_lmots_form 5 := #v[(0, 0, 0), (1, 265, 7), (2, 133, 6), (4, 67, 4), (8, 34, 0)]
def G_hash_begin : T_hash_state := #v[1779033703#32, 3144134277#32, 1013904242#32, 2773480762#32, 1359893119#32, 2600822924#32, 528734635#32, 1541459225#32]
def G_hash_rounds : Vector (BitVec 32) 64 := #v[1116352408#32, 1899447441#32, 3049323471#32, 3921009573#32, 961987163#32, 1508970993#32, 2453635748#32, 2870763221#32, 3624381080#32, 310598401#32, 607225278#32, 1426881987#32, 1925078388#32, 2162078206#32, 2614888103#32, 3248222580#32, 3835390401#32, 4022224774#32, 264347078#32, 604807628#32, 770255983#32, 1249150122#32, 1555081692#32, 1996064986#32, 2554220882#32, 2821834349#32, 2952996808#32, 3210313671#32, 3336571891#32, 3584528711#32, 113926993#32, 338241895#32, 666307205#32, 773529912#32, 1294757372#32, 1396182291#32, 1695183700#32, 1986661051#32, 2177026350#32, 2456956037#32, 2730485921#32, 2820302411#32, 3259730800#32, 3345764771#32, 3516065817#32, 3600352804#32, 4094571909#32, 275423344#32, 430227734#32, 506948616#32, 659060556#32, 883997877#32, 958139571#32, 1322822218#32, 1537002063#32, 1747873779#32, 1955562222#32, 2024104815#32, 2227730452#32, 2361852424#32, 2428436474#32, 2756734187#32, 3204031479#32, 3329325298#32]
def G_math_bits_deBruijn32tab : Vector (BitVec 8) 32 := #v[0#8, 1#8, 28#8, 2#8, 29#8, 14#8, 24#8, 3#8, 30#8, 22#8, 20#8, 15#8, 25#8, 17#8, 4#8, 8#8, 31#8, 27#8, 13#8, 23#8, 21#8, 19#8, 16#8, 7#8, 26#8, 12#8, 18#8, 6#8, 11#8, 5#8, 10#8, 9#8]
def G_math_bits_deBruijn64tab : Vector (BitVec 8) 64 := #v[0#8, 1#8, 56#8, 2#8, 57#8, 49#8, 28#8, 3#8, 61#8, 58#8, 42#8, 50#8, 38#8, 29#8, 17#8, 4#8, 62#8, 47#8, 59#8, 36#8, 45#8, 43#8, 51#8, 22#8, 53#8, 39#8, 33#8, 30#8, 24#8, 18#8, 12#8, 5#8, 63#8, 55#8, 48#8, 27#8, 60#8, 41#8, 37#8, 16#8, 46#8, 35#8, 44#8, 21#8, 52#8, 32#8, 23#8, 11#8, 54#8, 26#8, 40#8, 15#8, 34#8, 20#8, 31#8, 10#8, 25#8, 14#8, 19#8, 9#8, 13#8, 8#8, 7#8, 6#8]
/- rolodex/lmots.of -/
def lmots_of (p_kind : Int) : Option (T_lmots_form × Bool) :=
 Option.bind (if (decide (p_kind < (1 : Int))) = true then (
 some true) else (
 some (decide ((4 : Int) < p_kind)))) fun y1 =>
 if (y1) = true then (
 some ((0, 0, 0), false)) else (
 Option.bind (vget G_lmots_forms p_kind) fun x1 =>
 some (x1, true))
/- rolodex/lmots.Chains -/
def lmots_Chains (p_kind : Int) : Option Int :=
 Option.bind (lmots_of p_kind) fun r1 =>
 some r1.1.2.1
/- rolodex/lms.may -/
def lms_may (p_height : Int) (p_kind : Int) : Option Bool :=
 Option.bind (if (decide ((1 : Int) ≤ p_height)) = true then (
 some (decide (p_height ≤ (4 : Int)))) else (
 some false)) fun y1 =>
 Option.bind (if (y1) = true then (
 Option.bind (lmots_Chains p_kind) fun r1 =>
 some (decide ((0 : Int) < r1))) else (
 some false)) fun y2 =>
 some y2
/- rolodex/lmots.Size -/
def lmots_Size (p_kind : Int) : Option Int :=
 Option.bind (lmots_of p_kind) fun r1 =>
 if (!r1.2) = true then (
 some (0 : Int)) else (
 Option.bind (some (w64 ((4 : Int) + (w64 ((32 : Int) * (w64 ((1 : Int) + r1.1.2.1))))))) fun x1 =>
 some x1)
/- rolodex/lms.Size -/
def lms_Size (p_height : Int) (p_kind : Int) : Option Int :=
 Option.bind (lms_may p_height p_kind) fun r1 =>
 if (!r1) = true then (
 some (0 : Int)) else (
 Option.bind (lmots_Size p_kind) fun r2 =>
 Option.bind (some (w64 ((w64 ((8 : Int) + r2)) + (w64 ((32 : Int) * p_height))))) fun x1 =>
 some x1)
/- math/bits.RotateLeft32 -/
def math_bits_RotateLeft32 (p_x : BitVec 32) (p_k : Int) : Option (BitVec 32) :=
 Option.bind (some ((p_x <<< (((BitVec.ofInt 64 p_k) &&& (31#64)).toNat)) ||| (p_x >>> (((32#64) - ((BitVec.ofInt 64 p_k) &&& (31#64))).toNat)))) fun x1 =>
 some x1
/- rolodex/hash.schedule -/
def hash_schedule_L1 (x1 : List (BitVec 8)) (y1 : Int) (y2 : Vector (BitVec 32) 64) : Option (LR (Int × (Vector (BitVec 32) 64)) Empty) :=
 if (decide (y1 < (x1.length : Int))) = true then (
 Option.bind (lget x1 y1) fun x2 =>
 Option.bind (vget y2 (w64 (Int.tdiv y1 (4 : Int)))) fun x3 =>
 if 0 ≤ w64 (Int.tdiv y1 (4 : Int)) ∧ w64 (Int.tdiv y1 (4 : Int)) < (64 : Int) then (
 Option.bind (some ((y2.setIfInBounds ((w64 (Int.tdiv y1 (4 : Int))).toNat) ((x3 <<< 8) ||| (x2.setWidth 32))))) fun x4 =>
 some (.next (w64 (y1 + (1 : Int)), x4))) else none) else (
 some (.brk (y1, y2)))
def hash_schedule_L2 (y5 : Int) (y6 : Vector (BitVec 32) 64) : Option (LR (Int × (Vector (BitVec 32) 64)) Empty) :=
 if (decide (y5 < (64 : Int))) = true then (
 Option.bind (vget y6 (w64 (y5 - (15 : Int)))) fun x5 =>
 Option.bind (math_bits_RotateLeft32 x5 (-7 : Int)) fun r1 =>
 Option.bind (vget y6 (w64 (y5 - (15 : Int)))) fun x6 =>
 Option.bind (math_bits_RotateLeft32 x6 (-18 : Int)) fun r2 =>
 Option.bind (vget y6 (w64 (y5 - (15 : Int)))) fun x7 =>
 Option.bind (vget y6 (w64 (y5 - (2 : Int)))) fun x8 =>
 Option.bind (math_bits_RotateLeft32 x8 (-17 : Int)) fun r3 =>
 Option.bind (vget y6 (w64 (y5 - (2 : Int)))) fun x9 =>
 Option.bind (math_bits_RotateLeft32 x9 (-19 : Int)) fun r4 =>
 Option.bind (vget y6 (w64 (y5 - (2 : Int)))) fun x10 =>
 Option.bind (vget y6 (w64 (y5 - (16 : Int)))) fun x11 =>
 Option.bind (vget y6 (w64 (y5 - (7 : Int)))) fun x12 =>
 if 0 ≤ y5 ∧ y5 < (64 : Int) then (
 Option.bind (some ((y6.setIfInBounds y5.toNat (((x11 + ((r1 ^^^ r2) ^^^ (x7 >>> 3))) + x12) + ((r3 ^^^ r4) ^^^ (x10 >>> 10)))))) fun x13 =>
 some (.next (w64 (y5 + (1 : Int)), x13))) else none) else (
 some (.brk (y5, y6)))
def hash_schedule (p_block : List (BitVec 8)) : Option (Vector (BitVec 32) 64) :=
 Option.bind (lslice p_block 0 (64 : Int)) fun x1 =>
 Option.bind (loopS (fun (s : Int × (Vector (BitVec 32) 64)) => hash_schedule_L1 x1 s.1 s.2) FU ((0 : Int), (Vector.replicate 64 (0#32)))) fun (s2 : Int × (Vector (BitVec 32) 64)) =>
 Option.bind (loopS (fun (s : Int × (Vector (BitVec 32) 64)) => hash_schedule_L2 s.1 s.2) FU ((16 : Int), s2.2)) fun (s1 : Int × (Vector (BitVec 32) 64)) =>
 some s1.2
/- (rolodex/hash.state).block -/
def hash_state_block_L1 (r1 : (Vector (BitVec 32) 64)) (y1 : Int) (y2 : T_hash_state) : Option (LR (Int × T_hash_state) Empty) :=
 if (decide (y1 < (64 : Int))) = true then (
 Option.bind (math_bits_RotateLeft32 (y2[4]) (-6 : Int)) fun r2 =>
 Option.bind (math_bits_RotateLeft32 (y2[4]) (-11 : Int)) fun r3 =>
 Option.bind (math_bits_RotateLeft32 (y2[4]) (-25 : Int)) fun r4 =>
 Option.bind (vget G_hash_rounds y1) fun x1 =>
 Option.bind (vget r1 y1) fun x2 =>
 Option.bind (some (((((y2[7]) + ((r2 ^^^ r3) ^^^ r4)) + ((y2[6]) ^^^ ((y2[4]) &&& ((y2[5]) ^^^ (y2[6]))))) + x1) + x2)) fun x3 =>
 Option.bind (math_bits_RotateLeft32 (y2[0]) (-2 : Int)) fun r5 =>
 Option.bind (math_bits_RotateLeft32 (y2[0]) (-13 : Int)) fun r6 =>
 Option.bind (math_bits_RotateLeft32 (y2[0]) (-22 : Int)) fun r7 =>
 Option.bind (some (((r5 ^^^ r6) ^^^ r7) + (((y2[0]) &&& (y2[1])) ||| ((y2[2]) &&& ((y2[0]) ||| (y2[1])))))) fun x4 =>
 Option.bind (some (#v[x3 + x4, y2[0], y2[1], y2[2], (y2[3]) + x3, y2[4], y2[5], y2[6]])) fun x5 =>
 some (.next (w64 (y1 + (1 : Int)), x5))) else (
 some (.brk (y1, y2)))
def hash_state_block_L2 (y4 : T_hash_state) (y5 : Int) (y6 : T_hash_state) : Option (LR (Int × T_hash_state) Empty) :=
 if (decide (y5 < (8 : Int))) = true then (
 Option.bind (vget y6 y5) fun x6 =>
 Option.bind (vget y4 y5) fun x7 =>
 if 0 ≤ y5 ∧ y5 < (8 : Int) then (
 some (.next (w64 (y5 + (1 : Int)), (y6.setIfInBounds y5.toNat (x6 + x7))))) else none) else (
 some (.brk (y5, y6)))
def hash_state_block (p_s : T_hash_state) (p_b : List (BitVec 8)) : Option T_hash_state :=
 Option.bind (hash_schedule p_b) fun r1 =>
 Option.bind (loopS (fun (s : Int × T_hash_state) => hash_state_block_L1 r1 s.1 s.2) FU ((0 : Int), p_s)) fun (s2 : Int × T_hash_state) =>
 Option.bind (loopS (fun (s : Int × T_hash_state) => hash_state_block_L2 s2.2 s.1 s.2) FU ((0 : Int), p_s)) fun (s1 : Int × T_hash_state) =>
 some s1.2
/- rolodex/hash.Sum -/
def hash_Sum_L1 (y1 : List (BitVec 8)) (y2 : T_hash_state) : Option (LR ((List (BitVec 8)) × T_hash_state) Empty) :=
 if (decide ((64 : Int) ≤ (y1.length : Int))) = true then (
 Option.bind (hash_state_block y2 y1) fun r1 =>
 Option.bind (lslice y1 (64 : Int) (y1.length : Int)) fun x1 =>
 some (.next (x1, r1))) else (
 some (.brk (y1, y2)))
def hash_Sum_L2 (y5 : Int) (p_b : List (BitVec 8)) (y6 : Int) (y7 : Vector (BitVec 8) 128) : Option (LR (Int × (Vector (BitVec 8) 128)) Empty) :=
 if (decide (y6 < (8 : Int))) = true then (
 if 0 ≤ w64 ((8 : Int) * y6) then (
 if 0 ≤ w64 ((w64 (y5 - (1 : Int))) - y6) ∧ w64 ((w64 (y5 - (1 : Int))) - y6) < (128 : Int) then (
 Option.bind (some ((y7.setIfInBounds ((w64 ((w64 (y5 - (1 : Int))) - y6)).toNat) ((((BitVec.ofInt 64 (p_b.length : Int)) <<< 3) >>> ((w64 ((8 : Int) * y6)).toNat)).setWidth 8)))) fun x3 =>
 some (.next (w64 (y6 + (1 : Int)), x3))) else none) else none) else (
 some (.brk (y6, y7)))
def hash_Sum_L3 (y10 : T_hash_state) (y11 : Int) (y12 : T_api_Hash) : Option (LR (Int × T_api_Hash) Empty) :=
 if (decide (y11 < (32 : Int))) = true then (
 Option.bind (vget y10 (w64 (Int.tdiv y11 (4 : Int)))) fun x4 =>
 if 0 ≤ w64 ((24 : Int) - (w64 ((8 : Int) * (Int.tmod y11 (4 : Int))))) then (
 if 0 ≤ y11 ∧ y11 < (32 : Int) then (
 Option.bind (some ((y12.setIfInBounds y11.toNat ((x4 >>> ((w64 ((24 : Int) - (w64 ((8 : Int) * (Int.tmod y11 (4 : Int)))))).toNat)).setWidth 8)))) fun x5 =>
 some (.next (w64 (y11 + (1 : Int)), x5))) else none) else none) else (
 some (.brk (y11, y12)))
def hash_Sum (p_b : List (BitVec 8)) : Option T_api_Hash :=
 Option.bind (loopS (fun (s : (List (BitVec 8)) × T_hash_state) => hash_Sum_L1 s.1 s.2) FU (p_b, G_hash_begin)) fun (s3 : (List (BitVec 8)) × T_hash_state) =>
 Option.bind (if (decide ((56 : Int) ≤ (s3.1.length : Int))) = true then (
 some (128 : Int)) else (
 some (64 : Int))) fun y5 =>
 if 0 ≤ (s3.1.length : Int) ∧ (s3.1.length : Int) < (128 : Int) then (
 Option.bind (some (((vput (Vector.replicate 128 (0#8)) 0 (s3.1.take 128)).setIfInBounds ((s3.1.length : Int).toNat) (128#8)))) fun x2 =>
 Option.bind (loopS (fun (s : Int × (Vector (BitVec 8) 128)) => hash_Sum_L2 y5 p_b s.1 s.2) FU ((0 : Int), x2)) fun (s2 : Int × (Vector (BitVec 8) 128)) =>
 Option.bind (hash_state_block s3.2 s2.2.toList) fun r2 =>
 Option.bind (if (decide (y5 = (128 : Int))) = true then (
 Option.bind (hash_state_block r2 ((s2.2.toList.drop 64).take 64)) fun r3 =>
 some r3) else (
 some r2)) fun y10 =>
 Option.bind (loopS (fun (s : Int × T_api_Hash) => hash_Sum_L3 y10 s.1 s.2) FU ((0 : Int), (Vector.replicate 32 (0#8)))) fun (s1 : Int × T_api_Hash) =>
 some s1.2) else none
/- rolodex/hash.Text -/
def hash_Text_L1 (p_parts : List (List (BitVec 8))) (y1 : Int) (y2 : Int) : Option (LR (Int × Int) Empty) :=
 if (decide (y2 < (p_parts.length : Int))) = true then (
 Option.bind (lget p_parts y2) fun x1 =>
 Option.bind (some (w64 (y1 + (w64 ((4 : Int) + (x1.length : Int)))))) fun x2 =>
 some (.next (x2, w64 (y2 + (1 : Int))))) else (
 some (.brk (y1, y2)))
def hash_Text_L2 (p_parts : List (List (BitVec 8))) (y5 : Int) (y6 : List (BitVec 8)) : Option (LR (Int × (List (BitVec 8))) Empty) :=
 if (decide (y5 < (p_parts.length : Int))) = true then (
 Option.bind (lget p_parts y5) fun x3 =>
 if y6.length + ([((BitVec.ofInt 32 (x3.length : Int)) >>> 24).setWidth 8, ((BitVec.ofInt 32 (x3.length : Int)) >>> 16).setWidth 8, ((BitVec.ofInt 32 (x3.length : Int)) >>> 8).setWidth 8, (BitVec.ofInt 32 (x3.length : Int)).setWidth 8]).length ≤ AP then (
 if (y6 ++ ([((BitVec.ofInt 32 (x3.length : Int)) >>> 24).setWidth 8, ((BitVec.ofInt 32 (x3.length : Int)) >>> 16).setWidth 8, ((BitVec.ofInt 32 (x3.length : Int)) >>> 8).setWidth 8, (BitVec.ofInt 32 (x3.length : Int)).setWidth 8])).length + x3.length ≤ AP then (
 some (.next (w64 (y5 + (1 : Int)), ((y6 ++ ([((BitVec.ofInt 32 (x3.length : Int)) >>> 24).setWidth 8, ((BitVec.ofInt 32 (x3.length : Int)) >>> 16).setWidth 8, ((BitVec.ofInt 32 (x3.length : Int)) >>> 8).setWidth 8, (BitVec.ofInt 32 (x3.length : Int)).setWidth 8])) ++ x3)))) else none) else none) else (
 some (.brk (y5, y6)))
def hash_Text (p_tag : BitVec 8) (p_parts : List (List (BitVec 8))) : Option (List (BitVec 8)) :=
 Option.bind (loopS (fun (s : Int × Int) => hash_Text_L1 p_parts s.1 s.2) FU ((1 : Int), (0 : Int))) fun (s2 : Int × Int) =>
 if 0 ≤ s2.1 ∧ s2.1 ≤ (4294967296 : Int) then (
 if ([] : List (BitVec 8)).length + ([p_tag]).length ≤ AP then (
 Option.bind (loopS (fun (s : Int × (List (BitVec 8))) => hash_Text_L2 p_parts s.1 s.2) FU ((0 : Int), (([] : List (BitVec 8)) ++ ([p_tag])))) fun (s1 : Int × (List (BitVec 8))) =>
 some s1.2) else none) else none
/- rolodex/hash.Tagged -/
def hash_Tagged (p_tag : BitVec 8) (p_parts : List (List (BitVec 8))) : Option T_api_Hash :=
 Option.bind (hash_Text p_tag p_parts) fun r1 =>
 Option.bind (hash_Sum r1) fun r2 =>
 some r2
/- rolodex/hss.child -/
def hss_child (p_seed : T_api_Hash) (p_number : List (BitVec 8)) : Option (T_api_ID × T_api_Hash) :=
 Option.bind (if (decide ((0 : Int) < (p_number.length : Int))) = true then (
 if ([p_seed.toList]).length + ([p_number]).length ≤ AP then (
 some (([p_seed.toList]) ++ ([p_number]))) else none) else (
 some ([p_seed.toList]))) fun y1 =>
 Option.bind (hash_Tagged (105#8) y1) fun r1 =>
 Option.bind (lslice r1.toList 0 (16 : Int)) fun x1 =>
 Option.bind (toVecO 16 x1) fun x2 =>
 Option.bind (hash_Tagged (115#8) y1) fun r2 =>
 some (x2, r2)
/- rolodex/lmots.under -/
def lmots_under_L1 (p_parts : List (List (BitVec 8))) (y1 : Int) (y2 : List (BitVec 8)) : Option (LR (Int × (List (BitVec 8))) Empty) :=
 if (decide (y1 < (p_parts.length : Int))) = true then (
 Option.bind (lget p_parts y1) fun x1 =>
 if y2.length + x1.length ≤ AP then (
 some (.next (w64 (y1 + (1 : Int)), (y2 ++ x1)))) else none) else (
 some (.brk (y1, y2)))
def lmots_under (p_id : T_api_ID) (p_q : BitVec 32) (p_i : Int) (p_parts : List (List (BitVec 8))) : Option T_api_Hash :=
 if 0 ≤ (64 : Int) ∧ (64 : Int) ≤ (4294967296 : Int) then (
 if ([] : List (BitVec 8)).length + p_id.toList.length ≤ AP then (
 if (([] : List (BitVec 8)) ++ p_id.toList).length + ([(p_q >>> 24).setWidth 8, (p_q >>> 16).setWidth 8, (p_q >>> 8).setWidth 8, p_q.setWidth 8, BitVec.ofInt 8 (ishr p_i (8 : Int)), BitVec.ofInt 8 p_i]).length ≤ AP then (
 Option.bind (loopS (fun (s : Int × (List (BitVec 8))) => lmots_under_L1 p_parts s.1 s.2) FU ((0 : Int), ((([] : List (BitVec 8)) ++ p_id.toList) ++ ([(p_q >>> 24).setWidth 8, (p_q >>> 16).setWidth 8, (p_q >>> 8).setWidth 8, p_q.setWidth 8, BitVec.ofInt 8 (ishr p_i (8 : Int)), BitVec.ofInt 8 p_i])))) fun (s1 : Int × (List (BitVec 8))) =>
 Option.bind (hash_Sum s1.2) fun r1 =>
 some r1) else none) else none) else none
/- rolodex/lmots.chain -/
def lmots_chain_L1 (p_to : Int) (p_id : T_api_ID) (p_q : BitVec 32) (p_i : Int) (y1 : Int) (y2 : T_api_Hash) : Option (LR (Int × T_api_Hash) Empty) :=
 if (decide (y1 < p_to)) = true then (
 Option.bind (lmots_under p_id p_q p_i ([[BitVec.ofInt 8 y1], y2.toList])) fun r1 =>
 some (.next (w64 (y1 + (1 : Int)), r1))) else (
 some (.brk (y1, y2)))
def lmots_chain (p_id : T_api_ID) (p_q : BitVec 32) (p_i : Int) (p_h : T_api_Hash) (p_from : Int) (p_to : Int) : Option T_api_Hash :=
 Option.bind (loopS (fun (s : Int × T_api_Hash) => lmots_chain_L1 p_to p_id p_q p_i s.1 s.2) FU (p_from, p_h)) fun (s1 : Int × T_api_Hash) =>
 some s1.2
/- rolodex/lmots.secret -/
def lmots_secret (p_id : T_api_ID) (p_q : BitVec 32) (p_i : Int) (p_seed : T_api_Hash) : Option T_api_Hash :=
 Option.bind (lmots_under p_id p_q p_i ([[255#8], p_seed.toList])) fun r1 =>
 some r1
/- (rolodex/lmots.form).most -/
def lmots_form_most (p_f : T_lmots_form) : Option Int :=
 if 0 ≤ p_f.1 then (
 some (w64 ((ishl (1 : Int) p_f.1) - (1 : Int)))) else none
/- rolodex/lmots.folded -/
def lmots_folded_L1 (p_ends : List T_api_Hash) (y1 : Int) (y2 : List (BitVec 8)) : Option (LR (Int × (List (BitVec 8))) Empty) :=
 if (decide (y1 < (p_ends.length : Int))) = true then (
 Option.bind (lget p_ends y1) fun x1 =>
 if y2.length + x1.toList.length ≤ AP then (
 some (.next (w64 (y1 + (1 : Int)), (y2 ++ x1.toList)))) else none) else (
 some (.brk (y1, y2)))
def lmots_folded (p_id : T_api_ID) (p_q : BitVec 32) (p_ends : List T_api_Hash) : Option T_api_Hash :=
 if 0 ≤ w64 ((32 : Int) * (p_ends.length : Int)) ∧ w64 ((32 : Int) * (p_ends.length : Int)) ≤ (4294967296 : Int) then (
 Option.bind (loopS (fun (s : Int × (List (BitVec 8))) => lmots_folded_L1 p_ends s.1 s.2) FU ((0 : Int), ([] : List (BitVec 8)))) fun (s1 : Int × (List (BitVec 8))) =>
 Option.bind (lmots_under p_id p_q (32896 : Int) ([s1.2])) fun r1 =>
 some r1) else none
/- rolodex/lmots.Public -/
def lmots_Public_L1 (x1 : List T_api_Hash) (p_id : T_api_ID) (p_q : BitVec 32) (p_seed : T_api_Hash) (r1 : T_lmots_form × Bool) (y1 : Int) (y2 : List T_api_Hash) : Option (LR (Int × (List T_api_Hash)) Empty) :=
 if (decide (y1 < (x1.length : Int))) = true then (
 Option.bind (lmots_secret p_id p_q y1 p_seed) fun r2 =>
 Option.bind (lmots_form_most r1.1) fun r3 =>
 Option.bind (lmots_chain p_id p_q y1 r2 (0 : Int) r3) fun r4 =>
 if 0 ≤ y1 ∧ y1 < (y2.length : Int) then (
 some (.next (w64 (y1 + (1 : Int)), (y2.set y1.toNat r4)))) else none) else (
 some (.brk (y1, y2)))
def lmots_Public (p_kind : Int) (p_id : T_api_ID) (p_q : BitVec 32) (p_seed : T_api_Hash) : Option (T_api_Hash × Int) :=
 Option.bind (lmots_of p_kind) fun r1 =>
 if (!r1.2) = true then (
 some ((Vector.replicate 32 (0#8)), (1 : Int))) else (
 if 0 ≤ r1.1.2.1 ∧ r1.1.2.1 ≤ (4294967296 : Int) then (
 Option.bind (some (List.replicate r1.1.2.1.toNat (Vector.replicate 32 (0#8)))) fun x1 =>
 Option.bind (loopS (fun (s : Int × (List T_api_Hash)) => lmots_Public_L1 x1 p_id p_q p_seed r1 s.1 s.2) FU ((0 : Int), x1)) fun (s1 : Int × (List T_api_Hash)) =>
 Option.bind (lmots_folded p_id p_q s1.2) fun r5 =>
 some (r5, (0 : Int))) else none)
/- (*rolodex/wire.Writer).number -/
def wire_Writer_number_L1 (p_x : BitVec 64) (y2 : Int) (y3 : List (BitVec 8)) : Option (LR (Int × (List (BitVec 8))) Empty) :=
 if (decide ((0 : Int) ≤ y2)) = true then (
 if 0 ≤ w64 ((8 : Int) * y2) then (
 if y3.length + ([(p_x >>> ((w64 ((8 : Int) * y2)).toNat)).setWidth 8]).length ≤ AP then (
 some (.next (w64 (y2 - (1 : Int)), (y3 ++ ([(p_x >>> ((w64 ((8 : Int) * y2)).toNat)).setWidth 8]))))) else none) else none) else (
 some (.brk (y2, y3)))
def wire_Writer_number (p_w : (List (BitVec 8)) × Bool) (p_x : BitVec 64) (p_bytes : Int) : Option ((List (BitVec 8)) × Bool) :=
 Option.bind (some p_w.2) fun y1 =>
 if (y1) = true then (
 some (p_w.1, p_w.2)) else (
 Option.bind (loopS (fun (s : Int × (List (BitVec 8))) => wire_Writer_number_L1 p_x s.1 s.2) FU (w64 (p_bytes - (1 : Int)), p_w.1)) fun (s1 : Int × (List (BitVec 8))) =>
 some (s1.2, p_w.2))
/- (*rolodex/wire.Writer).U32 -/
def wire_Writer_U32 (p_w : (List (BitVec 8)) × Bool) (p_x : BitVec 32) : Option ((List (BitVec 8)) × Bool) :=
 Option.bind (wire_Writer_number (p_w.1, p_w.2) (p_x.setWidth 64) (4 : Int)) fun r1 =>
 some (r1.1, r1.2)
/- (*rolodex/wire.Writer).Plain -/
def wire_Writer_Plain (p_w : (List (BitVec 8)) × Bool) (p_b : List (BitVec 8)) : Option ((List (BitVec 8)) × Bool) :=
 Option.bind (some (!p_w.2)) fun y1 =>
 if (y1) = true then (
 if p_w.1.length + p_b.length ≤ AP then (
 some ((p_w.1 ++ p_b), p_w.2)) else none) else (
 some (p_w.1, p_w.2))
/- slices.Clone[[]byte,byte] -/
def slices_Clone_byte_byte (p_s : List (BitVec 8)) : Option (List (BitVec 8)) :=
 if ([] : List (BitVec 8)).length + p_s.length ≤ AP then (
 some (([] : List (BitVec 8)) ++ p_s)) else none
/- (*rolodex/wire.Writer).Out -/
def wire_Writer_Out (p_w : (List (BitVec 8)) × Bool) : Option (((List (BitVec 8)) × Bool) × (List (BitVec 8)) × Int) :=
 if (p_w.2) = true then (
 some ((p_w.1, p_w.2), ([] : List (BitVec 8)), (4 : Int))) else (
 Option.bind (slices_Clone_byte_byte p_w.1) fun r1 =>
 some ((p_w.1, p_w.2), r1, (0 : Int)))
/- (*rolodex/wire.Writer).within -/
def wire_Writer_within (p_w : (List (BitVec 8)) × Bool) (p_x : Int) (p_most : Int) : Option (((List (BitVec 8)) × Bool) × Bool) :=
 Option.bind (if (decide (p_x < (0 : Int))) = true then (
 some true) else (
 some (decide (p_most < p_x)))) fun y1 =>
 if (y1) = true then (
 some ((p_w.1, true), !true)) else (
 some ((p_w.1, p_w.2), !p_w.2))
/- (*rolodex/wire.Writer).U16 -/
def wire_Writer_U16 (p_w : (List (BitVec 8)) × Bool) (p_x : Int) : Option ((List (BitVec 8)) × Bool) :=
 Option.bind (wire_Writer_within (p_w.1, p_w.2) p_x (65535 : Int)) fun r1 =>
 if (r1.2) = true then (
 Option.bind (wire_Writer_number (r1.1.1, r1.1.2) (BitVec.ofInt 64 p_x) (2 : Int)) fun r2 =>
 some (r2.1, r2.2)) else (
 some (r1.1.1, r1.1.2))
/- rolodex/lms.node -/
def lms_node_L1 (p_parts : List (List (BitVec 8))) (y1 : Int) (y2 : Bool) (y3 : List (BitVec 8)) : Option (LR (Int × Bool × (List (BitVec 8))) Empty) :=
 if (decide (y1 < (p_parts.length : Int))) = true then (
 Option.bind (lget p_parts y1) fun x1 =>
 Option.bind (wire_Writer_Plain (y3, y2) x1) fun r4 =>
 some (.next (w64 (y1 + (1 : Int)), r4.2, r4.1))) else (
 some (.brk (y1, y2, y3)))
def lms_node (p_id : T_api_ID) (p_r : Int) (p_under : Int) (p_parts : List (List (BitVec 8))) : Option T_api_Hash :=
 Option.bind (wire_Writer_Plain (([] : List (BitVec 8)), false) p_id.toList) fun r1 =>
 Option.bind (wire_Writer_U32 (r1.1, r1.2) (BitVec.ofInt 32 p_r)) fun r2 =>
 Option.bind (wire_Writer_U16 (r2.1, r2.2) p_under) fun r3 =>
 Option.bind (loopS (fun (s : Int × Bool × (List (BitVec 8))) => lms_node_L1 p_parts s.1 s.2.1 s.2.2) FU ((0 : Int), r3.2, r3.1)) fun (s1 : Int × Bool × (List (BitVec 8))) =>
 Option.bind (wire_Writer_Out (s1.2.2, s1.2.1)) fun r5 =>
 Option.bind (hash_Sum r5.2.1) fun r6 =>
 some r6
/- rolodex/lms.leaf -/
def lms_leaf (p_id : T_api_ID) (p_r : Int) (p_public : T_api_Hash) : Option T_api_Hash :=
 Option.bind (lms_node p_id p_r (33410 : Int) ([p_public.toList])) fun r1 =>
 some r1
/- rolodex/lms.inner -/
def lms_inner (p_id : T_api_ID) (p_r : Int) (p_a : T_api_Hash) (p_b : T_api_Hash) : Option T_api_Hash :=
 Option.bind (lms_node p_id p_r (33667 : Int) ([p_a.toList, p_b.toList])) fun r1 =>
 some r1
/- rolodex/lms.New -/
def lms_New_L1 (p_height : Int) (p_kind : Int) (p_id : T_api_ID) (p_seed : T_api_Hash) (y1 : Int) (y2 : List T_api_Hash) : Option (LR (Int × (List T_api_Hash)) ((Option T_lms_Tree) × Int)) :=
 if (decide (y1 < (ishl (1 : Int) p_height))) = true then (
 Option.bind (lmots_Public p_kind p_id (BitVec.ofInt 32 y1) p_seed) fun r2 =>
 if (!decide (r2.2 = (0 : Int))) = true then (
 some (.ret ((none : Option T_lms_Tree), r2.2))) else (
 Option.bind (lms_leaf p_id (w64 ((ishl (1 : Int) p_height) + y1)) r2.1) fun r3 =>
 if 0 ≤ w64 ((ishl (1 : Int) p_height) + y1) ∧ w64 ((ishl (1 : Int) p_height) + y1) < (y2.length : Int) then (
 some (.next (w64 (y1 + (1 : Int)), (y2.set ((w64 ((ishl (1 : Int) p_height) + y1)).toNat) r3)))) else none)) else (
 some (.brk (y1, y2)))
def lms_New_L2 (p_id : T_api_ID) (y5 : Int) (y6 : List T_api_Hash) : Option (LR (Int × (List T_api_Hash)) Empty) :=
 if (decide ((0 : Int) < y5)) = true then (
 Option.bind (lget y6 (w64 ((2 : Int) * y5))) fun x3 =>
 Option.bind (lget y6 (w64 ((w64 ((2 : Int) * y5)) + (1 : Int)))) fun x4 =>
 Option.bind (lms_inner p_id y5 x3 x4) fun r4 =>
 if 0 ≤ y5 ∧ y5 < (y6.length : Int) then (
 some (.next (w64 (y5 - (1 : Int)), (y6.set y5.toNat r4)))) else none) else (
 some (.brk (y5, y6)))
def lms_New (p_height : Int) (p_kind : Int) (p_id : T_api_ID) (p_seed : T_api_Hash) : Option ((Option T_lms_Tree) × Int) :=
 Option.bind (lms_may p_height p_kind) fun r1 =>
 if (!r1) = true then (
 some ((none : Option T_lms_Tree), (1 : Int))) else (
 if 0 ≤ p_height then (
 if 0 ≤ w64 ((2 : Int) * (ishl (1 : Int) p_height)) ∧ w64 ((2 : Int) * (ishl (1 : Int) p_height)) ≤ (4294967296 : Int) then (
 Option.bind (some (List.replicate (w64 ((2 : Int) * (ishl (1 : Int) p_height))).toNat (Vector.replicate 32 (0#8)))) fun x1 =>
 Option.bind (loopO (fun (s : Int × (List T_api_Hash)) => lms_New_L1 p_height p_kind p_id p_seed s.1 s.2) FU ((0 : Int), x1)) fun o => match o with
 | .inl (s2 : Int × (List T_api_Hash)) => (
 Option.bind (some (w64 ((ishl (1 : Int) p_height) - (1 : Int)))) fun x2 =>
 Option.bind (loopS (fun (s : Int × (List T_api_Hash)) => lms_New_L2 p_id s.1 s.2) FU (x2, s2.2)) fun (s1 : Int × (List T_api_Hash)) =>
 some ((some (p_height, p_kind, p_id, p_seed, s1.2)), (0 : Int)))
 | .inr x => some x) else none) else none)
/- rolodex/hss.New -/
def hss_New (p_top : Int) (p_bottom : Int) (p_kind : Int) (p_seed : T_api_Hash) : Option ((Option (Int × Int × T_api_Hash × (Option T_lms_Tree) × (Option T_lms_Tree) × Int)) × Int) :=
 Option.bind (lms_Size p_bottom p_kind) fun r1 =>
 if (decide (r1 = (0 : Int))) = true then (
 some (none, (1 : Int))) else (
 Option.bind (hss_child p_seed ([] : List (BitVec 8))) fun r2 =>
 Option.bind (lms_New p_top p_kind r2.1 r2.2) fun r3 =>
 if (!decide (r3.2 = (0 : Int))) = true then (
 some (none, r3.2)) else (
 Option.bind (some ((p_bottom, p_kind, p_seed, r3.1, (none : Option T_lms_Tree), (-1 : Int)))) fun x1 =>
 some ((some x1), (0 : Int))))
/- (rolodex/head.Head).is -/
def head_Head_is (p_h : T_head_Head) : Option Bool :=
 Option.bind (if (decide ((1 : Int) ≤ p_h.1)) = true then (
 some (decide (p_h.1 < (2147483648 : Int)))) else (
 some false)) fun y1 =>
 Option.bind (if (y1) = true then (
 some (decide ((1 : Int) ≤ p_h.2.1))) else (
 some false)) fun y2 =>
 Option.bind (if (y2) = true then (
 some (decide (p_h.2.1 < (2147483648 : Int)))) else (
 some false)) fun y3 =>
 some y3
/- rolodex/head.Encode -/
def head_Encode (p_h : T_head_Head) : Option ((List (BitVec 8)) × Int) :=
 Option.bind (head_Head_is p_h) fun r1 =>
 if (!r1) = true then (
 some (([] : List (BitVec 8)), (1 : Int))) else (
 Option.bind (wire_Writer_U32 (([] : List (BitVec 8)), false) (BitVec.ofInt 32 p_h.1)) fun r2 =>
 Option.bind (wire_Writer_U32 (r2.1, r2.2) (BitVec.ofInt 32 p_h.2.1)) fun r3 =>
 Option.bind (wire_Writer_Plain (r3.1, r3.2) p_h.2.2.1.toList) fun r4 =>
 Option.bind (wire_Writer_Plain (r4.1, r4.2) p_h.2.2.2.toList) fun r5 =>
 Option.bind (wire_Writer_Out (r5.1, r5.2)) fun r6 =>
 some (r6.2.1, r6.2.2))
/- slices.Grow[[]byte,byte]__nilsl -/
def slices_Grow_byte_byte_nilsl (p_n : Int) : Option (List (BitVec 8)) :=
 if (decide (p_n < (0 : Int))) = true then none else (
 Option.bind (some (w64 (p_n - (w64 ((0 : Int) - (0 : Int)))))) fun x1 =>
 if (decide ((0 : Int) < x1)) = true then (
 if 0 < x1 ∧ x1 ≤ (4294967296 : Int) then (
 if 0 ≤ (0 : Int) ∧ (0 : Int) ≤ ((List.replicate x1.toNat (0#8)).length : Int) then (
 some ((List.replicate x1.toNat (0#8)).take (0 : Int).toNat)) else none) else none) else (
 some ([] : List (BitVec 8))))
/- slices.Concat[[]byte,byte] -/
def slices_Concat_byte_byte_L1 (p_slices : List (List (BitVec 8))) (y1 : Int) (y2 : Int) : Option (LR (Int × Int) Empty) :=
 if (decide (y2 < (p_slices.length : Int))) = true then (
 Option.bind (lget p_slices y2) fun x1 =>
 if (decide ((w64 (y1 + (x1.length : Int))) < (0 : Int))) = true then none else (
 some (.next (w64 (y1 + (x1.length : Int)), w64 (y2 + (1 : Int)))))) else (
 some (.brk (y1, y2)))
def slices_Concat_byte_byte_L2 (p_slices : List (List (BitVec 8))) (y5 : Int) (y6 : List (BitVec 8)) : Option (LR (Int × (List (BitVec 8))) Empty) :=
 if (decide (y5 < (p_slices.length : Int))) = true then (
 Option.bind (lget p_slices y5) fun x2 =>
 if y6.length + x2.length ≤ AP then (
 some (.next (w64 (y5 + (1 : Int)), (y6 ++ x2)))) else none) else (
 some (.brk (y5, y6)))
def slices_Concat_byte_byte (p_slices : List (List (BitVec 8))) : Option (List (BitVec 8)) :=
 Option.bind (loopS (fun (s : Int × Int) => slices_Concat_byte_byte_L1 p_slices s.1 s.2) FU ((0 : Int), (0 : Int))) fun (s2 : Int × Int) =>
 Option.bind (slices_Grow_byte_byte_nilsl s2.1) fun r1 =>
 Option.bind (loopS (fun (s : Int × (List (BitVec 8))) => slices_Concat_byte_byte_L2 p_slices s.1 s.2) FU ((0 : Int), r1)) fun (s1 : Int × (List (BitVec 8))) =>
 some s1.2
/- (*rolodex/lms.Tree).Public -/
def lms_Tree_Public (p_t : Option T_lms_Tree) : Option (List (BitVec 8)) :=
 if (p_t.isNone) = true then (
 some ([] : List (BitVec 8))) else (
 Option.bind (p_t) fun x1 =>
 Option.bind (wire_Writer_U32 (([] : List (BitVec 8)), false) (BitVec.ofInt 32 x1.1)) fun r1 =>
 Option.bind (p_t) fun x2 =>
 Option.bind (wire_Writer_U32 (r1.1, r1.2) (BitVec.ofInt 32 x2.2.1)) fun r2 =>
 Option.bind (p_t) fun x3 =>
 Option.bind (wire_Writer_Plain (r2.1, r2.2) x3.2.2.1.toList) fun r3 =>
 Option.bind (p_t) fun x4 =>
 Option.bind (lget x4.2.2.2.2 (1 : Int)) fun x5 =>
 Option.bind (wire_Writer_Plain (r3.1, r3.2) x5.toList) fun r4 =>
 Option.bind (wire_Writer_Out (r4.1, r4.2)) fun r5 =>
 some r5.2.1)
/- (*rolodex/lms.Tree).Keys -/
def lms_Tree_Keys (p_t : Option T_lms_Tree) : Option Int :=
 if (p_t.isNone) = true then (
 some (0 : Int)) else (
 Option.bind (p_t) fun x1 =>
 if 0 ≤ x1.1 then (
 some (ishl (1 : Int) x1.1)) else none)
/- (*rolodex/hss.Signer).Keys -/
def hss_Signer_Keys (p_s : Int × Int × T_api_Hash × (Option T_lms_Tree) × (Option T_lms_Tree) × Int) : Option Int :=
 Option.bind (lms_Tree_Keys p_s.2.2.2.1) fun r1 =>
 if 0 ≤ p_s.1 then (
 some (ishl r1 p_s.1)) else none
/- (*rolodex/hss.Signer).tree -/
def hss_Signer_tree (p_s : Int × Int × T_api_Hash × (Option T_lms_Tree) × (Option T_lms_Tree) × Int) (p_i : Int) : Option ((Int × Int × T_api_Hash × (Option T_lms_Tree) × (Option T_lms_Tree) × Int) × (Option T_lms_Tree) × Int) :=
 if (decide (p_s.2.2.2.2.2 = p_i)) = true then (
 some ((p_s.1, p_s.2.1, p_s.2.2.1, p_s.2.2.2.1, p_s.2.2.2.2.1, p_s.2.2.2.2.2), p_s.2.2.2.2.1, (0 : Int))) else (
 Option.bind (hss_child p_s.2.2.1 ([BitVec.ofInt 8 (ishr p_i (24 : Int)), BitVec.ofInt 8 (ishr p_i (16 : Int)), BitVec.ofInt 8 (ishr p_i (8 : Int)), BitVec.ofInt 8 p_i])) fun r1 =>
 Option.bind (lms_New p_s.1 p_s.2.1 r1.1 r1.2) fun r2 =>
 if (!decide (r2.2 = (0 : Int))) = true then (
 some ((p_s.1, p_s.2.1, p_s.2.2.1, p_s.2.2.2.1, p_s.2.2.2.2.1, p_s.2.2.2.2.2), (none : Option T_lms_Tree), r2.2)) else (
 some ((p_s.1, p_s.2.1, p_s.2.2.1, p_s.2.2.2.1, r2.1, p_i), r2.1, (0 : Int))))
/- (rolodex/lmots.form).cut -/
def lmots_form_cut_L2 {Sy : Type} (p_f : T_lmots_form) (yl : Sy → Int → Option Sy) (x1 : BitVec 8) (y3 : Int) (y4 : Sy) : Option (LR (Int × Sy) Empty) :=
 if (decide ((0 : Int) ≤ y3)) = true then (
 if 0 ≤ y3 then (
 Option.bind (lmots_form_most p_f) fun r1 =>
 Option.bind (yl y4 (iand (ishr (x1.toNat : Int) y3) r1)) fun y5 =>
 some (.next (w64 (y3 - p_f.1), y5))) else none) else (
 some (.brk (y3, y4)))
def lmots_form_cut_L1 {Sy : Type} (p_b : List (BitVec 8)) (p_f : T_lmots_form) (yl : Sy → Int → Option Sy) (y1 : Int) (y2 : Sy) : Option (LR (Int × Sy) Empty) :=
 if (decide (y1 < (p_b.length : Int))) = true then (
 Option.bind (lget p_b y1) fun x1 =>
 Option.bind (loopS (fun (s : Int × Sy) => lmots_form_cut_L2 p_f yl x1 s.1 s.2) FU (w64 ((8 : Int) - p_f.1), y2)) fun (s1 : Int × Sy) =>
 some (.next (w64 (y1 + (1 : Int)), s1.2))) else (
 some (.brk (y1, y2)))
def lmots_form_cut {Sy : Type} (p_f : T_lmots_form) (p_b : List (BitVec 8)) (yl : Sy → Int → Option Sy) (s0 : Sy) : Option Sy :=
 Option.bind (loopS (fun (s : Int × Sy) => lmots_form_cut_L1 p_b p_f yl s.1 s.2) FU ((0 : Int), s0)) fun (s2 : Int × Sy) =>
 some s2.2
/- (rolodex/lmots.form).sum$1 -/
def lmots_form_sum_1 {Sy : Type} (yl : Sy → Int → Option Sy) (q_0 : T_lmots_form) (q_1 : T_api_Hash) (s0 : Sy) : Option Sy :=
 Option.bind (lmots_form_cut q_0 q_1.toList yl s0) fun y1 =>
 some y1
/- (rolodex/lmots.form).sum -/
def lmots_form_sum_L1 (p_f : T_lmots_form) (y1 : Int) (d : Int) : Option Int :=
 Option.bind (lmots_form_most p_f) fun r1 =>
 some (w64 (y1 + (w64 (r1 - d))))
def lmots_form_sum (p_f : T_lmots_form) (p_h : T_api_Hash) : Option (List (BitVec 8)) :=
 Option.bind (lmots_form_sum_1 (fun (s : Int) (d : Int) => lmots_form_sum_L1 p_f s d) p_f p_h (0 : Int)) fun (s1 : Int) =>
 if 0 ≤ p_f.2.2 then (
 some ([BitVec.ofInt 8 (ishr (ishl s1 p_f.2.2) (8 : Int)), BitVec.ofInt 8 (ishl s1 p_f.2.2)])) else none
/- (rolodex/lmots.form).digits$1 -/
def lmots_form_digits_1 {Sy : Type} (yl : Sy → Int → Option Sy) (q_0 : T_lmots_form) (q_1 : List (BitVec 8)) (s0 : Sy) : Option Sy :=
 Option.bind (lmots_form_cut q_0 q_1 yl s0) fun y1 =>
 some y1
/- (rolodex/lmots.form).digits -/
def lmots_form_digits_L1 (p_f : T_lmots_form) (y1 : List Int) (d : Int) : Option (List Int) :=
 if (decide ((y1.length : Int) < p_f.2.1)) = true then (
 if y1.length + ([d]).length ≤ AP then (
 some (y1 ++ ([d]))) else none) else (
 some y1)
def lmots_form_digits (p_f : T_lmots_form) (p_h : T_api_Hash) : Option (List Int) :=
 if 0 ≤ p_f.2.1 ∧ p_f.2.1 ≤ (4294967296 : Int) then (
 Option.bind (lmots_form_sum p_f p_h) fun r1 =>
 if 0 < r1.length ∧ p_h.toList.length + r1.length ≤ AP then (
 Option.bind (lmots_form_digits_1 (fun (s : (List Int)) (d : Int) => lmots_form_digits_L1 p_f s d) p_f (p_h.toList ++ r1) ([] : List Int)) fun (s1 : (List Int)) =>
 some s1) else none) else none
/- rolodex/lmots.Sign -/
def lmots_Sign_L1 (r6 : (List Int)) (p_id : T_api_ID) (p_q : BitVec 32) (p_seed : T_api_Hash) (y1 : Int) (y2 : Bool) (y3 : List (BitVec 8)) : Option (LR (Int × Bool × (List (BitVec 8))) Empty) :=
 if (decide (y1 < (r6.length : Int))) = true then (
 Option.bind (lget r6 y1) fun x1 =>
 Option.bind (lmots_secret p_id p_q y1 p_seed) fun r7 =>
 Option.bind (lmots_chain p_id p_q y1 r7 (0 : Int) x1) fun r8 =>
 Option.bind (wire_Writer_Plain (y3, y2) r8.toList) fun r9 =>
 some (.next (w64 (y1 + (1 : Int)), r9.2, r9.1))) else (
 some (.brk (y1, y2, y3)))
def lmots_Sign (p_kind : Int) (p_id : T_api_ID) (p_q : BitVec 32) (p_seed : T_api_Hash) (p_message : List (BitVec 8)) : Option ((List (BitVec 8)) × Int) :=
 Option.bind (lmots_of p_kind) fun r1 =>
 if (!r1.2) = true then (
 some (([] : List (BitVec 8)), (1 : Int))) else (
 Option.bind (lmots_secret p_id p_q (65533 : Int) p_seed) fun r2 =>
 Option.bind (wire_Writer_U32 (([] : List (BitVec 8)), false) (BitVec.ofInt 32 p_kind)) fun r3 =>
 Option.bind (wire_Writer_Plain (r3.1, r3.2) r2.toList) fun r4 =>
 Option.bind (lmots_under p_id p_q (33153 : Int) ([r2.toList, p_message])) fun r5 =>
 Option.bind (lmots_form_digits r1.1 r5) fun r6 =>
 Option.bind (loopS (fun (s : Int × Bool × (List (BitVec 8))) => lmots_Sign_L1 r6 p_id p_q p_seed s.1 s.2.1 s.2.2) FU ((0 : Int), r4.2, r4.1)) fun (s1 : Int × Bool × (List (BitVec 8))) =>
 Option.bind (wire_Writer_Out (s1.2.2, s1.2.1)) fun r10 =>
 some (r10.2.1, r10.2.2))
/- (*rolodex/lms.Tree).Sign -/
def lms_Tree_Sign_L1 (p_t : Option T_lms_Tree) (y2 : Int) (y3 : Bool) (y4 : List (BitVec 8)) : Option (LR (Int × Bool × (List (BitVec 8))) Empty) :=
 if (decide ((1 : Int) < y2)) = true then (
 Option.bind (p_t) fun x5 =>
 Option.bind (lget x5.2.2.2.2 (ixor y2 (1 : Int))) fun x6 =>
 Option.bind (wire_Writer_Plain (y4, y3) x6.toList) fun r7 =>
 some (.next (w64 (Int.tdiv y2 (2 : Int)), r7.2, r7.1))) else (
 some (.brk (y2, y3, y4)))
def lms_Tree_Sign (p_t : Option T_lms_Tree) (p_q : Int) (p_message : List (BitVec 8)) : Option ((List (BitVec 8)) × Int) :=
 if (p_t.isNone) = true then (
 some (([] : List (BitVec 8)), (1 : Int))) else (
 Option.bind (if (decide (p_q < (0 : Int))) = true then (
 some true) else (
 Option.bind (lms_Tree_Keys p_t) fun r1 =>
 some (decide (r1 ≤ p_q)))) fun y1 =>
 if (y1) = true then (
 some (([] : List (BitVec 8)), (7 : Int))) else (
 Option.bind (p_t) fun x1 =>
 Option.bind (p_t) fun x2 =>
 Option.bind (p_t) fun x3 =>
 Option.bind (lmots_Sign x1.2.1 x2.2.2.1 (BitVec.ofInt 32 p_q) x3.2.2.2.1 p_message) fun r2 =>
 if (!decide (r2.2 = (0 : Int))) = true then (
 some (([] : List (BitVec 8)), r2.2)) else (
 Option.bind (wire_Writer_U32 (([] : List (BitVec 8)), false) (BitVec.ofInt 32 p_q)) fun r3 =>
 Option.bind (wire_Writer_Plain (r3.1, r3.2) r2.1) fun r4 =>
 Option.bind (p_t) fun x4 =>
 Option.bind (wire_Writer_U32 (r4.1, r4.2) (BitVec.ofInt 32 x4.1)) fun r5 =>
 Option.bind (lms_Tree_Keys p_t) fun r6 =>
 Option.bind (loopS (fun (s : Int × Bool × (List (BitVec 8))) => lms_Tree_Sign_L1 p_t s.1 s.2.1 s.2.2) FU (w64 (r6 + p_q), r5.2, r5.1)) fun (s1 : Int × Bool × (List (BitVec 8))) =>
 Option.bind (wire_Writer_Out (s1.2.2, s1.2.1)) fun r8 =>
 some (r8.2.1, r8.2.2))))
/- (*rolodex/hss.Signer).Sign -/
def hss_Signer_Sign (p_s : Int × Int × T_api_Hash × (Option T_lms_Tree) × (Option T_lms_Tree) × Int) (p_n : Int) (p_message : List (BitVec 8)) : Option ((Int × Int × T_api_Hash × (Option T_lms_Tree) × (Option T_lms_Tree) × Int) × (List (BitVec 8)) × Int) :=
 Option.bind (if (decide (p_n < (0 : Int))) = true then (
 some true) else (
 Option.bind (hss_Signer_Keys (p_s.1, p_s.2.1, p_s.2.2.1, p_s.2.2.2.1, p_s.2.2.2.2.1, p_s.2.2.2.2.2)) fun r1 =>
 some (decide (r1 ≤ p_n)))) fun y1 =>
 if (y1) = true then (
 some ((p_s.1, p_s.2.1, p_s.2.2.1, p_s.2.2.2.1, p_s.2.2.2.2.1, p_s.2.2.2.2.2), ([] : List (BitVec 8)), (7 : Int))) else (
 if 0 ≤ p_s.1 then (
 if 0 ≤ p_s.1 then (
 Option.bind (some (iand p_n (w64 ((ishl (1 : Int) p_s.1) - (1 : Int))))) fun x1 =>
 Option.bind (hss_Signer_tree (p_s.1, p_s.2.1, p_s.2.2.1, p_s.2.2.2.1, p_s.2.2.2.2.1, p_s.2.2.2.2.2) (ishr p_n p_s.1)) fun r2 =>
 if (!decide (r2.2.2 = (0 : Int))) = true then (
 some ((r2.1.1, r2.1.2.1, r2.1.2.2.1, r2.1.2.2.2.1, r2.1.2.2.2.2.1, r2.1.2.2.2.2.2), ([] : List (BitVec 8)), r2.2.2)) else (
 Option.bind (lms_Tree_Public r2.2.1) fun r3 =>
 Option.bind (lms_Tree_Sign r2.1.2.2.2.1 (ishr p_n p_s.1) r3) fun r4 =>
 if (!decide (r4.2 = (0 : Int))) = true then (
 some ((r2.1.1, r2.1.2.1, r2.1.2.2.1, r2.1.2.2.2.1, r2.1.2.2.2.2.1, r2.1.2.2.2.2.2), ([] : List (BitVec 8)), r4.2)) else (
 Option.bind (lms_Tree_Sign r2.2.1 x1 p_message) fun r5 =>
 if (!decide (r5.2 = (0 : Int))) = true then (
 some ((r2.1.1, r2.1.2.1, r2.1.2.2.1, r2.1.2.2.2.1, r2.1.2.2.2.2.1, r2.1.2.2.2.2.2), ([] : List (BitVec 8)), r5.2)) else (
 Option.bind (slices_Concat_byte_byte ([[0#8, 0#8, 0#8, 1#8], r4.1, r3, r5.1])) fun r6 =>
 some ((r2.1.1, r2.1.2.1, r2.1.2.2.1, r2.1.2.2.2.1, r2.1.2.2.2.2.1, r2.1.2.2.2.2.2), r6, (0 : Int)))))) else none) else none)
/- rolodex/head.Sign -/
def head_Sign (p_s : Int × Int × T_api_Hash × (Option T_lms_Tree) × (Option T_lms_Tree) × Int) (p_n : Int) (p_h : T_head_Head) : Option ((Int × Int × T_api_Hash × (Option T_lms_Tree) × (Option T_lms_Tree) × Int) × T_head_Signed × Int) :=
 Option.bind (head_Encode p_h) fun r1 =>
 if (!decide (r1.2 = (0 : Int))) = true then (
 Option.bind (some (((0, 0, (Vector.replicate 32 (0#8)), (Vector.replicate 32 (0#8))), ([] : List (BitVec 8))))) fun x1 =>
 some ((p_s.1, p_s.2.1, p_s.2.2.1, p_s.2.2.2.1, p_s.2.2.2.2.1, p_s.2.2.2.2.2), x1, r1.2)) else (
 Option.bind (hss_Signer_Sign (p_s.1, p_s.2.1, p_s.2.2.1, p_s.2.2.2.1, p_s.2.2.2.2.1, p_s.2.2.2.2.2) p_n r1.1) fun r2 =>
 if (!decide (r2.2.2 = (0 : Int))) = true then (
 Option.bind (some (((0, 0, (Vector.replicate 32 (0#8)), (Vector.replicate 32 (0#8))), ([] : List (BitVec 8))))) fun x2 =>
 some ((r2.1.1, r2.1.2.1, r2.1.2.2.1, r2.1.2.2.2.1, r2.1.2.2.2.2.1, r2.1.2.2.2.2.2), x2, r2.2.2)) else (
 Option.bind (some ((p_h, r2.2.1))) fun x3 =>
 some ((r2.1.1, r2.1.2.1, r2.1.2.2.1, r2.1.2.2.2.1, r2.1.2.2.2.2.1, r2.1.2.2.2.2.2), x3, (0 : Int))))
/- rolodex/rolodexlaw17.awake -/
/- rolodex/rolodexref17.Is -/
/- rolodex/rolodexref01.Number -/
/- rolodex/rolodexref17.Encode -/
/- rolodex/rolodexref04.Bits -/
/- rolodex/rolodexref05.Keys -/
/- rolodex/rolodexref06.Keys -/
/- rolodex/rolodexref02.Start -/
/- rolodex/rolodexref02.Padded -/
/- rolodex/rolodexref02.turned -/
/- rolodex/rolodexref01.Value -/
/- rolodex/rolodexref02.words -/
/- rolodex/rolodexref02.K -/
/- rolodex/rolodexref02.take -/
def rolodexref02_take_L2 (y4 : Vector (BitVec 32) 8) (y5 : Int) (y6 : Vector (BitVec 32) 8) : Option (LR (Int × (Vector (BitVec 32) 8)) Empty) :=
 if (decide (y5 < (8 : Int))) = true then (
 Option.bind (vget y6 y5) fun x7 =>
 Option.bind (vget y4 y5) fun x8 =>
 if 0 ≤ y5 ∧ y5 < (8 : Int) then (
 some (.next (w64 (y5 + (1 : Int)), (y6.setIfInBounds y5.toNat (x7 + x8))))) else none) else (
 some (.brk (y5, y6)))
/- rolodex/rolodexref02.Sum -/
/- rolodex/rolodexref02.Text -/
/- rolodex/rolodexref02.Tagged -/
/- rolodex/rolodexref06.Child -/
/- rolodex/rolodexref04.Under -/
/- rolodex/rolodexref04.with -/
/- rolodex/rolodexref04.Begin -/
/- rolodex/rolodexref04.Steps -/
/- rolodex/rolodexref04.Chains -/
/- rolodex/rolodexref04.Most -/
/- rolodex/rolodexref04.Public -/
/- rolodex/rolodexref05.Node -/
/- rolodex/rolodexref05.two -/
/- rolodex/rolodexref05.At -/
/- rolodex/rolodexref05.Public -/
/- rolodex/rolodexref04.digit -/
/- rolodex/rolodexref04.Digits -/
/- rolodex/rolodexref04.Hashed -/
/- rolodex/rolodexref04.Sign -/
/- rolodex/rolodexref05.Sign -/
/- rolodex/rolodexref06.Sign -/
/- rolodex/rolodexref01.Same -/
/- rolodex/wire.New -/
def wire_New (p_b : List (BitVec 8)) : Option ((List (BitVec 8)) × Bool) :=
 Option.bind (slices_Clone_byte_byte p_b) fun r1 =>
 Option.bind (some ((r1, false))) fun x1 =>
 some x1
/- (*rolodex/wire.Reader).takes -/
def wire_Reader_takes (p_r : (List (BitVec 8)) × Bool) (p_n : Int) : Option (((List (BitVec 8)) × Bool) × (List (BitVec 8))) :=
 Option.bind (some p_r.2) fun y1 =>
 if (y1) = true then (
 some ((p_r.1, p_r.2), ([] : List (BitVec 8)))) else (
 Option.bind (if (decide (p_n < (0 : Int))) = true then (
 some true) else (
 some (decide ((p_r.1.length : Int) < p_n)))) fun y2 =>
 if (y2) = true then (
 some ((p_r.1, true), ([] : List (BitVec 8)))) else (
 Option.bind (lslice p_r.1 0 p_n) fun x1 =>
 Option.bind (lslice p_r.1 p_n (p_r.1.length : Int)) fun x2 =>
 some ((x2, p_r.2), x1)))
/- (*rolodex/wire.Reader).peek -/
def wire_Reader_peek_L1 (x1 : List (BitVec 8)) (y3 : BitVec 64) (y4 : Int) : Option (LR ((BitVec 64) × Int) Empty) :=
 if (decide (y4 < (x1.length : Int))) = true then (
 Option.bind (lget x1 y4) fun x2 =>
 some (.next ((y3 <<< 8) ||| (x2.setWidth 64), w64 (y4 + (1 : Int))))) else (
 some (.brk (y3, y4)))
def wire_Reader_peek (p_r : (List (BitVec 8)) × Bool) (p_bytes : Int) : Option ((BitVec 64) × Bool) :=
 Option.bind (some p_r.2) fun y1 =>
 Option.bind (if (y1) = true then (
 some true) else (
 some (decide ((p_r.1.length : Int) < p_bytes)))) fun y2 =>
 if (y2) = true then (
 some (0#64, false)) else (
 Option.bind (lslice p_r.1 0 p_bytes) fun x1 =>
 Option.bind (loopS (fun (s : (BitVec 64) × Int) => wire_Reader_peek_L1 x1 s.1 s.2) FU (0#64, (0 : Int))) fun (s1 : (BitVec 64) × Int) =>
 some (s1.1, true))
/- (*rolodex/wire.Reader).number -/
def wire_Reader_number (p_r : (List (BitVec 8)) × Bool) (p_bytes : Int) : Option (((List (BitVec 8)) × Bool) × (BitVec 64)) :=
 Option.bind (wire_Reader_peek (p_r.1, p_r.2) p_bytes) fun r1 =>
 Option.bind (wire_Reader_takes (p_r.1, p_r.2) p_bytes) fun r2 =>
 if (!r1.2) = true then (
 some ((r2.1.1, r2.1.2), 0#64)) else (
 some ((r2.1.1, r2.1.2), r1.1))
/- (*rolodex/wire.Reader).U32 -/
def wire_Reader_U32 (p_r : (List (BitVec 8)) × Bool) : Option (((List (BitVec 8)) × Bool) × (BitVec 32)) :=
 Option.bind (wire_Reader_number (p_r.1, p_r.2) (4 : Int)) fun r1 =>
 some ((r1.1.1, r1.1.2), r1.2.setWidth 32)
/- (*rolodex/wire.Reader).Plain -/
def wire_Reader_Plain (p_r : (List (BitVec 8)) × Bool) (p_n : Int) : Option (((List (BitVec 8)) × Bool) × (List (BitVec 8))) :=
 Option.bind (wire_Reader_takes (p_r.1, p_r.2) p_n) fun r1 =>
 some ((r1.1.1, r1.1.2), r1.2)
/- (*rolodex/wire.Reader).Left -/
def wire_Reader_Left (p_r : (List (BitVec 8)) × Bool) : Option Int :=
 some (p_r.1.length : Int)
/- (*rolodex/wire.Reader).Fails -/
def wire_Reader_Fails (p_r : (List (BitVec 8)) × Bool) : Option Bool :=
 Option.bind (some p_r.2) fun y1 =>
 some y1
/- (*rolodex/wire.Reader).Done -/
def wire_Reader_Done (p_r : (List (BitVec 8)) × Bool) : Option Bool :=
 Option.bind (wire_Reader_Fails (p_r.1, p_r.2)) fun r1 =>
 Option.bind (if (!r1) = true then (
 Option.bind (wire_Reader_Left (p_r.1, p_r.2)) fun r2 =>
 some (decide (r2 = (0 : Int)))) else (
 some false)) fun y1 =>
 some y1
/- rolodex/lms.parted -/
def lms_parted_L1 (p_height : Int) (y1 : Int) (y2 : List (BitVec 8)) (y3 : Bool) (y4 : List T_api_Hash) : Option (LR (Int × (List (BitVec 8)) × Bool × (List T_api_Hash)) Empty) :=
 if (decide (y1 < p_height)) = true then (
 Option.bind (wire_Reader_Plain (y2, y3) (32 : Int)) fun r7 =>
 Option.bind (toVecO 32 r7.2) fun x2 =>
 if y4.length + ([x2]).length ≤ AP then (
 some (.next (w64 (y1 + (1 : Int)), r7.1.1, r7.1.2, (y4 ++ ([x2]))))) else none) else (
 some (.brk (y1, y2, y3, y4)))
def lms_parted (p_b : List (BitVec 8)) (p_height : Int) (p_kind : Int) : Option (T_lms_signature × Bool) :=
 Option.bind (lms_Size p_height p_kind) fun r1 =>
 if (!decide ((p_b.length : Int) = r1)) = true then (
 Option.bind (some ((0, ([] : List (BitVec 8)), ([] : List T_api_Hash)))) fun x1 =>
 some (x1, false)) else (
 Option.bind (wire_New p_b) fun r2 =>
 Option.bind (wire_Reader_U32 (r2.1, r2.2)) fun r3 =>
 Option.bind (lmots_Size p_kind) fun r4 =>
 Option.bind (wire_Reader_Plain (r3.1.1, r3.1.2) r4) fun r5 =>
 Option.bind (wire_Reader_U32 (r5.1.1, r5.1.2)) fun r6 =>
 Option.bind (loopS (fun (s : Int × (List (BitVec 8)) × Bool × (List T_api_Hash)) => lms_parted_L1 p_height s.1 s.2.1 s.2.2.1 s.2.2.2) FU ((0 : Int), r6.1.1, r6.1.2, ([] : List T_api_Hash))) fun (s1 : Int × (List (BitVec 8)) × Bool × (List T_api_Hash)) =>
 Option.bind (wire_Reader_Done (s1.2.1, s1.2.2.1)) fun r8 =>
 Option.bind (if (r8) = true then (
 some (decide ((r6.2.toNat : Int) = p_height))) else (
 some false)) fun y9 =>
 Option.bind (if (y9) = true then (
 if 0 ≤ p_height then (
 some (decide ((((r3.2.toNat : Int), r5.2, s1.2.2.2).1) < (ishl (1 : Int) p_height)))) else none) else (
 some false)) fun y10 =>
 Option.bind (if (y10) = true then (
 Option.bind (wire_New (((r3.2.toNat : Int), r5.2, s1.2.2.2).2.1)) fun r9 =>
 Option.bind (wire_Reader_U32 (r9.1, r9.2)) fun r10 =>
 some (decide ((r10.2.toNat : Int) = p_kind))) else (
 some false)) fun y11 =>
 some (((r3.2.toNat : Int), r5.2, s1.2.2.2), y11))
/- rolodex/lmots.Recover -/
def lmots_Recover_L1 (r7 : (List Int)) (r3 : T_lmots_form × Bool) (p_id : T_api_ID) (p_q : BitVec 32) (y2 : Int) (y3 : List T_api_Hash) (y4 : List (BitVec 8)) (y5 : Bool) : Option (LR (Int × (List T_api_Hash) × (List (BitVec 8)) × Bool) Empty) :=
 if (decide (y2 < (r7.length : Int))) = true then (
 Option.bind (lget r7 y2) fun x2 =>
 Option.bind (wire_Reader_Plain (y4, y5) (32 : Int)) fun r8 =>
 Option.bind (toVecO 32 r8.2) fun x3 =>
 Option.bind (lmots_form_most r3.1) fun r9 =>
 Option.bind (lmots_chain p_id p_q y2 x3 x2 r9) fun r10 =>
 if 0 ≤ y2 ∧ y2 < (y3.length : Int) then (
 some (.next (w64 (y2 + (1 : Int)), (y3.set y2.toNat r10), r8.1.1, r8.1.2))) else none) else (
 some (.brk (y2, y3, y4, y5)))
def lmots_Recover (p_id : T_api_ID) (p_q : BitVec 32) (p_message : List (BitVec 8)) (p_signature : List (BitVec 8)) : Option (T_api_Hash × Bool) :=
 Option.bind (wire_New p_signature) fun r1 =>
 Option.bind (wire_Reader_U32 (r1.1, r1.2)) fun r2 =>
 Option.bind (lmots_of (r2.2.toNat : Int)) fun r3 =>
 Option.bind (if (!r3.2) = true then (
 some true) else (
 Option.bind (lmots_Size (r2.2.toNat : Int)) fun r4 =>
 some (!decide ((p_signature.length : Int) = r4)))) fun y1 =>
 if (y1) = true then (
 some ((Vector.replicate 32 (0#8)), false)) else (
 Option.bind (wire_Reader_Plain (r2.1.1, r2.1.2) (32 : Int)) fun r5 =>
 if 0 ≤ r3.1.2.1 ∧ r3.1.2.1 ≤ (4294967296 : Int) then (
 Option.bind (some (List.replicate r3.1.2.1.toNat (Vector.replicate 32 (0#8)))) fun x1 =>
 Option.bind (lmots_under p_id p_q (33153 : Int) ([r5.2, p_message])) fun r6 =>
 Option.bind (lmots_form_digits r3.1 r6) fun r7 =>
 Option.bind (loopS (fun (s : Int × (List T_api_Hash) × (List (BitVec 8)) × Bool) => lmots_Recover_L1 r7 r3 p_id p_q s.1 s.2.1 s.2.2.1 s.2.2.2) FU ((0 : Int), x1, r5.1.1, r5.1.2)) fun (s1 : Int × (List T_api_Hash) × (List (BitVec 8)) × Bool) =>
 Option.bind (lmots_folded p_id p_q s1.2.1) fun r11 =>
 some (r11, true)) else none)
/- rolodex/lms.climb -/
def lms_climb_L1 (p_path : List T_api_Hash) (p_id : T_api_ID) (y1 : Int) (y2 : Int) (y3 : T_api_Hash) : Option (LR (Int × Int × T_api_Hash) Empty) :=
 if (decide (y2 < (p_path.length : Int))) = true then (
 Option.bind (lget p_path y2) fun x1 =>
 Option.bind (if (decide ((Int.tmod y1 (2 : Int)) = (1 : Int))) = true then (
 some (y3, x1)) else (
 some (x1, y3))) fun (j1 : T_api_Hash × T_api_Hash) =>
 Option.bind (lms_inner p_id (w64 (Int.tdiv y1 (2 : Int))) j1.2 j1.1) fun r1 =>
 some (.next (w64 (Int.tdiv y1 (2 : Int)), w64 (y2 + (1 : Int)), r1))) else (
 some (.brk (y1, y2, y3)))
def lms_climb (p_id : T_api_ID) (p_r : Int) (p_h : T_api_Hash) (p_path : List T_api_Hash) : Option T_api_Hash :=
 Option.bind (loopS (fun (s : Int × Int × T_api_Hash) => lms_climb_L1 p_path p_id s.1 s.2.1 s.2.2) FU (p_r, (0 : Int), p_h)) fun (s1 : Int × Int × T_api_Hash) =>
 some s1.2.2
/- slices.Equal[[]byte,byte] -/
def slices_Equal_byte_byte_L1 (p_s1 : List (BitVec 8)) (p_s2 : List (BitVec 8)) (y1 : Int) : Option (LR Int Bool) :=
 if (decide (y1 < (p_s1.length : Int))) = true then (
 Option.bind (lget p_s1 y1) fun x1 =>
 Option.bind (lget p_s2 y1) fun x2 =>
 if (!decide (x1 = x2)) = true then (
 some (.ret false)) else (
 some (.next (w64 (y1 + (1 : Int)))))) else (
 some (.brk y1))
def slices_Equal_byte_byte (p_s1 : List (BitVec 8)) (p_s2 : List (BitVec 8)) : Option Bool :=
 if (!decide ((p_s1.length : Int) = (p_s2.length : Int))) = true then (
 some false) else (
 Option.bind (loopO (fun (s : Int) => slices_Equal_byte_byte_L1 p_s1 p_s2 s) FU (0 : Int)) fun o => match o with
 | .inl (s1 : Int) => (
 some true)
 | .inr x => some x)
/- rolodex/lms.Verify -/
def lms_Verify (p_public : List (BitVec 8)) (p_message : List (BitVec 8)) (p_sig : List (BitVec 8)) : Option Bool :=
 if (!decide ((p_public.length : Int) = (56 : Int))) = true then (
 some false) else (
 Option.bind (wire_New p_public) fun r1 =>
 Option.bind (wire_Reader_U32 (r1.1, r1.2)) fun r2 =>
 Option.bind (wire_Reader_U32 (r2.1.1, r2.1.2)) fun r3 =>
 Option.bind (wire_Reader_Plain (r3.1.1, r3.1.2) (16 : Int)) fun r4 =>
 Option.bind (toVecO 16 r4.2) fun x1 =>
 Option.bind (wire_Reader_Plain (r4.1.1, r4.1.2) (32 : Int)) fun r5 =>
 Option.bind (lms_may (r2.2.toNat : Int) (r3.2.toNat : Int)) fun r6 =>
 if (!r6) = true then (
 some false) else (
 Option.bind (lms_parted p_sig (r2.2.toNat : Int) (r3.2.toNat : Int)) fun r7 =>
 if (!r7.2) = true then (
 some false) else (
 Option.bind (lmots_Recover x1 (BitVec.ofInt 32 r7.1.1) p_message r7.1.2.1) fun r8 =>
 if (!r8.2) = true then (
 some false) else (
 if 0 ≤ (r2.2.toNat : Int) then (
 Option.bind (some (w64 ((ishl (1 : Int) (r2.2.toNat : Int)) + r7.1.1))) fun x2 =>
 Option.bind (lms_leaf x1 x2 r8.1) fun r9 =>
 Option.bind (lms_climb x1 x2 r9 r7.1.2.2) fun r10 =>
 Option.bind (slices_Equal_byte_byte r10.toList r5.2) fun r11 =>
 some r11) else none))))
/- rolodex/hss.Verify -/
def hss_Verify (p_public : List (BitVec 8)) (p_message : List (BitVec 8)) (p_signature : List (BitVec 8)) : Option Bool :=
 if (!decide ((p_public.length : Int) = (60 : Int))) = true then (
 some false) else (
 Option.bind (wire_New p_public) fun r1 =>
 Option.bind (wire_Reader_U32 (r1.1, r1.2)) fun r2 =>
 if (!decide (r2.2 = (2#32))) = true then (
 some false) else (
 Option.bind (wire_Reader_U32 (r2.1.1, r2.1.2)) fun r3 =>
 Option.bind (wire_Reader_U32 (r3.1.1, r3.1.2)) fun r4 =>
 Option.bind (wire_New p_signature) fun r5 =>
 Option.bind (wire_Reader_U32 (r5.1, r5.2)) fun r6 =>
 if (!decide (r6.2 = (1#32))) = true then (
 some false) else (
 Option.bind (lms_Size (r3.2.toNat : Int) (r4.2.toNat : Int)) fun r7 =>
 Option.bind (wire_Reader_Plain (r6.1.1, r6.1.2) r7) fun r8 =>
 Option.bind (wire_Reader_Plain (r8.1.1, r8.1.2) (56 : Int)) fun r9 =>
 Option.bind (wire_Reader_Left (r9.1.1, r9.1.2)) fun r10 =>
 Option.bind (wire_Reader_Plain (r9.1.1, r9.1.2) r10) fun r11 =>
 Option.bind (wire_Reader_Fails (r11.1.1, r11.1.2)) fun r12 =>
 Option.bind (if (!r12) = true then (
 Option.bind (lslice p_public (4 : Int) (p_public.length : Int)) fun x1 =>
 Option.bind (lms_Verify x1 r9.2 r8.2) fun r13 =>
 some r13) else (
 some false)) fun y1 =>
 Option.bind (if (y1) = true then (
 Option.bind (lms_Verify r9.2 p_message r11.2) fun r14 =>
 some r14) else (
 some false)) fun y2 =>
 some y2)))
/- rolodex/head.Right -/
def head_Right (p_s : T_head_Signed) (p_public : List (BitVec 8)) : Option Bool :=
 Option.bind (head_Encode p_s.1) fun r1 =>
 Option.bind (if (decide (r1.2 = (0 : Int))) = true then (
 Option.bind (hss_Verify p_public r1.1 p_s.2) fun r2 =>
 some r2) else (
 some false)) fun y1 =>
 some y1
/- (*rolodex/hss.Signer).Public -/
def hss_Signer_Public (p_s : Int × Int × T_api_Hash × (Option T_lms_Tree) × (Option T_lms_Tree) × Int) : Option (List (BitVec 8)) :=
 Option.bind (lms_Tree_Public p_s.2.2.2.1) fun r1 =>
 Option.bind (slices_Concat_byte_byte ([[0#8, 0#8, 0#8, 2#8], r1])) fun r2 =>
 some r2
/- rolodex/rolodexlaw17.HeadSigns -/
/- rolodex/rolodexlaw27.Signer -/
def rolodexlaw27_Signer : Option (Int × Int × T_api_Hash × (Option T_lms_Tree) × (Option T_lms_Tree) × Int) :=
 Option.bind (some (#v[27#8, 0#8, 0#8, 0#8, 0#8, 0#8, 0#8, 0#8, 0#8, 0#8, 0#8, 0#8, 0#8, 0#8, 0#8, 0#8, 0#8, 0#8, 0#8, 0#8, 0#8, 0#8, 0#8, 0#8, 0#8, 0#8, 0#8, 0#8, 0#8, 0#8, 0#8, 0#8])) fun x1 =>
 Option.bind (hss_New (1 : Int) (2 : Int) (3 : Int) x1) fun r1 =>
 Option.bind (r1.1) fun x2 =>
 some (x2.1, x2.2.1, x2.2.2.1, x2.2.2.2.1, x2.2.2.2.2.1, x2.2.2.2.2.2)
/- rolodex/gossip.New -/
def gossip_New (p_public : List (BitVec 8)) : Option ((List (BitVec 8)) × (List T_head_Signed) × (List T_gossip_Fork) × (List T_gossip_link)) :=
 Option.bind (slices_Clone_byte_byte p_public) fun r1 =>
 some (r1, ([] : List T_head_Signed), ([] : List T_gossip_Fork), ([] : List T_gossip_link))
/- (*rolodex/gossip.Pool).place$1 -/
def gossip_Pool_place_1 (p_s : T_head_Signed) (p_e : Int) : Option Int :=
 some (w64 (p_s.1.1 - p_e))
/- slices.BinarySearchFunc[[]rolodex/head.Signed,rolodex/head.Signed,int]__(*rolodex/gossip.Pool).place$1 -/
def slices_BinarySearchFunc_head_Signed_head_Signed_int_gossip_Pool_place_1_L1 (p_x : List T_head_Signed) (p_target : Int) (y1 : Int) (y2 : Int) : Option (LR (Int × Int) Empty) :=
 if (decide (y1 < y2)) = true then (
 Option.bind (some (w64 (((BitVec.ofInt 64 (w64 (y1 + y2))) >>> 1).toNat : Int))) fun x1 =>
 Option.bind (lget p_x x1) fun x2 =>
 Option.bind (gossip_Pool_place_1 x2 p_target) fun r1 =>
 if (decide (r1 < (0 : Int))) = true then (
 some (.next (w64 (x1 + (1 : Int)), y2))) else (
 some (.next (y1, x1)))) else (
 some (.brk (y1, y2)))
def slices_BinarySearchFunc_head_Signed_head_Signed_int_gossip_Pool_place_1 (p_x : List T_head_Signed) (p_target : Int) : Option (Int × Bool) :=
 Option.bind (loopS (fun (s : Int × Int) => slices_BinarySearchFunc_head_Signed_head_Signed_int_gossip_Pool_place_1_L1 p_x p_target s.1 s.2) FU ((0 : Int), (p_x.length : Int))) fun (s1 : Int × Int) =>
 Option.bind (if (decide (s1.1 < (p_x.length : Int))) = true then (
 Option.bind (lget p_x s1.1) fun x3 =>
 Option.bind (gossip_Pool_place_1 x3 p_target) fun r2 =>
 some (decide (r2 = (0 : Int)))) else (
 some false)) fun y5 =>
 some (s1.1, y5)
/- (*rolodex/gossip.Pool).place -/
def gossip_Pool_place (p_p : Option T_gossip_Pool) (p_e : Int) : Option (Int × Bool) :=
 Option.bind (p_p) fun x1 =>
 Option.bind (slices_BinarySearchFunc_head_Signed_head_Signed_int_gossip_Pool_place_1 x1.2.1 p_e) fun r1 =>
 some (r1.1, r1.2)
/- (*rolodex/gossip.Pool).forked$1 -/
def gossip_Pool_forked_1 (p_f : T_gossip_Fork) (q_0 : Int) : Option Bool :=
 some (decide (p_f.1.1.1 = q_0))
/- slices.IndexFunc[[]rolodex/gossip.Fork,rolodex/gossip.Fork]__(*rolodex/gossip.Pool).forked$1 -/
def slices_IndexFunc_gossip_Fork_gossip_Fork_gossip_Pool_forked_1_L1 (p_s : List T_gossip_Fork) (k1_0 : Int) (y1 : Int) : Option (LR Int Int) :=
 if (decide (y1 < (p_s.length : Int))) = true then (
 Option.bind (lget p_s y1) fun x1 =>
 Option.bind (gossip_Pool_forked_1 x1 k1_0) fun r1 =>
 if (r1) = true then (
 some (.ret y1)) else (
 some (.next (w64 (y1 + (1 : Int)))))) else (
 some (.brk y1))
def slices_IndexFunc_gossip_Fork_gossip_Fork_gossip_Pool_forked_1 (p_s : List T_gossip_Fork) (k1_0 : Int) : Option Int :=
 Option.bind (loopO (fun (s : Int) => slices_IndexFunc_gossip_Fork_gossip_Fork_gossip_Pool_forked_1_L1 p_s k1_0 s) FU (0 : Int)) fun o => match o with
 | .inl (s1 : Int) => (
 some (-1 : Int))
 | .inr x => some x
/- slices.ContainsFunc[[]rolodex/gossip.Fork,rolodex/gossip.Fork]__(*rolodex/gossip.Pool).forked$1 -/
def slices_ContainsFunc_gossip_Fork_gossip_Fork_gossip_Pool_forked_1 (p_s : List T_gossip_Fork) (k1_0 : Int) : Option Bool :=
 Option.bind (slices_IndexFunc_gossip_Fork_gossip_Fork_gossip_Pool_forked_1 p_s k1_0) fun r1 =>
 some (decide ((0 : Int) ≤ r1))
/- (*rolodex/gossip.Pool).forked -/
def gossip_Pool_forked (p_p : Option T_gossip_Pool) (p_e : Int) : Option Bool :=
 Option.bind (p_p) fun x1 =>
 Option.bind (slices_ContainsFunc_gossip_Fork_gossip_Fork_gossip_Pool_forked_1 x1.2.2.1 p_e) fun r1 =>
 some r1
/- rolodex/gossip.copied -/
def gossip_copied (p_s : T_head_Signed) : Option T_head_Signed :=
 Option.bind (slices_Clone_byte_byte p_s.2) fun r1 =>
 some (p_s.1, r1)
/- slices.Insert[[]rolodex/head.Signed,rolodex/head.Signed] -/
def slices_Insert_head_Signed_head_Signed (p_s : List T_head_Signed) (p_i : Int) (p_v : List T_head_Signed) : Option (List T_head_Signed) :=
  if 0 ≤ p_i ∧ p_i ≤ (p_s.length : Int) ∧ p_v.length = 1 ∧ p_s.length ≤ 1000000 then some (p_s.take p_i.toNat ++ p_v ++ p_s.drop p_i.toNat) else none
/- (*rolodex/gossip.Pool).Put -/
def gossip_Pool_Put (p_p : (List (BitVec 8)) × (List T_head_Signed) × (List T_gossip_Fork) × (List T_gossip_link)) (p_s : T_head_Signed) : Option (((List (BitVec 8)) × (List T_head_Signed) × (List T_gossip_Fork) × (List T_gossip_link)) × Int) :=
 Option.bind (head_Right p_s p_p.1) fun r1 =>
 if (!r1) = true then (
 some ((p_p.1, p_p.2.1, p_p.2.2.1, p_p.2.2.2), (8 : Int))) else (
 Option.bind (gossip_Pool_place (some (p_p.1, p_p.2.1, p_p.2.2.1, p_p.2.2.2)) p_s.1.1) fun r2 =>
 Option.bind (if (r2.2) = true then (
 Option.bind (lget p_p.2.1 r2.1) fun x1 =>
 some (decide (x1.1 = p_s.1))) else (
 some false)) fun y1 =>
 if (y1) = true then (
 some ((p_p.1, p_p.2.1, p_p.2.2.1, p_p.2.2.2), (11 : Int))) else (
 if (r2.2) = true then (
 Option.bind (gossip_Pool_forked (some (p_p.1, p_p.2.1, p_p.2.2.1, p_p.2.2.2)) p_s.1.1) fun r3 =>
 Option.bind (if (!r3) = true then (
 Option.bind (lget p_p.2.1 r2.1) fun x2 =>
 Option.bind (gossip_copied x2) fun r4 =>
 Option.bind (gossip_copied p_s) fun r5 =>
 Option.bind (some ((r4, r5))) fun x3 =>
 if p_p.2.2.1.length + ([x3]).length ≤ AP then (
 some (p_p.2.2.1 ++ ([x3]))) else none) else (
 some p_p.2.2.1)) fun y2 =>
 some ((p_p.1, p_p.2.1, y2, p_p.2.2.2), (9 : Int))) else (
 Option.bind (some (decide ((64 : Int) ≤ (p_p.2.1.length : Int)))) fun x4 =>
 if (x4) = true then (
 some ((p_p.1, p_p.2.1, p_p.2.2.1, p_p.2.2.2), (5 : Int))) else (
 Option.bind (gossip_copied p_s) fun r6 =>
 Option.bind (slices_Insert_head_Signed_head_Signed p_p.2.1 r2.1 ([r6])) fun r7 =>
 some ((p_p.1, r7, p_p.2.2.1, p_p.2.2.2), (0 : Int))))))
/- rolodex/rolodexlaw27.Signed -/
def rolodexlaw27_Signed (p_s : Int × Int × T_api_Hash × (Option T_lms_Tree) × (Option T_lms_Tree) × Int) (p_h : T_rolodexref17_Head) : Option ((Int × Int × T_api_Hash × (Option T_lms_Tree) × (Option T_lms_Tree) × Int) × T_head_Signed) :=
 Option.bind (head_Sign (p_s.1, p_s.2.1, p_s.2.2.1, p_s.2.2.2.1, p_s.2.2.2.2.1, p_s.2.2.2.2.2) (w64 (((BitVec.ofInt 64 p_h.1) % (8#64)).toNat : Int)) p_h) fun r1 =>
 some ((r1.1.1, r1.1.2.1, r1.1.2.2.1, r1.1.2.2.2.1, r1.1.2.2.2.2.1, r1.1.2.2.2.2.2), (p_h, r1.2.1.2))
/- (*rolodex/gossip.Pool).ahead -/
 
/- (*rolodex/gossip.Pool).ahead$1 -/
def gossip_Pool_ahead_1_L1 {Sy : Type} (x1 : T_gossip_Pool) (q_1 : Int) (yl : Sy → Int → Option Sy) (y1 : Int) (y2 : Sy) : Option (LR (Int × Sy) Empty) :=
 if (decide (y1 < (x1.2.2.2.length : Int))) = true then (
 Option.bind (lget x1.2.2.2 y1) fun x2 =>
 if (decide (x2.1 = q_1)) = true then (
 Option.bind (yl y2 x2.2) fun y3 =>
 some (.next (w64 (y1 + (1 : Int)), y3))) else (
 some (.next (w64 (y1 + (1 : Int)), y2)))) else (
 some (.brk (y1, y2)))
def gossip_Pool_ahead_1 {Sy : Type} (yl : Sy → Int → Option Sy) (q_0 : Option T_gossip_Pool) (q_1 : Int) (s0 : Sy) : Option Sy :=
 Option.bind (q_0) fun x1 =>
 Option.bind (loopS (fun (s : Int × Sy) => gossip_Pool_ahead_1_L1 x1 q_1 yl s.1 s.2) FU ((0 : Int), s0)) fun (s1 : Int × Sy) =>
 some s1.2
/- (*rolodex/gossip.Pool).Linked -/
def gossip_Pool_Linked_L3 (y4 : List Int) (d : Int) (y5 : Int) : Option (LR Int Int) :=
 if (decide (y5 < (y4.length : Int))) = true then (
 Option.bind (lget y4 y5) fun x3 =>
 if (decide (x3 = d)) = true then (
 some (.ret y5)) else (
 some (.next (w64 (y5 + (1 : Int)))))) else (
 some (.brk y5))
def gossip_Pool_Linked_L2 (y4 : List Int) (d : Int) : Option (List Int) :=
 Option.bind (loopO (fun (s : Int) => gossip_Pool_Linked_L3 y4 d s) FU (0 : Int)) fun o => match o with
 | .inl (s1 : Int) => (
 if y4.length + ([d]).length ≤ AP then (
 some (y4 ++ ([d]))) else none)
 | .inr (s1 : Int) => (
 some y4)
def gossip_Pool_Linked_L1 (p_n : Int) (p_p : Option T_gossip_Pool) (y2 : Int) (y3 : List Int) : Option (LR (Int × (List Int)) Bool) :=
 if (decide (y2 < (y3.length : Int))) = true then (
 Option.bind (lget y3 y2) fun x1 =>
 if (decide (x1 = p_n)) = true then (
 some (.ret true)) else (
 Option.bind (lget y3 y2) fun x2 =>
 Option.bind (gossip_Pool_ahead_1 (fun (s : (List Int)) (d : Int) => gossip_Pool_Linked_L2 s d) p_p x2 y3) fun (s2 : (List Int)) =>
 some (.next (w64 (y2 + (1 : Int)), s2)))) else (
 some (.brk (y2, y3)))
def gossip_Pool_Linked (p_p : Option T_gossip_Pool) (p_m : Int) (p_n : Int) : Option Bool :=
 if (p_p.isNone) = true then (
 some false) else (
 Option.bind (gossip_Pool_place p_p p_m) fun r1 =>
 Option.bind (gossip_Pool_place p_p p_n) fun r2 =>
 Option.bind (if (!r1.2) = true then (
 some true) else (
 some (!r2.2))) fun y1 =>
 if (y1) = true then (
 some false) else (
 Option.bind (loopO (fun (s : Int × (List Int)) => gossip_Pool_Linked_L1 p_n p_p s.1 s.2) FU ((0 : Int), [p_m])) fun o => match o with
 | .inl (s3 : Int × (List Int)) => (
 some false)
 | .inr x => some x))
/- (*rolodex/gossip.Pool).Heads -/
def gossip_Pool_Heads_L1 (p_p : (List (BitVec 8)) × (List T_head_Signed) × (List T_gossip_Fork) × (List T_gossip_link)) (y1 : Int) (y2 : List T_head_Signed) : Option (LR (Int × (List T_head_Signed)) Empty) :=
 if (decide (y1 < (p_p.2.1.length : Int))) = true then (
 Option.bind (lget p_p.2.1 y1) fun x1 =>
 Option.bind (gossip_copied x1) fun r1 =>
 if y2.length + ([r1]).length ≤ AP then (
 some (.next (w64 (y1 + (1 : Int)), (y2 ++ ([r1]))))) else none) else (
 some (.brk (y1, y2)))
def gossip_Pool_Heads (p_p : (List (BitVec 8)) × (List T_head_Signed) × (List T_gossip_Fork) × (List T_gossip_link)) : Option (List T_head_Signed) :=
 Option.bind (loopS (fun (s : Int × (List T_head_Signed)) => gossip_Pool_Heads_L1 p_p s.1 s.2) FU ((0 : Int), ([] : List T_head_Signed))) fun (s1 : Int × (List T_head_Signed)) =>
 some s1.2
/- rolodex/rolodexlaw27.awake -/
def rolodexlaw27_awake : Option Bool :=
 Option.bind (rolodexlaw27_Signer) fun r1 =>
 Option.bind (hss_Signer_Public (r1.1, r1.2.1, r1.2.2.1, r1.2.2.2.1, r1.2.2.2.2.1, r1.2.2.2.2.2)) fun r2 =>
 Option.bind (gossip_New r2) fun r3 =>
 Option.bind (some (((3 : Int), (1 : Int), (Vector.replicate 32 (0#8)), (Vector.replicate 32 (0#8))))) fun x1 =>
 Option.bind (rolodexlaw27_Signed (r1.1, r1.2.1, r1.2.2.1, r1.2.2.2.1, r1.2.2.2.2.1, r1.2.2.2.2.2) x1) fun r4 =>
 Option.bind (gossip_Pool_Put (r3.1, r3.2.1, r3.2.2.1, r3.2.2.2) r4.2) fun r5 =>
 Option.bind (if (decide (r5.2 = (0 : Int))) = true then (
 Option.bind (gossip_Pool_Heads (r5.1.1, r5.1.2.1, r5.1.2.2.1, r5.1.2.2.2)) fun r6 =>
 some (decide ((r6.length : Int) = (1 : Int)))) else (
 some false)) fun y1 =>
 Option.bind (if (y1) = true then (
 Option.bind (gossip_Pool_Linked (some (r5.1.1, r5.1.2.1, r5.1.2.2.1, r5.1.2.2.2)) (3 : Int) (3 : Int)) fun r7 =>
 some r7) else (
 some false)) fun y2 =>
 some y2
/- rolodex/rolodexref15.Leaf -/
/- rolodex/rolodexref17.Entry -/
/- rolodex/rolodexlaw27.entries -/
/- rolodex/rolodexref15.Text -/
/- rolodex/rolodexref15.Node -/
/- rolodex/rolodexref15.List -/
/- rolodex/frontier.may -/
/- math/bits.Len32 -/
/- math/bits.Len64 -/
/- math/bits.Len -/
/- math/bits.TrailingZeros32 -/
/- math/bits.TrailingZeros64 -/
/- math/bits.TrailingZeros -/
/- rolodex/frontier.segment -/
/- rolodex/frontier.Segments -/
/- rolodex/frontier.Formed -/
/- rolodex/frontier.Node -/
/- (rolodex/frontier.stack).put -/
/- (rolodex/frontier.stack).hashes -/
/- rolodex/frontier.Join -/
/- rolodex/frontier.Root -/
/- rolodex/trail.rooted -/
/- rolodex/trail.IsGrowth -/
/- slices.Index[[]rolodex/gossip.link,rolodex/gossip.link] -/
/- slices.Contains[[]rolodex/gossip.link,rolodex/gossip.link] -/
/- (*rolodex/gossip.Pool).Link -/
/- rolodex/rolodexref12.Clash -/
/- rolodex/rolodexref15.May -/
/- rolodex/rolodexref15.Size -/
/- rolodex/rolodexref15.Segments -/
/- rolodex/rolodexref15.First -/
/- rolodex/rolodexref15.Made -/
/- rolodex/rolodexref16.Joined -/
/- rolodex/rolodexref16.Texts -/
/- rolodex/rolodexref16.Tree -/
/- rolodex/rolodexlaw27.GossipSound -/
/- rolodex/rolodexlaw27.few -/
/- rolodex/rolodexref04.Size -/
/- rolodex/rolodexref05.Size -/
/- rolodex/rolodexref04.Recover -/
/- rolodex/rolodexref05.Verify -/
/- rolodex/rolodexref06.Verify -/
/- rolodex/rolodexref17.Right -/
/- (*rolodex/rolodexref27.Pool).At -/
/- (*rolodex/rolodexref27.Pool).Put -/
/- rolodex/rolodexlaw27.to -/
/- rolodex/rolodexref15.Of -/
/- rolodex/rolodexref16.Growth -/
/- rolodex/rolodexlaw27.grown -/
/- rolodex/rolodexref15.Formed -/
/- rolodex/rolodexref15.fold -/
/- rolodex/rolodexref15.Root -/
/- rolodex/rolodexref15.Join -/
/- rolodex/rolodexref16.All -/
/- rolodex/rolodexref16.IsGrowth -/
/- (*rolodex/rolodexref27.Pool).Link -/
/- rolodex/rolodexref27.within -/
/- (*rolodex/rolodexref27.Pool).Linked -/
/- (*rolodex/gossip.Pool).Gaps -/
def gossip_Pool_Gaps_L1 (p_p : Option T_gossip_Pool) (y1 : Int) (y2 : List (Vector Int 2)) : Option (LR (Int × (List (Vector Int 2))) Empty) :=
 Option.bind (p_p) fun x1 =>
 if (decide (y1 < (x1.2.1.length : Int))) = true then (
 Option.bind (p_p) fun x2 =>
 Option.bind (lget x2.2.1 (w64 (y1 - (1 : Int)))) fun x3 =>
 Option.bind (p_p) fun x4 =>
 Option.bind (lget x4.2.1 y1) fun x5 =>
 Option.bind (gossip_Pool_Linked p_p x3.1.1 x5.1.1) fun r1 =>
 if (!r1) = true then (
 Option.bind (some (#v[x3.1.1, x5.1.1])) fun x6 =>
 if y2.length + ([x6]).length ≤ AP then (
 some (.next (w64 (y1 + (1 : Int)), (y2 ++ ([x6]))))) else none) else (
 some (.next (w64 (y1 + (1 : Int)), y2)))) else (
 some (.brk (y1, y2)))
def gossip_Pool_Gaps (p_p : Option T_gossip_Pool) : Option (List (Vector Int 2)) :=
 if (p_p.isNone) = true then (
 some ([] : List (Vector Int 2))) else (
 Option.bind (loopS (fun (s : Int × (List (Vector Int 2))) => gossip_Pool_Gaps_L1 p_p s.1 s.2) FU ((1 : Int), ([] : List (Vector Int 2)))) fun (s1 : Int × (List (Vector Int 2))) =>
 some s1.2)
/- (*rolodex/rolodexref27.Pool).Heads -/
/- (*rolodex/rolodexref27.Pool).Heads__D -/
/- (*rolodex/rolodexref27.Pool).Gaps -/
/- (*rolodex/gossip.Pool).Forks -/
/- rolodex/rolodexref17.Same -/
/- rolodex/rolodexlaw27.same -/
/- rolodex/rolodexlaw27.GossipHonest -/
/- (*rolodex/gossip.Pool).Put__nil -/
def gossip_Pool_Put_nil (p_s : T_head_Signed) : Option Int :=
 some (1 : Int)
/- (*rolodex/gossip.Pool).Link__nil -/
def gossip_Pool_Link_nil (p_m : Int) (p_n : Int) (p_t : T_trail_Trail) : Option Int :=
 some (1 : Int)
/- (*rolodex/gossip.Pool).Heads__nil -/
def gossip_Pool_Heads_nil : Option (List T_head_Signed) :=
 some ([] : List T_head_Signed)
/- (*rolodex/gossip.Pool).Forks__nil -/
def gossip_Pool_Forks_nil : Option (List T_gossip_Fork) :=
 some ([] : List T_gossip_Fork)
/- rolodex/rolodexlaw27.GossipNone -/
def rolodexlaw27_GossipNone (p_m : Int) (p_n : Int) (p_h : T_rolodexref17_Head) : Option Bool :=
 Option.bind (rolodexlaw27_awake) fun r1 =>
 Option.bind (if (r1) = true then (
 Option.bind (some ((p_h, ([] : List (BitVec 8))))) fun x1 =>
 Option.bind (gossip_Pool_Put_nil x1) fun r2 =>
 some (decide (r2 = (1 : Int)))) else (
 some false)) fun y1 =>
 Option.bind (if (y1) = true then (
 Option.bind (gossip_Pool_Link_nil p_m p_n (([] : List T_api_Hash), ([] : List T_api_Hash))) fun r3 =>
 some (decide (r3 = (1 : Int)))) else (
 some false)) fun y2 =>
 Option.bind (if (y2) = true then (
 Option.bind (gossip_Pool_Linked (none : Option T_gossip_Pool) p_m p_n) fun r4 =>
 some (!r4)) else (
 some false)) fun y3 =>
 Option.bind (if (y3) = true then (
 Option.bind (gossip_Pool_Heads_nil) fun r5 =>
 some (decide ((r5.length : Int) = (0 : Int)))) else (
 some false)) fun y4 =>
 Option.bind (if (y4) = true then (
 Option.bind (gossip_Pool_Forks_nil) fun r6 =>
 some (decide ((r6.length : Int) = (0 : Int)))) else (
 some false)) fun y5 =>
 Option.bind (if (y5) = true then (
 Option.bind (gossip_Pool_Gaps (none : Option T_gossip_Pool)) fun r7 =>
 some (decide ((r7.length : Int) = (0 : Int)))) else (
 some false)) fun y6 =>
 some y6
end M
end Go.Sl
set_option linter.unusedSimpArgs false
/-! What the plain proofs lean on: loops that count, loops that go through a list, reading and cutting. -/
namespace Go.Sl
theorem fu_lt {n : Nat} (h : n ≤ 9000000000) : n < FU := by unfold FU; omega
/-! ## Loops -/
theorem loopO_next {σ ρ : Type} {f : σ → Option (LR σ ρ)} {n : Nat} {s s' : σ} (h : f s = some (.next s')) : loopO f (n + 1) s = loopO f n s' := by
  show (match f s with | none => none | some (.next s') => loopO f n s' | some (.brk s') => some (.inl s') | some (.ret r) => some (.inr r)) = _
  rw [h]
theorem loopO_brk {σ ρ : Type} {f : σ → Option (LR σ ρ)} {n : Nat} {s s' : σ} (h : f s = some (.brk s')) : loopO f (n + 1) s = some (.inl s') := by
  show (match f s with | none => none | some (.next s') => loopO f n s' | some (.brk s') => some (.inl s') | some (.ret r) => some (.inr r)) = _
  rw [h]
theorem loopO_ret {σ ρ : Type} {f : σ → Option (LR σ ρ)} {n : Nat} {s : σ} {r : ρ} (h : f s = some (.ret r)) : loopO f (n + 1) s = some (.inr r) := by
  show (match f s with | none => none | some (.next s') => loopO f n s' | some (.brk s') => some (.inl s') | some (.ret r) => some (.inr r)) = _
  rw [h]
/-- By an invariant and a measure. -/
theorem loopO_inv {σ ρ : Type} {f : σ → Option (LR σ ρ)} (I : σ → Prop) (μ : σ → Nat) (Q : σ ⊕ ρ → Prop)
    (h : ∀ s, I s → (∃ s', f s = some (.next s') ∧ I s' ∧ μ s' < μ s) ∨ (∃ s', f s = some (.brk s') ∧ Q (.inl s')) ∨ ∃ r, f s = some (.ret r) ∧ Q (.inr r)) :
    ∀ (n : Nat) (s : σ), I s → μ s < n → ∃ o, loopO f n s = some o ∧ Q o
  | 0, s, _, hn => by omega
  | n + 1, s, hI, hn => by
    rcases h s hI with ⟨s', e, hI', hm⟩ | ⟨s', e, hq⟩ | ⟨r, e, hq⟩
    · rw [loopO_next e]
      exact loopO_inv I μ Q h n s' hI' (by omega)
    · exact ⟨_, loopO_brk e, hq⟩
    · exact ⟨_, loopO_ret e, hq⟩
theorem loopS_inv {σ : Type} {f : σ → Option (LR σ Empty)} (I : σ → Prop) (μ : σ → Nat) (Q : σ → Prop)
    (h : ∀ s, I s → (∃ s', f s = some (.next s') ∧ I s' ∧ μ s' < μ s) ∨ ∃ s', f s = some (.brk s') ∧ Q s') (n : Nat) (s : σ) (hI : I s) (hn : μ s < n) : ∃ s', loopS f n s = some s' ∧ Q s' := by
  obtain ⟨o, ho, hq⟩ := loopO_inv I μ (fun o => match o with | .inl s => Q s | .inr e => e.elim) (fun s hs => (h s hs).elim .inl (fun h => .inr (.inl h))) n s hI hn
  unfold loopS
  rw [ho]
  cases o with
  | inl s' => exact ⟨s', rfl, hq⟩
  | inr e => exact e.elim
theorem loopS_next {σ : Type} {f : σ → Option (LR σ Empty)} {n : Nat} {s s' : σ} (h : f s = some (.next s')) : loopS f (n + 1) s = loopS f n s' := by
  unfold loopS; rw [loopO_next h]
theorem loopS_brk {σ : Type} {f : σ → Option (LR σ Empty)} {n : Nat} {s s' : σ} (h : f s = some (.brk s')) : loopS f (n + 1) s = some s' := by
  unfold loopS; rw [loopO_brk h]
def foldN {σ : Type} (step : Nat → σ → σ) : Nat → Nat → σ → σ
  | _, 0, s => s
  | i, n + 1, s => foldN step (i + 1) n (step i s)
theorem foldN_succ {σ : Type} (step : Nat → σ → σ) : ∀ (n i : Nat) (s : σ), foldN step i (n + 1) s = step (i + n) (foldN step i n s)
  | 0, i, s => rfl
  | n + 1, i, s => by
    show foldN step (i + 1) (n + 1) (step i s) = step (i + (n + 1)) (foldN step (i + 1) n (step i s))
    rw [foldN_succ step n (i + 1), show i + 1 + n = i + (n + 1) by omega]
theorem foldN_add {σ : Type} (step : Nat → σ → σ) : ∀ (n m i : Nat) (s : σ), foldN step i (n + m) s = foldN step (i + n) m (foldN step i n s)
  | 0, m, i, s => by simp [foldN]
  | n + 1, m, i, s => by
    rw [show n + 1 + m = (n + m) + 1 by omega]
    show foldN step (i + 1) (n + m) (step i s) = foldN step (i + (n + 1)) m (foldN step (i + 1) n (step i s))
    rw [foldN_add step n m (i + 1), show i + 1 + n = i + (n + 1) by omega]
theorem foldN_congr {σ : Type} {f g : Nat → σ → σ} : ∀ (n i : Nat) (s : σ), (∀ j, i ≤ j → j < i + n → ∀ s, f j s = g j s) → foldN f i n s = foldN g i n s
  | 0, _, _, _ => rfl
  | n + 1, i, s, h => by
    show foldN f (i + 1) n (f i s) = foldN g (i + 1) n (g i s)
    rw [h i (Nat.le_refl _) (by omega)]
    exact foldN_congr n (i + 1) _ fun j h1 h2 => h j (by omega) (by omega)
/-- A loop that counts. -/
theorem loopS_cnt {τ σ : Type} {f : τ → Option (LR τ Empty)} (en : Nat → σ → τ) (step : Nat → σ → σ) (lo hi : Nat)
    (h : ∀ i s, lo ≤ i → i < hi → f (en i s) = some (.next (en (i + 1) (step i s)))) (he : ∀ s, f (en hi s) = some (.brk (en hi s))) :
    ∀ (n : Nat) (s : σ), lo ≤ hi → hi - lo < n → loopS f n (en lo s) = some (en hi (foldN step lo (hi - lo) s)) := by
  have key : ∀ (d i n : Nat) (s : σ), lo ≤ i → i + d = hi → d < n → loopS f n (en i s) = some (en hi (foldN step i d s)) := by
    intro d
    induction d with
    | zero =>
      intro i n s hl hd hn
      cases n with
      | zero => omega
      | succ n =>
        have : i = hi := by omega
        subst this
        exact loopS_brk (he s)
    | succ d ih =>
      intro i n s hl hd hn
      cases n with
      | zero => omega
      | succ n =>
        rw [loopS_next (h i s hl (by omega))]
        exact ih (i + 1) n (step i s) (by omega) (by omega) (by omega)
  intro n s hle hn
  exact key (hi - lo) lo n s (Nat.le_refl _) (by omega) hn
/-! ## Reading and cutting -/
section
variable {α β : Type}
theorem lget_at {l : List α} {i : Int} {k : Nat} (hi : i = (k : Int)) (h : k < l.length) : lget l i = some l[k] := by
  subst hi
  unfold lget
  rw [if_pos (by omega)]
  simp [h]
theorem vget_at {n : Nat} {v : Vector α n} {i : Int} {k : Nat} (hi : i = (k : Int)) (h : k < n) : vget v i = some v[k] := by
  subst hi
  unfold vget
  rw [if_pos (by omega)]
  simp [h]
theorem lslice_at {l : List α} {lo hi : Int} {a b : Nat} (ha : lo = (a : Int)) (hb : hi = (b : Int)) (h1 : a ≤ b) (h2 : b ≤ l.length) : lslice l lo hi = some ((l.take b).drop a) := by
  subst ha hb
  unfold lslice
  rw [if_pos ⟨by omega, by omega, by omega⟩]
  simp
theorem bind_some' {o : Option α} {f : α → Option β} {x : α} (h : o = some x) : Option.bind o f = f x := by rw [h]; rfl
theorem if_t {c : Prop} [Decidable c] {x y : α} (h : c) : (if c then x else y) = x := if_pos h
theorem if_f {c : Prop} [Decidable c] {x y : α} (h : ¬ c) : (if c then x else y) = y := if_neg h
end
theorem w64_id {n : Int} (h1 : -9223372036854775808 ≤ n) (h2 : n < 9223372036854775808) : w64 n = n := w64_eq ⟨h1, h2⟩
theorem w64_nat {n : Nat} (h : n < 9223372036854775808) : w64 (n : Int) = n := w64_eq ⟨by omega, by omega⟩
end Go.Sl
namespace Go.Sl
/-! ## Loops over a list -/
section
variable {α τ σ ρ : Type}
def runL (step : Nat → σ → α → σ ⊕ ρ) : Nat → σ → List α → σ ⊕ ρ
  | _, s, [] => .inl s
  | i, s, x :: xs => match step i s x with
    | .inl s' => runL step (i + 1) s' xs
    | .inr r => .inr r
theorem loopO_runL {f : τ → Option (LR τ ρ)} (l : List α) (en : Nat → σ → τ) (step : Nat → σ → α → σ ⊕ ρ) (I : Nat → σ → Prop)
    (h : ∀ i s (hi : i < l.length), I i s → f (en i s) = some (match step i s l[i] with | .inl s' => .next (en (i + 1) s') | .inr r => .ret r))
    (hI : ∀ i s s' (hi : i < l.length), I i s → step i s l[i] = .inl s' → I (i + 1) s')
    (he : ∀ s, I l.length s → f (en l.length s) = some (.brk (en l.length s))) :
    ∀ (d i n : Nat) (s : σ), i + d = l.length → d < n → I i s → loopO f n (en i s) = some (match runL step i s (l.drop i) with | .inl s' => .inl (en l.length s') | .inr r => .inr r) := by
  intro d
  induction d with
  | zero =>
    intro i n s hd hn hi
    obtain ⟨n, rfl⟩ : ∃ k, n = k + 1 := ⟨n - 1, by omega⟩
    have : i = l.length := by omega
    subst this
    rw [loopO_brk (he s hi), List.drop_length]; rfl
  | succ d ih =>
    intro i n s hd hn hi
    obtain ⟨n, rfl⟩ : ∃ k, n = k + 1 := ⟨n - 1, by omega⟩
    have hl : i < l.length := by omega
    have h1 := h i s hl hi
    rw [List.drop_eq_getElem_cons hl, runL]
    cases hs : step i s l[i] with
    | inl s' => rw [hs] at h1; rw [loopO_next h1, ih (i + 1) n s' (by omega) (by omega) (hI i s s' hl hi hs)]
    | inr r => rw [hs] at h1; rw [loopO_ret h1]
theorem loopO_run0 {f : τ → Option (LR τ ρ)} (l : List α) (en : Nat → σ → τ) (step : Nat → σ → α → σ ⊕ ρ) (I : Nat → σ → Prop) (s : σ) (hn : l.length ≤ 9000000000) (h0 : I 0 s)
    (h : ∀ i s (hi : i < l.length), I i s → f (en i s) = some (match step i s l[i] with | .inl s' => .next (en (i + 1) s') | .inr r => .ret r))
    (hI : ∀ i s s' (hi : i < l.length), I i s → step i s l[i] = .inl s' → I (i + 1) s')
    (he : ∀ s, I l.length s → f (en l.length s) = some (.brk (en l.length s))) :
    loopO f FU (en 0 s) = some (match runL step 0 s l with | .inl s' => .inl (en l.length s') | .inr r => .inr r) := by
  have := loopO_runL l en step I h hI he l.length 0 FU s (by omega) (fu_lt hn) h0
  simpa using this
/-- Two lists of one length, compared from the front. -/
theorem eqscan [DecidableEq α] {f : Int → Option (LR Int Bool)} (a b : List α) (hl : a.length = b.length) (hn : a.length ≤ 9000000000)
    (h : ∀ i (h1 : i < a.length) (h2 : i < b.length), f (i : Int) = some (if a[i] = b[i] then .next ((i : Int) + 1) else .ret false)) (he : f (a.length : Int) = some (.brk (a.length : Int))) :
    loopO f FU (0 : Int) = some (if a = b then .inl (a.length : Int) else .inr false) := by
  have h1 := loopO_run0 (f := f) a (fun i (_ : Unit) => (i : Int)) (fun i _ x => if b[i]? = some x then .inl () else .inr false) (fun _ _ => True) () hn trivial (fun i s hi _ => by
    rw [h i hi (by omega), List.getElem?_eq_getElem (show i < b.length by omega)]
    by_cases e : a[i] = b[i]
    · rw [if_pos e, if_pos (by rw [e])]; simp
    · rw [if_neg e, if_neg (by simpa using fun e' => e e'.symm)]) (fun _ _ _ _ _ _ => trivial) (fun _ _ => he)
  have key : ∀ (d i : Nat), i + d = a.length → runL (fun i (_ : Unit) x => if b[i]? = some x then .inl () else .inr false) i () (a.drop i) = (if a.drop i = b.drop i then .inl () else .inr false : Unit ⊕ Bool) := by
    intro d
    induction d with
    | zero => intro i hi; rw [List.drop_eq_nil_of_le (by omega), List.drop_eq_nil_of_le (by omega)]; rfl
    | succ d ih =>
      intro i hi
      have h1 : i < a.length := by omega
      have h2 : i < b.length := by omega
      have ea := List.drop_eq_getElem_cons h1
      have eb := List.drop_eq_getElem_cons h2
      rw [ea, eb, runL, List.getElem?_eq_getElem h2]
      by_cases e : a[i] = b[i]
      · rw [if_pos (by rw [e])]
        show runL _ (i + 1) () _ = _
        rw [ih (i + 1) (by omega)]
        by_cases e2 : a.drop (i + 1) = b.drop (i + 1)
        · rw [if_pos e2, if_pos (by rw [e, e2])]
        · rw [if_neg e2, if_neg (by intro hc; injection hc with _ hc; exact e2 hc)]
      · rw [if_neg (by simpa using fun e' => e e'.symm), if_neg (by intro hc; injection hc with hc _; exact e hc)]
  have h2 := key a.length 0 (by omega)
  simp only [List.drop_zero] at h2
  have h3 : loopO f FU (0 : Int) = _ := h1
  rw [h3, h2]
  by_cases e : a = b
  · rw [if_pos e, if_pos e]
  · rw [if_neg e, if_neg e]
/-- A list made out of another one. -/
theorem mapscan {β : Type} {f : Int × List β → Option (LR (Int × List β) Empty)} (l : List α) (g : α → β) (hn : l.length ≤ 9000000000)
    (h : ∀ i (hi : i < l.length) (acc : List β), acc.length = i → f ((i : Int), acc) = some (.next ((i : Int) + 1, acc ++ [g l[i]]))) (he : ∀ acc : List β, f ((l.length : Int), acc) = some (.brk ((l.length : Int), acc))) :
    loopS f FU ((0 : Int), []) = some ((l.length : Int), l.map g) := by
  have h1 := loopS_cnt (f := f) (fun i (_ : Unit) => ((i : Int), (l.take i).map g)) (fun _ s => s) 0 l.length (fun i s _ h2 => by
    rw [h i h2 _ (by simp; omega)]
    rw [List.take_succ_eq_append_getElem h2, List.map_append]; rfl) (fun s => he _) FU () (by omega) (fu_lt hn)
  simpa using h1
end
end Go.Sl
/-! The hash: the program's and the reference's are one. -/
namespace Go.Sl.Pu
open Go.Sl Go.Sl.M
/-! ## Words -/
def gv {w n : Nat} (v : Vector (BitVec w) n) (j : Nat) : BitVec w := v[j]?.getD 0
theorem vget_gv {w n : Nat} {v : Vector (BitVec w) n} {i : Int} {k : Nat} (hi : i = (k : Int)) (h : k < n) : vget v i = some (gv v k) := by
  rw [vget_at hi h]; simp [gv, h]
theorem gv_set_self {w n : Nat} {v : Vector (BitVec w) n} {k : Nat} {x : BitVec w} (h : k < n) : gv (v.setIfInBounds k x) k = x := by
  simp [gv, h]
theorem gv_set_ne {w n : Nat} {v : Vector (BitVec w) n} {k j : Nat} {x : BitVec w} (h : k ≠ j) : gv (v.setIfInBounds k x) j = gv v j := by
  simp [gv, Vector.getElem?_setIfInBounds, h]
theorem set_set {w n : Nat} {v : Vector (BitVec w) n} {k : Nat} {x y : BitVec w} : (v.setIfInBounds k x).setIfInBounds k y = v.setIfInBounds k y := by
  apply Vector.ext; intro i hi
  simp only [Vector.getElem_setIfInBounds]
  split <;> rfl
def gl {w : Nat} (b : List (BitVec w)) (j : Nat) : BitVec w := b.getD j 0
theorem rot_eq {x : BitVec 32} {k : Int} {a b : Nat} (h1 : ((BitVec.ofInt 64 k) &&& 31#64).toNat = a) (h2 : (32#64 - ((BitVec.ofInt 64 k) &&& 31#64)).toNat = b) : math_bits_RotateLeft32 x k = some (x >>> b ||| x <<< a) := by
  unfold math_bits_RotateLeft32
  rw [h1, h2, BitVec.or_comm]; rfl
def rr (x : BitVec 32) (n : Nat) : BitVec 32 := x >>> n ||| x <<< (32 - n)
/-! ## Bytes of a number -/
def be {w : Nat} (x : BitVec w) (k : Nat) : List (BitVec 8) := (List.range k).map fun j => (x >>> (8 * (k - 1 - j))).setWidth 8
theorem be_len {w : Nat} (x : BitVec w) (k : Nat) : (be x k).length = k := by simp [be]
def le {w : Nat} (x : BitVec w) (k : Nat) : List (BitVec 8) := (List.range k).map fun j => (x >>> (8 * j)).setWidth 8
/-- The number that bytes stand for. -/
def val (b : List (BitVec 8)) : BitVec 64 := b.foldl (fun x c => x * 256#64 + c.setWidth 64) 0#64
/-! ## The schedule -/
def sg0 (x : BitVec 32) : BitVec 32 := (rr x 7 ^^^ rr x 18) ^^^ (x >>> 3)
def sg1 (x : BitVec 32) : BitVec 32 := (rr x 17 ^^^ rr x 19) ^^^ (x >>> 10)
def stW (i : Nat) (v : Vector (BitVec 32) 64) : Vector (BitVec 32) 64 := v.setIfInBounds i (((gv v (i - 16) + sg0 (gv v (i - 15))) + gv v (i - 7)) + sg1 (gv v (i - 2)))
theorem sched_L2 (v : Vector (BitVec 32) 64) : loopS (fun (s : Int × (Vector (BitVec 32) 64)) => hash_schedule_L2 s.1 s.2) FU (16, v) = some (64, foldN stW 16 48 v) := by
  refine loopS_cnt (fun i v => ((i : Int), v)) stW 16 64 (fun i v h1 h2 => ?_) (fun v => ?_) FU v (by omega) (fu_lt (by omega))
  · simp only [hash_schedule_L2]
    rw [if_t (by simp; omega), w64_eq (n := (i : Int) - 15) (by omega), w64_eq (n := (i : Int) - 2) (by omega), w64_eq (n := (i : Int) - 16) (by omega), w64_eq (n := (i : Int) - 7) (by omega), w64_eq (n := (i : Int) + 1) (by omega)]
    simp only [vget_gv (n := 64) (v := v) (i := (i : Int) - 15) (k := i - 15) (by omega) (by omega), vget_gv (n := 64) (v := v) (i := (i : Int) - 2) (k := i - 2) (by omega) (by omega), vget_gv (n := 64) (v := v) (i := (i : Int) - 16) (k := i - 16) (by omega) (by omega), vget_gv (n := 64) (v := v) (i := (i : Int) - 7) (k := i - 7) (by omega) (by omega), Option.bind_some,
      rot_eq (k := -7) (a := 25) (b := 7) (by decide) (by decide), rot_eq (k := -18) (a := 14) (b := 18) (by decide) (by decide), rot_eq (k := -17) (a := 15) (b := 17) (by decide) (by decide), rot_eq (k := -19) (a := 13) (b := 19) (by decide) (by decide)]
    rw [if_t ⟨by omega, by omega⟩]
    rfl
  · simp only [hash_schedule_L2]
    rw [if_f (by simp)]
def pb (b : List (BitVec 8)) (i : Nat) (v : Vector (BitVec 32) 64) : Vector (BitVec 32) 64 := v.setIfInBounds (i / 4) ((gv v (i / 4) <<< 8) ||| (gl b i).setWidth 32)
def wd (b : List (BitVec 8)) (t : Nat) : BitVec 32 := ((((gl b (4 * t)).setWidth 32 <<< 8 ||| (gl b (4 * t + 1)).setWidth 32) <<< 8 ||| (gl b (4 * t + 2)).setWidth 32) <<< 8) ||| (gl b (4 * t + 3)).setWidth 32
def pw (b : List (BitVec 8)) (t : Nat) (v : Vector (BitVec 32) 64) : Vector (BitVec 32) 64 := v.setIfInBounds t (wd b t)
theorem pb4 (b : List (BitVec 8)) (t : Nat) (v : Vector (BitVec 32) 64) (ht : t < 64) (h0 : gv v t = 0) : foldN (pb b) (4 * t) 4 v = pw b t v := by
  have e0 : (4 * t) / 4 = t := by omega
  have e1 : (4 * t + 1) / 4 = t := by omega
  have e2 : (4 * t + 1 + 1) / 4 = t := by omega
  have e3 : (4 * t + 1 + 1 + 1) / 4 = t := by omega
  simp only [foldN, pb, e0, e1, e2, e3, gv_set_self ht, set_set, h0, pw, wd]
  simp
theorem gv_pw (b : List (BitVec 8)) : ∀ (t i : Nat) (v : Vector (BitVec 32) 64), (∀ j, i ≤ j → gv v j = 0) → ∀ j, i + t ≤ j → gv (foldN (pw b) i t v) j = 0
  | 0, i, v, h, j, hj => h j (by omega)
  | t + 1, i, v, h, j, hj => gv_pw b t (i + 1) (pw b i v) (fun k hk => by unfold pw; rw [gv_set_ne (by omega)]; exact h k (by omega)) j (by omega)
theorem gv_zero (j : Nat) : gv (Vector.replicate 64 (0#32)) j = 0 := by
  unfold gv
  by_cases h : j < 64
  · simp [h]
  · simp [Vector.getElem?_eq_none (Nat.not_lt.1 h)]
theorem pb_pw (b : List (BitVec 8)) : ∀ (t : Nat), t ≤ 16 → foldN (pb b) 0 (4 * t) (Vector.replicate 64 (0#32)) = foldN (pw b) 0 t (Vector.replicate 64 (0#32))
  | 0, _ => rfl
  | t + 1, h => by
    rw [show 4 * (t + 1) = 4 * t + 4 by omega, foldN_add, pb_pw b t (by omega), foldN_succ (pw b) t 0, Nat.zero_add, Nat.zero_add]
    exact pb4 b t _ (by omega) (gv_pw b t 0 _ (fun j _ => gv_zero j) t (by omega))
theorem sched_L1 (b : List (BitVec 8)) (hb : 64 ≤ b.length) (v : Vector (BitVec 32) 64) : loopS (fun (s : Int × (Vector (BitVec 32) 64)) => hash_schedule_L1 (b.take 64) s.1 s.2) FU (0, v) = some (64, foldN (pb b) 0 64 v) := by
  refine loopS_cnt (fun i v => ((i : Int), v)) (pb b) 0 64 (fun i v h1 h2 => ?_) (fun v => ?_) FU v (by omega) (fu_lt (by omega))
  · simp only [hash_schedule_L1]
    have hd : w64 (Int.tdiv (i : Int) 4) = ((i / 4 : Nat) : Int) := by
      rw [show (4 : Int) = ((4 : Nat) : Int) from rfl, ← Int.ofNat_tdiv]; exact w64_nat (by omega)
    rw [if_t (by simp; omega), hd, w64_eq (n := (i : Int) + 1) (by omega)]
    have hg : lget (b.take 64) (i : Int) = some (gl b i) := by
      rw [lget_at rfl (by simp; omega)]; simp [gl, List.getElem?_eq_getElem (show i < b.length by omega)]
    rw [bind_some' hg, bind_some' (vget_gv rfl (by omega)), if_t ⟨by omega, by omega⟩]
    rfl
  · simp only [hash_schedule_L1]
    rw [if_f (by simp; omega)]
def sched (b : List (BitVec 8)) : Vector (BitVec 32) 64 := foldN stW 16 48 (foldN (pw b) 0 16 (Vector.replicate 64 (0#32)))
theorem schedule_eq (b : List (BitVec 8)) (hb : 64 ≤ b.length) : hash_schedule b = some (sched b) := by
  unfold hash_schedule
  rw [bind_some' (lslice_at (lo := 0) (hi := 64) (a := 0) (b := 64) rfl rfl (by omega) hb), List.drop_zero, bind_some' (sched_L1 b hb _)]
  have := pb_pw b 16 (by omega)
  rw [show 4 * 16 = 64 from rfl] at this
  simp only [this, sched_L2, Option.bind_some]
  rfl
end Go.Sl.Pu
namespace Go.Sl.Pu
open Go.Sl Go.Sl.M
def rnd (w : Vector (BitVec 32) 64) (i : Nat) (v : Vector (BitVec 32) 8) : Vector (BitVec 32) 8 :=
  #v[((((v[7] + ((rr v[4] 6 ^^^ rr v[4] 11) ^^^ rr v[4] 25)) + (v[6] ^^^ (v[4] &&& (v[5] ^^^ v[6])))) + gv G_hash_rounds i) + gv w i) + (((rr v[0] 2 ^^^ rr v[0] 13) ^^^ rr v[0] 22) + ((v[0] &&& v[1]) ||| (v[2] &&& (v[0] ||| v[1])))),
    v[0], v[1], v[2], v[3] + ((((v[7] + ((rr v[4] 6 ^^^ rr v[4] 11) ^^^ rr v[4] 25)) + (v[6] ^^^ (v[4] &&& (v[5] ^^^ v[6])))) + gv G_hash_rounds i) + gv w i), v[4], v[5], v[6]]
theorem bl_step (w : Vector (BitVec 32) 64) (v : Vector (BitVec 32) 8) (i : Nat) (h2 : i < 64) : hash_state_block_L1 w (i : Int) v = some (.next (((i + 1 : Nat) : Int), rnd w i v)) := by
    unfold hash_state_block_L1
    rw [if_t (by simp; omega), w64_eq (n := (i : Int) + 1) (by omega)]
    rw [bind_some' (rot_eq (k := -6) (a := 26) (b := 6) (by decide) (by decide))]
    rw [bind_some' (rot_eq (k := -11) (a := 21) (b := 11) (by decide) (by decide))]
    rw [bind_some' (rot_eq (k := -25) (a := 7) (b := 25) (by decide) (by decide))]
    rw [bind_some' (vget_gv (n := 64) (i := (i : Int)) (k := i) rfl h2)]
    rw [bind_some' (vget_gv (n := 64) (i := (i : Int)) (k := i) rfl h2)]
    rw [Option.bind_some]
    rw [bind_some' (rot_eq (k := -2) (a := 30) (b := 2) (by decide) (by decide))]
    rw [bind_some' (rot_eq (k := -13) (a := 19) (b := 13) (by decide) (by decide))]
    rw [bind_some' (rot_eq (k := -22) (a := 10) (b := 22) (by decide) (by decide))]
    rw [Option.bind_some]
    rw [Option.bind_some]
    rfl
theorem bl_end (w : Vector (BitVec 32) 64) (v : Vector (BitVec 32) 8) : hash_state_block_L1 w ((64 : Nat) : Int) v = some (.brk (((64 : Nat) : Int), v)) := by
  unfold hash_state_block_L1
  exact if_neg (by simp)
theorem block_L1 (w : Vector (BitVec 32) 64) (v : T_hash_state) : loopS (fun (s : Int × T_hash_state) => hash_state_block_L1 w s.1 s.2) FU (0, v) = some (64, foldN (rnd w) 0 64 v) := by
  have h := loopS_cnt (f := fun (s : Int × T_hash_state) => hash_state_block_L1 w s.1 s.2) (fun i (v : T_hash_state) => ((i : Int), v)) (rnd w) 0 64 (fun i v h1 h2 => bl_step w v i h2) (fun v => bl_end w v) FU v (by omega) (fu_lt (by omega))
  rw [Nat.sub_zero] at h
  exact h
def ladd (a : Vector (BitVec 32) 8) (i : Nat) (v : Vector (BitVec 32) 8) : Vector (BitVec 32) 8 := v.setIfInBounds i (gv v i + gv a i)
theorem add_L2 (a v : Vector (BitVec 32) 8) : loopS (fun (s : Int × (Vector (BitVec 32) 8)) => rolodexref02_take_L2 a s.1 s.2) FU (0, v) = some (8, foldN (ladd a) 0 8 v) := by
  refine loopS_cnt (fun i v => ((i : Int), v)) (ladd a) 0 8 (fun i v h1 h2 => ?_) (fun v => ?_) FU v (by omega) (fu_lt (by omega))
  · simp only [rolodexref02_take_L2]
    rw [if_t (by simp; omega), w64_eq (n := (i : Int) + 1) (by omega)]
    simp only [Option.bind_some, vget_gv (n := 8) (i := (i : Int)) (k := i) rfl h2]
    rw [if_t ⟨by omega, by omega⟩]
    rfl
  · simp only [rolodexref02_take_L2]
    rw [if_f (by simp)]
theorem addp_L2 (a v : Vector (BitVec 32) 8) : loopS (fun (s : Int × T_hash_state) => hash_state_block_L2 a s.1 s.2) FU (0, v) = some (8, foldN (ladd a) 0 8 v) := add_L2 a v
def blk (s : Vector (BitVec 32) 8) (b : List (BitVec 8)) : Vector (BitVec 32) 8 := foldN (ladd (foldN (rnd (sched b)) 0 64 s)) 0 8 s
theorem block_eq (s : Vector (BitVec 32) 8) (b : List (BitVec 8)) (hb : 64 ≤ b.length) : hash_state_block s b = some (blk s b) := by
  unfold hash_state_block
  rw [bind_some' (schedule_eq b hb)]
  simp only [block_L1, addp_L2, Option.bind_some]
  rfl
/-- A block is told by its first 64 bytes. -/
theorem blk_congr (s : Vector (BitVec 32) 8) {b b' : List (BitVec 8)} (h : ∀ i, i < 64 → gl b i = gl b' i) : blk s b = blk s b' := by
  have : sched b = sched b' := by
    unfold sched
    rw [foldN_congr (f := pw b) (g := pw b') 16 0 _ fun j _ hj v => ?_]
    unfold pw wd
    rw [h (4 * j) (by omega), h (4 * j + 1) (by omega), h (4 * j + 2) (by omega), h (4 * j + 3) (by omega)]
  unfold blk
  rw [this]
def outv (h : Vector (BitVec 32) 8) : Vector (BitVec 8) 32 := foldN (fun i (o : Vector (BitVec 8) 32) => o.setIfInBounds i ((gv h (i / 4) >>> (24 - 8 * (i % 4))).setWidth 8)) 0 32 (Vector.replicate 32 (0#8))
theorem out_L3 (h : Vector (BitVec 32) 8) : loopS (fun (s : Int × T_api_Hash) => hash_Sum_L3 h s.1 s.2) FU (0, Vector.replicate 32 (0#8)) = some (32, outv h) := by
  refine loopS_cnt (fun i v => ((i : Int), v)) (fun i (o : Vector (BitVec 8) 32) => o.setIfInBounds i ((gv h (i / 4) >>> (24 - 8 * (i % 4))).setWidth 8)) 0 32 (fun i v h1 h2 => ?_) (fun v => ?_) FU _ (by omega) (fu_lt (by omega))
  · simp only [hash_Sum_L3]
    have hd : w64 (Int.tdiv (i : Int) 4) = ((i / 4 : Nat) : Int) := by
      rw [show (4 : Int) = ((4 : Nat) : Int) from rfl, ← Int.ofNat_tdiv]; exact w64_nat (by omega)
    have hm : Int.tmod (i : Int) 4 = ((i % 4 : Nat) : Int) := by
      rw [show (4 : Int) = ((4 : Nat) : Int) from rfl, ← Int.ofNat_tmod]
    rw [if_t (by simp; omega), hd, bind_some' (vget_gv rfl (by omega)), hm, w64_eq (n := 8 * ((i % 4 : Nat) : Int)) (by omega), w64_eq (n := 24 - 8 * ((i % 4 : Nat) : Int)) (by omega), if_t (by omega), if_t ⟨by omega, by omega⟩, w64_eq (n := (i : Int) + 1) (by omega)]
    have : (24 - 8 * ((i % 4 : Nat) : Int)).toNat = 24 - 8 * (i % 4) := by omega
    rw [this]
    rfl
  · simp only [hash_Sum_L3]
    rw [if_f (by simp)]
/-! ## The padded text -/
def zs (n : Nat) : Nat := if n % 64 < 56 then 55 - n % 64 else 119 - n % 64
def pad (b : List (BitVec 8)) : List (BitVec 8) := b ++ ([128#8] ++ (List.replicate (zs b.length) (0#8) ++ be ((BitVec.ofNat 64 b.length) <<< 3) 8))
theorem pad_len (b : List (BitVec 8)) : (pad b).length = b.length + zs b.length + 9 := by
  simp [pad, be_len]; omega
def shaK (p : List (BitVec 8)) (k : Nat) : Vector (BitVec 32) 8 := foldN (fun i s => blk s (p.drop (64 * i))) 0 k G_hash_begin
/-- The hash. -/
def sha (b : List (BitVec 8)) : Vector (BitVec 8) 32 := outv (shaK (pad b) ((pad b).length / 64))
theorem gl_take (b : List (BitVec 8)) {i k : Nat} (h : i < k) : gl (b.take k) i = gl b i := by
  simp only [gl, List.getD_eq_getElem?_getD, List.getElem?_take, if_pos h]
theorem gl_drop (b : List (BitVec 8)) (i k : Nat) : gl (b.drop k) i = gl b (k + i) := by
  simp only [gl, List.getD_eq_getElem?_getD, List.getElem?_drop]
end Go.Sl.Pu
namespace Go.Sl.Pu
open Go.Sl Go.Sl.M
theorem gl_append (a b : List (BitVec 8)) (i : Nat) : gl (a ++ b) i = if i < a.length then gl a i else gl b (i - a.length) := by
  simp only [gl, List.getD_eq_getElem?_getD]
  split
  · rename_i h; rw [List.getElem?_append_left h]
  · rename_i h; rw [List.getElem?_append_right (by omega)]
theorem gl_zeros (n i : Nat) : gl (List.replicate n (0#8)) i = 0 := by
  simp only [gl, List.getD_eq_getElem?_getD, List.getElem?_replicate]
  split <;> rfl
theorem gl_be {w : Nat} (x : BitVec w) (k i : Nat) (h : i < k) : gl (be x k) i = (x >>> (8 * (k - 1 - i))).setWidth 8 := by
  simp [gl, be, h]
theorem gl_ge (b : List (BitVec 8)) (i : Nat) (h : b.length ≤ i) : gl b i = 0 := by
  simp [gl, List.getElem?_eq_none h]
theorem gl_vec {n : Nat} (v : Vector (BitVec 8) n) (j : Nat) : gl v.toList j = gv v j := by
  simp only [gl, gv, List.getD_eq_getElem?_getD]
  by_cases h : j < n
  · simp [h]
  · rw [List.getElem?_eq_none (by simpa using h), Vector.getElem?_eq_none (by omega)]
theorem gv_vput {n : Nat} (l : List (BitVec 8)) (h : l.length ≤ n) (j : Nat) : gv (vput (Vector.replicate n (0#8)) 0 l) j = gl l j := by
  rw [← gl_vec, vput_toList _ _ _ (by omega)]
  simp only [List.take_zero, List.nil_append]
  rw [gl_append]
  split
  · rfl
  · rename_i hj
    rw [gl_drop, gl_vec, gl_ge l j (by omega)]
    unfold gv
    by_cases h2 : 0 + l.length + (j - l.length) < n
    · rw [Vector.getElem?_eq_getElem h2]; simp
    · rw [Vector.getElem?_eq_none (by omega)]; rfl
def tset (S : Nat) (x : BitVec 64) (i : Nat) (v : Vector (BitVec 8) 128) : Vector (BitVec 8) 128 := v.setIfInBounds (S - 1 - i) ((x >>> (8 * i)).setWidth 8)
theorem gv_tset (S : Nat) (x : BitVec 64) (hS : S ≤ 128) (v : Vector (BitVec 8) 128) : ∀ (k : Nat), k ≤ S → ∀ j, gv (foldN (tset S x) 0 k v) j = if S - k ≤ j ∧ j < S then (x >>> (8 * (S - 1 - j))).setWidth 8 else gv v j
  | 0, _, j => by rw [if_neg (by omega)]; rfl
  | k + 1, hk, j => by
    rw [foldN_succ, Nat.zero_add]
    unfold tset
    by_cases hj : S - 1 - k = j
    · subst hj
      rw [gv_set_self (by omega), if_pos ⟨by omega, by omega⟩]
      congr 2; omega
    · rw [gv_set_ne hj]
      have ih := gv_tset S x hS v k (by omega) j
      unfold tset at ih
      rw [ih]
      by_cases h2 : S - k ≤ j ∧ j < S
      · rw [if_pos h2, if_pos ⟨by omega, h2.2⟩]
      · rw [if_neg h2, if_neg (by omega)]
theorem sum_L1 (b : List (BitVec 8)) (hb : b.length ≤ 4000000000) : loopS (fun (s : (List (BitVec 8)) × T_hash_state) => hash_Sum_L1 s.1 s.2) FU (b, G_hash_begin) = some (b.drop (64 * (b.length / 64)), foldN (fun i s => blk s (b.drop (64 * i))) 0 (b.length / 64) G_hash_begin) := by
  have h := loopS_cnt (f := fun (s : (List (BitVec 8)) × T_hash_state) => hash_Sum_L1 s.1 s.2) (fun i (v : T_hash_state) => (b.drop (64 * i), v)) (fun i s => blk s (b.drop (64 * i))) 0 (b.length / 64) (fun i v h1 h2 => by
    simp only [hash_Sum_L1]
    have hl : (b.drop (64 * i)).length = b.length - 64 * i := by simp
    rw [if_t (by rw [hl]; simp; omega), bind_some' (block_eq _ _ (by rw [hl]; omega)), bind_some' (lslice_at (lo := 64) (a := 64) (b := (b.drop (64 * i)).length) rfl rfl (by rw [hl]; omega) (Nat.le_refl _)), List.take_length, List.drop_drop]
    rw [show 64 * i + 64 = 64 * (i + 1) by omega]) (fun v => by
    simp only [hash_Sum_L1]
    rw [if_f (by simp; omega)]) FU G_hash_begin (by omega) (fu_lt (by omega))
  exact h
theorem sum_L2 (S : Nat) (b : List (BitVec 8)) (hS : S = 64 ∨ S = 128) (v : Vector (BitVec 8) 128) : loopS (fun (s : Int × (Vector (BitVec 8) 128)) => hash_Sum_L2 (S : Int) b s.1 s.2) FU ((0 : Int), v) = some ((8 : Int), foldN (tset S ((BitVec.ofNat 64 b.length) <<< 3)) 0 8 v) := by
  refine loopS_cnt (fun i v => ((i : Int), v)) (tset S ((BitVec.ofNat 64 b.length) <<< 3)) 0 8 (fun i v h1 h2 => ?_) (fun v => ?_) FU v (by omega) (fu_lt (by omega))
  · simp only [hash_Sum_L2]
    rw [if_t (by simp; omega), w64_eq (n := 8 * (i : Int)) (by omega), if_t (by omega), w64_eq (n := (S : Int) - 1) (by omega), w64_eq (n := (S : Int) - 1 - (i : Int)) (by omega), if_t ⟨by omega, by omega⟩, w64_eq (n := (i : Int) + 1) (by omega)]
    have e1 : ((S : Int) - 1 - (i : Int)).toNat = S - 1 - i := by omega
    have e2 : (8 * (i : Int)).toNat = 8 * i := by omega
    rw [e1, e2]
    rfl
  · simp only [hash_Sum_L2]
    rw [if_f (by simp)]
theorem sum_eq (b : List (BitVec 8)) (hb : b.length ≤ 4000000000) : hash_Sum b = some (sha b) := by
  unfold hash_Sum
  rw [bind_some' (sum_L1 b hb)]
  generalize hst : foldN (fun i s => blk s (b.drop (64 * i))) 0 (b.length / 64) G_hash_begin = st
  have hl : (b.drop (64 * (b.length / 64))).length = b.length % 64 := by simp; omega
  have hst2 : shaK (pad b) (b.length / 64) = st := by
    rw [← hst]
    unfold shaK
    refine foldN_congr _ 0 _ fun i _ hi s => ?_
    refine blk_congr s fun j hj => ?_
    rw [gl_drop, gl_drop]
    unfold pad
    rw [gl_append, if_pos (by omega)]
  have hsize : (if (decide ((56 : Int) ≤ ((b.drop (64 * (b.length / 64))).length : Int))) = true then some (128 : Int) else some (64 : Int)) = some (((if b.length % 64 < 56 then 64 else 128 : Nat)) : Int) := by
    rw [hl]
    by_cases h : b.length % 64 < 56
    · rw [if_neg (by simp; omega), if_pos h]; rfl
    · rw [if_pos (by simp; omega), if_neg h]; rfl
  simp only []
  rw [hsize]
  generalize hS : (if b.length % 64 < 56 then 64 else 128 : Nat) = S
  have hS2 : S = 64 ∨ S = 128 := by rw [← hS]; split <;> simp
  rw [Option.bind_some, if_t ⟨by omega, by rw [hl]; omega⟩, Option.bind_some]
  rw [bind_some' (sum_L2 S b hS2 _)]
  simp only []
  generalize hT : foldN (tset S ((BitVec.ofNat 64 b.length) <<< 3)) 0 8 ((vput (Vector.replicate 128 (0#8)) 0 ((b.drop (64 * (b.length / 64))).take 128)).setIfInBounds ((b.drop (64 * (b.length / 64))).length : Int).toNat (128#8)) = T
  -- the tail is the padded text's end
  have htail : ∀ j, j < S → gl T.toList j = gl ((pad b).drop (64 * (b.length / 64))) j := by
    intro j hj
    rw [gl_vec, ← hT, gv_tset S _ (by omega) _ 8 (by omega), gl_drop]
    have hr : ((b.drop (64 * (b.length / 64))).length : Int).toNat = b.length % 64 := by rw [hl]; omega
    rw [hr]
    unfold pad
    rw [gl_append, gl_append, gl_append]
    simp only [List.length_cons, List.length_nil, List.length_replicate]
    have hz : zs b.length = S - 9 - b.length % 64 := by
      rw [← hS]; unfold zs; split <;> omega
    have hz2 : b.length % 64 ≤ S - 9 := by rw [← hS]; split <;> omega
    have hz3 : 64 ≤ S := by omega
    by_cases h1 : S - 8 ≤ j ∧ j < S
    · rw [if_pos h1, if_neg (by rw [← hS] at h1; split at h1 <;> omega), if_neg (by rw [← hS] at h1; split at h1 <;> omega), if_neg (by rw [hz]; omega), gl_be _ _ _ (by rw [hz]; omega)]
      congr 2
      rw [hz]; omega
    · rw [if_neg h1]
      by_cases h2 : b.length % 64 = j
      · rw [h2, gv_set_self (by omega), if_neg (by omega), if_pos (by omega)]
        have : 64 * (b.length / 64) + j - b.length = 0 := by omega
        rw [this]; rfl
      · rw [gv_set_ne h2, gv_vput _ (by simp; omega), gl_take _ (by omega), gl_drop]
        by_cases h3 : j < b.length % 64
        · rw [if_pos (by omega)]
        · rw [if_neg (by omega), if_neg (by omega), if_pos (by rw [hz]; omega), gl_zeros, gl_ge _ _ (by omega)]
  rw [bind_some' (block_eq _ _ (by simp))]
  have hb1 : blk st T.toList = shaK (pad b) (b.length / 64 + 1) := by
    unfold shaK
    rw [foldN_succ, Nat.zero_add]
    show _ = blk (shaK (pad b) (b.length / 64)) _
    rw [hst2]
    exact blk_congr st fun j hj => htail j (by omega)
  have hlen := pad_len b
  have hK : (pad b).length / 64 = b.length / 64 + S / 64 := by
    rw [hlen, ← hS]; unfold zs; split <;> omega
  rcases hS2 with rfl | rfl
  · rw [if_f (by simp), Option.bind_some]
    rw [bind_some' (out_L3 _), hb1]
    unfold sha
    rw [hK]
  · rw [if_t (by simp), bind_some' (block_eq _ _ (by simp)), Option.bind_some]
    rw [bind_some' (out_L3 _)]
    unfold sha
    rw [hK, hb1]
    have : blk (shaK (pad b) (b.length / 64 + 1)) ((T.toList.drop 64).take 64) = shaK (pad b) (b.length / 64 + 128 / 64) := by
      rw [show b.length / 64 + 128 / 64 = (b.length / 64 + 1) + 1 by omega]
      conv => rhs; unfold shaK
      rw [foldN_succ, Nat.zero_add]
      show _ = blk (shaK (pad b) (b.length / 64 + 1)) _
      refine blk_congr _ fun j hj => ?_
      rw [gl_take _ hj, gl_drop, htail _ (by omega), gl_drop, gl_drop]
      congr 1; omega
    rw [this]
end Go.Sl.Pu
namespace Go.Sl
namespace Pu
open Go.Sl Go.Sl.M
def body (parts : List (List (BitVec 8))) : List (BitVec 8) := parts.flatMap fun p => be (BitVec.ofNat 32 p.length) 4 ++ p
def text (tag : BitVec 8) (parts : List (List (BitVec 8))) : List (BitVec 8) := tag :: body parts
def tsize (parts : List (List (BitVec 8))) : Nat := (parts.map fun p => 4 + p.length).sum
theorem body_len (parts : List (List (BitVec 8))) : (body parts).length = tsize parts := by
  unfold body tsize
  rw [List.length_flatMap]
  congr 1
  apply List.map_congr_left
  intro p _
  rw [List.length_append, be_len]
theorem tsize_take (parts : List (List (BitVec 8))) (i : Nat) (hi : i < parts.length) : tsize (parts.take (i + 1)) = tsize (parts.take i) + (4 + parts[i].length) := by
  unfold tsize
  rw [List.take_succ_eq_append_getElem hi]; simp only [List.map_append, List.map_cons, List.map_nil, List.sum_append, List.sum_cons, List.sum_nil, Nat.add_zero]
theorem body_take (parts : List (List (BitVec 8))) (i : Nat) (hi : i < parts.length) : body (parts.take (i + 1)) = (body (parts.take i) ++ be (BitVec.ofNat 32 parts[i].length) 4) ++ parts[i] := by
  unfold body
  rw [List.take_succ_eq_append_getElem hi]; simp only [List.flatMap_append, List.flatMap_cons, List.flatMap_nil, List.append_nil, List.append_assoc]
theorem tsize_le (parts : List (List (BitVec 8))) (i : Nat) : tsize (parts.take i) ≤ tsize parts := by
  unfold tsize
  conv => rhs; rw [← List.take_append_drop i parts]
  rw [List.map_append, List.sum_append]; omega
theorem be4 (n : Nat) : be (BitVec.ofNat 32 n) 4 = [((BitVec.ofInt 32 (n : Int)) >>> 24).setWidth 8, ((BitVec.ofInt 32 (n : Int)) >>> 16).setWidth 8, ((BitVec.ofInt 32 (n : Int)) >>> 8).setWidth 8, (BitVec.ofInt 32 (n : Int)).setWidth 8] := by
  have e : BitVec.ofInt 32 (n : Int) = BitVec.ofNat 32 n := by
    apply BitVec.eq_of_toNat_eq; simp
  rw [e]
  simp [be, List.range_succ]
theorem tsize_len : ∀ (parts : List (List (BitVec 8))), 4 * parts.length ≤ tsize parts
  | [] => by simp
  | q :: r => by
    have e : tsize (q :: r) = 4 + q.length + tsize r := by simp [tsize]
    have := tsize_len r
    rw [e, List.length_cons]; omega
theorem text_eq (tag : BitVec 8) (parts : List (List (BitVec 8))) (hs : tsize parts ≤ 4000000000) : hash_Text tag parts = some (text tag parts) := by
  have hpl := tsize_len parts
  unfold hash_Text
  have h1 := loopS_cnt (f := fun (s : Int × Int) => hash_Text_L1 parts s.1 s.2) (fun i (_ : Unit) => ((1 + tsize (parts.take i) : Nat), (i : Int))) (fun _ s => s) 0 parts.length (fun i s h1 h2 => by
      simp only [hash_Text_L1]
      have h3 := tsize_take parts i h2
      have h4 := tsize_le parts (i + 1)
      rw [if_t (by simp; omega), bind_some' (lget_at rfl h2), w64_eq (n := 4 + (parts[i].length : Int)) (by omega), w64_eq (by omega), Option.bind_some, w64_eq (n := (i : Int) + 1) (by omega), h3]
      have : ((1 + tsize (parts.take i) : Nat) : Int) + (4 + (parts[i].length : Int)) = ((1 + (tsize (parts.take i) + (4 + parts[i].length)) : Nat) : Int) := by omega
      rw [this]; rfl) (fun s => by
      simp only [hash_Text_L1]
      rw [if_f (by simp)]) FU () (by omega) (fu_lt (by omega))
  have e0 : (((1 : Int), (0 : Int)) : Int × Int) = (((1 + tsize (parts.take 0) : Nat) : Int), ((0 : Nat) : Int)) := by simp [tsize]
  rw [e0, bind_some' h1, List.take_length]
  rw [if_t ⟨by omega, by omega⟩, if_t (by simp [AP])]
  have h2 := loopS_cnt (f := fun (s : Int × (List (BitVec 8))) => hash_Text_L2 parts s.1 s.2) (fun i (_ : Unit) => ((i : Int), tag :: body (parts.take i))) (fun _ s => s) 0 parts.length (fun i s h1 h2 => by
      simp only [hash_Text_L2]
      have h3 := tsize_take parts i h2
      have h4 := tsize_le parts (i + 1)
      have h5 := body_len (parts.take i)
      rw [if_t (by simp; omega), bind_some' (lget_at rfl h2), if_t (by simp [AP]; omega), if_t (by simp [AP]; omega), w64_eq (n := (i : Int) + 1) (by omega), ← be4, body_take parts i h2]
      rfl) (fun s => by
      simp only [hash_Text_L2]
      rw [if_f (by simp)]) FU () (by omega) (fu_lt (by omega))
  have e1 : (((0 : Int), ([] : List (BitVec 8)) ++ [tag]) : Int × List (BitVec 8)) = (((0 : Nat) : Int), tag :: body (parts.take 0)) := by simp [body]
  rw [e1, bind_some' h2, List.take_length]
  rfl
def tagged (tag : BitVec 8) (parts : List (List (BitVec 8))) : Vector (BitVec 8) 32 := sha (text tag parts)
theorem text_len (tag : BitVec 8) (parts : List (List (BitVec 8))) : (text tag parts).length = tsize parts + 1 := by
  unfold text; rw [List.length_cons, body_len]
theorem tagged_eq (tag : BitVec 8) (parts : List (List (BitVec 8))) (hs : tsize parts ≤ 3000000000) : hash_Tagged tag parts = some (tagged tag parts) := by
  unfold hash_Tagged
  rw [bind_some' (text_eq tag parts (by omega)), bind_some' (sum_eq _ (by rw [text_len]; omega))]
  rfl
end Pu
end Go.Sl
namespace Go.Sl
/-! ## Loops that hand things to a function -/
section
variable {σ τ α : Type}
def foldO (y : σ → α → Option σ) : σ → List α → Option σ
  | s, [] => some s
  | s, x :: xs => Option.bind (y s x) fun s' => foldO y s' xs
theorem foldO_append (y : σ → α → Option σ) : ∀ (a b : List α) (s : σ), foldO y s (a ++ b) = Option.bind (foldO y s a) fun s' => foldO y s' b
  | [], b, s => rfl
  | x :: a, b, s => by
    rw [List.cons_append, foldO, foldO]
    cases y s x with
    | none => rfl
    | some s' => simp only [Option.bind_some]; exact foldO_append y a b s'
theorem loopS_none {f : τ → Option (LR τ Empty)} {n : Nat} {s : τ} (h : f s = none) : loopS f (n + 1) s = none := by
  unfold loopS loopO; rw [h]
theorem loopS_foldM {f : τ → Option (LR τ Empty)} (l : List α) (en : Nat → σ → τ) (y : σ → α → Option σ)
    (h : ∀ i s (hi : i < l.length), f (en i s) = Option.bind (y s l[i]) fun s' => some (.next (en (i + 1) s')))
    (he : ∀ s, f (en l.length s) = some (.brk (en l.length s))) (hn : l.length ≤ 9000000000) (s : σ) :
    loopS f FU (en 0 s) = Option.bind (foldO y s l) fun s' => some (en l.length s') := by
  have key : ∀ (d i n : Nat) (s : σ), i + d = l.length → d < n → loopS f n (en i s) = Option.bind (foldO y s (l.drop i)) fun s' => some (en l.length s') := by
    intro d
    induction d with
    | zero =>
      intro i n s hd hn
      obtain ⟨n, rfl⟩ : ∃ k, n = k + 1 := ⟨n - 1, by omega⟩
      have : i = l.length := by omega
      subst this
      rw [loopS_brk (he s), List.drop_length]; rfl
    | succ d ih =>
      intro i n s hd hn
      obtain ⟨n, rfl⟩ : ∃ k, n = k + 1 := ⟨n - 1, by omega⟩
      have hl : i < l.length := by omega
      have h1 := h i s hl
      rw [List.drop_eq_getElem_cons hl, foldO]
      cases hy : y s l[i] with
      | none => rw [hy] at h1; rw [loopS_none h1]; rfl
      | some s' =>
        rw [hy, Option.bind_some] at h1
        rw [loopS_next h1, Option.bind_some]
        exact ih (i + 1) n s' (by omega) (by omega)
  have := key l.length 0 FU s (by omega) (fu_lt hn)
  simpa using this
theorem foldO_flatMap {β : Type} (y : σ → α → Option σ) (g : β → List α) : ∀ (b : List β) (s : σ), foldO (fun s c => foldO y s (g c)) s b = foldO y s (b.flatMap g)
  | [], s => rfl
  | c :: b, s => by
    rw [List.flatMap_cons, foldO_append, foldO]
    congr 1; funext s'
    exact foldO_flatMap y g b s'
end
theorem ishr_nat (a k : Nat) (hk : k ≤ 64) : ishr (a : Int) (k : Int) = ((a / 2 ^ k : Nat) : Int) := by
  unfold ishr
  rw [Int.toNat_natCast, Nat.min_eq_left hk]
  have : ((2 : Int) ^ k) = ((2 ^ k : Nat) : Int) := by simp
  rw [this, Int.fdiv_eq_ediv_of_nonneg _ (Int.natCast_nonneg _)]; simp
theorem ishl_nat (a k : Nat) (hk : k ≤ 64) (h : a * 2 ^ k < 9223372036854775808) : ishl (a : Int) (k : Int) = ((a * 2 ^ k : Nat) : Int) := by
  unfold ishl
  rw [Int.toNat_natCast, Nat.min_eq_left hk]
  have : ((2 : Int) ^ k) = ((2 ^ k : Nat) : Int) := by simp
  rw [this, ← Int.natCast_mul, w64_nat h]
theorem iand_mask (a k : Nat) (hk : k ≤ 32) (ha : a < 9223372036854775808) : iand (a : Int) ((2 ^ k - 1 : Nat) : Int) = ((a % 2 ^ k : Nat) : Int) := by
  unfold iand
  have e : ∀ n : Nat, BitVec.ofInt 64 (n : Int) = BitVec.ofNat 64 n := fun n => by apply BitVec.eq_of_toNat_eq; simp
  have h2 : 2 ^ k ≤ 2 ^ 32 := Nat.pow_le_pow_right (by decide) hk
  have h3 : (2 : Nat) ^ 32 = 4294967296 := by decide
  have h4 : (2 : Nat) ^ 64 = 18446744073709551616 := by decide
  rw [e, e, BitVec.toNat_and, BitVec.toNat_ofNat, BitVec.toNat_ofNat, h4, Nat.mod_eq_of_lt (by omega), Nat.mod_eq_of_lt (by omega), Nat.and_two_pow_sub_one_eq_mod]
  have := Nat.mod_lt a (Nat.two_pow_pos k)
  exact w64_nat (by omega)
namespace Pu
open Go.Sl Go.Sl.M
/-- The bits of a kind's digit; its chains; its shift. -/
def bitsN : Nat → Nat
  | 1 => 1 | 2 => 2 | 3 => 4 | 4 => 8 | _ => 0
def chainsN : Nat → Nat
  | 1 => 265 | 2 => 133 | 3 => 67 | 4 => 34 | _ => 0
def shiftN : Nat → Nat
  | 1 => 7 | 2 => 6 | 3 => 4 | _ => 0
def IsKind (k : Nat) : Prop := k = 1 ∨ k = 2 ∨ k = 3 ∨ k = 4
instance (k : Nat) : Decidable (IsKind k) := by unfold IsKind; infer_instance
abbrev frm (k : Nat) : T_lmots_form := ((bitsN k : Int), (chainsN k : Int), (shiftN k : Int))
theorem of_eq {k : Nat} (hk : IsKind k) : lmots_of (k : Int) = some (frm k, true) := by
  rcases hk with rfl | rfl | rfl | rfl <;> rfl
theorem of_none {k : Int} (hk : ¬ (1 ≤ k ∧ k ≤ 4)) : lmots_of k = some ((0, 0, 0), false) := by
  unfold lmots_of
  by_cases h : k < 1
  · rw [if_t (by simpa using h), Option.bind_some, if_t rfl]
  · rw [if_f (by simpa using h), Option.bind_some, if_t (by simp; omega)]
theorem most_eq {k : Nat} (hk : IsKind k) : lmots_form_most (frm k) = some ((2 ^ bitsN k - 1 : Nat) : Int) := by
  rcases hk with rfl | rfl | rfl | rfl <;> rfl
theorem bits_cases {k : Nat} (hk : IsKind k) : bitsN k = 1 ∨ bitsN k = 2 ∨ bitsN k = 4 ∨ bitsN k = 8 := by
  rcases hk with rfl | rfl | rfl | rfl <;> simp [bitsN]
/-- The digits of a byte. -/
def dg (bits c j : Nat) : Nat := c / 2 ^ (8 - bits * (j + 1)) % 2 ^ bits
def dgs (bits : Nat) (c : BitVec 8) : List Int := (List.range (8 / bits)).map fun j => (dg bits c.toNat j : Int)
def digs (bits : Nat) (b : List (BitVec 8)) : List Int := b.flatMap (dgs bits)
theorem dgs_len (bits : Nat) (c : BitVec 8) : (dgs bits c).length = 8 / bits := by simp [dgs]
theorem digs_len (bits : Nat) : ∀ (b : List (BitVec 8)), (digs bits b).length = b.length * (8 / bits)
  | [] => by simp [digs]
  | c :: b => by
    show (dgs bits c ++ digs bits b).length = _
    rw [List.length_append, dgs_len, digs_len bits b, List.length_cons, Nat.add_mul]; omega
theorem dg_lt (bits c j : Nat) : dg bits c j < 2 ^ bits := Nat.mod_lt _ (Nat.two_pow_pos _)
theorem digs_mem {bits : Nat} {b : List (BitVec 8)} {d : Int} (h : d ∈ digs bits b) : 0 ≤ d ∧ d < (2 ^ bits : Nat) := by
  obtain ⟨c, _, hc⟩ := List.mem_flatMap.1 h
  obtain ⟨j, _, rfl⟩ := List.mem_map.1 hc
  have := dg_lt bits c.toNat j
  omega
/-! ## The program's cut -/
theorem cut_L2 {Sy : Type} {k : Nat} (hk : IsKind k) (yl : Sy → Int → Option Sy) (c : BitVec 8) (s : Sy) :
    loopS (fun (s : Int × Sy) => lmots_form_cut_L2 (frm k) yl c s.1 s.2) FU (w64 ((8 : Int) - (frm k).1), s) = Option.bind (foldO yl s (dgs (bitsN k) c)) fun s' => some ((8 : Int) - (bitsN k : Int) * ((8 / bitsN k : Nat) + 1 : Int), s') := by
  have hb := bits_cases hk
  have h := loopS_foldM (f := fun (s : Int × Sy) => lmots_form_cut_L2 (frm k) yl c s.1 s.2) (dgs (bitsN k) c) (fun i s => ((8 : Int) - (bitsN k : Int) * ((i : Int) + 1), s)) yl (fun i s hi => by
    rw [dgs_len] at hi
    have hle : bitsN k * (i + 1) ≤ 8 := by
      rcases hb with h | h | h | h <;> rw [h] at hi ⊢ <;> omega
    have e1 : (8 : Int) - (bitsN k : Int) * ((i : Int) + 1) = ((8 - bitsN k * (i + 1) : Nat) : Int) := by
      have : ((bitsN k * (i + 1) : Nat) : Int) = (bitsN k : Int) * ((i : Int) + 1) := by simp
      omega
    simp only [lmots_form_cut_L2]
    have hc := c.isLt
    rw [e1, if_t (by simp), if_t (by omega), bind_some' (most_eq hk), ishr_nat _ _ (by omega), iand_mask _ _ (by omega) (Nat.lt_of_le_of_lt (Nat.div_le_self _ _) (by omega))]
    have e2 : (dgs (bitsN k) c)[i]'(by rw [dgs_len]; exact hi) = ((c.toNat / 2 ^ (8 - bitsN k * (i + 1)) % 2 ^ bitsN k : Nat) : Int) := by simp [dgs, dg]
    rw [e2]
    congr 1; funext s'
    have e3 : w64 (((8 - bitsN k * (i + 1) : Nat) : Int) - (frm k).1) = (8 : Int) - (bitsN k : Int) * (((i + 1 : Nat) : Int) + 1) := by
      rw [w64_id (by show _ ≤ _ - ((bitsN k : Nat) : Int); omega) (by show _ - ((bitsN k : Nat) : Int) < _; omega)]
      show _ - ((bitsN k : Nat) : Int) = _
      rw [← e1]
      rcases hb with h | h | h | h <;> rw [h] <;> omega
    rw [e3]) (fun s => by
    simp only [lmots_form_cut_L2, dgs_len]
    rw [if_f (by simp; rcases hb with h | h | h | h <;> rw [h] <;> omega)]) (by rw [dgs_len]; rcases hb with h | h | h | h <;> rw [h] <;> omega) s
  have e0 : w64 ((8 : Int) - (frm k).1) = (8 : Int) - (bitsN k : Int) * (((0 : Nat) : Int) + 1) := by
    show w64 ((8 : Int) - (bitsN k : Int)) = _
    rcases hb with h | h | h | h <;> rw [h] <;> decide
  rw [e0]
  rw [dgs_len] at h
  exact h
theorem cut_eq {Sy : Type} {k : Nat} (hk : IsKind k) (b : List (BitVec 8)) (hb : b.length ≤ 4000000000) (yl : Sy → Int → Option Sy) (s : Sy) : lmots_form_cut (frm k) b yl s = foldO yl s (digs (bitsN k) b) := by
  unfold lmots_form_cut
  have h := loopS_foldM (f := fun (s : Int × Sy) => lmots_form_cut_L1 b (frm k) yl s.1 s.2) b (fun i s => ((i : Int), s)) (fun s c => foldO yl s (dgs (bitsN k) c)) (fun i s hi => by
    simp only [lmots_form_cut_L1]
    rw [if_t (by simp; omega), bind_some' (lget_at rfl hi), cut_L2 hk]
    cases foldO yl s (dgs (bitsN k) b[i]) with
    | none => rfl
    | some s' =>
      simp only [Option.bind_some]
      rw [w64_eq (n := (i : Int) + 1) (by omega)]; rfl) (fun s => by
    simp only [lmots_form_cut_L1]
    rw [if_f (by simp)]) (by omega) s
  have h' : loopS (fun (s : Int × Sy) => lmots_form_cut_L1 b (frm k) yl s.1 s.2) FU ((0 : Int), s) = _ := h
  rw [h', foldO_flatMap]
  unfold digs
  cases foldO yl s (b.flatMap (dgs (bitsN k))) <;> rfl
/-- The check sum. -/
def csum (bits : Nat) (b : List (BitVec 8)) : Nat := ((digs bits b).map fun d => (2 ^ bits - 1 : Nat) - d.toNat).sum
theorem csum_le (bits : Nat) (b : List (BitVec 8)) : csum bits b ≤ b.length * (8 / bits) * (2 ^ bits - 1) := by
  unfold csum
  have key : ∀ l : List Int, (l.map fun d => (2 ^ bits - 1 : Nat) - d.toNat).sum ≤ l.length * (2 ^ bits - 1) := by
    intro l
    induction l with
    | nil => simp
    | cons d l ih => simp only [List.map_cons, List.sum_cons, List.length_cons, Nat.add_mul]; omega
  have := key (digs bits b)
  rwa [digs_len] at this
theorem sum_fold {k : Nat} (hk : IsKind k) : ∀ (l : List Int) (s : Nat), (∀ d ∈ l, 0 ≤ d ∧ d < (2 ^ bitsN k : Nat)) → s + l.length * 255 < 4000000000 →
    foldO (fun (s : Int) (d : Int) => lmots_form_sum_L1 (frm k) s d) (s : Int) l = some ((s + (l.map fun d => (2 ^ bitsN k - 1 : Nat) - d.toNat).sum : Nat) : Int)
  | [], s, _, _ => by simp [foldO]
  | d :: l, s, hd, hs => by
    have hb : 2 ^ bitsN k ≤ 256 := by rcases bits_cases hk with h | h | h | h <;> rw [h] <;> decide
    have h1 := hd d (by simp)
    rw [List.length_cons, Nat.add_mul] at hs
    rw [foldO]
    have e : lmots_form_sum_L1 (frm k) (s : Int) d = some ((s + ((2 ^ bitsN k - 1 : Nat) - d.toNat) : Nat) : Int) := by
      unfold lmots_form_sum_L1
      rw [bind_some' (most_eq hk), w64_id (n := ((2 ^ bitsN k - 1 : Nat) : Int) - d) (by omega) (by omega), w64_id (by omega) (by omega)]
      congr 1; omega
    rw [e, Option.bind_some, sum_fold hk l _ (fun d hd' => hd d (by simp [hd'])) (by omega)]
    congr 1
    simp only [List.map_cons, List.sum_cons]; omega
/-- The check sum's two bytes. -/
def csb (k : Nat) (h : List (BitVec 8)) : List (BitVec 8) := [BitVec.ofNat 8 (csum (bitsN k) h * 2 ^ shiftN k / 256), BitVec.ofNat 8 (csum (bitsN k) h * 2 ^ shiftN k)]
theorem shl_small {k : Nat} (hk : IsKind k) (h : T_api_Hash) : csum (bitsN k) h.toList * 2 ^ shiftN k < 65536 := by
  have := csum_le (bitsN k) h.toList
  rw [Vector.length_toList] at this
  rcases hk with rfl | rfl | rfl | rfl <;> simp [bitsN, shiftN] at this ⊢ <;> omega
theorem shift_le {k : Nat} (hk : IsKind k) : shiftN k ≤ 7 := by rcases hk with rfl | rfl | rfl | rfl <;> simp [shiftN]
theorem sum_eq4 {k : Nat} (hk : IsKind k) (h : T_api_Hash) : lmots_form_sum (frm k) h = some (csb k h.toList) := by
  unfold lmots_form_sum lmots_form_sum_1
  have h1 := sum_fold hk (digs (bitsN k) h.toList) 0 (fun d hd => digs_mem hd) (by rw [digs_len, Vector.length_toList]; rcases bits_cases hk with h | h | h | h <;> rw [h] <;> omega)
  rw [cut_eq hk _ (by simp)]
  have h1' : foldO (fun (s : Int) (d : Int) => lmots_form_sum_L1 (frm k) s d) (0 : Int) (digs (bitsN k) h.toList) = some ((csum (bitsN k) h.toList : Nat) : Int) := by
    have e : ((0 : Nat) : Int) = 0 := rfl
    rw [e] at h1
    rw [h1]; unfold csum; congr 2; omega
  rw [h1', Option.bind_some, Option.bind_some]
  have hs := shl_small hk h
  have hsh := shift_le hk
  rw [if_t (show (0 : Int) ≤ (frm k).2.2 from Int.natCast_nonneg _)]
  show some [BitVec.ofInt 8 (ishr (ishl _ (shiftN k : Int)) 8), BitVec.ofInt 8 (ishl _ (shiftN k : Int))] = _
  rw [ishl_nat _ _ (by omega) (by omega)]
  have e8 : ((8 : Int)) = ((8 : Nat) : Int) := rfl
  rw [e8, ishr_nat _ 8 (by omega)]
  have e : ∀ n : Nat, BitVec.ofInt 8 (n : Int) = BitVec.ofNat 8 n := fun n => by apply BitVec.eq_of_toNat_eq; simp
  rw [e, e]
  rfl
/-- The digits of a hash. -/
def digl (k : Nat) (h : T_api_Hash) : List Int := (digs (bitsN k) (h.toList ++ csb k h.toList)).take (chainsN k)
theorem csb_len (k : Nat) (h : List (BitVec 8)) : (csb k h).length = 2 := rfl
theorem chains_le {k : Nat} (hk : IsKind k) : chainsN k ≤ 34 * (8 / bitsN k) := by rcases hk with rfl | rfl | rfl | rfl <;> simp [chainsN, bitsN]
theorem digl_len {k : Nat} (hk : IsKind k) (h : T_api_Hash) : (digl k h).length = chainsN k := by
  unfold digl
  rw [List.length_take, digs_len, List.length_append, csb_len, Vector.length_toList]
  exact Nat.min_eq_left (chains_le hk)
theorem digl_mem {k : Nat} {h : T_api_Hash} {d : Int} (hd : d ∈ digl k h) : 0 ≤ d ∧ d < (2 ^ bitsN k : Nat) := digs_mem (List.mem_of_mem_take hd)
theorem dig_fold {k : Nat} (hk : IsKind k) : ∀ (l acc : List Int), acc.length ≤ chainsN k → foldO (fun (s : List Int) (d : Int) => lmots_form_digits_L1 (frm k) s d) acc l = some (acc ++ l.take (chainsN k - acc.length))
  | [], acc, _ => by simp [foldO]
  | d :: l, acc, ha => by
    rw [foldO]
    unfold lmots_form_digits_L1
    have hc : chainsN k ≤ 265 := by rcases hk with rfl | rfl | rfl | rfl <;> simp [chainsN]
    by_cases h : acc.length < chainsN k
    · rw [if_t (show decide ((acc.length : Int) < (chainsN k : Int)) = true by simpa using h), if_t (by simp [AP]; omega), Option.bind_some]
      have := dig_fold hk l (acc ++ [d]) (by simp; omega)
      have h2 : foldO (fun (s : List Int) (d : Int) => lmots_form_digits_L1 (frm k) s d) (acc ++ [d]) l = _ := this
      unfold lmots_form_digits_L1 at h2
      rw [h2]
      have e : chainsN k - acc.length = (chainsN k - (acc ++ [d]).length) + 1 := by simp; omega
      rw [e, List.take_succ_cons, List.append_assoc]; rfl
    · rw [if_f (show ¬ decide ((acc.length : Int) < (chainsN k : Int)) = true by simpa using h), Option.bind_some]
      have := dig_fold hk l acc ha
      unfold lmots_form_digits_L1 at this
      rw [this]
      have e : chainsN k - acc.length = 0 := by omega
      simp [e]
theorem fdigits_eq {k : Nat} (hk : IsKind k) (h : T_api_Hash) : lmots_form_digits (frm k) h = some (digl k h) := by
  unfold lmots_form_digits lmots_form_digits_1
  have hc : chainsN k ≤ 265 := by rcases hk with rfl | rfl | rfl | rfl <;> simp [chainsN]
  rw [if_t (show 0 ≤ (chainsN k : Int) ∧ (chainsN k : Int) ≤ 4294967296 by omega), bind_some' (sum_eq4 hk h), if_t (by rw [csb_len]; simp [AP]), cut_eq hk _ (by simp [csb_len]), dig_fold hk _ _ (by simp)]
  rfl
theorem chains_eq {k : Nat} (hk : IsKind k) : lmots_Chains (k : Int) = some (chainsN k : Int) := by
  unfold lmots_Chains; rw [bind_some' (of_eq hk)]
theorem chains_none {k : Int} (hk : ¬ (1 ≤ k ∧ k ≤ 4)) : lmots_Chains k = some 0 := by
  unfold lmots_Chains; rw [bind_some' (of_none hk)]
def sizeN (k : Nat) : Nat := 36 + 32 * chainsN k
theorem size_eq {k : Nat} (hk : IsKind k) : lmots_Size (k : Int) = some (sizeN k : Int) := by
  rcases hk with rfl | rfl | rfl | rfl <;> rfl
/-! ## The reference's -/
theorem be2 {w : Nat} (x : BitVec w) : be x 2 = [(x >>> 8).setWidth 8, x.setWidth 8] := by simp [be, List.range_succ]
end Pu
end Go.Sl
namespace Go.Sl.Pu
open Go.Sl Go.Sl.M
/-! ## The writer and the reader of layer 1 -/
theorem be_go (x : BitVec 64) (k : Nat) (hk : k ≤ 8) (b : List (BitVec 8)) (hb : b.length ≤ 4000000000) :
    ∃ y, loopS (fun (s : Int × (List (BitVec 8))) => wire_Writer_number_L1 x s.1 s.2) FU ((k : Int) - 1, b) = some (y, b ++ be x k) := by
  have h := loopS_cnt (f := fun (s : Int × (List (BitVec 8))) => wire_Writer_number_L1 x s.1 s.2) (fun i (_ : Unit) => ((k : Int) - 1 - (i : Int), b ++ (be x k).take i)) (fun _ s => s) 0 k (fun i s h1 h2 => by
    simp only [wire_Writer_number_L1]
    have e1 : (k : Int) - 1 - (i : Int) = ((k - 1 - i : Nat) : Int) := by omega
    rw [e1, if_t (by simp), w64_id (n := 8 * ((k - 1 - i : Nat) : Int)) (by omega) (by omega), if_t (by omega), if_t (by simp [AP, be_len]; omega), w64_id (by omega) (by omega)]
    have e2 : (8 * ((k - 1 - i : Nat) : Int)).toNat = 8 * (k - 1 - i) := by omega
    have e3 : (be x k).take (i + 1) = (be x k).take i ++ [(x >>> (8 * (k - 1 - i))).setWidth 8] := by
      rw [List.take_succ_eq_append_getElem (by rw [be_len]; exact h2)]
      simp [be]
    have e5 : ((k - 1 - i : Nat) : Int) - 1 = (k : Int) - 1 - ((i + 1 : Nat) : Int) := by omega
    rw [e2, e3, ← List.append_assoc, e5]) (fun s => by
    simp only [wire_Writer_number_L1]
    rw [if_f (by simp; omega)]) FU () (by omega) (fu_lt (by omega))
  refine ⟨(k : Int) - 1 - (k : Int), ?_⟩
  have e : (be x k).take k = be x k := List.take_of_length_le (by rw [be_len]; exact Nat.le_refl _)
  simpa [e] using h
theorem wnumber_eq (b : List (BitVec 8)) (hb : b.length ≤ 4000000000) (x : BitVec 64) (k : Nat) (hk : k ≤ 8) : wire_Writer_number (b, false) x (k : Int) = some (b ++ be x k, false) := by
  unfold wire_Writer_number
  obtain ⟨y, hy⟩ := be_go x k hk b hb
  rw [Option.bind_some, if_f (by simp), w64_id (by omega) (by omega), bind_some' hy]
theorem be_setWidth {w : Nat} (x : BitVec w) (k : Nat) (hk : 8 * k ≤ w) (hw : w ≤ 64) : be (x.setWidth 64) k = be x k := by
  simp only [be]
  apply List.map_congr_left
  intro j hj
  apply BitVec.eq_of_getLsbD_eq
  intro i hi
  simp only [BitVec.getLsbD_setWidth, BitVec.getLsbD_ushiftRight, hi, decide_true, Bool.true_and]
  have := List.mem_range.1 hj
  have h64 : 8 * (k - 1 - j) + i < 64 := by omega
  simp [h64]
theorem wU32_eq (b : List (BitVec 8)) (hb : b.length ≤ 4000000000) (x : BitVec 32) : wire_Writer_U32 (b, false) x = some (b ++ be x 4, false) := by
  unfold wire_Writer_U32
  have h := wnumber_eq b hb (x.setWidth 64) 4 (by omega)
  have h' : wire_Writer_number (b, false) (x.setWidth 64) (4 : Int) = _ := h
  rw [bind_some' h', be_setWidth x 4 (by omega) (by omega)]
theorem wPlain_eq (b c : List (BitVec 8)) (h : b.length + c.length ≤ 4000000000) : wire_Writer_Plain (b, false) c = some (b ++ c, false) := by
  unfold wire_Writer_Plain
  rw [Option.bind_some, if_t (by simp), if_t (by simp [AP]; omega)]
theorem clone_eq (b : List (BitVec 8)) (h : b.length ≤ 4000000000) : slices_Clone_byte_byte b = some b := by
  unfold slices_Clone_byte_byte
  rw [if_t (by simp [AP]; omega)]; rfl
theorem wOut_eq (b : List (BitVec 8)) (h : b.length ≤ 4000000000) : wire_Writer_Out (b, false) = some ((b, false), b, 0) := by
  unfold wire_Writer_Out
  rw [if_f (by simp), bind_some' (clone_eq b h)]
theorem rNew_eq (b : List (BitVec 8)) (h : b.length ≤ 4000000000) : wire_New b = some (b, false) := by
  unfold wire_New
  rw [bind_some' (clone_eq b h), Option.bind_some]
theorem takes_eq (b : List (BitVec 8)) (n : Nat) (h : n ≤ b.length) : wire_Reader_takes (b, false) (n : Int) = some ((b.drop n, false), b.take n) := by
  unfold wire_Reader_takes
  rw [Option.bind_some, if_f (by simp), if_f (by simp), Option.bind_some, if_f (by simp; omega), bind_some' (lslice_at (lo := 0) (a := 0) (b := n) rfl rfl (by omega) h), bind_some' (lslice_at (lo := (n : Int)) (hi := (b.length : Int)) (a := n) (b := b.length) rfl rfl h (Nat.le_refl _))]
  simp
theorem takes_short (b : List (BitVec 8)) (n : Int) (h : n < 0 ∨ (b.length : Int) < n) : wire_Reader_takes (b, false) n = some ((b, true), []) := by
  unfold wire_Reader_takes
  rw [Option.bind_some, if_f (by simp)]
  by_cases hn : n < 0
  · rw [if_t (by simpa using hn), Option.bind_some, if_t rfl]
  · rw [if_f (by simpa using hn), Option.bind_some, if_t (by simp; omega)]
theorem takes_failed (b : List (BitVec 8)) (n : Int) : wire_Reader_takes (b, true) n = some ((b, true), []) := by
  unfold wire_Reader_takes
  rw [Option.bind_some, if_t rfl]
theorem peek_L1 (b : List (BitVec 8)) (hb : b.length ≤ 100) : loopS (fun (s : (BitVec 64) × Int) => wire_Reader_peek_L1 b s.1 s.2) FU (0#64, (0 : Int)) = some (val b, (b.length : Int)) := by
  have h := loopS_cnt (f := fun (s : (BitVec 64) × Int) => wire_Reader_peek_L1 b s.1 s.2) (fun i (_ : Unit) => (val (b.take i), (i : Int))) (fun _ s => s) 0 b.length (fun i s h1 h2 => by
    simp only [wire_Reader_peek_L1]
    rw [if_t (by simp; omega), bind_some' (lget_at rfl h2), w64_eq (n := (i : Int) + 1) (by omega)]
    have e : val (b.take (i + 1)) = (val (b.take i) <<< 8) ||| (b[i]).setWidth 64 := by
      rw [List.take_succ_eq_append_getElem h2]
      unfold val
      rw [List.foldl_append]
      simp only [List.foldl_cons, List.foldl_nil]
      generalize List.foldl (fun x c => x * 256#64 + BitVec.setWidth 64 c) 0#64 (List.take i b) = X
      generalize b[i] = c
      have hmul : X * 256#64 = X <<< 8 := by
        apply BitVec.eq_of_toNat_eq
        simp [BitVec.toNat_mul, BitVec.toNat_shiftLeft, Nat.shiftLeft_eq]
      rw [hmul]
      apply BitVec.eq_of_toNat_eq
      have hc := c.isLt
      rw [BitVec.toNat_add, BitVec.toNat_or, BitVec.toNat_shiftLeft, BitVec.toNat_setWidth]
      have h1 : c.toNat % 2 ^ 64 = c.toNat := Nat.mod_eq_of_lt (by omega)
      rw [h1]
      have h2 : (X.toNat <<< 8 % 2 ^ 64) = 2 ^ 8 * (X.toNat % 2 ^ 56) := by rw [Nat.shiftLeft_eq]; omega
      rw [h2, Nat.two_pow_add_eq_or_of_lt (by omega)]
      have hx : X.toNat % 2 ^ 56 < 2 ^ 56 := Nat.mod_lt _ (by decide)
      rw [← Nat.two_pow_add_eq_or_of_lt (by omega)]
      omega
    rw [e]; rfl) (fun s => by
    simp only [wire_Reader_peek_L1]
    rw [if_f (by simp)]) FU () (by omega) (fu_lt (by omega))
  simpa [val] using h
theorem peek_eq (b : List (BitVec 8)) (k : Nat) (hk : k ≤ 8) (h : k ≤ b.length) : wire_Reader_peek (b, false) (k : Int) = some (val (b.take k), true) := by
  unfold wire_Reader_peek
  rw [Option.bind_some, if_f (by simp), Option.bind_some, if_f (by simp; omega), bind_some' (lslice_at (lo := 0) (a := 0) (b := k) rfl rfl (by omega) h), List.drop_zero, bind_some' (peek_L1 (b.take k) (by simp; omega))]
theorem peek_short (b : List (BitVec 8)) (k : Int) (h : (b.length : Int) < k) : wire_Reader_peek (b, false) k = some (0#64, false) := by
  unfold wire_Reader_peek
  rw [Option.bind_some, if_f (by simp), Option.bind_some, if_t (by simp; omega)]
theorem rnumber_eq (b : List (BitVec 8)) (k : Nat) (hk : k ≤ 8) (h : k ≤ b.length) : wire_Reader_number (b, false) (k : Int) = some ((b.drop k, false), val (b.take k)) := by
  unfold wire_Reader_number
  rw [bind_some' (peek_eq b k hk h), bind_some' (takes_eq b k h), if_f (by simp)]
theorem rnumber_short (b : List (BitVec 8)) (k : Int) (h : (b.length : Int) < k) : wire_Reader_number (b, false) k = some ((b, true), 0#64) := by
  unfold wire_Reader_number
  rw [bind_some' (peek_short b k h), bind_some' (takes_short b k (.inr h)), if_t (by simp)]
theorem rU32_eq (b : List (BitVec 8)) (h : 4 ≤ b.length) : wire_Reader_U32 (b, false) = some ((b.drop 4, false), (val (b.take 4)).setWidth 32) := by
  unfold wire_Reader_U32
  have h' : wire_Reader_number (b, false) (4 : Int) = _ := rnumber_eq b 4 (by omega) h
  rw [bind_some' h']
theorem rU32_short (b : List (BitVec 8)) (h : b.length < 4) : wire_Reader_U32 (b, false) = some ((b, true), 0#32) := by
  unfold wire_Reader_U32
  rw [bind_some' (rnumber_short b 4 (by omega))]; rfl
theorem rPlain_eq (b : List (BitVec 8)) (n : Nat) (h : n ≤ b.length) : wire_Reader_Plain (b, false) (n : Int) = some ((b.drop n, false), b.take n) := by
  unfold wire_Reader_Plain
  rw [bind_some' (takes_eq b n h)]
theorem rPlain_short (b : List (BitVec 8)) (n : Int) (h : n < 0 ∨ (b.length : Int) < n) : wire_Reader_Plain (b, false) n = some ((b, true), []) := by
  unfold wire_Reader_Plain
  rw [bind_some' (takes_short b n h)]
theorem rPlain_failed (b : List (BitVec 8)) (n : Int) : wire_Reader_Plain (b, true) n = some ((b, true), []) := by
  unfold wire_Reader_Plain
  rw [bind_some' (takes_failed b n)]
/-! ## Numbers in bytes -/
theorem val_lt (b : List (BitVec 8)) (k : Nat) (hk : b.length ≤ k) (h8 : k ≤ 7) : (val b).toNat < 2 ^ (8 * k) := by
  have key : ∀ (b : List (BitVec 8)) (x : BitVec 64) (n : Nat), x.toNat < 2 ^ (8 * n) → n + b.length ≤ 7 → (b.foldl (fun x c => x * 256#64 + c.setWidth 64) x).toNat < 2 ^ (8 * (n + b.length)) := by
    intro b
    induction b with
    | nil => intro x n h _; simpa using h
    | cons c b ih =>
      intro x n h hn
      rw [List.foldl_cons, List.length_cons]
      simp only [List.length_cons] at hn
      have hx : (x * 256#64 + c.setWidth 64).toNat < 2 ^ (8 * (n + 1)) := by
        have hc := c.isLt
        have e : 2 ^ (8 * (n + 1)) = 256 * 2 ^ (8 * n) := by rw [Nat.mul_add, Nat.pow_add, Nat.mul_comm]
        have hp : 2 ^ (8 * (n + 1)) ≤ 2 ^ 56 := Nat.pow_le_pow_right (by decide) (by omega)
        have h56 : (2 : Nat) ^ 56 = 72057594037927936 := by decide
        rw [h56] at hp
        have h3 : (x * 256#64 + c.setWidth 64).toNat = x.toNat * 256 + c.toNat := by
          rw [BitVec.toNat_add, BitVec.toNat_mul, BitVec.toNat_setWidth]
          have h64 : (2 : Nat) ^ 64 = 18446744073709551616 := by decide
          rw [h64]
          have h2 : (256#64).toNat = 256 := rfl
          rw [h2]
          generalize 2 ^ (8 * n) = z at *
          generalize 2 ^ (8 * (n + 1)) = z2 at *
          omega
        rw [h3]
        generalize 2 ^ (8 * n) = z at *
        generalize 2 ^ (8 * (n + 1)) = z2 at *
        omega
      have := ih _ (n + 1) hx (by omega)
      rw [show n + (b.length + 1) = n + 1 + b.length by omega]
      exact this
  have := key b 0#64 0 (by simp) (by omega)
  rw [Nat.zero_add] at this
  exact Nat.lt_of_lt_of_le this (Nat.pow_le_pow_right (by decide) (by omega))
theorem val_four (x : BitVec 32) : val (be x 4) = x.setWidth 64 := by
  have e : be x 4 = [(x >>> 24).setWidth 8, (x >>> 16).setWidth 8, (x >>> 8).setWidth 8, x.setWidth 8] := by simp [be, List.range_succ]
  rw [e]
  apply BitVec.eq_of_toNat_eq
  have hx := x.isLt
  simp only [val, List.foldl_cons, List.foldl_nil, BitVec.toNat_add, BitVec.toNat_mul, BitVec.toNat_setWidth, BitVec.toNat_ushiftRight, BitVec.toNat_ofNat, Nat.shiftRight_eq_div_pow]
  omega
end Go.Sl.Pu
namespace Go.Sl.Pu
open Go.Sl Go.Sl.M
/-! ## Hashes under numbers -/
def und (id : T_api_ID) (q : BitVec 32) (i : Nat) (b : List (BitVec 8)) : T_api_Hash := sha (((id.toList ++ be q 4) ++ be (BitVec.ofNat 16 i) 2) ++ b)
theorem be16 (i : Nat) : be (BitVec.ofNat 16 i) 2 = [BitVec.ofNat 8 (i / 256), BitVec.ofNat 8 i] := by
  rw [be2]
  have a1 : ((BitVec.ofNat 16 i) >>> 8).setWidth 8 = BitVec.ofNat 8 (i / 256) := by apply BitVec.eq_of_toNat_eq; simp [Nat.shiftRight_eq_div_pow]; omega
  have a2 : (BitVec.ofNat 16 i).setWidth 8 = BitVec.ofNat 8 i := by apply BitVec.eq_of_toNat_eq; simp
  rw [a1, a2]
theorem be64_16 (i : Nat) : be (BitVec.ofNat 64 i) 2 = be (BitVec.ofNat 16 i) 2 := by
  rw [be2, be16]
  have a1 : ((BitVec.ofNat 64 i) >>> 8).setWidth 8 = BitVec.ofNat 8 (i / 256) := by apply BitVec.eq_of_toNat_eq; simp [Nat.shiftRight_eq_div_pow]; omega
  have a2 : (BitVec.ofNat 64 i).setWidth 8 = BitVec.ofNat 8 i := by apply BitVec.eq_of_toNat_eq; simp
  rw [a1, a2]
theorem be4v (q : BitVec 32) : be q 4 = [(q >>> 24).setWidth 8, (q >>> 16).setWidth 8, (q >>> 8).setWidth 8, q.setWidth 8] := by simp [be, List.range_succ]
theorem ofInt64 (n : Nat) : BitVec.ofInt 64 (n : Int) = BitVec.ofNat 64 n := by apply BitVec.eq_of_toNat_eq; simp
theorem ofInt8 (n : Nat) : BitVec.ofInt 8 (n : Int) = BitVec.ofNat 8 n := by apply BitVec.eq_of_toNat_eq; simp
theorem ofInt32 (n : Nat) : BitVec.ofInt 32 (n : Int) = BitVec.ofNat 32 n := by apply BitVec.eq_of_toNat_eq; simp
def tot (parts : List (List (BitVec 8))) : Nat := (parts.map List.length).sum
theorem take_tot (parts : List (List (BitVec 8))) : ∀ i, (parts.take i).flatten.length ≤ tot parts := by
  induction parts with
  | nil => intro i; simp [tot]
  | cons p r ih =>
    intro i
    cases i with
    | zero => simp
    | succ i =>
      have := ih i
      simp only [tot, List.map_cons, List.sum_cons] at *
      simp only [List.take_succ_cons, List.flatten_cons, List.length_append]; omega
theorem under_eq (id : T_api_ID) (q : BitVec 32) (i : Nat) (parts : List (List (BitVec 8))) (hp : tot parts ≤ 3000000000) (hl : parts.length ≤ 1000000) :
    lmots_under id q (i : Int) parts = some (und id q i parts.flatten) := by
  unfold lmots_under
  have e8 : ishr (i : Int) 8 = ((i / 256 : Nat) : Int) := ishr_nat i 8 (by omega)
  have eh : ([(q >>> 24).setWidth 8, (q >>> 16).setWidth 8, (q >>> 8).setWidth 8, q.setWidth 8, BitVec.ofInt 8 (ishr (i : Int) 8), BitVec.ofInt 8 (i : Int)] : List (BitVec 8)) = be q 4 ++ be (BitVec.ofNat 16 i) 2 := by
    rw [e8, ofInt8, ofInt8, be4v, be16]; rfl
  rw [eh, if_t (by omega), if_t (by simp [AP]), if_t (by simp [AP, be_len])]
  have h := loopS_cnt (f := fun (s : Int × (List (BitVec 8))) => lmots_under_L1 parts s.1 s.2) (fun j (_ : Unit) => ((j : Int), (([] ++ id.toList) ++ (be q 4 ++ be (BitVec.ofNat 16 i) 2)) ++ (parts.take j).flatten)) (fun _ s => s) 0 parts.length (fun j s h1 h2 => by
    simp only [lmots_under_L1]
    have h3 := take_tot parts (j + 1)
    rw [List.take_succ_eq_append_getElem h2, List.flatten_append, List.length_append] at h3
    rw [if_t (by simp; omega), bind_some' (lget_at rfl h2), if_t (by simp [AP, be_len] at h3 ⊢; omega), w64_eq (n := (j : Int) + 1) (by omega), List.take_succ_eq_append_getElem h2, List.flatten_append]
    simp) (fun s => by
    simp only [lmots_under_L1]
    rw [if_f (by simp)]) FU () (by omega) (fu_lt (by omega))
  have h' : loopS (fun (s : Int × (List (BitVec 8))) => lmots_under_L1 parts s.1 s.2) FU ((0 : Int), ([] ++ id.toList) ++ (be q 4 ++ be (BitVec.ofNat 16 i) 2)) = some ((parts.length : Int), (([] ++ id.toList) ++ (be q 4 ++ be (BitVec.ofNat 16 i) 2)) ++ parts.flatten) := by
    simpa using h
  rw [bind_some' h']
  have h3 := take_tot parts parts.length
  rw [List.take_length] at h3
  rw [bind_some' (sum_eq _ (by simp [be_len] at h3 ⊢; omega))]
  unfold und
  simp
def begn (id : T_api_ID) (q : BitVec 32) (i : Nat) (seed : T_api_Hash) : T_api_Hash := und id q i (255#8 :: seed.toList)
theorem secret_eq (id : T_api_ID) (q : BitVec 32) (i : Nat) (seed : T_api_Hash) : lmots_secret id q (i : Int) seed = some (begn id q i seed) := by
  unfold lmots_secret
  rw [bind_some' (under_eq id q i _ (by simp [tot]) (by simp))]
  simp [begn]
/-! ## Chains -/
def stepc (id : T_api_ID) (q : BitVec 32) (i : Nat) (j : Nat) (h : T_api_Hash) : T_api_Hash := und id q i (BitVec.ofNat 8 j :: h.toList)
def steps (id : T_api_ID) (q : BitVec 32) (i : Nat) (fr n : Nat) (h : T_api_Hash) : T_api_Hash := foldN (stepc id q i) fr n h
theorem steps_add (id : T_api_ID) (q : BitVec 32) (i : Nat) (fr n m : Nat) (h : T_api_Hash) : steps id q i fr (n + m) h = steps id q i (fr + n) m (steps id q i fr n h) := foldN_add _ n m fr h
theorem chain_eq (id : T_api_ID) (q : BitVec 32) (i : Nat) (h : T_api_Hash) (fr to : Nat) (h1 : fr ≤ to) (h2 : to ≤ 1000) : lmots_chain id q (i : Int) h (fr : Int) (to : Int) = some (steps id q i fr (to - fr) h) := by
  unfold lmots_chain
  have hl := loopS_cnt (f := fun (s : Int × T_api_Hash) => lmots_chain_L1 (to : Int) id q (i : Int) s.1 s.2) (fun j (h : T_api_Hash) => ((j : Int), h)) (stepc id q i) fr to (fun j s h1 h2 => by
    simp only [lmots_chain_L1]
    rw [if_t (by simp; omega), bind_some' (under_eq id q i _ (by simp [tot]) (by simp)), w64_eq (n := (j : Int) + 1) (by omega), ofInt8]
    simp [stepc]) (fun s => by
    simp only [lmots_chain_L1]
    rw [if_f (by simp)]) FU h h1 (fu_lt (by omega))
  rw [bind_some' hl]; rfl
def mostN (k : Nat) : Nat := 2 ^ bitsN k - 1
theorem mostN_le {k : Nat} (hk : IsKind k) : mostN k ≤ 255 := by rcases hk with rfl | rfl | rfl | rfl <;> simp [mostN, bitsN]
theorem chainsN_le {k : Nat} (hk : IsKind k) : chainsN k ≤ 265 := by rcases hk with rfl | rfl | rfl | rfl <;> simp [chainsN]
theorem digl_le {k : Nat} (hk : IsKind k) {h : T_api_Hash} {d : Int} (hd : d ∈ digl k h) : ∃ n : Nat, d = (n : Int) ∧ n ≤ mostN k := by
  obtain ⟨h0, h1⟩ := digl_mem hd
  exact ⟨d.toNat, by omega, by unfold mostN; omega⟩
/-- Hashes one behind the other. -/
def cat (n : Nat) (f : Nat → T_api_Hash) : List (BitVec 8) := (List.range n).flatMap fun i => (f i).toList
theorem cat_succ (n : Nat) (f : Nat → T_api_Hash) : cat (n + 1) f = cat n f ++ (f n).toList := by simp [cat, List.range_succ]
theorem cat_len (n : Nat) (f : Nat → T_api_Hash) : (cat n f).length = 32 * n := by
  induction n with
  | zero => rfl
  | succ n ih => rw [cat_succ, List.length_append, ih, Vector.length_toList]; omega
theorem cat_congr {n : Nat} {f g : Nat → T_api_Hash} (h : ∀ i, i < n → f i = g i) : cat n f = cat n g := by
  induction n with
  | zero => rfl
  | succ n ih => rw [cat_succ, cat_succ, ih fun i hi => h i (by omega), h n (by omega)]
theorem folded_eq (id : T_api_ID) (q : BitVec 32) (n : Nat) (f : Nat → T_api_Hash) (hn : n ≤ 1000000) : lmots_folded id q ((List.range n).map f) = some (und id q 32896 (cat n f)) := by
  unfold lmots_folded
  have hl : ((List.range n).map f).length = n := by simp
  rw [hl, w64_id (n := 32 * (n : Int)) (by omega) (by omega), if_t (by omega)]
  have h := loopS_cnt (f := fun (s : Int × (List (BitVec 8))) => lmots_folded_L1 ((List.range n).map f) s.1 s.2) (fun j (_ : Unit) => ((j : Int), cat j f)) (fun _ s => s) 0 n (fun j s h1 h2 => by
    simp only [lmots_folded_L1, hl]
    rw [if_t (by simp; omega), bind_some' (lget_at rfl (by rw [hl]; exact h2)), if_t (by rw [cat_len]; simp [AP]; omega), w64_eq (n := (j : Int) + 1) (by omega), cat_succ]
    simp) (fun s => by
    simp only [lmots_folded_L1, hl]
    rw [if_f (by simp)]) FU () (by omega) (fu_lt (by omega))
  have h' : loopS (fun (s : Int × (List (BitVec 8))) => lmots_folded_L1 ((List.range n).map f) s.1 s.2) FU ((0 : Int), []) = some ((n : Int), cat n f) := h
  have hu : lmots_under id q (32896 : Int) [cat n f] = _ := under_eq id q 32896 [cat n f] (by simp [tot, cat_len]; omega) (by simp)
  rw [bind_some' h', bind_some' hu]
  simp
/-- A list that is filled from the front. -/
theorem set_fill {α : Type} (n i : Nat) (g : Nat → α) (z x : α) (h : i < n) (hx : x = g i) : ((List.range i).map g ++ List.replicate (n - i) z).set i x = (List.range (i + 1)).map g ++ List.replicate (n - (i + 1)) z := by
  rw [List.set_append_right _ _ (by simp)]
  have e : n - i = (n - (i + 1)) + 1 := by omega
  rw [e, List.replicate_succ, List.range_succ, List.map_append]
  simp [hx]
def pubk (k : Nat) (id : T_api_ID) (q : BitVec 32) (seed : T_api_Hash) : T_api_Hash := und id q 32896 (cat (chainsN k) fun i => steps id q i 0 (mostN k) (begn id q i seed))
theorem public_eq {k : Nat} (hk : IsKind k) (id : T_api_ID) (q : BitVec 32) (seed : T_api_Hash) : lmots_Public (k : Int) id q seed = some (pubk k id q seed, 0) := by
  unfold lmots_Public
  have hc := chainsN_le hk
  have hm := mostN_le hk
  rw [bind_some' (of_eq hk), if_f (by simp)]
  simp only []
  rw [if_t (show 0 ≤ (chainsN k : Int) ∧ (chainsN k : Int) ≤ 4294967296 by omega), Int.toNat_natCast]
  let g : Nat → T_api_Hash := fun i => steps id q i 0 (mostN k) (begn id q i seed)
  have hmost : lmots_form_most (frm k) = some (mostN k : Int) := most_eq hk
  have h := loopS_cnt (f := fun (s : Int × (List T_api_Hash)) => lmots_Public_L1 (List.replicate (chainsN k) (Vector.replicate 32 (0#8))) id q seed (frm k, true) s.1 s.2) (fun j (_ : Unit) => ((j : Int), (List.range j).map g ++ List.replicate (chainsN k - j) (Vector.replicate 32 (0#8)))) (fun _ s => s) 0 (chainsN k) (fun j s h1 h2 => by
    simp only [lmots_Public_L1]
    have hch := chain_eq id q j (begn id q j seed) 0 (mostN k) (by omega) (by omega)
    have hch' : lmots_chain id q (j : Int) (begn id q j seed) (0 : Int) (mostN k : Int) = _ := hch
    rw [if_t (by simp; omega), bind_some' (secret_eq id q j seed), bind_some' hmost, bind_some' hch', if_t (by simp; omega), w64_eq (n := (j : Int) + 1) (by omega), Int.toNat_natCast, set_fill (chainsN k) j g (Vector.replicate 32 (0#8)) (steps id q j 0 (mostN k - 0) (begn id q j seed)) h2 rfl]
    rfl) (fun s => by
    simp only [lmots_Public_L1]
    rw [if_f (by simp)]) FU () (by omega) (fu_lt (by omega))
  have h' : loopS (fun (s : Int × (List T_api_Hash)) => lmots_Public_L1 (List.replicate (chainsN k) (Vector.replicate 32 (0#8))) id q seed (frm k, true) s.1 s.2) FU ((0 : Int), List.replicate (chainsN k) (Vector.replicate 32 (0#8))) = some ((chainsN k : Int), (List.range (chainsN k)).map g) := by simpa using h
  rw [Option.bind_some, bind_some' h', bind_some' (folded_eq id q _ g (by omega))]
  rfl
end Go.Sl.Pu
namespace Go.Sl.Pu
open Go.Sl Go.Sl.M
/-! ## Signatures -/
def sdig (k : Nat) (id : T_api_ID) (q : BitVec 32) (salt msg : List (BitVec 8)) : List Int := digl k (und id q 33153 (salt ++ msg))
def dgt (l : List Int) (i : Nat) : Nat := (l.getD i 0).toNat
theorem dgt_le {k : Nat} (hk : IsKind k) (h : T_api_Hash) (i : Nat) : dgt (digl k h) i ≤ mostN k := by
  unfold dgt
  by_cases hi : i < (digl k h).length
  · have e : (digl k h).getD i 0 = (digl k h)[i] := by simp [hi]
    rw [e]
    obtain ⟨n, hn, hle⟩ := digl_le hk (List.getElem_mem hi)
    rw [hn]; simpa using hle
  · have e : (digl k h).getD i 0 = 0 := by simp [Nat.not_lt.1 hi]
    rw [e]; simp
theorem dgt_at {k : Nat} (hk : IsKind k) (h : T_api_Hash) (i : Nat) (hi : i < chainsN k) : lget (digl k h) (i : Int) = some ((dgt (digl k h) i : Nat) : Int) := by
  have hi' : i < (digl k h).length := by rw [digl_len hk]; exact hi
  rw [lget_at rfl hi']
  unfold dgt
  have e : (digl k h).getD i 0 = (digl k h)[i] := by simp [hi']
  rw [e]
  obtain ⟨n, hn, hle⟩ := digl_le hk (List.getElem_mem hi')
  rw [hn]; simp
def saltv (id : T_api_ID) (q : BitVec 32) (seed : T_api_Hash) : T_api_Hash := begn id q 65533 seed
def sigk (k : Nat) (id : T_api_ID) (q : BitVec 32) (seed : T_api_Hash) (msg : List (BitVec 8)) : List (BitVec 8) :=
  (be (BitVec.ofNat 32 k) 4 ++ (saltv id q seed).toList) ++ cat (chainsN k) fun i => steps id q i 0 (dgt (sdig k id q (saltv id q seed).toList msg) i) (begn id q i seed)
theorem sigk_len {k : Nat} (id : T_api_ID) (q : BitVec 32) (seed : T_api_Hash) (msg : List (BitVec 8)) : (sigk k id q seed msg).length = sizeN k := by
  unfold sigk
  rw [List.length_append, List.length_append, be_len, Vector.length_toList, cat_len]; unfold sizeN; omega
theorem sign_eq {k : Nat} (hk : IsKind k) (id : T_api_ID) (q : BitVec 32) (seed : T_api_Hash) (msg : List (BitVec 8)) (hm : msg.length ≤ 2000000000) : lmots_Sign (k : Int) id q seed msg = some (sigk k id q seed msg, 0) := by
  unfold lmots_Sign
  have hc := chainsN_le hk
  have hmo := mostN_le hk
  rw [bind_some' (of_eq hk), if_f (by simp)]
  have hs : lmots_secret id q (65533 : Int) seed = some (saltv id q seed) := secret_eq id q 65533 seed
  rw [bind_some' hs, ofInt32]
  rw [bind_some' (wU32_eq [] (by simp) (BitVec.ofNat 32 k))]
  simp only [List.nil_append]
  rw [bind_some' (wPlain_eq (be (BitVec.ofNat 32 k) 4) (saltv id q seed).toList (by simp [be_len]))]
  have hu : lmots_under id q (33153 : Int) [(saltv id q seed).toList, msg] = some (und id q 33153 ((saltv id q seed).toList ++ msg)) := by
    have := under_eq id q 33153 [(saltv id q seed).toList, msg] (by simp [tot]; omega) (by simp)
    simpa using this
  rw [bind_some' hu, bind_some' (fdigits_eq hk _)]
  have hl := digl_len hk (und id q 33153 ((saltv id q seed).toList ++ msg))
  have h := loopS_cnt (f := fun (s : Int × Bool × (List (BitVec 8))) => lmots_Sign_L1 (digl k (und id q 33153 ((saltv id q seed).toList ++ msg))) id q seed s.1 s.2.1 s.2.2) (fun j (_ : Unit) => ((j : Int), false, (be (BitVec.ofNat 32 k) 4 ++ (saltv id q seed).toList) ++ cat j fun i => steps id q i 0 (dgt (sdig k id q (saltv id q seed).toList msg) i) (begn id q i seed))) (fun _ s => s) 0 (chainsN k) (fun j s h1 h2 => by
    simp only [lmots_Sign_L1, hl]
    have hd := dgt_le hk (und id q 33153 ((saltv id q seed).toList ++ msg)) j
    have hch := chain_eq id q j (begn id q j seed) 0 (dgt (digl k (und id q 33153 ((saltv id q seed).toList ++ msg))) j) (by omega) (by omega)
    have hch' : lmots_chain id q (j : Int) (begn id q j seed) (0 : Int) ((dgt (digl k (und id q 33153 ((saltv id q seed).toList ++ msg))) j : Nat) : Int) = _ := hch
    rw [if_t (by simp; omega), bind_some' (dgt_at hk _ j h2), bind_some' (secret_eq id q j seed), bind_some' hch', bind_some' (wPlain_eq _ _ (by simp [be_len, cat_len]; omega)), w64_eq (n := (j : Int) + 1) (by omega), cat_succ, ← List.append_assoc]
    rfl) (fun s => by
    simp only [lmots_Sign_L1, hl]
    rw [if_f (by simp)]) FU () (by omega) (fu_lt (by omega))
  have h' : loopS (fun (s : Int × Bool × (List (BitVec 8))) => lmots_Sign_L1 (digl k (und id q 33153 ((saltv id q seed).toList ++ msg))) id q seed s.1 s.2.1 s.2.2) FU ((0 : Int), false, (be (BitVec.ofNat 32 k) 4 ++ (saltv id q seed).toList)) = some ((chainsN k : Int), false, sigk k id q seed msg) := by
    have e : cat 0 (fun i => steps id q i 0 (dgt (sdig k id q (saltv id q seed).toList msg) i) (begn id q i seed)) = [] := rfl
    rw [e, List.append_nil] at h
    exact h
  rw [bind_some' h']
  rw [bind_some' (wOut_eq _ (by rw [sigk_len]; unfold sizeN; omega))]
/-! ## Recovering -/
/-- The 32 bytes at a place. -/
def hat (b : List (BitVec 8)) (off : Nat) : T_api_Hash := Vector.ofFn fun j : Fin 32 => b.getD (off + j.val) 0#8
theorem hat_toList (b : List (BitVec 8)) (off : Nat) (h : off + 32 ≤ b.length) : (hat b off).toList = (b.drop off).take 32 := by
  apply List.ext_getElem?
  intro i
  rw [List.getElem?_take]
  by_cases hi : i < 32
  · rw [if_pos hi, List.getElem?_drop]
    have h2 : off + i < b.length := by omega
    have : (hat b off).toList[i]? = some (b.getD (off + i) 0#8) := by
      unfold hat
      rw [List.getElem?_eq_getElem (by simp; exact hi)]
      simp
    rw [this]; simp [h2]
  · rw [if_neg hi, List.getElem?_eq_none (by simp; omega)]
theorem hat_eq (b : List (BitVec 8)) (off : Nat) (h : off + 32 ≤ b.length) : toVecO 32 ((b.drop off).take 32) = some (hat b off) := by
  have hl : 32 ≤ ((b.drop off).take 32).length := by simp; omega
  unfold toVecO
  rw [dif_pos hl]
  refine congrArg some (Vector.toList_inj.1 ?_)
  rw [toVec_toList, hat_toList b off h, List.take_take, Nat.min_self]
def recov (k : Nat) (id : T_api_ID) (q : BitVec 32) (msg sig : List (BitVec 8)) : T_api_Hash :=
  und id q 32896 (cat (chainsN k) fun i => steps id q i (dgt (sdig k id q ((sig.drop 4).take 32) msg) i) (mostN k - dgt (sdig k id q ((sig.drop 4).take 32) msg) i) (hat sig (36 + 32 * i)))
/-- Of which kind a signature is. -/
def IsSig (k : Nat) (sig : List (BitVec 8)) : Prop := IsKind k ∧ sig.length = sizeN k ∧ (val (sig.take 4)).toNat = k
theorem val_w32 (b : List (BitVec 8)) : (((val (b.take 4)).setWidth 32).toNat : Int) = ((val (b.take 4)).toNat : Int) := by
  have := val_lt (b.take 4) 4 (by simp; omega) (by omega)
  have h32 : (2 : Nat) ^ (8 * 4) = 4294967296 := by decide
  rw [h32] at this
  rw [BitVec.toNat_setWidth, Nat.mod_eq_of_lt (by omega)]
theorem recover_eq {k : Nat} (id : T_api_ID) (q : BitVec 32) (msg sig : List (BitVec 8)) (hm : msg.length ≤ 2000000000) (hs : IsSig k sig) : lmots_Recover id q msg sig = some (recov k id q msg sig, true) := by
  obtain ⟨hk, hl, hv⟩ := hs
  have hc := chainsN_le hk
  have hmo := mostN_le hk
  have hsz : sig.length = 36 + 32 * chainsN k := hl
  unfold lmots_Recover
  rw [bind_some' (rNew_eq sig (by omega)), bind_some' (rU32_eq sig (by omega))]
  simp only [val_w32, hv]
  rw [bind_some' (of_eq hk), if_f (by simp), bind_some' (size_eq hk), Option.bind_some, if_f (by simp [hl])]
  have hp : wire_Reader_Plain (sig.drop 4, false) (32 : Int) = _ := rPlain_eq (sig.drop 4) 32 (by simp; omega)
  rw [bind_some' hp]
  simp only [List.drop_drop]
  rw [if_t (show 0 ≤ (chainsN k : Int) ∧ (chainsN k : Int) ≤ 4294967296 by omega), Int.toNat_natCast, Option.bind_some]
  have hu : lmots_under id q (33153 : Int) [(sig.drop 4).take 32, msg] = some (und id q 33153 ((sig.drop 4).take 32 ++ msg)) := by
    have := under_eq id q 33153 [(sig.drop 4).take 32, msg] (by simp [tot]; omega) (by simp)
    simpa using this
  rw [bind_some' hu, bind_some' (fdigits_eq hk _)]
  have hdl := digl_len hk (und id q 33153 ((sig.drop 4).take 32 ++ msg))
  let g : Nat → T_api_Hash := fun i => steps id q i (dgt (sdig k id q ((sig.drop 4).take 32) msg) i) (mostN k - dgt (sdig k id q ((sig.drop 4).take 32) msg) i) (hat sig (36 + 32 * i))
  have hmost : lmots_form_most (frm k) = some (mostN k : Int) := most_eq hk
  have h := loopS_cnt (f := fun (s : Int × (List T_api_Hash) × (List (BitVec 8)) × Bool) => lmots_Recover_L1 (digl k (und id q 33153 ((sig.drop 4).take 32 ++ msg))) (frm k, true) id q s.1 s.2.1 s.2.2.1 s.2.2.2) (fun j (_ : Unit) => ((j : Int), (List.range j).map g ++ List.replicate (chainsN k - j) (Vector.replicate 32 (0#8)), sig.drop (36 + 32 * j), false)) (fun _ s => s) 0 (chainsN k) (fun j s h1 h2 => by
    simp only [lmots_Recover_L1, hdl]
    have hd := dgt_le hk (und id q 33153 ((sig.drop 4).take 32 ++ msg)) j
    have hch := chain_eq id q j (hat sig (36 + 32 * j)) (dgt (digl k (und id q 33153 ((sig.drop 4).take 32 ++ msg))) j) (mostN k) (by omega) (by omega)
    have hp2 : wire_Reader_Plain (sig.drop (36 + 32 * j), false) (32 : Int) = _ := rPlain_eq (sig.drop (36 + 32 * j)) 32 (by simp; omega)
    rw [if_t (by simp; omega), bind_some' (dgt_at hk _ j h2), bind_some' hp2]
    simp only []
    rw [bind_some' (hat_eq sig (36 + 32 * j) (by omega)), bind_some' hmost, bind_some' hch, if_t (by simp; omega), w64_eq (n := (j : Int) + 1) (by omega), Int.toNat_natCast, set_fill (chainsN k) j g (Vector.replicate 32 (0#8)) (steps id q j (dgt (digl k (und id q 33153 ((sig.drop 4).take 32 ++ msg))) j) (mostN k - dgt (digl k (und id q 33153 ((sig.drop 4).take 32 ++ msg))) j) (hat sig (36 + 32 * j))) h2 rfl, List.drop_drop]
    rfl) (fun s => by
    simp only [lmots_Recover_L1, hdl]
    rw [if_f (by simp)]) FU () (by omega) (fu_lt (by omega))
  have h' : loopS (fun (s : Int × (List T_api_Hash) × (List (BitVec 8)) × Bool) => lmots_Recover_L1 (digl k (und id q 33153 ((sig.drop 4).take 32 ++ msg))) (frm k, true) id q s.1 s.2.1 s.2.2.1 s.2.2.2) FU ((0 : Int), List.replicate (chainsN k) (Vector.replicate 32 (0#8)), sig.drop (4 + 32), false) = some ((chainsN k : Int), (List.range (chainsN k)).map g, sig.drop (36 + 32 * chainsN k), false) := by simpa using h
  rw [bind_some' h', bind_some' (folded_eq id q _ g (by omega))]
  rfl
end Go.Sl.Pu
namespace Go.Sl.Pu
open Go.Sl Go.Sl.M
/-! ## What was signed leads to the public key -/
theorem take4 (k : Nat) (id : T_api_ID) (q : BitVec 32) (seed : T_api_Hash) (msg : List (BitVec 8)) : (sigk k id q seed msg).take 4 = be (BitVec.ofNat 32 k) 4 := by
  unfold sigk
  rw [List.append_assoc, List.take_append_of_le_length (by rw [be_len]; exact Nat.le_refl _), List.take_of_length_le (by rw [be_len]; exact Nat.le_refl _)]
theorem sigk_sig {k : Nat} (hk : IsKind k) (id : T_api_ID) (q : BitVec 32) (seed : T_api_Hash) (msg : List (BitVec 8)) : IsSig k (sigk k id q seed msg) := by
  refine ⟨hk, sigk_len id q seed msg, ?_⟩
  rw [take4, val_four]
  rcases hk with rfl | rfl | rfl | rfl <;> rfl
theorem sigk_salt (k : Nat) (id : T_api_ID) (q : BitVec 32) (seed : T_api_Hash) (msg : List (BitVec 8)) : ((sigk k id q seed msg).drop 4).take 32 = (saltv id q seed).toList := by
  unfold sigk
  rw [List.append_assoc, List.drop_left' (be_len _ _), List.take_left' (by simp)]
theorem cat_hat (pre : List (BitVec 8)) (n : Nat) (f : Nat → T_api_Hash) (i : Nat) (hi : i < n) (p : Nat) (hp : pre.length = p) : hat (pre ++ cat n f) (p + 32 * i) = f i := by
  apply Vector.toList_inj.1
  rw [hat_toList _ _ (by rw [List.length_append, cat_len, hp]; omega)]
  have e : pre ++ cat n f = (pre ++ cat i f) ++ ((f i).toList ++ ((List.range (n - (i + 1))).flatMap fun j => (f (i + 1 + j)).toList)) := by
    rw [List.append_assoc]
    congr 1
    have hn : n = i + (1 + (n - (i + 1))) := by omega
    conv => lhs; rw [hn]
    unfold cat
    rw [List.range_add, List.flatMap_append, List.range_add, List.map_append, List.flatMap_append]
    simp [List.flatMap_map, Nat.add_assoc]
  rw [e, List.drop_left' (by rw [List.length_append, cat_len, hp]), List.take_left' (by simp)]
theorem recov_sigk {k : Nat} (hk : IsKind k) (id : T_api_ID) (q : BitVec 32) (seed : T_api_Hash) (msg : List (BitVec 8)) : recov k id q msg (sigk k id q seed msg) = pubk k id q seed := by
  unfold recov pubk
  rw [sigk_salt]
  refine congrArg (und id q 32896) (cat_congr fun i hi => ?_)
  have hd := dgt_le hk (und id q 33153 ((saltv id q seed).toList ++ msg)) i
  have e : hat (sigk k id q seed msg) (36 + 32 * i) = steps id q i 0 (dgt (sdig k id q (saltv id q seed).toList msg) i) (begn id q i seed) := by
    unfold sigk
    exact cat_hat _ _ (fun i => steps id q i 0 (dgt (sdig k id q (saltv id q seed).toList msg) i) (begn id q i seed)) i hi 36 (by simp [be_len])
  rw [e]
  have hd' : dgt (sdig k id q (saltv id q seed).toList msg) i ≤ mostN k := hd
  have := steps_add id q i 0 (dgt (sdig k id q (saltv id q seed).toList msg) i) (mostN k - dgt (sdig k id q (saltv id q seed).toList msg) i) (begn id q i seed)
  rw [Nat.zero_add] at this
  rw [← this]; congr 1; omega
end Go.Sl.Pu
set_option maxRecDepth 20000
/-! Trees of keys: nodes, the tree, its public key, signatures. -/
namespace Go.Sl.Pu
open Go.Sl Go.Sl.M
attribute [local irreducible] sha w64 pubk und sigk
def IsH (h : Nat) : Prop := h = 1 ∨ h = 2 ∨ h = 3 ∨ h = 4
def KK (h : Nat) : Nat := 2 ^ h
theorem KK_le {h : Nat} (hh : IsH h) : 2 ≤ KK h ∧ KK h ≤ 16 := by rcases hh with rfl | rfl | rfl | rfl <;> decide
theorem ishl_KK {h : Nat} (hh : IsH h) : ishl (1 : Int) (h : Int) = (KK h : Int) := by rcases hh with rfl | rfl | rfl | rfl <;> with_unfolding_all rfl
theorem isH_le {h : Nat} (hh : IsH h) : 1 ≤ h ∧ h ≤ 4 := by unfold IsH at hh; omega
theorem isK_le {k : Nat} (hk : IsKind k) : 1 ≤ k ∧ k ≤ 4 := by unfold IsKind at hk; omega
theorem chainsN_pos {k : Nat} (hk : IsKind k) : 0 < chainsN k := by rcases hk with rfl | rfl | rfl | rfl <;> decide
theorem lmay_eq {h k : Nat} (hh : IsH h) (hk : IsKind k) : lms_may (h : Int) (k : Int) = some true := by
  unfold lms_may
  have h1 := isH_le hh
  have h2 := chainsN_pos hk
  rw [if_t (by rw [decide_eq_true_eq]; omega), Option.bind_some, if_t (by rw [decide_eq_true_eq]; omega), bind_some' (chains_eq hk), Option.bind_some, decide_eq_true (by omega)]
theorem lmay_no {h k : Int} (hn : ¬ ((1 ≤ h ∧ h ≤ 4) ∧ (1 ≤ k ∧ k ≤ 4))) : lms_may h k = some false := by
  unfold lms_may
  by_cases h1 : 1 ≤ h
  · by_cases h2 : h ≤ 4
    · have hk : ¬ (1 ≤ k ∧ k ≤ 4) := fun hk => hn ⟨⟨h1, h2⟩, hk⟩
      rw [if_t (decide_eq_true h1), Option.bind_some, if_t (decide_eq_true h2), bind_some' (chains_none hk)]
      rfl
    · rw [if_t (decide_eq_true h1), Option.bind_some, if_f (by rw [decide_eq_true_eq]; exact h2)]
      rfl
  · rw [if_f (by rw [decide_eq_true_eq]; exact h1), Option.bind_some, if_f (by decide)]
    rfl
/-! ## Nodes -/
def ndh (id : T_api_ID) (r u : Nat) (b : List (BitVec 8)) : T_api_Hash := sha (((id.toList ++ be (BitVec.ofNat 32 r) 4) ++ be (BitVec.ofNat 16 u) 2) ++ b)
theorem wU16_eq (b : List (BitVec 8)) (hb : b.length ≤ 4000000000) (u : Nat) (hu : u ≤ 65535) : wire_Writer_U16 (b, false) (u : Int) = some (b ++ be (BitVec.ofNat 16 u) 2, false) := by
  unfold wire_Writer_U16 wire_Writer_within
  simp only []
  rw [if_f (by rw [decide_eq_true_eq]; omega), Option.bind_some, if_f (by rw [decide_eq_true_eq]; omega), Option.bind_some, if_t (by rfl), ofInt64]
  have h : wire_Writer_number (b, false) (BitVec.ofNat 64 u) (2 : Int) = _ := wnumber_eq b hb (BitVec.ofNat 64 u) 2 (by omega)
  simp only [Bool.not_false]
  rw [bind_some' h, be64_16]
theorem lnode_eq (id : T_api_ID) (r u : Nat) (parts : List (List (BitVec 8))) (hu : u ≤ 65535) (hp : tot parts ≤ 1000000) (hl : parts.length ≤ 1000000) : lms_node id (r : Int) (u : Int) parts = some (ndh id r u parts.flatten) := by
  unfold lms_node
  rw [bind_some' (wPlain_eq [] id.toList (by simp))]
  simp only [List.nil_append]
  rw [ofInt32, bind_some' (wU32_eq id.toList (by simp) (BitVec.ofNat 32 r)), bind_some' (wU16_eq _ (by simp [be_len]) u hu)]
  have h := loopS_cnt (f := fun (s : Int × Bool × (List (BitVec 8))) => lms_node_L1 parts s.1 s.2.1 s.2.2) (fun j (_ : Unit) => ((j : Int), false, ((id.toList ++ be (BitVec.ofNat 32 r) 4) ++ be (BitVec.ofNat 16 u) 2) ++ (parts.take j).flatten)) (fun _ s => s) 0 parts.length (fun j s h1 h2 => by
    simp only [lms_node_L1]
    have h3 := take_tot parts (j + 1)
    rw [List.take_succ_eq_append_getElem h2, List.flatten_append, List.length_append] at h3
    rw [if_t (by rw [decide_eq_true_eq]; omega), bind_some' (lget_at rfl h2), bind_some' (wPlain_eq _ _ (by simp [be_len] at h3 ⊢; omega)), w64_id (n := (j : Int) + 1) (by omega) (by omega), List.take_succ_eq_append_getElem h2, List.flatten_append]
    simp) (fun s => by
    simp only [lms_node_L1]
    rw [if_f (by rw [decide_eq_true_eq]; omega)]) FU () (by omega) (fu_lt (by omega))
  have h' : loopS (fun (s : Int × Bool × (List (BitVec 8))) => lms_node_L1 parts s.1 s.2.1 s.2.2) FU ((0 : Int), false, (id.toList ++ be (BitVec.ofNat 32 r) 4) ++ be (BitVec.ofNat 16 u) 2) = some ((parts.length : Int), false, ((id.toList ++ be (BitVec.ofNat 32 r) 4) ++ be (BitVec.ofNat 16 u) 2) ++ parts.flatten) := by
    have e : ((id.toList ++ be (BitVec.ofNat 32 r) 4) ++ be (BitVec.ofNat 16 u) 2) ++ (parts.take 0).flatten = (id.toList ++ be (BitVec.ofNat 32 r) 4) ++ be (BitVec.ofNat 16 u) 2 := by simp
    rw [e, List.take_length] at h
    exact h
  have h3 := take_tot parts parts.length
  rw [List.take_length] at h3
  rw [bind_some' h', bind_some' (wOut_eq _ (by simp [be_len] at h3 ⊢; omega)), bind_some' (sum_eq _ (by simp [be_len] at h3 ⊢; omega))]
  unfold ndh; rfl
theorem lleaf_eq (id : T_api_ID) (r : Nat) (p : T_api_Hash) : lms_leaf id (r : Int) p = some (ndh id r 33410 p.toList) := by
  unfold lms_leaf
  have h : lms_node id (r : Int) (33410 : Int) [p.toList] = _ := lnode_eq id r 33410 [p.toList] (by omega) (by simp [tot]) (by simp)
  rw [bind_some' h]; simp
theorem linner_eq (id : T_api_ID) (r : Nat) (a b : T_api_Hash) : lms_inner id (r : Int) a b = some (ndh id r 33667 (a.toList ++ b.toList)) := by
  unfold lms_inner
  have h : lms_node id (r : Int) (33667 : Int) [a.toList, b.toList] = _ := lnode_eq id r 33667 [a.toList, b.toList] (by omega) (by simp [tot]) (by simp)
  rw [bind_some' h]; simp
/-! ## The tree -/
section
variable (k : Nat) (id : T_api_ID) (seed : T_api_Hash) (K : Nat)
def lfv (r : Nat) : T_api_Hash := ndh id r 33410 (pubk k id (BitVec.ofNat 32 (r - K)) seed).toList
/-- A node's hash. -/
def tv (r : Nat) : T_api_Hash :=
  if h : r < K ∧ 0 < r then ndh id r 33667 ((tv (2 * r)).toList ++ (tv (2 * r + 1)).toList) else lfv k id seed K r
termination_by K - r
decreasing_by
  · omega
  · omega
theorem tv_leaf {r : Nat} (h : K ≤ r) : tv k id seed K r = lfv k id seed K r := by rw [tv, dif_neg (by omega)]
theorem tv_inner {r : Nat} (h : r < K) (h0 : 0 < r) : tv k id seed K r = ndh id r 33667 ((tv k id seed K (2 * r)).toList ++ (tv k id seed K (2 * r + 1)).toList) := by
  conv => lhs; rw [tv]
  rw [dif_pos ⟨h, h0⟩]
end
def nilH : T_api_Hash := Vector.replicate 32 (0#8)
theorem set_map {α : Type} (n i : Nat) (f : Nat → α) (x : α) : ((List.range n).map f).set i x = (List.range n).map (fun r => if r = i then x else f r) := by
  apply List.ext_getElem
  · simp
  · intro j h1 h2
    simp only [List.length_map, List.length_range, List.length_set] at h1 h2
    rw [List.getElem_set]
    by_cases h : i = j
    · simp [h]
    · rw [if_neg h]; simp; intro hc; exact absurd hc.symm h
def nodesS (k : Nat) (id : T_api_ID) (seed : T_api_Hash) (K : Nat) : List T_api_Hash := (List.range (2 * K)).map fun r => if r = 0 then nilH else tv k id seed K r
theorem nodesS_get {k : Nat} {id : T_api_ID} {seed : T_api_Hash} {K r : Nat} (h0 : 0 < r) (h : r < 2 * K) : lget (nodesS k id seed K) (r : Int) = some (tv k id seed K r) := by
  unfold nodesS
  rw [lget_at rfl (by simp; exact h), List.getElem_map, List.getElem_range, if_neg (by omega)]
theorem lnew_eq {h k : Nat} (hh : IsH h) (hk : IsKind k) (id : T_api_ID) (seed : T_api_Hash) : lms_New (h : Int) (k : Int) id seed = some (some ((h : Int), (k : Int), id, seed, nodesS k id seed (KK h)), 0) := by
  unfold lms_New
  obtain ⟨hK1, hK2⟩ := KK_le hh
  have hhl := isH_le hh
  rw [bind_some' (lmay_eq hh hk), if_f (by decide), if_t (by omega), ishl_KK hh]
  have hsh := ishl_KK hh
  generalize KK h = K at hK1 hK2 hsh ⊢
  have w2 : w64 ((2 : Int) * (K : Int)) = ((2 * K : Nat) : Int) := by rw [w64_id (by omega) (by omega)]; omega
  have w3 : w64 ((K : Int) - 1) = ((K - 1 : Nat) : Int) := by rw [w64_id (by omega) (by omega)]; omega
  rw [w2, w3, if_t (by clear w2 w3 hsh; omega), Option.bind_some, Int.toNat_natCast]
  clear w2 w3
  have h0 : List.replicate (2 * K) (Vector.replicate 32 (0#8)) = (List.range (2 * K)).map (fun r => if K ≤ r ∧ r < K + 0 then tv k id seed K r else nilH) := by
    apply List.ext_getElem
    · simp
    · intro j h1 h2
      simp; rw [if_neg (by omega)]; rfl
  obtain ⟨o, ho, hq⟩ := loopO_inv (f := fun (s : Int × (List T_api_Hash)) => lms_New_L1 (h : Int) (k : Int) id seed s.1 s.2) (fun s => ∃ q, q ≤ K ∧ s = ((q : Int), (List.range (2 * K)).map (fun r => if K ≤ r ∧ r < K + q then tv k id seed K r else nilH))) (fun s => K - s.1.toNat) (fun o => o = .inl ((K : Int), (List.range (2 * K)).map (fun r => if K ≤ r ∧ r < K + K then tv k id seed K r else nilH))) (by
    rintro s ⟨q, hq, rfl⟩
    by_cases hl : q < K
    · refine .inl ⟨(((q + 1 : Nat) : Int), (List.range (2 * K)).map (fun r => if K ≤ r ∧ r < K + (q + 1) then tv k id seed K r else nilH)), ?_, ⟨q + 1, by omega, rfl⟩, ?_⟩
      · simp only [lms_New_L1, hsh]
        have w4 : w64 ((K : Int) + (q : Int)) = ((K + q : Nat) : Int) := by rw [w64_id (by omega) (by omega)]; omega
        have w5 : w64 ((q : Int) + 1) = ((q + 1 : Nat) : Int) := by rw [w64_id (by omega) (by omega)]; omega
        rw [if_t (by clear w4 w5 hsh; rw [decide_eq_true_eq]; omega), ofInt32, bind_some' (public_eq hk id _ seed), if_f (by simp), w4, w5, bind_some' (lleaf_eq id (K + q) _), if_t (by clear w4 w5 hsh; simp; omega), Int.toNat_natCast, set_map]
        refine congrArg some (congrArg LR.next (Prod.ext rfl ?_))
        apply List.map_congr_left
        intro r hr
        by_cases e : r = K + q
        · subst e
          rw [if_pos rfl, if_pos (by clear w4 w5 hsh; omega), tv_leaf _ _ _ _ (by clear w4 w5 hsh; omega)]
          unfold lfv
          rw [Nat.add_sub_cancel_left]
        · rw [if_neg e]
          by_cases e2 : K ≤ r ∧ r < K + q
          · rw [if_pos e2, if_pos (by clear w4 w5 hsh; omega)]
          · rw [if_neg e2, if_neg (by clear w4 w5 hsh; omega)]
      · simp only [Int.toNat_natCast]; clear hsh; omega
    · have : q = K := by clear hsh; omega
      subst this
      exact .inr (.inl ⟨_, by
        simp only [lms_New_L1, hsh]
        rw [if_f (by clear hsh; rw [decide_eq_true_eq]; omega)], rfl⟩)) FU ((0 : Int), (List.range (2 * K)).map (fun r => if K ≤ r ∧ r < K + 0 then tv k id seed K r else nilH)) ⟨0, Nat.zero_le _, rfl⟩ (by
      have := fu_lt (n := K) (by clear hsh; omega)
      clear hsh
      simp only []; omega)
  rw [h0, bind_some' ho, hq]
  simp only []
  have h1 : (List.range (2 * K)).map (fun r => if K ≤ r ∧ r < K + K then tv k id seed K r else nilH) = (List.range (2 * K)).map (fun r => if K - 1 < r then tv k id seed K r else nilH) := by
    apply List.map_congr_left
    intro r hr
    have := List.mem_range.1 hr
    by_cases e : K ≤ r
    · rw [if_pos (by clear hsh; omega), if_pos (by clear hsh; omega)]
    · rw [if_neg (by clear hsh; omega), if_neg (by clear hsh; omega)]
  obtain ⟨s', hs', hq'⟩ := loopS_inv (f := fun (s : Int × (List T_api_Hash)) => lms_New_L2 id s.1 s.2) (fun s => ∃ y, y < K ∧ s = ((y : Int), (List.range (2 * K)).map (fun r => if y < r then tv k id seed K r else nilH))) (fun s => s.1.toNat) (fun s => s = ((0 : Int), (List.range (2 * K)).map (fun r => if 0 < r then tv k id seed K r else nilH))) (by
    rintro s ⟨y, hy, rfl⟩
    by_cases hl : 0 < y
    · obtain ⟨y, rfl⟩ : ∃ m, y = m + 1 := ⟨y - 1, by clear hsh; omega⟩
      refine .inl ⟨((y : Int), (List.range (2 * K)).map (fun r => if y < r then tv k id seed K r else nilH)), ?_, ⟨y, by clear hsh; omega, rfl⟩, ?_⟩
      · simp only [lms_New_L2]
        have g1 : lget ((List.range (2 * K)).map (fun r => if y + 1 < r then tv k id seed K r else nilH)) ((2 * (y + 1) : Nat) : Int) = some (tv k id seed K (2 * (y + 1))) := by
          rw [lget_at rfl (by simp; clear hsh; omega)]
          rw [List.getElem_map, List.getElem_range, if_pos (by clear hsh; omega)]
        have g2 : lget ((List.range (2 * K)).map (fun r => if y + 1 < r then tv k id seed K r else nilH)) ((2 * (y + 1) + 1 : Nat) : Int) = some (tv k id seed K (2 * (y + 1) + 1)) := by
          rw [lget_at rfl (by simp; clear hsh; omega)]
          rw [List.getElem_map, List.getElem_range, if_pos (by clear hsh; omega)]
        have w4 : w64 ((2 : Int) * ((y + 1 : Nat) : Int)) = ((2 * (y + 1) : Nat) : Int) := by rw [w64_id (by clear hsh; omega) (by clear hsh; omega)]; rfl
        have w5 : w64 (((2 * (y + 1) : Nat) : Int) + 1) = ((2 * (y + 1) + 1 : Nat) : Int) := by rw [w64_id (by clear w4 hsh; omega) (by clear w4 hsh; omega)]; rfl
        have w6 : w64 (((y + 1 : Nat) : Int) - 1) = (y : Int) := by rw [w64_id (by clear w4 w5 hsh; omega) (by clear w4 w5 hsh; omega)]; clear w4 w5 hsh; omega
        rw [if_t (by clear w4 w5 w6 hsh; simp), w4, w5, w6, bind_some' g1, bind_some' g2, bind_some' (linner_eq id (y + 1) _ _), if_t (by clear w4 w5 w6 hsh; simp; omega), Int.toNat_natCast, set_map]
        clear w4 w5 w6 g1 g2
        refine congrArg some (congrArg LR.next (Prod.ext rfl ?_))
        apply List.map_congr_left
        intro r hr
        by_cases e : r = y + 1
        · subst e
          rw [if_pos rfl, if_pos (by clear hsh; omega), tv_inner k id seed K hy (by clear hsh; omega)]
        · rw [if_neg e]
          by_cases e2 : y + 1 < r
          · rw [if_pos e2, if_pos (by clear hsh; omega)]
          · rw [if_neg e2, if_neg (by clear hsh; omega)]
      · simp only [Int.toNat_natCast]; clear hsh; omega
    · have : y = 0 := by clear hsh; omega
      subst this
      exact .inr ⟨_, by
        simp only [lms_New_L2]
        rw [if_f (by simp)]; rfl, rfl⟩) FU (((K - 1 : Nat) : Int), (List.range (2 * K)).map (fun r => if K - 1 < r then tv k id seed K r else nilH)) ⟨K - 1, by clear hsh; omega, rfl⟩ (by
      simp only [Int.toNat_natCast]
      exact fu_lt (by clear hsh; omega))
  rw [h1, Option.bind_some, bind_some' hs', hq']
  refine congrArg some (Prod.ext (congrArg some ?_) rfl)
  refine congrArg (fun v => ((h : Int), (k : Int), id, seed, v)) ?_
  unfold nodesS
  apply List.map_congr_left
  intro r hr
  by_cases e : r = 0
  · rw [if_neg (by clear hsh; omega), if_pos e]
  · rw [if_pos (by clear hsh; omega), if_neg e]
/-- A tree. -/
abbrev trS (h k : Nat) (id : T_api_ID) (seed : T_api_Hash) : Option T_lms_Tree := some ((h : Int), (k : Int), id, seed, nodesS k id seed (KK h))
theorem lkeys_eq {h k : Nat} (hh : IsH h) (id : T_api_ID) (seed : T_api_Hash) : lms_Tree_Keys (trS h k id seed) = some (KK h : Int) := by
  unfold lms_Tree_Keys
  rw [if_f (by simp), Option.bind_some, if_t (by simp), ishl_KK hh]
def pubT (h k : Nat) (id : T_api_ID) (seed : T_api_Hash) : List (BitVec 8) := ((be (BitVec.ofNat 32 h) 4 ++ be (BitVec.ofNat 32 k) 4) ++ id.toList) ++ (tv k id seed (KK h) 1).toList
theorem pubT_len (h k : Nat) (id : T_api_ID) (seed : T_api_Hash) : (pubT h k id seed).length = 56 := by simp [pubT, be_len]
theorem lpublic_eq {h k : Nat} (hh : IsH h) (id : T_api_ID) (seed : T_api_Hash) : lms_Tree_Public (trS h k id seed) = some (pubT h k id seed) := by
  unfold lms_Tree_Public
  obtain ⟨hK1, hK2⟩ := KK_le hh
  have g : lget (nodesS k id seed (KK h)) (1 : Int) = some (tv k id seed (KK h) 1) := nodesS_get (r := 1) (by omega) (by omega)
  rw [if_f (by simp)]
  simp only [trS, Option.bind_some]
  rw [ofInt32, ofInt32, bind_some' (wU32_eq [] (by simp) _), bind_some' (wU32_eq _ (by simp [be_len]) _), bind_some' (wPlain_eq _ _ (by simp [be_len])), bind_some' g, bind_some' (wPlain_eq _ _ (by simp [be_len])), bind_some' (wOut_eq _ (by simp [be_len]))]
  rfl
theorem lsize_eq {h k : Nat} (hh : IsH h) (hk : IsKind k) : lms_Size (h : Int) (k : Int) = some ((8 + sizeN k + 32 * h : Nat) : Int) := by
  unfold lms_Size
  have h1 := isH_le hh
  have h2 : sizeN k ≤ 100000 := by have := chainsN_le hk; unfold sizeN; omega
  rw [bind_some' (lmay_eq hh hk), if_f (by decide), bind_some' (size_eq hk), Option.bind_some, w64_id (n := 8 + (sizeN k : Int)) (by omega) (by omega), w64_id (n := 32 * (h : Int)) (by omega) (by omega), w64_id (by omega) (by omega)]
  refine congrArg some ?_
  omega
theorem lsize_no {h k : Int} (hn : ¬ ((1 ≤ h ∧ h ≤ 4) ∧ (1 ≤ k ∧ k ≤ 4))) : lms_Size h k = some 0 := by
  unfold lms_Size
  rw [bind_some' (lmay_no hn), if_t (by rfl)]
/-! ## Signing -/
def sib (r : Nat) : Nat := r + 1 - 2 * (r % 2)
def pth (f : Nat → T_api_Hash) (r : Nat) : List T_api_Hash := if h : 1 < r then f (sib r) :: pth f (r / 2) else []
termination_by r
decreasing_by omega
theorem pth_one (f : Nat → T_api_Hash) {r : Nat} (h : ¬ 1 < r) : pth f r = [] := by rw [pth, dif_neg h]
theorem pth_step (f : Nat → T_api_Hash) {r : Nat} (h : 1 < r) : pth f r = f (sib r) :: pth f (r / 2) := by
  conv => lhs; rw [pth]
  rw [dif_pos h]
def catH (l : List T_api_Hash) : List (BitVec 8) := l.flatMap fun x => x.toList
theorem catH_len (l : List T_api_Hash) : (catH l).length = 32 * l.length := by
  induction l with
  | nil => rfl
  | cons x l ih =>
    show (x.toList ++ catH l).length = _
    rw [List.length_append, ih, Vector.length_toList, List.length_cons]; omega
theorem pth_len (f : Nat → T_api_Hash) : ∀ (h r : Nat), 2 ^ h ≤ r → r < 2 ^ (h + 1) → (pth f r).length = h := by
  intro h
  induction h with
  | zero => intro r h1 h2; rw [pth_one f (by simp at h2; omega)]; rfl
  | succ h ih =>
    intro r h1 h2
    have e1 : 2 ^ (h + 1) = 2 ^ h * 2 := Nat.pow_succ ..
    have e2 : 2 ^ (h + 1 + 1) = 2 ^ (h + 1) * 2 := Nat.pow_succ ..
    have e0 : 0 < 2 ^ h := Nat.pow_pos (by omega)
    rw [pth_step f (by omega), List.length_cons, ih (r / 2) (by omega) (by omega)]
theorem ixor_sib : ∀ r : Fin 32, ixor (r.val : Int) 1 = ((sib r.val : Nat) : Int) := by with_unfolding_all decide
def sigT (h k : Nat) (id : T_api_ID) (seed : T_api_Hash) (q : Nat) (msg : List (BitVec 8)) : List (BitVec 8) :=
  ((be (BitVec.ofNat 32 q) 4 ++ sigk k id (BitVec.ofNat 32 q) seed msg) ++ be (BitVec.ofNat 32 h) 4) ++ catH (pth (tv k id seed (KK h)) (KK h + q))
theorem sigT_len {h k : Nat} (id : T_api_ID) (seed : T_api_Hash) (q : Nat) (hq : q < KK h) (msg : List (BitVec 8)) : (sigT h k id seed q msg).length = 8 + sizeN k + 32 * h := by
  unfold sigT
  rw [List.length_append, List.length_append, List.length_append, be_len, be_len, sigk_len, catH_len, pth_len _ h (KK h + q) (by unfold KK; omega) (by rw [Nat.pow_succ]; unfold KK at hq ⊢; omega)]
  omega
theorem sign_loop (h k : Nat) (id : T_api_ID) (seed : T_api_Hash) (hK : KK h ≤ 16) : ∀ (n r fuel : Nat) (b : List (BitVec 8)), r ≤ n → 0 < r → r < 2 * KK h → b.length + 32 * n ≤ 1000000 → n < fuel →
    ∃ r', loopS (fun (s : Int × Bool × (List (BitVec 8))) => lms_Tree_Sign_L1 (trS h k id seed) s.1 s.2.1 s.2.2) fuel ((r : Int), false, b) = some (r', false, b ++ catH (pth (tv k id seed (KK h)) r)) := by
  intro n
  induction n with
  | zero => intro r fuel b h1 h2; omega
  | succ n ih =>
    intro r fuel b h1 h2 h3 hb hfu
    obtain ⟨fuel, rfl⟩ : ∃ m, fuel = m + 1 := ⟨fuel - 1, by omega⟩
    by_cases hr : 1 < r
    · have hx := ixor_sib ⟨r, by omega⟩
      simp only [] at hx
      have hs : 0 < sib r ∧ sib r < 2 * KK h := by
        have : 2 * KK h % 2 = 0 := by omega
        unfold sib; omega
      have g := nodesS_get (k := k) (id := id) (seed := seed) hs.1 hs.2
      obtain ⟨r', hr'⟩ := ih (r / 2) fuel (b ++ (tv k id seed (KK h) (sib r)).toList) (by omega) (by omega) (by omega) (by rw [List.length_append, Vector.length_toList]; omega) (by omega)
      refine ⟨r', ?_⟩
      have hd : Int.tdiv (r : Int) 2 = ((r / 2 : Nat) : Int) := (Int.ofNat_tdiv r 2).symm
      rw [loopS_next (s' := (((r / 2 : Nat) : Int), false, b ++ (tv k id seed (KK h) (sib r)).toList)) (by
        simp only [lms_Tree_Sign_L1]
        rw [if_t (by rw [decide_eq_true_eq]; omega), Option.bind_some, hx, bind_some' g, bind_some' (wPlain_eq _ _ (by rw [Vector.length_toList]; omega)), hd]
        clear hx g hr' hd
        rw [w64_id (by omega) (by omega)]), hr', pth_step _ hr]
      simp [catH]
    · refine ⟨(r : Int), ?_⟩
      rw [loopS_brk (s' := ((r : Int), false, b)) (by
        simp only [lms_Tree_Sign_L1]
        rw [if_f (by rw [decide_eq_true_eq]; omega)]), pth_one _ hr]
      simp [catH]
theorem lsign_eq {h k : Nat} (hh : IsH h) (hk : IsKind k) (id : T_api_ID) (seed : T_api_Hash) (q : Nat) (hq : q < KK h) (msg : List (BitVec 8)) (hm : msg.length ≤ 2000000000) : lms_Tree_Sign (trS h k id seed) (q : Int) msg = some (sigT h k id seed q msg, 0) := by
  unfold lms_Tree_Sign
  obtain ⟨hK1, hK2⟩ := KK_le hh
  have hhl := isH_le hh
  have hsz : sizeN k ≤ 100000 := by have := chainsN_le hk; unfold sizeN; omega
  have hsl := sigk_len (k := k) id (BitVec.ofNat 32 q) seed msg
  obtain ⟨r', hl⟩ := sign_loop h k id seed hK2 (KK h + q) (KK h + q) FU ((be (BitVec.ofNat 32 q) 4 ++ sigk k id (BitVec.ofNat 32 q) seed msg) ++ be (BitVec.ofNat 32 h) 4) (Nat.le_refl _) (by omega) (by omega) (by simp only [List.length_append, be_len]; omega) (fu_lt (by omega))
  rw [if_f (by simp), if_f (by rw [decide_eq_true_eq]; omega), bind_some' (lkeys_eq hh id seed), Option.bind_some, if_f (by rw [decide_eq_true_eq]; omega), Option.bind_some, Option.bind_some, Option.bind_some]
  simp only []
  rw [ofInt32, bind_some' (sign_eq hk id _ seed msg hm), if_f (by simp), bind_some' (wU32_eq [] (by simp) _)]
  simp only [List.nil_append]
  rw [bind_some' (wPlain_eq _ _ (by rw [be_len]; omega)), Option.bind_some]
  simp only []
  rw [ofInt32, bind_some' (wU32_eq _ (by rw [List.length_append, be_len]; omega) _), bind_some' (lkeys_eq hh id seed)]
  rw [show w64 ((KK h : Int) + (q : Int)) = ((KK h + q : Nat) : Int) by rw [w64_id (by omega) (by omega)]; omega, bind_some' hl]
  simp only []
  rw [bind_some' (wOut_eq _ (by have := sigT_len (k := k) id seed q hq msg; unfold sigT at this; omega))]
  rfl
end Go.Sl.Pu
set_option maxRecDepth 20000
/-! Trees of keys: verifying. -/
namespace Go.Sl.Pu
open Go.Sl Go.Sl.M
attribute [local irreducible] sha w64 pubk und sigk ndh recov val hat
theorem equal_eq (a b : List (BitVec 8)) (ha : a.length ≤ 4294967296) : slices_Equal_byte_byte a b = some (decide (a = b)) := by
  unfold slices_Equal_byte_byte
  by_cases hl : a.length = b.length
  · rw [if_f (by simp [hl])]
    have h1 := eqscan (f := fun (s : Int) => slices_Equal_byte_byte_L1 a b s) a b hl (by omega) (fun i h1 h2 => by
      simp only [slices_Equal_byte_byte_L1]
      rw [if_t (by rw [decide_eq_true_eq]; omega), bind_some' (lget_at rfl h1), bind_some' (lget_at rfl h2), w64_id (by omega) (by omega)]
      by_cases he : a[i] = b[i]
      · rw [if_f (by simp [he]), if_pos he]
      · rw [if_t (by simp [he]), if_neg he]) (by
      simp only [slices_Equal_byte_byte_L1]
      rw [if_f (by rw [decide_eq_true_eq]; omega)])
    rw [bind_some' h1]
    by_cases hab : a = b
    · rw [if_pos hab, decide_eq_true hab]
    · rw [if_neg hab, decide_eq_false hab]
  · rw [if_t (by simp; omega), decide_eq_false (fun h => hl (by rw [h]))]
/-- The number in four bytes. -/
def n4 (b : List (BitVec 8)) (i : Nat) : Nat := (val ((b.drop i).take 4)).toNat
theorem n4_lt (b : List (BitVec 8)) (i : Nat) : n4 b i < 4294967296 := by
  have := val_lt ((b.drop i).take 4) 4 (by simp; omega) (by omega)
  unfold n4
  have h32 : (2 : Nat) ^ (8 * 4) = 4294967296 := by decide
  omega
theorem n4_w (b : List (BitVec 8)) (i : Nat) : (((val ((b.drop i).take 4)).setWidth 32).toNat : Int) = (n4 b i : Int) := by
  have := n4_lt b i
  unfold n4 at this ⊢
  rw [BitVec.toNat_setWidth, Nat.mod_eq_of_lt (by omega)]
theorem rU32_at (b : List (BitVec 8)) (i : Nat) (h : i + 4 ≤ b.length) : wire_Reader_U32 (b.drop i, false) = some ((b.drop (i + 4), false), (val ((b.drop i).take 4)).setWidth 32) := by
  rw [rU32_eq _ (by rw [List.length_drop]; omega), List.drop_drop]
theorem rPlain_at (b : List (BitVec 8)) (i n : Nat) (h : i + n ≤ b.length) : wire_Reader_Plain (b.drop i, false) (n : Int) = some ((b.drop (i + n), false), (b.drop i).take n) := by
  rw [rPlain_eq _ n (by rw [List.length_drop]; omega), List.drop_drop]
/-- The hashes in bytes, from a place on. -/
def hats (b : List (BitVec 8)) (p h : Nat) : List T_api_Hash := (List.range h).map fun i => hat b (p + 32 * i)
theorem hats_succ (b : List (BitVec 8)) (p h : Nat) : hats b p (h + 1) = hats b p h ++ [hat b (p + 32 * h)] := by simp [hats, List.range_succ]
theorem hats_len (b : List (BitVec 8)) (p h : Nat) : (hats b p h).length = h := by simp [hats]
theorem parted_len {h k : Nat} (hh : IsH h) (hk : IsKind k) (b : List (BitVec 8)) (hl : b.length ≠ 8 + sizeN k + 32 * h) : lms_parted b (h : Int) (k : Int) = some ((0, [], []), false) := by
  unfold lms_parted
  rw [bind_some' (lsize_eq hh hk), if_t (by
    simp only [Bool.not_eq_true', decide_eq_false_iff_not]
    omega), Option.bind_some]
theorem parted_eq {h k : Nat} (hh : IsH h) (hk : IsKind k) (b : List (BitVec 8)) (hl : b.length = 8 + sizeN k + 32 * h) :
    lms_parted b (h : Int) (k : Int) = some (((n4 b 0 : Int), (b.drop 4).take (sizeN k), hats b (8 + sizeN k) h), decide (n4 b (4 + sizeN k) = h ∧ n4 b 0 < KK h ∧ n4 ((b.drop 4).take (sizeN k)) 0 = k)) := by
  unfold lms_parted
  have hhl := isH_le hh
  have hsz : sizeN k ≤ 100000 ∧ 36 ≤ sizeN k := by have := chainsN_le hk; unfold sizeN; omega
  rw [bind_some' (lsize_eq hh hk), if_f (by
    simp only [Bool.not_eq_true', decide_eq_false_iff_not, Decidable.not_not]
    omega)]
  have r1 := rU32_at b 0 (by omega)
  have r2 := rPlain_at b 4 (sizeN k) (by omega)
  have r3 := rU32_at b (4 + sizeN k) (by omega)
  rw [show (0 : Nat) + 4 = 4 from rfl] at r1
  rw [show 4 + sizeN k + 4 = 8 + sizeN k by omega] at r3
  rw [bind_some' (rNew_eq b (by omega))]
  simp only []
  rw [show wire_Reader_U32 (b, false) = _ from r1, Option.bind_some]
  simp only []
  rw [bind_some' (size_eq hk), bind_some' r2]
  simp only []
  rw [bind_some' r3]
  simp only []
  have hloop := loopS_cnt (f := fun (s : Int × (List (BitVec 8)) × Bool × (List T_api_Hash)) => lms_parted_L1 (h : Int) s.1 s.2.1 s.2.2.1 s.2.2.2) (fun i (_ : Unit) => ((i : Int), b.drop (8 + sizeN k + 32 * i), false, hats b (8 + sizeN k) i)) (fun _ s => s) 0 h (fun i s h1 h2 => by
    simp only [lms_parted_L1]
    have r4 : wire_Reader_Plain (b.drop (8 + sizeN k + 32 * i), false) (32 : Int) = _ := rPlain_at b (8 + sizeN k + 32 * i) 32 (by omega)
    rw [if_t (by rw [decide_eq_true_eq]; omega), bind_some' r4]
    simp only []
    rw [bind_some' (hat_eq b (8 + sizeN k + 32 * i) (by omega)), if_t (by rw [hats_len]; unfold AP; simp only [List.length_singleton]; omega), w64_id (n := (i : Int) + 1) (by omega) (by omega), hats_succ]
    rfl) (fun s => by
    simp only [lms_parted_L1]
    rw [if_f (by rw [decide_eq_true_eq]; omega)]) FU () (by omega) (fu_lt (by omega))
  have hloop' : loopS (fun (s : Int × (List (BitVec 8)) × Bool × (List T_api_Hash)) => lms_parted_L1 (h : Int) s.1 s.2.1 s.2.2.1 s.2.2.2) FU ((0 : Int), b.drop (8 + sizeN k), false, ([] : List T_api_Hash)) = some ((h : Int), b.drop (8 + sizeN k + 32 * h), false, hats b (8 + sizeN k) h) := hloop
  rw [bind_some' hloop']
  simp only []
  have hd : wire_Reader_Done (b.drop (8 + sizeN k + 32 * h), false) = some true := by
    unfold wire_Reader_Done wire_Reader_Fails wire_Reader_Left
    rw [Option.bind_some, Option.bind_some, if_t (by rfl), Option.bind_some, decide_eq_true (by rw [List.length_drop]; omega), Option.bind_some]
  rw [bind_some' hd, if_t rfl]
  have e1 : (((val (List.take 4 (List.drop (4 + sizeN k) b))).setWidth 32).toNat : Int) = (n4 b (4 + sizeN k) : Int) := n4_w b _
  have e2 : (((val (List.take 4 (List.drop 0 b))).setWidth 32).toNat : Int) = (n4 b 0 : Int) := n4_w b 0
  rw [e1, e2, Option.bind_some]
  have hq : (n4 ((b.drop 4).take (sizeN k)) 0 : Int) = (((val (List.take 4 (List.drop 0 ((b.drop 4).take (sizeN k))))).setWidth 32).toNat : Int) := (n4_w _ 0).symm
  have hol : ((b.drop 4).take (sizeN k)).length = sizeN k := by rw [List.length_take, List.length_drop]; omega
  have r5 := rU32_at ((b.drop 4).take (sizeN k)) 0 (by omega)
  by_cases c1 : n4 b (4 + sizeN k) = h
  · rw [if_t (by rw [decide_eq_true_eq, c1]), if_t (by omega), Option.bind_some, ishl_KK hh]
    by_cases c2 : n4 b 0 < KK h
    · rw [if_t (by rw [decide_eq_true_eq]; omega), bind_some' (rNew_eq _ (by omega))]
      simp only []
      rw [show wire_Reader_U32 ((b.drop 4).take (sizeN k), false) = _ from r5, Option.bind_some, Option.bind_some]
      simp only []
      rw [← hq]
      refine congrArg some (Prod.ext rfl ?_)
      simp only [decide_eq_decide]
      constructor
      · intro hc; exact ⟨c1, c2, by omega⟩
      · intro hc; have := hc.2.2; omega
    · rw [if_f (by rw [decide_eq_true_eq]; omega), Option.bind_some]
      refine congrArg some (Prod.ext rfl ?_)
      simp only []
      rw [decide_eq_false (fun hc => c2 hc.2.1)]
  · rw [if_f (by rw [decide_eq_true_eq]; omega), Option.bind_some, if_f (by decide), Option.bind_some]
    refine congrArg some (Prod.ext rfl ?_)
    simp only []
    rw [decide_eq_false (fun hc => c1 hc.1)]
/-- Up a path. -/
def climbv (id : T_api_ID) : Nat → T_api_Hash → List T_api_Hash → T_api_Hash
  | _, h, [] => h
  | r, h, x :: l => climbv id (r / 2) (if r % 2 = 1 then ndh id (r / 2) 33667 (x.toList ++ h.toList) else ndh id (r / 2) 33667 (h.toList ++ x.toList)) l
theorem climb_loop (id : T_api_ID) (P : List T_api_Hash) (hP : P.length ≤ 1000) : ∀ (l : List T_api_Hash) (i r fuel : Nat) (h : T_api_Hash), P.drop i = l → i + l.length = P.length → r ≤ 1000000 → l.length < fuel →
    ∃ u v, loopS (fun (s : Int × Int × T_api_Hash) => lms_climb_L1 P id s.1 s.2.1 s.2.2) fuel ((r : Int), (i : Int), h) = some (u, v, climbv id r h l) := by
  intro l
  induction l with
  | nil =>
    intro i r fuel h h1 hi hr hfu
    obtain ⟨fuel, rfl⟩ : ∃ m, fuel = m + 1 := ⟨fuel - 1, by omega⟩
    simp only [List.length_nil] at hi
    exact ⟨(r : Int), (i : Int), loopS_brk (by
      simp only [lms_climb_L1]
      rw [if_f (by rw [decide_eq_true_eq]; omega)]; rfl)⟩
  | cons x l ih =>
    intro i r fuel h h1 hi hr hfu
    obtain ⟨fuel, rfl⟩ : ∃ m, fuel = m + 1 := ⟨fuel - 1, by omega⟩
    simp only [List.length_cons] at hi hfu
    have hi1 : i < P.length := by omega
    rw [List.drop_eq_getElem_cons hi1] at h1
    injection h1 with h1 h1'
    have hd : Int.tdiv (r : Int) 2 = ((r / 2 : Nat) : Int) := (Int.ofNat_tdiv r 2).symm
    have hm : Int.tmod (r : Int) 2 = ((r % 2 : Nat) : Int) := (Int.ofNat_tmod r 2).symm
    obtain ⟨u, v, huv⟩ := ih (i + 1) (r / 2) fuel (if r % 2 = 1 then ndh id (r / 2) 33667 (x.toList ++ h.toList) else ndh id (r / 2) 33667 (h.toList ++ x.toList)) h1' (by omega) (by omega) (by omega)
    refine ⟨u, v, ?_⟩
    rw [loopS_next (s' := (((r / 2 : Nat) : Int), ((i + 1 : Nat) : Int), if r % 2 = 1 then ndh id (r / 2) 33667 (x.toList ++ h.toList) else ndh id (r / 2) 33667 (h.toList ++ x.toList))) (by
      simp only [lms_climb_L1]
      rw [if_t (by rw [decide_eq_true_eq]; omega), bind_some' (lget_at rfl hi1), h1, hm, hd]
      clear hm hd huv
      rw [w64_id (n := ((r / 2 : Nat) : Int)) (by omega) (by omega), w64_id (n := (i : Int) + 1) (by omega) (by omega)]
      by_cases c : r % 2 = 1
      · rw [if_t (by rw [decide_eq_true_eq]; omega), Option.bind_some, bind_some' (linner_eq id (r / 2) _ _), if_pos c]; rfl
      · rw [if_f (by rw [decide_eq_true_eq]; omega), Option.bind_some, bind_some' (linner_eq id (r / 2) _ _), if_neg c]; rfl), huv]
    rfl
theorem climb_eq (id : T_api_ID) (r : Nat) (hr : r ≤ 1000000) (h : T_api_Hash) (P : List T_api_Hash) (hP : P.length ≤ 1000) : lms_climb id (r : Int) h P = some (climbv id r h P) := by
  unfold lms_climb
  obtain ⟨u, v, huv⟩ := climb_loop id P hP P 0 r FU h rfl (by omega) hr (fu_lt (by omega))
  have huv' : loopS (fun (s : Int × Int × T_api_Hash) => lms_climb_L1 P id s.1 s.2.1 s.2.2) FU ((r : Int), (0 : Int), h) = _ := huv
  rw [bind_some' huv']
/-- An id in bytes. -/
def idat (b : List (BitVec 8)) (off : Nat) : T_api_ID := Vector.ofFn fun j : Fin 16 => b.getD (off + j.val) 0#8
theorem idat_toList (b : List (BitVec 8)) (off : Nat) (h : off + 16 ≤ b.length) : (idat b off).toList = (b.drop off).take 16 := by
  apply List.ext_getElem?
  intro i
  rw [List.getElem?_take]
  by_cases hi : i < 16
  · rw [if_pos hi, List.getElem?_drop]
    have h2 : off + i < b.length := by omega
    have : (idat b off).toList[i]? = some (b.getD (off + i) 0#8) := by
      unfold idat
      rw [List.getElem?_eq_getElem (by simp; exact hi)]
      simp
    rw [this]; simp [h2]
  · rw [if_neg hi, List.getElem?_eq_none (by simp; omega)]
theorem idat_eq (b : List (BitVec 8)) (off : Nat) (h : off + 16 ≤ b.length) : toVecO 16 ((b.drop off).take 16) = some (idat b off) := by
  have hl : 16 ≤ ((b.drop off).take 16).length := by simp; omega
  unfold toVecO
  rw [dif_pos hl]
  refine congrArg some (Vector.toList_inj.1 ?_)
  rw [toVec_toList, idat_toList b off h, List.take_take, Nat.min_self]
/-- Where a signature leads. -/
def leads (h k : Nat) (id : T_api_ID) (msg sig : List (BitVec 8)) : T_api_Hash :=
  climbv id (KK h + n4 sig 0) (ndh id (KK h + n4 sig 0) 33410 (recov k id (BitVec.ofNat 32 (n4 sig 0)) msg ((sig.drop 4).take (sizeN k))).toList) (hats sig (8 + sizeN k) h)
def isT (h k : Nat) (sig : List (BitVec 8)) : Prop := n4 sig (4 + sizeN k) = h ∧ n4 sig 0 < KK h ∧ n4 ((sig.drop 4).take (sizeN k)) 0 = k
instance (h k : Nat) (sig : List (BitVec 8)) : Decidable (isT h k sig) := by unfold isT; infer_instance
/-- Right signatures of trees. -/
def vrf (p msg sig : List (BitVec 8)) : Bool :=
  decide (p.length = 56 ∧ (1 ≤ n4 p 0 ∧ n4 p 0 ≤ 4) ∧ (1 ≤ n4 p 4 ∧ n4 p 4 ≤ 4) ∧ sig.length = 8 + sizeN (n4 p 4) + 32 * n4 p 0 ∧ isT (n4 p 0) (n4 p 4) sig ∧ (leads (n4 p 0) (n4 p 4) (idat p 8) msg sig).toList = (p.drop 24).take 32)
theorem lverify_eq (p msg sig : List (BitVec 8)) (hp : p.length ≤ 4000000000) (hm : msg.length ≤ 2000000000) (hs : sig.length ≤ 2000000000) : lms_Verify p msg sig = some (vrf p msg sig) := by
  unfold lms_Verify
  by_cases hl : p.length = 56
  · rw [if_f (by simp [hl]), bind_some' (rNew_eq p hp)]
    have r1 := rU32_at p 0 (by omega)
    have r2 := rU32_at p 4 (by omega)
    have r3 : wire_Reader_Plain (p.drop 8, false) (16 : Int) = _ := rPlain_at p 8 16 (by omega)
    have r4 : wire_Reader_Plain (p.drop 24, false) (32 : Int) = _ := rPlain_at p 24 32 (by omega)
    simp only []
    rw [show wire_Reader_U32 (p, false) = _ from r1, Option.bind_some]
    simp only []
    rw [show wire_Reader_U32 (p.drop (0 + 4), false) = _ from r2, Option.bind_some]
    simp only []
    rw [show wire_Reader_Plain (p.drop (4 + 4), false) (16 : Int) = _ from r3, Option.bind_some]
    simp only []
    rw [bind_some' (idat_eq p 8 (by omega)), show wire_Reader_Plain (p.drop (8 + 16), false) (32 : Int) = _ from r4, Option.bind_some]
    simp only []
    have e1 : (((val (List.take 4 (List.drop 0 p))).setWidth 32).toNat : Int) = (n4 p 0 : Int) := n4_w p 0
    have e2 : (((val (List.take 4 (List.drop 4 p))).setWidth 32).toNat : Int) = (n4 p 4 : Int) := n4_w p 4
    rw [e1, e2]
    by_cases hb : (1 ≤ n4 p 0 ∧ n4 p 0 ≤ 4) ∧ (1 ≤ n4 p 4 ∧ n4 p 4 ≤ 4)
    · have hh : IsH (n4 p 0) := by unfold IsH; omega
      have hk : IsKind (n4 p 4) := by unfold IsKind; omega
      rw [bind_some' (lmay_eq hh hk), if_f (by decide)]
      obtain ⟨hK1, hK2⟩ := KK_le hh
      by_cases hsl : sig.length = 8 + sizeN (n4 p 4) + 32 * n4 p 0
      · rw [bind_some' (parted_eq hh hk sig hsl)]
        simp only []
        by_cases ht : isT (n4 p 0) (n4 p 4) sig
        · have ht' := ht
          unfold isT at ht'
          have hsz : 36 ≤ sizeN (n4 p 4) := by unfold sizeN; omega
          have hol : ((sig.drop 4).take (sizeN (n4 p 4))).length = sizeN (n4 p 4) := by rw [List.length_take, List.length_drop]; omega
          have hsig : IsSig (n4 p 4) ((sig.drop 4).take (sizeN (n4 p 4))) := ⟨hk, hol, ht'.2.2⟩
          rw [if_f (by rw [decide_eq_true ht']; decide), ofInt32, bind_some' (recover_eq (idat p 8) _ msg _ hm hsig), if_f (by simp), if_t (by omega), ishl_KK hh, Option.bind_some,
            show w64 ((KK (n4 p 0) : Int) + (n4 sig 0 : Int)) = ((KK (n4 p 0) + n4 sig 0 : Nat) : Int) by rw [w64_id (by omega) (by omega)]; omega, bind_some' (lleaf_eq _ _ _), bind_some' (climb_eq _ _ (by omega) _ _ (by rw [hats_len]; omega)), bind_some' (equal_eq _ _ (by simp))]
          refine congrArg some ?_
          unfold vrf
          simp only [decide_eq_decide]
          constructor
          · intro hc; exact ⟨hl, hb.1, hb.2, hsl, ht, hc⟩
          · intro hc; exact hc.2.2.2.2.2
        · have ht' := ht
          unfold isT at ht'
          rw [if_t (by rw [decide_eq_false ht']; rfl)]
          refine congrArg some ?_
          unfold vrf
          rw [decide_eq_false (fun hc => ht hc.2.2.2.2.1)]
      · rw [bind_some' (parted_len hh hk sig hsl), if_t (by rfl)]
        refine congrArg some ?_
        unfold vrf
        rw [decide_eq_false (fun hc => hsl hc.2.2.2.1)]
    · rw [bind_some' (lmay_no (by omega)), if_t (by rfl)]
      refine congrArg some ?_
      unfold vrf
      rw [decide_eq_false (fun hc => hb ⟨hc.2.1, hc.2.2.1⟩)]
  · rw [if_t (by simp; omega)]
    refine congrArg some ?_
    unfold vrf
    rw [decide_eq_false (fun hc => hl hc.1)]
/-! ## The reference -/
end Go.Sl.Pu
set_option maxRecDepth 20000
/-! The laws of the trees of keys. -/
namespace Go.Sl.Pu
open Go.Sl Go.Sl.M
attribute [local irreducible] sha w64 pubk und sigk ndh recov val hat
/-! ## What was signed is right -/
theorem n4_mid (A B : List (BitVec 8)) (x i : Nat) (hx : x < 4294967296) (hA : A.length = i) : n4 (A ++ (be (BitVec.ofNat 32 x) 4 ++ B)) i = x := by
  unfold n4
  rw [← hA, List.drop_left, List.take_append_of_le_length (by rw [be_len]; exact Nat.le_refl _), List.take_of_length_le (by rw [be_len]; exact Nat.le_refl _), val_four, BitVec.toNat_setWidth, BitVec.toNat_ofNat]
  omega
theorem hat_mid (A B : List (BitVec 8)) (x : T_api_Hash) (i : Nat) (hA : A.length = i) : hat (A ++ (x.toList ++ B)) i = x := by
  apply Vector.toList_inj.1
  rw [hat_toList _ _ (by rw [List.length_append, List.length_append, Vector.length_toList]; omega), ← hA, List.drop_left, List.take_left' (by simp)]
theorem idat_mid (A B : List (BitVec 8)) (x : T_api_ID) (i : Nat) (hA : A.length = i) : idat (A ++ (x.toList ++ B)) i = x := by
  apply Vector.toList_inj.1
  rw [idat_toList _ _ (by rw [List.length_append, List.length_append, Vector.length_toList]; omega), ← hA, List.drop_left, List.take_left' (by simp)]
theorem hats_cons (b : List (BitVec 8)) (p h : Nat) : hats b p (h + 1) = hat b p :: hats b (p + 32) h := by
  unfold hats
  rw [List.range_succ_eq_map, List.map_cons, List.map_map]
  refine congrArg (List.cons (hat b p)) ?_
  apply List.map_congr_left
  intro i _
  show hat b (p + 32 * (i + 1)) = hat b (p + 32 + 32 * i)
  rw [show p + 32 * (i + 1) = p + 32 + 32 * i by omega]
theorem hats_cat : ∀ (l : List T_api_Hash) (A : List (BitVec 8)) (p : Nat), A.length = p → hats (A ++ catH l) p l.length = l
  | [], A, p, h => rfl
  | x :: l, A, p, h => by
    rw [List.length_cons, hats_cons]
    have e : catH (x :: l) = x.toList ++ catH l := rfl
    rw [e, hat_mid A _ x p h, ← List.append_assoc, hats_cat l (A ++ x.toList) (p + 32) (by rw [List.length_append, Vector.length_toList, h])]
theorem climb_pth (k : Nat) (id : T_api_ID) (seed : T_api_Hash) (K : Nat) : ∀ (n r : Nat), r ≤ n → 0 < r → r < 2 * K → climbv id r (tv k id seed K r) (pth (tv k id seed K) r) = tv k id seed K 1 := by
  intro n
  induction n with
  | zero => intro r h1 h2; omega
  | succ n ih =>
    intro r h1 h2 h3
    by_cases hr : 1 < r
    · rw [pth_step _ hr]
      show climbv id (r / 2) (if r % 2 = 1 then _ else _) (pth (tv k id seed K) (r / 2)) = _
      have e : (if r % 2 = 1 then ndh id (r / 2) 33667 ((tv k id seed K (sib r)).toList ++ (tv k id seed K r).toList) else ndh id (r / 2) 33667 ((tv k id seed K r).toList ++ (tv k id seed K (sib r)).toList)) = tv k id seed K (r / 2) := by
        rw [tv_inner k id seed K (r := r / 2) (by omega) (by omega)]
        by_cases c : r % 2 = 1
        · rw [if_pos c, show sib r = 2 * (r / 2) by unfold sib; omega]
          conv => lhs; rw [show r = 2 * (r / 2) + 1 by omega]
          rw [show (2 * (r / 2) + 1) / 2 = r / 2 by omega]
        · rw [if_neg c, show sib r = 2 * (r / 2) + 1 by unfold sib; omega]
          conv => lhs; rw [show r = 2 * (r / 2) by omega]
          rw [show (2 * (r / 2)) / 2 = r / 2 by omega]
      rw [e]
      exact ih (r / 2) (by omega) (by omega) (by omega)
    · have : r = 1 := by omega
      subst this
      rw [pth_one _ hr]; rfl
theorem pubT_parts {h k : Nat} (hh : IsH h) (hk : IsKind k) (id : T_api_ID) (seed : T_api_Hash) : n4 (pubT h k id seed) 0 = h ∧ n4 (pubT h k id seed) 4 = k ∧ idat (pubT h k id seed) 8 = id ∧ ((pubT h k id seed).drop 24).take 32 = (tv k id seed (KK h) 1).toList := by
  have h1 := isH_le hh
  have h2 := isK_le hk
  refine ⟨?_, ?_, ?_, ?_⟩
  · have := n4_mid [] ((be (BitVec.ofNat 32 k) 4 ++ id.toList) ++ (tv k id seed (KK h) 1).toList) h 0 (by omega) rfl
    unfold pubT
    simpa [List.append_assoc] using this
  · have := n4_mid (be (BitVec.ofNat 32 h) 4) (id.toList ++ (tv k id seed (KK h) 1).toList) k 4 (by omega) (be_len _ _)
    unfold pubT
    simpa [List.append_assoc] using this
  · have := idat_mid (be (BitVec.ofNat 32 h) 4 ++ be (BitVec.ofNat 32 k) 4) ((tv k id seed (KK h) 1).toList) id 8 (by rw [List.length_append, be_len, be_len])
    unfold pubT
    simpa [List.append_assoc] using this
  · unfold pubT
    rw [List.drop_left' (by rw [List.length_append, List.length_append, be_len, be_len, Vector.length_toList]), List.take_of_length_le (by simp)]
theorem vrf_right {h k : Nat} (hh : IsH h) (hk : IsKind k) (id : T_api_ID) (seed : T_api_Hash) (q : Nat) (hq : q < KK h) (msg : List (BitVec 8)) : vrf (pubT h k id seed) msg (sigT h k id seed q msg) = true := by
  obtain ⟨p1, p2, p3, p4⟩ := pubT_parts hh hk id seed
  obtain ⟨hK1, hK2⟩ := KK_le hh
  have h1 := isH_le hh
  have h2 := isK_le hk
  have hl := sigT_len (k := k) id seed q hq msg
  have sl := sigk_len (k := k) id (BitVec.ofNat 32 q) seed msg
  have e0 : n4 (sigT h k id seed q msg) 0 = q := by
    have := n4_mid [] ((sigk k id (BitVec.ofNat 32 q) seed msg ++ be (BitVec.ofNat 32 h) 4) ++ catH (pth (tv k id seed (KK h)) (KK h + q))) q 0 (by omega) rfl
    unfold sigT
    simpa [List.append_assoc] using this
  have e1 : ((sigT h k id seed q msg).drop 4).take (sizeN k) = sigk k id (BitVec.ofNat 32 q) seed msg := by
    unfold sigT
    rw [List.append_assoc, List.append_assoc, List.drop_left' (be_len _ _), List.take_left' sl]
  have e2 : n4 (sigT h k id seed q msg) (4 + sizeN k) = h := by
    have := n4_mid (be (BitVec.ofNat 32 q) 4 ++ sigk k id (BitVec.ofNat 32 q) seed msg) (catH (pth (tv k id seed (KK h)) (KK h + q))) h (4 + sizeN k) (by omega) (by rw [List.length_append, be_len, sl])
    unfold sigT
    rw [List.append_assoc]
    exact this
  have e3 : n4 (sigk k id (BitVec.ofNat 32 q) seed msg) 0 = k := by
    have := (sigk_sig hk id (BitVec.ofNat 32 q) seed msg).2.2
    unfold n4
    rw [List.drop_zero]
    exact this
  have pl : (pth (tv k id seed (KK h)) (KK h + q)).length = h := pth_len _ h _ (by unfold KK; omega) (by rw [Nat.pow_succ]; unfold KK at hq ⊢; omega)
  have e4 : hats (sigT h k id seed q msg) (8 + sizeN k) h = pth (tv k id seed (KK h)) (KK h + q) := by
    have := hats_cat (pth (tv k id seed (KK h)) (KK h + q)) ((be (BitVec.ofNat 32 q) 4 ++ sigk k id (BitVec.ofNat 32 q) seed msg) ++ be (BitVec.ofNat 32 h) 4) (8 + sizeN k) (by rw [List.length_append, List.length_append, be_len, be_len, sl]; omega)
    rw [pl] at this
    exact this
  unfold vrf
  rw [p1, p2, p3, p4]
  rw [decide_eq_true]
  refine ⟨pubT_len _ _ _ _, by omega, by omega, hl, ⟨e2, by rw [e0]; exact hq, by rw [e1]; exact e3⟩, ?_⟩
  refine congrArg Vector.toList ?_
  unfold leads
  rw [e0, e1, e4, recov_sigk hk]
  have el : ndh id (KK h + q) 33410 (pubk k id (BitVec.ofNat 32 q) seed).toList = tv k id seed (KK h) (KK h + q) := by
    rw [tv_leaf _ _ _ _ (Nat.le_add_right _ _)]
    unfold lfv
    rw [Nat.add_sub_cancel_left]
  rw [el]
  exact climb_pth k id seed (KK h) (KK h + q) (KK h + q) (Nat.le_refl _) (by omega) (by omega)
end Go.Sl.Pu
set_option maxRecDepth 20000
/-! Bytes side by side. -/
namespace Go.Sl.Pu
open Go.Sl Go.Sl.M
theorem hap_ok {n : Nat} (h : n ≤ 4294967296) : n ≤ AP := h
theorem hgrow_eq (n : Nat) (h : n ≤ 4294967296) : slices_Grow_byte_byte_nilsl (n : Int) = some [] := by
  unfold slices_Grow_byte_byte_nilsl
  rw [if_f (by rw [decide_eq_true_eq]; omega), show w64 ((0 : Int) - 0) = 0 from rfl, w64_id (n := (n : Int) - 0) (by omega) (by omega), Option.bind_some]
  by_cases h0 : 0 < n
  · rw [if_t (by rw [decide_eq_true_eq]; omega), if_t ⟨by omega, by omega⟩, if_t ⟨by omega, by omega⟩]; simp
  · rw [if_f (by rw [decide_eq_true_eq]; omega)]
theorem hconcat_eq (L : List (List (BitVec 8))) (h : L.flatten.length ≤ 4000000000) (hL : L.length ≤ 1000) : slices_Concat_byte_byte L = some L.flatten := by
  unfold slices_Concat_byte_byte
  have hpre : ∀ i, i ≤ L.length → (L.take i).flatten.length ≤ 4000000000 := fun i hi => by
    have : L.flatten.length = (L.take i).flatten.length + (L.drop i).flatten.length := by
      rw [← List.length_append, ← List.flatten_append, List.take_append_drop]
    omega
  have hsucc : ∀ i (hi : i < L.length), (L.take (i + 1)).flatten = (L.take i).flatten ++ L[i] := fun i hi => by
    rw [List.take_succ_eq_append_getElem hi, List.flatten_append]; simp
  have h1 := loopS_cnt (f := fun (s : Int × Int) => slices_Concat_byte_byte_L1 L s.1 s.2) (fun i (_ : Unit) => ((((L.take i).flatten.length : Nat) : Int), (i : Int))) (fun _ s => s) 0 L.length (fun i s _ hi => by
    simp only [slices_Concat_byte_byte_L1]
    have h2 := hpre (i + 1) hi
    have h3 : (L.take (i + 1)).flatten.length = (L.take i).flatten.length + L[i].length := by rw [hsucc i hi, List.length_append]
    rw [if_t (by rw [decide_eq_true_eq]; omega), bind_some' (lget_at rfl hi), w64_id (n := (((L.take i).flatten.length : Nat) : Int) + (L[i].length : Int)) (by omega) (by omega), if_f (by rw [decide_eq_true_eq]; omega), w64_id (n := (i : Int) + 1) (by omega) (by omega), h3]
    rfl) (fun s => by
    simp only [slices_Concat_byte_byte_L1]
    rw [if_f (by rw [decide_eq_true_eq]; omega)]) FU () (by omega) (fu_lt (by omega))
  have h1' : loopS (fun (s : Int × Int) => slices_Concat_byte_byte_L1 L s.1 s.2) FU ((0 : Int), (0 : Int)) = some ((((L.take L.length).flatten.length : Nat) : Int), (L.length : Int)) := h1
  rw [bind_some' h1', bind_some' (hgrow_eq _ (by have := hpre L.length (Nat.le_refl _); omega))]
  have h4 := loopS_cnt (f := fun (s : Int × (List (BitVec 8))) => slices_Concat_byte_byte_L2 L s.1 s.2) (fun i (_ : Unit) => ((i : Int), (L.take i).flatten)) (fun _ s => s) 0 L.length (fun i s _ hi => by
    simp only [slices_Concat_byte_byte_L2]
    have h2 := hpre (i + 1) hi
    have h3 : (L.take (i + 1)).flatten.length = (L.take i).flatten.length + L[i].length := by rw [hsucc i hi, List.length_append]
    rw [if_t (by rw [decide_eq_true_eq]; omega), bind_some' (lget_at rfl hi), if_t (hap_ok (by omega)), w64_id (n := (i : Int) + 1) (by omega) (by omega), hsucc i hi]
    rfl) (fun s => by
    simp only [slices_Concat_byte_byte_L2]
    rw [if_f (by rw [decide_eq_true_eq]; omega)]) FU () (by omega) (fu_lt (by omega))
  have h4' : loopS (fun (s : Int × (List (BitVec 8))) => slices_Concat_byte_byte_L2 L s.1 s.2) FU ((0 : Int), ([] : List (BitVec 8))) = some ((L.length : Int), (L.take L.length).flatten) := h4
  rw [bind_some' h4', List.take_length]
end Go.Sl.Pu
set_option maxRecDepth 20000
/-! Signers: two storeys of trees. -/
namespace Go.Sl.Pu
open Go.Sl Go.Sl.M
attribute [local irreducible] sha w64 pubk und sigk ndh recov val hat tagged pubT sigT idat nodesS vrf
def tID (seed : T_api_Hash) : T_api_ID := idat (tagged 105#8 [seed.toList]).toList 0
def tSeed (seed : T_api_Hash) : T_api_Hash := tagged 115#8 [seed.toList]
def bID (seed : T_api_Hash) (i : Nat) : T_api_ID := idat (tagged 105#8 [seed.toList, be (BitVec.ofNat 32 i) 4]).toList 0
def bSeed (seed : T_api_Hash) (i : Nat) : T_api_Hash := tagged 115#8 [seed.toList, be (BitVec.ofNat 32 i) 4]
theorem sl16 (x : T_api_Hash) : lslice x.toList 0 (16 : Int) = some ((x.toList.drop 0).take 16) := by
  rw [lslice_at (lo := (0 : Int)) (hi := (16 : Int)) (a := 0) (b := 16) rfl rfl (by omega) (by simp), List.drop_zero, List.drop_zero]
theorem child_top (seed : T_api_Hash) : hss_child seed [] = some (tID seed, tSeed seed) := by
  unfold hss_child
  rw [if_f (by simp), Option.bind_some, bind_some' (tagged_eq _ _ (by simp [tsize])), bind_some' (sl16 _), bind_some' (idat_eq _ 0 (by simp)), bind_some' (tagged_eq _ _ (by simp [tsize]))]
  rfl
theorem be_of_i : ∀ i : Fin 16, ([BitVec.ofInt 8 (ishr (i.val : Int) (24 : Int)), BitVec.ofInt 8 (ishr (i.val : Int) (16 : Int)), BitVec.ofInt 8 (ishr (i.val : Int) (8 : Int)), BitVec.ofInt 8 (i.val : Int)] : List (BitVec 8)) = be (BitVec.ofNat 32 i.val) 4 := by with_unfolding_all decide
theorem child_bot (seed : T_api_Hash) (i : Nat) (hi : i < 16) : hss_child seed [BitVec.ofInt 8 (ishr (i : Int) (24 : Int)), BitVec.ofInt 8 (ishr (i : Int) (16 : Int)), BitVec.ofInt 8 (ishr (i : Int) (8 : Int)), BitVec.ofInt 8 (i : Int)] = some (bID seed i, bSeed seed i) := by
  rw [be_of_i ⟨i, hi⟩]
  unfold hss_child
  simp only []
  rw [if_t (by rw [decide_eq_true_eq, be_len]; omega), if_t (hap_ok (by simp)), Option.bind_some]
  simp only [List.singleton_append]
  rw [bind_some' (tagged_eq _ _ (by simp [tsize, be_len])), bind_some' (sl16 _), bind_some' (idat_eq _ 0 (by simp)), bind_some' (tagged_eq _ _ (by simp [tsize, be_len]))]
  rfl
/-! ## The signer -/
abbrev Sg : Type := Int × Int × T_api_Hash × (Option T_lms_Tree) × (Option T_lms_Tree) × Int
/-- The signer of two heights, a kind and a seed, whichever tree it used last. -/
def IsS (t b k : Nat) (seed : T_api_Hash) (s : Sg) : Prop :=
  s.1 = (b : Int) ∧ s.2.1 = (k : Int) ∧ s.2.2.1 = seed ∧ s.2.2.2.1 = trS t k (tID seed) (tSeed seed) ∧ (s.2.2.2.2.2 = -1 ∨ ∃ i : Nat, i < KK t ∧ s.2.2.2.2.2 = (i : Int) ∧ s.2.2.2.2.1 = trS b k (bID seed i) (bSeed seed i))
theorem hnew_eq {t b k : Nat} (ht : IsH t) (hb : IsH b) (hk : IsKind k) (seed : T_api_Hash) : ∃ s : Sg, hss_New (t : Int) (b : Int) (k : Int) seed = some (some s, 0) ∧ IsS t b k seed s := by
  refine ⟨((b : Int), (k : Int), seed, trS t k (tID seed) (tSeed seed), none, -1), ?_, rfl, rfl, rfl, rfl, .inl rfl⟩
  unfold hss_New
  rw [bind_some' (lsize_eq hb hk), if_f (by rw [decide_eq_true_eq]; omega), bind_some' (child_top seed), bind_some' (lnew_eq ht hk _ _), if_f (by simp), Option.bind_some]
theorem hkeys_eq {t b k : Nat} (ht : IsH t) (hb : IsH b) {seed : T_api_Hash} {s : Sg} (hs : IsS t b k seed s) : hss_Signer_Keys s = some ((KK t * KK b : Nat) : Int) := by
  unfold hss_Signer_Keys
  obtain ⟨h1, h2, h3, h4, h5⟩ := hs
  have hb1 := isH_le hb
  obtain ⟨hK1, hK2⟩ := KK_le ht
  obtain ⟨hK3, hK4⟩ := KK_le hb
  have hm : KK t * KK b ≤ 16 * 16 := Nat.mul_le_mul hK2 hK4
  rw [h4, bind_some' (lkeys_eq ht _ _), h1, if_t (by omega), ishl_nat (KK t) b (by omega) (by show KK t * KK b < _; omega)]
  rfl
def hpub (t k : Nat) (seed : T_api_Hash) : List (BitVec 8) := [0#8, 0#8, 0#8, 2#8] ++ pubT t k (tID seed) (tSeed seed)
theorem hpub_len (t k : Nat) (seed : T_api_Hash) : (hpub t k seed).length = 60 := by unfold hpub; rw [List.length_append, pubT_len]; rfl
theorem hpublic_eq {t b k : Nat} (ht : IsH t) {seed : T_api_Hash} {s : Sg} (hs : IsS t b k seed s) : hss_Signer_Public s = some (hpub t k seed) := by
  unfold hss_Signer_Public
  rw [hs.2.2.2.1, bind_some' (lpublic_eq ht _ _), bind_some' (hconcat_eq _ (by simp [pubT_len]) (by simp))]
  simp [hpub]
theorem htree_eq {t b k : Nat} (ht : IsH t) (hb : IsH b) (hk : IsKind k) {seed : T_api_Hash} {s : Sg} (hs : IsS t b k seed s) (i : Nat) (hi : i < KK t) : ∃ s' : Sg, hss_Signer_tree s (i : Int) = some (s', trS b k (bID seed i) (bSeed seed i), 0) ∧ IsS t b k seed s' := by
  obtain ⟨hK1, hK2⟩ := KK_le ht
  unfold hss_Signer_tree
  obtain ⟨s1, s2, s3, s4, s5, s6⟩ := s
  obtain ⟨h1, h2, h3, h4, h5⟩ := hs
  simp only [] at h1 h2 h3 h4 h5
  subst h1 h2 h3 h4
  by_cases he : s6 = (i : Int)
  · rw [if_t (by simpa using he)]
    rcases h5 with h5 | ⟨j, hj, h5, h6⟩
    · exfalso; omega
    · have : j = i := by omega
      subst this
      exact ⟨_, by simp only []; rw [h6], rfl, rfl, rfl, rfl, .inr ⟨j, hj, h5, rfl⟩⟩
  · rw [if_f (by simpa using he)]
    refine ⟨((b : Int), (k : Int), s3, trS t k (tID s3) (tSeed s3), trS b k (bID s3 i) (bSeed s3 i), (i : Int)), ?_, rfl, rfl, rfl, rfl, .inr ⟨i, hi, rfl, rfl⟩⟩
    rw [bind_some' (child_bot s3 i (by omega)), bind_some' (lnew_eq hb hk _ _), if_f (by simp)]
def hsig (t b k : Nat) (seed : T_api_Hash) (n : Nat) (msg : List (BitVec 8)) : List (BitVec 8) :=
  (([0#8, 0#8, 0#8, 1#8] ++ sigT t k (tID seed) (tSeed seed) (n / KK b) (pubT b k (bID seed (n / KK b)) (bSeed seed (n / KK b)))) ++ pubT b k (bID seed (n / KK b)) (bSeed seed (n / KK b))) ++ sigT b k (bID seed (n / KK b)) (bSeed seed (n / KK b)) (n % KK b) msg
theorem hdiv_lt {t b n : Nat} (hb : IsH b) (hn : n < KK t * KK b) : n / KK b < KK t ∧ n % KK b < KK b := by
  obtain ⟨hK3, hK4⟩ := KK_le hb
  exact ⟨Nat.div_lt_of_lt_mul (by rw [Nat.mul_comm]; exact hn), Nat.mod_lt _ (by omega)⟩
theorem hsig_len {t b k : Nat} (hb : IsH b) (seed : T_api_Hash) (n : Nat) (hn : n < KK t * KK b) (msg : List (BitVec 8)) : (hsig t b k seed n msg).length = 4 + (8 + sizeN k + 32 * t) + 56 + (8 + sizeN k + 32 * b) := by
  obtain ⟨d1, d2⟩ := hdiv_lt hb hn
  unfold hsig
  rw [List.length_append, List.length_append, List.length_append, sigT_len _ _ _ d1, sigT_len _ _ _ d2, pubT_len]
  simp only [List.length_cons, List.length_nil]
theorem hsign_eq {t b k : Nat} (ht : IsH t) (hb : IsH b) (hk : IsKind k) {seed : T_api_Hash} {s : Sg} (hs : IsS t b k seed s) (n : Nat) (hn : n < KK t * KK b) (msg : List (BitVec 8)) (hm : msg.length ≤ 2000000000) :
    ∃ s' : Sg, hss_Signer_Sign s (n : Int) msg = some (s', hsig t b k seed n msg, 0) ∧ IsS t b k seed s' := by
  obtain ⟨d1, d2⟩ := hdiv_lt hb hn
  obtain ⟨hK1, hK2⟩ := KK_le ht
  obtain ⟨hK3, hK4⟩ := KK_le hb
  have hb1 := isH_le hb
  have hm2 : KK t * KK b ≤ 16 * 16 := Nat.mul_le_mul hK2 hK4
  obtain ⟨s', hs', hI⟩ := htree_eq ht hb hk hs (n / KK b) d1
  refine ⟨s', ?_, hI⟩
  unfold hss_Signer_Sign
  have e1 : ishr (n : Int) (b : Int) = ((n / KK b : Nat) : Int) := ishr_nat n b (by omega)
  have e2 : iand (n : Int) (w64 (ishl (1 : Int) (b : Int) - 1)) = ((n % KK b : Nat) : Int) := by
    rw [ishl_KK hb, show w64 ((KK b : Int) - 1) = ((2 ^ b - 1 : Nat) : Int) by rw [w64_id (by omega) (by omega)]; show _ = ((KK b - 1 : Nat) : Int); omega]
    exact iand_mask n b (by omega) (by omega)
  have hl1 := sigT_len (h := t) (k := k) (tID seed) (tSeed seed) (n / KK b) d1 (pubT b k (bID seed (n / KK b)) (bSeed seed (n / KK b)))
  have hl2 := sigT_len (h := b) (k := k) (bID seed (n / KK b)) (bSeed seed (n / KK b)) (n % KK b) d2 msg
  have hp := pubT_len b k (bID seed (n / KK b)) (bSeed seed (n / KK b))
  have hsz : sizeN k ≤ 100000 := by have := chainsN_le hk; unfold sizeN; omega
  have htl := isH_le ht
  rw [if_f (by rw [decide_eq_true_eq]; clear e1 e2; omega), show ((s.1, s.2.1, s.2.2.1, s.2.2.2.1, s.2.2.2.2.1, s.2.2.2.2.2) : Sg) = s from rfl, bind_some' (hkeys_eq ht hb hs), Option.bind_some, if_f (by rw [decide_eq_true_eq]; clear e1 e2; omega), hs.1, if_t (by omega), if_t (by omega), e1, e2, Option.bind_some, bind_some' hs', if_f (by simp)]
  simp only []
  rw [bind_some' (lpublic_eq hb _ _), hI.2.2.2.1, bind_some' (lsign_eq ht hk _ _ _ d1 _ (by rw [hp]; omega)), if_f (by simp), bind_some' (lsign_eq hb hk _ _ _ d2 _ hm), if_f (by simp), bind_some' (hconcat_eq _ (by simp only [List.flatten_cons, List.flatten_nil, List.length_append, List.length_nil, List.length_cons]; rw [hl1, hl2, hp]; clear e1 e2; omega) (by simp))]
  refine congrArg some (Prod.ext ?_ (Prod.ext ?_ rfl))
  · simp only []
    obtain ⟨a1, a2, a3, a4, a5, a6⟩ := s'
    have h4 := hI.2.2.2.1
    simp only [] at h4 ⊢
    rw [h4]
  · simp [hsig]
/-! ## The reference -/
end Go.Sl.Pu
set_option maxRecDepth 20000
/-! Signers: verifying, and the laws. -/
namespace Go.Sl.Pu
open Go.Sl Go.Sl.M
attribute [local irreducible] sha w64 pubk und sigk ndh recov val hat tagged pubT sigT idat nodesS vrf hsig hpub n4
/-- How long a tree's signature is. -/
def tN (p : List (BitVec 8)) : Nat := 8 + sizeN (n4 p 8) + 32 * n4 p 4
def okP (p : List (BitVec 8)) : Prop := (1 ≤ n4 p 4 ∧ n4 p 4 ≤ 4) ∧ (1 ≤ n4 p 8 ∧ n4 p 8 ≤ 4)
instance (p : List (BitVec 8)) : Decidable (okP p) := by unfold okP; infer_instance
def hvrf (p msg sig : List (BitVec 8)) : Bool :=
  decide (p.length = 60 ∧ n4 p 0 = 2 ∧ 4 ≤ sig.length ∧ n4 sig 0 = 1 ∧ okP p ∧ 60 + tN p ≤ sig.length ∧ vrf (p.drop 4) ((sig.drop (4 + tN p)).take 56) ((sig.drop 4).take (tN p)) = true ∧ vrf ((sig.drop (4 + tN p)).take 56) msg (sig.drop (60 + tN p)) = true)
theorem n4_drop (p : List (BitVec 8)) (i j : Nat) : n4 (p.drop i) j = n4 p (i + j) := by
  with_unfolding_all
  unfold n4
  rw [List.drop_drop]
theorem vrf_no {p msg sig : List (BitVec 8)} (h : ¬ ((1 ≤ n4 p 0 ∧ n4 p 0 ≤ 4) ∧ (1 ≤ n4 p 4 ∧ n4 p 4 ≤ 4))) : vrf p msg sig = false := by
  unfold vrf
  rw [decide_eq_false (fun hc => h ⟨hc.2.1, hc.2.2.1⟩)]
theorem n4_32 (b : List (BitVec 8)) (i c : Nat) (hc : c < 4294967296) : (decide ((val ((b.drop i).take 4)).setWidth 32 = BitVec.ofNat 32 c)) = decide (n4 b i = c) := by
  have h := n4_w b i
  simp only [decide_eq_decide]
  constructor
  · intro hh
    rw [hh, BitVec.toNat_ofNat, Nat.mod_eq_of_lt (by omega)] at h
    omega
  · intro hh
    apply BitVec.eq_of_toNat_eq
    rw [BitVec.toNat_ofNat, Nat.mod_eq_of_lt (by omega)]
    omega
theorem tN_le {p : List (BitVec 8)} (h : okP p) : tN p ≤ 200000 := by
  have hk : IsKind (n4 p 8) := by unfold IsKind; have := h.2; omega
  have := chainsN_le hk
  have := h.1
  unfold tN sizeN; omega
theorem hverify_eq (p msg sig : List (BitVec 8)) (hp : p.length ≤ 2000000000) (hm : msg.length ≤ 2000000000) (hs : sig.length ≤ 2000000000) : hss_Verify p msg sig = some (hvrf p msg sig) := by
  unfold hss_Verify
  by_cases hl : p.length = 60
  · have r1 := rU32_at p 0 (by omega)
    have r2 := rU32_at p 4 (by omega)
    have r3 := rU32_at p 8 (by omega)
    rw [if_f (by simp [hl]), bind_some' (rNew_eq p (by omega))]
    simp only []
    rw [show wire_Reader_U32 (p, false) = _ from r1, Option.bind_some]
    simp only []
    rw [n4_32 p 0 2 (by omega)]
    by_cases h2 : n4 p 0 = 2
    · rw [if_f (by rw [decide_eq_true h2]; decide), show wire_Reader_U32 (p.drop (0 + 4), false) = _ from r2, Option.bind_some]
      simp only []
      rw [show wire_Reader_U32 (p.drop (4 + 4), false) = _ from r3, Option.bind_some, bind_some' (rNew_eq sig (by omega))]
      simp only []
      have e1 : (((val (List.take 4 (List.drop 4 p))).setWidth 32).toNat : Int) = (n4 p 4 : Int) := n4_w p 4
      have e2 : (((val (List.take 4 (List.drop 8 p))).setWidth 32).toNat : Int) = (n4 p 8 : Int) := n4_w p 8
      rw [e1, e2]
      by_cases h4 : 4 ≤ sig.length
      · have r4 := rU32_at sig 0 (by omega)
        rw [show wire_Reader_U32 (sig, false) = _ from r4, Option.bind_some]
        simp only []
        rw [n4_32 sig 0 1 (by omega)]
        by_cases h5 : n4 sig 0 = 1
        · rw [if_f (by rw [decide_eq_true h5]; decide)]
          by_cases hk : okP p
          · have hh : IsH (n4 p 4) := by have := hk.1; unfold IsH; omega
            have hkk : IsKind (n4 p 8) := by have := hk.2; unfold IsKind; omega
            have htn := tN_le hk
            rw [bind_some' (lsize_eq hh hkk)]
            have ht : 8 + sizeN (n4 p 8) + 32 * n4 p 4 = tN p := rfl
            rw [ht]
            clear ht
            by_cases h6 : 4 + tN p ≤ sig.length
            · have r5 := rPlain_at sig 4 (tN p) h6
              rw [show wire_Reader_Plain (sig.drop (0 + 4), false) (tN p : Int) = _ from r5, Option.bind_some]
              simp only []
              by_cases h7 : 60 + tN p ≤ sig.length
              · have r6 : wire_Reader_Plain (sig.drop (4 + tN p), false) (56 : Int) = _ := rPlain_at sig (4 + tN p) 56 (by omega)
                rw [bind_some' r6]
                simp only []
                have hln : (sig.drop (4 + tN p + 56)).length = sig.length - (60 + tN p) := by rw [List.length_drop]; omega
                have r7 := rPlain_at sig (4 + tN p + 56) (sig.drop (4 + tN p + 56)).length (by omega)
                have hL : wire_Reader_Left (sig.drop (4 + tN p + 56), false) = some ((sig.drop (4 + tN p + 56)).length : Int) := rfl
                rw [bind_some' hL, bind_some' r7]
                simp only []
                have hF : wire_Reader_Fails (sig.drop (4 + tN p + 56 + (sig.drop (4 + tN p + 56)).length), false) = some false := rfl
                have s1 : lslice p (4 : Int) (p.length : Int) = some (p.drop 4) := by rw [lslice_at (lo := (4 : Int)) (a := 4) rfl rfl (by omega) (Nat.le_refl _), List.take_length]
                rw [bind_some' hF, if_t (by rfl), bind_some' s1, List.take_length, show 4 + tN p + 56 = 60 + tN p by omega]
                have q1 : (p.drop 4).length ≤ 4000000000 := by rw [List.length_drop]; omega
                have q2 : ((sig.drop (4 + tN p)).take 56).length ≤ 2000000000 := by rw [List.length_take]; omega
                have q3 : ((sig.drop 4).take (tN p)).length ≤ 2000000000 := by rw [List.length_take]; omega
                have q4 : (sig.drop (60 + tN p)).length ≤ 2000000000 := by rw [List.length_drop]; omega
                have q5 : ((sig.drop (4 + tN p)).take 56).length ≤ 4000000000 := by rw [List.length_take]; omega
                rw [bind_some' (lverify_eq _ _ _ q1 q2 q3), Option.bind_some]
                by_cases v1 : vrf (p.drop 4) ((sig.drop (4 + tN p)).take 56) ((sig.drop 4).take (tN p)) = true
                · rw [if_t v1, bind_some' (lverify_eq _ _ _ q5 hm q4), Option.bind_some]
                  refine congrArg some ?_
                  unfold hvrf
                  by_cases v2 : vrf ((sig.drop (4 + tN p)).take 56) msg (sig.drop (60 + tN p)) = true
                  · exact v2.trans (decide_eq_true ⟨hl, h2, h4, h5, hk, h7, v1, v2⟩).symm
                  · rw [decide_eq_false (fun hc => v2 hc.2.2.2.2.2.2.2)]
                    simpa using v2
                · rw [if_f v1, Option.bind_some]
                  refine congrArg some ?_
                  unfold hvrf
                  rw [decide_eq_false (fun hc => v1 hc.2.2.2.2.2.2.1)]
              · have r6 : wire_Reader_Plain (sig.drop (4 + tN p), false) (56 : Int) = some ((sig.drop (4 + tN p), true), []) := rPlain_short _ _ (by right; rw [List.length_drop]; omega)
                rw [bind_some' r6]
                simp only []
                have hL : wire_Reader_Left (sig.drop (4 + tN p), true) = some ((sig.drop (4 + tN p)).length : Int) := rfl
                rw [bind_some' hL, bind_some' (rPlain_failed _ _)]
                simp only []
                have hF : wire_Reader_Fails (sig.drop (4 + tN p), true) = some true := rfl
                rw [bind_some' hF, if_f (by decide), Option.bind_some, if_f (by decide), Option.bind_some]
                refine congrArg some ?_
                unfold hvrf
                rw [decide_eq_false (fun hc => h7 hc.2.2.2.2.2.1)]
            · have r5 : wire_Reader_Plain (sig.drop (0 + 4), false) (tN p : Int) = some ((sig.drop (0 + 4), true), []) := rPlain_short _ _ (by right; rw [List.length_drop]; omega)
              rw [bind_some' r5]
              simp only []
              rw [bind_some' (rPlain_failed _ _)]
              simp only []
              have hL : wire_Reader_Left (sig.drop (0 + 4), true) = some ((sig.drop (0 + 4)).length : Int) := rfl
              rw [bind_some' hL, bind_some' (rPlain_failed _ _)]
              simp only []
              have hF : wire_Reader_Fails (sig.drop (0 + 4), true) = some true := rfl
              rw [bind_some' hF, if_f (by decide), Option.bind_some, if_f (by decide), Option.bind_some]
              refine congrArg some ?_
              unfold hvrf
              rw [decide_eq_false (fun hc => h6 (by have := hc.2.2.2.2.2.1; omega))]
          · have hv : hvrf p msg sig = false := by unfold hvrf; rw [decide_eq_false (fun hc => hk hc.2.2.2.2.1)]
            rw [hv, bind_some' (lsize_no (by unfold okP at hk; omega))]
            have r5 : wire_Reader_Plain (sig.drop (0 + 4), false) (0 : Int) = some ((sig.drop (4 + 0), false), (sig.drop 4).take 0) := rPlain_at sig 4 0 (by omega)
            rw [bind_some' r5]
            simp only []
            by_cases h7 : 60 ≤ sig.length
            · have r6 : wire_Reader_Plain (sig.drop (4 + 0), false) (56 : Int) = _ := rPlain_at sig 4 56 (by omega)
              rw [bind_some' r6]
              simp only []
              have hln : (sig.drop (4 + 56)).length = sig.length - 60 := by rw [List.length_drop]
              have r7 := rPlain_at sig (4 + 56) (sig.drop (4 + 56)).length (by omega)
              have hL : wire_Reader_Left (sig.drop (4 + 56), false) = some ((sig.drop (4 + 56)).length : Int) := rfl
              rw [bind_some' hL, bind_some' r7]
              simp only []
              have hF : wire_Reader_Fails (sig.drop (4 + 56 + (sig.drop (4 + 56)).length), false) = some false := rfl
              have s1 : lslice p (4 : Int) (p.length : Int) = some (p.drop 4) := by rw [lslice_at (lo := (4 : Int)) (a := 4) rfl rfl (by omega) (Nat.le_refl _), List.take_length]
              have q1 : (p.drop 4).length ≤ 4000000000 := by rw [List.length_drop]; omega
              have q2 : ((sig.drop 4).take 56).length ≤ 2000000000 := by rw [List.length_take]; omega
              have q3 : ((sig.drop 4).take 0).length ≤ 2000000000 := by rw [List.length_take]; omega
              have hvn : vrf (p.drop 4) ((sig.drop 4).take 56) ((sig.drop 4).take 0) = false := vrf_no (by rw [n4_drop, n4_drop]; exact hk)
              rw [bind_some' hF, if_t (by rfl), bind_some' s1, bind_some' (lverify_eq _ _ _ q1 q2 q3), hvn, Option.bind_some, if_f (by decide), Option.bind_some]
            · have r6 : wire_Reader_Plain (sig.drop (4 + 0), false) (56 : Int) = some ((sig.drop (4 + 0), true), []) := rPlain_short _ _ (by right; rw [List.length_drop]; omega)
              rw [bind_some' r6]
              simp only []
              have hL : wire_Reader_Left (sig.drop (4 + 0), true) = some ((sig.drop (4 + 0)).length : Int) := rfl
              rw [bind_some' hL, bind_some' (rPlain_failed _ _)]
              simp only []
              have hF : wire_Reader_Fails (sig.drop (4 + 0), true) = some true := rfl
              rw [bind_some' hF, if_f (by decide), Option.bind_some, if_f (by decide), Option.bind_some]
        · rw [if_t (by rw [decide_eq_false h5]; rfl)]
          refine congrArg some ?_
          unfold hvrf
          rw [decide_eq_false (fun hc => h5 hc.2.2.2.1)]
      · rw [bind_some' (rU32_short sig (by omega)), if_t (by simp)]
        refine congrArg some ?_
        unfold hvrf
        rw [decide_eq_false (fun hc => h4 hc.2.2.1)]
    · rw [if_t (by rw [decide_eq_false h2]; rfl)]
      refine congrArg some ?_
      unfold hvrf
      rw [decide_eq_false (fun hc => h2 hc.2.1)]
  · rw [if_t (by simp; omega)]
    refine congrArg some ?_
    unfold hvrf
    rw [decide_eq_false (fun hc => hl hc.1)]
/-! ## What was signed is right -/
theorem be2_4 : be (BitVec.ofNat 32 2) 4 = [0#8, 0#8, 0#8, 2#8] := by decide
theorem be1_4 : be (BitVec.ofNat 32 1) 4 = [0#8, 0#8, 0#8, 1#8] := by decide
theorem hpub_parts {t k : Nat} (ht : IsH t) (hk : IsKind k) (seed : T_api_Hash) : n4 (hpub t k seed) 0 = 2 ∧ n4 (hpub t k seed) 4 = t ∧ n4 (hpub t k seed) 8 = k ∧ (hpub t k seed).drop 4 = pubT t k (tID seed) (tSeed seed) := by
  obtain ⟨p1, p2, p3, p4⟩ := pubT_parts ht hk (tID seed) (tSeed seed)
  have hd : (hpub t k seed).drop 4 = pubT t k (tID seed) (tSeed seed) := by unfold hpub; rfl
  refine ⟨?_, ?_, ?_, hd⟩
  · have := n4_mid [] (pubT t k (tID seed) (tSeed seed)) 2 0 (by omega) rfl
    unfold hpub
    rw [be2_4] at this
    exact this
  · rw [← n4_drop _ 4 0, hd, p1]
  · rw [← n4_drop _ 4 4, hd, p2]
theorem hsig_parts {t b k : Nat} (hb : IsH b) (seed : T_api_Hash) (n : Nat) (hn : n < KK t * KK b) (msg more : List (BitVec 8)) :
    n4 (hsig t b k seed n msg ++ more) 0 = 1 ∧ ((hsig t b k seed n msg ++ more).drop 4).take (8 + sizeN k + 32 * t) = sigT t k (tID seed) (tSeed seed) (n / KK b) (pubT b k (bID seed (n / KK b)) (bSeed seed (n / KK b))) ∧
    ((hsig t b k seed n msg ++ more).drop (4 + (8 + sizeN k + 32 * t))).take 56 = pubT b k (bID seed (n / KK b)) (bSeed seed (n / KK b)) ∧ (hsig t b k seed n msg ++ more).drop (60 + (8 + sizeN k + 32 * t)) = sigT b k (bID seed (n / KK b)) (bSeed seed (n / KK b)) (n % KK b) msg ++ more := by
  obtain ⟨d1, d2⟩ := hdiv_lt hb hn
  have l1 := sigT_len (h := t) (k := k) (tID seed) (tSeed seed) (n / KK b) d1 (pubT b k (bID seed (n / KK b)) (bSeed seed (n / KK b)))
  have hp := pubT_len b k (bID seed (n / KK b)) (bSeed seed (n / KK b))
  unfold hsig
  generalize sigT t k (tID seed) (tSeed seed) (n / KK b) (pubT b k (bID seed (n / KK b)) (bSeed seed (n / KK b))) = A at l1 ⊢
  generalize sigT b k (bID seed (n / KK b)) (bSeed seed (n / KK b)) (n % KK b) msg = C
  generalize pubT b k (bID seed (n / KK b)) (bSeed seed (n / KK b)) = B at hp ⊢
  generalize 8 + sizeN k + 32 * t = N at l1 ⊢
  rw [← be1_4]
  refine ⟨?_, ?_, ?_, ?_⟩
  · have := n4_mid [] (((A ++ B) ++ C) ++ more) 1 0 (by omega) rfl
    simpa [List.append_assoc] using this
  · rw [List.append_assoc, List.append_assoc, List.append_assoc, List.drop_left' (be_len _ _), List.take_left' l1]
  · rw [List.append_assoc, List.append_assoc, List.drop_left' (by rw [List.length_append, be_len, l1]), List.take_left' hp]
  · rw [List.append_assoc, List.drop_left' (by rw [List.length_append, List.length_append, be_len, l1, hp]; omega)]
theorem hvrf_more {t b k : Nat} (ht : IsH t) (hb : IsH b) (hk : IsKind k) (seed : T_api_Hash) (n : Nat) (hn : n < KK t * KK b) (msg more : List (BitVec 8)) :
    hvrf (hpub t k seed) msg (hsig t b k seed n msg ++ more) = vrf (pubT b k (bID seed (n / KK b)) (bSeed seed (n / KK b))) msg (sigT b k (bID seed (n / KK b)) (bSeed seed (n / KK b)) (n % KK b) msg ++ more) := by
  obtain ⟨d1, d2⟩ := hdiv_lt hb hn
  obtain ⟨p1, p2, p3, p4⟩ := hpub_parts ht hk seed
  obtain ⟨s1, s2, s3, s4⟩ := hsig_parts (t := t) (k := k) hb seed n hn msg more
  have hl := hsig_len (t := t) (k := k) hb seed n hn msg
  have ht1 := isH_le ht
  have hk1 := isK_le hk
  have htn : tN (hpub t k seed) = 8 + sizeN k + 32 * t := by unfold tN; rw [p2, p3]
  unfold hvrf
  rw [htn, s1, s2, s3, s4, p4, p1, hpub_len]
  have hok : okP (hpub t k seed) := by unfold okP; rw [p2, p3]; omega
  have hr := vrf_right ht hk (tID seed) (tSeed seed) (n / KK b) d1 (pubT b k (bID seed (n / KK b)) (bSeed seed (n / KK b)))
  by_cases v : vrf (pubT b k (bID seed (n / KK b)) (bSeed seed (n / KK b))) msg (sigT b k (bID seed (n / KK b)) (bSeed seed (n / KK b)) (n % KK b) msg ++ more) = true
  · rw [v, decide_eq_true ⟨rfl, rfl, by rw [List.length_append]; omega, rfl, hok, by rw [List.length_append]; omega, hr, rfl⟩]
  · rw [decide_eq_false (fun hc => v hc.2.2.2.2.2.2.2)]
    simpa using v
theorem hvrf_right {t b k : Nat} (ht : IsH t) (hb : IsH b) (hk : IsKind k) (seed : T_api_Hash) (n : Nat) (hn : n < KK t * KK b) (msg : List (BitVec 8)) : hvrf (hpub t k seed) msg (hsig t b k seed n msg) = true := by
  obtain ⟨d1, d2⟩ := hdiv_lt hb hn
  have := hvrf_more ht hb hk seed n hn msg []
  rw [List.append_nil, List.append_nil] at this
  rw [this]
  exact vrf_right hb hk _ _ _ d2 msg
end Go.Sl.Pu
set_option maxRecDepth 20000
/-! Heads: their bytes, there and back. -/
namespace Go.Sl.Pu
open Go.Sl Go.Sl.M
attribute [local irreducible] w64 val hat n4 be
def isHd (h : T_head_Head) : Prop := (1 ≤ h.1 ∧ h.1 ≤ 2147483647) ∧ (1 ≤ h.2.1 ∧ h.2.1 ≤ 2147483647)
instance (h : T_head_Head) : Decidable (isHd h) := by unfold isHd; infer_instance
theorem is_eq (h : T_head_Head) : head_Head_is h = some (decide (isHd h)) := by
  unfold head_Head_is
  by_cases h1 : 1 ≤ h.1
  · rw [if_t (decide_eq_true h1), Option.bind_some]
    by_cases h2 : h.1 < 2147483648
    · rw [if_t (decide_eq_true h2), Option.bind_some]
      by_cases h3 : 1 ≤ h.2.1
      · rw [if_t (decide_eq_true h3), Option.bind_some]
        refine congrArg some (decide_eq_decide.2 ?_)
        unfold isHd
        omega
      · rw [if_f (by simpa using h3), Option.bind_some, decide_eq_false (fun hc => by unfold isHd at hc; omega)]
    · rw [if_f (by simpa using h2), Option.bind_some, if_f (by decide), Option.bind_some, decide_eq_false (fun hc => by unfold isHd at hc; omega)]
  · rw [if_f (by simpa using h1), Option.bind_some, if_f (by decide), Option.bind_some, if_f (by decide), Option.bind_some, decide_eq_false (fun hc => by unfold isHd at hc; omega)]
def encS (h : T_head_Head) : List (BitVec 8) := ((be (BitVec.ofNat 32 h.1.toNat) 4 ++ be (BitVec.ofNat 32 h.2.1.toNat) 4) ++ h.2.2.1.toList) ++ h.2.2.2.toList
theorem encS_len (h : T_head_Head) : (encS h).length = 72 := by simp [encS, be_len]
theorem encode_eq (h : T_head_Head) : head_Encode h = some (if isHd h then (encS h, 0) else ([], 1)) := by
  unfold head_Encode
  rw [bind_some' (is_eq h)]
  by_cases hh : isHd h
  · rw [if_pos hh, if_f (by rw [decide_eq_true hh]; decide)]
    unfold isHd at hh
    rw [show h.1 = ((h.1.toNat : Nat) : Int) by omega, show h.2.1 = ((h.2.1.toNat : Nat) : Int) by omega, ofInt32, ofInt32, bind_some' (wU32_eq [] (by simp) _), bind_some' (wU32_eq _ (by simp [be_len]) _), bind_some' (wPlain_eq _ _ (by simp [be_len])), bind_some' (wPlain_eq _ _ (by simp [be_len])), bind_some' (wOut_eq _ (by simp [be_len]))]
    rfl
  · rw [if_neg hh, if_t (by rw [decide_eq_false hh]; rfl)]
end Go.Sl.Pu
set_option maxRecDepth 20000
/-! Heads: entries; right heads. -/
namespace Go.Sl.Pu
open Go.Sl Go.Sl.M
attribute [local irreducible] w64 val hat n4 be sha hvrf
noncomputable def rightS (s : T_head_Signed) (p : List (BitVec 8)) : Bool := if isHd s.1 then hvrf p (encS s.1) s.2 else false
theorem right_eq (s : T_head_Signed) (p : List (BitVec 8)) (hs : s.2.length ≤ 2000000000) (hp : p.length ≤ 2000000000) : head_Right s p = some (rightS s p) := by
  unfold head_Right rightS
  rw [bind_some' (encode_eq _)]
  by_cases hh : isHd s.1
  · rw [if_pos hh, if_t (by simp), bind_some' (hverify_eq _ _ _ hp (by show (encS s.1).length ≤ _; rw [encS_len]; omega) hs), Option.bind_some, if_pos hh]
  · rw [if_neg hh, if_f (by simp), Option.bind_some, if_neg hh]
end Go.Sl.Pu
set_option linter.unusedSectionVars false
namespace Go.Sl
namespace Pu
open Go.Sl Go.Sl.M
abbrev seed27 : T_api_Hash := #v[27#8, 0#8, 0#8, 0#8, 0#8, 0#8, 0#8, 0#8, 0#8, 0#8, 0#8, 0#8, 0#8, 0#8, 0#8, 0#8, 0#8, 0#8, 0#8, 0#8, 0#8, 0#8, 0#8, 0#8, 0#8, 0#8, 0#8, 0#8, 0#8, 0#8, 0#8, 0#8]
theorem ih1 : IsH 1 := Or.inl rfl
theorem ih2 : IsH 2 := Or.inr (Or.inl rfl)
theorem ik3 : IsKind 3 := Or.inr (Or.inr (Or.inl rfl))
theorem kk12 : KK 1 * KK 2 = 8 := rfl
theorem signer27 : ∃ s : Sg, rolodexlaw27_Signer = some s ∧ IsS 1 2 3 seed27 s := by
  obtain ⟨s, hs, hI⟩ := hnew_eq ih1 ih2 ik3 seed27
  have hs' : hss_New (1 : Int) (2 : Int) (3 : Int) seed27 = _ := hs
  refine ⟨s, ?_, hI⟩
  unfold rolodexlaw27_Signer
  rw [Option.bind_some, bind_some' hs', Option.bind_some]
def num27 (h : T_head_Head) : Nat := ((BitVec.ofInt 64 h.1) % (8#64)).toNat
theorem num27_lt (h : T_head_Head) : num27 h < 8 := by
  unfold num27
  rw [BitVec.toNat_umod]
  exact Nat.mod_lt _ (by decide)
def sig27 (h : T_head_Head) : List (BitVec 8) := hsig 1 2 3 seed27 (num27 h) (encS h)
def pub27 : List (BitVec 8) := hpub 1 3 seed27
theorem signed27 {s : Sg} (hI : IsS 1 2 3 seed27 s) (h : T_head_Head) (hh : isHd h) : ∃ s' : Sg, rolodexlaw27_Signed s h = some (s', (h, sig27 h)) ∧ IsS 1 2 3 seed27 s' := by
  have he := encode_eq h
  rw [if_pos hh] at he
  have hl := encS_len h
  have hn := num27_lt h
  obtain ⟨s', hs2, hI2⟩ := hsign_eq ih1 ih2 ik3 hI (num27 h) (by rw [kk12]; exact hn) (encS h) (by omega)
  refine ⟨s', ?_, hI2⟩
  have hw : w64 (((BitVec.ofInt 64 h.1) % (8#64)).toNat : Int) = ((num27 h : Nat) : Int) := w64_eq (by have : ((BitVec.ofInt 64 h.1) % (8#64)).toNat = num27 h := rfl; omega)
  have hd : head_Sign s ((num27 h : Nat) : Int) h = some (s', (h, sig27 h), 0) := by
    unfold head_Sign
    rw [bind_some' he, if_f (by simp), show ((s.1, s.2.1, s.2.2.1, s.2.2.2.1, s.2.2.2.2.1, s.2.2.2.2.2) : Sg) = s from rfl, bind_some' hs2, if_f (by simp), Option.bind_some]
    rfl
  unfold rolodexlaw27_Signed
  rw [hw, show ((s.1, s.2.1, s.2.2.1, s.2.2.2.1, s.2.2.2.2.1, s.2.2.2.2.2) : Sg) = s from rfl, bind_some' hd]
theorem sig27_len (h : T_head_Head) : (sig27 h).length ≤ 2000000 := by
  have := hsig_len (t := 1) (k := 3) ih2 seed27 (num27 h) (by rw [kk12]; exact num27_lt h) (encS h)
  have hsz : sizeN 3 = 2180 := rfl
  unfold sig27
  omega
theorem right27 (h : T_head_Head) (hh : isHd h) : head_Right (h, sig27 h) pub27 = some true := by
  have hr := hvrf_right ih1 ih2 ik3 seed27 (num27 h) (by rw [kk12]; exact num27_lt h) (encS h)
  have hp : pub27.length = 60 := hpub_len 1 3 seed27
  have hsl := sig27_len h
  rw [right_eq (h, sig27 h) pub27 (by show (sig27 h).length ≤ _; omega) (by omega)]
  unfold rightS
  rw [if_pos hh]
  exact congrArg some hr
end Pu
end Go.Sl
namespace Go.Sl
namespace Pu
open Go.Sl Go.Sl.M
abbrev Sgd := T_head_Signed
theorem gcopied_eq (s : Sgd) (h : s.2.length ≤ 2000000) : gossip_copied s = some s := by
  unfold gossip_copied
  have hcl : slices_Clone_byte_byte s.2 = some s.2 := by unfold slices_Clone_byte_byte; rw [if_t (by simp [AP]; omega)]; simp
  rw [bind_some' hcl]
/-- Where a list of rising heads is parted by an epoch. -/
def Parts27 (l : List Sgd) (e : Int) (k : Nat) : Prop := k ≤ l.length ∧ (∀ i (h : i < l.length), i < k → l[i].1.1 < e) ∧ (∀ i (h : i < l.length), k ≤ i → e ≤ l[i].1.1)
def Small27 (l : List Sgd) : Prop := l.length ≤ 1000 ∧ ∀ s ∈ l, 0 ≤ s.1.1 ∧ s.1.1 ≤ 2147483647
theorem half27 {i j : Nat} (hj : j ≤ 1000) (hi : i < j) : w64 (((BitVec.ofInt 64 (w64 ((i : Int) + (j : Int)))) >>> 1).toNat : Int) = (((i + j) / 2 : Nat) : Int) := by
  rw [w64_eq (n := (i : Int) + (j : Int)) (by omega)]
  have e1 : (BitVec.ofInt 64 ((i : Int) + (j : Int))).toNat = i + j := by
    rw [BitVec.toNat_ofInt]; omega
  have e2 : ((BitVec.ofInt 64 ((i : Int) + (j : Int))) >>> 1).toNat = (i + j) / 2 := by
    rw [BitVec.toNat_ushiftRight, e1, Nat.shiftRight_eq_div_pow]
  rw [e2, w64_eq (by omega)]
theorem bsearch_eq (l : List Sgd) (e : Int) (k : Nat) (hs : Small27 l) (he : 0 ≤ e ∧ e ≤ 2147483647) (hk : Parts27 l e k) :
    loopS (fun (s : Int × Int) => slices_BinarySearchFunc_head_Signed_head_Signed_int_gossip_Pool_place_1_L1 l e s.1 s.2) FU ((0 : Int), (l.length : Int)) = some ((k : Int), (k : Int)) := by
  obtain ⟨hk0, hk1, hk2⟩ := hk
  have hlen := hs.1
  obtain ⟨s, h1, h2⟩ := loopS_inv (f := fun (s : Int × Int) => slices_BinarySearchFunc_head_Signed_head_Signed_int_gossip_Pool_place_1_L1 l e s.1 s.2) (fun (s : Int × Int) => ∃ i j : Nat, s = ((i : Int), (j : Int)) ∧ i ≤ k ∧ k ≤ j ∧ j ≤ l.length) (fun (s : Int × Int) => (s.2 - s.1).toNat) (fun s => s = ((k : Int), (k : Int))) (by
    rintro s ⟨i, j, rfl, h1, h2, h3⟩
    simp only [slices_BinarySearchFunc_head_Signed_head_Signed_int_gossip_Pool_place_1_L1]
    by_cases hij : i < j
    · left
      have hm : (i + j) / 2 < l.length := by omega
      have hsm := hs.2 _ (List.getElem_mem hm)
      rw [if_t (by simp; omega), half27 (by omega) hij, Option.bind_some, bind_some' (lget_at rfl hm)]
      unfold gossip_Pool_place_1
      rw [Option.bind_some, w64_eq (n := l[(i + j) / 2].1.1 - e) (by omega)]
      by_cases hlt : l[(i + j) / 2].1.1 < e
      · rw [if_t (by simp; omega), w64_eq (by omega)]
        refine ⟨_, rfl, ⟨(i + j) / 2 + 1, j, by simp, ?_, h2, h3⟩, by dsimp only; omega⟩
        rcases Nat.lt_or_ge ((i + j) / 2) k with h | h
        · exact h
        · have := hk2 _ hm h; omega
      · rw [if_f (by simp; omega)]
        refine ⟨_, rfl, ⟨i, (i + j) / 2, rfl, h1, ?_, by omega⟩, by dsimp only; omega⟩
        rcases Nat.lt_or_ge ((i + j) / 2) k with h | h
        · exact absurd (hk1 _ hm h) hlt
        · exact h
    · right
      rw [if_f (by simp; omega)]
      have : i = k := by omega
      have : j = k := by omega
      subst_vars
      exact ⟨_, rfl, rfl⟩) FU _ ⟨0, l.length, rfl, by omega, hk0, Nat.le_refl _⟩ (Nat.lt_of_le_of_lt (show _ ≤ l.length by dsimp only; omega) (fu_lt (by omega)))
  rw [h2] at h1
  exact h1
theorem gplace_eq (pu : List (BitVec 8)) (l : List Sgd) (fo : List T_gossip_Fork) (li : List T_gossip_link) (e : Int) (k : Nat) (hs : Small27 l) (he : 0 ≤ e ∧ e ≤ 2147483647) (hk : Parts27 l e k) :
    gossip_Pool_place (some (pu, l, fo, li)) e = some ((k : Int), decide (∃ s ∈ l[k]?, s.1.1 = e)) := by
  have hlen := hs.1
  unfold gossip_Pool_place slices_BinarySearchFunc_head_Signed_head_Signed_int_gossip_Pool_place_1
  rw [Option.bind_some]
  rw [bind_some' (bsearch_eq l e k hs he hk)]
  dsimp only
  by_cases h : k < l.length
  · have hsm := hs.2 _ (List.getElem_mem h)
    rw [if_t (by simp; omega), bind_some' (lget_at rfl h)]
    unfold gossip_Pool_place_1
    rw [Option.bind_some, Option.bind_some, w64_eq (n := l[k].1.1 - e) (by omega), Option.bind_some]
    have : (∃ s ∈ l[k]?, s.1.1 = e) ↔ l[k].1.1 - e = 0 := by
      rw [List.getElem?_eq_getElem h]; simp; omega
    simp only [this, Option.bind_some]
  · rw [if_f (by simp; omega), Option.bind_some, Option.bind_some]
    have : ¬ (∃ s ∈ l[k]?, s.1.1 = e) := by
      rw [List.getElem?_eq_none (by omega)]; simp
    exact congrArg (fun b => some ((k : Int), b)) (decide_eq_false this).symm
end Pu
end Go.Sl
namespace Go.Sl
namespace Pu
open Go.Sl Go.Sl.M
end Pu
end Go.Sl
namespace Go.Sl
namespace Pu
open Go.Sl Go.Sl.M
section
variable (pu : List (BitVec 8)) (l : List Sgd) (fo : List T_gossip_Fork) (li : List T_gossip_link) (s : Sgd) (k : Nat) (hr : head_Right s pu = some true) (hs : Small27 l) (he : 0 ≤ s.1.1 ∧ s.1.1 ≤ 2147483647) (hk : Parts27 l s.1.1 k)
include hr hs he hk
theorem gput_new (hn : ¬ ∃ x ∈ l[k]?, x.1.1 = s.1.1) (hl : l.length < 64) (hS : s.2.length ≤ 2000000) : gossip_Pool_Put (pu, l, fo, li) s = some ((pu, l.take k ++ [s] ++ l.drop k, fo, li), 0) := by
  have hk0 := hk.1
  unfold gossip_Pool_Put
  rw [bind_some' hr, if_f (by simp)]
  dsimp only
  rw [bind_some' (gplace_eq pu l fo li s.1.1 k hs he hk)]
  dsimp only
  rw [decide_eq_false hn, if_f (by simp), Option.bind_some, if_f (by simp), if_f (by simp), Option.bind_some, if_f (by simp; omega), bind_some' (gcopied_eq s hS)]
  unfold slices_Insert_head_Signed_head_Signed
  rw [if_pos ⟨by omega, by omega, rfl, by omega⟩, Option.bind_some, Int.toNat_natCast]
end
end Pu
end Go.Sl
namespace Go.Sl
namespace Pu
open Go.Sl Go.Sl.M
theorem gheads_eq (pu : List (BitVec 8)) (l : List Sgd) (fo : List T_gossip_Fork) (li : List T_gossip_link) (hn : l.length ≤ 1000) (hS : ∀ s ∈ l, s.2.length ≤ 2000000) : gossip_Pool_Heads (pu, l, fo, li) = some l := by
  unfold gossip_Pool_Heads
  have h1 := mapscan (f := fun (s : Int × List Sgd) => gossip_Pool_Heads_L1 (pu, l, fo, li) s.1 s.2) l id (by omega) (fun i hi acc ha => by
    simp only [gossip_Pool_Heads_L1]
    have hv := hS _ (List.getElem_mem hi)
    rw [if_t (by simp; omega), bind_some' (lget_at rfl hi), bind_some' (gcopied_eq _ hv), if_t (by simp [AP]; omega), w64_eq (by omega)]; rfl) (fun acc => by
    simp only [gossip_Pool_Heads_L1]
    rw [if_f (by simp)])
  rw [bind_some' h1]; simp
theorem gnew_eq (pu : List (BitVec 8)) (h : pu.length ≤ 2000000) : gossip_New pu = some (pu, [], [], []) := by
  unfold gossip_New
  have hcl : slices_Clone_byte_byte pu = some pu := by unfold slices_Clone_byte_byte; rw [if_t (by simp [AP]; omega)]; simp
  rw [bind_some' hcl]
  try rfl
end Pu
end Go.Sl
namespace Go.Sl
namespace Pu
open Go.Sl Go.Sl.M
theorem pub27_len : pub27.length ≤ 2000000 := by
  have : pub27.length = 60 := hpub_len 1 3 seed27
  omega
def sg27 (h : T_head_Head) : Sgd := (h, sig27 h)
theorem parts_nil (e : Int) : Parts27 [] e 0 := ⟨Nat.le_refl _, fun i h => by simp at h, fun i h => by simp at h⟩
theorem parts_one (s : Sgd) : Parts27 [s] s.1.1 0 := ⟨by simp, fun i h hi => by omega, fun i h _ => by
  have : i = 0 := by simp at h; omega
  subst this; exact Int.le_refl _⟩
theorem small_nil : Small27 [] := ⟨by simp, fun s h => by cases h⟩
theorem small_one (s : Sgd) (h : 0 ≤ s.1.1 ∧ s.1.1 ≤ 2147483647) : Small27 [s] := ⟨by simp, fun x hx => by rw [List.mem_singleton.1 hx]; exact h⟩
def h327 : T_head_Head := (3, 1, Vector.replicate 32 0#8, Vector.replicate 32 0#8)
theorem linked_self (pu : List (BitVec 8)) (s : Sgd) (h : 0 ≤ s.1.1 ∧ s.1.1 ≤ 2147483647) : gossip_Pool_Linked (some (pu, [s], [], [])) s.1.1 s.1.1 = some true := by
  unfold gossip_Pool_Linked
  have hp := gplace_eq pu [s] [] [] s.1.1 0 (small_one s h) h (parts_one s)
  have hy : ∃ x ∈ [s][0]?, x.1.1 = s.1.1 := ⟨s, rfl, rfl⟩
  rw [decide_eq_true hy] at hp
  rw [if_f (by simp), bind_some' hp, bind_some' hp]
  dsimp only
  rw [if_f (by simp), Option.bind_some, if_f (by simp)]
  have h1 : gossip_Pool_Linked_L1 s.1.1 (some (pu, [s], [], [])) 0 [s.1.1] = some (.ret true) := by
    unfold gossip_Pool_Linked_L1
    rw [if_t (by simp), bind_some' (show lget [s.1.1] 0 = some s.1.1 from rfl), if_t (by simp)]
  have h2 := loopO_ret (f := fun (s1 : Int × List Int) => gossip_Pool_Linked_L1 s.1.1 (some (pu, [s], [], [])) s1.1 s1.2) (n := FU - 1) (s := ((0 : Int), [s.1.1])) h1
  rw [show FU - 1 + 1 = FU from rfl] at h2
  rw [bind_some' h2]
theorem awake27 : rolodexlaw27_awake = some true := by
  unfold rolodexlaw27_awake
  obtain ⟨s, hs, hI⟩ := signer27
  have hh : isHd h327 := by decide
  obtain ⟨s', hs2, hI2⟩ := signed27 hI h327 hh
  have hpub : hss_Signer_Public s = some pub27 := hpublic_eq ih1 hI
  have hsl := sig27_len h327
  have hput := gput_new pub27 [] [] [] (sg27 h327) 0 (right27 h327 hh) small_nil (show 0 ≤ (3 : Int) ∧ (3 : Int) ≤ 2147483647 by omega) (parts_nil _) (by simp) (by simp) hsl
  rw [bind_some' hs, show ((s.1, s.2.1, s.2.2.1, s.2.2.2.1, s.2.2.2.2.1, s.2.2.2.2.2) : Sg) = s from rfl, bind_some' hpub, bind_some' (gnew_eq pub27 pub27_len), Option.bind_some, bind_some' (show rolodexlaw27_Signed s ((3 : Int), (1 : Int), Vector.replicate 32 0#8, Vector.replicate 32 0#8) = _ from hs2)]
  dsimp only
  rw [bind_some' (show gossip_Pool_Put (pub27, [], [], []) (h327, sig27 h327) = _ from hput)]
  dsimp only
  rw [if_t (by simp)]
  have hhd := gheads_eq pub27 [sg27 h327] [] [] (by simp) (fun x hx => by rw [List.mem_singleton.1 hx]; exact hsl)
  have hlk : gossip_Pool_Linked (some (pub27, [sg27 h327], [], [])) (3 : Int) (3 : Int) = some true := linked_self pub27 (sg27 h327) (show 0 ≤ (3 : Int) ∧ (3 : Int) ≤ 2147483647 by omega)
  have e1 : ([] : List Sgd).take 0 ++ [sg27 h327] ++ ([] : List Sgd).drop 0 = [sg27 h327] := rfl
  rw [e1, bind_some' hhd, Option.bind_some, if_t (by simp), bind_some' hlk, Option.bind_some]
end Pu
end Go.Sl
