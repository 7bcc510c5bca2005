import Derived.Test.YtbaecpklplkciaaDoorBase
set_option linter.unusedVariables false
set_option maxRecDepth 100000
namespace Go.Sl
namespace M
abbrev T_lmots_form : Type := Int × Int × Int
abbrev T_hash_state : Type := Vector (BitVec 32) 8
abbrev T_api_Hash : Type := Vector (BitVec 8) 32
abbrev T_api_ID : Type := Vector (BitVec 8) 16
abbrev T_lms_Tree : Type := Int × Int × T_api_ID × T_api_Hash × (List T_api_Hash)
abbrev T_hss_Signer : Type := Int × Int × T_api_Hash × (Option T_lms_Tree) × (Option T_lms_Tree) × Int
abbrev T_wire_Reader : Type := (List (BitVec 8)) × Bool
abbrev T_lms_signature : Type := Int × (List (BitVec 8)) × (List T_api_Hash)
def G_lmots_forms : Vector T_lmots_form 5 := #v[(0, 0, 0), (1, 265, 7), (2, 133, 6), (4, 67, 4), (8, 34, 0)]
def G_hash_begin : T_hash_state := #v[1779033703#32, 3144134277#32, 1013904242#32, 2773480762#32, 1359893119#32, 2600822924#32, 528734635#32, 1541459225#32]
def G_hash_rounds : Vector (BitVec 32) 64 := #v[1116352408#32, 1899447441#32, 3049323471#32, 3921009573#32, 961987163#32, 1508970993#32, 2453635748#32, 2870763221#32, 3624381080#32, 310598401#32, 607225278#32, 1426881987#32, 1925078388#32, 2162078206#32, 2614888103#32, 3248222580#32, 3835390401#32, 4022224774#32, 264347078#32, 604807628#32, 770255983#32, 1249150122#32, 1555081692#32, 1996064986#32, 2554220882#32, 2821834349#32, 2952996808#32, 3210313671#32, 3336571891#32, 3584528711#32, 113926993#32, 338241895#32, 666307205#32, 773529912#32, 1294757372#32, 1396182291#32, 1695183700#32, 1986661051#32, 2177026350#32, 2456956037#32, 2730485921#32, 2820302411#32, 3259730800#32, 3345764771#32, 3516065817#32, 3600352804#32, 4094571909#32, 275423344#32, 430227734#32, 506948616#32, 659060556#32, 883997877#32, 958139571#32, 1322822218#32, 1537002063#32, 1747873779#32, 1955562222#32, 2024104815#32, 2227730452#32, 2361852424#32, 2428436474#32, 2756734187#32, 3204031479#32, 3329325298#32]
/- rolodex/lmots.of -/
def lmots_of (p_kind : Int) : Option (T_lmots_form × Bool) :=
 Option.bind (if (decide (p_kind < (1 : Int))) = true then (
 some true) else (
 some (decide ((4 : Int) < p_kind)))) fun y1 =>
 if (y1) = true then (
 some ((0, 0, 0), false)) else (
 Option.bind (vget G_lmots_forms p_kind) fun x1 =>
 some (x1, true))
/- rolodex/lmots.Chains -/
def lmots_Chains (p_kind : Int) : Option Int :=
 Option.bind (lmots_of p_kind) fun r1 =>
 some r1.1.2.1
/- rolodex/lms.may -/
def lms_may (p_height : Int) (p_kind : Int) : Option Bool :=
 Option.bind (if (decide ((1 : Int) ≤ p_height)) = true then (
 some (decide (p_height ≤ (4 : Int)))) else (
 some false)) fun y1 =>
 Option.bind (if (y1) = true then (
 Option.bind (lmots_Chains p_kind) fun r1 =>
 some (decide ((0 : Int) < r1))) else (
 some false)) fun y2 =>
 some y2
/- math/bits.RotateLeft32 -/
def math_bits_RotateLeft32 (p_x : BitVec 32) (p_k : Int) : Option (BitVec 32) :=
 Option.bind (some ((p_x <<< (((BitVec.ofInt 64 p_k) &&& (31#64)).toNat)) ||| (p_x >>> (((32#64) - ((BitVec.ofInt 64 p_k) &&& (31#64))).toNat)))) fun x1 =>
 some x1
/- rolodex/hash.schedule -/
def hash_schedule_L1 (x1 : List (BitVec 8)) (y1 : Int) (y2 : Vector (BitVec 32) 64) : Option (LR (Int × (Vector (BitVec 32) 64)) Empty) :=
 if (decide (y1 < (x1.length : Int))) = true then (
 Option.bind (lget x1 y1) fun x2 =>
 Option.bind (vget y2 (w64 (Int.tdiv y1 (4 : Int)))) fun x3 =>
 if 0 ≤ w64 (Int.tdiv y1 (4 : Int)) ∧ w64 (Int.tdiv y1 (4 : Int)) < (64 : Int) then (
 Option.bind (some ((y2.setIfInBounds ((w64 (Int.tdiv y1 (4 : Int))).toNat) ((x3 <<< 8) ||| (x2.setWidth 32))))) fun x4 =>
 some (.next (w64 (y1 + (1 : Int)), x4))) else none) else (
 some (.brk (y1, y2)))
def hash_schedule_L2 (y5 : Int) (y6 : Vector (BitVec 32) 64) : Option (LR (Int × (Vector (BitVec 32) 64)) Empty) :=
 if (decide (y5 < (64 : Int))) = true then (
 Option.bind (vget y6 (w64 (y5 - (15 : Int)))) fun x5 =>
 Option.bind (math_bits_RotateLeft32 x5 (-7 : Int)) fun r1 =>
 Option.bind (vget y6 (w64 (y5 - (15 : Int)))) fun x6 =>
 Option.bind (math_bits_RotateLeft32 x6 (-18 : Int)) fun r2 =>
 Option.bind (vget y6 (w64 (y5 - (15 : Int)))) fun x7 =>
 Option.bind (vget y6 (w64 (y5 - (2 : Int)))) fun x8 =>
 Option.bind (math_bits_RotateLeft32 x8 (-17 : Int)) fun r3 =>
 Option.bind (vget y6 (w64 (y5 - (2 : Int)))) fun x9 =>
 Option.bind (math_bits_RotateLeft32 x9 (-19 : Int)) fun r4 =>
 Option.bind (vget y6 (w64 (y5 - (2 : Int)))) fun x10 =>
 Option.bind (vget y6 (w64 (y5 - (16 : Int)))) fun x11 =>
 Option.bind (vget y6 (w64 (y5 - (7 : Int)))) fun x12 =>
 if 0 ≤ y5 ∧ y5 < (64 : Int) then (
 Option.bind (some ((y6.setIfInBounds y5.toNat (((x11 + ((r1 ^^^ r2) ^^^ (x7 >>> 3))) + x12) + ((r3 ^^^ r4) ^^^ (x10 >>> 10)))))) fun x13 =>
 some (.next (w64 (y5 + (1 : Int)), x13))) else none) else (
 some (.brk (y5, y6)))
def hash_schedule (p_block : List (BitVec 8)) : Option (Vector (BitVec 32) 64) :=
 Option.bind (lslice p_block 0 (64 : Int)) fun x1 =>
 Option.bind (loopS (fun (s : Int × (Vector (BitVec 32) 64)) => hash_schedule_L1 x1 s.1 s.2) FU ((0 : Int), (Vector.replicate 64 (0#32)))) fun (s2 : Int × (Vector (BitVec 32) 64)) =>
 Option.bind (loopS (fun (s : Int × (Vector (BitVec 32) 64)) => hash_schedule_L2 s.1 s.2) FU ((16 : Int), s2.2)) fun (s1 : Int × (Vector (BitVec 32) 64)) =>
 some s1.2
/- (rolodex/hash.state).block -/
def hash_state_block_L1 (r1 : (Vector (BitVec 32) 64)) (y1 : Int) (y2 : T_hash_state) : Option (LR (Int × T_hash_state) Empty) :=
 if (decide (y1 < (64 : Int))) = true then (
 Option.bind (math_bits_RotateLeft32 (y2[4]) (-6 : Int)) fun r2 =>
 Option.bind (math_bits_RotateLeft32 (y2[4]) (-11 : Int)) fun r3 =>
 Option.bind (math_bits_RotateLeft32 (y2[4]) (-25 : Int)) fun r4 =>
 Option.bind (vget G_hash_rounds y1) fun x1 =>
 Option.bind (vget r1 y1) fun x2 =>
 Option.bind (some (((((y2[7]) + ((r2 ^^^ r3) ^^^ r4)) + ((y2[6]) ^^^ ((y2[4]) &&& ((y2[5]) ^^^ (y2[6]))))) + x1) + x2)) fun x3 =>
 Option.bind (math_bits_RotateLeft32 (y2[0]) (-2 : Int)) fun r5 =>
 Option.bind (math_bits_RotateLeft32 (y2[0]) (-13 : Int)) fun r6 =>
 Option.bind (math_bits_RotateLeft32 (y2[0]) (-22 : Int)) fun r7 =>
 Option.bind (some (((r5 ^^^ r6) ^^^ r7) + (((y2[0]) &&& (y2[1])) ||| ((y2[2]) &&& ((y2[0]) ||| (y2[1])))))) fun x4 =>
 Option.bind (some (#v[x3 + x4, y2[0], y2[1], y2[2], (y2[3]) + x3, y2[4], y2[5], y2[6]])) fun x5 =>
 some (.next (w64 (y1 + (1 : Int)), x5))) else (
 some (.brk (y1, y2)))
def hash_state_block_L2 (y4 : T_hash_state) (y5 : Int) (y6 : T_hash_state) : Option (LR (Int × T_hash_state) Empty) :=
 if (decide (y5 < (8 : Int))) = true then (
 Option.bind (vget y6 y5) fun x6 =>
 Option.bind (vget y4 y5) fun x7 =>
 if 0 ≤ y5 ∧ y5 < (8 : Int) then (
 some (.next (w64 (y5 + (1 : Int)), (y6.setIfInBounds y5.toNat (x6 + x7))))) else none) else (
 some (.brk (y5, y6)))
def hash_state_block (p_s : T_hash_state) (p_b : List (BitVec 8)) : Option T_hash_state :=
 Option.bind (hash_schedule p_b) fun r1 =>
 Option.bind (loopS (fun (s : Int × T_hash_state) => hash_state_block_L1 r1 s.1 s.2) FU ((0 : Int), p_s)) fun (s2 : Int × T_hash_state) =>
 Option.bind (loopS (fun (s : Int × T_hash_state) => hash_state_block_L2 s2.2 s.1 s.2) FU ((0 : Int), p_s)) fun (s1 : Int × T_hash_state) =>
 some s1.2
/- rolodex/hash.Sum -/
def hash_Sum_L1 (y1 : List (BitVec 8)) (y2 : T_hash_state) : Option (LR ((List (BitVec 8)) × T_hash_state) Empty) :=
 if (decide ((64 : Int) ≤ (y1.length : Int))) = true then (
 Option.bind (hash_state_block y2 y1) fun r1 =>
 Option.bind (lslice y1 (64 : Int) (y1.length : Int)) fun x1 =>
 some (.next (x1, r1))) else (
 some (.brk (y1, y2)))
def hash_Sum_L2 (y5 : Int) (p_b : List (BitVec 8)) (y6 : Int) (y7 : Vector (BitVec 8) 128) : Option (LR (Int × (Vector (BitVec 8) 128)) Empty) :=
 if (decide (y6 < (8 : Int))) = true then (
 if 0 ≤ w64 ((8 : Int) * y6) then (
 if 0 ≤ w64 ((w64 (y5 - (1 : Int))) - y6) ∧ w64 ((w64 (y5 - (1 : Int))) - y6) < (128 : Int) then (
 Option.bind (some ((y7.setIfInBounds ((w64 ((w64 (y5 - (1 : Int))) - y6)).toNat) ((((BitVec.ofInt 64 (p_b.length : Int)) <<< 3) >>> ((w64 ((8 : Int) * y6)).toNat)).setWidth 8)))) fun x3 =>
 some (.next (w64 (y6 + (1 : Int)), x3))) else none) else none) else (
 some (.brk (y6, y7)))
def hash_Sum_L3 (y10 : T_hash_state) (y11 : Int) (y12 : T_api_Hash) : Option (LR (Int × T_api_Hash) Empty) :=
 if (decide (y11 < (32 : Int))) = true then (
 Option.bind (vget y10 (w64 (Int.tdiv y11 (4 : Int)))) fun x4 =>
 if 0 ≤ w64 ((24 : Int) - (w64 ((8 : Int) * (Int.tmod y11 (4 : Int))))) then (
 if 0 ≤ y11 ∧ y11 < (32 : Int) then (
 Option.bind (some ((y12.setIfInBounds y11.toNat ((x4 >>> ((w64 ((24 : Int) - (w64 ((8 : Int) * (Int.tmod y11 (4 : Int)))))).toNat)).setWidth 8)))) fun x5 =>
 some (.next (w64 (y11 + (1 : Int)), x5))) else none) else none) else (
 some (.brk (y11, y12)))
def hash_Sum (p_b : List (BitVec 8)) : Option T_api_Hash :=
 Option.bind (loopS (fun (s : (List (BitVec 8)) × T_hash_state) => hash_Sum_L1 s.1 s.2) FU (p_b, G_hash_begin)) fun (s3 : (List (BitVec 8)) × T_hash_state) =>
 Option.bind (if (decide ((56 : Int) ≤ (s3.1.length : Int))) = true then (
 some (128 : Int)) else (
 some (64 : Int))) fun y5 =>
 if 0 ≤ (s3.1.length : Int) ∧ (s3.1.length : Int) < (128 : Int) then (
 Option.bind (some (((vput (Vector.replicate 128 (0#8)) 0 (s3.1.take 128)).setIfInBounds ((s3.1.length : Int).toNat) (128#8)))) fun x2 =>
 Option.bind (loopS (fun (s : Int × (Vector (BitVec 8) 128)) => hash_Sum_L2 y5 p_b s.1 s.2) FU ((0 : Int), x2)) fun (s2 : Int × (Vector (BitVec 8) 128)) =>
 Option.bind (hash_state_block s3.2 s2.2.toList) fun r2 =>
 Option.bind (if (decide (y5 = (128 : Int))) = true then (
 Option.bind (hash_state_block r2 ((s2.2.toList.drop 64).take 64)) fun r3 =>
 some r3) else (
 some r2)) fun y10 =>
 Option.bind (loopS (fun (s : Int × T_api_Hash) => hash_Sum_L3 y10 s.1 s.2) FU ((0 : Int), (Vector.replicate 32 (0#8)))) fun (s1 : Int × T_api_Hash) =>
 some s1.2) else none
/- rolodex/lmots.under -/
def lmots_under_L1 (p_parts : List (List (BitVec 8))) (y1 : Int) (y2 : List (BitVec 8)) : Option (LR (Int × (List (BitVec 8))) Empty) :=
 if (decide (y1 < (p_parts.length : Int))) = true then (
 Option.bind (lget p_parts y1) fun x1 =>
 if y2.length + x1.length ≤ AP then (
 some (.next (w64 (y1 + (1 : Int)), (y2 ++ x1)))) else none) else (
 some (.brk (y1, y2)))
def lmots_under (p_id : T_api_ID) (p_q : BitVec 32) (p_i : Int) (p_parts : List (List (BitVec 8))) : Option T_api_Hash :=
 if 0 ≤ (64 : Int) ∧ (64 : Int) ≤ (4294967296 : Int) then (
 if ([] : List (BitVec 8)).length + p_id.toList.length ≤ AP then (
 if (([] : List (BitVec 8)) ++ p_id.toList).length + ([(p_q >>> 24).setWidth 8, (p_q >>> 16).setWidth 8, (p_q >>> 8).setWidth 8, p_q.setWidth 8, BitVec.ofInt 8 (ishr p_i (8 : Int)), BitVec.ofInt 8 p_i]).length ≤ AP then (
 Option.bind (loopS (fun (s : Int × (List (BitVec 8))) => lmots_under_L1 p_parts s.1 s.2) FU ((0 : Int), ((([] : List (BitVec 8)) ++ p_id.toList) ++ ([(p_q >>> 24).setWidth 8, (p_q >>> 16).setWidth 8, (p_q >>> 8).setWidth 8, p_q.setWidth 8, BitVec.ofInt 8 (ishr p_i (8 : Int)), BitVec.ofInt 8 p_i])))) fun (s1 : Int × (List (BitVec 8))) =>
 Option.bind (hash_Sum s1.2) fun r1 =>
 some r1) else none) else none) else none
/- rolodex/lmots.chain -/
def lmots_chain_L1 (p_to : Int) (p_id : T_api_ID) (p_q : BitVec 32) (p_i : Int) (y1 : Int) (y2 : T_api_Hash) : Option (LR (Int × T_api_Hash) Empty) :=
 if (decide (y1 < p_to)) = true then (
 Option.bind (lmots_under p_id p_q p_i ([[BitVec.ofInt 8 y1], y2.toList])) fun r1 =>
 some (.next (w64 (y1 + (1 : Int)), r1))) else (
 some (.brk (y1, y2)))
def lmots_chain (p_id : T_api_ID) (p_q : BitVec 32) (p_i : Int) (p_h : T_api_Hash) (p_from : Int) (p_to : Int) : Option T_api_Hash :=
 Option.bind (loopS (fun (s : Int × T_api_Hash) => lmots_chain_L1 p_to p_id p_q p_i s.1 s.2) FU (p_from, p_h)) fun (s1 : Int × T_api_Hash) =>
 some s1.2
/- rolodex/lmots.secret -/
def lmots_secret (p_id : T_api_ID) (p_q : BitVec 32) (p_i : Int) (p_seed : T_api_Hash) : Option T_api_Hash :=
 Option.bind (lmots_under p_id p_q p_i ([[255#8], p_seed.toList])) fun r1 =>
 some r1
/- (rolodex/lmots.form).most -/
def lmots_form_most (p_f : T_lmots_form) : Option Int :=
 if 0 ≤ p_f.1 then (
 some (w64 ((ishl (1 : Int) p_f.1) - (1 : Int)))) else none
/- rolodex/lmots.folded -/
def lmots_folded_L1 (p_ends : List T_api_Hash) (y1 : Int) (y2 : List (BitVec 8)) : Option (LR (Int × (List (BitVec 8))) Empty) :=
 if (decide (y1 < (p_ends.length : Int))) = true then (
 Option.bind (lget p_ends y1) fun x1 =>
 if y2.length + x1.toList.length ≤ AP then (
 some (.next (w64 (y1 + (1 : Int)), (y2 ++ x1.toList)))) else none) else (
 some (.brk (y1, y2)))
def lmots_folded (p_id : T_api_ID) (p_q : BitVec 32) (p_ends : List T_api_Hash) : Option T_api_Hash :=
 if 0 ≤ w64 ((32 : Int) * (p_ends.length : Int)) ∧ w64 ((32 : Int) * (p_ends.length : Int)) ≤ (4294967296 : Int) then (
 Option.bind (loopS (fun (s : Int × (List (BitVec 8))) => lmots_folded_L1 p_ends s.1 s.2) FU ((0 : Int), ([] : List (BitVec 8)))) fun (s1 : Int × (List (BitVec 8))) =>
 Option.bind (lmots_under p_id p_q (32896 : Int) ([s1.2])) fun r1 =>
 some r1) else none
/- rolodex/lmots.Public -/
def lmots_Public_L1 (x1 : List T_api_Hash) (p_id : T_api_ID) (p_q : BitVec 32) (p_seed : T_api_Hash) (r1 : T_lmots_form × Bool) (y1 : Int) (y2 : List T_api_Hash) : Option (LR (Int × (List T_api_Hash)) Empty) :=
 if (decide (y1 < (x1.length : Int))) = true then (
 Option.bind (lmots_secret p_id p_q y1 p_seed) fun r2 =>
 Option.bind (lmots_form_most r1.1) fun r3 =>
 Option.bind (lmots_chain p_id p_q y1 r2 (0 : Int) r3) fun r4 =>
 if 0 ≤ y1 ∧ y1 < (y2.length : Int) then (
 some (.next (w64 (y1 + (1 : Int)), (y2.set y1.toNat r4)))) else none) else (
 some (.brk (y1, y2)))
def lmots_Public (p_kind : Int) (p_id : T_api_ID) (p_q : BitVec 32) (p_seed : T_api_Hash) : Option (T_api_Hash × Int) :=
 Option.bind (lmots_of p_kind) fun r1 =>
 if (!r1.2) = true then (
 some ((Vector.replicate 32 (0#8)), (1 : Int))) else (
 if 0 ≤ r1.1.2.1 ∧ r1.1.2.1 ≤ (4294967296 : Int) then (
 Option.bind (some (List.replicate r1.1.2.1.toNat (Vector.replicate 32 (0#8)))) fun x1 =>
 Option.bind (loopS (fun (s : Int × (List T_api_Hash)) => lmots_Public_L1 x1 p_id p_q p_seed r1 s.1 s.2) FU ((0 : Int), x1)) fun (s1 : Int × (List T_api_Hash)) =>
 Option.bind (lmots_folded p_id p_q s1.2) fun r5 =>
 some (r5, (0 : Int))) else none)
/- (*rolodex/wire.Writer).number -/
def wire_Writer_number_L1 (p_x : BitVec 64) (y2 : Int) (y3 : List (BitVec 8)) : Option (LR (Int × (List (BitVec 8))) Empty) :=
 if (decide ((0 : Int) ≤ y2)) = true then (
 if 0 ≤ w64 ((8 : Int) * y2) then (
 if y3.length + ([(p_x >>> ((w64 ((8 : Int) * y2)).toNat)).setWidth 8]).length ≤ AP then (
 some (.next (w64 (y2 - (1 : Int)), (y3 ++ ([(p_x >>> ((w64 ((8 : Int) * y2)).toNat)).setWidth 8]))))) else none) else none) else (
 some (.brk (y2, y3)))
def wire_Writer_number (p_w : (List (BitVec 8)) × Bool) (p_x : BitVec 64) (p_bytes : Int) : Option ((List (BitVec 8)) × Bool) :=
 Option.bind (some p_w.2) fun y1 =>
 if (y1) = true then (
 some (p_w.1, p_w.2)) else (
 Option.bind (loopS (fun (s : Int × (List (BitVec 8))) => wire_Writer_number_L1 p_x s.1 s.2) FU (w64 (p_bytes - (1 : Int)), p_w.1)) fun (s1 : Int × (List (BitVec 8))) =>
 some (s1.2, p_w.2))
/- (*rolodex/wire.Writer).U32 -/
def wire_Writer_U32 (p_w : (List (BitVec 8)) × Bool) (p_x : BitVec 32) : Option ((List (BitVec 8)) × Bool) :=
 Option.bind (wire_Writer_number (p_w.1, p_w.2) (p_x.setWidth 64) (4 : Int)) fun r1 =>
 some (r1.1, r1.2)
/- (*rolodex/wire.Writer).Plain -/
def wire_Writer_Plain (p_w : (List (BitVec 8)) × Bool) (p_b : List (BitVec 8)) : Option ((List (BitVec 8)) × Bool) :=
 Option.bind (some (!p_w.2)) fun y1 =>
 if (y1) = true then (
 if p_w.1.length + p_b.length ≤ AP then (
 some ((p_w.1 ++ p_b), p_w.2)) else none) else (
 some (p_w.1, p_w.2))
/- slices.Clone[[]byte,byte] -/
def slices_Clone_byte_byte (p_s : List (BitVec 8)) : Option (List (BitVec 8)) :=
 if ([] : List (BitVec 8)).length + p_s.length ≤ AP then (
 some (([] : List (BitVec 8)) ++ p_s)) else none
/- (*rolodex/wire.Writer).Out -/
def wire_Writer_Out (p_w : (List (BitVec 8)) × Bool) : Option (((List (BitVec 8)) × Bool) × (List (BitVec 8)) × Int) :=
 if (p_w.2) = true then (
 some ((p_w.1, p_w.2), ([] : List (BitVec 8)), (4 : Int))) else (
 Option.bind (slices_Clone_byte_byte p_w.1) fun r1 =>
 some ((p_w.1, p_w.2), r1, (0 : Int)))
/- (*rolodex/wire.Writer).within -/
def wire_Writer_within (p_w : (List (BitVec 8)) × Bool) (p_x : Int) (p_most : Int) : Option (((List (BitVec 8)) × Bool) × Bool) :=
 Option.bind (if (decide (p_x < (0 : Int))) = true then (
 some true) else (
 some (decide (p_most < p_x)))) fun y1 =>
 if (y1) = true then (
 some ((p_w.1, true), !true)) else (
 some ((p_w.1, p_w.2), !p_w.2))
/- (*rolodex/wire.Writer).U16 -/
def wire_Writer_U16 (p_w : (List (BitVec 8)) × Bool) (p_x : Int) : Option ((List (BitVec 8)) × Bool) :=
 Option.bind (wire_Writer_within (p_w.1, p_w.2) p_x (65535 : Int)) fun r1 =>
 if (r1.2) = true then (
 Option.bind (wire_Writer_number (r1.1.1, r1.1.2) (BitVec.ofInt 64 p_x) (2 : Int)) fun r2 =>
 some (r2.1, r2.2)) else (
 some (r1.1.1, r1.1.2))
/- rolodex/lms.node -/
def lms_node_L1 (p_parts : List (List (BitVec 8))) (y1 : Int) (y2 : Bool) (y3 : List (BitVec 8)) : Option (LR (Int × Bool × (List (BitVec 8))) Empty) :=
 if (decide (y1 < (p_parts.length : Int))) = true then (
 Option.bind (lget p_parts y1) fun x1 =>
 Option.bind (wire_Writer_Plain (y3, y2) x1) fun r4 =>
 some (.next (w64 (y1 + (1 : Int)), r4.2, r4.1))) else (
 some (.brk (y1, y2, y3)))
def lms_node (p_id : T_api_ID) (p_r : Int) (p_under : Int) (p_parts : List (List (BitVec 8))) : Option T_api_Hash :=
 Option.bind (wire_Writer_Plain (([] : List (BitVec 8)), false) p_id.toList) fun r1 =>
 Option.bind (wire_Writer_U32 (r1.1, r1.2) (BitVec.ofInt 32 p_r)) fun r2 =>
 Option.bind (wire_Writer_U16 (r2.1, r2.2) p_under) fun r3 =>
 Option.bind (loopS (fun (s : Int × Bool × (List (BitVec 8))) => lms_node_L1 p_parts s.1 s.2.1 s.2.2) FU ((0 : Int), r3.2, r3.1)) fun (s1 : Int × Bool × (List (BitVec 8))) =>
 Option.bind (wire_Writer_Out (s1.2.2, s1.2.1)) fun r5 =>
 Option.bind (hash_Sum r5.2.1) fun r6 =>
 some r6
/- rolodex/lms.leaf -/
def lms_leaf (p_id : T_api_ID) (p_r : Int) (p_public : T_api_Hash) : Option T_api_Hash :=
 Option.bind (lms_node p_id p_r (33410 : Int) ([p_public.toList])) fun r1 =>
 some r1
/- rolodex/lms.inner -/
def lms_inner (p_id : T_api_ID) (p_r : Int) (p_a : T_api_Hash) (p_b : T_api_Hash) : Option T_api_Hash :=
 Option.bind (lms_node p_id p_r (33667 : Int) ([p_a.toList, p_b.toList])) fun r1 =>
 some r1
/- rolodex/lms.New -/
def lms_New_L1 (p_height : Int) (p_kind : Int) (p_id : T_api_ID) (p_seed : T_api_Hash) (y1 : Int) (y2 : List T_api_Hash) : Option (LR (Int × (List T_api_Hash)) ((Option T_lms_Tree) × Int)) :=
 if (decide (y1 < (ishl (1 : Int) p_height))) = true then (
 Option.bind (lmots_Public p_kind p_id (BitVec.ofInt 32 y1) p_seed) fun r2 =>
 if (!decide (r2.2 = (0 : Int))) = true then (
 some (.ret ((none : Option T_lms_Tree), r2.2))) else (
 Option.bind (lms_leaf p_id (w64 ((ishl (1 : Int) p_height) + y1)) r2.1) fun r3 =>
 if 0 ≤ w64 ((ishl (1 : Int) p_height) + y1) ∧ w64 ((ishl (1 : Int) p_height) + y1) < (y2.length : Int) then (
 some (.next (w64 (y1 + (1 : Int)), (y2.set ((w64 ((ishl (1 : Int) p_height) + y1)).toNat) r3)))) else none)) else (
 some (.brk (y1, y2)))
def lms_New_L2 (p_id : T_api_ID) (y5 : Int) (y6 : List T_api_Hash) : Option (LR (Int × (List T_api_Hash)) Empty) :=
 if (decide ((0 : Int) < y5)) = true then (
 Option.bind (lget y6 (w64 ((2 : Int) * y5))) fun x3 =>
 Option.bind (lget y6 (w64 ((w64 ((2 : Int) * y5)) + (1 : Int)))) fun x4 =>
 Option.bind (lms_inner p_id y5 x3 x4) fun r4 =>
 if 0 ≤ y5 ∧ y5 < (y6.length : Int) then (
 some (.next (w64 (y5 - (1 : Int)), (y6.set y5.toNat r4)))) else none) else (
 some (.brk (y5, y6)))
def lms_New (p_height : Int) (p_kind : Int) (p_id : T_api_ID) (p_seed : T_api_Hash) : Option ((Option T_lms_Tree) × Int) :=
 Option.bind (lms_may p_height p_kind) fun r1 =>
 if (!r1) = true then (
 some ((none : Option T_lms_Tree), (1 : Int))) else (
 if 0 ≤ p_height then (
 if 0 ≤ w64 ((2 : Int) * (ishl (1 : Int) p_height)) ∧ w64 ((2 : Int) * (ishl (1 : Int) p_height)) ≤ (4294967296 : Int) then (
 Option.bind (some (List.replicate (w64 ((2 : Int) * (ishl (1 : Int) p_height))).toNat (Vector.replicate 32 (0#8)))) fun x1 =>
 Option.bind (loopO (fun (s : Int × (List T_api_Hash)) => lms_New_L1 p_height p_kind p_id p_seed s.1 s.2) FU ((0 : Int), x1)) fun o => match o with
 | .inl (s2 : Int × (List T_api_Hash)) => (
 Option.bind (some (w64 ((ishl (1 : Int) p_height) - (1 : Int)))) fun x2 =>
 Option.bind (loopS (fun (s : Int × (List T_api_Hash)) => lms_New_L2 p_id s.1 s.2) FU (x2, s2.2)) fun (s1 : Int × (List T_api_Hash)) =>
 some ((some (p_height, p_kind, p_id, p_seed, s1.2)), (0 : Int)))
 | .inr x => some x) else none) else none)
/- (*rolodex/lms.Tree).Keys -/
def lms_Tree_Keys (p_t : Option T_lms_Tree) : Option Int :=
 if (p_t.isNone) = true then (
 some (0 : Int)) else (
 Option.bind (p_t) fun x1 =>
 if 0 ≤ x1.1 then (
 some (ishl (1 : Int) x1.1)) else none)
/- (*rolodex/lms.Tree).Public -/
def lms_Tree_Public (p_t : Option T_lms_Tree) : Option (List (BitVec 8)) :=
 if (p_t.isNone) = true then (
 some ([] : List (BitVec 8))) else (
 Option.bind (p_t) fun x1 =>
 Option.bind (wire_Writer_U32 (([] : List (BitVec 8)), false) (BitVec.ofInt 32 x1.1)) fun r1 =>
 Option.bind (p_t) fun x2 =>
 Option.bind (wire_Writer_U32 (r1.1, r1.2) (BitVec.ofInt 32 x2.2.1)) fun r2 =>
 Option.bind (p_t) fun x3 =>
 Option.bind (wire_Writer_Plain (r2.1, r2.2) x3.2.2.1.toList) fun r3 =>
 Option.bind (p_t) fun x4 =>
 Option.bind (lget x4.2.2.2.2 (1 : Int)) fun x5 =>
 Option.bind (wire_Writer_Plain (r3.1, r3.2) x5.toList) fun r4 =>
 Option.bind (wire_Writer_Out (r4.1, r4.2)) fun r5 =>
 some r5.2.1)
/- rolodex/rolodexlaw05.awake -/
/- rolodex/lmots.Size -/
def lmots_Size (p_kind : Int) : Option Int :=
 Option.bind (lmots_of p_kind) fun r1 =>
 if (!r1.2) = true then (
 some (0 : Int)) else (
 Option.bind (some (w64 ((4 : Int) + (w64 ((32 : Int) * (w64 ((1 : Int) + r1.1.2.1))))))) fun x1 =>
 some x1)
/- rolodex/lms.Size -/
def lms_Size (p_height : Int) (p_kind : Int) : Option Int :=
 Option.bind (lms_may p_height p_kind) fun r1 =>
 if (!r1) = true then (
 some (0 : Int)) else (
 Option.bind (lmots_Size p_kind) fun r2 =>
 Option.bind (some (w64 ((w64 ((8 : Int) + r2)) + (w64 ((32 : Int) * p_height))))) fun x1 =>
 some x1)
/- rolodex/rolodexref04.Bits -/
def rolodexref04_Bits (p_kind : Int) : Option Int :=
 Option.bind (if (decide (p_kind = (1 : Int))) = true then (
 some (decide (p_kind = (1 : Int)))) else (
 some (decide (p_kind = (2 : Int))))) fun y1 =>
 if (y1) = true then (
 some p_kind) else (
 if (decide (p_kind = (3 : Int))) = true then (
 some (4 : Int)) else (
 if (decide (p_kind = (4 : Int))) = true then (
 some (8 : Int)) else (
 some (0 : Int))))
/- rolodex/rolodexref05.Keys -/
def rolodexref05_Keys_L1 (p_height : Int) (y3 : Int) (y4 : Int) : Option (LR (Int × Int) Empty) :=
 if (decide (y4 < p_height)) = true then (
 some (.next (w64 ((2 : Int) * y3), w64 (y4 + (1 : Int))))) else (
 some (.brk (y3, y4)))
def rolodexref05_Keys (p_height : Int) (p_kind : Int) : Option Int :=
 Option.bind (if (decide (p_height < (1 : Int))) = true then (
 some true) else (
 some (decide ((4 : Int) < p_height)))) fun y1 =>
 Option.bind (if (y1) = true then (
 some true) else (
 Option.bind (rolodexref04_Bits p_kind) fun r1 =>
 some (decide (r1 = (0 : Int))))) fun y2 =>
 if (y2) = true then (
 some (0 : Int)) else (
 Option.bind (loopS (fun (s : Int × Int) => rolodexref05_Keys_L1 p_height s.1 s.2) FU ((1 : Int), (0 : Int))) fun (s1 : Int × Int) =>
 some s1.1)
/- rolodex/rolodexref04.Chains -/
def rolodexref04_Chains (p_kind : Int) : Option Int :=
 if (decide (p_kind = (1 : Int))) = true then (
 some (265 : Int)) else (
 if (decide (p_kind = (2 : Int))) = true then (
 some (133 : Int)) else (
 if (decide (p_kind = (3 : Int))) = true then (
 some (67 : Int)) else (
 if (decide (p_kind = (4 : Int))) = true then (
 some (34 : Int)) else (
 some (0 : Int)))))
/- rolodex/rolodexref04.Size -/
def rolodexref04_Size (p_kind : Int) : Option Int :=
 Option.bind (rolodexref04_Bits p_kind) fun r1 =>
 if (decide (r1 = (0 : Int))) = true then (
 some (0 : Int)) else (
 Option.bind (rolodexref04_Chains p_kind) fun r2 =>
 Option.bind (some (w64 ((36 : Int) + (w64 ((32 : Int) * r2))))) fun x1 =>
 some x1)
/- rolodex/rolodexref05.Size -/
def rolodexref05_Size (p_height : Int) (p_kind : Int) : Option Int :=
 Option.bind (rolodexref05_Keys p_height p_kind) fun r1 =>
 if (decide (r1 = (0 : Int))) = true then (
 some (0 : Int)) else (
 Option.bind (rolodexref04_Size p_kind) fun r2 =>
 Option.bind (some (w64 ((w64 ((w64 ((4 : Int) + r2)) + (4 : Int))) + (w64 ((32 : Int) * p_height))))) fun x1 =>
 some x1)
/- rolodex/rolodexlaw05.small -/
/- rolodex/rolodexref01.Same -/
def rolodexref01_Same_L1 (p_a : List (BitVec 8)) (p_b : List (BitVec 8)) (y1 : Int) : Option (LR Int Bool) :=
 if (decide (y1 < (p_a.length : Int))) = true then (
 Option.bind (lget p_a y1) fun x1 =>
 Option.bind (lget p_b y1) fun x2 =>
 if (!decide (x1 = x2)) = true then (
 some (.ret false)) else (
 some (.next (w64 (y1 + (1 : Int)))))) else (
 some (.brk y1))
def rolodexref01_Same (p_a : List (BitVec 8)) (p_b : List (BitVec 8)) : Option Bool :=
 if (!decide ((p_a.length : Int) = (p_b.length : Int))) = true then (
 some false) else (
 Option.bind (loopO (fun (s : Int) => rolodexref01_Same_L1 p_a p_b s) FU (0 : Int)) fun o => match o with
 | .inl (s1 : Int) => (
 some true)
 | .inr x => some x)
/- rolodex/rolodexref01.Number -/
def rolodexref01_Number_L1 (p_bytes : Int) (y1 : BitVec 64) (y2 : Int) (y3 : List (BitVec 8)) : Option (LR ((BitVec 64) × Int × (List (BitVec 8))) Empty) :=
 if (decide (y2 < p_bytes)) = true then (
 if y3.length + ([(y1 % (256#64)).setWidth 8]).length ≤ AP then (
 some (.next (y1 / (256#64), w64 (y2 + (1 : Int)), (y3 ++ ([(y1 % (256#64)).setWidth 8]))))) else none) else (
 some (.brk (y1, y2, y3)))
def rolodexref01_Number_L2 (y6 : List (BitVec 8)) (y7 : Int) (y8 : List (BitVec 8)) : Option (LR (Int × (List (BitVec 8))) Empty) :=
 if (decide ((0 : Int) ≤ y7)) = true then (
 Option.bind (lget y6 y7) fun x1 =>
 if y8.length + ([x1]).length ≤ AP then (
 some (.next (w64 (y7 - (1 : Int)), (y8 ++ ([x1]))))) else none) else (
 some (.brk (y7, y8)))
def rolodexref01_Number (p_x : BitVec 64) (p_bytes : Int) : Option (List (BitVec 8)) :=
 Option.bind (loopS (fun (s : (BitVec 64) × Int × (List (BitVec 8))) => rolodexref01_Number_L1 p_bytes s.1 s.2.1 s.2.2) FU (p_x, (0 : Int), ([] : List (BitVec 8)))) fun (s2 : (BitVec 64) × Int × (List (BitVec 8))) =>
 Option.bind (loopS (fun (s : Int × (List (BitVec 8))) => rolodexref01_Number_L2 s2.2.2 s.1 s.2) FU (w64 (p_bytes - (1 : Int)), ([] : List (BitVec 8)))) fun (s1 : Int × (List (BitVec 8))) =>
 some s1.2
/- rolodex/rolodexref02.Start -/
def rolodexref02_Start : Option (Vector (BitVec 32) 8) :=
 Option.bind (some (#v[1779033703#32, 3144134277#32, 1013904242#32, 2773480762#32, 1359893119#32, 2600822924#32, 528734635#32, 1541459225#32])) fun x1 =>
 some x1
/- rolodex/rolodexref02.Padded -/
def rolodexref02_Padded_L1 (y1 : List (BitVec 8)) : Option (LR (List (BitVec 8)) Empty) :=
 if (!decide ((Int.tmod (y1.length : Int) (64 : Int)) = (56 : Int))) = true then (
 if y1.length + ([0#8]).length ≤ AP then (
 some (.next (y1 ++ ([0#8])))) else none) else (
 some (.brk y1))
def rolodexref02_Padded (p_b : List (BitVec 8)) : Option (List (BitVec 8)) :=
 if ([] : List (BitVec 8)).length + p_b.length ≤ AP then (
 if (([] : List (BitVec 8)) ++ p_b).length + ([128#8]).length ≤ AP then (
 Option.bind (loopS (fun (s : (List (BitVec 8))) => rolodexref02_Padded_L1 s) FU ((([] : List (BitVec 8)) ++ p_b) ++ ([128#8]))) fun (s1 : (List (BitVec 8))) =>
 Option.bind (rolodexref01_Number ((8#64) * (BitVec.ofInt 64 (p_b.length : Int))) (8 : Int)) fun r1 =>
 if s1.length + r1.length ≤ AP then (
 some (s1 ++ r1)) else none) else none) else none
/- rolodex/rolodexref01.Value -/
def rolodexref01_Value_L1 (p_b : List (BitVec 8)) (y1 : BitVec 64) (y2 : Int) : Option (LR ((BitVec 64) × Int) Empty) :=
 if (decide (y2 < (p_b.length : Int))) = true then (
 Option.bind (lget p_b y2) fun x1 =>
 some (.next ((y1 * (256#64)) + (x1.setWidth 64), w64 (y2 + (1 : Int))))) else (
 some (.brk (y1, y2)))
def rolodexref01_Value (p_b : List (BitVec 8)) : Option (BitVec 64) :=
 Option.bind (loopS (fun (s : (BitVec 64) × Int) => rolodexref01_Value_L1 p_b s.1 s.2) FU (0#64, (0 : Int))) fun (s1 : (BitVec 64) × Int) =>
 some s1.1
/- rolodex/rolodexref02.turned -/
def rolodexref02_turned (p_x : BitVec 32) (p_n : BitVec 32) : Option (BitVec 32) :=
 Option.bind (some ((p_x >>> p_n.toNat) ||| (p_x <<< (((32#32) - p_n).toNat)))) fun x1 =>
 some x1
/- rolodex/rolodexref02.words -/
def rolodexref02_words_L1 (p_b : List (BitVec 8)) (y1 : Int) (y2 : Vector (BitVec 32) 64) : Option (LR (Int × (Vector (BitVec 32) 64)) Empty) :=
 if (decide (y1 < (16 : Int))) = true then (
 Option.bind (lslice p_b (w64 ((4 : Int) * y1)) (w64 ((w64 ((4 : Int) * y1)) + (4 : Int)))) fun x1 =>
 Option.bind (rolodexref01_Value x1) fun r1 =>
 if 0 ≤ y1 ∧ y1 < (64 : Int) then (
 Option.bind (some ((y2.setIfInBounds y1.toNat (r1.setWidth 32)))) fun x2 =>
 some (.next (w64 (y1 + (1 : Int)), x2))) else none) else (
 some (.brk (y1, y2)))
def rolodexref02_words_L2 (y5 : Int) (y6 : Vector (BitVec 32) 64) : Option (LR (Int × (Vector (BitVec 32) 64)) Empty) :=
 if (decide (y5 < (64 : Int))) = true then (
 Option.bind (vget y6 (w64 (y5 - (15 : Int)))) fun x3 =>
 Option.bind (vget y6 (w64 (y5 - (2 : Int)))) fun x4 =>
 Option.bind (vget y6 (w64 (y5 - (16 : Int)))) fun x5 =>
 Option.bind (rolodexref02_turned x3 (7#32)) fun r2 =>
 Option.bind (rolodexref02_turned x3 (18#32)) fun r3 =>
 Option.bind (vget y6 (w64 (y5 - (7 : Int)))) fun x6 =>
 Option.bind (rolodexref02_turned x4 (17#32)) fun r4 =>
 Option.bind (rolodexref02_turned x4 (19#32)) fun r5 =>
 if 0 ≤ y5 ∧ y5 < (64 : Int) then (
 Option.bind (some ((y6.setIfInBounds y5.toNat (((x5 + ((r2 ^^^ r3) ^^^ (x3 / (8#32)))) + x6) + ((r4 ^^^ r5) ^^^ (x4 / (1024#32))))))) fun x7 =>
 some (.next (w64 (y5 + (1 : Int)), x7))) else none) else (
 some (.brk (y5, y6)))
def rolodexref02_words (p_b : List (BitVec 8)) : Option (Vector (BitVec 32) 64) :=
 Option.bind (loopS (fun (s : Int × (Vector (BitVec 32) 64)) => rolodexref02_words_L1 p_b s.1 s.2) FU ((0 : Int), (Vector.replicate 64 (0#32)))) fun (s2 : Int × (Vector (BitVec 32) 64)) =>
 Option.bind (loopS (fun (s : Int × (Vector (BitVec 32) 64)) => rolodexref02_words_L2 s.1 s.2) FU ((16 : Int), s2.2)) fun (s1 : Int × (Vector (BitVec 32) 64)) =>
 some s1.2
/- rolodex/rolodexref02.K -/
def rolodexref02_K : Option (Vector (BitVec 32) 64) :=
 Option.bind (some (#v[1116352408#32, 1899447441#32, 3049323471#32, 3921009573#32, 961987163#32, 1508970993#32, 2453635748#32, 2870763221#32, 3624381080#32, 310598401#32, 607225278#32, 1426881987#32, 1925078388#32, 2162078206#32, 2614888103#32, 3248222580#32, 3835390401#32, 4022224774#32, 264347078#32, 604807628#32, 770255983#32, 1249150122#32, 1555081692#32, 1996064986#32, 2554220882#32, 2821834349#32, 2952996808#32, 3210313671#32, 3336571891#32, 3584528711#32, 113926993#32, 338241895#32, 666307205#32, 773529912#32, 1294757372#32, 1396182291#32, 1695183700#32, 1986661051#32, 2177026350#32, 2456956037#32, 2730485921#32, 2820302411#32, 3259730800#32, 3345764771#32, 3516065817#32, 3600352804#32, 4094571909#32, 275423344#32, 430227734#32, 506948616#32, 659060556#32, 883997877#32, 958139571#32, 1322822218#32, 1537002063#32, 1747873779#32, 1955562222#32, 2024104815#32, 2227730452#32, 2361852424#32, 2428436474#32, 2756734187#32, 3204031479#32, 3329325298#32])) fun x1 =>
 some x1
/- rolodex/rolodexref02.take -/
def rolodexref02_take_L1 (r2 : (Vector (BitVec 32) 64)) (r1 : (Vector (BitVec 32) 64)) (y1 : Int) (y2 : Vector (BitVec 32) 8) : Option (LR (Int × (Vector (BitVec 32) 8)) Empty) :=
 if (decide (y1 < (64 : Int))) = true then (
 Option.bind (some (((y2[4]) &&& (y2[5])) ||| (((4294967295#32) - (y2[4])) &&& (y2[6])))) fun x1 =>
 Option.bind (some ((((y2[0]) &&& (y2[1])) ||| ((y2[0]) &&& (y2[2]))) ||| ((y2[1]) &&& (y2[2])))) fun x2 =>
 Option.bind (rolodexref02_turned (y2[4]) (6#32)) fun r3 =>
 Option.bind (rolodexref02_turned (y2[4]) (11#32)) fun r4 =>
 Option.bind (rolodexref02_turned (y2[4]) (25#32)) fun r5 =>
 Option.bind (vget r2 y1) fun x3 =>
 Option.bind (vget r1 y1) fun x4 =>
 Option.bind (some (((((y2[7]) + ((r3 ^^^ r4) ^^^ r5)) + x1) + x3) + x4)) fun x5 =>
 Option.bind (rolodexref02_turned (y2[0]) (2#32)) fun r6 =>
 Option.bind (rolodexref02_turned (y2[0]) (13#32)) fun r7 =>
 Option.bind (rolodexref02_turned (y2[0]) (22#32)) fun r8 =>
 Option.bind (some (#v[x5 + (((r6 ^^^ r7) ^^^ r8) + x2), y2[0], y2[1], y2[2], (y2[3]) + x5, y2[4], y2[5], y2[6]])) fun x6 =>
 some (.next (w64 (y1 + (1 : Int)), x6))) else (
 some (.brk (y1, y2)))
def rolodexref02_take_L2 (y4 : Vector (BitVec 32) 8) (y5 : Int) (y6 : Vector (BitVec 32) 8) : Option (LR (Int × (Vector (BitVec 32) 8)) Empty) :=
 if (decide (y5 < (8 : Int))) = true then (
 Option.bind (vget y6 y5) fun x7 =>
 Option.bind (vget y4 y5) fun x8 =>
 if 0 ≤ y5 ∧ y5 < (8 : Int) then (
 some (.next (w64 (y5 + (1 : Int)), (y6.setIfInBounds y5.toNat (x7 + x8))))) else none) else (
 some (.brk (y5, y6)))
def rolodexref02_take (p_h : Vector (BitVec 32) 8) (p_block : List (BitVec 8)) : Option (Vector (BitVec 32) 8) :=
 Option.bind (rolodexref02_words p_block) fun r1 =>
 Option.bind (rolodexref02_K) fun r2 =>
 Option.bind (loopS (fun (s : Int × (Vector (BitVec 32) 8)) => rolodexref02_take_L1 r2 r1 s.1 s.2) FU ((0 : Int), p_h)) fun (s2 : Int × (Vector (BitVec 32) 8)) =>
 Option.bind (loopS (fun (s : Int × (Vector (BitVec 32) 8)) => rolodexref02_take_L2 s2.2 s.1 s.2) FU ((0 : Int), p_h)) fun (s1 : Int × (Vector (BitVec 32) 8)) =>
 some s1.2
/- rolodex/rolodexref02.Sum -/
def rolodexref02_Sum_L1 (r2 : (List (BitVec 8))) (y1 : Int) (y2 : Vector (BitVec 32) 8) : Option (LR (Int × (Vector (BitVec 32) 8)) Empty) :=
 if (decide (y1 < (r2.length : Int))) = true then (
 Option.bind (lslice r2 y1 (w64 (y1 + (64 : Int)))) fun x1 =>
 Option.bind (rolodexref02_take y2 x1) fun r3 =>
 some (.next (w64 (y1 + (64 : Int)), r3))) else (
 some (.brk (y1, y2)))
def rolodexref02_Sum_L2 (y4 : Vector (BitVec 32) 8) (y5 : Int) (y6 : T_api_Hash) : Option (LR (Int × T_api_Hash) Empty) :=
 if (decide (y5 < (32 : Int))) = true then (
 Option.bind (vget y4 (w64 (Int.tdiv y5 (4 : Int)))) fun x2 =>
 if 0 ≤ y5 ∧ y5 < (32 : Int) then (
 Option.bind (some ((y6.setIfInBounds y5.toNat ((x2 >>> (((24#32) - ((8#32) * (BitVec.ofInt 32 (Int.tmod y5 (4 : Int))))).toNat)).setWidth 8)))) fun x3 =>
 some (.next (w64 (y5 + (1 : Int)), x3))) else none) else (
 some (.brk (y5, y6)))
def rolodexref02_Sum (p_b : List (BitVec 8)) : Option T_api_Hash :=
 Option.bind (rolodexref02_Start) fun r1 =>
 Option.bind (rolodexref02_Padded p_b) fun r2 =>
 Option.bind (loopS (fun (s : Int × (Vector (BitVec 32) 8)) => rolodexref02_Sum_L1 r2 s.1 s.2) FU ((0 : Int), r1)) fun (s2 : Int × (Vector (BitVec 32) 8)) =>
 Option.bind (loopS (fun (s : Int × T_api_Hash) => rolodexref02_Sum_L2 s2.2 s.1 s.2) FU ((0 : Int), (Vector.replicate 32 (0#8)))) fun (s1 : Int × T_api_Hash) =>
 some s1.2
/- rolodex/rolodexref05.Node -/
def rolodexref05_Node (p_id : T_api_ID) (p_r : Int) (p_under : Int) (p_b : List (BitVec 8)) : Option T_api_Hash :=
 if ([] : List (BitVec 8)).length + p_id.toList.length ≤ AP then (
 Option.bind (rolodexref01_Number (BitVec.ofInt 64 p_r) (4 : Int)) fun r1 =>
 if (([] : List (BitVec 8)) ++ p_id.toList).length + r1.length ≤ AP then (
 Option.bind (rolodexref01_Number (BitVec.ofInt 64 p_under) (2 : Int)) fun r2 =>
 if ((([] : List (BitVec 8)) ++ p_id.toList) ++ r1).length + r2.length ≤ AP then (
 if (((([] : List (BitVec 8)) ++ p_id.toList) ++ r1) ++ r2).length + p_b.length ≤ AP then (
 Option.bind (rolodexref02_Sum ((((([] : List (BitVec 8)) ++ p_id.toList) ++ r1) ++ r2) ++ p_b)) fun r3 =>
 some r3) else none) else none) else none) else none
/- rolodex/rolodexref05.two -/
def rolodexref05_two (p_a : T_api_Hash) (p_b : T_api_Hash) : Option (List (BitVec 8)) :=
 if ([] : List (BitVec 8)).length + p_a.toList.length ≤ AP then (
 if (([] : List (BitVec 8)) ++ p_a.toList).length + p_b.toList.length ≤ AP then (
 some ((([] : List (BitVec 8)) ++ p_a.toList) ++ p_b.toList)) else none) else none
/- rolodex/rolodexref04.Under -/
def rolodexref04_Under (p_id : T_api_ID) (p_q : BitVec 32) (p_i : Int) (p_b : List (BitVec 8)) : Option T_api_Hash :=
 if ([] : List (BitVec 8)).length + p_id.toList.length ≤ AP then (
 Option.bind (rolodexref01_Number (p_q.setWidth 64) (4 : Int)) fun r1 =>
 if (([] : List (BitVec 8)) ++ p_id.toList).length + r1.length ≤ AP then (
 Option.bind (rolodexref01_Number (BitVec.ofInt 64 p_i) (2 : Int)) fun r2 =>
 if ((([] : List (BitVec 8)) ++ p_id.toList) ++ r1).length + r2.length ≤ AP then (
 if (((([] : List (BitVec 8)) ++ p_id.toList) ++ r1) ++ r2).length + p_b.length ≤ AP then (
 Option.bind (rolodexref02_Sum ((((([] : List (BitVec 8)) ++ p_id.toList) ++ r1) ++ r2) ++ p_b)) fun r3 =>
 some r3) else none) else none) else none) else none
/- rolodex/rolodexref04.with -/
def rolodexref04_with (p_c : BitVec 8) (p_b : List (BitVec 8)) : Option (List (BitVec 8)) :=
 if ([p_c]).length + p_b.length ≤ AP then (
 some (([p_c]) ++ p_b)) else none
/- rolodex/rolodexref04.Begin -/
/- rolodex/rolodexref04.Steps -/
def rolodexref04_Steps_L1 (p_to : Int) (p_id : T_api_ID) (p_q : BitVec 32) (p_i : Int) (y1 : Int) (y2 : T_api_Hash) : Option (LR (Int × T_api_Hash) Empty) :=
 if (decide (y1 < p_to)) = true then (
 Option.bind (rolodexref04_with (BitVec.ofInt 8 y1) y2.toList) fun r1 =>
 Option.bind (rolodexref04_Under p_id p_q p_i r1) fun r2 =>
 some (.next (w64 (y1 + (1 : Int)), r2))) else (
 some (.brk (y1, y2)))
def rolodexref04_Steps (p_id : T_api_ID) (p_q : BitVec 32) (p_i : Int) (p_h : T_api_Hash) (p_from : Int) (p_to : Int) : Option T_api_Hash :=
 Option.bind (loopS (fun (s : Int × T_api_Hash) => rolodexref04_Steps_L1 p_to p_id p_q p_i s.1 s.2) FU (p_from, p_h)) fun (s1 : Int × T_api_Hash) =>
 some s1.2
/- rolodex/rolodexref04.Most -/
def rolodexref04_Most_L1 (p_kind : Int) (y1 : Int) (y2 : Int) : Option (LR (Int × Int) Empty) :=
 Option.bind (rolodexref04_Bits p_kind) fun r1 =>
 if (decide (y2 < r1)) = true then (
 some (.next (w64 ((2 : Int) * y1), w64 (y2 + (1 : Int))))) else (
 some (.brk (y1, y2)))
def rolodexref04_Most (p_kind : Int) : Option Int :=
 Option.bind (loopS (fun (s : Int × Int) => rolodexref04_Most_L1 p_kind s.1 s.2) FU ((1 : Int), (0 : Int))) fun (s1 : Int × Int) =>
 some (w64 (s1.1 - (1 : Int)))
/- rolodex/rolodexref04.Public -/
/- rolodex/rolodexref05.At -/
/- rolodex/rolodexref05.Public -/
/- rolodex/rolodexlaw05.LmsKeys -/
/- (rolodex/lmots.form).cut -/
def lmots_form_cut_L2 {Sy : Type} (p_f : T_lmots_form) (yl : Sy → Int → Option Sy) (x1 : BitVec 8) (y3 : Int) (y4 : Sy) : Option (LR (Int × Sy) Empty) :=
 if (decide ((0 : Int) ≤ y3)) = true then (
 if 0 ≤ y3 then (
 Option.bind (lmots_form_most p_f) fun r1 =>
 Option.bind (yl y4 (iand (ishr (x1.toNat : Int) y3) r1)) fun y5 =>
 some (.next (w64 (y3 - p_f.1), y5))) else none) else (
 some (.brk (y3, y4)))
def lmots_form_cut_L1 {Sy : Type} (p_b : List (BitVec 8)) (p_f : T_lmots_form) (yl : Sy → Int → Option Sy) (y1 : Int) (y2 : Sy) : Option (LR (Int × Sy) Empty) :=
 if (decide (y1 < (p_b.length : Int))) = true then (
 Option.bind (lget p_b y1) fun x1 =>
 Option.bind (loopS (fun (s : Int × Sy) => lmots_form_cut_L2 p_f yl x1 s.1 s.2) FU (w64 ((8 : Int) - p_f.1), y2)) fun (s1 : Int × Sy) =>
 some (.next (w64 (y1 + (1 : Int)), s1.2))) else (
 some (.brk (y1, y2)))
def lmots_form_cut {Sy : Type} (p_f : T_lmots_form) (p_b : List (BitVec 8)) (yl : Sy → Int → Option Sy) (s0 : Sy) : Option Sy :=
 Option.bind (loopS (fun (s : Int × Sy) => lmots_form_cut_L1 p_b p_f yl s.1 s.2) FU ((0 : Int), s0)) fun (s2 : Int × Sy) =>
 some s2.2
/- (rolodex/lmots.form).sum$1 -/
def lmots_form_sum_1 {Sy : Type} (yl : Sy → Int → Option Sy) (q_0 : T_lmots_form) (q_1 : T_api_Hash) (s0 : Sy) : Option Sy :=
 Option.bind (lmots_form_cut q_0 q_1.toList yl s0) fun y1 =>
 some y1
/- (rolodex/lmots.form).sum -/
def lmots_form_sum_L1 (p_f : T_lmots_form) (y1 : Int) (d : Int) : Option Int :=
 Option.bind (lmots_form_most p_f) fun r1 =>
 some (w64 (y1 + (w64 (r1 - d))))
def lmots_form_sum (p_f : T_lmots_form) (p_h : T_api_Hash) : Option (List (BitVec 8)) :=
 Option.bind (lmots_form_sum_1 (fun (s : Int) (d : Int) => lmots_form_sum_L1 p_f s d) p_f p_h (0 : Int)) fun (s1 : Int) =>
 if 0 ≤ p_f.2.2 then (
 some ([BitVec.ofInt 8 (ishr (ishl s1 p_f.2.2) (8 : Int)), BitVec.ofInt 8 (ishl s1 p_f.2.2)])) else none
/- (rolodex/lmots.form).digits$1 -/
def lmots_form_digits_1 {Sy : Type} (yl : Sy → Int → Option Sy) (q_0 : T_lmots_form) (q_1 : List (BitVec 8)) (s0 : Sy) : Option Sy :=
 Option.bind (lmots_form_cut q_0 q_1 yl s0) fun y1 =>
 some y1
/- (rolodex/lmots.form).digits -/
def lmots_form_digits_L1 (p_f : T_lmots_form) (y1 : List Int) (d : Int) : Option (List Int) :=
 if (decide ((y1.length : Int) < p_f.2.1)) = true then (
 if y1.length + ([d]).length ≤ AP then (
 some (y1 ++ ([d]))) else none) else (
 some y1)
def lmots_form_digits (p_f : T_lmots_form) (p_h : T_api_Hash) : Option (List Int) :=
 if 0 ≤ p_f.2.1 ∧ p_f.2.1 ≤ (4294967296 : Int) then (
 Option.bind (lmots_form_sum p_f p_h) fun r1 =>
 if 0 < r1.length ∧ p_h.toList.length + r1.length ≤ AP then (
 Option.bind (lmots_form_digits_1 (fun (s : (List Int)) (d : Int) => lmots_form_digits_L1 p_f s d) p_f (p_h.toList ++ r1) ([] : List Int)) fun (s1 : (List Int)) =>
 some s1) else none) else none
/- rolodex/lmots.Sign -/
/- (*rolodex/lms.Tree).Sign -/
/- rolodex/rolodexref04.digit -/
def rolodexref04_digit_L2 (p_bits : Int) (y3 : Int) (y4 : Int) : Option (LR (Int × Int) Empty) :=
 if (decide (y4 < p_bits)) = true then (
 some (.next (w64 (Int.tdiv y3 (2 : Int)), w64 (y4 + (1 : Int))))) else (
 some (.brk (y3, y4)))
def rolodexref04_digit_L1 (p_bits : Int) (y1 : Int) (y2 : Int) : Option (LR (Int × Int) Empty) :=
 if (decide (y2 < (w64 ((w64 (Int.tdiv (8 : Int) p_bits)) - (1 : Int))))) = true then (
 Option.bind (loopS (fun (s : Int × Int) => rolodexref04_digit_L2 p_bits s.1 s.2) FU (y1, (0 : Int))) fun (s1 : Int × Int) =>
 some (.next (s1.1, w64 (y2 + (1 : Int))))) else (
 some (.brk (y1, y2)))
def rolodexref04_digit_L3 (p_bits : Int) (y9 : Int) (y10 : Int) : Option (LR (Int × Int) Empty) :=
 if (decide (y10 < p_bits)) = true then (
 some (.next (w64 ((2 : Int) * y9), w64 (y10 + (1 : Int))))) else (
 some (.brk (y9, y10)))
def rolodexref04_digit (p_b : List (BitVec 8)) (p_n : Int) (p_bits : Int) : Option Int :=
 if p_bits ≠ 0 then (
 if w64 (Int.tdiv (8 : Int) p_bits) ≠ 0 then (
 Option.bind (lget p_b (w64 (Int.tdiv p_n (w64 (Int.tdiv (8 : Int) p_bits))))) fun x1 =>
 if w64 (Int.tdiv (8 : Int) p_bits) ≠ 0 then (
 Option.bind (some (Int.tmod p_n (w64 (Int.tdiv (8 : Int) p_bits)))) fun x2 =>
 Option.bind (loopS (fun (s : Int × Int) => rolodexref04_digit_L1 p_bits s.1 s.2) FU ((x1.toNat : Int), x2)) fun (s3 : Int × Int) =>
 Option.bind (loopS (fun (s : Int × Int) => rolodexref04_digit_L3 p_bits s.1 s.2) FU ((1 : Int), (0 : Int))) fun (s2 : Int × Int) =>
 if s2.1 ≠ 0 then (
 some (Int.tmod s3.1 s2.1)) else none) else none) else none) else none
/- rolodex/rolodexref04.Digits -/
def rolodexref04_Digits_L1 (r1 : Int) (p_kind : Int) (p_h : T_api_Hash) (y1 : Int) (y2 : Int) : Option (LR (Int × Int) Empty) :=
 if r1 ≠ 0 then (
 if (decide (y2 < (w64 (Int.tdiv (256 : Int) r1)))) = true then (
 Option.bind (rolodexref04_Most p_kind) fun r2 =>
 Option.bind (rolodexref04_digit p_h.toList y2 r1) fun r3 =>
 some (.next (w64 (y1 + (w64 (r2 - r3))), w64 (y2 + (1 : Int))))) else (
 some (.brk (y1, y2)))) else none
def rolodexref04_Digits_L2 (x2 : Int) (y5 : Int) (y6 : Int) : Option (LR (Int × Int) Empty) :=
 if (decide (y6 < x2)) = true then (
 some (.next (w64 ((2 : Int) * y5), w64 (y6 + (1 : Int))))) else (
 some (.brk (y5, y6)))
def rolodexref04_Digits_L3 (p_kind : Int) (p_h : T_api_Hash) (r4 : (List (BitVec 8))) (r1 : Int) (y9 : Int) (y10 : List Int) : Option (LR (Int × (List Int)) Empty) :=
 Option.bind (rolodexref04_Chains p_kind) fun r5 =>
 if (decide (y9 < r5)) = true then (
 Option.bind (rolodexref04_digit ((([] : List (BitVec 8)) ++ p_h.toList) ++ r4) y9 r1) fun r6 =>
 if y10.length + ([r6]).length ≤ AP then (
 some (.next (w64 (y9 + (1 : Int)), (y10 ++ ([r6]))))) else none) else (
 some (.brk (y9, y10)))
def rolodexref04_Digits (p_kind : Int) (p_h : T_api_Hash) : Option (List Int) :=
 Option.bind (rolodexref04_Bits p_kind) fun r1 =>
 if (decide (r1 = (0 : Int))) = true then (
 some ([] : List Int)) else (
 Option.bind (loopS (fun (s : Int × Int) => rolodexref04_Digits_L1 r1 p_kind p_h s.1 s.2) FU ((0 : Int), (0 : Int))) fun (s3 : Int × Int) =>
 Option.bind (some (#v[(0 : Int), (7 : Int), (6 : Int), (4 : Int), (0 : Int)])) fun x1 =>
 Option.bind (vget x1 p_kind) fun x2 =>
 Option.bind (loopS (fun (s : Int × Int) => rolodexref04_Digits_L2 x2 s.1 s.2) FU (s3.1, (0 : Int))) fun (s2 : Int × Int) =>
 if ([] : List (BitVec 8)).length + p_h.toList.length ≤ AP then (
 Option.bind (rolodexref01_Number (BitVec.ofInt 64 s2.1) (2 : Int)) fun r4 =>
 if (([] : List (BitVec 8)) ++ p_h.toList).length + r4.length ≤ AP then (
 Option.bind (loopS (fun (s : Int × (List Int)) => rolodexref04_Digits_L3 p_kind p_h r4 r1 s.1 s.2) FU ((0 : Int), ([] : List Int))) fun (s1 : Int × (List Int)) =>
 some s1.2) else none) else none)
/- rolodex/rolodexref04.Hashed -/
def rolodexref04_Hashed (p_id : T_api_ID) (p_q : BitVec 32) (p_salt : List (BitVec 8)) (p_message : List (BitVec 8)) : Option T_api_Hash :=
 if ([] : List (BitVec 8)).length + p_salt.length ≤ AP then (
 if (([] : List (BitVec 8)) ++ p_salt).length + p_message.length ≤ AP then (
 Option.bind (rolodexref04_Under p_id p_q (33153 : Int) ((([] : List (BitVec 8)) ++ p_salt) ++ p_message)) fun r1 =>
 some r1) else none) else none
/- rolodex/rolodexref04.Sign -/
/- rolodex/rolodexref05.Sign -/
/- rolodex/rolodexlaw05.LmsSigns -/
/- rolodex/rolodexlaw05.LmsNil -/
/- rolodex/hash.Text -/
def hash_Text_L1 (p_parts : List (List (BitVec 8))) (y1 : Int) (y2 : Int) : Option (LR (Int × Int) Empty) :=
 if (decide (y2 < (p_parts.length : Int))) = true then (
 Option.bind (lget p_parts y2) fun x1 =>
 Option.bind (some (w64 (y1 + (w64 ((4 : Int) + (x1.length : Int)))))) fun x2 =>
 some (.next (x2, w64 (y2 + (1 : Int))))) else (
 some (.brk (y1, y2)))
def hash_Text_L2 (p_parts : List (List (BitVec 8))) (y5 : Int) (y6 : List (BitVec 8)) : Option (LR (Int × (List (BitVec 8))) Empty) :=
 if (decide (y5 < (p_parts.length : Int))) = true then (
 Option.bind (lget p_parts y5) fun x3 =>
 if y6.length + ([((BitVec.ofInt 32 (x3.length : Int)) >>> 24).setWidth 8, ((BitVec.ofInt 32 (x3.length : Int)) >>> 16).setWidth 8, ((BitVec.ofInt 32 (x3.length : Int)) >>> 8).setWidth 8, (BitVec.ofInt 32 (x3.length : Int)).setWidth 8]).length ≤ AP then (
 if (y6 ++ ([((BitVec.ofInt 32 (x3.length : Int)) >>> 24).setWidth 8, ((BitVec.ofInt 32 (x3.length : Int)) >>> 16).setWidth 8, ((BitVec.ofInt 32 (x3.length : Int)) >>> 8).setWidth 8, (BitVec.ofInt 32 (x3.length : Int)).setWidth 8])).length + x3.length ≤ AP then (
 some (.next (w64 (y5 + (1 : Int)), ((y6 ++ ([((BitVec.ofInt 32 (x3.length : Int)) >>> 24).setWidth 8, ((BitVec.ofInt 32 (x3.length : Int)) >>> 16).setWidth 8, ((BitVec.ofInt 32 (x3.length : Int)) >>> 8).setWidth 8, (BitVec.ofInt 32 (x3.length : Int)).setWidth 8])) ++ x3)))) else none) else none) else (
 some (.brk (y5, y6)))
def hash_Text (p_tag : BitVec 8) (p_parts : List (List (BitVec 8))) : Option (List (BitVec 8)) :=
 Option.bind (loopS (fun (s : Int × Int) => hash_Text_L1 p_parts s.1 s.2) FU ((1 : Int), (0 : Int))) fun (s2 : Int × Int) =>
 if 0 ≤ s2.1 ∧ s2.1 ≤ (4294967296 : Int) then (
 if ([] : List (BitVec 8)).length + ([p_tag]).length ≤ AP then (
 Option.bind (loopS (fun (s : Int × (List (BitVec 8))) => hash_Text_L2 p_parts s.1 s.2) FU ((0 : Int), (([] : List (BitVec 8)) ++ ([p_tag])))) fun (s1 : Int × (List (BitVec 8))) =>
 some s1.2) else none) else none
/- rolodex/hash.Tagged -/
def hash_Tagged (p_tag : BitVec 8) (p_parts : List (List (BitVec 8))) : Option T_api_Hash :=
 Option.bind (hash_Text p_tag p_parts) fun r1 =>
 Option.bind (hash_Sum r1) fun r2 =>
 some r2
/- rolodex/hss.child -/
def hss_child (p_seed : T_api_Hash) (p_number : List (BitVec 8)) : Option (T_api_ID × T_api_Hash) :=
 Option.bind (if (decide ((0 : Int) < (p_number.length : Int))) = true then (
 if ([p_seed.toList]).length + ([p_number]).length ≤ AP then (
 some (([p_seed.toList]) ++ ([p_number]))) else none) else (
 some ([p_seed.toList]))) fun y1 =>
 Option.bind (hash_Tagged (105#8) y1) fun r1 =>
 Option.bind (lslice r1.toList 0 (16 : Int)) fun x1 =>
 Option.bind (toVecO 16 x1) fun x2 =>
 Option.bind (hash_Tagged (115#8) y1) fun r2 =>
 some (x2, r2)
/- rolodex/hss.New -/
def hss_New (p_top : Int) (p_bottom : Int) (p_kind : Int) (p_seed : T_api_Hash) : Option ((Option (Int × Int × T_api_Hash × (Option T_lms_Tree) × (Option T_lms_Tree) × Int)) × Int) :=
 Option.bind (lms_Size p_bottom p_kind) fun r1 =>
 if (decide (r1 = (0 : Int))) = true then (
 some (none, (1 : Int))) else (
 Option.bind (hss_child p_seed ([] : List (BitVec 8))) fun r2 =>
 Option.bind (lms_New p_top p_kind r2.1 r2.2) fun r3 =>
 if (!decide (r3.2 = (0 : Int))) = true then (
 some (none, r3.2)) else (
 Option.bind (some ((p_bottom, p_kind, p_seed, r3.1, (none : Option T_lms_Tree), (-1 : Int)))) fun x1 =>
 some ((some x1), (0 : Int))))
/- (*rolodex/hss.Signer).Keys -/
def hss_Signer_Keys (p_s : Int × Int × T_api_Hash × (Option T_lms_Tree) × (Option T_lms_Tree) × Int) : Option Int :=
 Option.bind (lms_Tree_Keys p_s.2.2.2.1) fun r1 =>
 if 0 ≤ p_s.1 then (
 some (ishl r1 p_s.1)) else none
/- slices.Grow[[]byte,byte]__nilsl -/
def slices_Grow_byte_byte_nilsl (p_n : Int) : Option (List (BitVec 8)) :=
 if (decide (p_n < (0 : Int))) = true then none else (
 Option.bind (some (w64 (p_n - (w64 ((0 : Int) - (0 : Int)))))) fun x1 =>
 if (decide ((0 : Int) < x1)) = true then (
 if 0 < x1 ∧ x1 ≤ (4294967296 : Int) then (
 if 0 ≤ (0 : Int) ∧ (0 : Int) ≤ ((List.replicate x1.toNat (0#8)).length : Int) then (
 some ((List.replicate x1.toNat (0#8)).take (0 : Int).toNat)) else none) else none) else (
 some ([] : List (BitVec 8))))
/- slices.Concat[[]byte,byte] -/
def slices_Concat_byte_byte_L1 (p_slices : List (List (BitVec 8))) (y1 : Int) (y2 : Int) : Option (LR (Int × Int) Empty) :=
 if (decide (y2 < (p_slices.length : Int))) = true then (
 Option.bind (lget p_slices y2) fun x1 =>
 if (decide ((w64 (y1 + (x1.length : Int))) < (0 : Int))) = true then none else (
 some (.next (w64 (y1 + (x1.length : Int)), w64 (y2 + (1 : Int)))))) else (
 some (.brk (y1, y2)))
def slices_Concat_byte_byte_L2 (p_slices : List (List (BitVec 8))) (y5 : Int) (y6 : List (BitVec 8)) : Option (LR (Int × (List (BitVec 8))) Empty) :=
 if (decide (y5 < (p_slices.length : Int))) = true then (
 Option.bind (lget p_slices y5) fun x2 =>
 if y6.length + x2.length ≤ AP then (
 some (.next (w64 (y5 + (1 : Int)), (y6 ++ x2)))) else none) else (
 some (.brk (y5, y6)))
def slices_Concat_byte_byte (p_slices : List (List (BitVec 8))) : Option (List (BitVec 8)) :=
 Option.bind (loopS (fun (s : Int × Int) => slices_Concat_byte_byte_L1 p_slices s.1 s.2) FU ((0 : Int), (0 : Int))) fun (s2 : Int × Int) =>
 Option.bind (slices_Grow_byte_byte_nilsl s2.1) fun r1 =>
 Option.bind (loopS (fun (s : Int × (List (BitVec 8))) => slices_Concat_byte_byte_L2 p_slices s.1 s.2) FU ((0 : Int), r1)) fun (s1 : Int × (List (BitVec 8))) =>
 some s1.2
/- (*rolodex/hss.Signer).Public -/
def hss_Signer_Public (p_s : Int × Int × T_api_Hash × (Option T_lms_Tree) × (Option T_lms_Tree) × Int) : Option (List (BitVec 8)) :=
 Option.bind (lms_Tree_Public p_s.2.2.2.1) fun r1 =>
 Option.bind (slices_Concat_byte_byte ([[0#8, 0#8, 0#8, 2#8], r1])) fun r2 =>
 some r2
/- rolodex/rolodexlaw06.awake -/
def rolodexlaw06_awake : Option Bool :=
 Option.bind (hss_New (1 : Int) (1 : Int) (2 : Int) (Vector.replicate 32 (0#8))) fun r1 =>
 Option.bind (r1.1) fun x1 =>
 Option.bind (if (decide (r1.2 = (0 : Int))) = true then (
 Option.bind (hss_Signer_Keys (x1.1, x1.2.1, x1.2.2.1, x1.2.2.2.1, x1.2.2.2.2.1, x1.2.2.2.2.2)) fun r2 =>
 some (decide (r2 = (4 : Int)))) else (
 some false)) fun y1 =>
 Option.bind (if (y1) = true then (
 Option.bind (hss_Signer_Public (x1.1, x1.2.1, x1.2.2.1, x1.2.2.2.1, x1.2.2.2.2.1, x1.2.2.2.2.2)) fun r3 =>
 some (decide ((r3.length : Int) = (60 : Int)))) else (
 some false)) fun y2 =>
 some y2
/- rolodex/hss.Size -/
/- rolodex/rolodexref06.Keys -/
/- rolodex/rolodexref06.Size -/
/- rolodex/rolodexlaw06.small -/
/- rolodex/rolodexref02.Text -/
/- rolodex/rolodexref02.Tagged -/
/- rolodex/rolodexref06.Child -/
/- rolodex/rolodexref06.Public -/
/- rolodex/rolodexlaw06.HssKeys -/
/- rolodex/wire.New -/
def wire_New (p_b : List (BitVec 8)) : Option ((List (BitVec 8)) × Bool) :=
 Option.bind (slices_Clone_byte_byte p_b) fun r1 =>
 Option.bind (some ((r1, false))) fun x1 =>
 some x1
/- (*rolodex/wire.Reader).takes -/
def wire_Reader_takes (p_r : (List (BitVec 8)) × Bool) (p_n : Int) : Option (((List (BitVec 8)) × Bool) × (List (BitVec 8))) :=
 Option.bind (some p_r.2) fun y1 =>
 if (y1) = true then (
 some ((p_r.1, p_r.2), ([] : List (BitVec 8)))) else (
 Option.bind (if (decide (p_n < (0 : Int))) = true then (
 some true) else (
 some (decide ((p_r.1.length : Int) < p_n)))) fun y2 =>
 if (y2) = true then (
 some ((p_r.1, true), ([] : List (BitVec 8)))) else (
 Option.bind (lslice p_r.1 0 p_n) fun x1 =>
 Option.bind (lslice p_r.1 p_n (p_r.1.length : Int)) fun x2 =>
 some ((x2, p_r.2), x1)))
/- (*rolodex/wire.Reader).peek -/
def wire_Reader_peek_L1 (x1 : List (BitVec 8)) (y3 : BitVec 64) (y4 : Int) : Option (LR ((BitVec 64) × Int) Empty) :=
 if (decide (y4 < (x1.length : Int))) = true then (
 Option.bind (lget x1 y4) fun x2 =>
 some (.next ((y3 <<< 8) ||| (x2.setWidth 64), w64 (y4 + (1 : Int))))) else (
 some (.brk (y3, y4)))
def wire_Reader_peek (p_r : (List (BitVec 8)) × Bool) (p_bytes : Int) : Option ((BitVec 64) × Bool) :=
 Option.bind (some p_r.2) fun y1 =>
 Option.bind (if (y1) = true then (
 some true) else (
 some (decide ((p_r.1.length : Int) < p_bytes)))) fun y2 =>
 if (y2) = true then (
 some (0#64, false)) else (
 Option.bind (lslice p_r.1 0 p_bytes) fun x1 =>
 Option.bind (loopS (fun (s : (BitVec 64) × Int) => wire_Reader_peek_L1 x1 s.1 s.2) FU (0#64, (0 : Int))) fun (s1 : (BitVec 64) × Int) =>
 some (s1.1, true))
/- (*rolodex/wire.Reader).number -/
def wire_Reader_number (p_r : (List (BitVec 8)) × Bool) (p_bytes : Int) : Option (((List (BitVec 8)) × Bool) × (BitVec 64)) :=
 Option.bind (wire_Reader_peek (p_r.1, p_r.2) p_bytes) fun r1 =>
 Option.bind (wire_Reader_takes (p_r.1, p_r.2) p_bytes) fun r2 =>
 if (!r1.2) = true then (
 some ((r2.1.1, r2.1.2), 0#64)) else (
 some ((r2.1.1, r2.1.2), r1.1))
/- (*rolodex/wire.Reader).U32 -/
def wire_Reader_U32 (p_r : (List (BitVec 8)) × Bool) : Option (((List (BitVec 8)) × Bool) × (BitVec 32)) :=
 Option.bind (wire_Reader_number (p_r.1, p_r.2) (4 : Int)) fun r1 =>
 some ((r1.1.1, r1.1.2), r1.2.setWidth 32)
/- (*rolodex/wire.Reader).Plain -/
def wire_Reader_Plain (p_r : (List (BitVec 8)) × Bool) (p_n : Int) : Option (((List (BitVec 8)) × Bool) × (List (BitVec 8))) :=
 Option.bind (wire_Reader_takes (p_r.1, p_r.2) p_n) fun r1 =>
 some ((r1.1.1, r1.1.2), r1.2)
/- (*rolodex/wire.Reader).Left -/
def wire_Reader_Left (p_r : (List (BitVec 8)) × Bool) : Option Int :=
 some (p_r.1.length : Int)
/- (*rolodex/wire.Reader).Fails -/
def wire_Reader_Fails (p_r : (List (BitVec 8)) × Bool) : Option Bool :=
 Option.bind (some p_r.2) fun y1 =>
 some y1
/- (*rolodex/wire.Reader).Done -/
def wire_Reader_Done (p_r : (List (BitVec 8)) × Bool) : Option Bool :=
 Option.bind (wire_Reader_Fails (p_r.1, p_r.2)) fun r1 =>
 Option.bind (if (!r1) = true then (
 Option.bind (wire_Reader_Left (p_r.1, p_r.2)) fun r2 =>
 some (decide (r2 = (0 : Int)))) else (
 some false)) fun y1 =>
 some y1
/- rolodex/lms.parted -/
def lms_parted_L1 (p_height : Int) (y1 : Int) (y2 : List (BitVec 8)) (y3 : Bool) (y4 : List T_api_Hash) : Option (LR (Int × (List (BitVec 8)) × Bool × (List T_api_Hash)) Empty) :=
 if (decide (y1 < p_height)) = true then (
 Option.bind (wire_Reader_Plain (y2, y3) (32 : Int)) fun r7 =>
 Option.bind (toVecO 32 r7.2) fun x2 =>
 if y4.length + ([x2]).length ≤ AP then (
 some (.next (w64 (y1 + (1 : Int)), r7.1.1, r7.1.2, (y4 ++ ([x2]))))) else none) else (
 some (.brk (y1, y2, y3, y4)))
def lms_parted (p_b : List (BitVec 8)) (p_height : Int) (p_kind : Int) : Option (T_lms_signature × Bool) :=
 Option.bind (lms_Size p_height p_kind) fun r1 =>
 if (!decide ((p_b.length : Int) = r1)) = true then (
 Option.bind (some ((0, ([] : List (BitVec 8)), ([] : List T_api_Hash)))) fun x1 =>
 some (x1, false)) else (
 Option.bind (wire_New p_b) fun r2 =>
 Option.bind (wire_Reader_U32 (r2.1, r2.2)) fun r3 =>
 Option.bind (lmots_Size p_kind) fun r4 =>
 Option.bind (wire_Reader_Plain (r3.1.1, r3.1.2) r4) fun r5 =>
 Option.bind (wire_Reader_U32 (r5.1.1, r5.1.2)) fun r6 =>
 Option.bind (loopS (fun (s : Int × (List (BitVec 8)) × Bool × (List T_api_Hash)) => lms_parted_L1 p_height s.1 s.2.1 s.2.2.1 s.2.2.2) FU ((0 : Int), r6.1.1, r6.1.2, ([] : List T_api_Hash))) fun (s1 : Int × (List (BitVec 8)) × Bool × (List T_api_Hash)) =>
 Option.bind (wire_Reader_Done (s1.2.1, s1.2.2.1)) fun r8 =>
 Option.bind (if (r8) = true then (
 some (decide ((r6.2.toNat : Int) = p_height))) else (
 some false)) fun y9 =>
 Option.bind (if (y9) = true then (
 if 0 ≤ p_height then (
 some (decide ((((r3.2.toNat : Int), r5.2, s1.2.2.2).1) < (ishl (1 : Int) p_height)))) else none) else (
 some false)) fun y10 =>
 Option.bind (if (y10) = true then (
 Option.bind (wire_New (((r3.2.toNat : Int), r5.2, s1.2.2.2).2.1)) fun r9 =>
 Option.bind (wire_Reader_U32 (r9.1, r9.2)) fun r10 =>
 some (decide ((r10.2.toNat : Int) = p_kind))) else (
 some false)) fun y11 =>
 some (((r3.2.toNat : Int), r5.2, s1.2.2.2), y11))
/- rolodex/lmots.Recover -/
def lmots_Recover_L1 (r7 : (List Int)) (r3 : T_lmots_form × Bool) (p_id : T_api_ID) (p_q : BitVec 32) (y2 : Int) (y3 : List T_api_Hash) (y4 : List (BitVec 8)) (y5 : Bool) : Option (LR (Int × (List T_api_Hash) × (List (BitVec 8)) × Bool) Empty) :=
 if (decide (y2 < (r7.length : Int))) = true then (
 Option.bind (lget r7 y2) fun x2 =>
 Option.bind (wire_Reader_Plain (y4, y5) (32 : Int)) fun r8 =>
 Option.bind (toVecO 32 r8.2) fun x3 =>
 Option.bind (lmots_form_most r3.1) fun r9 =>
 Option.bind (lmots_chain p_id p_q y2 x3 x2 r9) fun r10 =>
 if 0 ≤ y2 ∧ y2 < (y3.length : Int) then (
 some (.next (w64 (y2 + (1 : Int)), (y3.set y2.toNat r10), r8.1.1, r8.1.2))) else none) else (
 some (.brk (y2, y3, y4, y5)))
def lmots_Recover (p_id : T_api_ID) (p_q : BitVec 32) (p_message : List (BitVec 8)) (p_signature : List (BitVec 8)) : Option (T_api_Hash × Bool) :=
 Option.bind (wire_New p_signature) fun r1 =>
 Option.bind (wire_Reader_U32 (r1.1, r1.2)) fun r2 =>
 Option.bind (lmots_of (r2.2.toNat : Int)) fun r3 =>
 Option.bind (if (!r3.2) = true then (
 some true) else (
 Option.bind (lmots_Size (r2.2.toNat : Int)) fun r4 =>
 some (!decide ((p_signature.length : Int) = r4)))) fun y1 =>
 if (y1) = true then (
 some ((Vector.replicate 32 (0#8)), false)) else (
 Option.bind (wire_Reader_Plain (r2.1.1, r2.1.2) (32 : Int)) fun r5 =>
 if 0 ≤ r3.1.2.1 ∧ r3.1.2.1 ≤ (4294967296 : Int) then (
 Option.bind (some (List.replicate r3.1.2.1.toNat (Vector.replicate 32 (0#8)))) fun x1 =>
 Option.bind (lmots_under p_id p_q (33153 : Int) ([r5.2, p_message])) fun r6 =>
 Option.bind (lmots_form_digits r3.1 r6) fun r7 =>
 Option.bind (loopS (fun (s : Int × (List T_api_Hash) × (List (BitVec 8)) × Bool) => lmots_Recover_L1 r7 r3 p_id p_q s.1 s.2.1 s.2.2.1 s.2.2.2) FU ((0 : Int), x1, r5.1.1, r5.1.2)) fun (s1 : Int × (List T_api_Hash) × (List (BitVec 8)) × Bool) =>
 Option.bind (lmots_folded p_id p_q s1.2.1) fun r11 =>
 some (r11, true)) else none)
/- rolodex/lms.climb -/
def lms_climb_L1 (p_path : List T_api_Hash) (p_id : T_api_ID) (y1 : Int) (y2 : Int) (y3 : T_api_Hash) : Option (LR (Int × Int × T_api_Hash) Empty) :=
 if (decide (y2 < (p_path.length : Int))) = true then (
 Option.bind (lget p_path y2) fun x1 =>
 Option.bind (if (decide ((Int.tmod y1 (2 : Int)) = (1 : Int))) = true then (
 some (y3, x1)) else (
 some (x1, y3))) fun (j1 : T_api_Hash × T_api_Hash) =>
 Option.bind (lms_inner p_id (w64 (Int.tdiv y1 (2 : Int))) j1.2 j1.1) fun r1 =>
 some (.next (w64 (Int.tdiv y1 (2 : Int)), w64 (y2 + (1 : Int)), r1))) else (
 some (.brk (y1, y2, y3)))
def lms_climb (p_id : T_api_ID) (p_r : Int) (p_h : T_api_Hash) (p_path : List T_api_Hash) : Option T_api_Hash :=
 Option.bind (loopS (fun (s : Int × Int × T_api_Hash) => lms_climb_L1 p_path p_id s.1 s.2.1 s.2.2) FU (p_r, (0 : Int), p_h)) fun (s1 : Int × Int × T_api_Hash) =>
 some s1.2.2
/- slices.Equal[[]byte,byte] -/
def slices_Equal_byte_byte_L1 (p_s1 : List (BitVec 8)) (p_s2 : List (BitVec 8)) (y1 : Int) : Option (LR Int Bool) :=
 if (decide (y1 < (p_s1.length : Int))) = true then (
 Option.bind (lget p_s1 y1) fun x1 =>
 Option.bind (lget p_s2 y1) fun x2 =>
 if (!decide (x1 = x2)) = true then (
 some (.ret false)) else (
 some (.next (w64 (y1 + (1 : Int)))))) else (
 some (.brk y1))
def slices_Equal_byte_byte (p_s1 : List (BitVec 8)) (p_s2 : List (BitVec 8)) : Option Bool :=
 if (!decide ((p_s1.length : Int) = (p_s2.length : Int))) = true then (
 some false) else (
 Option.bind (loopO (fun (s : Int) => slices_Equal_byte_byte_L1 p_s1 p_s2 s) FU (0 : Int)) fun o => match o with
 | .inl (s1 : Int) => (
 some true)
 | .inr x => some x)
/- rolodex/lms.Verify -/
def lms_Verify (p_public : List (BitVec 8)) (p_message : List (BitVec 8)) (p_sig : List (BitVec 8)) : Option Bool :=
 if (!decide ((p_public.length : Int) = (56 : Int))) = true then (
 some false) else (
 Option.bind (wire_New p_public) fun r1 =>
 Option.bind (wire_Reader_U32 (r1.1, r1.2)) fun r2 =>
 Option.bind (wire_Reader_U32 (r2.1.1, r2.1.2)) fun r3 =>
 Option.bind (wire_Reader_Plain (r3.1.1, r3.1.2) (16 : Int)) fun r4 =>
 Option.bind (toVecO 16 r4.2) fun x1 =>
 Option.bind (wire_Reader_Plain (r4.1.1, r4.1.2) (32 : Int)) fun r5 =>
 Option.bind (lms_may (r2.2.toNat : Int) (r3.2.toNat : Int)) fun r6 =>
 if (!r6) = true then (
 some false) else (
 Option.bind (lms_parted p_sig (r2.2.toNat : Int) (r3.2.toNat : Int)) fun r7 =>
 if (!r7.2) = true then (
 some false) else (
 Option.bind (lmots_Recover x1 (BitVec.ofInt 32 r7.1.1) p_message r7.1.2.1) fun r8 =>
 if (!r8.2) = true then (
 some false) else (
 if 0 ≤ (r2.2.toNat : Int) then (
 Option.bind (some (w64 ((ishl (1 : Int) (r2.2.toNat : Int)) + r7.1.1))) fun x2 =>
 Option.bind (lms_leaf x1 x2 r8.1) fun r9 =>
 Option.bind (lms_climb x1 x2 r9 r7.1.2.2) fun r10 =>
 Option.bind (slices_Equal_byte_byte r10.toList r5.2) fun r11 =>
 some r11) else none))))
/- rolodex/rolodexref04.Recover -/
def rolodexref04_Recover_L1 (r4 : (List Int)) (p_sig : List (BitVec 8)) (r1 : (BitVec 64)) (p_id : T_api_ID) (p_q : BitVec 32) (y3 : Int) (y4 : List (BitVec 8)) : Option (LR (Int × (List (BitVec 8))) Empty) :=
 if (decide (y3 < (r4.length : Int))) = true then (
 Option.bind (lslice p_sig (w64 ((36 : Int) + (w64 ((32 : Int) * y3)))) (w64 ((68 : Int) + (w64 ((32 : Int) * y3))))) fun x3 =>
 Option.bind (toVecO 32 x3) fun x4 =>
 Option.bind (lget r4 y3) fun x5 =>
 Option.bind (rolodexref04_Most (w64 (r1.toNat : Int))) fun r5 =>
 Option.bind (rolodexref04_Steps p_id p_q y3 x4 x5 r5) fun r6 =>
 if y4.length + r6.toList.length ≤ AP then (
 some (.next (w64 (y3 + (1 : Int)), (y4 ++ r6.toList)))) else none) else (
 some (.brk (y3, y4)))
def rolodexref04_Recover (p_id : T_api_ID) (p_q : BitVec 32) (p_message : List (BitVec 8)) (p_sig : List (BitVec 8)) : Option (T_api_Hash × Bool) :=
 if (decide ((p_sig.length : Int) < (36 : Int))) = true then (
 some ((Vector.replicate 32 (0#8)), false)) else (
 Option.bind (lslice p_sig 0 (4 : Int)) fun x1 =>
 Option.bind (rolodexref01_Value x1) fun r1 =>
 Option.bind (if (decide (r1 < (1#64))) = true then (
 some true) else (
 some (decide ((4#64) < r1)))) fun y1 =>
 Option.bind (if (y1) = true then (
 some true) else (
 Option.bind (rolodexref04_Size (w64 (r1.toNat : Int))) fun r2 =>
 some (!decide ((p_sig.length : Int) = r2)))) fun y2 =>
 if (y2) = true then (
 some ((Vector.replicate 32 (0#8)), false)) else (
 Option.bind (lslice p_sig (4 : Int) (36 : Int)) fun x2 =>
 Option.bind (rolodexref04_Hashed p_id p_q x2 p_message) fun r3 =>
 Option.bind (rolodexref04_Digits (w64 (r1.toNat : Int)) r3) fun r4 =>
 Option.bind (loopS (fun (s : Int × (List (BitVec 8))) => rolodexref04_Recover_L1 r4 p_sig r1 p_id p_q s.1 s.2) FU ((0 : Int), ([] : List (BitVec 8)))) fun (s1 : Int × (List (BitVec 8))) =>
 Option.bind (rolodexref04_Under p_id p_q (32896 : Int) s1.2) fun r7 =>
 some (r7, true)))
/- rolodex/rolodexref05.Verify -/
def rolodexref05_Verify_L1 (r1 : (BitVec 64)) (p_sig : List (BitVec 8)) (r5 : Int) (x4 : T_api_ID) (y6 : Int) (y7 : Int) (y8 : T_api_Hash) : Option (LR (Int × Int × T_api_Hash) Empty) :=
 if (decide (y7 < (w64 (r1.toNat : Int)))) = true then (
 Option.bind (lslice p_sig (w64 ((w64 ((8 : Int) + r5)) + (w64 ((32 : Int) * y7)))) (w64 ((w64 ((40 : Int) + r5)) + (w64 ((32 : Int) * y7))))) fun x9 =>
 Option.bind (toVecO 32 x9) fun x10 =>
 if (decide ((Int.tmod y6 (2 : Int)) = (0 : Int))) = true then (
 Option.bind (rolodexref05_two y8 x10) fun r13 =>
 Option.bind (rolodexref05_Node x4 (w64 (Int.tdiv y6 (2 : Int))) (33667 : Int) r13) fun r14 =>
 some (.next (w64 (Int.tdiv y6 (2 : Int)), w64 (y7 + (1 : Int)), r14))) else (
 Option.bind (rolodexref05_two x10 y8) fun r15 =>
 Option.bind (rolodexref05_Node x4 (w64 (Int.tdiv y6 (2 : Int))) (33667 : Int) r15) fun r16 =>
 some (.next (w64 (Int.tdiv y6 (2 : Int)), w64 (y7 + (1 : Int)), r16)))) else (
 some (.brk (y6, y7, y8)))
def rolodexref05_Verify (p_public : List (BitVec 8)) (p_message : List (BitVec 8)) (p_sig : List (BitVec 8)) : Option Bool :=
 if (!decide ((p_public.length : Int) = (56 : Int))) = true then (
 some false) else (
 Option.bind (lslice p_public 0 (4 : Int)) fun x1 =>
 Option.bind (rolodexref01_Value x1) fun r1 =>
 Option.bind (lslice p_public (4 : Int) (8 : Int)) fun x2 =>
 Option.bind (rolodexref01_Value x2) fun r2 =>
 Option.bind (if (decide ((4#64) < r1)) = true then (
 some true) else (
 some (decide ((4#64) < r2)))) fun y1 =>
 Option.bind (if (y1) = true then (
 some true) else (
 Option.bind (rolodexref05_Keys (w64 (r1.toNat : Int)) (w64 (r2.toNat : Int))) fun r3 =>
 some (decide (r3 = (0 : Int))))) fun y2 =>
 Option.bind (if (y2) = true then (
 some true) else (
 Option.bind (rolodexref05_Size (w64 (r1.toNat : Int)) (w64 (r2.toNat : Int))) fun r4 =>
 some (!decide ((p_sig.length : Int) = r4)))) fun y3 =>
 if (y3) = true then (
 some false) else (
 Option.bind (lslice p_public (8 : Int) (24 : Int)) fun x3 =>
 Option.bind (toVecO 16 x3) fun x4 =>
 Option.bind (rolodexref04_Size (w64 (r2.toNat : Int))) fun r5 =>
 Option.bind (lslice p_sig 0 (4 : Int)) fun x5 =>
 Option.bind (rolodexref01_Value x5) fun r6 =>
 Option.bind (rolodexref05_Keys (w64 (r1.toNat : Int)) (w64 (r2.toNat : Int))) fun r7 =>
 Option.bind (if (decide ((BitVec.ofInt 64 r7) ≤ r6)) = true then (
 some true) else (
 Option.bind (lslice p_sig (4 : Int) (8 : Int)) fun x6 =>
 Option.bind (rolodexref01_Value x6) fun r8 =>
 some (!decide (r8 = r2)))) fun y4 =>
 Option.bind (if (y4) = true then (
 some true) else (
 Option.bind (lslice p_sig (w64 ((4 : Int) + r5)) (w64 ((8 : Int) + r5))) fun x7 =>
 Option.bind (rolodexref01_Value x7) fun r9 =>
 some (!decide (r9 = r1)))) fun y5 =>
 if (y5) = true then (
 some false) else (
 Option.bind (lslice p_sig (4 : Int) (w64 ((4 : Int) + r5))) fun x8 =>
 Option.bind (rolodexref04_Recover x4 (r6.setWidth 32) p_message x8) fun r10 =>
 Option.bind (rolodexref05_Keys (w64 (r1.toNat : Int)) (w64 (r2.toNat : Int))) fun r11 =>
 Option.bind (rolodexref05_Node x4 (w64 (r11 + (w64 (r6.toNat : Int)))) (33410 : Int) r10.1.toList) fun r12 =>
 Option.bind (loopS (fun (s : Int × Int × T_api_Hash) => rolodexref05_Verify_L1 r1 p_sig r5 x4 s.1 s.2.1 s.2.2) FU (w64 (r11 + (w64 (r6.toNat : Int))), (0 : Int), r12)) fun (s1 : Int × Int × T_api_Hash) =>
 Option.bind (if (r10.2) = true then (
 Option.bind (lslice p_public (24 : Int) (56 : Int)) fun x11 =>
 Option.bind (rolodexref01_Same s1.2.2.toList x11) fun r17 =>
 some r17) else (
 some false)) fun y12 =>
 some y12)))
/- rolodex/rolodexlaw05.LmsVerifies -/
/- (*rolodex/hss.Signer).tree -/
/- (*rolodex/hss.Signer).Sign -/
/- rolodex/rolodexref06.Sign -/
/- rolodex/rolodexlaw06.HssSigns -/
/- (*rolodex/hss.Signer).Sign__nil -/
/- (*rolodex/hss.Signer).Keys__nil -/
/- (*rolodex/hss.Signer).Public__nil -/
/- rolodex/rolodexlaw06.HssNil -/
/- rolodex/rolodexlaw05.LmsRight -/
/- rolodex/rolodexlaw05.LmsCuts -/
/- rolodex/hss.Verify -/
def hss_Verify (p_public : List (BitVec 8)) (p_message : List (BitVec 8)) (p_signature : List (BitVec 8)) : Option Bool :=
 if (!decide ((p_public.length : Int) = (60 : Int))) = true then (
 some false) else (
 Option.bind (wire_New p_public) fun r1 =>
 Option.bind (wire_Reader_U32 (r1.1, r1.2)) fun r2 =>
 if (!decide (r2.2 = (2#32))) = true then (
 some false) else (
 Option.bind (wire_Reader_U32 (r2.1.1, r2.1.2)) fun r3 =>
 Option.bind (wire_Reader_U32 (r3.1.1, r3.1.2)) fun r4 =>
 Option.bind (wire_New p_signature) fun r5 =>
 Option.bind (wire_Reader_U32 (r5.1, r5.2)) fun r6 =>
 if (!decide (r6.2 = (1#32))) = true then (
 some false) else (
 Option.bind (lms_Size (r3.2.toNat : Int) (r4.2.toNat : Int)) fun r7 =>
 Option.bind (wire_Reader_Plain (r6.1.1, r6.1.2) r7) fun r8 =>
 Option.bind (wire_Reader_Plain (r8.1.1, r8.1.2) (56 : Int)) fun r9 =>
 Option.bind (wire_Reader_Left (r9.1.1, r9.1.2)) fun r10 =>
 Option.bind (wire_Reader_Plain (r9.1.1, r9.1.2) r10) fun r11 =>
 Option.bind (wire_Reader_Fails (r11.1.1, r11.1.2)) fun r12 =>
 Option.bind (if (!r12) = true then (
 Option.bind (lslice p_public (4 : Int) (p_public.length : Int)) fun x1 =>
 Option.bind (lms_Verify x1 r9.2 r8.2) fun r13 =>
 some r13) else (
 some false)) fun y1 =>
 Option.bind (if (y1) = true then (
 Option.bind (lms_Verify r9.2 p_message r11.2) fun r14 =>
 some r14) else (
 some false)) fun y2 =>
 some y2)))
/- rolodex/rolodexref06.Verify -/
def rolodexref06_Verify (p_public : List (BitVec 8)) (p_message : List (BitVec 8)) (p_sig : List (BitVec 8)) : Option Bool :=
 Option.bind (if (!decide ((p_public.length : Int) = (60 : Int))) = true then (
 some true) else (
 some (decide ((p_sig.length : Int) < (4 : Int))))) fun y1 =>
 Option.bind (if (y1) = true then (
 some true) else (
 Option.bind (lslice p_public 0 (4 : Int)) fun x1 =>
 Option.bind (rolodexref01_Value x1) fun r1 =>
 some (!decide (r1 = (2#64))))) fun y2 =>
 Option.bind (if (y2) = true then (
 some true) else (
 Option.bind (lslice p_sig 0 (4 : Int)) fun x2 =>
 Option.bind (rolodexref01_Value x2) fun r2 =>
 some (!decide (r2 = (1#64))))) fun y3 =>
 if (y3) = true then (
 some false) else (
 Option.bind (lslice p_public (4 : Int) (8 : Int)) fun x3 =>
 Option.bind (rolodexref01_Value x3) fun r3 =>
 Option.bind (lslice p_public (8 : Int) (12 : Int)) fun x4 =>
 Option.bind (rolodexref01_Value x4) fun r4 =>
 Option.bind (if (decide ((4#64) < r3)) = true then (
 some true) else (
 some (decide ((4#64) < r4)))) fun y4 =>
 if (y4) = true then (
 some false) else (
 Option.bind (rolodexref05_Size (w64 (r3.toNat : Int)) (w64 (r4.toNat : Int))) fun r5 =>
 Option.bind (if (decide (r5 = (0 : Int))) = true then (
 some true) else (
 some (decide ((p_sig.length : Int) < (w64 ((60 : Int) + r5)))))) fun y5 =>
 if (y5) = true then (
 some false) else (
 Option.bind (lslice p_sig (w64 ((4 : Int) + r5)) (w64 ((60 : Int) + r5))) fun x5 =>
 Option.bind (lslice p_public (4 : Int) (60 : Int)) fun x6 =>
 Option.bind (lslice p_sig (4 : Int) (w64 ((4 : Int) + r5))) fun x7 =>
 Option.bind (rolodexref05_Verify x6 x5 x7) fun r6 =>
 Option.bind (if (r6) = true then (
 Option.bind (lslice p_sig (w64 ((60 : Int) + r5)) (p_sig.length : Int)) fun x8 =>
 Option.bind (rolodexref05_Verify x5 p_message x8) fun r7 =>
 some r7) else (
 some false)) fun y6 =>
 some y6)))
/- rolodex/rolodexlaw06.HssVerifies -/
def rolodexlaw06_HssVerifies (p_public : List (BitVec 8)) (p_message : List (BitVec 8)) (p_signature : List (BitVec 8)) : Option Bool :=
 Option.bind (rolodexlaw06_awake) fun r1 =>
 Option.bind (if (!r1) = true then (
 some true) else (
 some (decide ((200 : Int) < (p_public.length : Int))))) fun y1 =>
 Option.bind (if (y1) = true then (
 some true) else (
 some (decide ((300 : Int) < (p_message.length : Int))))) fun y2 =>
 Option.bind (if (y2) = true then (
 some true) else (
 some (decide ((9000 : Int) < (p_signature.length : Int))))) fun y3 =>
 if (y3) = true then (
 Option.bind (rolodexlaw06_awake) fun r2 =>
 some r2) else (
 Option.bind (hss_Verify p_public p_message p_signature) fun r3 =>
 Option.bind (rolodexref06_Verify p_public p_message p_signature) fun r4 =>
 some (r3 == r4))
/- rolodex/rolodexlaw06.HssCuts -/
/- rolodex/rolodexlaw06.HssRight -/
end M
end Go.Sl
