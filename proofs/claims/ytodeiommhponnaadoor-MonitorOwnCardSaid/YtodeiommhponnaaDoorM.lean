import Derived.Test.YtodeiommhponnaaDoorBase
set_option linter.unusedVariables false
set_option maxRecDepth 100000
namespace Go.Sl
namespace M
abbrev T_hash_state : Type := Vector (BitVec 32) 8
abbrev T_api_Hash : Type := Vector (BitVec 8) 32
abbrev T_chain_Version : Type := Int × Int × T_api_Hash × T_api_Hash × (List (BitVec 8))
abbrev T_rolodexref14_Version : Type := Int × Int × T_api_Hash × T_api_Hash × (List (BitVec 8))
abbrev T_monitor_Monitor : Type := (List (BitVec 8)) × Int × (List T_chain_Version)
abbrev T_head_Head : Type := Int × Int × T_api_Hash × T_api_Hash
abbrev T_session_Found : Type := (List (BitVec 8)) × Int × T_head_Head × (List T_chain_Version)
def G_hash_begin : T_hash_state := #v[1779033703#32, 3144134277#32, 1013904242#32, 2773480762#32, 1359893119#32, 2600822924#32, 528734635#32, 1541459225#32]
def G_hash_rounds : Vector (BitVec 32) 64 := #v[1116352408#32, 1899447441#32, 3049323471#32, 3921009573#32, 961987163#32, 1508970993#32, 2453635748#32, 2870763221#32, 3624381080#32, 310598401#32, 607225278#32, 1426881987#32, 1925078388#32, 2162078206#32, 2614888103#32, 3248222580#32, 3835390401#32, 4022224774#32, 264347078#32, 604807628#32, 770255983#32, 1249150122#32, 1555081692#32, 1996064986#32, 2554220882#32, 2821834349#32, 2952996808#32, 3210313671#32, 3336571891#32, 3584528711#32, 113926993#32, 338241895#32, 666307205#32, 773529912#32, 1294757372#32, 1396182291#32, 1695183700#32, 1986661051#32, 2177026350#32, 2456956037#32, 2730485921#32, 2820302411#32, 3259730800#32, 3345764771#32, 3516065817#32, 3600352804#32, 4094571909#32, 275423344#32, 430227734#32, 506948616#32, 659060556#32, 883997877#32, 958139571#32, 1322822218#32, 1537002063#32, 1747873779#32, 1955562222#32, 2024104815#32, 2227730452#32, 2361852424#32, 2428436474#32, 2756734187#32, 3204031479#32, 3329325298#32]
/- math/bits.RotateLeft32 -/
def math_bits_RotateLeft32 (p_x : BitVec 32) (p_k : Int) : Option (BitVec 32) :=
 Option.bind (some ((p_x <<< (((BitVec.ofInt 64 p_k) &&& (31#64)).toNat)) ||| (p_x >>> (((32#64) - ((BitVec.ofInt 64 p_k) &&& (31#64))).toNat)))) fun x1 =>
 some x1
/- rolodex/hash.schedule -/
def hash_schedule_L1 (x1 : List (BitVec 8)) (y1 : Int) (y2 : Vector (BitVec 32) 64) : Option (LR (Int × (Vector (BitVec 32) 64)) Empty) :=
 if (decide (y1 < (x1.length : Int))) = true then (
 Option.bind (lget x1 y1) fun x2 =>
 Option.bind (vget y2 (w64 (Int.tdiv y1 (4 : Int)))) fun x3 =>
 if 0 ≤ w64 (Int.tdiv y1 (4 : Int)) ∧ w64 (Int.tdiv y1 (4 : Int)) < (64 : Int) then (
 Option.bind (some ((y2.setIfInBounds ((w64 (Int.tdiv y1 (4 : Int))).toNat) ((x3 <<< 8) ||| (x2.setWidth 32))))) fun x4 =>
 some (.next (w64 (y1 + (1 : Int)), x4))) else none) else (
 some (.brk (y1, y2)))
def hash_schedule_L2 (y5 : Int) (y6 : Vector (BitVec 32) 64) : Option (LR (Int × (Vector (BitVec 32) 64)) Empty) :=
 if (decide (y5 < (64 : Int))) = true then (
 Option.bind (vget y6 (w64 (y5 - (15 : Int)))) fun x5 =>
 Option.bind (math_bits_RotateLeft32 x5 (-7 : Int)) fun r1 =>
 Option.bind (vget y6 (w64 (y5 - (15 : Int)))) fun x6 =>
 Option.bind (math_bits_RotateLeft32 x6 (-18 : Int)) fun r2 =>
 Option.bind (vget y6 (w64 (y5 - (15 : Int)))) fun x7 =>
 Option.bind (vget y6 (w64 (y5 - (2 : Int)))) fun x8 =>
 Option.bind (math_bits_RotateLeft32 x8 (-17 : Int)) fun r3 =>
 Option.bind (vget y6 (w64 (y5 - (2 : Int)))) fun x9 =>
 Option.bind (math_bits_RotateLeft32 x9 (-19 : Int)) fun r4 =>
 Option.bind (vget y6 (w64 (y5 - (2 : Int)))) fun x10 =>
 Option.bind (vget y6 (w64 (y5 - (16 : Int)))) fun x11 =>
 Option.bind (vget y6 (w64 (y5 - (7 : Int)))) fun x12 =>
 if 0 ≤ y5 ∧ y5 < (64 : Int) then (
 Option.bind (some ((y6.setIfInBounds y5.toNat (((x11 + ((r1 ^^^ r2) ^^^ (x7 >>> 3))) + x12) + ((r3 ^^^ r4) ^^^ (x10 >>> 10)))))) fun x13 =>
 some (.next (w64 (y5 + (1 : Int)), x13))) else none) else (
 some (.brk (y5, y6)))
def hash_schedule (p_block : List (BitVec 8)) : Option (Vector (BitVec 32) 64) :=
 Option.bind (lslice p_block 0 (64 : Int)) fun x1 =>
 Option.bind (loopS (fun (s : Int × (Vector (BitVec 32) 64)) => hash_schedule_L1 x1 s.1 s.2) FU ((0 : Int), (Vector.replicate 64 (0#32)))) fun (s2 : Int × (Vector (BitVec 32) 64)) =>
 Option.bind (loopS (fun (s : Int × (Vector (BitVec 32) 64)) => hash_schedule_L2 s.1 s.2) FU ((16 : Int), s2.2)) fun (s1 : Int × (Vector (BitVec 32) 64)) =>
 some s1.2
/- (rolodex/hash.state).block -/
def hash_state_block_L1 (r1 : (Vector (BitVec 32) 64)) (y1 : Int) (y2 : T_hash_state) : Option (LR (Int × T_hash_state) Empty) :=
 if (decide (y1 < (64 : Int))) = true then (
 Option.bind (math_bits_RotateLeft32 (y2[4]) (-6 : Int)) fun r2 =>
 Option.bind (math_bits_RotateLeft32 (y2[4]) (-11 : Int)) fun r3 =>
 Option.bind (math_bits_RotateLeft32 (y2[4]) (-25 : Int)) fun r4 =>
 Option.bind (vget G_hash_rounds y1) fun x1 =>
 Option.bind (vget r1 y1) fun x2 =>
 Option.bind (some (((((y2[7]) + ((r2 ^^^ r3) ^^^ r4)) + ((y2[6]) ^^^ ((y2[4]) &&& ((y2[5]) ^^^ (y2[6]))))) + x1) + x2)) fun x3 =>
 Option.bind (math_bits_RotateLeft32 (y2[0]) (-2 : Int)) fun r5 =>
 Option.bind (math_bits_RotateLeft32 (y2[0]) (-13 : Int)) fun r6 =>
 Option.bind (math_bits_RotateLeft32 (y2[0]) (-22 : Int)) fun r7 =>
 Option.bind (some (((r5 ^^^ r6) ^^^ r7) + (((y2[0]) &&& (y2[1])) ||| ((y2[2]) &&& ((y2[0]) ||| (y2[1])))))) fun x4 =>
 Option.bind (some (#v[x3 + x4, y2[0], y2[1], y2[2], (y2[3]) + x3, y2[4], y2[5], y2[6]])) fun x5 =>
 some (.next (w64 (y1 + (1 : Int)), x5))) else (
 some (.brk (y1, y2)))
def hash_state_block_L2 (y4 : T_hash_state) (y5 : Int) (y6 : T_hash_state) : Option (LR (Int × T_hash_state) Empty) :=
 if (decide (y5 < (8 : Int))) = true then (
 Option.bind (vget y6 y5) fun x6 =>
 Option.bind (vget y4 y5) fun x7 =>
 if 0 ≤ y5 ∧ y5 < (8 : Int) then (
 some (.next (w64 (y5 + (1 : Int)), (y6.setIfInBounds y5.toNat (x6 + x7))))) else none) else (
 some (.brk (y5, y6)))
def hash_state_block (p_s : T_hash_state) (p_b : List (BitVec 8)) : Option T_hash_state :=
 Option.bind (hash_schedule p_b) fun r1 =>
 Option.bind (loopS (fun (s : Int × T_hash_state) => hash_state_block_L1 r1 s.1 s.2) FU ((0 : Int), p_s)) fun (s2 : Int × T_hash_state) =>
 Option.bind (loopS (fun (s : Int × T_hash_state) => hash_state_block_L2 s2.2 s.1 s.2) FU ((0 : Int), p_s)) fun (s1 : Int × T_hash_state) =>
 some s1.2
/- rolodex/hash.Sum -/
def hash_Sum_L1 (y1 : List (BitVec 8)) (y2 : T_hash_state) : Option (LR ((List (BitVec 8)) × T_hash_state) Empty) :=
 if (decide ((64 : Int) ≤ (y1.length : Int))) = true then (
 Option.bind (hash_state_block y2 y1) fun r1 =>
 Option.bind (lslice y1 (64 : Int) (y1.length : Int)) fun x1 =>
 some (.next (x1, r1))) else (
 some (.brk (y1, y2)))
def hash_Sum_L2 (y5 : Int) (p_b : List (BitVec 8)) (y6 : Int) (y7 : Vector (BitVec 8) 128) : Option (LR (Int × (Vector (BitVec 8) 128)) Empty) :=
 if (decide (y6 < (8 : Int))) = true then (
 if 0 ≤ w64 ((8 : Int) * y6) then (
 if 0 ≤ w64 ((w64 (y5 - (1 : Int))) - y6) ∧ w64 ((w64 (y5 - (1 : Int))) - y6) < (128 : Int) then (
 Option.bind (some ((y7.setIfInBounds ((w64 ((w64 (y5 - (1 : Int))) - y6)).toNat) ((((BitVec.ofInt 64 (p_b.length : Int)) <<< 3) >>> ((w64 ((8 : Int) * y6)).toNat)).setWidth 8)))) fun x3 =>
 some (.next (w64 (y6 + (1 : Int)), x3))) else none) else none) else (
 some (.brk (y6, y7)))
def hash_Sum_L3 (y10 : T_hash_state) (y11 : Int) (y12 : T_api_Hash) : Option (LR (Int × T_api_Hash) Empty) :=
 if (decide (y11 < (32 : Int))) = true then (
 Option.bind (vget y10 (w64 (Int.tdiv y11 (4 : Int)))) fun x4 =>
 if 0 ≤ w64 ((24 : Int) - (w64 ((8 : Int) * (Int.tmod y11 (4 : Int))))) then (
 if 0 ≤ y11 ∧ y11 < (32 : Int) then (
 Option.bind (some ((y12.setIfInBounds y11.toNat ((x4 >>> ((w64 ((24 : Int) - (w64 ((8 : Int) * (Int.tmod y11 (4 : Int)))))).toNat)).setWidth 8)))) fun x5 =>
 some (.next (w64 (y11 + (1 : Int)), x5))) else none) else none) else (
 some (.brk (y11, y12)))
def hash_Sum (p_b : List (BitVec 8)) : Option T_api_Hash :=
 Option.bind (loopS (fun (s : (List (BitVec 8)) × T_hash_state) => hash_Sum_L1 s.1 s.2) FU (p_b, G_hash_begin)) fun (s3 : (List (BitVec 8)) × T_hash_state) =>
 Option.bind (if (decide ((56 : Int) ≤ (s3.1.length : Int))) = true then (
 some (128 : Int)) else (
 some (64 : Int))) fun y5 =>
 if 0 ≤ (s3.1.length : Int) ∧ (s3.1.length : Int) < (128 : Int) then (
 Option.bind (some (((vput (Vector.replicate 128 (0#8)) 0 (s3.1.take 128)).setIfInBounds ((s3.1.length : Int).toNat) (128#8)))) fun x2 =>
 Option.bind (loopS (fun (s : Int × (Vector (BitVec 8) 128)) => hash_Sum_L2 y5 p_b s.1 s.2) FU ((0 : Int), x2)) fun (s2 : Int × (Vector (BitVec 8) 128)) =>
 Option.bind (hash_state_block s3.2 s2.2.toList) fun r2 =>
 Option.bind (if (decide (y5 = (128 : Int))) = true then (
 Option.bind (hash_state_block r2 ((s2.2.toList.drop 64).take 64)) fun r3 =>
 some r3) else (
 some r2)) fun y10 =>
 Option.bind (loopS (fun (s : Int × T_api_Hash) => hash_Sum_L3 y10 s.1 s.2) FU ((0 : Int), (Vector.replicate 32 (0#8)))) fun (s1 : Int × T_api_Hash) =>
 some s1.2) else none
/- rolodex/hash.Text -/
def hash_Text_L1 (p_parts : List (List (BitVec 8))) (y1 : Int) (y2 : Int) : Option (LR (Int × Int) Empty) :=
 if (decide (y2 < (p_parts.length : Int))) = true then (
 Option.bind (lget p_parts y2) fun x1 =>
 Option.bind (some (w64 (y1 + (w64 ((4 : Int) + (x1.length : Int)))))) fun x2 =>
 some (.next (x2, w64 (y2 + (1 : Int))))) else (
 some (.brk (y1, y2)))
def hash_Text_L2 (p_parts : List (List (BitVec 8))) (y5 : Int) (y6 : List (BitVec 8)) : Option (LR (Int × (List (BitVec 8))) Empty) :=
 if (decide (y5 < (p_parts.length : Int))) = true then (
 Option.bind (lget p_parts y5) fun x3 =>
 if y6.length + ([((BitVec.ofInt 32 (x3.length : Int)) >>> 24).setWidth 8, ((BitVec.ofInt 32 (x3.length : Int)) >>> 16).setWidth 8, ((BitVec.ofInt 32 (x3.length : Int)) >>> 8).setWidth 8, (BitVec.ofInt 32 (x3.length : Int)).setWidth 8]).length ≤ AP then (
 if (y6 ++ ([((BitVec.ofInt 32 (x3.length : Int)) >>> 24).setWidth 8, ((BitVec.ofInt 32 (x3.length : Int)) >>> 16).setWidth 8, ((BitVec.ofInt 32 (x3.length : Int)) >>> 8).setWidth 8, (BitVec.ofInt 32 (x3.length : Int)).setWidth 8])).length + x3.length ≤ AP then (
 some (.next (w64 (y5 + (1 : Int)), ((y6 ++ ([((BitVec.ofInt 32 (x3.length : Int)) >>> 24).setWidth 8, ((BitVec.ofInt 32 (x3.length : Int)) >>> 16).setWidth 8, ((BitVec.ofInt 32 (x3.length : Int)) >>> 8).setWidth 8, (BitVec.ofInt 32 (x3.length : Int)).setWidth 8])) ++ x3)))) else none) else none) else (
 some (.brk (y5, y6)))
def hash_Text (p_tag : BitVec 8) (p_parts : List (List (BitVec 8))) : Option (List (BitVec 8)) :=
 Option.bind (loopS (fun (s : Int × Int) => hash_Text_L1 p_parts s.1 s.2) FU ((1 : Int), (0 : Int))) fun (s2 : Int × Int) =>
 if 0 ≤ s2.1 ∧ s2.1 ≤ (4294967296 : Int) then (
 if ([] : List (BitVec 8)).length + ([p_tag]).length ≤ AP then (
 Option.bind (loopS (fun (s : Int × (List (BitVec 8))) => hash_Text_L2 p_parts s.1 s.2) FU ((0 : Int), (([] : List (BitVec 8)) ++ ([p_tag])))) fun (s1 : Int × (List (BitVec 8))) =>
 some s1.2) else none) else none
/- rolodex/hash.Tagged -/
/- rolodex/chain.four -/
def chain_four (p_n : Int) : Option (List (BitVec 8)) :=
 some ([BitVec.ofInt 8 (ishr p_n (24 : Int)), BitVec.ofInt 8 (ishr p_n (16 : Int)), BitVec.ofInt 8 (ishr p_n (8 : Int)), BitVec.ofInt 8 p_n])
/- rolodex/chain.Salt -/
/- rolodex/chain.Text -/
def chain_Text (p_label : List (BitVec 8)) (p_v : T_chain_Version) : Option (List (BitVec 8)) :=
 Option.bind (chain_four p_v.1) fun r1 =>
 Option.bind (chain_four p_v.2.1) fun r2 =>
 Option.bind (hash_Text (99#8) ([p_label, r1, r2, p_v.2.2.1.toList, p_v.2.2.2.1.toList, p_v.2.2.2.2])) fun r3 =>
 some r3
/- rolodex/chain.Commit -/
def chain_Commit (p_label : List (BitVec 8)) (p_v : T_chain_Version) : Option T_api_Hash :=
 Option.bind (chain_Text p_label p_v) fun r1 =>
 Option.bind (hash_Sum r1) fun r2 =>
 some r2
/- rolodex/chain.is -/
def chain_is (p_label : List (BitVec 8)) : Option Bool :=
 Option.bind (if (decide ((1 : Int) ≤ (p_label.length : Int))) = true then (
 some (decide ((p_label.length : Int) ≤ (32 : Int)))) else (
 some false)) fun y1 =>
 some y1
/- rolodex/chain.Formed -/
def chain_Formed_L1 (p_chain : List T_chain_Version) (p_label : List (BitVec 8)) (y2 : Int) (y3 : Int) (y4 : T_api_Hash) : Option (LR (Int × Int × T_api_Hash) Bool) :=
 if (decide (y3 < (p_chain.length : Int))) = true then (
 Option.bind (lget p_chain y3) fun x1 =>
 Option.bind (if (!decide (x1.1 = (w64 (y3 + (1 : Int))))) = true then (
 some true) else (
 some (decide (x1.2.1 ≤ y2)))) fun y5 =>
 Option.bind (if (y5) = true then (
 some true) else (
 some (decide ((2147483648 : Int) ≤ x1.2.1)))) fun y6 =>
 Option.bind (if (y6) = true then (
 some true) else (
 some (!decide (x1.2.2.2.1 = y4)))) fun y7 =>
 Option.bind (if (y7) = true then (
 some true) else (
 some (decide ((64 : Int) < (x1.2.2.2.2.length : Int))))) fun y8 =>
 if (y8) = true then (
 some (.ret false)) else (
 Option.bind (chain_Commit p_label x1) fun r2 =>
 some (.next (x1.2.1, w64 (y3 + (1 : Int)), r2)))) else (
 some (.brk (y2, y3, y4)))
def chain_Formed (p_label : List (BitVec 8)) (p_chain : List T_chain_Version) : Option Bool :=
 Option.bind (chain_is p_label) fun r1 =>
 Option.bind (if (!r1) = true then (
 some true) else (
 some (decide ((p_chain.length : Int) = (0 : Int))))) fun y1 =>
 if (y1) = true then (
 some false) else (
 Option.bind (loopO (fun (s : Int × Int × T_api_Hash) => chain_Formed_L1 p_chain p_label s.1 s.2.1 s.2.2) FU ((0 : Int), (0 : Int), (Vector.replicate 32 (0#8)))) fun o => match o with
 | .inl (s1 : Int × Int × T_api_Hash) => (
 some true)
 | .inr x => some x)
/- slices.Clone[[]byte,byte] -/
def slices_Clone_byte_byte (p_s : List (BitVec 8)) : Option (List (BitVec 8)) :=
 if ([] : List (BitVec 8)).length + p_s.length ≤ AP then (
 some (([] : List (BitVec 8)) ++ p_s)) else none
/- slices.Clone[[]rolodex/chain.Version,rolodex/chain.Version] -/
def slices_Clone_chain_Version_chain_Version (p_s : List T_chain_Version) : Option (List T_chain_Version) :=
 if ([] : List T_chain_Version).length + p_s.length ≤ AP then (
 some (([] : List T_chain_Version) ++ p_s)) else none
/- rolodex/chain.Grow -/
/- rolodex/rolodexlaw14.awake -/
/- rolodex/rolodexref14.Few -/
def rolodexref14_Few_L1 (p_l : List T_rolodexref14_Version) (y1 : Int) : Option (LR Int Bool) :=
 Option.bind (if (decide (y1 < (p_l.length : Int))) = true then (
 some (decide (y1 < (100 : Int)))) else (
 some false)) fun y2 =>
 if (y2) = true then (
 Option.bind (lget p_l y1) fun x1 =>
 if (decide ((200 : Int) < (x1.2.2.2.2.length : Int))) = true then (
 some (.ret false)) else (
 some (.next (w64 (y1 + (1 : Int)))))) else (
 some (.brk y1))
def rolodexref14_Few (p_l : List T_rolodexref14_Version) (p_n : Int) : Option Bool :=
 Option.bind (loopO (fun (s : Int) => rolodexref14_Few_L1 p_l s) FU (0 : Int)) fun o => match o with
 | .inl (s1 : Int) => (
 some (decide ((p_l.length : Int) ≤ p_n)))
 | .inr x => some x
/- rolodex/rolodexlaw14.From -/
def rolodexlaw14_From_L1 (p_l : List T_rolodexref14_Version) (y1 : Int) (y2 : List T_chain_Version) : Option (LR (Int × (List T_chain_Version)) Empty) :=
 if (decide (y1 < (p_l.length : Int))) = true then (
 Option.bind (lget p_l y1) fun x1 =>
 if y2.length + ([x1]).length ≤ AP then (
 some (.next (w64 (y1 + (1 : Int)), (y2 ++ ([x1]))))) else none) else (
 some (.brk (y1, y2)))
def rolodexlaw14_From (p_l : List T_rolodexref14_Version) : Option (List T_chain_Version) :=
 Option.bind (loopS (fun (s : Int × (List T_chain_Version)) => rolodexlaw14_From_L1 p_l s.1 s.2) FU ((0 : Int), ([] : List T_chain_Version))) fun (s1 : Int × (List T_chain_Version)) =>
 some s1.2
/- rolodex/rolodexref02.Start -/
def rolodexref02_Start : Option (Vector (BitVec 32) 8) :=
 Option.bind (some (#v[1779033703#32, 3144134277#32, 1013904242#32, 2773480762#32, 1359893119#32, 2600822924#32, 528734635#32, 1541459225#32])) fun x1 =>
 some x1
/- rolodex/rolodexref01.Number -/
def rolodexref01_Number_L1 (p_bytes : Int) (y1 : BitVec 64) (y2 : Int) (y3 : List (BitVec 8)) : Option (LR ((BitVec 64) × Int × (List (BitVec 8))) Empty) :=
 if (decide (y2 < p_bytes)) = true then (
 if y3.length + ([(y1 % (256#64)).setWidth 8]).length ≤ AP then (
 some (.next (y1 / (256#64), w64 (y2 + (1 : Int)), (y3 ++ ([(y1 % (256#64)).setWidth 8]))))) else none) else (
 some (.brk (y1, y2, y3)))
def rolodexref01_Number_L2 (y6 : List (BitVec 8)) (y7 : Int) (y8 : List (BitVec 8)) : Option (LR (Int × (List (BitVec 8))) Empty) :=
 if (decide ((0 : Int) ≤ y7)) = true then (
 Option.bind (lget y6 y7) fun x1 =>
 if y8.length + ([x1]).length ≤ AP then (
 some (.next (w64 (y7 - (1 : Int)), (y8 ++ ([x1]))))) else none) else (
 some (.brk (y7, y8)))
def rolodexref01_Number (p_x : BitVec 64) (p_bytes : Int) : Option (List (BitVec 8)) :=
 Option.bind (loopS (fun (s : (BitVec 64) × Int × (List (BitVec 8))) => rolodexref01_Number_L1 p_bytes s.1 s.2.1 s.2.2) FU (p_x, (0 : Int), ([] : List (BitVec 8)))) fun (s2 : (BitVec 64) × Int × (List (BitVec 8))) =>
 Option.bind (loopS (fun (s : Int × (List (BitVec 8))) => rolodexref01_Number_L2 s2.2.2 s.1 s.2) FU (w64 (p_bytes - (1 : Int)), ([] : List (BitVec 8)))) fun (s1 : Int × (List (BitVec 8))) =>
 some s1.2
/- rolodex/rolodexref02.Padded -/
def rolodexref02_Padded_L1 (y1 : List (BitVec 8)) : Option (LR (List (BitVec 8)) Empty) :=
 if (!decide ((Int.tmod (y1.length : Int) (64 : Int)) = (56 : Int))) = true then (
 if y1.length + ([0#8]).length ≤ AP then (
 some (.next (y1 ++ ([0#8])))) else none) else (
 some (.brk y1))
def rolodexref02_Padded (p_b : List (BitVec 8)) : Option (List (BitVec 8)) :=
 if ([] : List (BitVec 8)).length + p_b.length ≤ AP then (
 if (([] : List (BitVec 8)) ++ p_b).length + ([128#8]).length ≤ AP then (
 Option.bind (loopS (fun (s : (List (BitVec 8))) => rolodexref02_Padded_L1 s) FU ((([] : List (BitVec 8)) ++ p_b) ++ ([128#8]))) fun (s1 : (List (BitVec 8))) =>
 Option.bind (rolodexref01_Number ((8#64) * (BitVec.ofInt 64 (p_b.length : Int))) (8 : Int)) fun r1 =>
 if s1.length + r1.length ≤ AP then (
 some (s1 ++ r1)) else none) else none) else none
/- rolodex/rolodexref02.turned -/
def rolodexref02_turned (p_x : BitVec 32) (p_n : BitVec 32) : Option (BitVec 32) :=
 Option.bind (some ((p_x >>> p_n.toNat) ||| (p_x <<< (((32#32) - p_n).toNat)))) fun x1 =>
 some x1
/- rolodex/rolodexref01.Value -/
def rolodexref01_Value_L1 (p_b : List (BitVec 8)) (y1 : BitVec 64) (y2 : Int) : Option (LR ((BitVec 64) × Int) Empty) :=
 if (decide (y2 < (p_b.length : Int))) = true then (
 Option.bind (lget p_b y2) fun x1 =>
 some (.next ((y1 * (256#64)) + (x1.setWidth 64), w64 (y2 + (1 : Int))))) else (
 some (.brk (y1, y2)))
def rolodexref01_Value (p_b : List (BitVec 8)) : Option (BitVec 64) :=
 Option.bind (loopS (fun (s : (BitVec 64) × Int) => rolodexref01_Value_L1 p_b s.1 s.2) FU (0#64, (0 : Int))) fun (s1 : (BitVec 64) × Int) =>
 some s1.1
/- rolodex/rolodexref02.words -/
def rolodexref02_words_L1 (p_b : List (BitVec 8)) (y1 : Int) (y2 : Vector (BitVec 32) 64) : Option (LR (Int × (Vector (BitVec 32) 64)) Empty) :=
 if (decide (y1 < (16 : Int))) = true then (
 Option.bind (lslice p_b (w64 ((4 : Int) * y1)) (w64 ((w64 ((4 : Int) * y1)) + (4 : Int)))) fun x1 =>
 Option.bind (rolodexref01_Value x1) fun r1 =>
 if 0 ≤ y1 ∧ y1 < (64 : Int) then (
 Option.bind (some ((y2.setIfInBounds y1.toNat (r1.setWidth 32)))) fun x2 =>
 some (.next (w64 (y1 + (1 : Int)), x2))) else none) else (
 some (.brk (y1, y2)))
def rolodexref02_words_L2 (y5 : Int) (y6 : Vector (BitVec 32) 64) : Option (LR (Int × (Vector (BitVec 32) 64)) Empty) :=
 if (decide (y5 < (64 : Int))) = true then (
 Option.bind (vget y6 (w64 (y5 - (15 : Int)))) fun x3 =>
 Option.bind (vget y6 (w64 (y5 - (2 : Int)))) fun x4 =>
 Option.bind (vget y6 (w64 (y5 - (16 : Int)))) fun x5 =>
 Option.bind (rolodexref02_turned x3 (7#32)) fun r2 =>
 Option.bind (rolodexref02_turned x3 (18#32)) fun r3 =>
 Option.bind (vget y6 (w64 (y5 - (7 : Int)))) fun x6 =>
 Option.bind (rolodexref02_turned x4 (17#32)) fun r4 =>
 Option.bind (rolodexref02_turned x4 (19#32)) fun r5 =>
 if 0 ≤ y5 ∧ y5 < (64 : Int) then (
 Option.bind (some ((y6.setIfInBounds y5.toNat (((x5 + ((r2 ^^^ r3) ^^^ (x3 / (8#32)))) + x6) + ((r4 ^^^ r5) ^^^ (x4 / (1024#32))))))) fun x7 =>
 some (.next (w64 (y5 + (1 : Int)), x7))) else none) else (
 some (.brk (y5, y6)))
def rolodexref02_words (p_b : List (BitVec 8)) : Option (Vector (BitVec 32) 64) :=
 Option.bind (loopS (fun (s : Int × (Vector (BitVec 32) 64)) => rolodexref02_words_L1 p_b s.1 s.2) FU ((0 : Int), (Vector.replicate 64 (0#32)))) fun (s2 : Int × (Vector (BitVec 32) 64)) =>
 Option.bind (loopS (fun (s : Int × (Vector (BitVec 32) 64)) => rolodexref02_words_L2 s.1 s.2) FU ((16 : Int), s2.2)) fun (s1 : Int × (Vector (BitVec 32) 64)) =>
 some s1.2
/- rolodex/rolodexref02.K -/
def rolodexref02_K : Option (Vector (BitVec 32) 64) :=
 Option.bind (some (#v[1116352408#32, 1899447441#32, 3049323471#32, 3921009573#32, 961987163#32, 1508970993#32, 2453635748#32, 2870763221#32, 3624381080#32, 310598401#32, 607225278#32, 1426881987#32, 1925078388#32, 2162078206#32, 2614888103#32, 3248222580#32, 3835390401#32, 4022224774#32, 264347078#32, 604807628#32, 770255983#32, 1249150122#32, 1555081692#32, 1996064986#32, 2554220882#32, 2821834349#32, 2952996808#32, 3210313671#32, 3336571891#32, 3584528711#32, 113926993#32, 338241895#32, 666307205#32, 773529912#32, 1294757372#32, 1396182291#32, 1695183700#32, 1986661051#32, 2177026350#32, 2456956037#32, 2730485921#32, 2820302411#32, 3259730800#32, 3345764771#32, 3516065817#32, 3600352804#32, 4094571909#32, 275423344#32, 430227734#32, 506948616#32, 659060556#32, 883997877#32, 958139571#32, 1322822218#32, 1537002063#32, 1747873779#32, 1955562222#32, 2024104815#32, 2227730452#32, 2361852424#32, 2428436474#32, 2756734187#32, 3204031479#32, 3329325298#32])) fun x1 =>
 some x1
/- rolodex/rolodexref02.take -/
def rolodexref02_take_L1 (r2 : (Vector (BitVec 32) 64)) (r1 : (Vector (BitVec 32) 64)) (y1 : Int) (y2 : Vector (BitVec 32) 8) : Option (LR (Int × (Vector (BitVec 32) 8)) Empty) :=
 if (decide (y1 < (64 : Int))) = true then (
 Option.bind (some (((y2[4]) &&& (y2[5])) ||| (((4294967295#32) - (y2[4])) &&& (y2[6])))) fun x1 =>
 Option.bind (some ((((y2[0]) &&& (y2[1])) ||| ((y2[0]) &&& (y2[2]))) ||| ((y2[1]) &&& (y2[2])))) fun x2 =>
 Option.bind (rolodexref02_turned (y2[4]) (6#32)) fun r3 =>
 Option.bind (rolodexref02_turned (y2[4]) (11#32)) fun r4 =>
 Option.bind (rolodexref02_turned (y2[4]) (25#32)) fun r5 =>
 Option.bind (vget r2 y1) fun x3 =>
 Option.bind (vget r1 y1) fun x4 =>
 Option.bind (some (((((y2[7]) + ((r3 ^^^ r4) ^^^ r5)) + x1) + x3) + x4)) fun x5 =>
 Option.bind (rolodexref02_turned (y2[0]) (2#32)) fun r6 =>
 Option.bind (rolodexref02_turned (y2[0]) (13#32)) fun r7 =>
 Option.bind (rolodexref02_turned (y2[0]) (22#32)) fun r8 =>
 Option.bind (some (#v[x5 + (((r6 ^^^ r7) ^^^ r8) + x2), y2[0], y2[1], y2[2], (y2[3]) + x5, y2[4], y2[5], y2[6]])) fun x6 =>
 some (.next (w64 (y1 + (1 : Int)), x6))) else (
 some (.brk (y1, y2)))
def rolodexref02_take_L2 (y4 : Vector (BitVec 32) 8) (y5 : Int) (y6 : Vector (BitVec 32) 8) : Option (LR (Int × (Vector (BitVec 32) 8)) Empty) :=
 if (decide (y5 < (8 : Int))) = true then (
 Option.bind (vget y6 y5) fun x7 =>
 Option.bind (vget y4 y5) fun x8 =>
 if 0 ≤ y5 ∧ y5 < (8 : Int) then (
 some (.next (w64 (y5 + (1 : Int)), (y6.setIfInBounds y5.toNat (x7 + x8))))) else none) else (
 some (.brk (y5, y6)))
def rolodexref02_take (p_h : Vector (BitVec 32) 8) (p_block : List (BitVec 8)) : Option (Vector (BitVec 32) 8) :=
 Option.bind (rolodexref02_words p_block) fun r1 =>
 Option.bind (rolodexref02_K) fun r2 =>
 Option.bind (loopS (fun (s : Int × (Vector (BitVec 32) 8)) => rolodexref02_take_L1 r2 r1 s.1 s.2) FU ((0 : Int), p_h)) fun (s2 : Int × (Vector (BitVec 32) 8)) =>
 Option.bind (loopS (fun (s : Int × (Vector (BitVec 32) 8)) => rolodexref02_take_L2 s2.2 s.1 s.2) FU ((0 : Int), p_h)) fun (s1 : Int × (Vector (BitVec 32) 8)) =>
 some s1.2
/- rolodex/rolodexref02.Sum -/
def rolodexref02_Sum_L1 (r2 : (List (BitVec 8))) (y1 : Int) (y2 : Vector (BitVec 32) 8) : Option (LR (Int × (Vector (BitVec 32) 8)) Empty) :=
 if (decide (y1 < (r2.length : Int))) = true then (
 Option.bind (lslice r2 y1 (w64 (y1 + (64 : Int)))) fun x1 =>
 Option.bind (rolodexref02_take y2 x1) fun r3 =>
 some (.next (w64 (y1 + (64 : Int)), r3))) else (
 some (.brk (y1, y2)))
def rolodexref02_Sum_L2 (y4 : Vector (BitVec 32) 8) (y5 : Int) (y6 : T_api_Hash) : Option (LR (Int × T_api_Hash) Empty) :=
 if (decide (y5 < (32 : Int))) = true then (
 Option.bind (vget y4 (w64 (Int.tdiv y5 (4 : Int)))) fun x2 =>
 if 0 ≤ y5 ∧ y5 < (32 : Int) then (
 Option.bind (some ((y6.setIfInBounds y5.toNat ((x2 >>> (((24#32) - ((8#32) * (BitVec.ofInt 32 (Int.tmod y5 (4 : Int))))).toNat)).setWidth 8)))) fun x3 =>
 some (.next (w64 (y5 + (1 : Int)), x3))) else none) else (
 some (.brk (y5, y6)))
def rolodexref02_Sum (p_b : List (BitVec 8)) : Option T_api_Hash :=
 Option.bind (rolodexref02_Start) fun r1 =>
 Option.bind (rolodexref02_Padded p_b) fun r2 =>
 Option.bind (loopS (fun (s : Int × (Vector (BitVec 32) 8)) => rolodexref02_Sum_L1 r2 s.1 s.2) FU ((0 : Int), r1)) fun (s2 : Int × (Vector (BitVec 32) 8)) =>
 Option.bind (loopS (fun (s : Int × T_api_Hash) => rolodexref02_Sum_L2 s2.2 s.1 s.2) FU ((0 : Int), (Vector.replicate 32 (0#8)))) fun (s1 : Int × T_api_Hash) =>
 some s1.2
/- rolodex/rolodexref02.Text -/
def rolodexref02_Text_L1 (p_parts : List (List (BitVec 8))) (y1 : Int) (y2 : List (BitVec 8)) : Option (LR (Int × (List (BitVec 8))) Empty) :=
 if (decide (y1 < (p_parts.length : Int))) = true then (
 Option.bind (lget p_parts y1) fun x1 =>
 Option.bind (rolodexref01_Number (BitVec.ofInt 64 (x1.length : Int)) (4 : Int)) fun r1 =>
 if y2.length + r1.length ≤ AP then (
 Option.bind (lget p_parts y1) fun x2 =>
 if (y2 ++ r1).length + x2.length ≤ AP then (
 some (.next (w64 (y1 + (1 : Int)), ((y2 ++ r1) ++ x2)))) else none) else none) else (
 some (.brk (y1, y2)))
def rolodexref02_Text (p_tag : BitVec 8) (p_parts : List (List (BitVec 8))) : Option (List (BitVec 8)) :=
 Option.bind (loopS (fun (s : Int × (List (BitVec 8))) => rolodexref02_Text_L1 p_parts s.1 s.2) FU ((0 : Int), [p_tag])) fun (s1 : Int × (List (BitVec 8))) =>
 some s1.2
/- rolodex/rolodexref02.Tagged -/
/- rolodex/rolodexref14.four -/
def rolodexref14_four (p_n : Int) : Option (List (BitVec 8)) :=
 Option.bind (rolodexref01_Number ((BitVec.ofInt 64 p_n) % (4294967296#64)) (4 : Int)) fun r1 =>
 some r1
/- rolodex/rolodexref14.Salt -/
/- rolodex/rolodexref14.Text -/
def rolodexref14_Text (p_label : List (BitVec 8)) (p_v : T_rolodexref14_Version) : Option (List (BitVec 8)) :=
 Option.bind (rolodexref14_four p_v.1) fun r1 =>
 Option.bind (rolodexref14_four p_v.2.1) fun r2 =>
 Option.bind (rolodexref02_Text (99#8) ([p_label, r1, r2, p_v.2.2.1.toList, p_v.2.2.2.1.toList, p_v.2.2.2.2])) fun r3 =>
 some r3
/- rolodex/rolodexref14.Commit -/
def rolodexref14_Commit (p_label : List (BitVec 8)) (p_v : T_rolodexref14_Version) : Option T_api_Hash :=
 Option.bind (rolodexref14_Text p_label p_v) fun r1 =>
 Option.bind (rolodexref02_Sum r1) fun r2 =>
 some r2
/- rolodex/rolodexref14.Formed -/
def rolodexref14_Formed_L1 (p_l : List T_rolodexref14_Version) (p_label : List (BitVec 8)) (y3 : Int) : Option (LR Int Bool) :=
 if (decide (y3 < (p_l.length : Int))) = true then (
 Option.bind (lget p_l y3) fun x1 =>
 Option.bind (if (!decide (x1.1 = (w64 (y3 + (1 : Int))))) = true then (
 some true) else (
 some (decide (x1.2.1 < (1 : Int))))) fun y4 =>
 Option.bind (if (y4) = true then (
 some true) else (
 some (decide ((2147483647 : Int) < x1.2.1)))) fun y5 =>
 Option.bind (if (y5) = true then (
 some true) else (
 some (decide ((64 : Int) < (x1.2.2.2.2.length : Int))))) fun y6 =>
 if (y6) = true then (
 some (.ret false)) else (
 Option.bind (if (decide (y3 = (0 : Int))) = true then (
 some (!decide (x1.2.2.2.1 = (Vector.replicate 32 (0#8))))) else (
 some false)) fun y7 =>
 if (y7) = true then (
 some (.ret false)) else (
 Option.bind (if (decide ((0 : Int) < y3)) = true then (
 Option.bind (lget p_l (w64 (y3 - (1 : Int)))) fun x2 =>
 Option.bind (if (decide (x1.2.1 ≤ x2.2.1)) = true then (
 some true) else (
 Option.bind (lget p_l (w64 (y3 - (1 : Int)))) fun x3 =>
 Option.bind (rolodexref14_Commit p_label x3) fun r1 =>
 some (!decide (x1.2.2.2.1 = r1)))) fun y9 =>
 some y9) else (
 some false)) fun y8 =>
 if (y8) = true then (
 some (.ret false)) else (
 some (.next (w64 (y3 + (1 : Int)))))))) else (
 some (.brk y3))
def rolodexref14_Formed (p_label : List (BitVec 8)) (p_l : List T_rolodexref14_Version) : Option Bool :=
 Option.bind (if (decide ((p_label.length : Int) = (0 : Int))) = true then (
 some true) else (
 some (decide ((32 : Int) < (p_label.length : Int))))) fun y1 =>
 Option.bind (if (y1) = true then (
 some true) else (
 some (decide ((p_l.length : Int) = (0 : Int))))) fun y2 =>
 if (y2) = true then (
 some false) else (
 Option.bind (loopO (fun (s : Int) => rolodexref14_Formed_L1 p_l p_label s) FU (0 : Int)) fun o => match o with
 | .inl (s1 : Int) => (
 some true)
 | .inr x => some x)
/- rolodex/rolodexref14.Grow -/
/- rolodex/rolodexref01.Same -/
def rolodexref01_Same_L1 (p_a : List (BitVec 8)) (p_b : List (BitVec 8)) (y1 : Int) : Option (LR Int Bool) :=
 if (decide (y1 < (p_a.length : Int))) = true then (
 Option.bind (lget p_a y1) fun x1 =>
 Option.bind (lget p_b y1) fun x2 =>
 if (!decide (x1 = x2)) = true then (
 some (.ret false)) else (
 some (.next (w64 (y1 + (1 : Int)))))) else (
 some (.brk y1))
def rolodexref01_Same (p_a : List (BitVec 8)) (p_b : List (BitVec 8)) : Option Bool :=
 if (!decide ((p_a.length : Int) = (p_b.length : Int))) = true then (
 some false) else (
 Option.bind (loopO (fun (s : Int) => rolodexref01_Same_L1 p_a p_b s) FU (0 : Int)) fun o => match o with
 | .inl (s1 : Int) => (
 some true)
 | .inr x => some x)
/- rolodex/rolodexref14.One -/
def rolodexref14_One (p_a : T_rolodexref14_Version) (p_b : T_rolodexref14_Version) : Option Bool :=
 Option.bind (if (decide (p_a.1 = p_b.1)) = true then (
 some (decide (p_a.2.1 = p_b.2.1))) else (
 some false)) fun y1 =>
 Option.bind (if (y1) = true then (
 some (decide (p_a.2.2.1 = p_b.2.2.1))) else (
 some false)) fun y2 =>
 Option.bind (if (y2) = true then (
 some (decide (p_a.2.2.2.1 = p_b.2.2.2.1))) else (
 some false)) fun y3 =>
 Option.bind (if (y3) = true then (
 Option.bind (rolodexref01_Same p_a.2.2.2.2 p_b.2.2.2.2) fun r1 =>
 some r1) else (
 some false)) fun y4 =>
 some y4
/- rolodex/rolodexref14.Same -/
def rolodexref14_Same_L1 (p_a : List T_rolodexref14_Version) (p_b : List T_rolodexref14_Version) (y1 : Int) : Option (LR Int Bool) :=
 if (decide (y1 < (p_a.length : Int))) = true then (
 Option.bind (lget p_a y1) fun x1 =>
 Option.bind (lget p_b y1) fun x2 =>
 Option.bind (rolodexref14_One x1 x2) fun r1 =>
 if (!r1) = true then (
 some (.ret false)) else (
 some (.next (w64 (y1 + (1 : Int)))))) else (
 some (.brk y1))
def rolodexref14_Same (p_a : List T_rolodexref14_Version) (p_b : List T_rolodexref14_Version) : Option Bool :=
 if (!decide ((p_a.length : Int) = (p_b.length : Int))) = true then (
 some false) else (
 Option.bind (loopO (fun (s : Int) => rolodexref14_Same_L1 p_a p_b s) FU (0 : Int)) fun o => match o with
 | .inl (s1 : Int) => (
 some true)
 | .inr x => some x)
/- rolodex/rolodexlaw14.To -/
def rolodexlaw14_To_L1 (p_l : List T_chain_Version) (y1 : Int) (y2 : List T_rolodexref14_Version) : Option (LR (Int × (List T_rolodexref14_Version)) Empty) :=
 if (decide (y1 < (p_l.length : Int))) = true then (
 Option.bind (lget p_l y1) fun x1 =>
 if y2.length + ([x1]).length ≤ AP then (
 some (.next (w64 (y1 + (1 : Int)), (y2 ++ ([x1]))))) else none) else (
 some (.brk (y1, y2)))
def rolodexlaw14_To (p_l : List T_chain_Version) : Option (List T_rolodexref14_Version) :=
 Option.bind (loopS (fun (s : Int × (List T_rolodexref14_Version)) => rolodexlaw14_To_L1 p_l s.1 s.2) FU ((0 : Int), ([] : List T_rolodexref14_Version))) fun (s1 : Int × (List T_rolodexref14_Version)) =>
 some s1.2
/- rolodex/rolodexlaw14.ChainGrows -/
/- rolodex/chain.Key -/
/- rolodex/rolodexref14.Key -/
/- rolodex/rolodexlaw14.ChainHashes -/
/- rolodex/chain.Check -/
/- rolodex/rolodexref12.Clash -/
/- rolodex/rolodexref14.Texts -/
/- rolodex/rolodexlaw14.ChainSound -/
/- rolodex/rolodexref14.Check -/
/- rolodex/chain.Upto -/
def chain_Upto_L1 (p_chain : List T_chain_Version) (p_epoch : Int) (y1 : Int) : Option (LR Int Empty) :=
 Option.bind (if (decide (y1 < (p_chain.length : Int))) = true then (
 Option.bind (lget p_chain y1) fun x1 =>
 some (decide (x1.2.1 ≤ p_epoch))) else (
 some false)) fun y2 =>
 if (y2) = true then (
 some (.next (w64 (y1 + (1 : Int))))) else (
 some (.brk y1))
def chain_Upto (p_chain : List T_chain_Version) (p_epoch : Int) : Option (List T_chain_Version) :=
 Option.bind (loopS (fun (s : Int) => chain_Upto_L1 p_chain p_epoch s) FU (0 : Int)) fun (s1 : Int) =>
 Option.bind (lslice p_chain 0 s1) fun x2 =>
 Option.bind (slices_Clone_chain_Version_chain_Version x2) fun r1 =>
 some r1
/- rolodex/rolodexref14.Upto -/
/- rolodex/rolodexlaw14.ChainForms -/
/- rolodex/rolodexlaw14.ChainBuilds -/
/- rolodex/monitor.New -/
def monitor_New (p_label : List (BitVec 8)) : Option ((List (BitVec 8)) × Int × (List T_chain_Version)) :=
 Option.bind (slices_Clone_byte_byte p_label) fun r1 =>
 Option.bind (some ((r1, 0, ([] : List T_chain_Version)))) fun x1 =>
 some x1
/- bytes.Equal -/
def bytes_Equal (p_a : List (BitVec 8)) (p_b : List (BitVec 8)) : Option Bool :=
 some (decide (p_a = p_b))
/- (*rolodex/monitor.Monitor).formed -/
def monitor_Monitor_formed (p_w : (List (BitVec 8)) × Int × (List T_chain_Version)) (p_f : T_session_Found) : Option Bool :=
 Option.bind (if (decide ((p_f.2.2.2.length : Int) = (0 : Int))) = true then (
 some true) else (
 Option.bind (chain_Formed p_w.1 p_f.2.2.2) fun r1 =>
 Option.bind (if (r1) = true then (
 Option.bind (lget p_f.2.2.2 (w64 ((p_f.2.2.2.length : Int) - (1 : Int)))) fun x1 =>
 some (decide (x1.2.1 ≤ p_f.2.1))) else (
 some false)) fun y2 =>
 some y2)) fun y1 =>
 some y1
/- rolodex/monitor.same -/
def monitor_same (p_a : T_chain_Version) (p_b : T_chain_Version) : Option Bool :=
 Option.bind (if (decide (p_a.1 = p_b.1)) = true then (
 some (decide (p_a.2.1 = p_b.2.1))) else (
 some false)) fun y1 =>
 Option.bind (if (y1) = true then (
 some (decide (p_a.2.2.1 = p_b.2.2.1))) else (
 some false)) fun y2 =>
 Option.bind (if (y2) = true then (
 some (decide (p_a.2.2.2.1 = p_b.2.2.2.1))) else (
 some false)) fun y3 =>
 Option.bind (if (y3) = true then (
 Option.bind (bytes_Equal p_a.2.2.2.2 p_b.2.2.2.2) fun r1 =>
 some r1) else (
 some false)) fun y4 =>
 some y4
/- rolodex/monitor.copied -/
def monitor_copied_L1 (p_l : List T_chain_Version) (y1 : Int) (y2 : List T_chain_Version) : Option (LR (Int × (List T_chain_Version)) Empty) :=
 if (decide (y1 < (p_l.length : Int))) = true then (
 Option.bind (lget p_l y1) fun x1 =>
 Option.bind (slices_Clone_byte_byte x1.2.2.2.2) fun r1 =>
 if y2.length + ([(x1.1, x1.2.1, x1.2.2.1, x1.2.2.2.1, r1)]).length ≤ AP then (
 some (.next (w64 (y1 + (1 : Int)), (y2 ++ ([(x1.1, x1.2.1, x1.2.2.1, x1.2.2.2.1, r1)]))))) else none) else (
 some (.brk (y1, y2)))
def monitor_copied (p_l : List T_chain_Version) : Option (List T_chain_Version) :=
 Option.bind (loopS (fun (s : Int × (List T_chain_Version)) => monitor_copied_L1 p_l s.1 s.2) FU ((0 : Int), ([] : List T_chain_Version))) fun (s1 : Int × (List T_chain_Version)) =>
 some s1.2
/- slices.EqualFunc[[]rolodex/chain.Version,[]rolodex/chain.Version,rolodex/chain.Version,rolodex/chain.Version]__rolodex/monitor.same -/
def slices_EqualFunc_chain_Version_chain_Version_chain_Version_chain_Version_monitor_same_L1 (p_s1 : List T_chain_Version) (p_s2 : List T_chain_Version) (y1 : Int) : Option (LR Int Bool) :=
 if (decide (y1 < (p_s1.length : Int))) = true then (
 Option.bind (lget p_s1 y1) fun x1 =>
 Option.bind (lget p_s2 y1) fun x2 =>
 Option.bind (monitor_same x1 x2) fun r1 =>
 if (!r1) = true then (
 some (.ret false)) else (
 some (.next (w64 (y1 + (1 : Int)))))) else (
 some (.brk y1))
def slices_EqualFunc_chain_Version_chain_Version_chain_Version_chain_Version_monitor_same (p_s1 : List T_chain_Version) (p_s2 : List T_chain_Version) : Option Bool :=
 if (!decide ((p_s1.length : Int) = (p_s2.length : Int))) = true then (
 some false) else (
 Option.bind (loopO (fun (s : Int) => slices_EqualFunc_chain_Version_chain_Version_chain_Version_chain_Version_monitor_same_L1 p_s1 p_s2 s) FU (0 : Int)) fun o => match o with
 | .inl (s1 : Int) => (
 some true)
 | .inr x => some x)
/- (*rolodex/monitor.Monitor).Look -/
def monitor_Monitor_Look (p_w : (List (BitVec 8)) × Int × (List T_chain_Version)) (p_f : T_session_Found) : Option (((List (BitVec 8)) × Int × (List T_chain_Version)) × (List T_chain_Version) × Int) :=
 Option.bind (bytes_Equal p_f.1 p_w.1) fun r1 =>
 Option.bind (if (!r1) = true then (
 some (!r1)) else (
 some (decide (p_f.2.1 < (1 : Int))))) fun y1 =>
 if (y1) = true then (
 some ((p_w.1, p_w.2.1, p_w.2.2), ([] : List T_chain_Version), (1 : Int))) else (
 Option.bind (monitor_Monitor_formed (p_w.1, p_w.2.1, p_w.2.2) p_f) fun r2 =>
 if (!r2) = true then (
 some ((p_w.1, p_w.2.1, p_w.2.2), ([] : List T_chain_Version), (2 : Int))) else (
 if (decide (p_f.2.1 < p_w.2.1)) = true then (
 some ((p_w.1, p_w.2.1, p_w.2.2), ([] : List T_chain_Version), (11 : Int))) else (
 Option.bind (chain_Upto p_f.2.2.2 p_w.2.1) fun r3 =>
 Option.bind (slices_EqualFunc_chain_Version_chain_Version_chain_Version_chain_Version_monitor_same r3 p_w.2.2) fun r4 =>
 if (!r4) = true then (
 some ((p_w.1, p_w.2.1, p_w.2.2), ([] : List T_chain_Version), (9 : Int))) else (
 Option.bind (monitor_copied p_f.2.2.2) fun r5 =>
 Option.bind (lslice p_f.2.2.2 (r3.length : Int) (p_f.2.2.2.length : Int)) fun x1 =>
 Option.bind (monitor_copied x1) fun r6 =>
 some ((p_w.1, p_f.2.1, r5), r6, (0 : Int))))))
/- (*rolodex/monitor.Monitor).Epoch -/
def monitor_Monitor_Epoch (p_w : (List (BitVec 8)) × Int × (List T_chain_Version)) : Option Int :=
 some p_w.2.1
/- rolodex/rolodexlaw23.awake -/
def rolodexlaw23_awake : Option Bool :=
 Option.bind (monitor_New ([97#8])) fun r1 =>
 Option.bind (some (([97#8], (3 : Int), (0, 0, (Vector.replicate 32 (0#8)), (Vector.replicate 32 (0#8))), ([] : List T_chain_Version)))) fun x1 =>
 Option.bind (monitor_Monitor_Look (r1.1, r1.2.1, r1.2.2) x1) fun r2 =>
 Option.bind (if (decide (r2.2.2 = (0 : Int))) = true then (
 Option.bind (monitor_Monitor_Epoch (r2.1.1, r2.1.2.1, r2.1.2.2)) fun r3 =>
 some (decide (r3 = (3 : Int)))) else (
 some false)) fun y1 =>
 some y1
/- rolodex/rolodexlaw23.MonitorCut -/
/- rolodex/rolodexref23.Few -/
/- rolodex/rolodexlaw23.from -/
/- (*rolodex/rolodexref23.Monitor).Look -/
/- (*rolodex/monitor.Monitor).Seen -/
def monitor_Monitor_Seen (p_w : (List (BitVec 8)) × Int × (List T_chain_Version)) : Option (List T_chain_Version) :=
 Option.bind (monitor_copied p_w.2.2) fun r1 =>
 some r1
/- rolodex/rolodexlaw23.MonitorLooks -/
/- rolodex/rolodexlaw23.MonitorAll -/
/- (*rolodex/monitor.Monitor).Look__nil -/
def monitor_Monitor_Look_nil (p_f : T_session_Found) : Option ((List T_chain_Version) × Int) :=
 some (([] : List T_chain_Version), (1 : Int))
/- (*rolodex/monitor.Monitor).Epoch__nil -/
def monitor_Monitor_Epoch_nil : Option Int :=
 some (0 : Int)
/- (*rolodex/monitor.Monitor).Seen__nil -/
def monitor_Monitor_Seen_nil : Option (List T_chain_Version) :=
 some ([] : List T_chain_Version)
/- rolodex/rolodexlaw23.MonitorOwn -/
def rolodexlaw23_MonitorOwn_L1 (y7 : Int) (y8 : List T_chain_Version) (y9 : List T_chain_Version) : Option (LR (Int × (List T_chain_Version) × (List T_chain_Version)) Empty) :=
 if (decide (y7 < (y9.length : Int))) = true then (
 Option.bind (lget y9 y7) fun x3 =>
 Option.bind (some ((x3.1, (0 : Int), x3.2.2.1, x3.2.2.2.1, x3.2.2.2.2))) fun x4 =>
 Option.bind (lget y8 y7) fun x5 =>
 Option.bind (lget y8 y7) fun x6 =>
 Option.bind (some ((x6.1, x6.2.1, (x6.2.2.1.set 0 ((x5.2.2.1[0]) + (1#8))), x6.2.2.2.1, x6.2.2.2.2))) fun x7 =>
 some (.next (w64 (y7 + (1 : Int)), (y8.set y7.toNat x7), (y9.set y7.toNat x4)))) else (
 some (.brk (y7, y8, y9)))
def rolodexlaw23_MonitorOwn_L2 (y13 : Int) (y14 : List T_chain_Version) : Option (LR (Int × (List T_chain_Version)) Empty) :=
 if (decide (y13 < (y14.length : Int))) = true then (
 Option.bind (lget y14 y13) fun x8 =>
 Option.bind (some (((0 : Int), x8.2.1, x8.2.2.1, x8.2.2.2.1, x8.2.2.2.2))) fun x9 =>
 some (.next (w64 (y13 + (1 : Int)), (y14.set y13.toNat x9)))) else (
 some (.brk (y13, y14)))
def rolodexlaw23_MonitorOwn (p_label : List (BitVec 8)) (p_c : List T_rolodexref14_Version) : Option Bool :=
 Option.bind (some ((p_label, (1 : Int), (0, 0, (Vector.replicate 32 (0#8)), (Vector.replicate 32 (0#8))), ([] : List T_chain_Version)))) fun x1 =>
 Option.bind (monitor_Monitor_Look_nil x1) fun r1 =>
 Option.bind (rolodexlaw23_awake) fun r2 =>
 Option.bind (if (!r2) = true then (
 some true) else (
 some (decide ((100 : Int) < (p_label.length : Int))))) fun y1 =>
 Option.bind (if (y1) = true then (
 some true) else (
 Option.bind (rolodexref14_Few p_c (15 : Int)) fun r3 =>
 some (!r3))) fun y2 =>
 Option.bind (if (y2) = true then (
 some true) else (
 Option.bind (rolodexref14_Formed p_label p_c) fun r4 =>
 some (!r4))) fun y3 =>
 if (y3) = true then (
 Option.bind (rolodexlaw23_awake) fun r5 =>
 Option.bind (if (r5) = true then (
 some (decide (r1.2 = (1 : Int)))) else (
 some false)) fun y4 =>
 Option.bind (if (y4) = true then (
 Option.bind (monitor_Monitor_Epoch_nil) fun r6 =>
 some (decide (r6 = (0 : Int)))) else (
 some false)) fun y5 =>
 Option.bind (if (y5) = true then (
 Option.bind (monitor_Monitor_Seen_nil) fun r7 =>
 some (decide ((r7.length : Int) = (0 : Int)))) else (
 some false)) fun y6 =>
 some y6) else (
 Option.bind (monitor_New p_label) fun r8 =>
 Option.bind (rolodexlaw14_From p_c) fun r9 =>
 Option.bind (some ((p_label, (2147483647 : Int), (0, 0, (Vector.replicate 32 (0#8)), (Vector.replicate 32 (0#8))), r9))) fun x2 =>
 Option.bind (monitor_Monitor_Look (r8.1, r8.2.1, r8.2.2) x2) fun r10 =>
 Option.bind (loopS (fun (s : Int × (List T_chain_Version) × (List T_chain_Version)) => rolodexlaw23_MonitorOwn_L1 s.1 s.2.1 s.2.2) FU ((0 : Int), r9, r10.2.1)) fun (s2 : Int × (List T_chain_Version) × (List T_chain_Version)) =>
 Option.bind (monitor_Monitor_Seen (r10.1.1, r10.1.2.1, r10.1.2.2)) fun r11 =>
 Option.bind (loopS (fun (s : Int × (List T_chain_Version)) => rolodexlaw23_MonitorOwn_L2 s.1 s.2) FU ((0 : Int), r11)) fun (s1 : Int × (List T_chain_Version)) =>
 Option.bind (if (decide (r10.2.2 = (0 : Int))) = true then (
 some (decide ((s2.2.2.length : Int) = (p_c.length : Int)))) else (
 some false)) fun y17 =>
 Option.bind (if (y17) = true then (
 Option.bind (monitor_Monitor_Seen (r10.1.1, r10.1.2.1, r10.1.2.2)) fun r12 =>
 Option.bind (rolodexlaw14_To r12) fun r13 =>
 Option.bind (rolodexref14_Same r13 p_c) fun r14 =>
 some r14) else (
 some false)) fun y18 =>
 some y18)
/- rolodex/monitor.History -/
/- rolodex/rolodexref23.History -/
/- rolodex/rolodexlaw23.MonitorHistory -/
end M
end Go.Sl
