import Derived.Test.YtheldkljmefbaaaBase
set_option linter.unusedVariables false
set_option maxRecDepth 100000
namespace Go.Sl
namespace M
abbrev T_api_Hash : Type := Vector (BitVec 8) 32
abbrev T_head_Head : Type := Int × Int × T_api_Hash × T_api_Hash
abbrev T_wire_Reader : Type := (List (BitVec 8)) × Bool
abbrev T_rolodexref17_Head : Type := Int × Int × T_api_Hash × T_api_Hash
abbrev T_head_Signed : Type := T_head_Head × (List (BitVec 8))
abbrev T_rolodexref17_Signed : Type := T_rolodexref17_Head × (List (BitVec 8))

/- slices.Clone[[]byte,byte] -/
def slices_Clone_byte_byte (p_s : List (BitVec 8)) : Option (List (BitVec 8)) :=
 if ([] : List (BitVec 8)).length + p_s.length ≤ AP then (
 some (([] : List (BitVec 8)) ++ p_s)) else none
/- (*rolodex/wire.Writer).Out -/
def wire_Writer_Out (p_w : (List (BitVec 8)) × Bool) : Option (((List (BitVec 8)) × Bool) × (List (BitVec 8)) × Int) :=
 if (p_w.2) = true then (
 some ((p_w.1, p_w.2), ([] : List (BitVec 8)), (4 : Int))) else (
 Option.bind (slices_Clone_byte_byte p_w.1) fun r1 =>
 some ((p_w.1, p_w.2), r1, (0 : Int)))
/- (rolodex/head.Head).is -/
def head_Head_is (p_h : T_head_Head) : Option Bool :=
 Option.bind (if (decide ((1 : Int) ≤ p_h.1)) = true then (
 some (decide (p_h.1 < (2147483648 : Int)))) else (
 some false)) fun y1 =>
 Option.bind (if (y1) = true then (
 some (decide ((1 : Int) ≤ p_h.2.1))) else (
 some false)) fun y2 =>
 Option.bind (if (y2) = true then (
 some (decide (p_h.2.1 < (2147483648 : Int)))) else (
 some false)) fun y3 =>
 some y3
/- (*rolodex/wire.Writer).number -/
def wire_Writer_number_L1 (p_x : BitVec 64) (y2 : Int) (y3 : List (BitVec 8)) : Option (LR (Int × (List (BitVec 8))) Empty) :=
 if (decide ((0 : Int) ≤ y2)) = true then (
 if 0 ≤ w64 ((8 : Int) * y2) then (
 if y3.length + ([(p_x >>> ((w64 ((8 : Int) * y2)).toNat)).setWidth 8]).length ≤ AP then (
 some (.next (w64 (y2 - (1 : Int)), (y3 ++ ([(p_x >>> ((w64 ((8 : Int) * y2)).toNat)).setWidth 8]))))) else none) else none) else (
 some (.brk (y2, y3)))
def wire_Writer_number (p_w : (List (BitVec 8)) × Bool) (p_x : BitVec 64) (p_bytes : Int) : Option ((List (BitVec 8)) × Bool) :=
 Option.bind (some p_w.2) fun y1 =>
 if (y1) = true then (
 some (p_w.1, p_w.2)) else (
 Option.bind (loopS (fun (s : Int × (List (BitVec 8))) => wire_Writer_number_L1 p_x s.1 s.2) FU (w64 (p_bytes - (1 : Int)), p_w.1)) fun (s1 : Int × (List (BitVec 8))) =>
 some (s1.2, p_w.2))
/- (*rolodex/wire.Writer).U32 -/
def wire_Writer_U32 (p_w : (List (BitVec 8)) × Bool) (p_x : BitVec 32) : Option ((List (BitVec 8)) × Bool) :=
 Option.bind (wire_Writer_number (p_w.1, p_w.2) (p_x.setWidth 64) (4 : Int)) fun r1 =>
 some (r1.1, r1.2)
/- (*rolodex/wire.Writer).Plain -/
def wire_Writer_Plain (p_w : (List (BitVec 8)) × Bool) (p_b : List (BitVec 8)) : Option ((List (BitVec 8)) × Bool) :=
 Option.bind (some (!p_w.2)) fun y1 =>
 if (y1) = true then (
 if p_w.1.length + p_b.length ≤ AP then (
 some ((p_w.1 ++ p_b), p_w.2)) else none) else (
 some (p_w.1, p_w.2))
/- rolodex/head.Encode -/
def head_Encode (p_h : T_head_Head) : Option ((List (BitVec 8)) × Int) :=
 Option.bind (head_Head_is p_h) fun r1 =>
 if (!r1) = true then (
 some (([] : List (BitVec 8)), (1 : Int))) else (
 Option.bind (wire_Writer_U32 (([] : List (BitVec 8)), false) (BitVec.ofInt 32 p_h.1)) fun r2 =>
 Option.bind (wire_Writer_U32 (r2.1, r2.2) (BitVec.ofInt 32 p_h.2.1)) fun r3 =>
 Option.bind (wire_Writer_Plain (r3.1, r3.2) p_h.2.2.1.toList) fun r4 =>
 Option.bind (wire_Writer_Plain (r4.1, r4.2) p_h.2.2.2.toList) fun r5 =>
 Option.bind (wire_Writer_Out (r5.1, r5.2)) fun r6 =>
 some (r6.2.1, r6.2.2))
/- rolodex/rolodexlaw17.awake -/
def rolodexlaw17_awake : Option Bool :=
 Option.bind (some (((1 : Int), (1 : Int), (Vector.replicate 32 (0#8)), (Vector.replicate 32 (0#8))))) fun x1 =>
 Option.bind (head_Encode x1) fun r1 =>
 Option.bind (if (decide (r1.2 = (0 : Int))) = true then (
 some (decide ((r1.1.length : Int) = (72 : Int)))) else (
 some false)) fun y1 =>
 some y1
/- rolodex/wire.New -/
def wire_New (p_b : List (BitVec 8)) : Option ((List (BitVec 8)) × Bool) :=
 Option.bind (slices_Clone_byte_byte p_b) fun r1 =>
 Option.bind (some ((r1, false))) fun x1 =>
 some x1
/- (*rolodex/wire.Reader).takes -/
def wire_Reader_takes (p_r : (List (BitVec 8)) × Bool) (p_n : Int) : Option (((List (BitVec 8)) × Bool) × (List (BitVec 8))) :=
 Option.bind (some p_r.2) fun y1 =>
 if (y1) = true then (
 some ((p_r.1, p_r.2), ([] : List (BitVec 8)))) else (
 Option.bind (if (decide (p_n < (0 : Int))) = true then (
 some true) else (
 some (decide ((p_r.1.length : Int) < p_n)))) fun y2 =>
 if (y2) = true then (
 some ((p_r.1, true), ([] : List (BitVec 8)))) else (
 Option.bind (lslice p_r.1 0 p_n) fun x1 =>
 Option.bind (lslice p_r.1 p_n (p_r.1.length : Int)) fun x2 =>
 some ((x2, p_r.2), x1)))
/- (*rolodex/wire.Reader).peek -/
def wire_Reader_peek_L1 (x1 : List (BitVec 8)) (y3 : BitVec 64) (y4 : Int) : Option (LR ((BitVec 64) × Int) Empty) :=
 if (decide (y4 < (x1.length : Int))) = true then (
 Option.bind (lget x1 y4) fun x2 =>
 some (.next ((y3 <<< 8) ||| (x2.setWidth 64), w64 (y4 + (1 : Int))))) else (
 some (.brk (y3, y4)))
def wire_Reader_peek (p_r : (List (BitVec 8)) × Bool) (p_bytes : Int) : Option ((BitVec 64) × Bool) :=
 Option.bind (some p_r.2) fun y1 =>
 Option.bind (if (y1) = true then (
 some true) else (
 some (decide ((p_r.1.length : Int) < p_bytes)))) fun y2 =>
 if (y2) = true then (
 some (0#64, false)) else (
 Option.bind (lslice p_r.1 0 p_bytes) fun x1 =>
 Option.bind (loopS (fun (s : (BitVec 64) × Int) => wire_Reader_peek_L1 x1 s.1 s.2) FU (0#64, (0 : Int))) fun (s1 : (BitVec 64) × Int) =>
 some (s1.1, true))
/- (*rolodex/wire.Reader).number -/
def wire_Reader_number (p_r : (List (BitVec 8)) × Bool) (p_bytes : Int) : Option (((List (BitVec 8)) × Bool) × (BitVec 64)) :=
 Option.bind (wire_Reader_peek (p_r.1, p_r.2) p_bytes) fun r1 =>
 Option.bind (wire_Reader_takes (p_r.1, p_r.2) p_bytes) fun r2 =>
 if (!r1.2) = true then (
 some ((r2.1.1, r2.1.2), 0#64)) else (
 some ((r2.1.1, r2.1.2), r1.1))
/- (*rolodex/wire.Reader).U32 -/
def wire_Reader_U32 (p_r : (List (BitVec 8)) × Bool) : Option (((List (BitVec 8)) × Bool) × (BitVec 32)) :=
 Option.bind (wire_Reader_number (p_r.1, p_r.2) (4 : Int)) fun r1 =>
 some ((r1.1.1, r1.1.2), r1.2.setWidth 32)
/- (*rolodex/wire.Reader).Plain -/
def wire_Reader_Plain (p_r : (List (BitVec 8)) × Bool) (p_n : Int) : Option (((List (BitVec 8)) × Bool) × (List (BitVec 8))) :=
 Option.bind (wire_Reader_takes (p_r.1, p_r.2) p_n) fun r1 =>
 some ((r1.1.1, r1.1.2), r1.2)
/- rolodex/head.Decode -/
def head_Decode (p_b : List (BitVec 8)) : Option (T_head_Head × Int) :=
 if (!decide ((p_b.length : Int) = (72 : Int))) = true then (
 Option.bind (some ((0, 0, (Vector.replicate 32 (0#8)), (Vector.replicate 32 (0#8))))) fun x1 =>
 some (x1, (2 : Int))) else (
 Option.bind (wire_New p_b) fun r1 =>
 Option.bind (wire_Reader_U32 (r1.1, r1.2)) fun r2 =>
 Option.bind (wire_Reader_U32 (r2.1.1, r2.1.2)) fun r3 =>
 Option.bind (wire_Reader_Plain (r3.1.1, r3.1.2) (32 : Int)) fun r4 =>
 Option.bind (toVecO 32 r4.2) fun x2 =>
 Option.bind (wire_Reader_Plain (r4.1.1, r4.1.2) (32 : Int)) fun r5 =>
 Option.bind (toVecO 32 r5.2) fun x3 =>
 Option.bind (some (((r2.2.toNat : Int), (r3.2.toNat : Int), x2, x3))) fun x4 =>
 Option.bind (head_Head_is x4) fun r6 =>
 if (!r6) = true then (
 Option.bind (some ((0, 0, (Vector.replicate 32 (0#8)), (Vector.replicate 32 (0#8))))) fun x5 =>
 some (x5, (2 : Int))) else (
 some (x4, (0 : Int))))
/- rolodex/rolodexref01.Same -/
def rolodexref01_Same_L1 (p_a : List (BitVec 8)) (p_b : List (BitVec 8)) (y1 : Int) : Option (LR Int Bool) :=
 if (decide (y1 < (p_a.length : Int))) = true then (
 Option.bind (lget p_a y1) fun x1 =>
 Option.bind (lget p_b y1) fun x2 =>
 if (!decide (x1 = x2)) = true then (
 some (.ret false)) else (
 some (.next (w64 (y1 + (1 : Int)))))) else (
 some (.brk y1))
def rolodexref01_Same (p_a : List (BitVec 8)) (p_b : List (BitVec 8)) : Option Bool :=
 if (!decide ((p_a.length : Int) = (p_b.length : Int))) = true then (
 some false) else (
 Option.bind (loopO (fun (s : Int) => rolodexref01_Same_L1 p_a p_b s) FU (0 : Int)) fun o => match o with
 | .inl (s1 : Int) => (
 some true)
 | .inr x => some x)
/- rolodex/rolodexlaw17.HeadBack -/
def rolodexlaw17_HeadBack (p_h : T_rolodexref17_Head) (p_b : List (BitVec 8)) : Option Bool :=
 Option.bind (rolodexlaw17_awake) fun r1 =>
 Option.bind (if (!r1) = true then (
 some true) else (
 some (decide ((200 : Int) < (p_b.length : Int))))) fun y1 =>
 if (y1) = true then (
 Option.bind (rolodexlaw17_awake) fun r2 =>
 some r2) else (
 Option.bind (head_Encode p_h) fun r3 =>
 if (decide (r3.2 = (0 : Int))) = true then (
 Option.bind (head_Decode r3.1) fun r4 =>
 Option.bind (if (!decide (r4.2 = (0 : Int))) = true then (
 some true) else (
 some (!decide (r4.1 = p_h)))) fun y2 =>
 if (y2) = true then (
 some false) else (
 Option.bind (head_Decode p_b) fun r5 =>
 Option.bind (head_Encode r5.1) fun r6 =>
 Option.bind (if (!decide (r5.2 = (0 : Int))) = true then (
 some (decide (r5.1 = (0, 0, (Vector.replicate 32 (0#8)), (Vector.replicate 32 (0#8)))))) else (
 some false)) fun y3 =>
 Option.bind (if (y3) = true then (
 some true) else (
 Option.bind (if (decide (r5.2 = (0 : Int))) = true then (
 some (decide (r6.2 = (0 : Int)))) else (
 some false)) fun y5 =>
 Option.bind (if (y5) = true then (
 Option.bind (rolodexref01_Same r6.1 p_b) fun r7 =>
 some r7) else (
 some false)) fun y6 =>
 some y6)) fun y4 =>
 some y4)) else (
 Option.bind (head_Decode p_b) fun r8 =>
 Option.bind (head_Encode r8.1) fun r9 =>
 Option.bind (if (!decide (r8.2 = (0 : Int))) = true then (
 some (decide (r8.1 = (0, 0, (Vector.replicate 32 (0#8)), (Vector.replicate 32 (0#8)))))) else (
 some false)) fun y7 =>
 Option.bind (if (y7) = true then (
 some true) else (
 Option.bind (if (decide (r8.2 = (0 : Int))) = true then (
 some (decide (r9.2 = (0 : Int)))) else (
 some false)) fun y9 =>
 Option.bind (if (y9) = true then (
 Option.bind (rolodexref01_Same r9.1 p_b) fun r10 =>
 some r10) else (
 some false)) fun y10 =>
 some y10)) fun y8 =>
 some y8))
/- (*rolodex/wire.Writer).within -/
def wire_Writer_within (p_w : (List (BitVec 8)) × Bool) (p_x : Int) (p_most : Int) : Option (((List (BitVec 8)) × Bool) × Bool) :=
 Option.bind (if (decide (p_x < (0 : Int))) = true then (
 some true) else (
 some (decide (p_most < p_x)))) fun y1 =>
 if (y1) = true then (
 some ((p_w.1, true), !true)) else (
 some ((p_w.1, p_w.2), !p_w.2))
/- (*rolodex/wire.Writer).U8 -/
def wire_Writer_U8 (p_w : (List (BitVec 8)) × Bool) (p_x : Int) : Option ((List (BitVec 8)) × Bool) :=
 Option.bind (wire_Writer_within (p_w.1, p_w.2) p_x (255 : Int)) fun r1 =>
 if (r1.2) = true then (
 Option.bind (wire_Writer_number (r1.1.1, r1.1.2) (BitVec.ofInt 64 p_x) (1 : Int)) fun r2 =>
 some (r2.1, r2.2)) else (
 some (r1.1.1, r1.1.2))
/- (*rolodex/wire.Writer).String -/
def wire_Writer_String (p_w : (List (BitVec 8)) × Bool) (p_b : List (BitVec 8)) : Option ((List (BitVec 8)) × Bool) :=
 Option.bind (wire_Writer_within (p_w.1, p_w.2) (p_b.length : Int) (8192 : Int)) fun r1 =>
 if (r1.2) = true then (
 Option.bind (wire_Writer_number (r1.1.1, r1.1.2) (BitVec.ofInt 64 (p_b.length : Int)) (2 : Int)) fun r2 =>
 Option.bind (wire_Writer_Plain (r2.1, r2.2) p_b) fun r3 =>
 some (r3.1, r3.2)) else (
 some (r1.1.1, r1.1.2))
/- rolodex/head.Put -/
def head_Put (p_w : (List (BitVec 8)) × Bool) (p_s : T_head_Signed) : Option ((List (BitVec 8)) × Bool) :=
 Option.bind (head_Encode p_s.1) fun r1 =>
 if (!decide (r1.2 = (0 : Int))) = true then (
 Option.bind (wire_Writer_U8 (p_w.1, p_w.2) (-1 : Int)) fun r2 =>
 some (r2.1, r2.2)) else (
 Option.bind (wire_Writer_Plain (p_w.1, p_w.2) r1.1) fun r3 =>
 Option.bind (wire_Writer_String (r3.1, r3.2) p_s.2) fun r4 =>
 some (r4.1, r4.2))
/- rolodex/rolodexref01.Number -/
def rolodexref01_Number_L1 (p_bytes : Int) (y1 : BitVec 64) (y2 : Int) (y3 : List (BitVec 8)) : Option (LR ((BitVec 64) × Int × (List (BitVec 8))) Empty) :=
 if (decide (y2 < p_bytes)) = true then (
 if y3.length + ([(y1 % (256#64)).setWidth 8]).length ≤ AP then (
 some (.next (y1 / (256#64), w64 (y2 + (1 : Int)), (y3 ++ ([(y1 % (256#64)).setWidth 8]))))) else none) else (
 some (.brk (y1, y2, y3)))
def rolodexref01_Number_L2 (y6 : List (BitVec 8)) (y7 : Int) (y8 : List (BitVec 8)) : Option (LR (Int × (List (BitVec 8))) Empty) :=
 if (decide ((0 : Int) ≤ y7)) = true then (
 Option.bind (lget y6 y7) fun x1 =>
 if y8.length + ([x1]).length ≤ AP then (
 some (.next (w64 (y7 - (1 : Int)), (y8 ++ ([x1]))))) else none) else (
 some (.brk (y7, y8)))
def rolodexref01_Number (p_x : BitVec 64) (p_bytes : Int) : Option (List (BitVec 8)) :=
 Option.bind (loopS (fun (s : (BitVec 64) × Int × (List (BitVec 8))) => rolodexref01_Number_L1 p_bytes s.1 s.2.1 s.2.2) FU (p_x, (0 : Int), ([] : List (BitVec 8)))) fun (s2 : (BitVec 64) × Int × (List (BitVec 8))) =>
 Option.bind (loopS (fun (s : Int × (List (BitVec 8))) => rolodexref01_Number_L2 s2.2.2 s.1 s.2) FU (w64 (p_bytes - (1 : Int)), ([] : List (BitVec 8)))) fun (s1 : Int × (List (BitVec 8))) =>
 some s1.2
/- rolodex/rolodexref17.Is -/
def rolodexref17_Is (p_h : T_rolodexref17_Head) : Option Bool :=
 Option.bind (if (decide ((1 : Int) ≤ p_h.1)) = true then (
 some (decide (p_h.1 ≤ (2147483647 : Int)))) else (
 some false)) fun y1 =>
 Option.bind (if (y1) = true then (
 some (decide ((1 : Int) ≤ p_h.2.1))) else (
 some false)) fun y2 =>
 Option.bind (if (y2) = true then (
 some (decide (p_h.2.1 ≤ (2147483647 : Int)))) else (
 some false)) fun y3 =>
 some y3
/- rolodex/rolodexref17.Encode -/
def rolodexref17_Encode (p_h : T_rolodexref17_Head) : Option ((List (BitVec 8)) × Int) :=
 Option.bind (rolodexref17_Is p_h) fun r1 =>
 if (!r1) = true then (
 some (([] : List (BitVec 8)), (1 : Int))) else (
 Option.bind (rolodexref01_Number (BitVec.ofInt 64 p_h.1) (4 : Int)) fun r2 =>
 Option.bind (rolodexref01_Number (BitVec.ofInt 64 p_h.2.1) (4 : Int)) fun r3 =>
 if r2.length + r3.length ≤ AP then (
 if (r2 ++ r3).length + p_h.2.2.1.toList.length ≤ AP then (
 if ((r2 ++ r3) ++ p_h.2.2.1.toList).length + p_h.2.2.2.toList.length ≤ AP then (
 some ((((r2 ++ r3) ++ p_h.2.2.1.toList) ++ p_h.2.2.2.toList), (0 : Int))) else none) else none) else none)
/- rolodex/rolodexref17.Bytes -/
def rolodexref17_Bytes (p_s : T_rolodexref17_Signed) : Option ((List (BitVec 8)) × Bool) :=
 Option.bind (rolodexref17_Encode p_s.1) fun r1 =>
 Option.bind (if (!decide (r1.2 = (0 : Int))) = true then (
 some true) else (
 some (decide ((8192 : Int) < (p_s.2.length : Int))))) fun y1 =>
 if (y1) = true then (
 some (([] : List (BitVec 8)), false)) else (
 Option.bind (rolodexref01_Number (BitVec.ofInt 64 (p_s.2.length : Int)) (2 : Int)) fun r2 =>
 if r1.1.length + r2.length ≤ AP then (
 if (r1.1 ++ r2).length + p_s.2.length ≤ AP then (
 some (((r1.1 ++ r2) ++ p_s.2), true)) else none) else none)
/- (*rolodex/wire.Reader).Fails -/
def wire_Reader_Fails (p_r : (List (BitVec 8)) × Bool) : Option Bool :=
 Option.bind (some p_r.2) fun y1 =>
 some y1
/- (*rolodex/wire.Reader).Left -/
def wire_Reader_Left (p_r : (List (BitVec 8)) × Bool) : Option Int :=
 some (p_r.1.length : Int)
/- (*rolodex/wire.Reader).spoil -/
def wire_Reader_spoil (p_r : (List (BitVec 8)) × Bool) : Option ((List (BitVec 8)) × Bool) :=
 some (p_r.1, true)
/- (*rolodex/wire.Reader).String -/
def wire_Reader_String (p_r : (List (BitVec 8)) × Bool) (p_most : Int) : Option (((List (BitVec 8)) × Bool) × (List (BitVec 8))) :=
 Option.bind (wire_Reader_peek (p_r.1, p_r.2) (2 : Int)) fun r1 =>
 Option.bind (if (!r1.2) = true then (
 some true) else (
 some (decide (p_most < (w64 (r1.1.toNat : Int)))))) fun y1 =>
 Option.bind (if (y1) = true then (
 some true) else (
 some (decide ((8192#64) < r1.1)))) fun y2 =>
 Option.bind (if (y2) = true then (
 some true) else (
 Option.bind (wire_Reader_Left (p_r.1, p_r.2)) fun r2 =>
 some (decide ((w64 (r2 - (2 : Int))) < (w64 (r1.1.toNat : Int)))))) fun y3 =>
 if (y3) = true then (
 Option.bind (wire_Reader_spoil (p_r.1, p_r.2)) fun r3 =>
 some ((r3.1, r3.2), ([] : List (BitVec 8)))) else (
 Option.bind (wire_Reader_number (p_r.1, p_r.2) (2 : Int)) fun r4 =>
 Option.bind (wire_Reader_takes (r4.1.1, r4.1.2) (w64 (r1.1.toNat : Int))) fun r5 =>
 some ((r5.1.1, r5.1.2), r5.2))
/- rolodex/head.Take -/
def head_Take (p_r : (List (BitVec 8)) × Bool) : Option (((List (BitVec 8)) × Bool) × T_head_Signed) :=
 Option.bind (wire_Reader_Plain (p_r.1, p_r.2) (72 : Int)) fun r1 =>
 Option.bind (head_Decode r1.2) fun r2 =>
 if (!decide (r2.2 = (0 : Int))) = true then (
 Option.bind (wire_Reader_Plain (r1.1.1, r1.1.2) (-1 : Int)) fun r3 =>
 Option.bind (some (((0, 0, (Vector.replicate 32 (0#8)), (Vector.replicate 32 (0#8))), ([] : List (BitVec 8))))) fun x1 =>
 some ((r3.1.1, r3.1.2), x1)) else (
 Option.bind (wire_Reader_String (r1.1.1, r1.1.2) (8192 : Int)) fun r4 =>
 Option.bind (wire_Reader_Fails (r4.1.1, r4.1.2)) fun r5 =>
 if (r5) = true then (
 Option.bind (some (((0, 0, (Vector.replicate 32 (0#8)), (Vector.replicate 32 (0#8))), ([] : List (BitVec 8))))) fun x2 =>
 some ((r4.1.1, r4.1.2), x2)) else (
 Option.bind (some ((r2.1, r4.2))) fun x3 =>
 some ((r4.1.1, r4.1.2), x3)))
/- rolodex/rolodexref01.Value -/
def rolodexref01_Value_L1 (p_b : List (BitVec 8)) (y1 : BitVec 64) (y2 : Int) : Option (LR ((BitVec 64) × Int) Empty) :=
 if (decide (y2 < (p_b.length : Int))) = true then (
 Option.bind (lget p_b y2) fun x1 =>
 some (.next ((y1 * (256#64)) + (x1.setWidth 64), w64 (y2 + (1 : Int))))) else (
 some (.brk (y1, y2)))
def rolodexref01_Value (p_b : List (BitVec 8)) : Option (BitVec 64) :=
 Option.bind (loopS (fun (s : (BitVec 64) × Int) => rolodexref01_Value_L1 p_b s.1 s.2) FU (0#64, (0 : Int))) fun (s1 : (BitVec 64) × Int) =>
 some s1.1
/- rolodex/rolodexref17.Decode -/
def rolodexref17_Decode (p_b : List (BitVec 8)) : Option (T_rolodexref17_Head × Int) :=
 if (!decide ((p_b.length : Int) = (72 : Int))) = true then (
 Option.bind (some ((0, 0, (Vector.replicate 32 (0#8)), (Vector.replicate 32 (0#8))))) fun x1 =>
 some (x1, (2 : Int))) else (
 Option.bind (lslice p_b 0 (4 : Int)) fun x2 =>
 Option.bind (rolodexref01_Value x2) fun r1 =>
 Option.bind (lslice p_b (4 : Int) (8 : Int)) fun x3 =>
 Option.bind (rolodexref01_Value x3) fun r2 =>
 Option.bind (lslice p_b (8 : Int) (40 : Int)) fun x4 =>
 Option.bind (toVecO 32 x4) fun x5 =>
 Option.bind (lslice p_b (40 : Int) (72 : Int)) fun x6 =>
 Option.bind (toVecO 32 x6) fun x7 =>
 Option.bind (some ((w64 (r1.toNat : Int), w64 (r2.toNat : Int), x5, x7))) fun x8 =>
 Option.bind (rolodexref17_Is x8) fun r3 =>
 if (!r3) = true then (
 Option.bind (some ((0, 0, (Vector.replicate 32 (0#8)), (Vector.replicate 32 (0#8))))) fun x9 =>
 some (x9, (2 : Int))) else (
 some (x8, (0 : Int))))
/- rolodex/rolodexref17.Take -/
def rolodexref17_Take (p_b : List (BitVec 8)) : Option (T_rolodexref17_Signed × (List (BitVec 8)) × Bool) :=
 if (decide ((p_b.length : Int) < (74 : Int))) = true then (
 Option.bind (some (((0, 0, (Vector.replicate 32 (0#8)), (Vector.replicate 32 (0#8))), ([] : List (BitVec 8))))) fun x1 =>
 some (x1, p_b, false)) else (
 Option.bind (lslice p_b 0 (72 : Int)) fun x2 =>
 Option.bind (rolodexref17_Decode x2) fun r1 =>
 Option.bind (lslice p_b (72 : Int) (74 : Int)) fun x3 =>
 Option.bind (rolodexref01_Value x3) fun r2 =>
 Option.bind (if (!decide (r1.2 = (0 : Int))) = true then (
 some true) else (
 some (decide ((8192 : Int) < (w64 (r2.toNat : Int)))))) fun y1 =>
 Option.bind (if (y1) = true then (
 some true) else (
 some (decide ((w64 ((p_b.length : Int) - (74 : Int))) < (w64 (r2.toNat : Int)))))) fun y2 =>
 if (y2) = true then (
 Option.bind (some (((0, 0, (Vector.replicate 32 (0#8)), (Vector.replicate 32 (0#8))), ([] : List (BitVec 8))))) fun x4 =>
 some (x4, p_b, false)) else (
 Option.bind (lslice p_b (74 : Int) (w64 ((74 : Int) + (w64 (r2.toNat : Int))))) fun x5 =>
 Option.bind (some ((r1.1, x5))) fun x6 =>
 Option.bind (lslice p_b (w64 ((74 : Int) + (w64 (r2.toNat : Int)))) (p_b.length : Int)) fun x7 =>
 some (x6, x7, true)))
/- rolodex/rolodexref17.Same -/
def rolodexref17_Same (p_a : T_rolodexref17_Signed) (p_b : T_rolodexref17_Signed) : Option Bool :=
 Option.bind (if (decide (p_a.1 = p_b.1)) = true then (
 Option.bind (rolodexref01_Same p_a.2 p_b.2) fun r1 =>
 some r1) else (
 some false)) fun y1 =>
 some y1
/- (*rolodex/wire.Reader).Done -/
def wire_Reader_Done (p_r : (List (BitVec 8)) × Bool) : Option Bool :=
 Option.bind (wire_Reader_Fails (p_r.1, p_r.2)) fun r1 =>
 Option.bind (if (!r1) = true then (
 Option.bind (wire_Reader_Left (p_r.1, p_r.2)) fun r2 =>
 some (decide (r2 = (0 : Int)))) else (
 some false)) fun y1 =>
 some y1
/- rolodex/rolodexlaw17.HeadPuts -/
def rolodexlaw17_HeadPuts (p_s : T_rolodexref17_Signed) (p_b : List (BitVec 8)) : Option Bool :=
 Option.bind (rolodexlaw17_awake) fun r1 =>
 Option.bind (if (!r1) = true then (
 some true) else (
 some (decide ((9000 : Int) < (p_s.2.length : Int))))) fun y1 =>
 Option.bind (if (y1) = true then (
 some true) else (
 some (decide ((9000 : Int) < (p_b.length : Int))))) fun y2 =>
 if (y2) = true then (
 Option.bind (rolodexlaw17_awake) fun r2 =>
 some r2) else (
 Option.bind (some ((p_s.1, p_s.2))) fun x1 =>
 Option.bind (head_Put (([] : List (BitVec 8)), false) x1) fun r3 =>
 Option.bind (wire_Writer_Out (r3.1, r3.2)) fun r4 =>
 Option.bind (rolodexref17_Bytes p_s) fun r5 =>
 Option.bind (if (!((decide (r4.2.2 = (0 : Int))) == r5.2)) = true then (
 some true) else (
 Option.bind (rolodexref01_Same r4.2.1 r5.1) fun r6 =>
 some (!r6))) fun y3 =>
 if (y3) = true then (
 some false) else (
 Option.bind (wire_New p_b) fun r7 =>
 Option.bind (head_Take (r7.1, r7.2)) fun r8 =>
 Option.bind (rolodexref17_Take p_b) fun r9 =>
 Option.bind (some ((r8.2.1, r8.2.2))) fun x2 =>
 Option.bind (rolodexref17_Same x2 r9.1) fun r10 =>
 Option.bind (if (!r10) = true then (
 some true) else (
 Option.bind (wire_Reader_Fails (r8.1.1, r8.1.2)) fun r11 =>
 some (r11 == r9.2.2))) fun y4 =>
 Option.bind (if (y4) = true then (
 some true) else (
 Option.bind (if (r9.2.2) = true then (
 Option.bind (wire_Reader_Left (r8.1.1, r8.1.2)) fun r12 =>
 some (!decide (r12 = (r9.2.1.length : Int)))) else (
 some false)) fun y6 =>
 some y6)) fun y5 =>
 if (y5) = true then (
 some false) else (
 if (!r5.2) = true then (
 some true) else (
 Option.bind (wire_New r4.2.1) fun r14 =>
 Option.bind (head_Take (r14.1, r14.2)) fun r15 =>
 Option.bind (wire_Reader_Done (r15.1.1, r15.1.2)) fun r16 =>
 Option.bind (if (r16) = true then (
 some (decide (r15.2.1 = p_s.1))) else (
 some false)) fun y7 =>
 Option.bind (if (y7) = true then (
 Option.bind (rolodexref01_Same r15.2.2 p_s.2) fun r17 =>
 some r17) else (
 some false)) fun y8 =>
 some y8))))
end M
end Go.Sl
