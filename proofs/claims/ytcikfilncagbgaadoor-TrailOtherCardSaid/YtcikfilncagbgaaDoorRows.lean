/-
  NARROWER THAN 'FOR EVERY INPUT', by the rows' own cells (each row's printed sentence says how): FrontierHashes: laid · FrontierSegments: laid · FrontierRanges: laid · FrontierParts: laid · FrontierJoins: laid · FrontierGrows: laid · TrailEntries: laid · TrailChecks: laid · TrailGrowths: laid · TrailTells: laid · TrailOther: laid · TrailRight: laid.
  DERIVED. THE GIVEN ROWS OF THIS SEAT. 12 by the template 'for every input the law returns true; each argument reads behind the call as it read before'; 0 by the template 'total and deterministic' (their statements: YtcikfilncagbgaaDoorTotals.lean).
  GIVEN WITH THE SEED: the statements are not yours to turn. If you find one false, say at which input.
  Laid BY PROGRAM, IN A SANDBOX (cutbox-rows.mjs): the forced cells as the released guide's own fill.sh prints them over the translation eaf85d5ac9e8901e… (all of the seat's roots in one cut). By AI agents, Wed Nov 11 2026. No macro, syntax, notation, axiom, sorry.
-/
import Derived.Test.YtcikfilncagbgaaDoorChecked
import GoSem.Claim
import GoSem.ClaimJoined
import GoSem.ClaimMapViews
import Derived.JoinedTies
import Derived.KernelRfl
namespace Go.Proofs.YtcikfilncagbgaaDoor
/- THE CELL 'sum', in the pinned program and in every row, IS THE sha256 OF THE DUMP (.gsa) THAT YtcikfilncagbgaaDoorProg.lean LOADS. Nothing in Lean hashes anything: it is a label: what it is worth is what the hold of that sum in a sandbox is worth. -/
noncomputable def Tryd.pinned : Pinned := { name := "ytcikfilncagbgaadoor", sum := "eaf85d5ac9e8901eb406ae17c9dd4f4e864274f1eb40f4872e0a9e1866d9706e", checked := Tryd.checked }
namespace Rows
def none {H : Type} : Left H := { results := [], args := [] }

/- WHAT THE LISTED PACKAGE-LEVEL VARIABLES READ AS WHEN THE CALL BEGINS. Each datum BY PROGRAM (the guide's laid-datum.mjs) off the statement by which the dump's own 'gosem.cut.vars' lays the variable. In a bare row this is a premise. The card (YtcikfilncagbgaaDoorCards.lean) ties it to the program's text. -/
def laid_rolodex_hash_begin {H : Type} : DataW H := .agg [.lit (.int .u32 1779033703), .lit (.int .u32 3144134277), .lit (.int .u32 1013904242), .lit (.int .u32 2773480762), .lit (.int .u32 1359893119), .lit (.int .u32 2600822924), .lit (.int .u32 528734635), .lit (.int .u32 1541459225)]
def laid_rolodex_hash_rounds {H : Type} : DataW H := .agg [.lit (.int .u32 1116352408), .lit (.int .u32 1899447441), .lit (.int .u32 3049323471), .lit (.int .u32 3921009573), .lit (.int .u32 961987163), .lit (.int .u32 1508970993), .lit (.int .u32 2453635748), .lit (.int .u32 2870763221), .lit (.int .u32 3624381080), .lit (.int .u32 310598401), .lit (.int .u32 607225278), .lit (.int .u32 1426881987), .lit (.int .u32 1925078388), .lit (.int .u32 2162078206), .lit (.int .u32 2614888103), .lit (.int .u32 3248222580), .lit (.int .u32 3835390401), .lit (.int .u32 4022224774), .lit (.int .u32 264347078), .lit (.int .u32 604807628), .lit (.int .u32 770255983), .lit (.int .u32 1249150122), .lit (.int .u32 1555081692), .lit (.int .u32 1996064986), .lit (.int .u32 2554220882), .lit (.int .u32 2821834349), .lit (.int .u32 2952996808), .lit (.int .u32 3210313671), .lit (.int .u32 3336571891), .lit (.int .u32 3584528711), .lit (.int .u32 113926993), .lit (.int .u32 338241895), .lit (.int .u32 666307205), .lit (.int .u32 773529912), .lit (.int .u32 1294757372), .lit (.int .u32 1396182291), .lit (.int .u32 1695183700), .lit (.int .u32 1986661051), .lit (.int .u32 2177026350), .lit (.int .u32 2456956037), .lit (.int .u32 2730485921), .lit (.int .u32 2820302411), .lit (.int .u32 3259730800), .lit (.int .u32 3345764771), .lit (.int .u32 3516065817), .lit (.int .u32 3600352804), .lit (.int .u32 4094571909), .lit (.int .u32 275423344), .lit (.int .u32 430227734), .lit (.int .u32 506948616), .lit (.int .u32 659060556), .lit (.int .u32 883997877), .lit (.int .u32 958139571), .lit (.int .u32 1322822218), .lit (.int .u32 1537002063), .lit (.int .u32 1747873779), .lit (.int .u32 1955562222), .lit (.int .u32 2024104815), .lit (.int .u32 2227730452), .lit (.int .u32 2361852424), .lit (.int .u32 2428436474), .lit (.int .u32 2756734187), .lit (.int .u32 3204031479), .lit (.int .u32 3329325298)]
def laid_math_bits_deBruijn32tab {H : Type} : DataW H := .agg [.lit (.int .u8 0), .lit (.int .u8 1), .lit (.int .u8 28), .lit (.int .u8 2), .lit (.int .u8 29), .lit (.int .u8 14), .lit (.int .u8 24), .lit (.int .u8 3), .lit (.int .u8 30), .lit (.int .u8 22), .lit (.int .u8 20), .lit (.int .u8 15), .lit (.int .u8 25), .lit (.int .u8 17), .lit (.int .u8 4), .lit (.int .u8 8), .lit (.int .u8 31), .lit (.int .u8 27), .lit (.int .u8 13), .lit (.int .u8 23), .lit (.int .u8 21), .lit (.int .u8 19), .lit (.int .u8 16), .lit (.int .u8 7), .lit (.int .u8 26), .lit (.int .u8 12), .lit (.int .u8 18), .lit (.int .u8 6), .lit (.int .u8 11), .lit (.int .u8 5), .lit (.int .u8 10), .lit (.int .u8 9)]
def laid_math_bits_deBruijn64tab {H : Type} : DataW H := .agg [.lit (.int .u8 0), .lit (.int .u8 1), .lit (.int .u8 56), .lit (.int .u8 2), .lit (.int .u8 57), .lit (.int .u8 49), .lit (.int .u8 28), .lit (.int .u8 3), .lit (.int .u8 61), .lit (.int .u8 58), .lit (.int .u8 42), .lit (.int .u8 50), .lit (.int .u8 38), .lit (.int .u8 29), .lit (.int .u8 17), .lit (.int .u8 4), .lit (.int .u8 62), .lit (.int .u8 47), .lit (.int .u8 59), .lit (.int .u8 36), .lit (.int .u8 45), .lit (.int .u8 43), .lit (.int .u8 51), .lit (.int .u8 22), .lit (.int .u8 53), .lit (.int .u8 39), .lit (.int .u8 33), .lit (.int .u8 30), .lit (.int .u8 24), .lit (.int .u8 18), .lit (.int .u8 12), .lit (.int .u8 5), .lit (.int .u8 63), .lit (.int .u8 55), .lit (.int .u8 48), .lit (.int .u8 27), .lit (.int .u8 60), .lit (.int .u8 41), .lit (.int .u8 37), .lit (.int .u8 16), .lit (.int .u8 46), .lit (.int .u8 35), .lit (.int .u8 44), .lit (.int .u8 21), .lit (.int .u8 52), .lit (.int .u8 32), .lit (.int .u8 23), .lit (.int .u8 11), .lit (.int .u8 54), .lit (.int .u8 26), .lit (.int .u8 40), .lit (.int .u8 15), .lit (.int .u8 34), .lit (.int .u8 20), .lit (.int .u8 31), .lit (.int .u8 10), .lit (.int .u8 25), .lit (.int .u8 14), .lit (.int .u8 19), .lit (.int .u8 9), .lit (.int .u8 13), .lit (.int .u8 8), .lit (.int .u8 7), .lit (.int .u8 6)]

/-- 'rolodexlaw15.FrontierHashes': WHATEVER THE INPUT: true; the input reads as it did. -/
def frontierHashesSpec : ChangeSpec := { name := "frontierHashes", fn := fun _ => fun
  | [d1, d2, d3] => { results := [.lit (.bool true)], args := [d1, d2, d3] }
  | _ => none }
def frontierHashesRow : OpenClaim := { program := "ytcikfilncagbgaadoor", sum := "eaf85d5ac9e8901eb406ae17c9dd4f4e864274f1eb40f4872e0a9e1866d9706e", func := "rolodex/rolodexlaw15.FrontierHashes", spec := "frontierHashes", named := ["rolodex/hash.begin", "rolodex/hash.rounds"], apart := false, laid := [("rolodex/hash.begin", laid_rolodex_hash_begin), ("rolodex/hash.rounds", laid_rolodex_hash_rounds)] }
def FrontierHashesSaid : Prop := frontierHashesRow.holds Tryd.pinned (OpenSpec.ofChange frontierHashesSpec)

/-- ITS FALSE NEIGHBOUR: 'it returns false'. Refute it at one input. -/
def frontierHashesWrong : ChangeSpec := { name := "frontierHashes", fn := fun _ => fun
  | [d1, d2, d3] => { results := [.lit (.bool false)], args := [d1, d2, d3] }
  | _ => none }
def FrontierHashesWrongFalsely : Prop := frontierHashesRow.holds Tryd.pinned (OpenSpec.ofChange frontierHashesWrong)

/-- 'rolodexlaw15.FrontierSegments': WHATEVER THE INPUT: true; the input reads as it did. -/
def frontierSegmentsSpec : ChangeSpec := { name := "frontierSegments", fn := fun _ => fun
  | [d1, d2] => { results := [.lit (.bool true)], args := [d1, d2] }
  | _ => none }
def frontierSegmentsRow : OpenClaim := { program := "ytcikfilncagbgaadoor", sum := "eaf85d5ac9e8901eb406ae17c9dd4f4e864274f1eb40f4872e0a9e1866d9706e", func := "rolodex/rolodexlaw15.FrontierSegments", spec := "frontierSegments", named := ["math/bits.deBruijn32tab", "math/bits.deBruijn64tab", "rolodex/hash.begin", "rolodex/hash.rounds"], apart := false, laid := [("math/bits.deBruijn32tab", laid_math_bits_deBruijn32tab), ("math/bits.deBruijn64tab", laid_math_bits_deBruijn64tab), ("rolodex/hash.begin", laid_rolodex_hash_begin), ("rolodex/hash.rounds", laid_rolodex_hash_rounds)] }
def FrontierSegmentsSaid : Prop := frontierSegmentsRow.holds Tryd.pinned (OpenSpec.ofChange frontierSegmentsSpec)

/-- ITS FALSE NEIGHBOUR: 'it returns false'. Refute it at one input. -/
def frontierSegmentsWrong : ChangeSpec := { name := "frontierSegments", fn := fun _ => fun
  | [d1, d2] => { results := [.lit (.bool false)], args := [d1, d2] }
  | _ => none }
def FrontierSegmentsWrongFalsely : Prop := frontierSegmentsRow.holds Tryd.pinned (OpenSpec.ofChange frontierSegmentsWrong)

/-- 'rolodexlaw15.FrontierRanges': WHATEVER THE INPUT: true; the input reads as it did. -/
def frontierRangesSpec : ChangeSpec := { name := "frontierRanges", fn := fun _ => fun
  | [d1, d2] => { results := [.lit (.bool true)], args := [d1, d2] }
  | _ => none }
def frontierRangesRow : OpenClaim := { program := "ytcikfilncagbgaadoor", sum := "eaf85d5ac9e8901eb406ae17c9dd4f4e864274f1eb40f4872e0a9e1866d9706e", func := "rolodex/rolodexlaw15.FrontierRanges", spec := "frontierRanges", recurses := true, named := ["rolodex/hash.begin", "rolodex/hash.rounds", "math/bits.deBruijn32tab", "math/bits.deBruijn64tab"], apart := false, laid := [("math/bits.deBruijn32tab", laid_math_bits_deBruijn32tab), ("math/bits.deBruijn64tab", laid_math_bits_deBruijn64tab), ("rolodex/hash.begin", laid_rolodex_hash_begin), ("rolodex/hash.rounds", laid_rolodex_hash_rounds)] }
def FrontierRangesSaid : Prop := frontierRangesRow.holds Tryd.pinned (OpenSpec.ofChange frontierRangesSpec)

/-- ITS FALSE NEIGHBOUR: 'it returns false'. Refute it at one input. -/
def frontierRangesWrong : ChangeSpec := { name := "frontierRanges", fn := fun _ => fun
  | [d1, d2] => { results := [.lit (.bool false)], args := [d1, d2] }
  | _ => none }
def FrontierRangesWrongFalsely : Prop := frontierRangesRow.holds Tryd.pinned (OpenSpec.ofChange frontierRangesWrong)

/-- 'rolodexlaw15.FrontierParts': WHATEVER THE INPUT: true; the input reads as it did. -/
def frontierPartsSpec : ChangeSpec := { name := "frontierParts", fn := fun _ => fun
  | [d1, d2, d3] => { results := [.lit (.bool true)], args := [d1, d2, d3] }
  | _ => none }
def frontierPartsRow : OpenClaim := { program := "ytcikfilncagbgaadoor", sum := "eaf85d5ac9e8901eb406ae17c9dd4f4e864274f1eb40f4872e0a9e1866d9706e", func := "rolodex/rolodexlaw15.FrontierParts", spec := "frontierParts", named := ["rolodex/hash.begin", "rolodex/hash.rounds", "math/bits.deBruijn32tab", "math/bits.deBruijn64tab"], apart := false, laid := [("math/bits.deBruijn32tab", laid_math_bits_deBruijn32tab), ("math/bits.deBruijn64tab", laid_math_bits_deBruijn64tab), ("rolodex/hash.begin", laid_rolodex_hash_begin), ("rolodex/hash.rounds", laid_rolodex_hash_rounds)] }
def FrontierPartsSaid : Prop := frontierPartsRow.holds Tryd.pinned (OpenSpec.ofChange frontierPartsSpec)

/-- ITS FALSE NEIGHBOUR: 'it returns false'. Refute it at one input. -/
def frontierPartsWrong : ChangeSpec := { name := "frontierParts", fn := fun _ => fun
  | [d1, d2, d3] => { results := [.lit (.bool false)], args := [d1, d2, d3] }
  | _ => none }
def FrontierPartsWrongFalsely : Prop := frontierPartsRow.holds Tryd.pinned (OpenSpec.ofChange frontierPartsWrong)

/-- 'rolodexlaw15.FrontierJoins': WHATEVER THE INPUT: true; the input reads as it did. -/
def frontierJoinsSpec : ChangeSpec := { name := "frontierJoins", fn := fun _ => fun
  | [d1, d2] => { results := [.lit (.bool true)], args := [d1, d2] }
  | _ => none }
def frontierJoinsRow : OpenClaim := { program := "ytcikfilncagbgaadoor", sum := "eaf85d5ac9e8901eb406ae17c9dd4f4e864274f1eb40f4872e0a9e1866d9706e", func := "rolodex/rolodexlaw15.FrontierJoins", spec := "frontierJoins", recurses := true, named := ["rolodex/hash.begin", "rolodex/hash.rounds", "math/bits.deBruijn32tab", "math/bits.deBruijn64tab"], apart := false, laid := [("math/bits.deBruijn32tab", laid_math_bits_deBruijn32tab), ("math/bits.deBruijn64tab", laid_math_bits_deBruijn64tab), ("rolodex/hash.begin", laid_rolodex_hash_begin), ("rolodex/hash.rounds", laid_rolodex_hash_rounds)] }
def FrontierJoinsSaid : Prop := frontierJoinsRow.holds Tryd.pinned (OpenSpec.ofChange frontierJoinsSpec)

/-- ITS FALSE NEIGHBOUR: 'it returns false'. Refute it at one input. -/
def frontierJoinsWrong : ChangeSpec := { name := "frontierJoins", fn := fun _ => fun
  | [d1, d2] => { results := [.lit (.bool false)], args := [d1, d2] }
  | _ => none }
def FrontierJoinsWrongFalsely : Prop := frontierJoinsRow.holds Tryd.pinned (OpenSpec.ofChange frontierJoinsWrong)

/-- 'rolodexlaw15.FrontierGrows': WHATEVER THE INPUT: true; the input reads as it did. -/
def frontierGrowsSpec : ChangeSpec := { name := "frontierGrows", fn := fun _ => fun
  | [d] => { results := [.lit (.bool true)], args := [d] }
  | _ => none }
def frontierGrowsRow : OpenClaim := { program := "ytcikfilncagbgaadoor", sum := "eaf85d5ac9e8901eb406ae17c9dd4f4e864274f1eb40f4872e0a9e1866d9706e", func := "rolodex/rolodexlaw15.FrontierGrows", spec := "frontierGrows", recurses := true, named := ["rolodex/hash.begin", "rolodex/hash.rounds", "math/bits.deBruijn32tab", "math/bits.deBruijn64tab"], apart := false, laid := [("math/bits.deBruijn32tab", laid_math_bits_deBruijn32tab), ("math/bits.deBruijn64tab", laid_math_bits_deBruijn64tab), ("rolodex/hash.begin", laid_rolodex_hash_begin), ("rolodex/hash.rounds", laid_rolodex_hash_rounds)] }
def FrontierGrowsSaid : Prop := frontierGrowsRow.holds Tryd.pinned (OpenSpec.ofChange frontierGrowsSpec)

/-- ITS FALSE NEIGHBOUR: 'it returns false'. Refute it at one input. -/
def frontierGrowsWrong : ChangeSpec := { name := "frontierGrows", fn := fun _ => fun
  | [d] => { results := [.lit (.bool false)], args := [d] }
  | _ => none }
def FrontierGrowsWrongFalsely : Prop := frontierGrowsRow.holds Tryd.pinned (OpenSpec.ofChange frontierGrowsWrong)

/-- 'rolodexlaw16.TrailEntries': WHATEVER THE INPUT: true; the input reads as it did. -/
def trailEntriesSpec : ChangeSpec := { name := "trailEntries", fn := fun _ => fun
  | [d1, d2, d3] => { results := [.lit (.bool true)], args := [d1, d2, d3] }
  | _ => none }
def trailEntriesRow : OpenClaim := { program := "ytcikfilncagbgaadoor", sum := "eaf85d5ac9e8901eb406ae17c9dd4f4e864274f1eb40f4872e0a9e1866d9706e", func := "rolodex/rolodexlaw16.TrailEntries", spec := "trailEntries", recurses := true, named := ["math/bits.deBruijn32tab", "math/bits.deBruijn64tab", "rolodex/hash.begin", "rolodex/hash.rounds"], apart := false, laid := [("math/bits.deBruijn32tab", laid_math_bits_deBruijn32tab), ("math/bits.deBruijn64tab", laid_math_bits_deBruijn64tab), ("rolodex/hash.begin", laid_rolodex_hash_begin), ("rolodex/hash.rounds", laid_rolodex_hash_rounds)] }
def TrailEntriesSaid : Prop := trailEntriesRow.holds Tryd.pinned (OpenSpec.ofChange trailEntriesSpec)

/-- ITS FALSE NEIGHBOUR: 'it returns false'. Refute it at one input. -/
def trailEntriesWrong : ChangeSpec := { name := "trailEntries", fn := fun _ => fun
  | [d1, d2, d3] => { results := [.lit (.bool false)], args := [d1, d2, d3] }
  | _ => none }
def TrailEntriesWrongFalsely : Prop := trailEntriesRow.holds Tryd.pinned (OpenSpec.ofChange trailEntriesWrong)

/-- 'rolodexlaw16.TrailChecks': WHATEVER THE INPUT: true; the input reads as it did. -/
def trailChecksSpec : ChangeSpec := { name := "trailChecks", fn := fun _ => fun
  | [d1, d2] => { results := [.lit (.bool true)], args := [d1, d2] }
  | _ => none }
def trailChecksRow : OpenClaim := { program := "ytcikfilncagbgaadoor", sum := "eaf85d5ac9e8901eb406ae17c9dd4f4e864274f1eb40f4872e0a9e1866d9706e", func := "rolodex/rolodexlaw16.TrailChecks", spec := "trailChecks", recurses := true, named := ["math/bits.deBruijn32tab", "math/bits.deBruijn64tab", "rolodex/hash.begin", "rolodex/hash.rounds"], apart := false, laid := [("math/bits.deBruijn32tab", laid_math_bits_deBruijn32tab), ("math/bits.deBruijn64tab", laid_math_bits_deBruijn64tab), ("rolodex/hash.begin", laid_rolodex_hash_begin), ("rolodex/hash.rounds", laid_rolodex_hash_rounds)] }
def TrailChecksSaid : Prop := trailChecksRow.holds Tryd.pinned (OpenSpec.ofChange trailChecksSpec)

/-- ITS FALSE NEIGHBOUR: 'it returns false'. Refute it at one input. -/
def trailChecksWrong : ChangeSpec := { name := "trailChecks", fn := fun _ => fun
  | [d1, d2] => { results := [.lit (.bool false)], args := [d1, d2] }
  | _ => none }
def TrailChecksWrongFalsely : Prop := trailChecksRow.holds Tryd.pinned (OpenSpec.ofChange trailChecksWrong)

/-- 'rolodexlaw16.TrailGrowths': WHATEVER THE INPUT: true; the input reads as it did. -/
def trailGrowthsSpec : ChangeSpec := { name := "trailGrowths", fn := fun _ => fun
  | [d1, d2, d3] => { results := [.lit (.bool true)], args := [d1, d2, d3] }
  | _ => none }
def trailGrowthsRow : OpenClaim := { program := "ytcikfilncagbgaadoor", sum := "eaf85d5ac9e8901eb406ae17c9dd4f4e864274f1eb40f4872e0a9e1866d9706e", func := "rolodex/rolodexlaw16.TrailGrowths", spec := "trailGrowths", recurses := true, named := ["math/bits.deBruijn32tab", "math/bits.deBruijn64tab", "rolodex/hash.begin", "rolodex/hash.rounds"], apart := false, laid := [("math/bits.deBruijn32tab", laid_math_bits_deBruijn32tab), ("math/bits.deBruijn64tab", laid_math_bits_deBruijn64tab), ("rolodex/hash.begin", laid_rolodex_hash_begin), ("rolodex/hash.rounds", laid_rolodex_hash_rounds)] }
def TrailGrowthsSaid : Prop := trailGrowthsRow.holds Tryd.pinned (OpenSpec.ofChange trailGrowthsSpec)

/-- ITS FALSE NEIGHBOUR: 'it returns false'. Refute it at one input. -/
def trailGrowthsWrong : ChangeSpec := { name := "trailGrowths", fn := fun _ => fun
  | [d1, d2, d3] => { results := [.lit (.bool false)], args := [d1, d2, d3] }
  | _ => none }
def TrailGrowthsWrongFalsely : Prop := trailGrowthsRow.holds Tryd.pinned (OpenSpec.ofChange trailGrowthsWrong)

/-- 'rolodexlaw16.TrailTells': WHATEVER THE INPUT: true; the input reads as it did. -/
def trailTellsSpec : ChangeSpec := { name := "trailTells", fn := fun _ => fun
  | [d1, d2] => { results := [.lit (.bool true)], args := [d1, d2] }
  | _ => none }
def trailTellsRow : OpenClaim := { program := "ytcikfilncagbgaadoor", sum := "eaf85d5ac9e8901eb406ae17c9dd4f4e864274f1eb40f4872e0a9e1866d9706e", func := "rolodex/rolodexlaw16.TrailTells", spec := "trailTells", recurses := true, named := ["math/bits.deBruijn32tab", "math/bits.deBruijn64tab", "rolodex/hash.begin", "rolodex/hash.rounds"], apart := false, laid := [("math/bits.deBruijn32tab", laid_math_bits_deBruijn32tab), ("math/bits.deBruijn64tab", laid_math_bits_deBruijn64tab), ("rolodex/hash.begin", laid_rolodex_hash_begin), ("rolodex/hash.rounds", laid_rolodex_hash_rounds)] }
def TrailTellsSaid : Prop := trailTellsRow.holds Tryd.pinned (OpenSpec.ofChange trailTellsSpec)

/-- ITS FALSE NEIGHBOUR: 'it returns false'. Refute it at one input. -/
def trailTellsWrong : ChangeSpec := { name := "trailTells", fn := fun _ => fun
  | [d1, d2] => { results := [.lit (.bool false)], args := [d1, d2] }
  | _ => none }
def TrailTellsWrongFalsely : Prop := trailTellsRow.holds Tryd.pinned (OpenSpec.ofChange trailTellsWrong)

/-- 'rolodexlaw16.TrailOther': WHATEVER THE INPUT: true; the input reads as it did. -/
def trailOtherSpec : ChangeSpec := { name := "trailOther", fn := fun _ => fun
  | [d1, d2, d3] => { results := [.lit (.bool true)], args := [d1, d2, d3] }
  | _ => none }
def trailOtherRow : OpenClaim := { program := "ytcikfilncagbgaadoor", sum := "eaf85d5ac9e8901eb406ae17c9dd4f4e864274f1eb40f4872e0a9e1866d9706e", func := "rolodex/rolodexlaw16.TrailOther", spec := "trailOther", recurses := true, named := ["math/bits.deBruijn32tab", "math/bits.deBruijn64tab", "rolodex/hash.begin", "rolodex/hash.rounds"], apart := false, laid := [("math/bits.deBruijn32tab", laid_math_bits_deBruijn32tab), ("math/bits.deBruijn64tab", laid_math_bits_deBruijn64tab), ("rolodex/hash.begin", laid_rolodex_hash_begin), ("rolodex/hash.rounds", laid_rolodex_hash_rounds)] }
def TrailOtherSaid : Prop := trailOtherRow.holds Tryd.pinned (OpenSpec.ofChange trailOtherSpec)

/-- ITS FALSE NEIGHBOUR: 'it returns false'. Refute it at one input. -/
def trailOtherWrong : ChangeSpec := { name := "trailOther", fn := fun _ => fun
  | [d1, d2, d3] => { results := [.lit (.bool false)], args := [d1, d2, d3] }
  | _ => none }
def TrailOtherWrongFalsely : Prop := trailOtherRow.holds Tryd.pinned (OpenSpec.ofChange trailOtherWrong)

/-- 'rolodexlaw16.TrailRight': WHATEVER THE INPUT: true; the input reads as it did. -/
def trailRightSpec : ChangeSpec := { name := "trailRight", fn := fun _ => fun
  | [d1, d2] => { results := [.lit (.bool true)], args := [d1, d2] }
  | _ => none }
def trailRightRow : OpenClaim := { program := "ytcikfilncagbgaadoor", sum := "eaf85d5ac9e8901eb406ae17c9dd4f4e864274f1eb40f4872e0a9e1866d9706e", func := "rolodex/rolodexlaw16.TrailRight", spec := "trailRight", recurses := true, named := ["math/bits.deBruijn32tab", "math/bits.deBruijn64tab", "rolodex/hash.begin", "rolodex/hash.rounds"], apart := false, laid := [("math/bits.deBruijn32tab", laid_math_bits_deBruijn32tab), ("math/bits.deBruijn64tab", laid_math_bits_deBruijn64tab), ("rolodex/hash.begin", laid_rolodex_hash_begin), ("rolodex/hash.rounds", laid_rolodex_hash_rounds)] }
def TrailRightSaid : Prop := trailRightRow.holds Tryd.pinned (OpenSpec.ofChange trailRightSpec)

/-- ITS FALSE NEIGHBOUR: 'it returns false'. Refute it at one input. -/
def trailRightWrong : ChangeSpec := { name := "trailRight", fn := fun _ => fun
  | [d1, d2] => { results := [.lit (.bool false)], args := [d1, d2] }
  | _ => none }
def TrailRightWrongFalsely : Prop := trailRightRow.holds Tryd.pinned (OpenSpec.ofChange trailRightWrong)

/- THE SECOND FORM. 'bulk': how many values and letters a reading holds, each counted each time it is reached (what is shared counts as often as it is met; a slice's spare places count too). A statement '..UptoSaid' is the law's where the arguments, and the package variables that the reading takes, are together of bulk at most 1048576: NARROWER than '..Said'. Prove '..Said' where nothing that the law and all that it calls make is longer than what came in: it says more and counts as full. Else prove '..UptoSaid'. A law counts once. -/
mutual
def uptoBulk {H : Type} : DataW H → Nat
  | .lit (.string bytes) => bytes.length + 1
  | .lit _ => 1
  | .nil => 1
  | .ptr d => uptoBulk d + 1
  | .slice elems spare => uptoBulkAll elems + uptoBulkAll spare + 1
  | .agg parts => uptoBulkAll parts + 1
  | .iface _ d => uptoBulk d + 1
  | .map entries => uptoBulkEntries entries + 1
  | .held _ => 1
def uptoBulkAll {H : Type} : List (DataW H) → Nat
  | [] => 0
  | d :: r => uptoBulk d + uptoBulkAll r
def uptoBulkEntries {H : Type} : List (Lit × DataW H) → Nat
  | [] => 0
  | x :: r => uptoBulkEntry x + uptoBulkEntries r
def uptoBulkEntry {H : Type} : Lit × DataW H → Nat
  | (.string bytes, d) => bytes.length + uptoBulk d + 1
  | (_, d) => uptoBulk d + 1
 end
def uptoSmall : (H : Type) → List (DataW H) → Bool := fun _ ds => decide (uptoBulkAll ds ≤ 1048576)
def OpenSpec.upto (s : _root_.Go.ChangeSpec) : _root_.Go.OpenSpec := { _root_.Go.OpenSpec.ofChange s with cond := some uptoSmall }

/-- 'rolodexlaw15.FrontierHashes', WHERE WHAT IT READS IS OF BULK AT MOST 1048576: true; the input reads as it did. -/
def frontierHashesUptoRow : OpenClaim := { program := "ytcikfilncagbgaadoor", sum := "eaf85d5ac9e8901eb406ae17c9dd4f4e864274f1eb40f4872e0a9e1866d9706e", func := "rolodex/rolodexlaw15.FrontierHashes", spec := "frontierHashes", named := ["rolodex/hash.begin", "rolodex/hash.rounds"], apart := false, laid := [("rolodex/hash.begin", laid_rolodex_hash_begin), ("rolodex/hash.rounds", laid_rolodex_hash_rounds)], narrowed := true }
def FrontierHashesUptoSaid : Prop := frontierHashesUptoRow.holds Tryd.pinned (OpenSpec.upto frontierHashesSpec)

/-- 'rolodexlaw15.FrontierSegments', WHERE WHAT IT READS IS OF BULK AT MOST 1048576: true; the input reads as it did. -/
def frontierSegmentsUptoRow : OpenClaim := { program := "ytcikfilncagbgaadoor", sum := "eaf85d5ac9e8901eb406ae17c9dd4f4e864274f1eb40f4872e0a9e1866d9706e", func := "rolodex/rolodexlaw15.FrontierSegments", spec := "frontierSegments", named := ["math/bits.deBruijn32tab", "math/bits.deBruijn64tab", "rolodex/hash.begin", "rolodex/hash.rounds"], apart := false, laid := [("math/bits.deBruijn32tab", laid_math_bits_deBruijn32tab), ("math/bits.deBruijn64tab", laid_math_bits_deBruijn64tab), ("rolodex/hash.begin", laid_rolodex_hash_begin), ("rolodex/hash.rounds", laid_rolodex_hash_rounds)], narrowed := true }
def FrontierSegmentsUptoSaid : Prop := frontierSegmentsUptoRow.holds Tryd.pinned (OpenSpec.upto frontierSegmentsSpec)

/-- 'rolodexlaw15.FrontierRanges', WHERE WHAT IT READS IS OF BULK AT MOST 1048576: true; the input reads as it did. -/
def frontierRangesUptoRow : OpenClaim := { program := "ytcikfilncagbgaadoor", sum := "eaf85d5ac9e8901eb406ae17c9dd4f4e864274f1eb40f4872e0a9e1866d9706e", func := "rolodex/rolodexlaw15.FrontierRanges", spec := "frontierRanges", recurses := true, named := ["rolodex/hash.begin", "rolodex/hash.rounds", "math/bits.deBruijn32tab", "math/bits.deBruijn64tab"], apart := false, laid := [("math/bits.deBruijn32tab", laid_math_bits_deBruijn32tab), ("math/bits.deBruijn64tab", laid_math_bits_deBruijn64tab), ("rolodex/hash.begin", laid_rolodex_hash_begin), ("rolodex/hash.rounds", laid_rolodex_hash_rounds)], narrowed := true }
def FrontierRangesUptoSaid : Prop := frontierRangesUptoRow.holds Tryd.pinned (OpenSpec.upto frontierRangesSpec)

/-- 'rolodexlaw15.FrontierParts', WHERE WHAT IT READS IS OF BULK AT MOST 1048576: true; the input reads as it did. -/
def frontierPartsUptoRow : OpenClaim := { program := "ytcikfilncagbgaadoor", sum := "eaf85d5ac9e8901eb406ae17c9dd4f4e864274f1eb40f4872e0a9e1866d9706e", func := "rolodex/rolodexlaw15.FrontierParts", spec := "frontierParts", named := ["rolodex/hash.begin", "rolodex/hash.rounds", "math/bits.deBruijn32tab", "math/bits.deBruijn64tab"], apart := false, laid := [("math/bits.deBruijn32tab", laid_math_bits_deBruijn32tab), ("math/bits.deBruijn64tab", laid_math_bits_deBruijn64tab), ("rolodex/hash.begin", laid_rolodex_hash_begin), ("rolodex/hash.rounds", laid_rolodex_hash_rounds)], narrowed := true }
def FrontierPartsUptoSaid : Prop := frontierPartsUptoRow.holds Tryd.pinned (OpenSpec.upto frontierPartsSpec)

/-- 'rolodexlaw15.FrontierJoins', WHERE WHAT IT READS IS OF BULK AT MOST 1048576: true; the input reads as it did. -/
def frontierJoinsUptoRow : OpenClaim := { program := "ytcikfilncagbgaadoor", sum := "eaf85d5ac9e8901eb406ae17c9dd4f4e864274f1eb40f4872e0a9e1866d9706e", func := "rolodex/rolodexlaw15.FrontierJoins", spec := "frontierJoins", recurses := true, named := ["rolodex/hash.begin", "rolodex/hash.rounds", "math/bits.deBruijn32tab", "math/bits.deBruijn64tab"], apart := false, laid := [("math/bits.deBruijn32tab", laid_math_bits_deBruijn32tab), ("math/bits.deBruijn64tab", laid_math_bits_deBruijn64tab), ("rolodex/hash.begin", laid_rolodex_hash_begin), ("rolodex/hash.rounds", laid_rolodex_hash_rounds)], narrowed := true }
def FrontierJoinsUptoSaid : Prop := frontierJoinsUptoRow.holds Tryd.pinned (OpenSpec.upto frontierJoinsSpec)

/-- 'rolodexlaw15.FrontierGrows', WHERE WHAT IT READS IS OF BULK AT MOST 1048576: true; the input reads as it did. -/
def frontierGrowsUptoRow : OpenClaim := { program := "ytcikfilncagbgaadoor", sum := "eaf85d5ac9e8901eb406ae17c9dd4f4e864274f1eb40f4872e0a9e1866d9706e", func := "rolodex/rolodexlaw15.FrontierGrows", spec := "frontierGrows", recurses := true, named := ["rolodex/hash.begin", "rolodex/hash.rounds", "math/bits.deBruijn32tab", "math/bits.deBruijn64tab"], apart := false, laid := [("math/bits.deBruijn32tab", laid_math_bits_deBruijn32tab), ("math/bits.deBruijn64tab", laid_math_bits_deBruijn64tab), ("rolodex/hash.begin", laid_rolodex_hash_begin), ("rolodex/hash.rounds", laid_rolodex_hash_rounds)], narrowed := true }
def FrontierGrowsUptoSaid : Prop := frontierGrowsUptoRow.holds Tryd.pinned (OpenSpec.upto frontierGrowsSpec)

/-- 'rolodexlaw16.TrailEntries', WHERE WHAT IT READS IS OF BULK AT MOST 1048576: true; the input reads as it did. -/
def trailEntriesUptoRow : OpenClaim := { program := "ytcikfilncagbgaadoor", sum := "eaf85d5ac9e8901eb406ae17c9dd4f4e864274f1eb40f4872e0a9e1866d9706e", func := "rolodex/rolodexlaw16.TrailEntries", spec := "trailEntries", recurses := true, named := ["math/bits.deBruijn32tab", "math/bits.deBruijn64tab", "rolodex/hash.begin", "rolodex/hash.rounds"], apart := false, laid := [("math/bits.deBruijn32tab", laid_math_bits_deBruijn32tab), ("math/bits.deBruijn64tab", laid_math_bits_deBruijn64tab), ("rolodex/hash.begin", laid_rolodex_hash_begin), ("rolodex/hash.rounds", laid_rolodex_hash_rounds)], narrowed := true }
def TrailEntriesUptoSaid : Prop := trailEntriesUptoRow.holds Tryd.pinned (OpenSpec.upto trailEntriesSpec)

/-- 'rolodexlaw16.TrailChecks', WHERE WHAT IT READS IS OF BULK AT MOST 1048576: true; the input reads as it did. -/
def trailChecksUptoRow : OpenClaim := { program := "ytcikfilncagbgaadoor", sum := "eaf85d5ac9e8901eb406ae17c9dd4f4e864274f1eb40f4872e0a9e1866d9706e", func := "rolodex/rolodexlaw16.TrailChecks", spec := "trailChecks", recurses := true, named := ["math/bits.deBruijn32tab", "math/bits.deBruijn64tab", "rolodex/hash.begin", "rolodex/hash.rounds"], apart := false, laid := [("math/bits.deBruijn32tab", laid_math_bits_deBruijn32tab), ("math/bits.deBruijn64tab", laid_math_bits_deBruijn64tab), ("rolodex/hash.begin", laid_rolodex_hash_begin), ("rolodex/hash.rounds", laid_rolodex_hash_rounds)], narrowed := true }
def TrailChecksUptoSaid : Prop := trailChecksUptoRow.holds Tryd.pinned (OpenSpec.upto trailChecksSpec)

/-- 'rolodexlaw16.TrailGrowths', WHERE WHAT IT READS IS OF BULK AT MOST 1048576: true; the input reads as it did. -/
def trailGrowthsUptoRow : OpenClaim := { program := "ytcikfilncagbgaadoor", sum := "eaf85d5ac9e8901eb406ae17c9dd4f4e864274f1eb40f4872e0a9e1866d9706e", func := "rolodex/rolodexlaw16.TrailGrowths", spec := "trailGrowths", recurses := true, named := ["math/bits.deBruijn32tab", "math/bits.deBruijn64tab", "rolodex/hash.begin", "rolodex/hash.rounds"], apart := false, laid := [("math/bits.deBruijn32tab", laid_math_bits_deBruijn32tab), ("math/bits.deBruijn64tab", laid_math_bits_deBruijn64tab), ("rolodex/hash.begin", laid_rolodex_hash_begin), ("rolodex/hash.rounds", laid_rolodex_hash_rounds)], narrowed := true }
def TrailGrowthsUptoSaid : Prop := trailGrowthsUptoRow.holds Tryd.pinned (OpenSpec.upto trailGrowthsSpec)

/-- 'rolodexlaw16.TrailTells', WHERE WHAT IT READS IS OF BULK AT MOST 1048576: true; the input reads as it did. -/
def trailTellsUptoRow : OpenClaim := { program := "ytcikfilncagbgaadoor", sum := "eaf85d5ac9e8901eb406ae17c9dd4f4e864274f1eb40f4872e0a9e1866d9706e", func := "rolodex/rolodexlaw16.TrailTells", spec := "trailTells", recurses := true, named := ["math/bits.deBruijn32tab", "math/bits.deBruijn64tab", "rolodex/hash.begin", "rolodex/hash.rounds"], apart := false, laid := [("math/bits.deBruijn32tab", laid_math_bits_deBruijn32tab), ("math/bits.deBruijn64tab", laid_math_bits_deBruijn64tab), ("rolodex/hash.begin", laid_rolodex_hash_begin), ("rolodex/hash.rounds", laid_rolodex_hash_rounds)], narrowed := true }
def TrailTellsUptoSaid : Prop := trailTellsUptoRow.holds Tryd.pinned (OpenSpec.upto trailTellsSpec)

/-- 'rolodexlaw16.TrailOther', WHERE WHAT IT READS IS OF BULK AT MOST 1048576: true; the input reads as it did. -/
def trailOtherUptoRow : OpenClaim := { program := "ytcikfilncagbgaadoor", sum := "eaf85d5ac9e8901eb406ae17c9dd4f4e864274f1eb40f4872e0a9e1866d9706e", func := "rolodex/rolodexlaw16.TrailOther", spec := "trailOther", recurses := true, named := ["math/bits.deBruijn32tab", "math/bits.deBruijn64tab", "rolodex/hash.begin", "rolodex/hash.rounds"], apart := false, laid := [("math/bits.deBruijn32tab", laid_math_bits_deBruijn32tab), ("math/bits.deBruijn64tab", laid_math_bits_deBruijn64tab), ("rolodex/hash.begin", laid_rolodex_hash_begin), ("rolodex/hash.rounds", laid_rolodex_hash_rounds)], narrowed := true }
def TrailOtherUptoSaid : Prop := trailOtherUptoRow.holds Tryd.pinned (OpenSpec.upto trailOtherSpec)

/-- 'rolodexlaw16.TrailRight', WHERE WHAT IT READS IS OF BULK AT MOST 1048576: true; the input reads as it did. -/
def trailRightUptoRow : OpenClaim := { program := "ytcikfilncagbgaadoor", sum := "eaf85d5ac9e8901eb406ae17c9dd4f4e864274f1eb40f4872e0a9e1866d9706e", func := "rolodex/rolodexlaw16.TrailRight", spec := "trailRight", recurses := true, named := ["math/bits.deBruijn32tab", "math/bits.deBruijn64tab", "rolodex/hash.begin", "rolodex/hash.rounds"], apart := false, laid := [("math/bits.deBruijn32tab", laid_math_bits_deBruijn32tab), ("math/bits.deBruijn64tab", laid_math_bits_deBruijn64tab), ("rolodex/hash.begin", laid_rolodex_hash_begin), ("rolodex/hash.rounds", laid_rolodex_hash_rounds)], narrowed := true }
def TrailRightUptoSaid : Prop := trailRightUptoRow.holds Tryd.pinned (OpenSpec.upto trailRightSpec)

end Rows
end Go.Proofs.YtcikfilncagbgaaDoor
