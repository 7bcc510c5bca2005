/-
  NARROWER THAN 'FOR EVERY INPUT', by the rows' own cells (each row's printed sentence says how): LmsKeys: laid · LmsSigns: laid · LmsNil: laid · HssKeys: laid · LmsVerifies: laid · HssSigns: laid · HssNil: laid · LmsRight: laid · LmsCuts: laid · HssVerifies: laid · HssCuts: laid · HssRight: laid.
  DERIVED. THE GIVEN ROWS OF THIS SEAT. 12 by the template 'for every input the law returns true; each argument reads behind the call as it read before'; 0 by the template 'total and deterministic' (their statements: YtbaecpklplkciaaDoorTotals.lean).
  GIVEN WITH THE SEED: the statements are not yours to turn. If you find one false, say at which input.
  Laid BY PROGRAM, IN A SANDBOX (cutbox-rows.mjs): the forced cells as the released guide's own fill.sh prints them over the translation 8d2cbc4dfbdf4da3… (all of the seat's roots in one cut). By AI agents, Wed Nov 11 2026. No macro, syntax, notation, axiom, sorry.
-/
import Derived.Test.YtbaecpklplkciaaDoorChecked
import GoSem.Claim
import GoSem.ClaimJoined
import GoSem.ClaimMapViews
import Derived.JoinedTies
import Derived.KernelRfl
namespace Go.Proofs.YtbaecpklplkciaaDoor
/- THE CELL 'sum', in the pinned program and in every row, IS THE sha256 OF THE DUMP (.gsa) THAT YtbaecpklplkciaaDoorProg.lean LOADS. Nothing in Lean hashes anything: it is a label: what it is worth is what the hold of that sum in a sandbox is worth. -/
noncomputable def Tryd.pinned : Pinned := { name := "ytbaecpklplkciaadoor", sum := "8d2cbc4dfbdf4da309b5a231c0d2a9df81b90123e938b0418739d8245cdf06ed", checked := Tryd.checked }
namespace Rows
def none {H : Type} : Left H := { results := [], args := [] }

/- WHAT THE LISTED PACKAGE-LEVEL VARIABLES READ AS WHEN THE CALL BEGINS. Each datum BY PROGRAM (the guide's laid-datum.mjs) off the statement by which the dump's own 'gosem.cut.vars' lays the variable. In a bare row this is a premise. The card (YtbaecpklplkciaaDoorCards.lean) ties it to the program's text. -/
def laid_rolodex_hash_begin {H : Type} : DataW H := .agg [.lit (.int .u32 1779033703), .lit (.int .u32 3144134277), .lit (.int .u32 1013904242), .lit (.int .u32 2773480762), .lit (.int .u32 1359893119), .lit (.int .u32 2600822924), .lit (.int .u32 528734635), .lit (.int .u32 1541459225)]
def laid_rolodex_hash_rounds {H : Type} : DataW H := .agg [.lit (.int .u32 1116352408), .lit (.int .u32 1899447441), .lit (.int .u32 3049323471), .lit (.int .u32 3921009573), .lit (.int .u32 961987163), .lit (.int .u32 1508970993), .lit (.int .u32 2453635748), .lit (.int .u32 2870763221), .lit (.int .u32 3624381080), .lit (.int .u32 310598401), .lit (.int .u32 607225278), .lit (.int .u32 1426881987), .lit (.int .u32 1925078388), .lit (.int .u32 2162078206), .lit (.int .u32 2614888103), .lit (.int .u32 3248222580), .lit (.int .u32 3835390401), .lit (.int .u32 4022224774), .lit (.int .u32 264347078), .lit (.int .u32 604807628), .lit (.int .u32 770255983), .lit (.int .u32 1249150122), .lit (.int .u32 1555081692), .lit (.int .u32 1996064986), .lit (.int .u32 2554220882), .lit (.int .u32 2821834349), .lit (.int .u32 2952996808), .lit (.int .u32 3210313671), .lit (.int .u32 3336571891), .lit (.int .u32 3584528711), .lit (.int .u32 113926993), .lit (.int .u32 338241895), .lit (.int .u32 666307205), .lit (.int .u32 773529912), .lit (.int .u32 1294757372), .lit (.int .u32 1396182291), .lit (.int .u32 1695183700), .lit (.int .u32 1986661051), .lit (.int .u32 2177026350), .lit (.int .u32 2456956037), .lit (.int .u32 2730485921), .lit (.int .u32 2820302411), .lit (.int .u32 3259730800), .lit (.int .u32 3345764771), .lit (.int .u32 3516065817), .lit (.int .u32 3600352804), .lit (.int .u32 4094571909), .lit (.int .u32 275423344), .lit (.int .u32 430227734), .lit (.int .u32 506948616), .lit (.int .u32 659060556), .lit (.int .u32 883997877), .lit (.int .u32 958139571), .lit (.int .u32 1322822218), .lit (.int .u32 1537002063), .lit (.int .u32 1747873779), .lit (.int .u32 1955562222), .lit (.int .u32 2024104815), .lit (.int .u32 2227730452), .lit (.int .u32 2361852424), .lit (.int .u32 2428436474), .lit (.int .u32 2756734187), .lit (.int .u32 3204031479), .lit (.int .u32 3329325298)]
def laid_rolodex_lmots_forms {H : Type} : DataW H := .agg [.agg [.lit (.int .i64 0), .lit (.int .i64 0), .lit (.int .i64 0)], .agg [.lit (.int .i64 1), .lit (.int .i64 265), .lit (.int .i64 7)], .agg [.lit (.int .i64 2), .lit (.int .i64 133), .lit (.int .i64 6)], .agg [.lit (.int .i64 4), .lit (.int .i64 67), .lit (.int .i64 4)], .agg [.lit (.int .i64 8), .lit (.int .i64 34), .lit (.int .i64 0)]]

/-- 'rolodexlaw05.LmsKeys': WHATEVER THE INPUT: true; the input reads as it did. -/
def lmsKeysSpec : ChangeSpec := { name := "lmsKeys", fn := fun _ => fun
  | [d1, d2] => { results := [.lit (.bool true)], args := [d1, d2] }
  | _ => none }
def lmsKeysRow : OpenClaim := { program := "ytbaecpklplkciaadoor", sum := "8d2cbc4dfbdf4da309b5a231c0d2a9df81b90123e938b0418739d8245cdf06ed", func := "rolodex/rolodexlaw05.LmsKeys", spec := "lmsKeys", recurses := true, named := ["rolodex/lmots.forms", "rolodex/hash.begin", "rolodex/hash.rounds"], apart := false, laid := [("rolodex/hash.begin", laid_rolodex_hash_begin), ("rolodex/hash.rounds", laid_rolodex_hash_rounds), ("rolodex/lmots.forms", laid_rolodex_lmots_forms)] }
def LmsKeysSaid : Prop := lmsKeysRow.holds Tryd.pinned (OpenSpec.ofChange lmsKeysSpec)

/-- ITS FALSE NEIGHBOUR: 'it returns false'. Refute it at one input. -/
def lmsKeysWrong : ChangeSpec := { name := "lmsKeys", fn := fun _ => fun
  | [d1, d2] => { results := [.lit (.bool false)], args := [d1, d2] }
  | _ => none }
def LmsKeysWrongFalsely : Prop := lmsKeysRow.holds Tryd.pinned (OpenSpec.ofChange lmsKeysWrong)

/-- 'rolodexlaw05.LmsSigns': WHATEVER THE INPUT: true; the input reads as it did. -/
def lmsSignsSpec : ChangeSpec := { name := "lmsSigns", fn := fun _ => fun
  | [d1, d2, d3] => { results := [.lit (.bool true)], args := [d1, d2, d3] }
  | _ => none }
def lmsSignsRow : OpenClaim := { program := "ytbaecpklplkciaadoor", sum := "8d2cbc4dfbdf4da309b5a231c0d2a9df81b90123e938b0418739d8245cdf06ed", func := "rolodex/rolodexlaw05.LmsSigns", spec := "lmsSigns", unfollowed := true, recurses := true, named := ["rolodex/lmots.forms", "rolodex/hash.begin", "rolodex/hash.rounds"], apart := false, laid := [("rolodex/hash.begin", laid_rolodex_hash_begin), ("rolodex/hash.rounds", laid_rolodex_hash_rounds), ("rolodex/lmots.forms", laid_rolodex_lmots_forms)] }
def LmsSignsSaid : Prop := lmsSignsRow.holds Tryd.pinned (OpenSpec.ofChange lmsSignsSpec)

/-- ITS FALSE NEIGHBOUR: 'it returns false'. Refute it at one input. -/
def lmsSignsWrong : ChangeSpec := { name := "lmsSigns", fn := fun _ => fun
  | [d1, d2, d3] => { results := [.lit (.bool false)], args := [d1, d2, d3] }
  | _ => none }
def LmsSignsWrongFalsely : Prop := lmsSignsRow.holds Tryd.pinned (OpenSpec.ofChange lmsSignsWrong)

/-- 'rolodexlaw05.LmsNil': WHATEVER THE INPUT: true; the input reads as it did. -/
def lmsNilSpec : ChangeSpec := { name := "lmsNil", fn := fun _ => fun
  | [d1, d2] => { results := [.lit (.bool true)], args := [d1, d2] }
  | _ => none }
def lmsNilRow : OpenClaim := { program := "ytbaecpklplkciaadoor", sum := "8d2cbc4dfbdf4da309b5a231c0d2a9df81b90123e938b0418739d8245cdf06ed", func := "rolodex/rolodexlaw05.LmsNil", spec := "lmsNil", unfollowed := true, recurses := true, named := ["rolodex/lmots.forms", "rolodex/hash.begin", "rolodex/hash.rounds"], apart := false, laid := [("rolodex/hash.begin", laid_rolodex_hash_begin), ("rolodex/hash.rounds", laid_rolodex_hash_rounds), ("rolodex/lmots.forms", laid_rolodex_lmots_forms)] }
def LmsNilSaid : Prop := lmsNilRow.holds Tryd.pinned (OpenSpec.ofChange lmsNilSpec)

/-- ITS FALSE NEIGHBOUR: 'it returns false'. Refute it at one input. -/
def lmsNilWrong : ChangeSpec := { name := "lmsNil", fn := fun _ => fun
  | [d1, d2] => { results := [.lit (.bool false)], args := [d1, d2] }
  | _ => none }
def LmsNilWrongFalsely : Prop := lmsNilRow.holds Tryd.pinned (OpenSpec.ofChange lmsNilWrong)

/-- 'rolodexlaw06.HssKeys': WHATEVER THE INPUT: true; the input reads as it did. -/
def hssKeysSpec : ChangeSpec := { name := "hssKeys", fn := fun _ => fun
  | [d] => { results := [.lit (.bool true)], args := [d] }
  | _ => none }
def hssKeysRow : OpenClaim := { program := "ytbaecpklplkciaadoor", sum := "8d2cbc4dfbdf4da309b5a231c0d2a9df81b90123e938b0418739d8245cdf06ed", func := "rolodex/rolodexlaw06.HssKeys", spec := "hssKeys", recurses := true, named := ["rolodex/lmots.forms", "rolodex/hash.begin", "rolodex/hash.rounds"], apart := false, laid := [("rolodex/hash.begin", laid_rolodex_hash_begin), ("rolodex/hash.rounds", laid_rolodex_hash_rounds), ("rolodex/lmots.forms", laid_rolodex_lmots_forms)] }
def HssKeysSaid : Prop := hssKeysRow.holds Tryd.pinned (OpenSpec.ofChange hssKeysSpec)

/-- ITS FALSE NEIGHBOUR: 'it returns false'. Refute it at one input. -/
def hssKeysWrong : ChangeSpec := { name := "hssKeys", fn := fun _ => fun
  | [d] => { results := [.lit (.bool false)], args := [d] }
  | _ => none }
def HssKeysWrongFalsely : Prop := hssKeysRow.holds Tryd.pinned (OpenSpec.ofChange hssKeysWrong)

/-- 'rolodexlaw05.LmsVerifies': WHATEVER THE INPUT: true; the input reads as it did. -/
def lmsVerifiesSpec : ChangeSpec := { name := "lmsVerifies", fn := fun _ => fun
  | [d1, d2, d3] => { results := [.lit (.bool true)], args := [d1, d2, d3] }
  | _ => none }
def lmsVerifiesRow : OpenClaim := { program := "ytbaecpklplkciaadoor", sum := "8d2cbc4dfbdf4da309b5a231c0d2a9df81b90123e938b0418739d8245cdf06ed", func := "rolodex/rolodexlaw05.LmsVerifies", spec := "lmsVerifies", unfollowed := true, recurses := true, named := ["rolodex/lmots.forms", "rolodex/hash.begin", "rolodex/hash.rounds"], apart := false, laid := [("rolodex/hash.begin", laid_rolodex_hash_begin), ("rolodex/hash.rounds", laid_rolodex_hash_rounds), ("rolodex/lmots.forms", laid_rolodex_lmots_forms)] }
def LmsVerifiesSaid : Prop := lmsVerifiesRow.holds Tryd.pinned (OpenSpec.ofChange lmsVerifiesSpec)

/-- ITS FALSE NEIGHBOUR: 'it returns false'. Refute it at one input. -/
def lmsVerifiesWrong : ChangeSpec := { name := "lmsVerifies", fn := fun _ => fun
  | [d1, d2, d3] => { results := [.lit (.bool false)], args := [d1, d2, d3] }
  | _ => none }
def LmsVerifiesWrongFalsely : Prop := lmsVerifiesRow.holds Tryd.pinned (OpenSpec.ofChange lmsVerifiesWrong)

/-- 'rolodexlaw06.HssSigns': WHATEVER THE INPUT: true; the input reads as it did. -/
def hssSignsSpec : ChangeSpec := { name := "hssSigns", fn := fun _ => fun
  | [d1, d2, d3] => { results := [.lit (.bool true)], args := [d1, d2, d3] }
  | _ => none }
def hssSignsRow : OpenClaim := { program := "ytbaecpklplkciaadoor", sum := "8d2cbc4dfbdf4da309b5a231c0d2a9df81b90123e938b0418739d8245cdf06ed", func := "rolodex/rolodexlaw06.HssSigns", spec := "hssSigns", unfollowed := true, recurses := true, named := ["rolodex/lmots.forms", "rolodex/hash.begin", "rolodex/hash.rounds"], apart := false, laid := [("rolodex/hash.begin", laid_rolodex_hash_begin), ("rolodex/hash.rounds", laid_rolodex_hash_rounds), ("rolodex/lmots.forms", laid_rolodex_lmots_forms)] }
def HssSignsSaid : Prop := hssSignsRow.holds Tryd.pinned (OpenSpec.ofChange hssSignsSpec)

/-- ITS FALSE NEIGHBOUR: 'it returns false'. Refute it at one input. -/
def hssSignsWrong : ChangeSpec := { name := "hssSigns", fn := fun _ => fun
  | [d1, d2, d3] => { results := [.lit (.bool false)], args := [d1, d2, d3] }
  | _ => none }
def HssSignsWrongFalsely : Prop := hssSignsRow.holds Tryd.pinned (OpenSpec.ofChange hssSignsWrong)

/-- 'rolodexlaw06.HssNil': WHATEVER THE INPUT: true; the input reads as it did. -/
def hssNilSpec : ChangeSpec := { name := "hssNil", fn := fun _ => fun
  | [d1, d2] => { results := [.lit (.bool true)], args := [d1, d2] }
  | _ => none }
def hssNilRow : OpenClaim := { program := "ytbaecpklplkciaadoor", sum := "8d2cbc4dfbdf4da309b5a231c0d2a9df81b90123e938b0418739d8245cdf06ed", func := "rolodex/rolodexlaw06.HssNil", spec := "hssNil", unfollowed := true, recurses := true, named := ["rolodex/lmots.forms", "rolodex/hash.begin", "rolodex/hash.rounds"], apart := false, laid := [("rolodex/hash.begin", laid_rolodex_hash_begin), ("rolodex/hash.rounds", laid_rolodex_hash_rounds), ("rolodex/lmots.forms", laid_rolodex_lmots_forms)] }
def HssNilSaid : Prop := hssNilRow.holds Tryd.pinned (OpenSpec.ofChange hssNilSpec)

/-- ITS FALSE NEIGHBOUR: 'it returns false'. Refute it at one input. -/
def hssNilWrong : ChangeSpec := { name := "hssNil", fn := fun _ => fun
  | [d1, d2] => { results := [.lit (.bool false)], args := [d1, d2] }
  | _ => none }
def HssNilWrongFalsely : Prop := hssNilRow.holds Tryd.pinned (OpenSpec.ofChange hssNilWrong)

/-- 'rolodexlaw05.LmsRight': WHATEVER THE INPUT: true; the input reads as it did. -/
def lmsRightSpec : ChangeSpec := { name := "lmsRight", fn := fun _ => fun
  | [d1, d2, d3] => { results := [.lit (.bool true)], args := [d1, d2, d3] }
  | _ => none }
def lmsRightRow : OpenClaim := { program := "ytbaecpklplkciaadoor", sum := "8d2cbc4dfbdf4da309b5a231c0d2a9df81b90123e938b0418739d8245cdf06ed", func := "rolodex/rolodexlaw05.LmsRight", spec := "lmsRight", unfollowed := true, recurses := true, named := ["rolodex/lmots.forms", "rolodex/hash.begin", "rolodex/hash.rounds"], apart := false, laid := [("rolodex/hash.begin", laid_rolodex_hash_begin), ("rolodex/hash.rounds", laid_rolodex_hash_rounds), ("rolodex/lmots.forms", laid_rolodex_lmots_forms)] }
def LmsRightSaid : Prop := lmsRightRow.holds Tryd.pinned (OpenSpec.ofChange lmsRightSpec)

/-- ITS FALSE NEIGHBOUR: 'it returns false'. Refute it at one input. -/
def lmsRightWrong : ChangeSpec := { name := "lmsRight", fn := fun _ => fun
  | [d1, d2, d3] => { results := [.lit (.bool false)], args := [d1, d2, d3] }
  | _ => none }
def LmsRightWrongFalsely : Prop := lmsRightRow.holds Tryd.pinned (OpenSpec.ofChange lmsRightWrong)

/-- 'rolodexlaw05.LmsCuts': WHATEVER THE INPUT: true; the input reads as it did. -/
def lmsCutsSpec : ChangeSpec := { name := "lmsCuts", fn := fun _ => fun
  | [d1, d2, d3] => { results := [.lit (.bool true)], args := [d1, d2, d3] }
  | _ => none }
def lmsCutsRow : OpenClaim := { program := "ytbaecpklplkciaadoor", sum := "8d2cbc4dfbdf4da309b5a231c0d2a9df81b90123e938b0418739d8245cdf06ed", func := "rolodex/rolodexlaw05.LmsCuts", spec := "lmsCuts", unfollowed := true, recurses := true, named := ["rolodex/lmots.forms", "rolodex/hash.begin", "rolodex/hash.rounds"], apart := false, laid := [("rolodex/hash.begin", laid_rolodex_hash_begin), ("rolodex/hash.rounds", laid_rolodex_hash_rounds), ("rolodex/lmots.forms", laid_rolodex_lmots_forms)] }
def LmsCutsSaid : Prop := lmsCutsRow.holds Tryd.pinned (OpenSpec.ofChange lmsCutsSpec)

/-- ITS FALSE NEIGHBOUR: 'it returns false'. Refute it at one input. -/
def lmsCutsWrong : ChangeSpec := { name := "lmsCuts", fn := fun _ => fun
  | [d1, d2, d3] => { results := [.lit (.bool false)], args := [d1, d2, d3] }
  | _ => none }
def LmsCutsWrongFalsely : Prop := lmsCutsRow.holds Tryd.pinned (OpenSpec.ofChange lmsCutsWrong)

/-- 'rolodexlaw06.HssVerifies': WHATEVER THE INPUT: true; the input reads as it did. -/
def hssVerifiesSpec : ChangeSpec := { name := "hssVerifies", fn := fun _ => fun
  | [d1, d2, d3] => { results := [.lit (.bool true)], args := [d1, d2, d3] }
  | _ => none }
def hssVerifiesRow : OpenClaim := { program := "ytbaecpklplkciaadoor", sum := "8d2cbc4dfbdf4da309b5a231c0d2a9df81b90123e938b0418739d8245cdf06ed", func := "rolodex/rolodexlaw06.HssVerifies", spec := "hssVerifies", unfollowed := true, recurses := true, named := ["rolodex/lmots.forms", "rolodex/hash.begin", "rolodex/hash.rounds"], apart := false, laid := [("rolodex/hash.begin", laid_rolodex_hash_begin), ("rolodex/hash.rounds", laid_rolodex_hash_rounds), ("rolodex/lmots.forms", laid_rolodex_lmots_forms)] }
def HssVerifiesSaid : Prop := hssVerifiesRow.holds Tryd.pinned (OpenSpec.ofChange hssVerifiesSpec)

/-- ITS FALSE NEIGHBOUR: 'it returns false'. Refute it at one input. -/
def hssVerifiesWrong : ChangeSpec := { name := "hssVerifies", fn := fun _ => fun
  | [d1, d2, d3] => { results := [.lit (.bool false)], args := [d1, d2, d3] }
  | _ => none }
def HssVerifiesWrongFalsely : Prop := hssVerifiesRow.holds Tryd.pinned (OpenSpec.ofChange hssVerifiesWrong)

/-- 'rolodexlaw06.HssCuts': WHATEVER THE INPUT: true; the input reads as it did. -/
def hssCutsSpec : ChangeSpec := { name := "hssCuts", fn := fun _ => fun
  | [d1, d2, d3] => { results := [.lit (.bool true)], args := [d1, d2, d3] }
  | _ => none }
def hssCutsRow : OpenClaim := { program := "ytbaecpklplkciaadoor", sum := "8d2cbc4dfbdf4da309b5a231c0d2a9df81b90123e938b0418739d8245cdf06ed", func := "rolodex/rolodexlaw06.HssCuts", spec := "hssCuts", unfollowed := true, recurses := true, named := ["rolodex/lmots.forms", "rolodex/hash.begin", "rolodex/hash.rounds"], apart := false, laid := [("rolodex/hash.begin", laid_rolodex_hash_begin), ("rolodex/hash.rounds", laid_rolodex_hash_rounds), ("rolodex/lmots.forms", laid_rolodex_lmots_forms)] }
def HssCutsSaid : Prop := hssCutsRow.holds Tryd.pinned (OpenSpec.ofChange hssCutsSpec)

/-- ITS FALSE NEIGHBOUR: 'it returns false'. Refute it at one input. -/
def hssCutsWrong : ChangeSpec := { name := "hssCuts", fn := fun _ => fun
  | [d1, d2, d3] => { results := [.lit (.bool false)], args := [d1, d2, d3] }
  | _ => none }
def HssCutsWrongFalsely : Prop := hssCutsRow.holds Tryd.pinned (OpenSpec.ofChange hssCutsWrong)

/-- 'rolodexlaw06.HssRight': WHATEVER THE INPUT: true; the input reads as it did. -/
def hssRightSpec : ChangeSpec := { name := "hssRight", fn := fun _ => fun
  | [d1, d2, d3] => { results := [.lit (.bool true)], args := [d1, d2, d3] }
  | _ => none }
def hssRightRow : OpenClaim := { program := "ytbaecpklplkciaadoor", sum := "8d2cbc4dfbdf4da309b5a231c0d2a9df81b90123e938b0418739d8245cdf06ed", func := "rolodex/rolodexlaw06.HssRight", spec := "hssRight", unfollowed := true, recurses := true, named := ["rolodex/lmots.forms", "rolodex/hash.begin", "rolodex/hash.rounds"], apart := false, laid := [("rolodex/hash.begin", laid_rolodex_hash_begin), ("rolodex/hash.rounds", laid_rolodex_hash_rounds), ("rolodex/lmots.forms", laid_rolodex_lmots_forms)] }
def HssRightSaid : Prop := hssRightRow.holds Tryd.pinned (OpenSpec.ofChange hssRightSpec)

/-- ITS FALSE NEIGHBOUR: 'it returns false'. Refute it at one input. -/
def hssRightWrong : ChangeSpec := { name := "hssRight", fn := fun _ => fun
  | [d1, d2, d3] => { results := [.lit (.bool false)], args := [d1, d2, d3] }
  | _ => none }
def HssRightWrongFalsely : Prop := hssRightRow.holds Tryd.pinned (OpenSpec.ofChange hssRightWrong)

/- THE SECOND FORM. 'bulk': how many values and letters a reading holds, each counted each time it is reached (what is shared counts as often as it is met; a slice's spare places count too). A statement '..UptoSaid' is the law's where the arguments, and the package variables that the reading takes, are together of bulk at most 1048576: NARROWER than '..Said'. Prove '..Said' where nothing that the law and all that it calls make is longer than what came in: it says more and counts as full. Else prove '..UptoSaid'. A law counts once. -/
mutual
def uptoBulk {H : Type} : DataW H → Nat
  | .lit (.string bytes) => bytes.length + 1
  | .lit _ => 1
  | .nil => 1
  | .ptr d => uptoBulk d + 1
  | .slice elems spare => uptoBulkAll elems + uptoBulkAll spare + 1
  | .agg parts => uptoBulkAll parts + 1
  | .iface _ d => uptoBulk d + 1
  | .map entries => uptoBulkEntries entries + 1
  | .held _ => 1
def uptoBulkAll {H : Type} : List (DataW H) → Nat
  | [] => 0
  | d :: r => uptoBulk d + uptoBulkAll r
def uptoBulkEntries {H : Type} : List (Lit × DataW H) → Nat
  | [] => 0
  | x :: r => uptoBulkEntry x + uptoBulkEntries r
def uptoBulkEntry {H : Type} : Lit × DataW H → Nat
  | (.string bytes, d) => bytes.length + uptoBulk d + 1
  | (_, d) => uptoBulk d + 1
 end
def uptoSmall : (H : Type) → List (DataW H) → Bool := fun _ ds => decide (uptoBulkAll ds ≤ 1048576)
def OpenSpec.upto (s : _root_.Go.ChangeSpec) : _root_.Go.OpenSpec := { _root_.Go.OpenSpec.ofChange s with cond := some uptoSmall }

/-- 'rolodexlaw05.LmsKeys', WHERE WHAT IT READS IS OF BULK AT MOST 1048576: true; the input reads as it did. -/
def lmsKeysUptoRow : OpenClaim := { program := "ytbaecpklplkciaadoor", sum := "8d2cbc4dfbdf4da309b5a231c0d2a9df81b90123e938b0418739d8245cdf06ed", func := "rolodex/rolodexlaw05.LmsKeys", spec := "lmsKeys", recurses := true, named := ["rolodex/lmots.forms", "rolodex/hash.begin", "rolodex/hash.rounds"], apart := false, laid := [("rolodex/hash.begin", laid_rolodex_hash_begin), ("rolodex/hash.rounds", laid_rolodex_hash_rounds), ("rolodex/lmots.forms", laid_rolodex_lmots_forms)], narrowed := true }
def LmsKeysUptoSaid : Prop := lmsKeysUptoRow.holds Tryd.pinned (OpenSpec.upto lmsKeysSpec)

/-- 'rolodexlaw05.LmsSigns', WHERE WHAT IT READS IS OF BULK AT MOST 1048576: true; the input reads as it did. -/
def lmsSignsUptoRow : OpenClaim := { program := "ytbaecpklplkciaadoor", sum := "8d2cbc4dfbdf4da309b5a231c0d2a9df81b90123e938b0418739d8245cdf06ed", func := "rolodex/rolodexlaw05.LmsSigns", spec := "lmsSigns", unfollowed := true, recurses := true, named := ["rolodex/lmots.forms", "rolodex/hash.begin", "rolodex/hash.rounds"], apart := false, laid := [("rolodex/hash.begin", laid_rolodex_hash_begin), ("rolodex/hash.rounds", laid_rolodex_hash_rounds), ("rolodex/lmots.forms", laid_rolodex_lmots_forms)], narrowed := true }
def LmsSignsUptoSaid : Prop := lmsSignsUptoRow.holds Tryd.pinned (OpenSpec.upto lmsSignsSpec)

/-- 'rolodexlaw05.LmsNil', WHERE WHAT IT READS IS OF BULK AT MOST 1048576: true; the input reads as it did. -/
def lmsNilUptoRow : OpenClaim := { program := "ytbaecpklplkciaadoor", sum := "8d2cbc4dfbdf4da309b5a231c0d2a9df81b90123e938b0418739d8245cdf06ed", func := "rolodex/rolodexlaw05.LmsNil", spec := "lmsNil", unfollowed := true, recurses := true, named := ["rolodex/lmots.forms", "rolodex/hash.begin", "rolodex/hash.rounds"], apart := false, laid := [("rolodex/hash.begin", laid_rolodex_hash_begin), ("rolodex/hash.rounds", laid_rolodex_hash_rounds), ("rolodex/lmots.forms", laid_rolodex_lmots_forms)], narrowed := true }
def LmsNilUptoSaid : Prop := lmsNilUptoRow.holds Tryd.pinned (OpenSpec.upto lmsNilSpec)

/-- 'rolodexlaw06.HssKeys', WHERE WHAT IT READS IS OF BULK AT MOST 1048576: true; the input reads as it did. -/
def hssKeysUptoRow : OpenClaim := { program := "ytbaecpklplkciaadoor", sum := "8d2cbc4dfbdf4da309b5a231c0d2a9df81b90123e938b0418739d8245cdf06ed", func := "rolodex/rolodexlaw06.HssKeys", spec := "hssKeys", recurses := true, named := ["rolodex/lmots.forms", "rolodex/hash.begin", "rolodex/hash.rounds"], apart := false, laid := [("rolodex/hash.begin", laid_rolodex_hash_begin), ("rolodex/hash.rounds", laid_rolodex_hash_rounds), ("rolodex/lmots.forms", laid_rolodex_lmots_forms)], narrowed := true }
def HssKeysUptoSaid : Prop := hssKeysUptoRow.holds Tryd.pinned (OpenSpec.upto hssKeysSpec)

/-- 'rolodexlaw05.LmsVerifies', WHERE WHAT IT READS IS OF BULK AT MOST 1048576: true; the input reads as it did. -/
def lmsVerifiesUptoRow : OpenClaim := { program := "ytbaecpklplkciaadoor", sum := "8d2cbc4dfbdf4da309b5a231c0d2a9df81b90123e938b0418739d8245cdf06ed", func := "rolodex/rolodexlaw05.LmsVerifies", spec := "lmsVerifies", unfollowed := true, recurses := true, named := ["rolodex/lmots.forms", "rolodex/hash.begin", "rolodex/hash.rounds"], apart := false, laid := [("rolodex/hash.begin", laid_rolodex_hash_begin), ("rolodex/hash.rounds", laid_rolodex_hash_rounds), ("rolodex/lmots.forms", laid_rolodex_lmots_forms)], narrowed := true }
def LmsVerifiesUptoSaid : Prop := lmsVerifiesUptoRow.holds Tryd.pinned (OpenSpec.upto lmsVerifiesSpec)

/-- 'rolodexlaw06.HssSigns', WHERE WHAT IT READS IS OF BULK AT MOST 1048576: true; the input reads as it did. -/
def hssSignsUptoRow : OpenClaim := { program := "ytbaecpklplkciaadoor", sum := "8d2cbc4dfbdf4da309b5a231c0d2a9df81b90123e938b0418739d8245cdf06ed", func := "rolodex/rolodexlaw06.HssSigns", spec := "hssSigns", unfollowed := true, recurses := true, named := ["rolodex/lmots.forms", "rolodex/hash.begin", "rolodex/hash.rounds"], apart := false, laid := [("rolodex/hash.begin", laid_rolodex_hash_begin), ("rolodex/hash.rounds", laid_rolodex_hash_rounds), ("rolodex/lmots.forms", laid_rolodex_lmots_forms)], narrowed := true }
def HssSignsUptoSaid : Prop := hssSignsUptoRow.holds Tryd.pinned (OpenSpec.upto hssSignsSpec)

/-- 'rolodexlaw06.HssNil', WHERE WHAT IT READS IS OF BULK AT MOST 1048576: true; the input reads as it did. -/
def hssNilUptoRow : OpenClaim := { program := "ytbaecpklplkciaadoor", sum := "8d2cbc4dfbdf4da309b5a231c0d2a9df81b90123e938b0418739d8245cdf06ed", func := "rolodex/rolodexlaw06.HssNil", spec := "hssNil", unfollowed := true, recurses := true, named := ["rolodex/lmots.forms", "rolodex/hash.begin", "rolodex/hash.rounds"], apart := false, laid := [("rolodex/hash.begin", laid_rolodex_hash_begin), ("rolodex/hash.rounds", laid_rolodex_hash_rounds), ("rolodex/lmots.forms", laid_rolodex_lmots_forms)], narrowed := true }
def HssNilUptoSaid : Prop := hssNilUptoRow.holds Tryd.pinned (OpenSpec.upto hssNilSpec)

/-- 'rolodexlaw05.LmsRight', WHERE WHAT IT READS IS OF BULK AT MOST 1048576: true; the input reads as it did. -/
def lmsRightUptoRow : OpenClaim := { program := "ytbaecpklplkciaadoor", sum := "8d2cbc4dfbdf4da309b5a231c0d2a9df81b90123e938b0418739d8245cdf06ed", func := "rolodex/rolodexlaw05.LmsRight", spec := "lmsRight", unfollowed := true, recurses := true, named := ["rolodex/lmots.forms", "rolodex/hash.begin", "rolodex/hash.rounds"], apart := false, laid := [("rolodex/hash.begin", laid_rolodex_hash_begin), ("rolodex/hash.rounds", laid_rolodex_hash_rounds), ("rolodex/lmots.forms", laid_rolodex_lmots_forms)], narrowed := true }
def LmsRightUptoSaid : Prop := lmsRightUptoRow.holds Tryd.pinned (OpenSpec.upto lmsRightSpec)

/-- 'rolodexlaw05.LmsCuts', WHERE WHAT IT READS IS OF BULK AT MOST 1048576: true; the input reads as it did. -/
def lmsCutsUptoRow : OpenClaim := { program := "ytbaecpklplkciaadoor", sum := "8d2cbc4dfbdf4da309b5a231c0d2a9df81b90123e938b0418739d8245cdf06ed", func := "rolodex/rolodexlaw05.LmsCuts", spec := "lmsCuts", unfollowed := true, recurses := true, named := ["rolodex/lmots.forms", "rolodex/hash.begin", "rolodex/hash.rounds"], apart := false, laid := [("rolodex/hash.begin", laid_rolodex_hash_begin), ("rolodex/hash.rounds", laid_rolodex_hash_rounds), ("rolodex/lmots.forms", laid_rolodex_lmots_forms)], narrowed := true }
def LmsCutsUptoSaid : Prop := lmsCutsUptoRow.holds Tryd.pinned (OpenSpec.upto lmsCutsSpec)

/-- 'rolodexlaw06.HssVerifies', WHERE WHAT IT READS IS OF BULK AT MOST 1048576: true; the input reads as it did. -/
def hssVerifiesUptoRow : OpenClaim := { program := "ytbaecpklplkciaadoor", sum := "8d2cbc4dfbdf4da309b5a231c0d2a9df81b90123e938b0418739d8245cdf06ed", func := "rolodex/rolodexlaw06.HssVerifies", spec := "hssVerifies", unfollowed := true, recurses := true, named := ["rolodex/lmots.forms", "rolodex/hash.begin", "rolodex/hash.rounds"], apart := false, laid := [("rolodex/hash.begin", laid_rolodex_hash_begin), ("rolodex/hash.rounds", laid_rolodex_hash_rounds), ("rolodex/lmots.forms", laid_rolodex_lmots_forms)], narrowed := true }
def HssVerifiesUptoSaid : Prop := hssVerifiesUptoRow.holds Tryd.pinned (OpenSpec.upto hssVerifiesSpec)

/-- 'rolodexlaw06.HssCuts', WHERE WHAT IT READS IS OF BULK AT MOST 1048576: true; the input reads as it did. -/
def hssCutsUptoRow : OpenClaim := { program := "ytbaecpklplkciaadoor", sum := "8d2cbc4dfbdf4da309b5a231c0d2a9df81b90123e938b0418739d8245cdf06ed", func := "rolodex/rolodexlaw06.HssCuts", spec := "hssCuts", unfollowed := true, recurses := true, named := ["rolodex/lmots.forms", "rolodex/hash.begin", "rolodex/hash.rounds"], apart := false, laid := [("rolodex/hash.begin", laid_rolodex_hash_begin), ("rolodex/hash.rounds", laid_rolodex_hash_rounds), ("rolodex/lmots.forms", laid_rolodex_lmots_forms)], narrowed := true }
def HssCutsUptoSaid : Prop := hssCutsUptoRow.holds Tryd.pinned (OpenSpec.upto hssCutsSpec)

/-- 'rolodexlaw06.HssRight', WHERE WHAT IT READS IS OF BULK AT MOST 1048576: true; the input reads as it did. -/
def hssRightUptoRow : OpenClaim := { program := "ytbaecpklplkciaadoor", sum := "8d2cbc4dfbdf4da309b5a231c0d2a9df81b90123e938b0418739d8245cdf06ed", func := "rolodex/rolodexlaw06.HssRight", spec := "hssRight", unfollowed := true, recurses := true, named := ["rolodex/lmots.forms", "rolodex/hash.begin", "rolodex/hash.rounds"], apart := false, laid := [("rolodex/hash.begin", laid_rolodex_hash_begin), ("rolodex/hash.rounds", laid_rolodex_hash_rounds), ("rolodex/lmots.forms", laid_rolodex_lmots_forms)], narrowed := true }
def HssRightUptoSaid : Prop := hssRightUptoRow.holds Tryd.pinned (OpenSpec.upto hssRightSpec)

end Rows
end Go.Proofs.YtbaecpklplkciaaDoor
