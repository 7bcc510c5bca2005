/-
  NARROWER THAN 'FOR EVERY INPUT', by the rows' own cells (each row's printed sentence says how): LmotsForms: laid · LmotsLess: laid · HashSums: laid · HashClashes: laid · HashApart: laid · HashTexts: laid · HashOwn: laid · LmotsPublic: laid · LmotsSigns: laid · LmotsRecovers: laid · LmotsCuts: laid · LmotsRight: laid.
  DERIVED. THE GIVEN ROWS OF THIS SEAT. 12 by the template 'for every input the law returns true; each argument reads behind the call as it read before'; 0 by the template 'total and deterministic' (their statements: YtdpffbhgkldphaaDoorTotals.lean).
  GIVEN WITH THE SEED: the statements are not yours to turn. If you find one false, say at which input.
  Laid BY PROGRAM, IN A SANDBOX (cutbox-rows.mjs): the forced cells as the released guide's own fill.sh prints them over the translation fcf52b70733ed78c… (all of the seat's roots in one cut). By AI agents, Wed Nov 11 2026. No macro, syntax, notation, axiom, sorry.
-/
import Derived.Test.YtdpffbhgkldphaaDoorChecked
import GoSem.Claim
import GoSem.ClaimJoined
import GoSem.ClaimMapViews
import Derived.JoinedTies
import Derived.KernelRfl
namespace Go.Proofs.YtdpffbhgkldphaaDoor
/- THE CELL 'sum', in the pinned program and in every row, IS THE sha256 OF THE DUMP (.gsa) THAT YtdpffbhgkldphaaDoorProg.lean LOADS. Nothing in Lean hashes anything: it is a label: what it is worth is what the hold of that sum in a sandbox is worth. -/
noncomputable def Tryd.pinned : Pinned := { name := "ytdpffbhgkldphaadoor", sum := "fcf52b70733ed78cec1c9e77204c06b598daba2868f10d010bb24ee43e59f3a3", checked := Tryd.checked }
namespace Rows
def none {H : Type} : Left H := { results := [], args := [] }

/- WHAT THE LISTED PACKAGE-LEVEL VARIABLES READ AS WHEN THE CALL BEGINS. Each datum BY PROGRAM (the guide's laid-datum.mjs) off the statement by which the dump's own 'gosem.cut.vars' lays the variable. In a bare row this is a premise. The card (YtdpffbhgkldphaaDoorCards.lean) ties it to the program's text. -/
def laid_rolodex_lmots_forms {H : Type} : DataW H := .agg [.agg [.lit (.int .i64 0), .lit (.int .i64 0), .lit (.int .i64 0)], .agg [.lit (.int .i64 1), .lit (.int .i64 265), .lit (.int .i64 7)], .agg [.lit (.int .i64 2), .lit (.int .i64 133), .lit (.int .i64 6)], .agg [.lit (.int .i64 4), .lit (.int .i64 67), .lit (.int .i64 4)], .agg [.lit (.int .i64 8), .lit (.int .i64 34), .lit (.int .i64 0)]]
def laid_rolodex_hash_begin {H : Type} : DataW H := .agg [.lit (.int .u32 1779033703), .lit (.int .u32 3144134277), .lit (.int .u32 1013904242), .lit (.int .u32 2773480762), .lit (.int .u32 1359893119), .lit (.int .u32 2600822924), .lit (.int .u32 528734635), .lit (.int .u32 1541459225)]
def laid_rolodex_hash_rounds {H : Type} : DataW H := .agg [.lit (.int .u32 1116352408), .lit (.int .u32 1899447441), .lit (.int .u32 3049323471), .lit (.int .u32 3921009573), .lit (.int .u32 961987163), .lit (.int .u32 1508970993), .lit (.int .u32 2453635748), .lit (.int .u32 2870763221), .lit (.int .u32 3624381080), .lit (.int .u32 310598401), .lit (.int .u32 607225278), .lit (.int .u32 1426881987), .lit (.int .u32 1925078388), .lit (.int .u32 2162078206), .lit (.int .u32 2614888103), .lit (.int .u32 3248222580), .lit (.int .u32 3835390401), .lit (.int .u32 4022224774), .lit (.int .u32 264347078), .lit (.int .u32 604807628), .lit (.int .u32 770255983), .lit (.int .u32 1249150122), .lit (.int .u32 1555081692), .lit (.int .u32 1996064986), .lit (.int .u32 2554220882), .lit (.int .u32 2821834349), .lit (.int .u32 2952996808), .lit (.int .u32 3210313671), .lit (.int .u32 3336571891), .lit (.int .u32 3584528711), .lit (.int .u32 113926993), .lit (.int .u32 338241895), .lit (.int .u32 666307205), .lit (.int .u32 773529912), .lit (.int .u32 1294757372), .lit (.int .u32 1396182291), .lit (.int .u32 1695183700), .lit (.int .u32 1986661051), .lit (.int .u32 2177026350), .lit (.int .u32 2456956037), .lit (.int .u32 2730485921), .lit (.int .u32 2820302411), .lit (.int .u32 3259730800), .lit (.int .u32 3345764771), .lit (.int .u32 3516065817), .lit (.int .u32 3600352804), .lit (.int .u32 4094571909), .lit (.int .u32 275423344), .lit (.int .u32 430227734), .lit (.int .u32 506948616), .lit (.int .u32 659060556), .lit (.int .u32 883997877), .lit (.int .u32 958139571), .lit (.int .u32 1322822218), .lit (.int .u32 1537002063), .lit (.int .u32 1747873779), .lit (.int .u32 1955562222), .lit (.int .u32 2024104815), .lit (.int .u32 2227730452), .lit (.int .u32 2361852424), .lit (.int .u32 2428436474), .lit (.int .u32 2756734187), .lit (.int .u32 3204031479), .lit (.int .u32 3329325298)]

/-- 'rolodexlaw04.LmotsForms': WHATEVER THE INPUT: true; the input reads as it did. -/
def lmotsFormsSpec : ChangeSpec := { name := "lmotsForms", fn := fun _ => fun
  | [d1, d2] => { results := [.lit (.bool true)], args := [d1, d2] }
  | _ => none }
def lmotsFormsRow : OpenClaim := { program := "ytdpffbhgkldphaadoor", sum := "fcf52b70733ed78cec1c9e77204c06b598daba2868f10d010bb24ee43e59f3a3", func := "rolodex/rolodexlaw04.LmotsForms", spec := "lmotsForms", unfollowed := true, recurses := true, named := ["rolodex/lmots.forms"], apart := false, laid := [("rolodex/lmots.forms", laid_rolodex_lmots_forms)] }
def LmotsFormsSaid : Prop := lmotsFormsRow.holds Tryd.pinned (OpenSpec.ofChange lmotsFormsSpec)

/-- ITS FALSE NEIGHBOUR: 'it returns false'. Refute it at one input. -/
def lmotsFormsWrong : ChangeSpec := { name := "lmotsForms", fn := fun _ => fun
  | [d1, d2] => { results := [.lit (.bool false)], args := [d1, d2] }
  | _ => none }
def LmotsFormsWrongFalsely : Prop := lmotsFormsRow.holds Tryd.pinned (OpenSpec.ofChange lmotsFormsWrong)

/-- 'rolodexlaw04.LmotsLess': WHATEVER THE INPUT: true; the input reads as it did. -/
def lmotsLessSpec : ChangeSpec := { name := "lmotsLess", fn := fun _ => fun
  | [d1, d2, d3] => { results := [.lit (.bool true)], args := [d1, d2, d3] }
  | _ => none }
def lmotsLessRow : OpenClaim := { program := "ytdpffbhgkldphaadoor", sum := "fcf52b70733ed78cec1c9e77204c06b598daba2868f10d010bb24ee43e59f3a3", func := "rolodex/rolodexlaw04.LmotsLess", spec := "lmotsLess", unfollowed := true, recurses := true, named := ["rolodex/lmots.forms"], apart := false, laid := [("rolodex/lmots.forms", laid_rolodex_lmots_forms)] }
def LmotsLessSaid : Prop := lmotsLessRow.holds Tryd.pinned (OpenSpec.ofChange lmotsLessSpec)

/-- ITS FALSE NEIGHBOUR: 'it returns false'. Refute it at one input. -/
def lmotsLessWrong : ChangeSpec := { name := "lmotsLess", fn := fun _ => fun
  | [d1, d2, d3] => { results := [.lit (.bool false)], args := [d1, d2, d3] }
  | _ => none }
def LmotsLessWrongFalsely : Prop := lmotsLessRow.holds Tryd.pinned (OpenSpec.ofChange lmotsLessWrong)

/-- 'rolodexlaw02.HashSums': WHATEVER THE INPUT: true; the input reads as it did. -/
def hashSumsSpec : ChangeSpec := { name := "hashSums", fn := fun _ => fun
  | [d] => { results := [.lit (.bool true)], args := [d] }
  | _ => none }
def hashSumsRow : OpenClaim := { program := "ytdpffbhgkldphaadoor", sum := "fcf52b70733ed78cec1c9e77204c06b598daba2868f10d010bb24ee43e59f3a3", func := "rolodex/rolodexlaw02.HashSums", spec := "hashSums", named := ["rolodex/hash.begin", "rolodex/hash.rounds"], apart := false, laid := [("rolodex/hash.begin", laid_rolodex_hash_begin), ("rolodex/hash.rounds", laid_rolodex_hash_rounds)] }
def HashSumsSaid : Prop := hashSumsRow.holds Tryd.pinned (OpenSpec.ofChange hashSumsSpec)

/-- ITS FALSE NEIGHBOUR: 'it returns false'. Refute it at one input. -/
def hashSumsWrong : ChangeSpec := { name := "hashSums", fn := fun _ => fun
  | [d] => { results := [.lit (.bool false)], args := [d] }
  | _ => none }
def HashSumsWrongFalsely : Prop := hashSumsRow.holds Tryd.pinned (OpenSpec.ofChange hashSumsWrong)

/-- 'rolodexlaw02.HashClashes': WHATEVER THE INPUT: true; the input reads as it did. -/
def hashClashesSpec : ChangeSpec := { name := "hashClashes", fn := fun _ => fun
  | [d1, d2] => { results := [.lit (.bool true)], args := [d1, d2] }
  | _ => none }
def hashClashesRow : OpenClaim := { program := "ytdpffbhgkldphaadoor", sum := "fcf52b70733ed78cec1c9e77204c06b598daba2868f10d010bb24ee43e59f3a3", func := "rolodex/rolodexlaw02.HashClashes", spec := "hashClashes", named := ["rolodex/hash.begin", "rolodex/hash.rounds"], apart := false, laid := [("rolodex/hash.begin", laid_rolodex_hash_begin), ("rolodex/hash.rounds", laid_rolodex_hash_rounds)] }
def HashClashesSaid : Prop := hashClashesRow.holds Tryd.pinned (OpenSpec.ofChange hashClashesSpec)

/-- ITS FALSE NEIGHBOUR: 'it returns false'. Refute it at one input. -/
def hashClashesWrong : ChangeSpec := { name := "hashClashes", fn := fun _ => fun
  | [d1, d2] => { results := [.lit (.bool false)], args := [d1, d2] }
  | _ => none }
def HashClashesWrongFalsely : Prop := hashClashesRow.holds Tryd.pinned (OpenSpec.ofChange hashClashesWrong)

/-- 'rolodexlaw02.HashApart': WHATEVER THE INPUT: true; the input reads as it did. -/
def hashApartSpec : ChangeSpec := { name := "hashApart", fn := fun _ => fun
  | [d1, d2] => { results := [.lit (.bool true)], args := [d1, d2] }
  | _ => none }
def hashApartRow : OpenClaim := { program := "ytdpffbhgkldphaadoor", sum := "fcf52b70733ed78cec1c9e77204c06b598daba2868f10d010bb24ee43e59f3a3", func := "rolodex/rolodexlaw02.HashApart", spec := "hashApart", named := ["rolodex/hash.begin", "rolodex/hash.rounds"], apart := false, laid := [("rolodex/hash.begin", laid_rolodex_hash_begin), ("rolodex/hash.rounds", laid_rolodex_hash_rounds)] }
def HashApartSaid : Prop := hashApartRow.holds Tryd.pinned (OpenSpec.ofChange hashApartSpec)

/-- ITS FALSE NEIGHBOUR: 'it returns false'. Refute it at one input. -/
def hashApartWrong : ChangeSpec := { name := "hashApart", fn := fun _ => fun
  | [d1, d2] => { results := [.lit (.bool false)], args := [d1, d2] }
  | _ => none }
def HashApartWrongFalsely : Prop := hashApartRow.holds Tryd.pinned (OpenSpec.ofChange hashApartWrong)

/-- 'rolodexlaw02.HashTexts': WHATEVER THE INPUT: true; the input reads as it did. -/
def hashTextsSpec : ChangeSpec := { name := "hashTexts", fn := fun _ => fun
  | [d1, d2] => { results := [.lit (.bool true)], args := [d1, d2] }
  | _ => none }
def hashTextsRow : OpenClaim := { program := "ytdpffbhgkldphaadoor", sum := "fcf52b70733ed78cec1c9e77204c06b598daba2868f10d010bb24ee43e59f3a3", func := "rolodex/rolodexlaw02.HashTexts", spec := "hashTexts", named := ["rolodex/hash.begin", "rolodex/hash.rounds"], apart := false, laid := [("rolodex/hash.begin", laid_rolodex_hash_begin), ("rolodex/hash.rounds", laid_rolodex_hash_rounds)] }
def HashTextsSaid : Prop := hashTextsRow.holds Tryd.pinned (OpenSpec.ofChange hashTextsSpec)

/-- ITS FALSE NEIGHBOUR: 'it returns false'. Refute it at one input. -/
def hashTextsWrong : ChangeSpec := { name := "hashTexts", fn := fun _ => fun
  | [d1, d2] => { results := [.lit (.bool false)], args := [d1, d2] }
  | _ => none }
def HashTextsWrongFalsely : Prop := hashTextsRow.holds Tryd.pinned (OpenSpec.ofChange hashTextsWrong)

/-- 'rolodexlaw02.HashOwn': WHATEVER THE INPUT: true; the input reads as it did. -/
def hashOwnSpec : ChangeSpec := { name := "hashOwn", fn := fun _ => fun
  | [d1, d2] => { results := [.lit (.bool true)], args := [d1, d2] }
  | _ => none }
def hashOwnRow : OpenClaim := { program := "ytdpffbhgkldphaadoor", sum := "fcf52b70733ed78cec1c9e77204c06b598daba2868f10d010bb24ee43e59f3a3", func := "rolodex/rolodexlaw02.HashOwn", spec := "hashOwn", named := ["rolodex/hash.begin", "rolodex/hash.rounds"], apart := false, laid := [("rolodex/hash.begin", laid_rolodex_hash_begin), ("rolodex/hash.rounds", laid_rolodex_hash_rounds)] }
def HashOwnSaid : Prop := hashOwnRow.holds Tryd.pinned (OpenSpec.ofChange hashOwnSpec)

/-- ITS FALSE NEIGHBOUR: 'it returns false'. Refute it at one input. -/
def hashOwnWrong : ChangeSpec := { name := "hashOwn", fn := fun _ => fun
  | [d1, d2] => { results := [.lit (.bool false)], args := [d1, d2] }
  | _ => none }
def HashOwnWrongFalsely : Prop := hashOwnRow.holds Tryd.pinned (OpenSpec.ofChange hashOwnWrong)

/-- 'rolodexlaw04.LmotsPublic': WHATEVER THE INPUT: true; the input reads as it did. -/
def lmotsPublicSpec : ChangeSpec := { name := "lmotsPublic", fn := fun _ => fun
  | [d] => { results := [.lit (.bool true)], args := [d] }
  | _ => none }
def lmotsPublicRow : OpenClaim := { program := "ytdpffbhgkldphaadoor", sum := "fcf52b70733ed78cec1c9e77204c06b598daba2868f10d010bb24ee43e59f3a3", func := "rolodex/rolodexlaw04.LmotsPublic", spec := "lmotsPublic", unfollowed := true, recurses := true, named := ["rolodex/lmots.forms", "rolodex/hash.begin", "rolodex/hash.rounds"], apart := false, laid := [("rolodex/hash.begin", laid_rolodex_hash_begin), ("rolodex/hash.rounds", laid_rolodex_hash_rounds), ("rolodex/lmots.forms", laid_rolodex_lmots_forms)] }
def LmotsPublicSaid : Prop := lmotsPublicRow.holds Tryd.pinned (OpenSpec.ofChange lmotsPublicSpec)

/-- ITS FALSE NEIGHBOUR: 'it returns false'. Refute it at one input. -/
def lmotsPublicWrong : ChangeSpec := { name := "lmotsPublic", fn := fun _ => fun
  | [d] => { results := [.lit (.bool false)], args := [d] }
  | _ => none }
def LmotsPublicWrongFalsely : Prop := lmotsPublicRow.holds Tryd.pinned (OpenSpec.ofChange lmotsPublicWrong)

/-- 'rolodexlaw04.LmotsSigns': WHATEVER THE INPUT: true; the input reads as it did. -/
def lmotsSignsSpec : ChangeSpec := { name := "lmotsSigns", fn := fun _ => fun
  | [d1, d2] => { results := [.lit (.bool true)], args := [d1, d2] }
  | _ => none }
def lmotsSignsRow : OpenClaim := { program := "ytdpffbhgkldphaadoor", sum := "fcf52b70733ed78cec1c9e77204c06b598daba2868f10d010bb24ee43e59f3a3", func := "rolodex/rolodexlaw04.LmotsSigns", spec := "lmotsSigns", unfollowed := true, recurses := true, named := ["rolodex/lmots.forms", "rolodex/hash.begin", "rolodex/hash.rounds"], apart := false, laid := [("rolodex/hash.begin", laid_rolodex_hash_begin), ("rolodex/hash.rounds", laid_rolodex_hash_rounds), ("rolodex/lmots.forms", laid_rolodex_lmots_forms)] }
def LmotsSignsSaid : Prop := lmotsSignsRow.holds Tryd.pinned (OpenSpec.ofChange lmotsSignsSpec)

/-- ITS FALSE NEIGHBOUR: 'it returns false'. Refute it at one input. -/
def lmotsSignsWrong : ChangeSpec := { name := "lmotsSigns", fn := fun _ => fun
  | [d1, d2] => { results := [.lit (.bool false)], args := [d1, d2] }
  | _ => none }
def LmotsSignsWrongFalsely : Prop := lmotsSignsRow.holds Tryd.pinned (OpenSpec.ofChange lmotsSignsWrong)

/-- 'rolodexlaw04.LmotsRecovers': WHATEVER THE INPUT: true; the input reads as it did. -/
def lmotsRecoversSpec : ChangeSpec := { name := "lmotsRecovers", fn := fun _ => fun
  | [d1, d2, d3] => { results := [.lit (.bool true)], args := [d1, d2, d3] }
  | _ => none }
def lmotsRecoversRow : OpenClaim := { program := "ytdpffbhgkldphaadoor", sum := "fcf52b70733ed78cec1c9e77204c06b598daba2868f10d010bb24ee43e59f3a3", func := "rolodex/rolodexlaw04.LmotsRecovers", spec := "lmotsRecovers", unfollowed := true, recurses := true, named := ["rolodex/lmots.forms", "rolodex/hash.begin", "rolodex/hash.rounds"], apart := false, laid := [("rolodex/hash.begin", laid_rolodex_hash_begin), ("rolodex/hash.rounds", laid_rolodex_hash_rounds), ("rolodex/lmots.forms", laid_rolodex_lmots_forms)] }
def LmotsRecoversSaid : Prop := lmotsRecoversRow.holds Tryd.pinned (OpenSpec.ofChange lmotsRecoversSpec)

/-- ITS FALSE NEIGHBOUR: 'it returns false'. Refute it at one input. -/
def lmotsRecoversWrong : ChangeSpec := { name := "lmotsRecovers", fn := fun _ => fun
  | [d1, d2, d3] => { results := [.lit (.bool false)], args := [d1, d2, d3] }
  | _ => none }
def LmotsRecoversWrongFalsely : Prop := lmotsRecoversRow.holds Tryd.pinned (OpenSpec.ofChange lmotsRecoversWrong)

/-- 'rolodexlaw04.LmotsCuts': WHATEVER THE INPUT: true; the input reads as it did. -/
def lmotsCutsSpec : ChangeSpec := { name := "lmotsCuts", fn := fun _ => fun
  | [d1, d2, d3] => { results := [.lit (.bool true)], args := [d1, d2, d3] }
  | _ => none }
def lmotsCutsRow : OpenClaim := { program := "ytdpffbhgkldphaadoor", sum := "fcf52b70733ed78cec1c9e77204c06b598daba2868f10d010bb24ee43e59f3a3", func := "rolodex/rolodexlaw04.LmotsCuts", spec := "lmotsCuts", unfollowed := true, recurses := true, named := ["rolodex/lmots.forms", "rolodex/hash.begin", "rolodex/hash.rounds"], apart := false, laid := [("rolodex/hash.begin", laid_rolodex_hash_begin), ("rolodex/hash.rounds", laid_rolodex_hash_rounds), ("rolodex/lmots.forms", laid_rolodex_lmots_forms)] }
def LmotsCutsSaid : Prop := lmotsCutsRow.holds Tryd.pinned (OpenSpec.ofChange lmotsCutsSpec)

/-- ITS FALSE NEIGHBOUR: 'it returns false'. Refute it at one input. -/
def lmotsCutsWrong : ChangeSpec := { name := "lmotsCuts", fn := fun _ => fun
  | [d1, d2, d3] => { results := [.lit (.bool false)], args := [d1, d2, d3] }
  | _ => none }
def LmotsCutsWrongFalsely : Prop := lmotsCutsRow.holds Tryd.pinned (OpenSpec.ofChange lmotsCutsWrong)

/-- 'rolodexlaw04.LmotsRight': WHATEVER THE INPUT: true; the input reads as it did. -/
def lmotsRightSpec : ChangeSpec := { name := "lmotsRight", fn := fun _ => fun
  | [d1, d2] => { results := [.lit (.bool true)], args := [d1, d2] }
  | _ => none }
def lmotsRightRow : OpenClaim := { program := "ytdpffbhgkldphaadoor", sum := "fcf52b70733ed78cec1c9e77204c06b598daba2868f10d010bb24ee43e59f3a3", func := "rolodex/rolodexlaw04.LmotsRight", spec := "lmotsRight", unfollowed := true, recurses := true, named := ["rolodex/lmots.forms", "rolodex/hash.begin", "rolodex/hash.rounds"], apart := false, laid := [("rolodex/hash.begin", laid_rolodex_hash_begin), ("rolodex/hash.rounds", laid_rolodex_hash_rounds), ("rolodex/lmots.forms", laid_rolodex_lmots_forms)] }
def LmotsRightSaid : Prop := lmotsRightRow.holds Tryd.pinned (OpenSpec.ofChange lmotsRightSpec)

/-- ITS FALSE NEIGHBOUR: 'it returns false'. Refute it at one input. -/
def lmotsRightWrong : ChangeSpec := { name := "lmotsRight", fn := fun _ => fun
  | [d1, d2] => { results := [.lit (.bool false)], args := [d1, d2] }
  | _ => none }
def LmotsRightWrongFalsely : Prop := lmotsRightRow.holds Tryd.pinned (OpenSpec.ofChange lmotsRightWrong)

/- THE SECOND FORM. 'bulk': how many values and letters a reading holds, each counted each time it is reached (what is shared counts as often as it is met; a slice's spare places count too). A statement '..UptoSaid' is the law's where the arguments, and the package variables that the reading takes, are together of bulk at most 1048576: NARROWER than '..Said'. Prove '..Said' where nothing that the law and all that it calls make is longer than what came in: it says more and counts as full. Else prove '..UptoSaid'. A law counts once. -/
mutual
def uptoBulk {H : Type} : DataW H → Nat
  | .lit (.string bytes) => bytes.length + 1
  | .lit _ => 1
  | .nil => 1
  | .ptr d => uptoBulk d + 1
  | .slice elems spare => uptoBulkAll elems + uptoBulkAll spare + 1
  | .agg parts => uptoBulkAll parts + 1
  | .iface _ d => uptoBulk d + 1
  | .map entries => uptoBulkEntries entries + 1
  | .held _ => 1
def uptoBulkAll {H : Type} : List (DataW H) → Nat
  | [] => 0
  | d :: r => uptoBulk d + uptoBulkAll r
def uptoBulkEntries {H : Type} : List (Lit × DataW H) → Nat
  | [] => 0
  | x :: r => uptoBulkEntry x + uptoBulkEntries r
def uptoBulkEntry {H : Type} : Lit × DataW H → Nat
  | (.string bytes, d) => bytes.length + uptoBulk d + 1
  | (_, d) => uptoBulk d + 1
 end
def uptoSmall : (H : Type) → List (DataW H) → Bool := fun _ ds => decide (uptoBulkAll ds ≤ 1048576)
def OpenSpec.upto (s : _root_.Go.ChangeSpec) : _root_.Go.OpenSpec := { _root_.Go.OpenSpec.ofChange s with cond := some uptoSmall }

/-- 'rolodexlaw04.LmotsForms', WHERE WHAT IT READS IS OF BULK AT MOST 1048576: true; the input reads as it did. -/
def lmotsFormsUptoRow : OpenClaim := { program := "ytdpffbhgkldphaadoor", sum := "fcf52b70733ed78cec1c9e77204c06b598daba2868f10d010bb24ee43e59f3a3", func := "rolodex/rolodexlaw04.LmotsForms", spec := "lmotsForms", unfollowed := true, recurses := true, named := ["rolodex/lmots.forms"], apart := false, laid := [("rolodex/lmots.forms", laid_rolodex_lmots_forms)], narrowed := true }
def LmotsFormsUptoSaid : Prop := lmotsFormsUptoRow.holds Tryd.pinned (OpenSpec.upto lmotsFormsSpec)

/-- 'rolodexlaw04.LmotsLess', WHERE WHAT IT READS IS OF BULK AT MOST 1048576: true; the input reads as it did. -/
def lmotsLessUptoRow : OpenClaim := { program := "ytdpffbhgkldphaadoor", sum := "fcf52b70733ed78cec1c9e77204c06b598daba2868f10d010bb24ee43e59f3a3", func := "rolodex/rolodexlaw04.LmotsLess", spec := "lmotsLess", unfollowed := true, recurses := true, named := ["rolodex/lmots.forms"], apart := false, laid := [("rolodex/lmots.forms", laid_rolodex_lmots_forms)], narrowed := true }
def LmotsLessUptoSaid : Prop := lmotsLessUptoRow.holds Tryd.pinned (OpenSpec.upto lmotsLessSpec)

/-- 'rolodexlaw02.HashSums', WHERE WHAT IT READS IS OF BULK AT MOST 1048576: true; the input reads as it did. -/
def hashSumsUptoRow : OpenClaim := { program := "ytdpffbhgkldphaadoor", sum := "fcf52b70733ed78cec1c9e77204c06b598daba2868f10d010bb24ee43e59f3a3", func := "rolodex/rolodexlaw02.HashSums", spec := "hashSums", named := ["rolodex/hash.begin", "rolodex/hash.rounds"], apart := false, laid := [("rolodex/hash.begin", laid_rolodex_hash_begin), ("rolodex/hash.rounds", laid_rolodex_hash_rounds)], narrowed := true }
def HashSumsUptoSaid : Prop := hashSumsUptoRow.holds Tryd.pinned (OpenSpec.upto hashSumsSpec)

/-- 'rolodexlaw02.HashClashes', WHERE WHAT IT READS IS OF BULK AT MOST 1048576: true; the input reads as it did. -/
def hashClashesUptoRow : OpenClaim := { program := "ytdpffbhgkldphaadoor", sum := "fcf52b70733ed78cec1c9e77204c06b598daba2868f10d010bb24ee43e59f3a3", func := "rolodex/rolodexlaw02.HashClashes", spec := "hashClashes", named := ["rolodex/hash.begin", "rolodex/hash.rounds"], apart := false, laid := [("rolodex/hash.begin", laid_rolodex_hash_begin), ("rolodex/hash.rounds", laid_rolodex_hash_rounds)], narrowed := true }
def HashClashesUptoSaid : Prop := hashClashesUptoRow.holds Tryd.pinned (OpenSpec.upto hashClashesSpec)

/-- 'rolodexlaw02.HashApart', WHERE WHAT IT READS IS OF BULK AT MOST 1048576: true; the input reads as it did. -/
def hashApartUptoRow : OpenClaim := { program := "ytdpffbhgkldphaadoor", sum := "fcf52b70733ed78cec1c9e77204c06b598daba2868f10d010bb24ee43e59f3a3", func := "rolodex/rolodexlaw02.HashApart", spec := "hashApart", named := ["rolodex/hash.begin", "rolodex/hash.rounds"], apart := false, laid := [("rolodex/hash.begin", laid_rolodex_hash_begin), ("rolodex/hash.rounds", laid_rolodex_hash_rounds)], narrowed := true }
def HashApartUptoSaid : Prop := hashApartUptoRow.holds Tryd.pinned (OpenSpec.upto hashApartSpec)

/-- 'rolodexlaw02.HashTexts', WHERE WHAT IT READS IS OF BULK AT MOST 1048576: true; the input reads as it did. -/
def hashTextsUptoRow : OpenClaim := { program := "ytdpffbhgkldphaadoor", sum := "fcf52b70733ed78cec1c9e77204c06b598daba2868f10d010bb24ee43e59f3a3", func := "rolodex/rolodexlaw02.HashTexts", spec := "hashTexts", named := ["rolodex/hash.begin", "rolodex/hash.rounds"], apart := false, laid := [("rolodex/hash.begin", laid_rolodex_hash_begin), ("rolodex/hash.rounds", laid_rolodex_hash_rounds)], narrowed := true }
def HashTextsUptoSaid : Prop := hashTextsUptoRow.holds Tryd.pinned (OpenSpec.upto hashTextsSpec)

/-- 'rolodexlaw02.HashOwn', WHERE WHAT IT READS IS OF BULK AT MOST 1048576: true; the input reads as it did. -/
def hashOwnUptoRow : OpenClaim := { program := "ytdpffbhgkldphaadoor", sum := "fcf52b70733ed78cec1c9e77204c06b598daba2868f10d010bb24ee43e59f3a3", func := "rolodex/rolodexlaw02.HashOwn", spec := "hashOwn", named := ["rolodex/hash.begin", "rolodex/hash.rounds"], apart := false, laid := [("rolodex/hash.begin", laid_rolodex_hash_begin), ("rolodex/hash.rounds", laid_rolodex_hash_rounds)], narrowed := true }
def HashOwnUptoSaid : Prop := hashOwnUptoRow.holds Tryd.pinned (OpenSpec.upto hashOwnSpec)

/-- 'rolodexlaw04.LmotsPublic', WHERE WHAT IT READS IS OF BULK AT MOST 1048576: true; the input reads as it did. -/
def lmotsPublicUptoRow : OpenClaim := { program := "ytdpffbhgkldphaadoor", sum := "fcf52b70733ed78cec1c9e77204c06b598daba2868f10d010bb24ee43e59f3a3", func := "rolodex/rolodexlaw04.LmotsPublic", spec := "lmotsPublic", unfollowed := true, recurses := true, named := ["rolodex/lmots.forms", "rolodex/hash.begin", "rolodex/hash.rounds"], apart := false, laid := [("rolodex/hash.begin", laid_rolodex_hash_begin), ("rolodex/hash.rounds", laid_rolodex_hash_rounds), ("rolodex/lmots.forms", laid_rolodex_lmots_forms)], narrowed := true }
def LmotsPublicUptoSaid : Prop := lmotsPublicUptoRow.holds Tryd.pinned (OpenSpec.upto lmotsPublicSpec)

/-- 'rolodexlaw04.LmotsSigns', WHERE WHAT IT READS IS OF BULK AT MOST 1048576: true; the input reads as it did. -/
def lmotsSignsUptoRow : OpenClaim := { program := "ytdpffbhgkldphaadoor", sum := "fcf52b70733ed78cec1c9e77204c06b598daba2868f10d010bb24ee43e59f3a3", func := "rolodex/rolodexlaw04.LmotsSigns", spec := "lmotsSigns", unfollowed := true, recurses := true, named := ["rolodex/lmots.forms", "rolodex/hash.begin", "rolodex/hash.rounds"], apart := false, laid := [("rolodex/hash.begin", laid_rolodex_hash_begin), ("rolodex/hash.rounds", laid_rolodex_hash_rounds), ("rolodex/lmots.forms", laid_rolodex_lmots_forms)], narrowed := true }
def LmotsSignsUptoSaid : Prop := lmotsSignsUptoRow.holds Tryd.pinned (OpenSpec.upto lmotsSignsSpec)

/-- 'rolodexlaw04.LmotsRecovers', WHERE WHAT IT READS IS OF BULK AT MOST 1048576: true; the input reads as it did. -/
def lmotsRecoversUptoRow : OpenClaim := { program := "ytdpffbhgkldphaadoor", sum := "fcf52b70733ed78cec1c9e77204c06b598daba2868f10d010bb24ee43e59f3a3", func := "rolodex/rolodexlaw04.LmotsRecovers", spec := "lmotsRecovers", unfollowed := true, recurses := true, named := ["rolodex/lmots.forms", "rolodex/hash.begin", "rolodex/hash.rounds"], apart := false, laid := [("rolodex/hash.begin", laid_rolodex_hash_begin), ("rolodex/hash.rounds", laid_rolodex_hash_rounds), ("rolodex/lmots.forms", laid_rolodex_lmots_forms)], narrowed := true }
def LmotsRecoversUptoSaid : Prop := lmotsRecoversUptoRow.holds Tryd.pinned (OpenSpec.upto lmotsRecoversSpec)

/-- 'rolodexlaw04.LmotsCuts', WHERE WHAT IT READS IS OF BULK AT MOST 1048576: true; the input reads as it did. -/
def lmotsCutsUptoRow : OpenClaim := { program := "ytdpffbhgkldphaadoor", sum := "fcf52b70733ed78cec1c9e77204c06b598daba2868f10d010bb24ee43e59f3a3", func := "rolodex/rolodexlaw04.LmotsCuts", spec := "lmotsCuts", unfollowed := true, recurses := true, named := ["rolodex/lmots.forms", "rolodex/hash.begin", "rolodex/hash.rounds"], apart := false, laid := [("rolodex/hash.begin", laid_rolodex_hash_begin), ("rolodex/hash.rounds", laid_rolodex_hash_rounds), ("rolodex/lmots.forms", laid_rolodex_lmots_forms)], narrowed := true }
def LmotsCutsUptoSaid : Prop := lmotsCutsUptoRow.holds Tryd.pinned (OpenSpec.upto lmotsCutsSpec)

/-- 'rolodexlaw04.LmotsRight', WHERE WHAT IT READS IS OF BULK AT MOST 1048576: true; the input reads as it did. -/
def lmotsRightUptoRow : OpenClaim := { program := "ytdpffbhgkldphaadoor", sum := "fcf52b70733ed78cec1c9e77204c06b598daba2868f10d010bb24ee43e59f3a3", func := "rolodex/rolodexlaw04.LmotsRight", spec := "lmotsRight", unfollowed := true, recurses := true, named := ["rolodex/lmots.forms", "rolodex/hash.begin", "rolodex/hash.rounds"], apart := false, laid := [("rolodex/hash.begin", laid_rolodex_hash_begin), ("rolodex/hash.rounds", laid_rolodex_hash_rounds), ("rolodex/lmots.forms", laid_rolodex_lmots_forms)], narrowed := true }
def LmotsRightUptoSaid : Prop := lmotsRightUptoRow.holds Tryd.pinned (OpenSpec.upto lmotsRightSpec)

end Rows
end Go.Proofs.YtdpffbhgkldphaaDoor
