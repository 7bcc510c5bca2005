/-
  NARROWER THAN 'FOR EVERY INPUT', by the rows' own cells (each row's printed sentence says how): ChainGrows: laid · ChainHashes: laid · ChainSound: laid · ChainForms: laid · ChainBuilds: laid · MonitorCut: laid · MonitorLooks: laid · MonitorAll: laid · MonitorOwn: laid · MonitorHistory: laid.
  DERIVED. THE GIVEN ROWS OF THIS SEAT. 10 by the template 'for every input the law returns true; each argument reads behind the call as it read before'; 0 by the template 'total and deterministic' (their statements: YtodeiommhponnaaDoorTotals.lean).
  GIVEN WITH THE SEED: the statements are not yours to turn. If you find one false, say at which input.
  Laid BY PROGRAM, IN A SANDBOX (cutbox-rows.mjs): the forced cells as the released guide's own fill.sh prints them over the translation 823576c7b245120b… (all of the seat's roots in one cut). By AI agents, Wed Nov 11 2026. No macro, syntax, notation, axiom, sorry.
-/
import Derived.Test.YtodeiommhponnaaDoorChecked
import GoSem.Claim
import GoSem.ClaimJoined
import GoSem.ClaimMapViews
import Derived.JoinedTies
import Derived.KernelRfl
namespace Go.Proofs.YtodeiommhponnaaDoor
/- THE CELL 'sum', in the pinned program and in every row, IS THE sha256 OF THE DUMP (.gsa) THAT YtodeiommhponnaaDoorProg.lean LOADS. Nothing in Lean hashes anything: it is a label: what it is worth is what the hold of that sum in a sandbox is worth. -/
noncomputable def Tryd.pinned : Pinned := { name := "ytodeiommhponnaadoor", sum := "823576c7b245120b6ed3adfd71375df4c4f36ff7309e5e4e25b205c6418239e5", checked := Tryd.checked }
namespace Rows
def none {H : Type} : Left H := { results := [], args := [] }

/- WHAT THE LISTED PACKAGE-LEVEL VARIABLES READ AS WHEN THE CALL BEGINS. Each datum BY PROGRAM (the guide's laid-datum.mjs) off the statement by which the dump's own 'gosem.cut.vars' lays the variable. In a bare row this is a premise. The card (YtodeiommhponnaaDoorCards.lean) ties it to the program's text. -/
def laid_rolodex_hash_begin {H : Type} : DataW H := .agg [.lit (.int .u32 1779033703), .lit (.int .u32 3144134277), .lit (.int .u32 1013904242), .lit (.int .u32 2773480762), .lit (.int .u32 1359893119), .lit (.int .u32 2600822924), .lit (.int .u32 528734635), .lit (.int .u32 1541459225)]
def laid_rolodex_hash_rounds {H : Type} : DataW H := .agg [.lit (.int .u32 1116352408), .lit (.int .u32 1899447441), .lit (.int .u32 3049323471), .lit (.int .u32 3921009573), .lit (.int .u32 961987163), .lit (.int .u32 1508970993), .lit (.int .u32 2453635748), .lit (.int .u32 2870763221), .lit (.int .u32 3624381080), .lit (.int .u32 310598401), .lit (.int .u32 607225278), .lit (.int .u32 1426881987), .lit (.int .u32 1925078388), .lit (.int .u32 2162078206), .lit (.int .u32 2614888103), .lit (.int .u32 3248222580), .lit (.int .u32 3835390401), .lit (.int .u32 4022224774), .lit (.int .u32 264347078), .lit (.int .u32 604807628), .lit (.int .u32 770255983), .lit (.int .u32 1249150122), .lit (.int .u32 1555081692), .lit (.int .u32 1996064986), .lit (.int .u32 2554220882), .lit (.int .u32 2821834349), .lit (.int .u32 2952996808), .lit (.int .u32 3210313671), .lit (.int .u32 3336571891), .lit (.int .u32 3584528711), .lit (.int .u32 113926993), .lit (.int .u32 338241895), .lit (.int .u32 666307205), .lit (.int .u32 773529912), .lit (.int .u32 1294757372), .lit (.int .u32 1396182291), .lit (.int .u32 1695183700), .lit (.int .u32 1986661051), .lit (.int .u32 2177026350), .lit (.int .u32 2456956037), .lit (.int .u32 2730485921), .lit (.int .u32 2820302411), .lit (.int .u32 3259730800), .lit (.int .u32 3345764771), .lit (.int .u32 3516065817), .lit (.int .u32 3600352804), .lit (.int .u32 4094571909), .lit (.int .u32 275423344), .lit (.int .u32 430227734), .lit (.int .u32 506948616), .lit (.int .u32 659060556), .lit (.int .u32 883997877), .lit (.int .u32 958139571), .lit (.int .u32 1322822218), .lit (.int .u32 1537002063), .lit (.int .u32 1747873779), .lit (.int .u32 1955562222), .lit (.int .u32 2024104815), .lit (.int .u32 2227730452), .lit (.int .u32 2361852424), .lit (.int .u32 2428436474), .lit (.int .u32 2756734187), .lit (.int .u32 3204031479), .lit (.int .u32 3329325298)]

/-- 'rolodexlaw14.ChainGrows': WHATEVER THE INPUT: true; the input reads as it did. -/
def chainGrowsSpec : ChangeSpec := { name := "chainGrows", fn := fun _ => fun
  | [d1, d2, d3] => { results := [.lit (.bool true)], args := [d1, d2, d3] }
  | _ => none }
def chainGrowsRow : OpenClaim := { program := "ytodeiommhponnaadoor", sum := "823576c7b245120b6ed3adfd71375df4c4f36ff7309e5e4e25b205c6418239e5", func := "rolodex/rolodexlaw14.ChainGrows", spec := "chainGrows", named := ["rolodex/hash.begin", "rolodex/hash.rounds"], apart := false, laid := [("rolodex/hash.begin", laid_rolodex_hash_begin), ("rolodex/hash.rounds", laid_rolodex_hash_rounds)] }
def ChainGrowsSaid : Prop := chainGrowsRow.holds Tryd.pinned (OpenSpec.ofChange chainGrowsSpec)

/-- ITS FALSE NEIGHBOUR: 'it returns false'. Refute it at one input. -/
def chainGrowsWrong : ChangeSpec := { name := "chainGrows", fn := fun _ => fun
  | [d1, d2, d3] => { results := [.lit (.bool false)], args := [d1, d2, d3] }
  | _ => none }
def ChainGrowsWrongFalsely : Prop := chainGrowsRow.holds Tryd.pinned (OpenSpec.ofChange chainGrowsWrong)

/-- 'rolodexlaw14.ChainHashes': WHATEVER THE INPUT: true; the input reads as it did. -/
def chainHashesSpec : ChangeSpec := { name := "chainHashes", fn := fun _ => fun
  | [d1, d2, d3] => { results := [.lit (.bool true)], args := [d1, d2, d3] }
  | _ => none }
def chainHashesRow : OpenClaim := { program := "ytodeiommhponnaadoor", sum := "823576c7b245120b6ed3adfd71375df4c4f36ff7309e5e4e25b205c6418239e5", func := "rolodex/rolodexlaw14.ChainHashes", spec := "chainHashes", named := ["rolodex/hash.begin", "rolodex/hash.rounds"], apart := false, laid := [("rolodex/hash.begin", laid_rolodex_hash_begin), ("rolodex/hash.rounds", laid_rolodex_hash_rounds)] }
def ChainHashesSaid : Prop := chainHashesRow.holds Tryd.pinned (OpenSpec.ofChange chainHashesSpec)

/-- ITS FALSE NEIGHBOUR: 'it returns false'. Refute it at one input. -/
def chainHashesWrong : ChangeSpec := { name := "chainHashes", fn := fun _ => fun
  | [d1, d2, d3] => { results := [.lit (.bool false)], args := [d1, d2, d3] }
  | _ => none }
def ChainHashesWrongFalsely : Prop := chainHashesRow.holds Tryd.pinned (OpenSpec.ofChange chainHashesWrong)

/-- 'rolodexlaw14.ChainSound': WHATEVER THE INPUT: true; the input reads as it did. -/
def chainSoundSpec : ChangeSpec := { name := "chainSound", fn := fun _ => fun
  | [d1, d2, d3] => { results := [.lit (.bool true)], args := [d1, d2, d3] }
  | _ => none }
def chainSoundRow : OpenClaim := { program := "ytodeiommhponnaadoor", sum := "823576c7b245120b6ed3adfd71375df4c4f36ff7309e5e4e25b205c6418239e5", func := "rolodex/rolodexlaw14.ChainSound", spec := "chainSound", named := ["rolodex/hash.begin", "rolodex/hash.rounds"], apart := false, laid := [("rolodex/hash.begin", laid_rolodex_hash_begin), ("rolodex/hash.rounds", laid_rolodex_hash_rounds)] }
def ChainSoundSaid : Prop := chainSoundRow.holds Tryd.pinned (OpenSpec.ofChange chainSoundSpec)

/-- ITS FALSE NEIGHBOUR: 'it returns false'. Refute it at one input. -/
def chainSoundWrong : ChangeSpec := { name := "chainSound", fn := fun _ => fun
  | [d1, d2, d3] => { results := [.lit (.bool false)], args := [d1, d2, d3] }
  | _ => none }
def ChainSoundWrongFalsely : Prop := chainSoundRow.holds Tryd.pinned (OpenSpec.ofChange chainSoundWrong)

/-- 'rolodexlaw14.ChainForms': WHATEVER THE INPUT: true; the input reads as it did. -/
def chainFormsSpec : ChangeSpec := { name := "chainForms", fn := fun _ => fun
  | [d1, d2, d3] => { results := [.lit (.bool true)], args := [d1, d2, d3] }
  | _ => none }
def chainFormsRow : OpenClaim := { program := "ytodeiommhponnaadoor", sum := "823576c7b245120b6ed3adfd71375df4c4f36ff7309e5e4e25b205c6418239e5", func := "rolodex/rolodexlaw14.ChainForms", spec := "chainForms", named := ["rolodex/hash.begin", "rolodex/hash.rounds"], apart := false, laid := [("rolodex/hash.begin", laid_rolodex_hash_begin), ("rolodex/hash.rounds", laid_rolodex_hash_rounds)] }
def ChainFormsSaid : Prop := chainFormsRow.holds Tryd.pinned (OpenSpec.ofChange chainFormsSpec)

/-- ITS FALSE NEIGHBOUR: 'it returns false'. Refute it at one input. -/
def chainFormsWrong : ChangeSpec := { name := "chainForms", fn := fun _ => fun
  | [d1, d2, d3] => { results := [.lit (.bool false)], args := [d1, d2, d3] }
  | _ => none }
def ChainFormsWrongFalsely : Prop := chainFormsRow.holds Tryd.pinned (OpenSpec.ofChange chainFormsWrong)

/-- 'rolodexlaw14.ChainBuilds': WHATEVER THE INPUT: true; the input reads as it did. -/
def chainBuildsSpec : ChangeSpec := { name := "chainBuilds", fn := fun _ => fun
  | [d1, d2, d3] => { results := [.lit (.bool true)], args := [d1, d2, d3] }
  | _ => none }
def chainBuildsRow : OpenClaim := { program := "ytodeiommhponnaadoor", sum := "823576c7b245120b6ed3adfd71375df4c4f36ff7309e5e4e25b205c6418239e5", func := "rolodex/rolodexlaw14.ChainBuilds", spec := "chainBuilds", named := ["rolodex/hash.begin", "rolodex/hash.rounds"], apart := false, laid := [("rolodex/hash.begin", laid_rolodex_hash_begin), ("rolodex/hash.rounds", laid_rolodex_hash_rounds)] }
def ChainBuildsSaid : Prop := chainBuildsRow.holds Tryd.pinned (OpenSpec.ofChange chainBuildsSpec)

/-- ITS FALSE NEIGHBOUR: 'it returns false'. Refute it at one input. -/
def chainBuildsWrong : ChangeSpec := { name := "chainBuilds", fn := fun _ => fun
  | [d1, d2, d3] => { results := [.lit (.bool false)], args := [d1, d2, d3] }
  | _ => none }
def ChainBuildsWrongFalsely : Prop := chainBuildsRow.holds Tryd.pinned (OpenSpec.ofChange chainBuildsWrong)

/-- 'rolodexlaw23.MonitorCut': WHATEVER THE INPUT: true; the input reads as it did. -/
def monitorCutSpec : ChangeSpec := { name := "monitorCut", fn := fun _ => fun
  | [d1, d2, d3] => { results := [.lit (.bool true)], args := [d1, d2, d3] }
  | _ => none }
def monitorCutRow : OpenClaim := { program := "ytodeiommhponnaadoor", sum := "823576c7b245120b6ed3adfd71375df4c4f36ff7309e5e4e25b205c6418239e5", func := "rolodex/rolodexlaw23.MonitorCut", spec := "monitorCut", unfollowed := true, recurses := true, named := ["rolodex/hash.begin", "rolodex/hash.rounds"], apart := false, laid := [("rolodex/hash.begin", laid_rolodex_hash_begin), ("rolodex/hash.rounds", laid_rolodex_hash_rounds)] }
def MonitorCutSaid : Prop := monitorCutRow.holds Tryd.pinned (OpenSpec.ofChange monitorCutSpec)

/-- ITS FALSE NEIGHBOUR: 'it returns false'. Refute it at one input. -/
def monitorCutWrong : ChangeSpec := { name := "monitorCut", fn := fun _ => fun
  | [d1, d2, d3] => { results := [.lit (.bool false)], args := [d1, d2, d3] }
  | _ => none }
def MonitorCutWrongFalsely : Prop := monitorCutRow.holds Tryd.pinned (OpenSpec.ofChange monitorCutWrong)

/-- 'rolodexlaw23.MonitorLooks': WHATEVER THE INPUT: true; the input reads as it did. -/
def monitorLooksSpec : ChangeSpec := { name := "monitorLooks", fn := fun _ => fun
  | [d1, d2] => { results := [.lit (.bool true)], args := [d1, d2] }
  | _ => none }
def monitorLooksRow : OpenClaim := { program := "ytodeiommhponnaadoor", sum := "823576c7b245120b6ed3adfd71375df4c4f36ff7309e5e4e25b205c6418239e5", func := "rolodex/rolodexlaw23.MonitorLooks", spec := "monitorLooks", unfollowed := true, recurses := true, named := ["rolodex/hash.begin", "rolodex/hash.rounds"], apart := false, laid := [("rolodex/hash.begin", laid_rolodex_hash_begin), ("rolodex/hash.rounds", laid_rolodex_hash_rounds)] }
def MonitorLooksSaid : Prop := monitorLooksRow.holds Tryd.pinned (OpenSpec.ofChange monitorLooksSpec)

/-- ITS FALSE NEIGHBOUR: 'it returns false'. Refute it at one input. -/
def monitorLooksWrong : ChangeSpec := { name := "monitorLooks", fn := fun _ => fun
  | [d1, d2] => { results := [.lit (.bool false)], args := [d1, d2] }
  | _ => none }
def MonitorLooksWrongFalsely : Prop := monitorLooksRow.holds Tryd.pinned (OpenSpec.ofChange monitorLooksWrong)

/-- 'rolodexlaw23.MonitorAll': WHATEVER THE INPUT: true; the input reads as it did. -/
def monitorAllSpec : ChangeSpec := { name := "monitorAll", fn := fun _ => fun
  | [d1, d2] => { results := [.lit (.bool true)], args := [d1, d2] }
  | _ => none }
def monitorAllRow : OpenClaim := { program := "ytodeiommhponnaadoor", sum := "823576c7b245120b6ed3adfd71375df4c4f36ff7309e5e4e25b205c6418239e5", func := "rolodex/rolodexlaw23.MonitorAll", spec := "monitorAll", unfollowed := true, recurses := true, named := ["rolodex/hash.begin", "rolodex/hash.rounds"], apart := false, laid := [("rolodex/hash.begin", laid_rolodex_hash_begin), ("rolodex/hash.rounds", laid_rolodex_hash_rounds)] }
def MonitorAllSaid : Prop := monitorAllRow.holds Tryd.pinned (OpenSpec.ofChange monitorAllSpec)

/-- ITS FALSE NEIGHBOUR: 'it returns false'. Refute it at one input. -/
def monitorAllWrong : ChangeSpec := { name := "monitorAll", fn := fun _ => fun
  | [d1, d2] => { results := [.lit (.bool false)], args := [d1, d2] }
  | _ => none }
def MonitorAllWrongFalsely : Prop := monitorAllRow.holds Tryd.pinned (OpenSpec.ofChange monitorAllWrong)

/-- 'rolodexlaw23.MonitorOwn': WHATEVER THE INPUT: true; the input reads as it did. -/
def monitorOwnSpec : ChangeSpec := { name := "monitorOwn", fn := fun _ => fun
  | [d1, d2] => { results := [.lit (.bool true)], args := [d1, d2] }
  | _ => none }
def monitorOwnRow : OpenClaim := { program := "ytodeiommhponnaadoor", sum := "823576c7b245120b6ed3adfd71375df4c4f36ff7309e5e4e25b205c6418239e5", func := "rolodex/rolodexlaw23.MonitorOwn", spec := "monitorOwn", unfollowed := true, recurses := true, named := ["rolodex/hash.begin", "rolodex/hash.rounds"], apart := false, laid := [("rolodex/hash.begin", laid_rolodex_hash_begin), ("rolodex/hash.rounds", laid_rolodex_hash_rounds)] }
def MonitorOwnSaid : Prop := monitorOwnRow.holds Tryd.pinned (OpenSpec.ofChange monitorOwnSpec)

/-- ITS FALSE NEIGHBOUR: 'it returns false'. Refute it at one input. -/
def monitorOwnWrong : ChangeSpec := { name := "monitorOwn", fn := fun _ => fun
  | [d1, d2] => { results := [.lit (.bool false)], args := [d1, d2] }
  | _ => none }
def MonitorOwnWrongFalsely : Prop := monitorOwnRow.holds Tryd.pinned (OpenSpec.ofChange monitorOwnWrong)

/-- 'rolodexlaw23.MonitorHistory': WHATEVER THE INPUT: true; the input reads as it did. -/
def monitorHistorySpec : ChangeSpec := { name := "monitorHistory", fn := fun _ => fun
  | [d1, d2, d3] => { results := [.lit (.bool true)], args := [d1, d2, d3] }
  | _ => none }
def monitorHistoryRow : OpenClaim := { program := "ytodeiommhponnaadoor", sum := "823576c7b245120b6ed3adfd71375df4c4f36ff7309e5e4e25b205c6418239e5", func := "rolodex/rolodexlaw23.MonitorHistory", spec := "monitorHistory", unfollowed := true, recurses := true, named := ["rolodex/hash.begin", "rolodex/hash.rounds"], apart := false, laid := [("rolodex/hash.begin", laid_rolodex_hash_begin), ("rolodex/hash.rounds", laid_rolodex_hash_rounds)] }
def MonitorHistorySaid : Prop := monitorHistoryRow.holds Tryd.pinned (OpenSpec.ofChange monitorHistorySpec)

/-- ITS FALSE NEIGHBOUR: 'it returns false'. Refute it at one input. -/
def monitorHistoryWrong : ChangeSpec := { name := "monitorHistory", fn := fun _ => fun
  | [d1, d2, d3] => { results := [.lit (.bool false)], args := [d1, d2, d3] }
  | _ => none }
def MonitorHistoryWrongFalsely : Prop := monitorHistoryRow.holds Tryd.pinned (OpenSpec.ofChange monitorHistoryWrong)

/- THE SECOND FORM. 'bulk': how many values and letters a reading holds, each counted each time it is reached (what is shared counts as often as it is met; a slice's spare places count too). A statement '..UptoSaid' is the law's where the arguments, and the package variables that the reading takes, are together of bulk at most 1048576: NARROWER than '..Said'. Prove '..Said' where nothing that the law and all that it calls make is longer than what came in: it says more and counts as full. Else prove '..UptoSaid'. A law counts once. -/
mutual
def uptoBulk {H : Type} : DataW H → Nat
  | .lit (.string bytes) => bytes.length + 1
  | .lit _ => 1
  | .nil => 1
  | .ptr d => uptoBulk d + 1
  | .slice elems spare => uptoBulkAll elems + uptoBulkAll spare + 1
  | .agg parts => uptoBulkAll parts + 1
  | .iface _ d => uptoBulk d + 1
  | .map entries => uptoBulkEntries entries + 1
  | .held _ => 1
def uptoBulkAll {H : Type} : List (DataW H) → Nat
  | [] => 0
  | d :: r => uptoBulk d + uptoBulkAll r
def uptoBulkEntries {H : Type} : List (Lit × DataW H) → Nat
  | [] => 0
  | x :: r => uptoBulkEntry x + uptoBulkEntries r
def uptoBulkEntry {H : Type} : Lit × DataW H → Nat
  | (.string bytes, d) => bytes.length + uptoBulk d + 1
  | (_, d) => uptoBulk d + 1
 end
def uptoSmall : (H : Type) → List (DataW H) → Bool := fun _ ds => decide (uptoBulkAll ds ≤ 1048576)
def OpenSpec.upto (s : _root_.Go.ChangeSpec) : _root_.Go.OpenSpec := { _root_.Go.OpenSpec.ofChange s with cond := some uptoSmall }

/-- 'rolodexlaw14.ChainGrows', WHERE WHAT IT READS IS OF BULK AT MOST 1048576: true; the input reads as it did. -/
def chainGrowsUptoRow : OpenClaim := { program := "ytodeiommhponnaadoor", sum := "823576c7b245120b6ed3adfd71375df4c4f36ff7309e5e4e25b205c6418239e5", func := "rolodex/rolodexlaw14.ChainGrows", spec := "chainGrows", named := ["rolodex/hash.begin", "rolodex/hash.rounds"], apart := false, laid := [("rolodex/hash.begin", laid_rolodex_hash_begin), ("rolodex/hash.rounds", laid_rolodex_hash_rounds)], narrowed := true }
def ChainGrowsUptoSaid : Prop := chainGrowsUptoRow.holds Tryd.pinned (OpenSpec.upto chainGrowsSpec)

/-- 'rolodexlaw14.ChainHashes', WHERE WHAT IT READS IS OF BULK AT MOST 1048576: true; the input reads as it did. -/
def chainHashesUptoRow : OpenClaim := { program := "ytodeiommhponnaadoor", sum := "823576c7b245120b6ed3adfd71375df4c4f36ff7309e5e4e25b205c6418239e5", func := "rolodex/rolodexlaw14.ChainHashes", spec := "chainHashes", named := ["rolodex/hash.begin", "rolodex/hash.rounds"], apart := false, laid := [("rolodex/hash.begin", laid_rolodex_hash_begin), ("rolodex/hash.rounds", laid_rolodex_hash_rounds)], narrowed := true }
def ChainHashesUptoSaid : Prop := chainHashesUptoRow.holds Tryd.pinned (OpenSpec.upto chainHashesSpec)

/-- 'rolodexlaw14.ChainSound', WHERE WHAT IT READS IS OF BULK AT MOST 1048576: true; the input reads as it did. -/
def chainSoundUptoRow : OpenClaim := { program := "ytodeiommhponnaadoor", sum := "823576c7b245120b6ed3adfd71375df4c4f36ff7309e5e4e25b205c6418239e5", func := "rolodex/rolodexlaw14.ChainSound", spec := "chainSound", named := ["rolodex/hash.begin", "rolodex/hash.rounds"], apart := false, laid := [("rolodex/hash.begin", laid_rolodex_hash_begin), ("rolodex/hash.rounds", laid_rolodex_hash_rounds)], narrowed := true }
def ChainSoundUptoSaid : Prop := chainSoundUptoRow.holds Tryd.pinned (OpenSpec.upto chainSoundSpec)

/-- 'rolodexlaw14.ChainForms', WHERE WHAT IT READS IS OF BULK AT MOST 1048576: true; the input reads as it did. -/
def chainFormsUptoRow : OpenClaim := { program := "ytodeiommhponnaadoor", sum := "823576c7b245120b6ed3adfd71375df4c4f36ff7309e5e4e25b205c6418239e5", func := "rolodex/rolodexlaw14.ChainForms", spec := "chainForms", named := ["rolodex/hash.begin", "rolodex/hash.rounds"], apart := false, laid := [("rolodex/hash.begin", laid_rolodex_hash_begin), ("rolodex/hash.rounds", laid_rolodex_hash_rounds)], narrowed := true }
def ChainFormsUptoSaid : Prop := chainFormsUptoRow.holds Tryd.pinned (OpenSpec.upto chainFormsSpec)

/-- 'rolodexlaw14.ChainBuilds', WHERE WHAT IT READS IS OF BULK AT MOST 1048576: true; the input reads as it did. -/
def chainBuildsUptoRow : OpenClaim := { program := "ytodeiommhponnaadoor", sum := "823576c7b245120b6ed3adfd71375df4c4f36ff7309e5e4e25b205c6418239e5", func := "rolodex/rolodexlaw14.ChainBuilds", spec := "chainBuilds", named := ["rolodex/hash.begin", "rolodex/hash.rounds"], apart := false, laid := [("rolodex/hash.begin", laid_rolodex_hash_begin), ("rolodex/hash.rounds", laid_rolodex_hash_rounds)], narrowed := true }
def ChainBuildsUptoSaid : Prop := chainBuildsUptoRow.holds Tryd.pinned (OpenSpec.upto chainBuildsSpec)

/-- 'rolodexlaw23.MonitorCut', WHERE WHAT IT READS IS OF BULK AT MOST 1048576: true; the input reads as it did. -/
def monitorCutUptoRow : OpenClaim := { program := "ytodeiommhponnaadoor", sum := "823576c7b245120b6ed3adfd71375df4c4f36ff7309e5e4e25b205c6418239e5", func := "rolodex/rolodexlaw23.MonitorCut", spec := "monitorCut", unfollowed := true, recurses := true, named := ["rolodex/hash.begin", "rolodex/hash.rounds"], apart := false, laid := [("rolodex/hash.begin", laid_rolodex_hash_begin), ("rolodex/hash.rounds", laid_rolodex_hash_rounds)], narrowed := true }
def MonitorCutUptoSaid : Prop := monitorCutUptoRow.holds Tryd.pinned (OpenSpec.upto monitorCutSpec)

/-- 'rolodexlaw23.MonitorLooks', WHERE WHAT IT READS IS OF BULK AT MOST 1048576: true; the input reads as it did. -/
def monitorLooksUptoRow : OpenClaim := { program := "ytodeiommhponnaadoor", sum := "823576c7b245120b6ed3adfd71375df4c4f36ff7309e5e4e25b205c6418239e5", func := "rolodex/rolodexlaw23.MonitorLooks", spec := "monitorLooks", unfollowed := true, recurses := true, named := ["rolodex/hash.begin", "rolodex/hash.rounds"], apart := false, laid := [("rolodex/hash.begin", laid_rolodex_hash_begin), ("rolodex/hash.rounds", laid_rolodex_hash_rounds)], narrowed := true }
def MonitorLooksUptoSaid : Prop := monitorLooksUptoRow.holds Tryd.pinned (OpenSpec.upto monitorLooksSpec)

/-- 'rolodexlaw23.MonitorAll', WHERE WHAT IT READS IS OF BULK AT MOST 1048576: true; the input reads as it did. -/
def monitorAllUptoRow : OpenClaim := { program := "ytodeiommhponnaadoor", sum := "823576c7b245120b6ed3adfd71375df4c4f36ff7309e5e4e25b205c6418239e5", func := "rolodex/rolodexlaw23.MonitorAll", spec := "monitorAll", unfollowed := true, recurses := true, named := ["rolodex/hash.begin", "rolodex/hash.rounds"], apart := false, laid := [("rolodex/hash.begin", laid_rolodex_hash_begin), ("rolodex/hash.rounds", laid_rolodex_hash_rounds)], narrowed := true }
def MonitorAllUptoSaid : Prop := monitorAllUptoRow.holds Tryd.pinned (OpenSpec.upto monitorAllSpec)

/-- 'rolodexlaw23.MonitorOwn', WHERE WHAT IT READS IS OF BULK AT MOST 1048576: true; the input reads as it did. -/
def monitorOwnUptoRow : OpenClaim := { program := "ytodeiommhponnaadoor", sum := "823576c7b245120b6ed3adfd71375df4c4f36ff7309e5e4e25b205c6418239e5", func := "rolodex/rolodexlaw23.MonitorOwn", spec := "monitorOwn", unfollowed := true, recurses := true, named := ["rolodex/hash.begin", "rolodex/hash.rounds"], apart := false, laid := [("rolodex/hash.begin", laid_rolodex_hash_begin), ("rolodex/hash.rounds", laid_rolodex_hash_rounds)], narrowed := true }
def MonitorOwnUptoSaid : Prop := monitorOwnUptoRow.holds Tryd.pinned (OpenSpec.upto monitorOwnSpec)

/-- 'rolodexlaw23.MonitorHistory', WHERE WHAT IT READS IS OF BULK AT MOST 1048576: true; the input reads as it did. -/
def monitorHistoryUptoRow : OpenClaim := { program := "ytodeiommhponnaadoor", sum := "823576c7b245120b6ed3adfd71375df4c4f36ff7309e5e4e25b205c6418239e5", func := "rolodex/rolodexlaw23.MonitorHistory", spec := "monitorHistory", unfollowed := true, recurses := true, named := ["rolodex/hash.begin", "rolodex/hash.rounds"], apart := false, laid := [("rolodex/hash.begin", laid_rolodex_hash_begin), ("rolodex/hash.rounds", laid_rolodex_hash_rounds)], narrowed := true }
def MonitorHistoryUptoSaid : Prop := monitorHistoryUptoRow.holds Tryd.pinned (OpenSpec.upto monitorHistorySpec)

end Rows
end Go.Proofs.YtodeiommhponnaaDoor
