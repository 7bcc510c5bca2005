/-
  DERIVED. GIVEN WITH THE SEED: THE CARDS: each row of YtheldkljmefbaaaDoorRows.lean that lists a variable, with what it lists TIED to the program's text (the seventh form; the later family's looks); each row that meets fmt, with fmt's text TOLD by the authors' own Lean function (tested against real Go, not proved from fmt's source: count such statements apart). THE CARD IS WHAT COUNTS. Prove the row's statement (the work); the ties are given (YtheldkljmefbaaaDoorTie.lean); close each card by the builder's one call (the guide's Derived/Test/ToyasCard.lean, 'card_holds'). Laid BY PROGRAM, IN A SANDBOX (cutbox-door.mjs). By AI agents, Wed Nov 11 2026. No macro, syntax, notation, axiom, sorry.
-/
import Derived.Test.YtheldkljmefbaaaDoorRows
import GoSem.ClaimSeven
namespace Go.Proofs.YtheldkljmefbaaaDoor
namespace Rows

/-- THE TIED CARD OF 'rolodexlaw17.HeadBytes'. -/
def headBytesCard : Claim7 := { stood := { row := headBytesRow, standIns := [], harness := (true, "f7ae3c37ad0d10695df88410359b85093a3c1b39995ba36695ae9fdb39ec60a8"), looks := false }, kinds := [], alts := [], laidByText := true, laidKinds := [.data, .data], laidTests := true, laidLooks := .later }
def HeadBytesCardSaid : Prop := Claim7.holds Tryd.pinned (.plain (OpenSpec.ofChange headBytesSpec)) headBytesCard

/-- THE TIED CARD OF 'rolodexlaw17.HeadRight'. -/
def headRightCard : Claim7 := { stood := { row := headRightRow, standIns := [], harness := (true, "f7ae3c37ad0d10695df88410359b85093a3c1b39995ba36695ae9fdb39ec60a8"), looks := false }, kinds := [], alts := [], laidByText := true, laidKinds := [.data, .data, .data], laidTests := true, laidLooks := .later }
def HeadRightCardSaid : Prop := Claim7.holds Tryd.pinned (.plain (OpenSpec.ofChange headRightSpec)) headRightCard

/-- THE TIED CARD OF 'rolodexlaw27.GossipForks'. -/
def gossipForksCard : Claim7 := { stood := { row := gossipForksRow, standIns := [], harness := (true, "f7ae3c37ad0d10695df88410359b85093a3c1b39995ba36695ae9fdb39ec60a8"), looks := false }, kinds := [], alts := [], laidByText := true, laidKinds := [.data, .data, .data], laidTests := true, laidLooks := .later }
def GossipForksCardSaid : Prop := Claim7.holds Tryd.pinned (.plain (OpenSpec.ofChange gossipForksSpec)) gossipForksCard

/-- THE SECOND FORM's CARD OF 'rolodexlaw17.HeadBytes'. -/
def headBytesUptoCard : Claim7 := { stood := { row := headBytesUptoRow, standIns := [], harness := (true, "f7ae3c37ad0d10695df88410359b85093a3c1b39995ba36695ae9fdb39ec60a8"), looks := false }, kinds := [], alts := [], laidByText := true, laidKinds := [.data, .data], laidTests := true, laidLooks := .later }
def HeadBytesUptoCardSaid : Prop := Claim7.holds Tryd.pinned (.plain (OpenSpec.upto headBytesSpec)) headBytesUptoCard

/-- THE SECOND FORM's CARD OF 'rolodexlaw17.HeadRight'. -/
def headRightUptoCard : Claim7 := { stood := { row := headRightUptoRow, standIns := [], harness := (true, "f7ae3c37ad0d10695df88410359b85093a3c1b39995ba36695ae9fdb39ec60a8"), looks := false }, kinds := [], alts := [], laidByText := true, laidKinds := [.data, .data, .data], laidTests := true, laidLooks := .later }
def HeadRightUptoCardSaid : Prop := Claim7.holds Tryd.pinned (.plain (OpenSpec.upto headRightSpec)) headRightUptoCard

/-- THE SECOND FORM's CARD OF 'rolodexlaw27.GossipForks'. -/
def gossipForksUptoCard : Claim7 := { stood := { row := gossipForksUptoRow, standIns := [], harness := (true, "f7ae3c37ad0d10695df88410359b85093a3c1b39995ba36695ae9fdb39ec60a8"), looks := false }, kinds := [], alts := [], laidByText := true, laidKinds := [.data, .data, .data], laidTests := true, laidLooks := .later }
def GossipForksUptoCardSaid : Prop := Claim7.holds Tryd.pinned (.plain (OpenSpec.upto gossipForksSpec)) gossipForksUptoCard
end Rows
end Go.Proofs.YtheldkljmefbaaaDoor
