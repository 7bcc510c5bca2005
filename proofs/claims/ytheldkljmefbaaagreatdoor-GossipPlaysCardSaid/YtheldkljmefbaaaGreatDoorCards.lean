/-
  DERIVED. GIVEN WITH THE SEED: THE CARDS: each row of YtheldkljmefbaaaGreatDoorRows.lean that lists a variable, with what it lists TIED to the program's text (the seventh form; the later family's looks); each row that meets fmt, with fmt's text TOLD by the authors' own Lean function (tested against real Go, not proved from fmt's source: count such statements apart). THE CARD IS WHAT COUNTS. Prove the row's statement (the work); the ties are given (YtheldkljmefbaaaGreatDoorTie.lean); close each card by the builder's one call (the guide's Derived/Test/ToyasCard.lean, 'card_holds'). Laid BY PROGRAM, IN A SANDBOX (cutbox-door.mjs). By AI agents, Wed Nov 11 2026. No macro, syntax, notation, axiom, sorry.
-/
import Derived.Test.YtheldkljmefbaaaGreatDoorRows
import GoSem.ClaimSeven
namespace Go.Proofs.YtheldkljmefbaaaGreatDoor
namespace Rows

/-- THE TIED CARD OF 'rolodexlaw17.HeadSigns'. -/
def headSignsCard : Claim7 := { stood := { row := headSignsRow, standIns := [], harness := (true, "dd455d0f807c704a70d45944394917ea71b2ed84aa27f65af6c1957c17954fe4"), looks := false }, kinds := [], alts := [], laidByText := true, laidKinds := [.data, .data, .data], laidTests := true, laidLooks := .later }
def HeadSignsCardSaid : Prop := Claim7.holds Tryz.pinned (.plain (OpenSpec.ofChange headSignsSpec)) headSignsCard

/-- THE TIED CARD OF 'rolodexlaw27.GossipSound'. -/
def gossipSoundCard : Claim7 := { stood := { row := gossipSoundRow, standIns := [], harness := (true, "dd455d0f807c704a70d45944394917ea71b2ed84aa27f65af6c1957c17954fe4"), looks := false }, kinds := [], alts := [], laidByText := true, laidKinds := [.data, .data, .data, .data, .data], laidTests := true, laidLooks := .later }
def GossipSoundCardSaid : Prop := Claim7.holds Tryz.pinned (.plain (OpenSpec.ofChange gossipSoundSpec)) gossipSoundCard

/-- THE TIED CARD OF 'rolodexlaw27.GossipPlays'. -/
def gossipPlaysCard : Claim7 := { stood := { row := gossipPlaysRow, standIns := [], harness := (true, "dd455d0f807c704a70d45944394917ea71b2ed84aa27f65af6c1957c17954fe4"), looks := false }, kinds := [], alts := [], laidByText := true, laidKinds := [.data, .data, .data, .data, .data], laidTests := true, laidLooks := .later }
def GossipPlaysCardSaid : Prop := Claim7.holds Tryz.pinned (.plain (OpenSpec.ofChange gossipPlaysSpec)) gossipPlaysCard

/-- THE TIED CARD OF 'rolodexlaw27.GossipHonest'. -/
def gossipHonestCard : Claim7 := { stood := { row := gossipHonestRow, standIns := [], harness := (true, "dd455d0f807c704a70d45944394917ea71b2ed84aa27f65af6c1957c17954fe4"), looks := false }, kinds := [], alts := [], laidByText := true, laidKinds := [.data, .data, .data, .data, .data], laidTests := true, laidLooks := .later }
def GossipHonestCardSaid : Prop := Claim7.holds Tryz.pinned (.plain (OpenSpec.ofChange gossipHonestSpec)) gossipHonestCard

/-- THE TIED CARD OF 'rolodexlaw27.GossipNone'. -/
def gossipNoneCard : Claim7 := { stood := { row := gossipNoneRow, standIns := [], harness := (true, "dd455d0f807c704a70d45944394917ea71b2ed84aa27f65af6c1957c17954fe4"), looks := false }, kinds := [], alts := [], laidByText := true, laidKinds := [.data, .data, .data, .data, .data], laidTests := true, laidLooks := .later }
def GossipNoneCardSaid : Prop := Claim7.holds Tryz.pinned (.plain (OpenSpec.ofChange gossipNoneSpec)) gossipNoneCard

/-- THE SECOND FORM's CARD OF 'rolodexlaw17.HeadSigns'. -/
def headSignsUptoCard : Claim7 := { stood := { row := headSignsUptoRow, standIns := [], harness := (true, "dd455d0f807c704a70d45944394917ea71b2ed84aa27f65af6c1957c17954fe4"), looks := false }, kinds := [], alts := [], laidByText := true, laidKinds := [.data, .data, .data], laidTests := true, laidLooks := .later }
def HeadSignsUptoCardSaid : Prop := Claim7.holds Tryz.pinned (.plain (OpenSpec.upto headSignsSpec)) headSignsUptoCard

/-- THE SECOND FORM's CARD OF 'rolodexlaw27.GossipSound'. -/
def gossipSoundUptoCard : Claim7 := { stood := { row := gossipSoundUptoRow, standIns := [], harness := (true, "dd455d0f807c704a70d45944394917ea71b2ed84aa27f65af6c1957c17954fe4"), looks := false }, kinds := [], alts := [], laidByText := true, laidKinds := [.data, .data, .data, .data, .data], laidTests := true, laidLooks := .later }
def GossipSoundUptoCardSaid : Prop := Claim7.holds Tryz.pinned (.plain (OpenSpec.upto gossipSoundSpec)) gossipSoundUptoCard

/-- THE SECOND FORM's CARD OF 'rolodexlaw27.GossipPlays'. -/
def gossipPlaysUptoCard : Claim7 := { stood := { row := gossipPlaysUptoRow, standIns := [], harness := (true, "dd455d0f807c704a70d45944394917ea71b2ed84aa27f65af6c1957c17954fe4"), looks := false }, kinds := [], alts := [], laidByText := true, laidKinds := [.data, .data, .data, .data, .data], laidTests := true, laidLooks := .later }
def GossipPlaysUptoCardSaid : Prop := Claim7.holds Tryz.pinned (.plain (OpenSpec.upto gossipPlaysSpec)) gossipPlaysUptoCard

/-- THE SECOND FORM's CARD OF 'rolodexlaw27.GossipHonest'. -/
def gossipHonestUptoCard : Claim7 := { stood := { row := gossipHonestUptoRow, standIns := [], harness := (true, "dd455d0f807c704a70d45944394917ea71b2ed84aa27f65af6c1957c17954fe4"), looks := false }, kinds := [], alts := [], laidByText := true, laidKinds := [.data, .data, .data, .data, .data], laidTests := true, laidLooks := .later }
def GossipHonestUptoCardSaid : Prop := Claim7.holds Tryz.pinned (.plain (OpenSpec.upto gossipHonestSpec)) gossipHonestUptoCard

/-- THE SECOND FORM's CARD OF 'rolodexlaw27.GossipNone'. -/
def gossipNoneUptoCard : Claim7 := { stood := { row := gossipNoneUptoRow, standIns := [], harness := (true, "dd455d0f807c704a70d45944394917ea71b2ed84aa27f65af6c1957c17954fe4"), looks := false }, kinds := [], alts := [], laidByText := true, laidKinds := [.data, .data, .data, .data, .data], laidTests := true, laidLooks := .later }
def GossipNoneUptoCardSaid : Prop := Claim7.holds Tryz.pinned (.plain (OpenSpec.upto gossipNoneSpec)) gossipNoneUptoCard
end Rows
end Go.Proofs.YtheldkljmefbaaaGreatDoor
