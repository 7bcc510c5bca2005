/-
  DERIVED. GIVEN WITH THE SEED: THE CARDS: each row of YtcikfilncagbgaaDoorRows.lean that lists a variable, with what it lists TIED to the program's text (the seventh form; the later family's looks); each row that meets fmt, with fmt's text TOLD by the authors' own Lean function (tested against real Go, not proved from fmt's source: count such statements apart). THE CARD IS WHAT COUNTS. Prove the row's statement (the work); the ties are given (YtcikfilncagbgaaDoorTie.lean); close each card by the builder's one call (the guide's Derived/Test/ToyasCard.lean, 'card_holds'). Laid BY PROGRAM, IN A SANDBOX (cutbox-door.mjs). By AI agents, Wed Nov 11 2026. No macro, syntax, notation, axiom, sorry.
-/
import Derived.Test.YtcikfilncagbgaaDoorRows
import GoSem.ClaimSeven
namespace Go.Proofs.YtcikfilncagbgaaDoor
namespace Rows

/-- THE TIED CARD OF 'rolodexlaw15.FrontierHashes'. -/
def frontierHashesCard : Claim7 := { stood := { row := frontierHashesRow, standIns := [], harness := (true, "64cef2788b32cbbb3d377e0015447ad4167f3b2d2e9f4a860edf397ff48acdeb"), looks := false }, kinds := [], alts := [], laidByText := true, laidKinds := [.data, .data], laidTests := true, laidLooks := .later }
def FrontierHashesCardSaid : Prop := Claim7.holds Tryd.pinned (.plain (OpenSpec.ofChange frontierHashesSpec)) frontierHashesCard

/-- THE TIED CARD OF 'rolodexlaw15.FrontierSegments'. -/
def frontierSegmentsCard : Claim7 := { stood := { row := frontierSegmentsRow, standIns := [], harness := (true, "64cef2788b32cbbb3d377e0015447ad4167f3b2d2e9f4a860edf397ff48acdeb"), looks := false }, kinds := [], alts := [], laidByText := true, laidKinds := [.data, .data, .data, .data], laidTests := true, laidLooks := .later }
def FrontierSegmentsCardSaid : Prop := Claim7.holds Tryd.pinned (.plain (OpenSpec.ofChange frontierSegmentsSpec)) frontierSegmentsCard

/-- THE TIED CARD OF 'rolodexlaw15.FrontierRanges'. -/
def frontierRangesCard : Claim7 := { stood := { row := frontierRangesRow, standIns := [], harness := (true, "64cef2788b32cbbb3d377e0015447ad4167f3b2d2e9f4a860edf397ff48acdeb"), looks := false }, kinds := [], alts := [], laidByText := true, laidKinds := [.data, .data, .data, .data], laidTests := true, laidLooks := .later }
def FrontierRangesCardSaid : Prop := Claim7.holds Tryd.pinned (.plain (OpenSpec.ofChange frontierRangesSpec)) frontierRangesCard

/-- THE TIED CARD OF 'rolodexlaw15.FrontierParts'. -/
def frontierPartsCard : Claim7 := { stood := { row := frontierPartsRow, standIns := [], harness := (true, "64cef2788b32cbbb3d377e0015447ad4167f3b2d2e9f4a860edf397ff48acdeb"), looks := false }, kinds := [], alts := [], laidByText := true, laidKinds := [.data, .data, .data, .data], laidTests := true, laidLooks := .later }
def FrontierPartsCardSaid : Prop := Claim7.holds Tryd.pinned (.plain (OpenSpec.ofChange frontierPartsSpec)) frontierPartsCard

/-- THE TIED CARD OF 'rolodexlaw15.FrontierJoins'. -/
def frontierJoinsCard : Claim7 := { stood := { row := frontierJoinsRow, standIns := [], harness := (true, "64cef2788b32cbbb3d377e0015447ad4167f3b2d2e9f4a860edf397ff48acdeb"), looks := false }, kinds := [], alts := [], laidByText := true, laidKinds := [.data, .data, .data, .data], laidTests := true, laidLooks := .later }
def FrontierJoinsCardSaid : Prop := Claim7.holds Tryd.pinned (.plain (OpenSpec.ofChange frontierJoinsSpec)) frontierJoinsCard

/-- THE TIED CARD OF 'rolodexlaw15.FrontierGrows'. -/
def frontierGrowsCard : Claim7 := { stood := { row := frontierGrowsRow, standIns := [], harness := (true, "64cef2788b32cbbb3d377e0015447ad4167f3b2d2e9f4a860edf397ff48acdeb"), looks := false }, kinds := [], alts := [], laidByText := true, laidKinds := [.data, .data, .data, .data], laidTests := true, laidLooks := .later }
def FrontierGrowsCardSaid : Prop := Claim7.holds Tryd.pinned (.plain (OpenSpec.ofChange frontierGrowsSpec)) frontierGrowsCard

/-- THE TIED CARD OF 'rolodexlaw16.TrailEntries'. -/
def trailEntriesCard : Claim7 := { stood := { row := trailEntriesRow, standIns := [], harness := (true, "64cef2788b32cbbb3d377e0015447ad4167f3b2d2e9f4a860edf397ff48acdeb"), looks := false }, kinds := [], alts := [], laidByText := true, laidKinds := [.data, .data, .data, .data], laidTests := true, laidLooks := .later }
def TrailEntriesCardSaid : Prop := Claim7.holds Tryd.pinned (.plain (OpenSpec.ofChange trailEntriesSpec)) trailEntriesCard

/-- THE TIED CARD OF 'rolodexlaw16.TrailChecks'. -/
def trailChecksCard : Claim7 := { stood := { row := trailChecksRow, standIns := [], harness := (true, "64cef2788b32cbbb3d377e0015447ad4167f3b2d2e9f4a860edf397ff48acdeb"), looks := false }, kinds := [], alts := [], laidByText := true, laidKinds := [.data, .data, .data, .data], laidTests := true, laidLooks := .later }
def TrailChecksCardSaid : Prop := Claim7.holds Tryd.pinned (.plain (OpenSpec.ofChange trailChecksSpec)) trailChecksCard

/-- THE TIED CARD OF 'rolodexlaw16.TrailGrowths'. -/
def trailGrowthsCard : Claim7 := { stood := { row := trailGrowthsRow, standIns := [], harness := (true, "64cef2788b32cbbb3d377e0015447ad4167f3b2d2e9f4a860edf397ff48acdeb"), looks := false }, kinds := [], alts := [], laidByText := true, laidKinds := [.data, .data, .data, .data], laidTests := true, laidLooks := .later }
def TrailGrowthsCardSaid : Prop := Claim7.holds Tryd.pinned (.plain (OpenSpec.ofChange trailGrowthsSpec)) trailGrowthsCard

/-- THE TIED CARD OF 'rolodexlaw16.TrailTells'. -/
def trailTellsCard : Claim7 := { stood := { row := trailTellsRow, standIns := [], harness := (true, "64cef2788b32cbbb3d377e0015447ad4167f3b2d2e9f4a860edf397ff48acdeb"), looks := false }, kinds := [], alts := [], laidByText := true, laidKinds := [.data, .data, .data, .data], laidTests := true, laidLooks := .later }
def TrailTellsCardSaid : Prop := Claim7.holds Tryd.pinned (.plain (OpenSpec.ofChange trailTellsSpec)) trailTellsCard

/-- THE TIED CARD OF 'rolodexlaw16.TrailOther'. -/
def trailOtherCard : Claim7 := { stood := { row := trailOtherRow, standIns := [], harness := (true, "64cef2788b32cbbb3d377e0015447ad4167f3b2d2e9f4a860edf397ff48acdeb"), looks := false }, kinds := [], alts := [], laidByText := true, laidKinds := [.data, .data, .data, .data], laidTests := true, laidLooks := .later }
def TrailOtherCardSaid : Prop := Claim7.holds Tryd.pinned (.plain (OpenSpec.ofChange trailOtherSpec)) trailOtherCard

/-- THE TIED CARD OF 'rolodexlaw16.TrailRight'. -/
def trailRightCard : Claim7 := { stood := { row := trailRightRow, standIns := [], harness := (true, "64cef2788b32cbbb3d377e0015447ad4167f3b2d2e9f4a860edf397ff48acdeb"), looks := false }, kinds := [], alts := [], laidByText := true, laidKinds := [.data, .data, .data, .data], laidTests := true, laidLooks := .later }
def TrailRightCardSaid : Prop := Claim7.holds Tryd.pinned (.plain (OpenSpec.ofChange trailRightSpec)) trailRightCard

/-- THE SECOND FORM's CARD OF 'rolodexlaw15.FrontierHashes'. -/
def frontierHashesUptoCard : Claim7 := { stood := { row := frontierHashesUptoRow, standIns := [], harness := (true, "64cef2788b32cbbb3d377e0015447ad4167f3b2d2e9f4a860edf397ff48acdeb"), looks := false }, kinds := [], alts := [], laidByText := true, laidKinds := [.data, .data], laidTests := true, laidLooks := .later }
def FrontierHashesUptoCardSaid : Prop := Claim7.holds Tryd.pinned (.plain (OpenSpec.upto frontierHashesSpec)) frontierHashesUptoCard

/-- THE SECOND FORM's CARD OF 'rolodexlaw15.FrontierSegments'. -/
def frontierSegmentsUptoCard : Claim7 := { stood := { row := frontierSegmentsUptoRow, standIns := [], harness := (true, "64cef2788b32cbbb3d377e0015447ad4167f3b2d2e9f4a860edf397ff48acdeb"), looks := false }, kinds := [], alts := [], laidByText := true, laidKinds := [.data, .data, .data, .data], laidTests := true, laidLooks := .later }
def FrontierSegmentsUptoCardSaid : Prop := Claim7.holds Tryd.pinned (.plain (OpenSpec.upto frontierSegmentsSpec)) frontierSegmentsUptoCard

/-- THE SECOND FORM's CARD OF 'rolodexlaw15.FrontierRanges'. -/
def frontierRangesUptoCard : Claim7 := { stood := { row := frontierRangesUptoRow, standIns := [], harness := (true, "64cef2788b32cbbb3d377e0015447ad4167f3b2d2e9f4a860edf397ff48acdeb"), looks := false }, kinds := [], alts := [], laidByText := true, laidKinds := [.data, .data, .data, .data], laidTests := true, laidLooks := .later }
def FrontierRangesUptoCardSaid : Prop := Claim7.holds Tryd.pinned (.plain (OpenSpec.upto frontierRangesSpec)) frontierRangesUptoCard

/-- THE SECOND FORM's CARD OF 'rolodexlaw15.FrontierParts'. -/
def frontierPartsUptoCard : Claim7 := { stood := { row := frontierPartsUptoRow, standIns := [], harness := (true, "64cef2788b32cbbb3d377e0015447ad4167f3b2d2e9f4a860edf397ff48acdeb"), looks := false }, kinds := [], alts := [], laidByText := true, laidKinds := [.data, .data, .data, .data], laidTests := true, laidLooks := .later }
def FrontierPartsUptoCardSaid : Prop := Claim7.holds Tryd.pinned (.plain (OpenSpec.upto frontierPartsSpec)) frontierPartsUptoCard

/-- THE SECOND FORM's CARD OF 'rolodexlaw15.FrontierJoins'. -/
def frontierJoinsUptoCard : Claim7 := { stood := { row := frontierJoinsUptoRow, standIns := [], harness := (true, "64cef2788b32cbbb3d377e0015447ad4167f3b2d2e9f4a860edf397ff48acdeb"), looks := false }, kinds := [], alts := [], laidByText := true, laidKinds := [.data, .data, .data, .data], laidTests := true, laidLooks := .later }
def FrontierJoinsUptoCardSaid : Prop := Claim7.holds Tryd.pinned (.plain (OpenSpec.upto frontierJoinsSpec)) frontierJoinsUptoCard

/-- THE SECOND FORM's CARD OF 'rolodexlaw15.FrontierGrows'. -/
def frontierGrowsUptoCard : Claim7 := { stood := { row := frontierGrowsUptoRow, standIns := [], harness := (true, "64cef2788b32cbbb3d377e0015447ad4167f3b2d2e9f4a860edf397ff48acdeb"), looks := false }, kinds := [], alts := [], laidByText := true, laidKinds := [.data, .data, .data, .data], laidTests := true, laidLooks := .later }
def FrontierGrowsUptoCardSaid : Prop := Claim7.holds Tryd.pinned (.plain (OpenSpec.upto frontierGrowsSpec)) frontierGrowsUptoCard

/-- THE SECOND FORM's CARD OF 'rolodexlaw16.TrailEntries'. -/
def trailEntriesUptoCard : Claim7 := { stood := { row := trailEntriesUptoRow, standIns := [], harness := (true, "64cef2788b32cbbb3d377e0015447ad4167f3b2d2e9f4a860edf397ff48acdeb"), looks := false }, kinds := [], alts := [], laidByText := true, laidKinds := [.data, .data, .data, .data], laidTests := true, laidLooks := .later }
def TrailEntriesUptoCardSaid : Prop := Claim7.holds Tryd.pinned (.plain (OpenSpec.upto trailEntriesSpec)) trailEntriesUptoCard

/-- THE SECOND FORM's CARD OF 'rolodexlaw16.TrailChecks'. -/
def trailChecksUptoCard : Claim7 := { stood := { row := trailChecksUptoRow, standIns := [], harness := (true, "64cef2788b32cbbb3d377e0015447ad4167f3b2d2e9f4a860edf397ff48acdeb"), looks := false }, kinds := [], alts := [], laidByText := true, laidKinds := [.data, .data, .data, .data], laidTests := true, laidLooks := .later }
def TrailChecksUptoCardSaid : Prop := Claim7.holds Tryd.pinned (.plain (OpenSpec.upto trailChecksSpec)) trailChecksUptoCard

/-- THE SECOND FORM's CARD OF 'rolodexlaw16.TrailGrowths'. -/
def trailGrowthsUptoCard : Claim7 := { stood := { row := trailGrowthsUptoRow, standIns := [], harness := (true, "64cef2788b32cbbb3d377e0015447ad4167f3b2d2e9f4a860edf397ff48acdeb"), looks := false }, kinds := [], alts := [], laidByText := true, laidKinds := [.data, .data, .data, .data], laidTests := true, laidLooks := .later }
def TrailGrowthsUptoCardSaid : Prop := Claim7.holds Tryd.pinned (.plain (OpenSpec.upto trailGrowthsSpec)) trailGrowthsUptoCard

/-- THE SECOND FORM's CARD OF 'rolodexlaw16.TrailTells'. -/
def trailTellsUptoCard : Claim7 := { stood := { row := trailTellsUptoRow, standIns := [], harness := (true, "64cef2788b32cbbb3d377e0015447ad4167f3b2d2e9f4a860edf397ff48acdeb"), looks := false }, kinds := [], alts := [], laidByText := true, laidKinds := [.data, .data, .data, .data], laidTests := true, laidLooks := .later }
def TrailTellsUptoCardSaid : Prop := Claim7.holds Tryd.pinned (.plain (OpenSpec.upto trailTellsSpec)) trailTellsUptoCard

/-- THE SECOND FORM's CARD OF 'rolodexlaw16.TrailOther'. -/
def trailOtherUptoCard : Claim7 := { stood := { row := trailOtherUptoRow, standIns := [], harness := (true, "64cef2788b32cbbb3d377e0015447ad4167f3b2d2e9f4a860edf397ff48acdeb"), looks := false }, kinds := [], alts := [], laidByText := true, laidKinds := [.data, .data, .data, .data], laidTests := true, laidLooks := .later }
def TrailOtherUptoCardSaid : Prop := Claim7.holds Tryd.pinned (.plain (OpenSpec.upto trailOtherSpec)) trailOtherUptoCard

/-- THE SECOND FORM's CARD OF 'rolodexlaw16.TrailRight'. -/
def trailRightUptoCard : Claim7 := { stood := { row := trailRightUptoRow, standIns := [], harness := (true, "64cef2788b32cbbb3d377e0015447ad4167f3b2d2e9f4a860edf397ff48acdeb"), looks := false }, kinds := [], alts := [], laidByText := true, laidKinds := [.data, .data, .data, .data], laidTests := true, laidLooks := .later }
def TrailRightUptoCardSaid : Prop := Claim7.holds Tryd.pinned (.plain (OpenSpec.upto trailRightSpec)) trailRightUptoCard
end Rows
end Go.Proofs.YtcikfilncagbgaaDoor
