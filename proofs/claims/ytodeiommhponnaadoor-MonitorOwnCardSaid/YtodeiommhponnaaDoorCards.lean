/-
  DERIVED. GIVEN WITH THE SEED: THE CARDS: each row of YtodeiommhponnaaDoorRows.lean that lists a variable, with what it lists TIED to the program's text (the seventh form; the later family's looks); each row that meets fmt, with fmt's text TOLD by the authors' own Lean function (tested against real Go, not proved from fmt's source: count such statements apart). THE CARD IS WHAT COUNTS. Prove the row's statement (the work); the ties are given (YtodeiommhponnaaDoorTie.lean); close each card by the builder's one call (the guide's Derived/Test/ToyasCard.lean, 'card_holds'). Laid BY PROGRAM, IN A SANDBOX (cutbox-door.mjs). By AI agents, Wed Nov 11 2026. No macro, syntax, notation, axiom, sorry.
-/
import Derived.Test.YtodeiommhponnaaDoorRows
import GoSem.ClaimSeven
namespace Go.Proofs.YtodeiommhponnaaDoor
namespace Rows

/-- THE TIED CARD OF 'rolodexlaw14.ChainGrows'. -/
def chainGrowsCard : Claim7 := { stood := { row := chainGrowsRow, standIns := [], harness := (true, "bdf80102cdf8746f94791fe0f734146828de68cf7c5201f4453f265076d2a1f9"), looks := false }, kinds := [], alts := [], laidByText := true, laidKinds := [.data, .data], laidTests := true, laidLooks := .later }
def ChainGrowsCardSaid : Prop := Claim7.holds Tryd.pinned (.plain (OpenSpec.ofChange chainGrowsSpec)) chainGrowsCard

/-- THE TIED CARD OF 'rolodexlaw14.ChainHashes'. -/
def chainHashesCard : Claim7 := { stood := { row := chainHashesRow, standIns := [], harness := (true, "bdf80102cdf8746f94791fe0f734146828de68cf7c5201f4453f265076d2a1f9"), looks := false }, kinds := [], alts := [], laidByText := true, laidKinds := [.data, .data], laidTests := true, laidLooks := .later }
def ChainHashesCardSaid : Prop := Claim7.holds Tryd.pinned (.plain (OpenSpec.ofChange chainHashesSpec)) chainHashesCard

/-- THE TIED CARD OF 'rolodexlaw14.ChainSound'. -/
def chainSoundCard : Claim7 := { stood := { row := chainSoundRow, standIns := [], harness := (true, "bdf80102cdf8746f94791fe0f734146828de68cf7c5201f4453f265076d2a1f9"), looks := false }, kinds := [], alts := [], laidByText := true, laidKinds := [.data, .data], laidTests := true, laidLooks := .later }
def ChainSoundCardSaid : Prop := Claim7.holds Tryd.pinned (.plain (OpenSpec.ofChange chainSoundSpec)) chainSoundCard

/-- THE TIED CARD OF 'rolodexlaw14.ChainForms'. -/
def chainFormsCard : Claim7 := { stood := { row := chainFormsRow, standIns := [], harness := (true, "bdf80102cdf8746f94791fe0f734146828de68cf7c5201f4453f265076d2a1f9"), looks := false }, kinds := [], alts := [], laidByText := true, laidKinds := [.data, .data], laidTests := true, laidLooks := .later }
def ChainFormsCardSaid : Prop := Claim7.holds Tryd.pinned (.plain (OpenSpec.ofChange chainFormsSpec)) chainFormsCard

/-- THE TIED CARD OF 'rolodexlaw14.ChainBuilds'. -/
def chainBuildsCard : Claim7 := { stood := { row := chainBuildsRow, standIns := [], harness := (true, "bdf80102cdf8746f94791fe0f734146828de68cf7c5201f4453f265076d2a1f9"), looks := false }, kinds := [], alts := [], laidByText := true, laidKinds := [.data, .data], laidTests := true, laidLooks := .later }
def ChainBuildsCardSaid : Prop := Claim7.holds Tryd.pinned (.plain (OpenSpec.ofChange chainBuildsSpec)) chainBuildsCard

/-- THE TIED CARD OF 'rolodexlaw23.MonitorCut'. -/
def monitorCutCard : Claim7 := { stood := { row := monitorCutRow, standIns := [], harness := (true, "bdf80102cdf8746f94791fe0f734146828de68cf7c5201f4453f265076d2a1f9"), looks := false }, kinds := [], alts := [], laidByText := true, laidKinds := [.data, .data], laidTests := true, laidLooks := .later }
def MonitorCutCardSaid : Prop := Claim7.holds Tryd.pinned (.plain (OpenSpec.ofChange monitorCutSpec)) monitorCutCard

/-- THE TIED CARD OF 'rolodexlaw23.MonitorLooks'. -/
def monitorLooksCard : Claim7 := { stood := { row := monitorLooksRow, standIns := [], harness := (true, "bdf80102cdf8746f94791fe0f734146828de68cf7c5201f4453f265076d2a1f9"), looks := false }, kinds := [], alts := [], laidByText := true, laidKinds := [.data, .data], laidTests := true, laidLooks := .later }
def MonitorLooksCardSaid : Prop := Claim7.holds Tryd.pinned (.plain (OpenSpec.ofChange monitorLooksSpec)) monitorLooksCard

/-- THE TIED CARD OF 'rolodexlaw23.MonitorAll'. -/
def monitorAllCard : Claim7 := { stood := { row := monitorAllRow, standIns := [], harness := (true, "bdf80102cdf8746f94791fe0f734146828de68cf7c5201f4453f265076d2a1f9"), looks := false }, kinds := [], alts := [], laidByText := true, laidKinds := [.data, .data], laidTests := true, laidLooks := .later }
def MonitorAllCardSaid : Prop := Claim7.holds Tryd.pinned (.plain (OpenSpec.ofChange monitorAllSpec)) monitorAllCard

/-- THE TIED CARD OF 'rolodexlaw23.MonitorOwn'. -/
def monitorOwnCard : Claim7 := { stood := { row := monitorOwnRow, standIns := [], harness := (true, "bdf80102cdf8746f94791fe0f734146828de68cf7c5201f4453f265076d2a1f9"), looks := false }, kinds := [], alts := [], laidByText := true, laidKinds := [.data, .data], laidTests := true, laidLooks := .later }
def MonitorOwnCardSaid : Prop := Claim7.holds Tryd.pinned (.plain (OpenSpec.ofChange monitorOwnSpec)) monitorOwnCard

/-- THE TIED CARD OF 'rolodexlaw23.MonitorHistory'. -/
def monitorHistoryCard : Claim7 := { stood := { row := monitorHistoryRow, standIns := [], harness := (true, "bdf80102cdf8746f94791fe0f734146828de68cf7c5201f4453f265076d2a1f9"), looks := false }, kinds := [], alts := [], laidByText := true, laidKinds := [.data, .data], laidTests := true, laidLooks := .later }
def MonitorHistoryCardSaid : Prop := Claim7.holds Tryd.pinned (.plain (OpenSpec.ofChange monitorHistorySpec)) monitorHistoryCard

/-- THE SECOND FORM's CARD OF 'rolodexlaw14.ChainGrows'. -/
def chainGrowsUptoCard : Claim7 := { stood := { row := chainGrowsUptoRow, standIns := [], harness := (true, "bdf80102cdf8746f94791fe0f734146828de68cf7c5201f4453f265076d2a1f9"), looks := false }, kinds := [], alts := [], laidByText := true, laidKinds := [.data, .data], laidTests := true, laidLooks := .later }
def ChainGrowsUptoCardSaid : Prop := Claim7.holds Tryd.pinned (.plain (OpenSpec.upto chainGrowsSpec)) chainGrowsUptoCard

/-- THE SECOND FORM's CARD OF 'rolodexlaw14.ChainHashes'. -/
def chainHashesUptoCard : Claim7 := { stood := { row := chainHashesUptoRow, standIns := [], harness := (true, "bdf80102cdf8746f94791fe0f734146828de68cf7c5201f4453f265076d2a1f9"), looks := false }, kinds := [], alts := [], laidByText := true, laidKinds := [.data, .data], laidTests := true, laidLooks := .later }
def ChainHashesUptoCardSaid : Prop := Claim7.holds Tryd.pinned (.plain (OpenSpec.upto chainHashesSpec)) chainHashesUptoCard

/-- THE SECOND FORM's CARD OF 'rolodexlaw14.ChainSound'. -/
def chainSoundUptoCard : Claim7 := { stood := { row := chainSoundUptoRow, standIns := [], harness := (true, "bdf80102cdf8746f94791fe0f734146828de68cf7c5201f4453f265076d2a1f9"), looks := false }, kinds := [], alts := [], laidByText := true, laidKinds := [.data, .data], laidTests := true, laidLooks := .later }
def ChainSoundUptoCardSaid : Prop := Claim7.holds Tryd.pinned (.plain (OpenSpec.upto chainSoundSpec)) chainSoundUptoCard

/-- THE SECOND FORM's CARD OF 'rolodexlaw14.ChainForms'. -/
def chainFormsUptoCard : Claim7 := { stood := { row := chainFormsUptoRow, standIns := [], harness := (true, "bdf80102cdf8746f94791fe0f734146828de68cf7c5201f4453f265076d2a1f9"), looks := false }, kinds := [], alts := [], laidByText := true, laidKinds := [.data, .data], laidTests := true, laidLooks := .later }
def ChainFormsUptoCardSaid : Prop := Claim7.holds Tryd.pinned (.plain (OpenSpec.upto chainFormsSpec)) chainFormsUptoCard

/-- THE SECOND FORM's CARD OF 'rolodexlaw14.ChainBuilds'. -/
def chainBuildsUptoCard : Claim7 := { stood := { row := chainBuildsUptoRow, standIns := [], harness := (true, "bdf80102cdf8746f94791fe0f734146828de68cf7c5201f4453f265076d2a1f9"), looks := false }, kinds := [], alts := [], laidByText := true, laidKinds := [.data, .data], laidTests := true, laidLooks := .later }
def ChainBuildsUptoCardSaid : Prop := Claim7.holds Tryd.pinned (.plain (OpenSpec.upto chainBuildsSpec)) chainBuildsUptoCard

/-- THE SECOND FORM's CARD OF 'rolodexlaw23.MonitorCut'. -/
def monitorCutUptoCard : Claim7 := { stood := { row := monitorCutUptoRow, standIns := [], harness := (true, "bdf80102cdf8746f94791fe0f734146828de68cf7c5201f4453f265076d2a1f9"), looks := false }, kinds := [], alts := [], laidByText := true, laidKinds := [.data, .data], laidTests := true, laidLooks := .later }
def MonitorCutUptoCardSaid : Prop := Claim7.holds Tryd.pinned (.plain (OpenSpec.upto monitorCutSpec)) monitorCutUptoCard

/-- THE SECOND FORM's CARD OF 'rolodexlaw23.MonitorLooks'. -/
def monitorLooksUptoCard : Claim7 := { stood := { row := monitorLooksUptoRow, standIns := [], harness := (true, "bdf80102cdf8746f94791fe0f734146828de68cf7c5201f4453f265076d2a1f9"), looks := false }, kinds := [], alts := [], laidByText := true, laidKinds := [.data, .data], laidTests := true, laidLooks := .later }
def MonitorLooksUptoCardSaid : Prop := Claim7.holds Tryd.pinned (.plain (OpenSpec.upto monitorLooksSpec)) monitorLooksUptoCard

/-- THE SECOND FORM's CARD OF 'rolodexlaw23.MonitorAll'. -/
def monitorAllUptoCard : Claim7 := { stood := { row := monitorAllUptoRow, standIns := [], harness := (true, "bdf80102cdf8746f94791fe0f734146828de68cf7c5201f4453f265076d2a1f9"), looks := false }, kinds := [], alts := [], laidByText := true, laidKinds := [.data, .data], laidTests := true, laidLooks := .later }
def MonitorAllUptoCardSaid : Prop := Claim7.holds Tryd.pinned (.plain (OpenSpec.upto monitorAllSpec)) monitorAllUptoCard

/-- THE SECOND FORM's CARD OF 'rolodexlaw23.MonitorOwn'. -/
def monitorOwnUptoCard : Claim7 := { stood := { row := monitorOwnUptoRow, standIns := [], harness := (true, "bdf80102cdf8746f94791fe0f734146828de68cf7c5201f4453f265076d2a1f9"), looks := false }, kinds := [], alts := [], laidByText := true, laidKinds := [.data, .data], laidTests := true, laidLooks := .later }
def MonitorOwnUptoCardSaid : Prop := Claim7.holds Tryd.pinned (.plain (OpenSpec.upto monitorOwnSpec)) monitorOwnUptoCard

/-- THE SECOND FORM's CARD OF 'rolodexlaw23.MonitorHistory'. -/
def monitorHistoryUptoCard : Claim7 := { stood := { row := monitorHistoryUptoRow, standIns := [], harness := (true, "bdf80102cdf8746f94791fe0f734146828de68cf7c5201f4453f265076d2a1f9"), looks := false }, kinds := [], alts := [], laidByText := true, laidKinds := [.data, .data], laidTests := true, laidLooks := .later }
def MonitorHistoryUptoCardSaid : Prop := Claim7.holds Tryd.pinned (.plain (OpenSpec.upto monitorHistorySpec)) monitorHistoryUptoCard
end Rows
end Go.Proofs.YtodeiommhponnaaDoor
