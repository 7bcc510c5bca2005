/-
  DERIVED. GIVEN WITH THE SEED: THE CARDS: each row of YtbaecpklplkciaaDoorRows.lean that lists a variable, with what it lists TIED to the program's text (the seventh form; the later family's looks); each row that meets fmt, with fmt's text TOLD by the authors' own Lean function (tested against real Go, not proved from fmt's source: count such statements apart). THE CARD IS WHAT COUNTS. Prove the row's statement (the work); the ties are given (YtbaecpklplkciaaDoorTie.lean); close each card by the builder's one call (the guide's Derived/Test/ToyasCard.lean, 'card_holds'). Laid BY PROGRAM, IN A SANDBOX (cutbox-door.mjs). By AI agents, Wed Nov 11 2026. No macro, syntax, notation, axiom, sorry.
-/
import Derived.Test.YtbaecpklplkciaaDoorRows
import GoSem.ClaimSeven
namespace Go.Proofs.YtbaecpklplkciaaDoor
namespace Rows

/-- THE TIED CARD OF 'rolodexlaw05.LmsKeys'. -/
def lmsKeysCard : Claim7 := { stood := { row := lmsKeysRow, standIns := [], harness := (true, "2fe528cdd25933a22970b283abd6a7298a0f65fdfea07866a2847a01f2b75137"), looks := false }, kinds := [], alts := [], laidByText := true, laidKinds := [.data, .data, .data], laidTests := true, laidLooks := .later }
def LmsKeysCardSaid : Prop := Claim7.holds Tryd.pinned (.plain (OpenSpec.ofChange lmsKeysSpec)) lmsKeysCard

/-- THE TIED CARD OF 'rolodexlaw05.LmsSigns'. -/
def lmsSignsCard : Claim7 := { stood := { row := lmsSignsRow, standIns := [], harness := (true, "2fe528cdd25933a22970b283abd6a7298a0f65fdfea07866a2847a01f2b75137"), looks := false }, kinds := [], alts := [], laidByText := true, laidKinds := [.data, .data, .data], laidTests := true, laidLooks := .later }
def LmsSignsCardSaid : Prop := Claim7.holds Tryd.pinned (.plain (OpenSpec.ofChange lmsSignsSpec)) lmsSignsCard

/-- THE TIED CARD OF 'rolodexlaw05.LmsNil'. -/
def lmsNilCard : Claim7 := { stood := { row := lmsNilRow, standIns := [], harness := (true, "2fe528cdd25933a22970b283abd6a7298a0f65fdfea07866a2847a01f2b75137"), looks := false }, kinds := [], alts := [], laidByText := true, laidKinds := [.data, .data, .data], laidTests := true, laidLooks := .later }
def LmsNilCardSaid : Prop := Claim7.holds Tryd.pinned (.plain (OpenSpec.ofChange lmsNilSpec)) lmsNilCard

/-- THE TIED CARD OF 'rolodexlaw06.HssKeys'. -/
def hssKeysCard : Claim7 := { stood := { row := hssKeysRow, standIns := [], harness := (true, "2fe528cdd25933a22970b283abd6a7298a0f65fdfea07866a2847a01f2b75137"), looks := false }, kinds := [], alts := [], laidByText := true, laidKinds := [.data, .data, .data], laidTests := true, laidLooks := .later }
def HssKeysCardSaid : Prop := Claim7.holds Tryd.pinned (.plain (OpenSpec.ofChange hssKeysSpec)) hssKeysCard

/-- THE TIED CARD OF 'rolodexlaw05.LmsVerifies'. -/
def lmsVerifiesCard : Claim7 := { stood := { row := lmsVerifiesRow, standIns := [], harness := (true, "2fe528cdd25933a22970b283abd6a7298a0f65fdfea07866a2847a01f2b75137"), looks := false }, kinds := [], alts := [], laidByText := true, laidKinds := [.data, .data, .data], laidTests := true, laidLooks := .later }
def LmsVerifiesCardSaid : Prop := Claim7.holds Tryd.pinned (.plain (OpenSpec.ofChange lmsVerifiesSpec)) lmsVerifiesCard

/-- THE TIED CARD OF 'rolodexlaw06.HssSigns'. -/
def hssSignsCard : Claim7 := { stood := { row := hssSignsRow, standIns := [], harness := (true, "2fe528cdd25933a22970b283abd6a7298a0f65fdfea07866a2847a01f2b75137"), looks := false }, kinds := [], alts := [], laidByText := true, laidKinds := [.data, .data, .data], laidTests := true, laidLooks := .later }
def HssSignsCardSaid : Prop := Claim7.holds Tryd.pinned (.plain (OpenSpec.ofChange hssSignsSpec)) hssSignsCard

/-- THE TIED CARD OF 'rolodexlaw06.HssNil'. -/
def hssNilCard : Claim7 := { stood := { row := hssNilRow, standIns := [], harness := (true, "2fe528cdd25933a22970b283abd6a7298a0f65fdfea07866a2847a01f2b75137"), looks := false }, kinds := [], alts := [], laidByText := true, laidKinds := [.data, .data, .data], laidTests := true, laidLooks := .later }
def HssNilCardSaid : Prop := Claim7.holds Tryd.pinned (.plain (OpenSpec.ofChange hssNilSpec)) hssNilCard

/-- THE TIED CARD OF 'rolodexlaw05.LmsRight'. -/
def lmsRightCard : Claim7 := { stood := { row := lmsRightRow, standIns := [], harness := (true, "2fe528cdd25933a22970b283abd6a7298a0f65fdfea07866a2847a01f2b75137"), looks := false }, kinds := [], alts := [], laidByText := true, laidKinds := [.data, .data, .data], laidTests := true, laidLooks := .later }
def LmsRightCardSaid : Prop := Claim7.holds Tryd.pinned (.plain (OpenSpec.ofChange lmsRightSpec)) lmsRightCard

/-- THE TIED CARD OF 'rolodexlaw05.LmsCuts'. -/
def lmsCutsCard : Claim7 := { stood := { row := lmsCutsRow, standIns := [], harness := (true, "2fe528cdd25933a22970b283abd6a7298a0f65fdfea07866a2847a01f2b75137"), looks := false }, kinds := [], alts := [], laidByText := true, laidKinds := [.data, .data, .data], laidTests := true, laidLooks := .later }
def LmsCutsCardSaid : Prop := Claim7.holds Tryd.pinned (.plain (OpenSpec.ofChange lmsCutsSpec)) lmsCutsCard

/-- THE TIED CARD OF 'rolodexlaw06.HssVerifies'. -/
def hssVerifiesCard : Claim7 := { stood := { row := hssVerifiesRow, standIns := [], harness := (true, "2fe528cdd25933a22970b283abd6a7298a0f65fdfea07866a2847a01f2b75137"), looks := false }, kinds := [], alts := [], laidByText := true, laidKinds := [.data, .data, .data], laidTests := true, laidLooks := .later }
def HssVerifiesCardSaid : Prop := Claim7.holds Tryd.pinned (.plain (OpenSpec.ofChange hssVerifiesSpec)) hssVerifiesCard

/-- THE TIED CARD OF 'rolodexlaw06.HssCuts'. -/
def hssCutsCard : Claim7 := { stood := { row := hssCutsRow, standIns := [], harness := (true, "2fe528cdd25933a22970b283abd6a7298a0f65fdfea07866a2847a01f2b75137"), looks := false }, kinds := [], alts := [], laidByText := true, laidKinds := [.data, .data, .data], laidTests := true, laidLooks := .later }
def HssCutsCardSaid : Prop := Claim7.holds Tryd.pinned (.plain (OpenSpec.ofChange hssCutsSpec)) hssCutsCard

/-- THE TIED CARD OF 'rolodexlaw06.HssRight'. -/
def hssRightCard : Claim7 := { stood := { row := hssRightRow, standIns := [], harness := (true, "2fe528cdd25933a22970b283abd6a7298a0f65fdfea07866a2847a01f2b75137"), looks := false }, kinds := [], alts := [], laidByText := true, laidKinds := [.data, .data, .data], laidTests := true, laidLooks := .later }
def HssRightCardSaid : Prop := Claim7.holds Tryd.pinned (.plain (OpenSpec.ofChange hssRightSpec)) hssRightCard

/-- THE SECOND FORM's CARD OF 'rolodexlaw05.LmsKeys'. -/
def lmsKeysUptoCard : Claim7 := { stood := { row := lmsKeysUptoRow, standIns := [], harness := (true, "2fe528cdd25933a22970b283abd6a7298a0f65fdfea07866a2847a01f2b75137"), looks := false }, kinds := [], alts := [], laidByText := true, laidKinds := [.data, .data, .data], laidTests := true, laidLooks := .later }
def LmsKeysUptoCardSaid : Prop := Claim7.holds Tryd.pinned (.plain (OpenSpec.upto lmsKeysSpec)) lmsKeysUptoCard

/-- THE SECOND FORM's CARD OF 'rolodexlaw05.LmsSigns'. -/
def lmsSignsUptoCard : Claim7 := { stood := { row := lmsSignsUptoRow, standIns := [], harness := (true, "2fe528cdd25933a22970b283abd6a7298a0f65fdfea07866a2847a01f2b75137"), looks := false }, kinds := [], alts := [], laidByText := true, laidKinds := [.data, .data, .data], laidTests := true, laidLooks := .later }
def LmsSignsUptoCardSaid : Prop := Claim7.holds Tryd.pinned (.plain (OpenSpec.upto lmsSignsSpec)) lmsSignsUptoCard

/-- THE SECOND FORM's CARD OF 'rolodexlaw05.LmsNil'. -/
def lmsNilUptoCard : Claim7 := { stood := { row := lmsNilUptoRow, standIns := [], harness := (true, "2fe528cdd25933a22970b283abd6a7298a0f65fdfea07866a2847a01f2b75137"), looks := false }, kinds := [], alts := [], laidByText := true, laidKinds := [.data, .data, .data], laidTests := true, laidLooks := .later }
def LmsNilUptoCardSaid : Prop := Claim7.holds Tryd.pinned (.plain (OpenSpec.upto lmsNilSpec)) lmsNilUptoCard

/-- THE SECOND FORM's CARD OF 'rolodexlaw06.HssKeys'. -/
def hssKeysUptoCard : Claim7 := { stood := { row := hssKeysUptoRow, standIns := [], harness := (true, "2fe528cdd25933a22970b283abd6a7298a0f65fdfea07866a2847a01f2b75137"), looks := false }, kinds := [], alts := [], laidByText := true, laidKinds := [.data, .data, .data], laidTests := true, laidLooks := .later }
def HssKeysUptoCardSaid : Prop := Claim7.holds Tryd.pinned (.plain (OpenSpec.upto hssKeysSpec)) hssKeysUptoCard

/-- THE SECOND FORM's CARD OF 'rolodexlaw05.LmsVerifies'. -/
def lmsVerifiesUptoCard : Claim7 := { stood := { row := lmsVerifiesUptoRow, standIns := [], harness := (true, "2fe528cdd25933a22970b283abd6a7298a0f65fdfea07866a2847a01f2b75137"), looks := false }, kinds := [], alts := [], laidByText := true, laidKinds := [.data, .data, .data], laidTests := true, laidLooks := .later }
def LmsVerifiesUptoCardSaid : Prop := Claim7.holds Tryd.pinned (.plain (OpenSpec.upto lmsVerifiesSpec)) lmsVerifiesUptoCard

/-- THE SECOND FORM's CARD OF 'rolodexlaw06.HssSigns'. -/
def hssSignsUptoCard : Claim7 := { stood := { row := hssSignsUptoRow, standIns := [], harness := (true, "2fe528cdd25933a22970b283abd6a7298a0f65fdfea07866a2847a01f2b75137"), looks := false }, kinds := [], alts := [], laidByText := true, laidKinds := [.data, .data, .data], laidTests := true, laidLooks := .later }
def HssSignsUptoCardSaid : Prop := Claim7.holds Tryd.pinned (.plain (OpenSpec.upto hssSignsSpec)) hssSignsUptoCard

/-- THE SECOND FORM's CARD OF 'rolodexlaw06.HssNil'. -/
def hssNilUptoCard : Claim7 := { stood := { row := hssNilUptoRow, standIns := [], harness := (true, "2fe528cdd25933a22970b283abd6a7298a0f65fdfea07866a2847a01f2b75137"), looks := false }, kinds := [], alts := [], laidByText := true, laidKinds := [.data, .data, .data], laidTests := true, laidLooks := .later }
def HssNilUptoCardSaid : Prop := Claim7.holds Tryd.pinned (.plain (OpenSpec.upto hssNilSpec)) hssNilUptoCard

/-- THE SECOND FORM's CARD OF 'rolodexlaw05.LmsRight'. -/
def lmsRightUptoCard : Claim7 := { stood := { row := lmsRightUptoRow, standIns := [], harness := (true, "2fe528cdd25933a22970b283abd6a7298a0f65fdfea07866a2847a01f2b75137"), looks := false }, kinds := [], alts := [], laidByText := true, laidKinds := [.data, .data, .data], laidTests := true, laidLooks := .later }
def LmsRightUptoCardSaid : Prop := Claim7.holds Tryd.pinned (.plain (OpenSpec.upto lmsRightSpec)) lmsRightUptoCard

/-- THE SECOND FORM's CARD OF 'rolodexlaw05.LmsCuts'. -/
def lmsCutsUptoCard : Claim7 := { stood := { row := lmsCutsUptoRow, standIns := [], harness := (true, "2fe528cdd25933a22970b283abd6a7298a0f65fdfea07866a2847a01f2b75137"), looks := false }, kinds := [], alts := [], laidByText := true, laidKinds := [.data, .data, .data], laidTests := true, laidLooks := .later }
def LmsCutsUptoCardSaid : Prop := Claim7.holds Tryd.pinned (.plain (OpenSpec.upto lmsCutsSpec)) lmsCutsUptoCard

/-- THE SECOND FORM's CARD OF 'rolodexlaw06.HssVerifies'. -/
def hssVerifiesUptoCard : Claim7 := { stood := { row := hssVerifiesUptoRow, standIns := [], harness := (true, "2fe528cdd25933a22970b283abd6a7298a0f65fdfea07866a2847a01f2b75137"), looks := false }, kinds := [], alts := [], laidByText := true, laidKinds := [.data, .data, .data], laidTests := true, laidLooks := .later }
def HssVerifiesUptoCardSaid : Prop := Claim7.holds Tryd.pinned (.plain (OpenSpec.upto hssVerifiesSpec)) hssVerifiesUptoCard

/-- THE SECOND FORM's CARD OF 'rolodexlaw06.HssCuts'. -/
def hssCutsUptoCard : Claim7 := { stood := { row := hssCutsUptoRow, standIns := [], harness := (true, "2fe528cdd25933a22970b283abd6a7298a0f65fdfea07866a2847a01f2b75137"), looks := false }, kinds := [], alts := [], laidByText := true, laidKinds := [.data, .data, .data], laidTests := true, laidLooks := .later }
def HssCutsUptoCardSaid : Prop := Claim7.holds Tryd.pinned (.plain (OpenSpec.upto hssCutsSpec)) hssCutsUptoCard

/-- THE SECOND FORM's CARD OF 'rolodexlaw06.HssRight'. -/
def hssRightUptoCard : Claim7 := { stood := { row := hssRightUptoRow, standIns := [], harness := (true, "2fe528cdd25933a22970b283abd6a7298a0f65fdfea07866a2847a01f2b75137"), looks := false }, kinds := [], alts := [], laidByText := true, laidKinds := [.data, .data, .data], laidTests := true, laidLooks := .later }
def HssRightUptoCardSaid : Prop := Claim7.holds Tryd.pinned (.plain (OpenSpec.upto hssRightSpec)) hssRightUptoCard
end Rows
end Go.Proofs.YtbaecpklplkciaaDoor
