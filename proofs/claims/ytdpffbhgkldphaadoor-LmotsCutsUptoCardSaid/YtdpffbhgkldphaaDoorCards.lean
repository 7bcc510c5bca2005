/-
  DERIVED. GIVEN WITH THE SEED: THE CARDS: each row of YtdpffbhgkldphaaDoorRows.lean that lists a variable, with what it lists TIED to the program's text (the seventh form; the later family's looks); each row that meets fmt, with fmt's text TOLD by the authors' own Lean function (tested against real Go, not proved from fmt's source: count such statements apart). THE CARD IS WHAT COUNTS. Prove the row's statement (the work); the ties are given (YtdpffbhgkldphaaDoorTie.lean); close each card by the builder's one call (the guide's Derived/Test/ToyasCard.lean, 'card_holds'). Laid BY PROGRAM, IN A SANDBOX (cutbox-door.mjs). By AI agents, Wed Nov 11 2026. No macro, syntax, notation, axiom, sorry.
-/
import Derived.Test.YtdpffbhgkldphaaDoorRows
import GoSem.ClaimSeven
namespace Go.Proofs.YtdpffbhgkldphaaDoor
namespace Rows

/-- THE TIED CARD OF 'rolodexlaw04.LmotsForms'. -/
def lmotsFormsCard : Claim7 := { stood := { row := lmotsFormsRow, standIns := [], harness := (true, "03ab86e67b1df4faae080877d285c14ba78c3daa95611c723403811ea13abd57"), looks := false }, kinds := [], alts := [], laidByText := true, laidKinds := [.data], laidTests := true, laidLooks := .later }
def LmotsFormsCardSaid : Prop := Claim7.holds Tryd.pinned (.plain (OpenSpec.ofChange lmotsFormsSpec)) lmotsFormsCard

/-- THE TIED CARD OF 'rolodexlaw04.LmotsLess'. -/
def lmotsLessCard : Claim7 := { stood := { row := lmotsLessRow, standIns := [], harness := (true, "03ab86e67b1df4faae080877d285c14ba78c3daa95611c723403811ea13abd57"), looks := false }, kinds := [], alts := [], laidByText := true, laidKinds := [.data], laidTests := true, laidLooks := .later }
def LmotsLessCardSaid : Prop := Claim7.holds Tryd.pinned (.plain (OpenSpec.ofChange lmotsLessSpec)) lmotsLessCard

/-- THE TIED CARD OF 'rolodexlaw02.HashSums'. -/
def hashSumsCard : Claim7 := { stood := { row := hashSumsRow, standIns := [], harness := (true, "03ab86e67b1df4faae080877d285c14ba78c3daa95611c723403811ea13abd57"), looks := false }, kinds := [], alts := [], laidByText := true, laidKinds := [.data, .data], laidTests := true, laidLooks := .later }
def HashSumsCardSaid : Prop := Claim7.holds Tryd.pinned (.plain (OpenSpec.ofChange hashSumsSpec)) hashSumsCard

/-- THE TIED CARD OF 'rolodexlaw02.HashClashes'. -/
def hashClashesCard : Claim7 := { stood := { row := hashClashesRow, standIns := [], harness := (true, "03ab86e67b1df4faae080877d285c14ba78c3daa95611c723403811ea13abd57"), looks := false }, kinds := [], alts := [], laidByText := true, laidKinds := [.data, .data], laidTests := true, laidLooks := .later }
def HashClashesCardSaid : Prop := Claim7.holds Tryd.pinned (.plain (OpenSpec.ofChange hashClashesSpec)) hashClashesCard

/-- THE TIED CARD OF 'rolodexlaw02.HashApart'. -/
def hashApartCard : Claim7 := { stood := { row := hashApartRow, standIns := [], harness := (true, "03ab86e67b1df4faae080877d285c14ba78c3daa95611c723403811ea13abd57"), looks := false }, kinds := [], alts := [], laidByText := true, laidKinds := [.data, .data], laidTests := true, laidLooks := .later }
def HashApartCardSaid : Prop := Claim7.holds Tryd.pinned (.plain (OpenSpec.ofChange hashApartSpec)) hashApartCard

/-- THE TIED CARD OF 'rolodexlaw02.HashTexts'. -/
def hashTextsCard : Claim7 := { stood := { row := hashTextsRow, standIns := [], harness := (true, "03ab86e67b1df4faae080877d285c14ba78c3daa95611c723403811ea13abd57"), looks := false }, kinds := [], alts := [], laidByText := true, laidKinds := [.data, .data], laidTests := true, laidLooks := .later }
def HashTextsCardSaid : Prop := Claim7.holds Tryd.pinned (.plain (OpenSpec.ofChange hashTextsSpec)) hashTextsCard

/-- THE TIED CARD OF 'rolodexlaw02.HashOwn'. -/
def hashOwnCard : Claim7 := { stood := { row := hashOwnRow, standIns := [], harness := (true, "03ab86e67b1df4faae080877d285c14ba78c3daa95611c723403811ea13abd57"), looks := false }, kinds := [], alts := [], laidByText := true, laidKinds := [.data, .data], laidTests := true, laidLooks := .later }
def HashOwnCardSaid : Prop := Claim7.holds Tryd.pinned (.plain (OpenSpec.ofChange hashOwnSpec)) hashOwnCard

/-- THE TIED CARD OF 'rolodexlaw04.LmotsPublic'. -/
def lmotsPublicCard : Claim7 := { stood := { row := lmotsPublicRow, standIns := [], harness := (true, "03ab86e67b1df4faae080877d285c14ba78c3daa95611c723403811ea13abd57"), looks := false }, kinds := [], alts := [], laidByText := true, laidKinds := [.data, .data, .data], laidTests := true, laidLooks := .later }
def LmotsPublicCardSaid : Prop := Claim7.holds Tryd.pinned (.plain (OpenSpec.ofChange lmotsPublicSpec)) lmotsPublicCard

/-- THE TIED CARD OF 'rolodexlaw04.LmotsSigns'. -/
def lmotsSignsCard : Claim7 := { stood := { row := lmotsSignsRow, standIns := [], harness := (true, "03ab86e67b1df4faae080877d285c14ba78c3daa95611c723403811ea13abd57"), looks := false }, kinds := [], alts := [], laidByText := true, laidKinds := [.data, .data, .data], laidTests := true, laidLooks := .later }
def LmotsSignsCardSaid : Prop := Claim7.holds Tryd.pinned (.plain (OpenSpec.ofChange lmotsSignsSpec)) lmotsSignsCard

/-- THE TIED CARD OF 'rolodexlaw04.LmotsRecovers'. -/
def lmotsRecoversCard : Claim7 := { stood := { row := lmotsRecoversRow, standIns := [], harness := (true, "03ab86e67b1df4faae080877d285c14ba78c3daa95611c723403811ea13abd57"), looks := false }, kinds := [], alts := [], laidByText := true, laidKinds := [.data, .data, .data], laidTests := true, laidLooks := .later }
def LmotsRecoversCardSaid : Prop := Claim7.holds Tryd.pinned (.plain (OpenSpec.ofChange lmotsRecoversSpec)) lmotsRecoversCard

/-- THE TIED CARD OF 'rolodexlaw04.LmotsCuts'. -/
def lmotsCutsCard : Claim7 := { stood := { row := lmotsCutsRow, standIns := [], harness := (true, "03ab86e67b1df4faae080877d285c14ba78c3daa95611c723403811ea13abd57"), looks := false }, kinds := [], alts := [], laidByText := true, laidKinds := [.data, .data, .data], laidTests := true, laidLooks := .later }
def LmotsCutsCardSaid : Prop := Claim7.holds Tryd.pinned (.plain (OpenSpec.ofChange lmotsCutsSpec)) lmotsCutsCard

/-- THE TIED CARD OF 'rolodexlaw04.LmotsRight'. -/
def lmotsRightCard : Claim7 := { stood := { row := lmotsRightRow, standIns := [], harness := (true, "03ab86e67b1df4faae080877d285c14ba78c3daa95611c723403811ea13abd57"), looks := false }, kinds := [], alts := [], laidByText := true, laidKinds := [.data, .data, .data], laidTests := true, laidLooks := .later }
def LmotsRightCardSaid : Prop := Claim7.holds Tryd.pinned (.plain (OpenSpec.ofChange lmotsRightSpec)) lmotsRightCard

/-- THE SECOND FORM's CARD OF 'rolodexlaw04.LmotsForms'. -/
def lmotsFormsUptoCard : Claim7 := { stood := { row := lmotsFormsUptoRow, standIns := [], harness := (true, "03ab86e67b1df4faae080877d285c14ba78c3daa95611c723403811ea13abd57"), looks := false }, kinds := [], alts := [], laidByText := true, laidKinds := [.data], laidTests := true, laidLooks := .later }
def LmotsFormsUptoCardSaid : Prop := Claim7.holds Tryd.pinned (.plain (OpenSpec.upto lmotsFormsSpec)) lmotsFormsUptoCard

/-- THE SECOND FORM's CARD OF 'rolodexlaw04.LmotsLess'. -/
def lmotsLessUptoCard : Claim7 := { stood := { row := lmotsLessUptoRow, standIns := [], harness := (true, "03ab86e67b1df4faae080877d285c14ba78c3daa95611c723403811ea13abd57"), looks := false }, kinds := [], alts := [], laidByText := true, laidKinds := [.data], laidTests := true, laidLooks := .later }
def LmotsLessUptoCardSaid : Prop := Claim7.holds Tryd.pinned (.plain (OpenSpec.upto lmotsLessSpec)) lmotsLessUptoCard

/-- THE SECOND FORM's CARD OF 'rolodexlaw02.HashSums'. -/
def hashSumsUptoCard : Claim7 := { stood := { row := hashSumsUptoRow, standIns := [], harness := (true, "03ab86e67b1df4faae080877d285c14ba78c3daa95611c723403811ea13abd57"), looks := false }, kinds := [], alts := [], laidByText := true, laidKinds := [.data, .data], laidTests := true, laidLooks := .later }
def HashSumsUptoCardSaid : Prop := Claim7.holds Tryd.pinned (.plain (OpenSpec.upto hashSumsSpec)) hashSumsUptoCard

/-- THE SECOND FORM's CARD OF 'rolodexlaw02.HashClashes'. -/
def hashClashesUptoCard : Claim7 := { stood := { row := hashClashesUptoRow, standIns := [], harness := (true, "03ab86e67b1df4faae080877d285c14ba78c3daa95611c723403811ea13abd57"), looks := false }, kinds := [], alts := [], laidByText := true, laidKinds := [.data, .data], laidTests := true, laidLooks := .later }
def HashClashesUptoCardSaid : Prop := Claim7.holds Tryd.pinned (.plain (OpenSpec.upto hashClashesSpec)) hashClashesUptoCard

/-- THE SECOND FORM's CARD OF 'rolodexlaw02.HashApart'. -/
def hashApartUptoCard : Claim7 := { stood := { row := hashApartUptoRow, standIns := [], harness := (true, "03ab86e67b1df4faae080877d285c14ba78c3daa95611c723403811ea13abd57"), looks := false }, kinds := [], alts := [], laidByText := true, laidKinds := [.data, .data], laidTests := true, laidLooks := .later }
def HashApartUptoCardSaid : Prop := Claim7.holds Tryd.pinned (.plain (OpenSpec.upto hashApartSpec)) hashApartUptoCard

/-- THE SECOND FORM's CARD OF 'rolodexlaw02.HashTexts'. -/
def hashTextsUptoCard : Claim7 := { stood := { row := hashTextsUptoRow, standIns := [], harness := (true, "03ab86e67b1df4faae080877d285c14ba78c3daa95611c723403811ea13abd57"), looks := false }, kinds := [], alts := [], laidByText := true, laidKinds := [.data, .data], laidTests := true, laidLooks := .later }
def HashTextsUptoCardSaid : Prop := Claim7.holds Tryd.pinned (.plain (OpenSpec.upto hashTextsSpec)) hashTextsUptoCard

/-- THE SECOND FORM's CARD OF 'rolodexlaw02.HashOwn'. -/
def hashOwnUptoCard : Claim7 := { stood := { row := hashOwnUptoRow, standIns := [], harness := (true, "03ab86e67b1df4faae080877d285c14ba78c3daa95611c723403811ea13abd57"), looks := false }, kinds := [], alts := [], laidByText := true, laidKinds := [.data, .data], laidTests := true, laidLooks := .later }
def HashOwnUptoCardSaid : Prop := Claim7.holds Tryd.pinned (.plain (OpenSpec.upto hashOwnSpec)) hashOwnUptoCard

/-- THE SECOND FORM's CARD OF 'rolodexlaw04.LmotsPublic'. -/
def lmotsPublicUptoCard : Claim7 := { stood := { row := lmotsPublicUptoRow, standIns := [], harness := (true, "03ab86e67b1df4faae080877d285c14ba78c3daa95611c723403811ea13abd57"), looks := false }, kinds := [], alts := [], laidByText := true, laidKinds := [.data, .data, .data], laidTests := true, laidLooks := .later }
def LmotsPublicUptoCardSaid : Prop := Claim7.holds Tryd.pinned (.plain (OpenSpec.upto lmotsPublicSpec)) lmotsPublicUptoCard

/-- THE SECOND FORM's CARD OF 'rolodexlaw04.LmotsSigns'. -/
def lmotsSignsUptoCard : Claim7 := { stood := { row := lmotsSignsUptoRow, standIns := [], harness := (true, "03ab86e67b1df4faae080877d285c14ba78c3daa95611c723403811ea13abd57"), looks := false }, kinds := [], alts := [], laidByText := true, laidKinds := [.data, .data, .data], laidTests := true, laidLooks := .later }
def LmotsSignsUptoCardSaid : Prop := Claim7.holds Tryd.pinned (.plain (OpenSpec.upto lmotsSignsSpec)) lmotsSignsUptoCard

/-- THE SECOND FORM's CARD OF 'rolodexlaw04.LmotsRecovers'. -/
def lmotsRecoversUptoCard : Claim7 := { stood := { row := lmotsRecoversUptoRow, standIns := [], harness := (true, "03ab86e67b1df4faae080877d285c14ba78c3daa95611c723403811ea13abd57"), looks := false }, kinds := [], alts := [], laidByText := true, laidKinds := [.data, .data, .data], laidTests := true, laidLooks := .later }
def LmotsRecoversUptoCardSaid : Prop := Claim7.holds Tryd.pinned (.plain (OpenSpec.upto lmotsRecoversSpec)) lmotsRecoversUptoCard

/-- THE SECOND FORM's CARD OF 'rolodexlaw04.LmotsCuts'. -/
def lmotsCutsUptoCard : Claim7 := { stood := { row := lmotsCutsUptoRow, standIns := [], harness := (true, "03ab86e67b1df4faae080877d285c14ba78c3daa95611c723403811ea13abd57"), looks := false }, kinds := [], alts := [], laidByText := true, laidKinds := [.data, .data, .data], laidTests := true, laidLooks := .later }
def LmotsCutsUptoCardSaid : Prop := Claim7.holds Tryd.pinned (.plain (OpenSpec.upto lmotsCutsSpec)) lmotsCutsUptoCard

/-- THE SECOND FORM's CARD OF 'rolodexlaw04.LmotsRight'. -/
def lmotsRightUptoCard : Claim7 := { stood := { row := lmotsRightUptoRow, standIns := [], harness := (true, "03ab86e67b1df4faae080877d285c14ba78c3daa95611c723403811ea13abd57"), looks := false }, kinds := [], alts := [], laidByText := true, laidKinds := [.data, .data, .data], laidTests := true, laidLooks := .later }
def LmotsRightUptoCardSaid : Prop := Claim7.holds Tryd.pinned (.plain (OpenSpec.upto lmotsRightSpec)) lmotsRightUptoCard
end Rows
end Go.Proofs.YtdpffbhgkldphaaDoor
