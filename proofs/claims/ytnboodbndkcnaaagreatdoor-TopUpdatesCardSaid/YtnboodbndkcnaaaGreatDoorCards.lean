/-
  DERIVED. GIVEN WITH THE SEED: THE CARDS: each row of YtnboodbndkcnaaaGreatDoorRows.lean that lists a variable, with what it lists TIED to the program's text (the seventh form; the later family's looks); each row that meets fmt, with fmt's text TOLD by the authors' own Lean function (tested against real Go, not proved from fmt's source: count such statements apart). THE CARD IS WHAT COUNTS. Prove the row's statement (the work); the ties are given (YtnboodbndkcnaaaGreatDoorTie.lean); close each card by the builder's one call (the guide's Derived/Test/ToyasCard.lean, 'card_holds'). Laid BY PROGRAM, IN A SANDBOX (cutbox-door.mjs). By AI agents, Wed Nov 11 2026. No macro, syntax, notation, axiom, sorry.
-/
import Derived.Test.YtnboodbndkcnaaaGreatDoorRows
import GoSem.ClaimSeven
namespace Go.Proofs.YtnboodbndkcnaaaGreatDoor
namespace Rows

/-- THE TIED CARD OF 'rolodextop.TopSigns'. -/
def topSignsCard : Claim7 := { stood := { row := topSignsRow, standIns := [], harness := (true, "776b903667e351aca33a1414c7a500f8fd399b939678f66a6ef1e907d439849c"), looks := false }, kinds := [], alts := [], laidByText := true, laidKinds := [.data, .data, .data, .data, .data], laidTests := true, laidLooks := .later }
def TopSignsCardSaid : Prop := Claim7.holds Tryz.pinned (.plain (OpenSpec.ofChange topSignsSpec)) topSignsCard

/-- THE TIED CARD OF 'rolodextop.TopCatches'. -/
def topCatchesCard : Claim7 := { stood := { row := topCatchesRow, standIns := [], harness := (true, "776b903667e351aca33a1414c7a500f8fd399b939678f66a6ef1e907d439849c"), looks := false }, kinds := [], alts := [], laidByText := true, laidKinds := [.data, .data, .data, .data, .data], laidTests := true, laidLooks := .later }
def TopCatchesCardSaid : Prop := Claim7.holds Tryz.pinned (.plain (OpenSpec.ofChange topCatchesSpec)) topCatchesCard

/-- THE TIED CARD OF 'rolodextop.TopUpdates'. -/
def topUpdatesCard : Claim7 := { stood := { row := topUpdatesRow, standIns := [], harness := (true, "776b903667e351aca33a1414c7a500f8fd399b939678f66a6ef1e907d439849c"), looks := false }, kinds := [], alts := [], laidByText := true, laidKinds := [.data, .data, .data, .data, .data], laidTests := true, laidLooks := .later }
def TopUpdatesCardSaid : Prop := Claim7.holds Tryz.pinned (.plain (OpenSpec.ofChange topUpdatesSpec)) topUpdatesCard

/-- THE SECOND FORM's CARD OF 'rolodextop.TopSigns'. -/
def topSignsUptoCard : Claim7 := { stood := { row := topSignsUptoRow, standIns := [], harness := (true, "776b903667e351aca33a1414c7a500f8fd399b939678f66a6ef1e907d439849c"), looks := false }, kinds := [], alts := [], laidByText := true, laidKinds := [.data, .data, .data, .data, .data], laidTests := true, laidLooks := .later }
def TopSignsUptoCardSaid : Prop := Claim7.holds Tryz.pinned (.plain (OpenSpec.upto topSignsSpec)) topSignsUptoCard

/-- THE SECOND FORM's CARD OF 'rolodextop.TopCatches'. -/
def topCatchesUptoCard : Claim7 := { stood := { row := topCatchesUptoRow, standIns := [], harness := (true, "776b903667e351aca33a1414c7a500f8fd399b939678f66a6ef1e907d439849c"), looks := false }, kinds := [], alts := [], laidByText := true, laidKinds := [.data, .data, .data, .data, .data], laidTests := true, laidLooks := .later }
def TopCatchesUptoCardSaid : Prop := Claim7.holds Tryz.pinned (.plain (OpenSpec.upto topCatchesSpec)) topCatchesUptoCard

/-- THE SECOND FORM's CARD OF 'rolodextop.TopUpdates'. -/
def topUpdatesUptoCard : Claim7 := { stood := { row := topUpdatesUptoRow, standIns := [], harness := (true, "776b903667e351aca33a1414c7a500f8fd399b939678f66a6ef1e907d439849c"), looks := false }, kinds := [], alts := [], laidByText := true, laidKinds := [.data, .data, .data, .data, .data], laidTests := true, laidLooks := .later }
def TopUpdatesUptoCardSaid : Prop := Claim7.holds Tryz.pinned (.plain (OpenSpec.upto topUpdatesSpec)) topUpdatesUptoCard
end Rows
end Go.Proofs.YtnboodbndkcnaaaGreatDoor
