/-
  DERIVED. GIVEN WITH THE SEED: THE CARDS: each row of YtbnplhbepkggpaaDoorRows.lean that lists a variable, with what it lists TIED to the program's text (the seventh form; the later family's looks); each row that meets fmt, with fmt's text TOLD by the authors' own Lean function (tested against real Go, not proved from fmt's source: count such statements apart). THE CARD IS WHAT COUNTS. Prove the row's statement (the work); the ties are given (YtbnplhbepkggpaaDoorTie.lean); close each card by the builder's one call (the guide's Derived/Test/ToyasCard.lean, 'card_holds'). Laid BY PROGRAM, IN A SANDBOX (cutbox-door.mjs). By AI agents, Wed Nov 11 2026. No macro, syntax, notation, axiom, sorry.
-/
import Derived.Test.YtbnplhbepkggpaaDoorRows
import GoSem.ClaimSeven
namespace Go.Proofs.YtbnplhbepkggpaaDoor
namespace Rows

/-- THE TIED CARD OF 'gantrylaw09.NamesNames'. -/
def namesNamesCard : Claim7 := { stood := { row := namesNamesRow, standIns := [], harness := (true, "ca66f125867ca7591f62de351103feb7073042d99dc26017d2d6cd7c8957a458"), looks := false }, kinds := [], alts := [], laidByText := true, laidKinds := [.data, .data, .data], laidTests := true, laidLooks := .later }
def NamesNamesCardSaid : Prop := Claim7.holds Tryd.pinned (.plain (OpenSpec.ofChange namesNamesSpec)) namesNamesCard

/-- THE TIED CARD OF 'gantrylaw09.NamesParses'. -/
def namesParsesCard : Claim7 := { stood := { row := namesParsesRow, standIns := [], harness := (true, "ca66f125867ca7591f62de351103feb7073042d99dc26017d2d6cd7c8957a458"), looks := false }, kinds := [], alts := [], laidByText := true, laidKinds := [.data, .data, .data], laidTests := true, laidLooks := .later }
def NamesParsesCardSaid : Prop := Claim7.holds Tryd.pinned (.plain (OpenSpec.ofChange namesParsesSpec)) namesParsesCard

/-- THE TIED CARD OF 'gantrylaw09.NamesBack'. -/
def namesBackCard : Claim7 := { stood := { row := namesBackRow, standIns := [], harness := (true, "ca66f125867ca7591f62de351103feb7073042d99dc26017d2d6cd7c8957a458"), looks := false }, kinds := [], alts := [], laidByText := true, laidKinds := [.data, .data, .data], laidTests := true, laidLooks := .later }
def NamesBackCardSaid : Prop := Claim7.holds Tryd.pinned (.plain (OpenSpec.ofChange namesBackSpec)) namesBackCard

/-- THE TIED CARD OF 'gantrylaw09.NamesNexts'. -/
def namesNextsCard : Claim7 := { stood := { row := namesNextsRow, standIns := [], harness := (true, "ca66f125867ca7591f62de351103feb7073042d99dc26017d2d6cd7c8957a458"), looks := false }, kinds := [], alts := [], laidByText := true, laidKinds := [.data, .data, .data], laidTests := true, laidLooks := .later }
def NamesNextsCardSaid : Prop := Claim7.holds Tryd.pinned (.plain (OpenSpec.ofChange namesNextsSpec)) namesNextsCard

/-- THE TIED CARD OF 'gantrylaw09.NamesParts'. -/
def namesPartsCard : Claim7 := { stood := { row := namesPartsRow, standIns := [], harness := (true, "ca66f125867ca7591f62de351103feb7073042d99dc26017d2d6cd7c8957a458"), looks := false }, kinds := [], alts := [], laidByText := true, laidKinds := [.data, .data, .data], laidTests := true, laidLooks := .later }
def NamesPartsCardSaid : Prop := Claim7.holds Tryd.pinned (.plain (OpenSpec.ofChange namesPartsSpec)) namesPartsCard

/-- THE TIED CARD OF 'gantrylaw09.NamesGroups'. -/
def namesGroupsCard : Claim7 := { stood := { row := namesGroupsRow, standIns := [], harness := (true, "ca66f125867ca7591f62de351103feb7073042d99dc26017d2d6cd7c8957a458"), looks := false }, kinds := [], alts := [], laidByText := true, laidKinds := [.data, .data, .data], laidTests := true, laidLooks := .later }
def NamesGroupsCardSaid : Prop := Claim7.holds Tryd.pinned (.plain (OpenSpec.ofChange namesGroupsSpec)) namesGroupsCard

/-- THE SECOND FORM's CARD OF 'gantrylaw09.NamesNames'. -/
def namesNamesUptoCard : Claim7 := { stood := { row := namesNamesUptoRow, standIns := [], harness := (true, "ca66f125867ca7591f62de351103feb7073042d99dc26017d2d6cd7c8957a458"), looks := false }, kinds := [], alts := [], laidByText := true, laidKinds := [.data, .data, .data], laidTests := true, laidLooks := .later }
def NamesNamesUptoCardSaid : Prop := Claim7.holds Tryd.pinned (.plain (OpenSpec.upto namesNamesSpec)) namesNamesUptoCard

/-- THE SECOND FORM's CARD OF 'gantrylaw09.NamesParses'. -/
def namesParsesUptoCard : Claim7 := { stood := { row := namesParsesUptoRow, standIns := [], harness := (true, "ca66f125867ca7591f62de351103feb7073042d99dc26017d2d6cd7c8957a458"), looks := false }, kinds := [], alts := [], laidByText := true, laidKinds := [.data, .data, .data], laidTests := true, laidLooks := .later }
def NamesParsesUptoCardSaid : Prop := Claim7.holds Tryd.pinned (.plain (OpenSpec.upto namesParsesSpec)) namesParsesUptoCard

/-- THE SECOND FORM's CARD OF 'gantrylaw09.NamesBack'. -/
def namesBackUptoCard : Claim7 := { stood := { row := namesBackUptoRow, standIns := [], harness := (true, "ca66f125867ca7591f62de351103feb7073042d99dc26017d2d6cd7c8957a458"), looks := false }, kinds := [], alts := [], laidByText := true, laidKinds := [.data, .data, .data], laidTests := true, laidLooks := .later }
def NamesBackUptoCardSaid : Prop := Claim7.holds Tryd.pinned (.plain (OpenSpec.upto namesBackSpec)) namesBackUptoCard

/-- THE SECOND FORM's CARD OF 'gantrylaw09.NamesNexts'. -/
def namesNextsUptoCard : Claim7 := { stood := { row := namesNextsUptoRow, standIns := [], harness := (true, "ca66f125867ca7591f62de351103feb7073042d99dc26017d2d6cd7c8957a458"), looks := false }, kinds := [], alts := [], laidByText := true, laidKinds := [.data, .data, .data], laidTests := true, laidLooks := .later }
def NamesNextsUptoCardSaid : Prop := Claim7.holds Tryd.pinned (.plain (OpenSpec.upto namesNextsSpec)) namesNextsUptoCard

/-- THE SECOND FORM's CARD OF 'gantrylaw09.NamesParts'. -/
def namesPartsUptoCard : Claim7 := { stood := { row := namesPartsUptoRow, standIns := [], harness := (true, "ca66f125867ca7591f62de351103feb7073042d99dc26017d2d6cd7c8957a458"), looks := false }, kinds := [], alts := [], laidByText := true, laidKinds := [.data, .data, .data], laidTests := true, laidLooks := .later }
def NamesPartsUptoCardSaid : Prop := Claim7.holds Tryd.pinned (.plain (OpenSpec.upto namesPartsSpec)) namesPartsUptoCard

/-- THE SECOND FORM's CARD OF 'gantrylaw09.NamesGroups'. -/
def namesGroupsUptoCard : Claim7 := { stood := { row := namesGroupsUptoRow, standIns := [], harness := (true, "ca66f125867ca7591f62de351103feb7073042d99dc26017d2d6cd7c8957a458"), looks := false }, kinds := [], alts := [], laidByText := true, laidKinds := [.data, .data, .data], laidTests := true, laidLooks := .later }
def NamesGroupsUptoCardSaid : Prop := Claim7.holds Tryd.pinned (.plain (OpenSpec.upto namesGroupsSpec)) namesGroupsUptoCard
end Rows
end Go.Proofs.YtbnplhbepkggpaaDoor
