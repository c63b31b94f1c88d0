/-
  DERIVED. GIVEN WITH THE SEED: THE CARDS: each row of YtdbaglogmdkbpaaDoorRows.lean that lists a variable, with what it lists TIED to the program's text (the seventh form; the later family's looks); each row that meets fmt, with fmt's text TOLD by the authors' own Lean function (tested against real Go, not proved from fmt's source: count such statements apart). THE CARD IS WHAT COUNTS. Prove the row's statement (the work); the ties are given (YtdbaglogmdkbpaaDoorTie.lean); close each card by the builder's one call (the guide's Derived/Test/ToyasCard.lean, 'card_holds'). Laid BY PROGRAM, IN A SANDBOX (cutbox-door.mjs). By AI agents, Wed Nov 11 2026. No macro, syntax, notation, axiom, sorry.
-/
import Derived.Test.YtdbaglogmdkbpaaDoorRows
import GoSem.ClaimSeven
namespace Go.Proofs.YtdbaglogmdkbpaaDoor
namespace Rows

/-- THE TIED CARD OF 'footlockerlaw18.LocalWrites'. -/
def localWritesCard : Claim7 := { stood := { row := localWritesRow, standIns := [], harness := (true, "540feb068dc41521180dc84cdc05bfc0c5a4b3ca9d5175df0e1598ad6fe75164"), looks := false }, kinds := [], alts := [], laidByText := true, laidKinds := [.data, .data, .pinned], laidTests := true, laidLooks := .later }
def LocalWritesCardSaid : Prop := Claim7.holds Tryd.pinned (.plain (OpenSpec.ofChange localWritesSpec)) localWritesCard

/-- THE TIED CARD OF 'footlockerlaw18.LocalParses'. -/
def localParsesCard : Claim7 := { stood := { row := localParsesRow, standIns := [], harness := (true, "540feb068dc41521180dc84cdc05bfc0c5a4b3ca9d5175df0e1598ad6fe75164"), looks := false }, kinds := [], alts := [], laidByText := true, laidKinds := [.data, .data, .pinned], laidTests := true, laidLooks := .later }
def LocalParsesCardSaid : Prop := Claim7.holds Tryd.pinned (.plain (OpenSpec.ofChange localParsesSpec)) localParsesCard

/-- THE TIED CARD OF 'footlockerlaw18.LocalBack'. -/
def localBackCard : Claim7 := { stood := { row := localBackRow, standIns := [], harness := (true, "540feb068dc41521180dc84cdc05bfc0c5a4b3ca9d5175df0e1598ad6fe75164"), looks := false }, kinds := [], alts := [], laidByText := true, laidKinds := [.data, .data, .pinned], laidTests := true, laidLooks := .later }
def LocalBackCardSaid : Prop := Claim7.holds Tryd.pinned (.plain (OpenSpec.ofChange localBackSpec)) localBackCard

/-- THE TIED CARD OF 'footlockerlaw18.LocalRows'. -/
def localRowsCard : Claim7 := { stood := { row := localRowsRow, standIns := [], harness := (true, "540feb068dc41521180dc84cdc05bfc0c5a4b3ca9d5175df0e1598ad6fe75164"), looks := false }, kinds := [], alts := [], laidByText := true, laidKinds := [.data, .data, .pinned], laidTests := true, laidLooks := .later }
def LocalRowsCardSaid : Prop := Claim7.holds Tryd.pinned (.plain (OpenSpec.ofChange localRowsSpec)) localRowsCard

/-- THE TIED CARD OF 'footlockerlaw18.LocalSizes'. -/
def localSizesCard : Claim7 := { stood := { row := localSizesRow, standIns := [], harness := (true, "540feb068dc41521180dc84cdc05bfc0c5a4b3ca9d5175df0e1598ad6fe75164"), looks := false }, kinds := [], alts := [], laidByText := true, laidKinds := [.data, .data, .pinned], laidTests := true, laidLooks := .later }
def LocalSizesCardSaid : Prop := Claim7.holds Tryd.pinned (.plain (OpenSpec.ofChange localSizesSpec)) localSizesCard

/-- THE SECOND FORM's CARD OF 'footlockerlaw18.LocalWrites'. -/
def localWritesUptoCard : Claim7 := { stood := { row := localWritesUptoRow, standIns := [], harness := (true, "540feb068dc41521180dc84cdc05bfc0c5a4b3ca9d5175df0e1598ad6fe75164"), looks := false }, kinds := [], alts := [], laidByText := true, laidKinds := [.data, .data, .pinned], laidTests := true, laidLooks := .later }
def LocalWritesUptoCardSaid : Prop := Claim7.holds Tryd.pinned (.plain (OpenSpec.upto localWritesSpec)) localWritesUptoCard

/-- THE SECOND FORM's CARD OF 'footlockerlaw18.LocalParses'. -/
def localParsesUptoCard : Claim7 := { stood := { row := localParsesUptoRow, standIns := [], harness := (true, "540feb068dc41521180dc84cdc05bfc0c5a4b3ca9d5175df0e1598ad6fe75164"), looks := false }, kinds := [], alts := [], laidByText := true, laidKinds := [.data, .data, .pinned], laidTests := true, laidLooks := .later }
def LocalParsesUptoCardSaid : Prop := Claim7.holds Tryd.pinned (.plain (OpenSpec.upto localParsesSpec)) localParsesUptoCard

/-- THE SECOND FORM's CARD OF 'footlockerlaw18.LocalBack'. -/
def localBackUptoCard : Claim7 := { stood := { row := localBackUptoRow, standIns := [], harness := (true, "540feb068dc41521180dc84cdc05bfc0c5a4b3ca9d5175df0e1598ad6fe75164"), looks := false }, kinds := [], alts := [], laidByText := true, laidKinds := [.data, .data, .pinned], laidTests := true, laidLooks := .later }
def LocalBackUptoCardSaid : Prop := Claim7.holds Tryd.pinned (.plain (OpenSpec.upto localBackSpec)) localBackUptoCard

/-- THE SECOND FORM's CARD OF 'footlockerlaw18.LocalRows'. -/
def localRowsUptoCard : Claim7 := { stood := { row := localRowsUptoRow, standIns := [], harness := (true, "540feb068dc41521180dc84cdc05bfc0c5a4b3ca9d5175df0e1598ad6fe75164"), looks := false }, kinds := [], alts := [], laidByText := true, laidKinds := [.data, .data, .pinned], laidTests := true, laidLooks := .later }
def LocalRowsUptoCardSaid : Prop := Claim7.holds Tryd.pinned (.plain (OpenSpec.upto localRowsSpec)) localRowsUptoCard

/-- THE SECOND FORM's CARD OF 'footlockerlaw18.LocalSizes'. -/
def localSizesUptoCard : Claim7 := { stood := { row := localSizesUptoRow, standIns := [], harness := (true, "540feb068dc41521180dc84cdc05bfc0c5a4b3ca9d5175df0e1598ad6fe75164"), looks := false }, kinds := [], alts := [], laidByText := true, laidKinds := [.data, .data, .pinned], laidTests := true, laidLooks := .later }
def LocalSizesUptoCardSaid : Prop := Claim7.holds Tryd.pinned (.plain (OpenSpec.upto localSizesSpec)) localSizesUptoCard
end Rows
end Go.Proofs.YtdbaglogmdkbpaaDoor
