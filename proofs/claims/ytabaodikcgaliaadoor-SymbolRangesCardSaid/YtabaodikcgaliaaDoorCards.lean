/-
  DERIVED. GIVEN WITH THE SEED: THE CARDS: each row of YtabaodikcgaliaaDoorRows.lean that lists a variable, with what it lists TIED to the program's text (the seventh form; the later family's looks); each row that meets fmt, with fmt's text TOLD by the authors' own Lean function (tested against real Go, not proved from fmt's source: count such statements apart). THE CARD IS WHAT COUNTS. Prove the row's statement (the work); the ties are given (YtabaodikcgaliaaDoorTie.lean); close each card by the builder's one call (the guide's Derived/Test/ToyasCard.lean, 'card_holds'). Laid BY PROGRAM, IN A SANDBOX (cutbox-door.mjs). By AI agents, Wed Nov 11 2026. No macro, syntax, notation, axiom, sorry.
-/
import Derived.Test.YtabaodikcgaliaaDoorRows
import GoSem.ClaimSeven
namespace Go.Proofs.YtabaodikcgaliaaDoor
namespace Rows

/-- THE TIED CARD OF 'footlockerlaw11.SymbolNames'. -/
def symbolNamesCard : Claim7 := { stood := { row := symbolNamesRow, standIns := [], harness := (true, "f3239ca33e316213a47c75f74751018c4a7a476b7e988b02b982f13782632e5d"), looks := false }, kinds := [], alts := [], laidByText := true, laidKinds := [.widerDeep, .data, .widerDeep, .data, .widerDeep], laidTests := true, laidLooks := .later }
def SymbolNamesCardSaid : Prop := Claim7.holds Tryd.pinned (.plain (OpenSpec.ofChange symbolNamesSpec)) symbolNamesCard

/-- THE TIED CARD OF 'footlockerlaw11.SymbolBack'. -/
def symbolBackCard : Claim7 := { stood := { row := symbolBackRow, standIns := [], harness := (true, "f3239ca33e316213a47c75f74751018c4a7a476b7e988b02b982f13782632e5d"), looks := false }, kinds := [], alts := [], laidByText := true, laidKinds := [.widerDeep, .data, .widerDeep, .data, .widerDeep], laidTests := true, laidLooks := .later }
def SymbolBackCardSaid : Prop := Claim7.holds Tryd.pinned (.plain (OpenSpec.ofChange symbolBackSpec)) symbolBackCard

/-- THE TIED CARD OF 'footlockerlaw11.SymbolRanges'. -/
def symbolRangesCard : Claim7 := { stood := { row := symbolRangesRow, standIns := [], harness := (true, "f3239ca33e316213a47c75f74751018c4a7a476b7e988b02b982f13782632e5d"), looks := false }, kinds := [], alts := [], laidByText := true, laidKinds := [.widerDeep, .data, .widerDeep, .data, .widerDeep], laidTests := true, laidLooks := .later }
def SymbolRangesCardSaid : Prop := Claim7.holds Tryd.pinned (.plain (OpenSpec.ofChange symbolRangesSpec)) symbolRangesCard

/-- THE SECOND FORM's CARD OF 'footlockerlaw11.SymbolNames'. -/
def symbolNamesUptoCard : Claim7 := { stood := { row := symbolNamesUptoRow, standIns := [], harness := (true, "f3239ca33e316213a47c75f74751018c4a7a476b7e988b02b982f13782632e5d"), looks := false }, kinds := [], alts := [], laidByText := true, laidKinds := [.widerDeep, .data, .widerDeep, .data, .widerDeep], laidTests := true, laidLooks := .later }
def SymbolNamesUptoCardSaid : Prop := Claim7.holds Tryd.pinned (.plain (OpenSpec.upto symbolNamesSpec)) symbolNamesUptoCard

/-- THE SECOND FORM's CARD OF 'footlockerlaw11.SymbolBack'. -/
def symbolBackUptoCard : Claim7 := { stood := { row := symbolBackUptoRow, standIns := [], harness := (true, "f3239ca33e316213a47c75f74751018c4a7a476b7e988b02b982f13782632e5d"), looks := false }, kinds := [], alts := [], laidByText := true, laidKinds := [.widerDeep, .data, .widerDeep, .data, .widerDeep], laidTests := true, laidLooks := .later }
def SymbolBackUptoCardSaid : Prop := Claim7.holds Tryd.pinned (.plain (OpenSpec.upto symbolBackSpec)) symbolBackUptoCard

/-- THE SECOND FORM's CARD OF 'footlockerlaw11.SymbolRanges'. -/
def symbolRangesUptoCard : Claim7 := { stood := { row := symbolRangesUptoRow, standIns := [], harness := (true, "f3239ca33e316213a47c75f74751018c4a7a476b7e988b02b982f13782632e5d"), looks := false }, kinds := [], alts := [], laidByText := true, laidKinds := [.widerDeep, .data, .widerDeep, .data, .widerDeep], laidTests := true, laidLooks := .later }
def SymbolRangesUptoCardSaid : Prop := Claim7.holds Tryd.pinned (.plain (OpenSpec.upto symbolRangesSpec)) symbolRangesUptoCard
end Rows
end Go.Proofs.YtabaodikcgaliaaDoor
