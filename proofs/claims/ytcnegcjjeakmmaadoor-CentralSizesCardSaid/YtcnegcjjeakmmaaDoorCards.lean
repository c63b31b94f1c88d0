/-
  DERIVED. GIVEN WITH THE SEED: THE CARDS: each row of YtcnegcjjeakmmaaDoorRows.lean that lists a variable, with what it lists TIED to the program's text (the seventh form; the later family's looks); each row that meets fmt, with fmt's text TOLD by the authors' own Lean function (tested against real Go, not proved from fmt's source: count such statements apart). THE CARD IS WHAT COUNTS. Prove the row's statement (the work); the ties are given (YtcnegcjjeakmmaaDoorTie.lean); close each card by the builder's one call (the guide's Derived/Test/ToyasCard.lean, 'card_holds'). Laid BY PROGRAM, IN A SANDBOX (cutbox-door.mjs). By AI agents, Wed Nov 11 2026. No macro, syntax, notation, axiom, sorry.
-/
import Derived.Test.YtcnegcjjeakmmaaDoorRows
import GoSem.ClaimSeven
namespace Go.Proofs.YtcnegcjjeakmmaaDoor
namespace Rows

/-- THE TIED CARD OF 'footlockerlaw19.CentralWrites'. -/
def centralWritesCard : Claim7 := { stood := { row := centralWritesRow, standIns := [], harness := (true, "e3ad590eba8263ccc69bd9e7753c2f4273bff96244eebd01598d974b1f486751"), looks := false }, kinds := [], alts := [], laidByText := true, laidKinds := [.data, .data, .pinned], laidTests := true, laidLooks := .later }
def CentralWritesCardSaid : Prop := Claim7.holds Tryd.pinned (.plain (OpenSpec.ofChange centralWritesSpec)) centralWritesCard

/-- THE TIED CARD OF 'footlockerlaw19.CentralParses'. -/
def centralParsesCard : Claim7 := { stood := { row := centralParsesRow, standIns := [], harness := (true, "e3ad590eba8263ccc69bd9e7753c2f4273bff96244eebd01598d974b1f486751"), looks := false }, kinds := [], alts := [], laidByText := true, laidKinds := [.data, .data, .pinned], laidTests := true, laidLooks := .later }
def CentralParsesCardSaid : Prop := Claim7.holds Tryd.pinned (.plain (OpenSpec.ofChange centralParsesSpec)) centralParsesCard

/-- THE TIED CARD OF 'footlockerlaw19.CentralBack'. -/
def centralBackCard : Claim7 := { stood := { row := centralBackRow, standIns := [], harness := (true, "e3ad590eba8263ccc69bd9e7753c2f4273bff96244eebd01598d974b1f486751"), looks := false }, kinds := [], alts := [], laidByText := true, laidKinds := [.data, .data, .pinned], laidTests := true, laidLooks := .later }
def CentralBackCardSaid : Prop := Claim7.holds Tryd.pinned (.plain (OpenSpec.ofChange centralBackSpec)) centralBackCard

/-- THE TIED CARD OF 'footlockerlaw19.CentralSizes'. -/
def centralSizesCard : Claim7 := { stood := { row := centralSizesRow, standIns := [], harness := (true, "e3ad590eba8263ccc69bd9e7753c2f4273bff96244eebd01598d974b1f486751"), looks := false }, kinds := [], alts := [], laidByText := true, laidKinds := [.data, .data, .pinned], laidTests := true, laidLooks := .later }
def CentralSizesCardSaid : Prop := Claim7.holds Tryd.pinned (.plain (OpenSpec.ofChange centralSizesSpec)) centralSizesCard

/-- THE TIED CARD OF 'footlockerlaw19.CentralRows'. -/
def centralRowsCard : Claim7 := { stood := { row := centralRowsRow, standIns := [], harness := (true, "e3ad590eba8263ccc69bd9e7753c2f4273bff96244eebd01598d974b1f486751"), looks := false }, kinds := [], alts := [], laidByText := true, laidKinds := [.data, .data, .pinned], laidTests := true, laidLooks := .later }
def CentralRowsCardSaid : Prop := Claim7.holds Tryd.pinned (.plain (OpenSpec.ofChange centralRowsSpec)) centralRowsCard

/-- THE SECOND FORM's CARD OF 'footlockerlaw19.CentralWrites'. -/
def centralWritesUptoCard : Claim7 := { stood := { row := centralWritesUptoRow, standIns := [], harness := (true, "e3ad590eba8263ccc69bd9e7753c2f4273bff96244eebd01598d974b1f486751"), looks := false }, kinds := [], alts := [], laidByText := true, laidKinds := [.data, .data, .pinned], laidTests := true, laidLooks := .later }
def CentralWritesUptoCardSaid : Prop := Claim7.holds Tryd.pinned (.plain (OpenSpec.upto centralWritesSpec)) centralWritesUptoCard

/-- THE SECOND FORM's CARD OF 'footlockerlaw19.CentralParses'. -/
def centralParsesUptoCard : Claim7 := { stood := { row := centralParsesUptoRow, standIns := [], harness := (true, "e3ad590eba8263ccc69bd9e7753c2f4273bff96244eebd01598d974b1f486751"), looks := false }, kinds := [], alts := [], laidByText := true, laidKinds := [.data, .data, .pinned], laidTests := true, laidLooks := .later }
def CentralParsesUptoCardSaid : Prop := Claim7.holds Tryd.pinned (.plain (OpenSpec.upto centralParsesSpec)) centralParsesUptoCard

/-- THE SECOND FORM's CARD OF 'footlockerlaw19.CentralBack'. -/
def centralBackUptoCard : Claim7 := { stood := { row := centralBackUptoRow, standIns := [], harness := (true, "e3ad590eba8263ccc69bd9e7753c2f4273bff96244eebd01598d974b1f486751"), looks := false }, kinds := [], alts := [], laidByText := true, laidKinds := [.data, .data, .pinned], laidTests := true, laidLooks := .later }
def CentralBackUptoCardSaid : Prop := Claim7.holds Tryd.pinned (.plain (OpenSpec.upto centralBackSpec)) centralBackUptoCard

/-- THE SECOND FORM's CARD OF 'footlockerlaw19.CentralSizes'. -/
def centralSizesUptoCard : Claim7 := { stood := { row := centralSizesUptoRow, standIns := [], harness := (true, "e3ad590eba8263ccc69bd9e7753c2f4273bff96244eebd01598d974b1f486751"), looks := false }, kinds := [], alts := [], laidByText := true, laidKinds := [.data, .data, .pinned], laidTests := true, laidLooks := .later }
def CentralSizesUptoCardSaid : Prop := Claim7.holds Tryd.pinned (.plain (OpenSpec.upto centralSizesSpec)) centralSizesUptoCard

/-- THE SECOND FORM's CARD OF 'footlockerlaw19.CentralRows'. -/
def centralRowsUptoCard : Claim7 := { stood := { row := centralRowsUptoRow, standIns := [], harness := (true, "e3ad590eba8263ccc69bd9e7753c2f4273bff96244eebd01598d974b1f486751"), looks := false }, kinds := [], alts := [], laidByText := true, laidKinds := [.data, .data, .pinned], laidTests := true, laidLooks := .later }
def CentralRowsUptoCardSaid : Prop := Claim7.holds Tryd.pinned (.plain (OpenSpec.upto centralRowsSpec)) centralRowsUptoCard
end Rows
end Go.Proofs.YtcnegcjjeakmmaaDoor
