/-
  DERIVED. GIVEN WITH THE SEED: THE CARDS: each row of YtlioalaehkohlaaDoorRows.lean that lists a variable, with what it lists TIED to the program's text (the seventh form; the later family's looks); each row that meets fmt, with fmt's text TOLD by the authors' own Lean function (tested against real Go, not proved from fmt's source: count such statements apart). THE CARD IS WHAT COUNTS. Prove the row's statement (the work); the ties are given (YtlioalaehkohlaaDoorTie.lean); close each card by the builder's one call (the guide's Derived/Test/ToyasCard.lean, 'card_holds'). Laid BY PROGRAM, IN A SANDBOX (cutbox-door.mjs). By AI agents, Wed Nov 11 2026. No macro, syntax, notation, axiom, sorry.
-/
import Derived.Test.YtlioalaehkohlaaDoorRows
import GoSem.ClaimSeven
namespace Go.Proofs.YtlioalaehkohlaaDoor
namespace Rows

/-- THE TIED CARD OF 'footlockerlaw25.DamageLooks'. -/
def damageLooksCard : Claim7 := { stood := { row := damageLooksRow, standIns := [], harness := (true, "3168b2bd0c65127cd78653ec5364784def68f8a98436a95ae218b0019dadf862"), looks := false }, kinds := [], alts := [], laidByText := true, laidKinds := [.data], laidTests := true, laidLooks := .later }
def DamageLooksCardSaid : Prop := Claim7.holds Tryd.pinned (.plain (OpenSpec.ofChange damageLooksSpec)) damageLooksCard

/-- THE TIED CARD OF 'footlockerlaw25.DamageTurns'. -/
def damageTurnsCard : Claim7 := { stood := { row := damageTurnsRow, standIns := [], harness := (true, "3168b2bd0c65127cd78653ec5364784def68f8a98436a95ae218b0019dadf862"), looks := false }, kinds := [], alts := [], laidByText := true, laidKinds := [.data], laidTests := true, laidLooks := .later }
def DamageTurnsCardSaid : Prop := Claim7.holds Tryd.pinned (.plain (OpenSpec.ofChange damageTurnsSpec)) damageTurnsCard

/-- THE TIED CARD OF 'footlockerlaw25.DamageWhole'. -/
def damageWholeCard : Claim7 := { stood := { row := damageWholeRow, standIns := [], harness := (true, "3168b2bd0c65127cd78653ec5364784def68f8a98436a95ae218b0019dadf862"), looks := false }, kinds := [], alts := [], laidByText := true, laidKinds := [.data], laidTests := true, laidLooks := .later }
def DamageWholeCardSaid : Prop := Claim7.holds Tryd.pinned (.plain (OpenSpec.ofChange damageWholeSpec)) damageWholeCard

/-- THE SECOND FORM's CARD OF 'footlockerlaw25.DamageLooks'. -/
def damageLooksUptoCard : Claim7 := { stood := { row := damageLooksUptoRow, standIns := [], harness := (true, "3168b2bd0c65127cd78653ec5364784def68f8a98436a95ae218b0019dadf862"), looks := false }, kinds := [], alts := [], laidByText := true, laidKinds := [.data], laidTests := true, laidLooks := .later }
def DamageLooksUptoCardSaid : Prop := Claim7.holds Tryd.pinned (.plain (OpenSpec.upto damageLooksSpec)) damageLooksUptoCard

/-- THE SECOND FORM's CARD OF 'footlockerlaw25.DamageTurns'. -/
def damageTurnsUptoCard : Claim7 := { stood := { row := damageTurnsUptoRow, standIns := [], harness := (true, "3168b2bd0c65127cd78653ec5364784def68f8a98436a95ae218b0019dadf862"), looks := false }, kinds := [], alts := [], laidByText := true, laidKinds := [.data], laidTests := true, laidLooks := .later }
def DamageTurnsUptoCardSaid : Prop := Claim7.holds Tryd.pinned (.plain (OpenSpec.upto damageTurnsSpec)) damageTurnsUptoCard

/-- THE SECOND FORM's CARD OF 'footlockerlaw25.DamageWhole'. -/
def damageWholeUptoCard : Claim7 := { stood := { row := damageWholeUptoRow, standIns := [], harness := (true, "3168b2bd0c65127cd78653ec5364784def68f8a98436a95ae218b0019dadf862"), looks := false }, kinds := [], alts := [], laidByText := true, laidKinds := [.data], laidTests := true, laidLooks := .later }
def DamageWholeUptoCardSaid : Prop := Claim7.holds Tryd.pinned (.plain (OpenSpec.upto damageWholeSpec)) damageWholeUptoCard
end Rows
end Go.Proofs.YtlioalaehkohlaaDoor
