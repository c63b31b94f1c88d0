/-
  No cell of these rows narrows 'for every input' (looked for: loops, veiled, ifaces, maps, wideKeys, modest, calm, conditions, laid).
  DERIVED. THE GIVEN ROWS OF THIS SEAT. 5 by the template 'for every input the law returns true; each argument reads behind the call as it read before'; 0 by the template 'total and deterministic' (their statements: YticcahcfpjghdaaTotals.lean).
  GIVEN WITH THE SEED: the statements are not yours to turn. If you find one false, say at which input.
  Laid BY PROGRAM, IN A SANDBOX (cutbox-rows.mjs): the forced cells as the released guide's own fill.sh prints them over the translation 812ad0e0938beb06… (all of the seat's roots in one cut). By AI agents, Wed Nov 11 2026. No macro, syntax, notation, axiom, sorry.
-/
import Derived.Test.YticcahcfpjghdaaChecked
import GoSem.Claim
import GoSem.ClaimJoined
import GoSem.ClaimMapViews
import Derived.JoinedTies
import Derived.KernelRfl
namespace Go.Proofs.Yticcahcfpjghdaa
/- THE CELL 'sum', in the pinned program and in every row, IS THE sha256 OF THE DUMP (.gsa) THAT YticcahcfpjghdaaProg.lean LOADS. Nothing in Lean hashes anything: it is a label: what it is worth is what the hold of that sum in a sandbox is worth. -/
noncomputable def Try.pinned : Pinned := { name := "yticcahcfpjghdaa", sum := "812ad0e0938beb06f1f635a056764b0621cdec7d81dd7e03f63d7d53d406d905", checked := Try.checked }
namespace Rows
def none {H : Type} : Left H := { results := [], args := [] }

/-- 'footlockerlaw02.PolyTwo': WHATEVER THE INPUT: true; the input reads as it did. -/
def polyTwoSpec : ChangeSpec := { name := "polyTwo", fn := fun _ => fun
  | [d1, d2, d3] => { results := [.lit (.bool true)], args := [d1, d2, d3] }
  | _ => none }
def polyTwoRow : OpenClaim := { program := "yticcahcfpjghdaa", sum := "812ad0e0938beb06f1f635a056764b0621cdec7d81dd7e03f63d7d53d406d905", func := "footlocker/footlockerlaw02.PolyTwo", spec := "polyTwo", apart := false }
def PolyTwoSaid : Prop := polyTwoRow.holds Try.pinned (OpenSpec.ofChange polyTwoSpec)

/-- ITS FALSE NEIGHBOUR: 'it returns false'. Refute it at one input. -/
def polyTwoWrong : ChangeSpec := { name := "polyTwo", fn := fun _ => fun
  | [d1, d2, d3] => { results := [.lit (.bool false)], args := [d1, d2, d3] }
  | _ => none }
def PolyTwoWrongFalsely : Prop := polyTwoRow.holds Try.pinned (OpenSpec.ofChange polyTwoWrong)

/-- 'footlockerlaw02.PolyThrough': WHATEVER THE INPUT: true; the input reads as it did. -/
def polyThroughSpec : ChangeSpec := { name := "polyThrough", fn := fun _ => fun
  | [d1, d2] => { results := [.lit (.bool true)], args := [d1, d2] }
  | _ => none }
def polyThroughRow : OpenClaim := { program := "yticcahcfpjghdaa", sum := "812ad0e0938beb06f1f635a056764b0621cdec7d81dd7e03f63d7d53d406d905", func := "footlocker/footlockerlaw02.PolyThrough", spec := "polyThrough", apart := false }
def PolyThroughSaid : Prop := polyThroughRow.holds Try.pinned (OpenSpec.ofChange polyThroughSpec)

/-- ITS FALSE NEIGHBOUR: 'it returns false'. Refute it at one input. -/
def polyThroughWrong : ChangeSpec := { name := "polyThrough", fn := fun _ => fun
  | [d1, d2] => { results := [.lit (.bool false)], args := [d1, d2] }
  | _ => none }
def PolyThroughWrongFalsely : Prop := polyThroughRow.holds Try.pinned (OpenSpec.ofChange polyThroughWrong)

/-- 'footlockerlaw02.PolyBack': WHATEVER THE INPUT: true; the input reads as it did. -/
def polyBackSpec : ChangeSpec := { name := "polyBack", fn := fun _ => fun
  | [d1, d2, d3] => { results := [.lit (.bool true)], args := [d1, d2, d3] }
  | _ => none }
def polyBackRow : OpenClaim := { program := "yticcahcfpjghdaa", sum := "812ad0e0938beb06f1f635a056764b0621cdec7d81dd7e03f63d7d53d406d905", func := "footlocker/footlockerlaw02.PolyBack", spec := "polyBack", apart := false }
def PolyBackSaid : Prop := polyBackRow.holds Try.pinned (OpenSpec.ofChange polyBackSpec)

/-- ITS FALSE NEIGHBOUR: 'it returns false'. Refute it at one input. -/
def polyBackWrong : ChangeSpec := { name := "polyBack", fn := fun _ => fun
  | [d1, d2, d3] => { results := [.lit (.bool false)], args := [d1, d2, d3] }
  | _ => none }
def PolyBackWrongFalsely : Prop := polyBackRow.holds Try.pinned (OpenSpec.ofChange polyBackWrong)

/-- 'footlockerlaw02.PolyRules': WHATEVER THE INPUT: true; the input reads as it did. -/
def polyRulesSpec : ChangeSpec := { name := "polyRules", fn := fun _ => fun
  | [d1, d2, d3] => { results := [.lit (.bool true)], args := [d1, d2, d3] }
  | _ => none }
def polyRulesRow : OpenClaim := { program := "yticcahcfpjghdaa", sum := "812ad0e0938beb06f1f635a056764b0621cdec7d81dd7e03f63d7d53d406d905", func := "footlocker/footlockerlaw02.PolyRules", spec := "polyRules", apart := false }
def PolyRulesSaid : Prop := polyRulesRow.holds Try.pinned (OpenSpec.ofChange polyRulesSpec)

/-- ITS FALSE NEIGHBOUR: 'it returns false'. Refute it at one input. -/
def polyRulesWrong : ChangeSpec := { name := "polyRules", fn := fun _ => fun
  | [d1, d2, d3] => { results := [.lit (.bool false)], args := [d1, d2, d3] }
  | _ => none }
def PolyRulesWrongFalsely : Prop := polyRulesRow.holds Try.pinned (OpenSpec.ofChange polyRulesWrong)

/-- 'footlockerlaw02.PolyShifts': WHATEVER THE INPUT: true; the input reads as it did. -/
def polyShiftsSpec : ChangeSpec := { name := "polyShifts", fn := fun _ => fun
  | [d] => { results := [.lit (.bool true)], args := [d] }
  | _ => none }
def polyShiftsRow : OpenClaim := { program := "yticcahcfpjghdaa", sum := "812ad0e0938beb06f1f635a056764b0621cdec7d81dd7e03f63d7d53d406d905", func := "footlocker/footlockerlaw02.PolyShifts", spec := "polyShifts", apart := false }
def PolyShiftsSaid : Prop := polyShiftsRow.holds Try.pinned (OpenSpec.ofChange polyShiftsSpec)

/-- ITS FALSE NEIGHBOUR: 'it returns false'. Refute it at one input. -/
def polyShiftsWrong : ChangeSpec := { name := "polyShifts", fn := fun _ => fun
  | [d] => { results := [.lit (.bool false)], args := [d] }
  | _ => none }
def PolyShiftsWrongFalsely : Prop := polyShiftsRow.holds Try.pinned (OpenSpec.ofChange polyShiftsWrong)

/- THE SECOND FORM. 'bulk': how many values and letters a reading holds, each counted each time it is reached (what is shared counts as often as it is met; a slice's spare places count too). A statement '..UptoSaid' is the law's where the arguments, and the package variables that the reading takes, are together of bulk at most 1048576: NARROWER than '..Said'. Prove '..Said' where nothing that the law and all that it calls make is longer than what came in: it says more and counts as full. Else prove '..UptoSaid'. A law counts once. -/
mutual
def uptoBulk {H : Type} : DataW H → Nat
  | .lit (.string bytes) => bytes.length + 1
  | .lit _ => 1
  | .nil => 1
  | .ptr d => uptoBulk d + 1
  | .slice elems spare => uptoBulkAll elems + uptoBulkAll spare + 1
  | .agg parts => uptoBulkAll parts + 1
  | .iface _ d => uptoBulk d + 1
  | .map entries => uptoBulkEntries entries + 1
  | .held _ => 1
def uptoBulkAll {H : Type} : List (DataW H) → Nat
  | [] => 0
  | d :: r => uptoBulk d + uptoBulkAll r
def uptoBulkEntries {H : Type} : List (Lit × DataW H) → Nat
  | [] => 0
  | x :: r => uptoBulkEntry x + uptoBulkEntries r
def uptoBulkEntry {H : Type} : Lit × DataW H → Nat
  | (.string bytes, d) => bytes.length + uptoBulk d + 1
  | (_, d) => uptoBulk d + 1
 end
def uptoSmall : (H : Type) → List (DataW H) → Bool := fun _ ds => decide (uptoBulkAll ds ≤ 1048576)
def OpenSpec.upto (s : _root_.Go.ChangeSpec) : _root_.Go.OpenSpec := { _root_.Go.OpenSpec.ofChange s with cond := some uptoSmall }

/-- 'footlockerlaw02.PolyTwo', WHERE WHAT IT READS IS OF BULK AT MOST 1048576: true; the input reads as it did. -/
def polyTwoUptoRow : OpenClaim := { program := "yticcahcfpjghdaa", sum := "812ad0e0938beb06f1f635a056764b0621cdec7d81dd7e03f63d7d53d406d905", func := "footlocker/footlockerlaw02.PolyTwo", spec := "polyTwo", apart := false, narrowed := true }
def PolyTwoUptoSaid : Prop := polyTwoUptoRow.holds Try.pinned (OpenSpec.upto polyTwoSpec)

/-- 'footlockerlaw02.PolyThrough', WHERE WHAT IT READS IS OF BULK AT MOST 1048576: true; the input reads as it did. -/
def polyThroughUptoRow : OpenClaim := { program := "yticcahcfpjghdaa", sum := "812ad0e0938beb06f1f635a056764b0621cdec7d81dd7e03f63d7d53d406d905", func := "footlocker/footlockerlaw02.PolyThrough", spec := "polyThrough", apart := false, narrowed := true }
def PolyThroughUptoSaid : Prop := polyThroughUptoRow.holds Try.pinned (OpenSpec.upto polyThroughSpec)

/-- 'footlockerlaw02.PolyBack', WHERE WHAT IT READS IS OF BULK AT MOST 1048576: true; the input reads as it did. -/
def polyBackUptoRow : OpenClaim := { program := "yticcahcfpjghdaa", sum := "812ad0e0938beb06f1f635a056764b0621cdec7d81dd7e03f63d7d53d406d905", func := "footlocker/footlockerlaw02.PolyBack", spec := "polyBack", apart := false, narrowed := true }
def PolyBackUptoSaid : Prop := polyBackUptoRow.holds Try.pinned (OpenSpec.upto polyBackSpec)

/-- 'footlockerlaw02.PolyRules', WHERE WHAT IT READS IS OF BULK AT MOST 1048576: true; the input reads as it did. -/
def polyRulesUptoRow : OpenClaim := { program := "yticcahcfpjghdaa", sum := "812ad0e0938beb06f1f635a056764b0621cdec7d81dd7e03f63d7d53d406d905", func := "footlocker/footlockerlaw02.PolyRules", spec := "polyRules", apart := false, narrowed := true }
def PolyRulesUptoSaid : Prop := polyRulesUptoRow.holds Try.pinned (OpenSpec.upto polyRulesSpec)

/-- 'footlockerlaw02.PolyShifts', WHERE WHAT IT READS IS OF BULK AT MOST 1048576: true; the input reads as it did. -/
def polyShiftsUptoRow : OpenClaim := { program := "yticcahcfpjghdaa", sum := "812ad0e0938beb06f1f635a056764b0621cdec7d81dd7e03f63d7d53d406d905", func := "footlocker/footlockerlaw02.PolyShifts", spec := "polyShifts", apart := false, narrowed := true }
def PolyShiftsUptoSaid : Prop := polyShiftsUptoRow.holds Try.pinned (OpenSpec.upto polyShiftsSpec)

end Rows
end Go.Proofs.Yticcahcfpjghdaa
