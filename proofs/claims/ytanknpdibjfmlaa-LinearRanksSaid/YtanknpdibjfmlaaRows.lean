/-
  No cell of these rows narrows 'for every input' (looked for: loops, veiled, ifaces, maps, wideKeys, modest, calm, conditions, laid).
  DERIVED. THE GIVEN ROWS OF THIS SEAT. 6 by the template 'for every input the law returns true; each argument reads behind the call as it read before'; 0 by the template 'total and deterministic' (their statements: YtanknpdibjfmlaaTotals.lean).
  GIVEN WITH THE SEED: the statements are not yours to turn. If you find one false, say at which input.
  Laid BY PROGRAM, IN A SANDBOX (cutbox-rows.mjs): the forced cells as the released guide's own fill.sh prints them over the translation 0a21fe03e458c372… (all of the seat's roots in one cut). By AI agents, Wed Nov 11 2026. No macro, syntax, notation, axiom, sorry.
-/
import Derived.Test.YtanknpdibjfmlaaChecked
import GoSem.Claim
import GoSem.ClaimJoined
import GoSem.ClaimMapViews
import Derived.JoinedTies
import Derived.KernelRfl
namespace Go.Proofs.Ytanknpdibjfmlaa
/- THE CELL 'sum', in the pinned program and in every row, IS THE sha256 OF THE DUMP (.gsa) THAT YtanknpdibjfmlaaProg.lean LOADS. Nothing in Lean hashes anything: it is a label: what it is worth is what the hold of that sum in a sandbox is worth. -/
noncomputable def Try.pinned : Pinned := { name := "ytanknpdibjfmlaa", sum := "0a21fe03e458c372518a8ff5fbf5a2770c6fd018dbd5fe4fb3c6962064c867ae", checked := Try.checked }
namespace Rows
def none {H : Type} : Left H := { results := [], args := [] }

/-- 'footlockerlaw03.LinearReduces': WHATEVER THE INPUT: true; the input reads as it did. -/
def linearReducesSpec : ChangeSpec := { name := "linearReduces", fn := fun _ => fun
  | [d1, d2, d3] => { results := [.lit (.bool true)], args := [d1, d2, d3] }
  | _ => none }
def linearReducesRow : OpenClaim := { program := "ytanknpdibjfmlaa", sum := "0a21fe03e458c372518a8ff5fbf5a2770c6fd018dbd5fe4fb3c6962064c867ae", func := "footlocker/footlockerlaw03.LinearReduces", spec := "linearReduces", unfollowed := true, recurses := true, apart := false }
def LinearReducesSaid : Prop := linearReducesRow.holds Try.pinned (OpenSpec.ofChange linearReducesSpec)

/-- ITS FALSE NEIGHBOUR: 'it returns false'. Refute it at one input. -/
def linearReducesWrong : ChangeSpec := { name := "linearReduces", fn := fun _ => fun
  | [d1, d2, d3] => { results := [.lit (.bool false)], args := [d1, d2, d3] }
  | _ => none }
def LinearReducesWrongFalsely : Prop := linearReducesRow.holds Try.pinned (OpenSpec.ofChange linearReducesWrong)

/-- 'footlockerlaw03.LinearSolves': WHATEVER THE INPUT: true; the input reads as it did. -/
def linearSolvesSpec : ChangeSpec := { name := "linearSolves", fn := fun _ => fun
  | [d1, d2] => { results := [.lit (.bool true)], args := [d1, d2] }
  | _ => none }
def linearSolvesRow : OpenClaim := { program := "ytanknpdibjfmlaa", sum := "0a21fe03e458c372518a8ff5fbf5a2770c6fd018dbd5fe4fb3c6962064c867ae", func := "footlocker/footlockerlaw03.LinearSolves", spec := "linearSolves", unfollowed := true, recurses := true, apart := false }
def LinearSolvesSaid : Prop := linearSolvesRow.holds Try.pinned (OpenSpec.ofChange linearSolvesSpec)

/-- ITS FALSE NEIGHBOUR: 'it returns false'. Refute it at one input. -/
def linearSolvesWrong : ChangeSpec := { name := "linearSolves", fn := fun _ => fun
  | [d1, d2] => { results := [.lit (.bool false)], args := [d1, d2] }
  | _ => none }
def LinearSolvesWrongFalsely : Prop := linearSolvesRow.holds Try.pinned (OpenSpec.ofChange linearSolvesWrong)

/-- 'footlockerlaw03.LinearFinds': WHATEVER THE INPUT: true; the input reads as it did. -/
def linearFindsSpec : ChangeSpec := { name := "linearFinds", fn := fun _ => fun
  | [d1, d2, d3] => { results := [.lit (.bool true)], args := [d1, d2, d3] }
  | _ => none }
def linearFindsRow : OpenClaim := { program := "ytanknpdibjfmlaa", sum := "0a21fe03e458c372518a8ff5fbf5a2770c6fd018dbd5fe4fb3c6962064c867ae", func := "footlocker/footlockerlaw03.LinearFinds", spec := "linearFinds", unfollowed := true, recurses := true, apart := false }
def LinearFindsSaid : Prop := linearFindsRow.holds Try.pinned (OpenSpec.ofChange linearFindsSpec)

/-- ITS FALSE NEIGHBOUR: 'it returns false'. Refute it at one input. -/
def linearFindsWrong : ChangeSpec := { name := "linearFinds", fn := fun _ => fun
  | [d1, d2, d3] => { results := [.lit (.bool false)], args := [d1, d2, d3] }
  | _ => none }
def LinearFindsWrongFalsely : Prop := linearFindsRow.holds Try.pinned (OpenSpec.ofChange linearFindsWrong)

/-- 'footlockerlaw03.LinearInverse': WHATEVER THE INPUT: true; the input reads as it did. -/
def linearInverseSpec : ChangeSpec := { name := "linearInverse", fn := fun _ => fun
  | [d] => { results := [.lit (.bool true)], args := [d] }
  | _ => none }
def linearInverseRow : OpenClaim := { program := "ytanknpdibjfmlaa", sum := "0a21fe03e458c372518a8ff5fbf5a2770c6fd018dbd5fe4fb3c6962064c867ae", func := "footlocker/footlockerlaw03.LinearInverse", spec := "linearInverse", unfollowed := true, recurses := true, apart := false }
def LinearInverseSaid : Prop := linearInverseRow.holds Try.pinned (OpenSpec.ofChange linearInverseSpec)

/-- ITS FALSE NEIGHBOUR: 'it returns false'. Refute it at one input. -/
def linearInverseWrong : ChangeSpec := { name := "linearInverse", fn := fun _ => fun
  | [d] => { results := [.lit (.bool false)], args := [d] }
  | _ => none }
def LinearInverseWrongFalsely : Prop := linearInverseRow.holds Try.pinned (OpenSpec.ofChange linearInverseWrong)

/-- 'footlockerlaw03.LinearRanks': WHATEVER THE INPUT: true; the input reads as it did. -/
def linearRanksSpec : ChangeSpec := { name := "linearRanks", fn := fun _ => fun
  | [d1, d2, d3] => { results := [.lit (.bool true)], args := [d1, d2, d3] }
  | _ => none }
def linearRanksRow : OpenClaim := { program := "ytanknpdibjfmlaa", sum := "0a21fe03e458c372518a8ff5fbf5a2770c6fd018dbd5fe4fb3c6962064c867ae", func := "footlocker/footlockerlaw03.LinearRanks", spec := "linearRanks", unfollowed := true, recurses := true, apart := false }
def LinearRanksSaid : Prop := linearRanksRow.holds Try.pinned (OpenSpec.ofChange linearRanksSpec)

/-- ITS FALSE NEIGHBOUR: 'it returns false'. Refute it at one input. -/
def linearRanksWrong : ChangeSpec := { name := "linearRanks", fn := fun _ => fun
  | [d1, d2, d3] => { results := [.lit (.bool false)], args := [d1, d2, d3] }
  | _ => none }
def LinearRanksWrongFalsely : Prop := linearRanksRow.holds Try.pinned (OpenSpec.ofChange linearRanksWrong)

/-- 'footlockerlaw03.LinearTimes': WHATEVER THE INPUT: true; the input reads as it did. -/
def linearTimesSpec : ChangeSpec := { name := "linearTimes", fn := fun _ => fun
  | [d1, d2, d3] => { results := [.lit (.bool true)], args := [d1, d2, d3] }
  | _ => none }
def linearTimesRow : OpenClaim := { program := "ytanknpdibjfmlaa", sum := "0a21fe03e458c372518a8ff5fbf5a2770c6fd018dbd5fe4fb3c6962064c867ae", func := "footlocker/footlockerlaw03.LinearTimes", spec := "linearTimes", unfollowed := true, recurses := true, apart := false }
def LinearTimesSaid : Prop := linearTimesRow.holds Try.pinned (OpenSpec.ofChange linearTimesSpec)

/-- ITS FALSE NEIGHBOUR: 'it returns false'. Refute it at one input. -/
def linearTimesWrong : ChangeSpec := { name := "linearTimes", fn := fun _ => fun
  | [d1, d2, d3] => { results := [.lit (.bool false)], args := [d1, d2, d3] }
  | _ => none }
def LinearTimesWrongFalsely : Prop := linearTimesRow.holds Try.pinned (OpenSpec.ofChange linearTimesWrong)

/- THE SECOND FORM. 'bulk': how many values and letters a reading holds, each counted each time it is reached (what is shared counts as often as it is met; a slice's spare places count too). A statement '..UptoSaid' is the law's where the arguments, and the package variables that the reading takes, are together of bulk at most 1048576: NARROWER than '..Said'. Prove '..Said' where nothing that the law and all that it calls make is longer than what came in: it says more and counts as full. Else prove '..UptoSaid'. A law counts once. -/
mutual
def uptoBulk {H : Type} : DataW H → Nat
  | .lit (.string bytes) => bytes.length + 1
  | .lit _ => 1
  | .nil => 1
  | .ptr d => uptoBulk d + 1
  | .slice elems spare => uptoBulkAll elems + uptoBulkAll spare + 1
  | .agg parts => uptoBulkAll parts + 1
  | .iface _ d => uptoBulk d + 1
  | .map entries => uptoBulkEntries entries + 1
  | .held _ => 1
def uptoBulkAll {H : Type} : List (DataW H) → Nat
  | [] => 0
  | d :: r => uptoBulk d + uptoBulkAll r
def uptoBulkEntries {H : Type} : List (Lit × DataW H) → Nat
  | [] => 0
  | x :: r => uptoBulkEntry x + uptoBulkEntries r
def uptoBulkEntry {H : Type} : Lit × DataW H → Nat
  | (.string bytes, d) => bytes.length + uptoBulk d + 1
  | (_, d) => uptoBulk d + 1
 end
def uptoSmall : (H : Type) → List (DataW H) → Bool := fun _ ds => decide (uptoBulkAll ds ≤ 1048576)
def OpenSpec.upto (s : _root_.Go.ChangeSpec) : _root_.Go.OpenSpec := { _root_.Go.OpenSpec.ofChange s with cond := some uptoSmall }

/-- 'footlockerlaw03.LinearReduces', WHERE WHAT IT READS IS OF BULK AT MOST 1048576: true; the input reads as it did. -/
def linearReducesUptoRow : OpenClaim := { program := "ytanknpdibjfmlaa", sum := "0a21fe03e458c372518a8ff5fbf5a2770c6fd018dbd5fe4fb3c6962064c867ae", func := "footlocker/footlockerlaw03.LinearReduces", spec := "linearReduces", unfollowed := true, recurses := true, apart := false, narrowed := true }
def LinearReducesUptoSaid : Prop := linearReducesUptoRow.holds Try.pinned (OpenSpec.upto linearReducesSpec)

/-- 'footlockerlaw03.LinearSolves', WHERE WHAT IT READS IS OF BULK AT MOST 1048576: true; the input reads as it did. -/
def linearSolvesUptoRow : OpenClaim := { program := "ytanknpdibjfmlaa", sum := "0a21fe03e458c372518a8ff5fbf5a2770c6fd018dbd5fe4fb3c6962064c867ae", func := "footlocker/footlockerlaw03.LinearSolves", spec := "linearSolves", unfollowed := true, recurses := true, apart := false, narrowed := true }
def LinearSolvesUptoSaid : Prop := linearSolvesUptoRow.holds Try.pinned (OpenSpec.upto linearSolvesSpec)

/-- 'footlockerlaw03.LinearFinds', WHERE WHAT IT READS IS OF BULK AT MOST 1048576: true; the input reads as it did. -/
def linearFindsUptoRow : OpenClaim := { program := "ytanknpdibjfmlaa", sum := "0a21fe03e458c372518a8ff5fbf5a2770c6fd018dbd5fe4fb3c6962064c867ae", func := "footlocker/footlockerlaw03.LinearFinds", spec := "linearFinds", unfollowed := true, recurses := true, apart := false, narrowed := true }
def LinearFindsUptoSaid : Prop := linearFindsUptoRow.holds Try.pinned (OpenSpec.upto linearFindsSpec)

/-- 'footlockerlaw03.LinearInverse', WHERE WHAT IT READS IS OF BULK AT MOST 1048576: true; the input reads as it did. -/
def linearInverseUptoRow : OpenClaim := { program := "ytanknpdibjfmlaa", sum := "0a21fe03e458c372518a8ff5fbf5a2770c6fd018dbd5fe4fb3c6962064c867ae", func := "footlocker/footlockerlaw03.LinearInverse", spec := "linearInverse", unfollowed := true, recurses := true, apart := false, narrowed := true }
def LinearInverseUptoSaid : Prop := linearInverseUptoRow.holds Try.pinned (OpenSpec.upto linearInverseSpec)

/-- 'footlockerlaw03.LinearRanks', WHERE WHAT IT READS IS OF BULK AT MOST 1048576: true; the input reads as it did. -/
def linearRanksUptoRow : OpenClaim := { program := "ytanknpdibjfmlaa", sum := "0a21fe03e458c372518a8ff5fbf5a2770c6fd018dbd5fe4fb3c6962064c867ae", func := "footlocker/footlockerlaw03.LinearRanks", spec := "linearRanks", unfollowed := true, recurses := true, apart := false, narrowed := true }
def LinearRanksUptoSaid : Prop := linearRanksUptoRow.holds Try.pinned (OpenSpec.upto linearRanksSpec)

/-- 'footlockerlaw03.LinearTimes', WHERE WHAT IT READS IS OF BULK AT MOST 1048576: true; the input reads as it did. -/
def linearTimesUptoRow : OpenClaim := { program := "ytanknpdibjfmlaa", sum := "0a21fe03e458c372518a8ff5fbf5a2770c6fd018dbd5fe4fb3c6962064c867ae", func := "footlocker/footlockerlaw03.LinearTimes", spec := "linearTimes", unfollowed := true, recurses := true, apart := false, narrowed := true }
def LinearTimesUptoSaid : Prop := linearTimesUptoRow.holds Try.pinned (OpenSpec.upto linearTimesSpec)

end Rows
end Go.Proofs.Ytanknpdibjfmlaa
