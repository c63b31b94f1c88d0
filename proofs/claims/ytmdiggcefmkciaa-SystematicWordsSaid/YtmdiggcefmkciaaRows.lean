/-
  No cell of these rows narrows 'for every input' (looked for: loops, veiled, ifaces, maps, wideKeys, modest, calm, conditions, laid).
  DERIVED. THE GIVEN ROWS OF THIS SEAT. 4 by the template 'for every input the law returns true; each argument reads behind the call as it read before'; 0 by the template 'total and deterministic' (their statements: YtmdiggcefmkciaaTotals.lean).
  GIVEN WITH THE SEED: the statements are not yours to turn. If you find one false, say at which input.
  Laid BY PROGRAM, IN A SANDBOX (cutbox-rows.mjs): the forced cells as the released guide's own fill.sh prints them over the translation 6ed7d6e5deec5a4b… (all of the seat's roots in one cut). By AI agents, Wed Nov 11 2026. No macro, syntax, notation, axiom, sorry.
-/
import Derived.Test.YtmdiggcefmkciaaChecked
import GoSem.Claim
import GoSem.ClaimJoined
import GoSem.ClaimMapViews
import Derived.JoinedTies
import Derived.KernelRfl
namespace Go.Proofs.Ytmdiggcefmkciaa
/- THE CELL 'sum', in the pinned program and in every row, IS THE sha256 OF THE DUMP (.gsa) THAT YtmdiggcefmkciaaProg.lean LOADS. Nothing in Lean hashes anything: it is a label: what it is worth is what the hold of that sum in a sandbox is worth. -/
noncomputable def Try.pinned : Pinned := { name := "ytmdiggcefmkciaa", sum := "6ed7d6e5deec5a4bc7c3b2f5f58122ad31baa3c777cabb3e8e07e629b8a17afd", checked := Try.checked }
namespace Rows
def none {H : Type} : Left H := { results := [], args := [] }

/-- 'footlockerlaw04.SystematicWords': WHATEVER THE INPUT: true; the input reads as it did. -/
def systematicWordsSpec : ChangeSpec := { name := "systematicWords", fn := fun _ => fun
  | [d1, d2, d3, d4, d5] => { results := [.lit (.bool true)], args := [d1, d2, d3, d4, d5] }
  | _ => none }
def systematicWordsRow : OpenClaim := { program := "ytmdiggcefmkciaa", sum := "6ed7d6e5deec5a4bc7c3b2f5f58122ad31baa3c777cabb3e8e07e629b8a17afd", func := "footlocker/footlockerlaw04.SystematicWords", spec := "systematicWords", apart := false }
def SystematicWordsSaid : Prop := systematicWordsRow.holds Try.pinned (OpenSpec.ofChange systematicWordsSpec)

/-- ITS FALSE NEIGHBOUR: 'it returns false'. Refute it at one input. -/
def systematicWordsWrong : ChangeSpec := { name := "systematicWords", fn := fun _ => fun
  | [d1, d2, d3, d4, d5] => { results := [.lit (.bool false)], args := [d1, d2, d3, d4, d5] }
  | _ => none }
def SystematicWordsWrongFalsely : Prop := systematicWordsRow.holds Try.pinned (OpenSpec.ofChange systematicWordsWrong)

/-- 'footlockerlaw04.SystematicTells': WHATEVER THE INPUT: true; the input reads as it did. -/
def systematicTellsSpec : ChangeSpec := { name := "systematicTells", fn := fun _ => fun
  | [d1, d2, d3] => { results := [.lit (.bool true)], args := [d1, d2, d3] }
  | _ => none }
def systematicTellsRow : OpenClaim := { program := "ytmdiggcefmkciaa", sum := "6ed7d6e5deec5a4bc7c3b2f5f58122ad31baa3c777cabb3e8e07e629b8a17afd", func := "footlocker/footlockerlaw04.SystematicTells", spec := "systematicTells", apart := false }
def SystematicTellsSaid : Prop := systematicTellsRow.holds Try.pinned (OpenSpec.ofChange systematicTellsSpec)

/-- ITS FALSE NEIGHBOUR: 'it returns false'. Refute it at one input. -/
def systematicTellsWrong : ChangeSpec := { name := "systematicTells", fn := fun _ => fun
  | [d1, d2, d3] => { results := [.lit (.bool false)], args := [d1, d2, d3] }
  | _ => none }
def SystematicTellsWrongFalsely : Prop := systematicTellsRow.holds Try.pinned (OpenSpec.ofChange systematicTellsWrong)

/-- 'footlockerlaw04.SystematicFar': WHATEVER THE INPUT: true; the input reads as it did. -/
def systematicFarSpec : ChangeSpec := { name := "systematicFar", fn := fun _ => fun
  | [d1, d2, d3] => { results := [.lit (.bool true)], args := [d1, d2, d3] }
  | _ => none }
def systematicFarRow : OpenClaim := { program := "ytmdiggcefmkciaa", sum := "6ed7d6e5deec5a4bc7c3b2f5f58122ad31baa3c777cabb3e8e07e629b8a17afd", func := "footlocker/footlockerlaw04.SystematicFar", spec := "systematicFar", apart := false }
def SystematicFarSaid : Prop := systematicFarRow.holds Try.pinned (OpenSpec.ofChange systematicFarSpec)

/-- ITS FALSE NEIGHBOUR: 'it returns false'. Refute it at one input. -/
def systematicFarWrong : ChangeSpec := { name := "systematicFar", fn := fun _ => fun
  | [d1, d2, d3] => { results := [.lit (.bool false)], args := [d1, d2, d3] }
  | _ => none }
def SystematicFarWrongFalsely : Prop := systematicFarRow.holds Try.pinned (OpenSpec.ofChange systematicFarWrong)

/-- 'footlockerlaw04.SystematicMore': WHATEVER THE INPUT: true; the input reads as it did. -/
def systematicMoreSpec : ChangeSpec := { name := "systematicMore", fn := fun _ => fun
  | [d1, d2, d3] => { results := [.lit (.bool true)], args := [d1, d2, d3] }
  | _ => none }
def systematicMoreRow : OpenClaim := { program := "ytmdiggcefmkciaa", sum := "6ed7d6e5deec5a4bc7c3b2f5f58122ad31baa3c777cabb3e8e07e629b8a17afd", func := "footlocker/footlockerlaw04.SystematicMore", spec := "systematicMore", apart := false }
def SystematicMoreSaid : Prop := systematicMoreRow.holds Try.pinned (OpenSpec.ofChange systematicMoreSpec)

/-- ITS FALSE NEIGHBOUR: 'it returns false'. Refute it at one input. -/
def systematicMoreWrong : ChangeSpec := { name := "systematicMore", fn := fun _ => fun
  | [d1, d2, d3] => { results := [.lit (.bool false)], args := [d1, d2, d3] }
  | _ => none }
def SystematicMoreWrongFalsely : Prop := systematicMoreRow.holds Try.pinned (OpenSpec.ofChange systematicMoreWrong)

/- THE SECOND FORM. 'bulk': how many values and letters a reading holds, each counted each time it is reached (what is shared counts as often as it is met; a slice's spare places count too). A statement '..UptoSaid' is the law's where the arguments, and the package variables that the reading takes, are together of bulk at most 1048576: NARROWER than '..Said'. Prove '..Said' where nothing that the law and all that it calls make is longer than what came in: it says more and counts as full. Else prove '..UptoSaid'. A law counts once. -/
mutual
def uptoBulk {H : Type} : DataW H → Nat
  | .lit (.string bytes) => bytes.length + 1
  | .lit _ => 1
  | .nil => 1
  | .ptr d => uptoBulk d + 1
  | .slice elems spare => uptoBulkAll elems + uptoBulkAll spare + 1
  | .agg parts => uptoBulkAll parts + 1
  | .iface _ d => uptoBulk d + 1
  | .map entries => uptoBulkEntries entries + 1
  | .held _ => 1
def uptoBulkAll {H : Type} : List (DataW H) → Nat
  | [] => 0
  | d :: r => uptoBulk d + uptoBulkAll r
def uptoBulkEntries {H : Type} : List (Lit × DataW H) → Nat
  | [] => 0
  | x :: r => uptoBulkEntry x + uptoBulkEntries r
def uptoBulkEntry {H : Type} : Lit × DataW H → Nat
  | (.string bytes, d) => bytes.length + uptoBulk d + 1
  | (_, d) => uptoBulk d + 1
 end
def uptoSmall : (H : Type) → List (DataW H) → Bool := fun _ ds => decide (uptoBulkAll ds ≤ 1048576)
def OpenSpec.upto (s : _root_.Go.ChangeSpec) : _root_.Go.OpenSpec := { _root_.Go.OpenSpec.ofChange s with cond := some uptoSmall }

/-- 'footlockerlaw04.SystematicWords', WHERE WHAT IT READS IS OF BULK AT MOST 1048576: true; the input reads as it did. -/
def systematicWordsUptoRow : OpenClaim := { program := "ytmdiggcefmkciaa", sum := "6ed7d6e5deec5a4bc7c3b2f5f58122ad31baa3c777cabb3e8e07e629b8a17afd", func := "footlocker/footlockerlaw04.SystematicWords", spec := "systematicWords", apart := false, narrowed := true }
def SystematicWordsUptoSaid : Prop := systematicWordsUptoRow.holds Try.pinned (OpenSpec.upto systematicWordsSpec)

/-- 'footlockerlaw04.SystematicTells', WHERE WHAT IT READS IS OF BULK AT MOST 1048576: true; the input reads as it did. -/
def systematicTellsUptoRow : OpenClaim := { program := "ytmdiggcefmkciaa", sum := "6ed7d6e5deec5a4bc7c3b2f5f58122ad31baa3c777cabb3e8e07e629b8a17afd", func := "footlocker/footlockerlaw04.SystematicTells", spec := "systematicTells", apart := false, narrowed := true }
def SystematicTellsUptoSaid : Prop := systematicTellsUptoRow.holds Try.pinned (OpenSpec.upto systematicTellsSpec)

/-- 'footlockerlaw04.SystematicFar', WHERE WHAT IT READS IS OF BULK AT MOST 1048576: true; the input reads as it did. -/
def systematicFarUptoRow : OpenClaim := { program := "ytmdiggcefmkciaa", sum := "6ed7d6e5deec5a4bc7c3b2f5f58122ad31baa3c777cabb3e8e07e629b8a17afd", func := "footlocker/footlockerlaw04.SystematicFar", spec := "systematicFar", apart := false, narrowed := true }
def SystematicFarUptoSaid : Prop := systematicFarUptoRow.holds Try.pinned (OpenSpec.upto systematicFarSpec)

/-- 'footlockerlaw04.SystematicMore', WHERE WHAT IT READS IS OF BULK AT MOST 1048576: true; the input reads as it did. -/
def systematicMoreUptoRow : OpenClaim := { program := "ytmdiggcefmkciaa", sum := "6ed7d6e5deec5a4bc7c3b2f5f58122ad31baa3c777cabb3e8e07e629b8a17afd", func := "footlocker/footlockerlaw04.SystematicMore", spec := "systematicMore", apart := false, narrowed := true }
def SystematicMoreUptoSaid : Prop := systematicMoreUptoRow.holds Try.pinned (OpenSpec.upto systematicMoreSpec)

end Rows
end Go.Proofs.Ytmdiggcefmkciaa
