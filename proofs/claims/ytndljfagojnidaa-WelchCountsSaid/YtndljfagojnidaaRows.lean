/-
  No cell of these rows narrows 'for every input' (looked for: loops, veiled, ifaces, maps, wideKeys, modest, calm, conditions, laid).
  DERIVED. THE GIVEN ROWS OF THIS SEAT. 4 by the template 'for every input the law returns true; each argument reads behind the call as it read before'; 0 by the template 'total and deterministic' (their statements: YtndljfagojnidaaTotals.lean).
  GIVEN WITH THE SEED: the statements are not yours to turn. If you find one false, say at which input.
  Laid BY PROGRAM, IN A SANDBOX (cutbox-rows.mjs): the forced cells as the released guide's own fill.sh prints them over the translation 727ca29161ee3fb9… (all of the seat's roots in one cut). By AI agents, Wed Nov 11 2026. No macro, syntax, notation, axiom, sorry.
-/
import Derived.Test.YtndljfagojnidaaChecked
import GoSem.Claim
import GoSem.ClaimJoined
import GoSem.ClaimMapViews
import Derived.JoinedTies
import Derived.KernelRfl
namespace Go.Proofs.Ytndljfagojnidaa
/- THE CELL 'sum', in the pinned program and in every row, IS THE sha256 OF THE DUMP (.gsa) THAT YtndljfagojnidaaProg.lean LOADS. Nothing in Lean hashes anything: it is a label: what it is worth is what the hold of that sum in a sandbox is worth. -/
noncomputable def Try.pinned : Pinned := { name := "ytndljfagojnidaa", sum := "727ca29161ee3fb9b9c80a1cde76e21c86e4e598e96b995ddf5c7d56e884d1fa", checked := Try.checked }
namespace Rows
def none {H : Type} : Left H := { results := [], args := [] }

/-- 'footlockerlaw05.WelchDecodes': WHATEVER THE INPUT: true; the input reads as it did. -/
def welchDecodesSpec : ChangeSpec := { name := "welchDecodes", fn := fun _ => fun
  | [d1, d2, d3] => { results := [.lit (.bool true)], args := [d1, d2, d3] }
  | _ => none }
def welchDecodesRow : OpenClaim := { program := "ytndljfagojnidaa", sum := "727ca29161ee3fb9b9c80a1cde76e21c86e4e598e96b995ddf5c7d56e884d1fa", func := "footlocker/footlockerlaw05.WelchDecodes", spec := "welchDecodes", unfollowed := true, recurses := true, apart := false }
def WelchDecodesSaid : Prop := welchDecodesRow.holds Try.pinned (OpenSpec.ofChange welchDecodesSpec)

/-- ITS FALSE NEIGHBOUR: 'it returns false'. Refute it at one input. -/
def welchDecodesWrong : ChangeSpec := { name := "welchDecodes", fn := fun _ => fun
  | [d1, d2, d3] => { results := [.lit (.bool false)], args := [d1, d2, d3] }
  | _ => none }
def WelchDecodesWrongFalsely : Prop := welchDecodesRow.holds Try.pinned (OpenSpec.ofChange welchDecodesWrong)

/-- 'footlockerlaw05.WelchTells': WHATEVER THE INPUT: true; the input reads as it did. -/
def welchTellsSpec : ChangeSpec := { name := "welchTells", fn := fun _ => fun
  | [d1, d2, d3, d4] => { results := [.lit (.bool true)], args := [d1, d2, d3, d4] }
  | _ => none }
def welchTellsRow : OpenClaim := { program := "ytndljfagojnidaa", sum := "727ca29161ee3fb9b9c80a1cde76e21c86e4e598e96b995ddf5c7d56e884d1fa", func := "footlocker/footlockerlaw05.WelchTells", spec := "welchTells", unfollowed := true, recurses := true, apart := false }
def WelchTellsSaid : Prop := welchTellsRow.holds Try.pinned (OpenSpec.ofChange welchTellsSpec)

/-- ITS FALSE NEIGHBOUR: 'it returns false'. Refute it at one input. -/
def welchTellsWrong : ChangeSpec := { name := "welchTells", fn := fun _ => fun
  | [d1, d2, d3, d4] => { results := [.lit (.bool false)], args := [d1, d2, d3, d4] }
  | _ => none }
def WelchTellsWrongFalsely : Prop := welchTellsRow.holds Try.pinned (OpenSpec.ofChange welchTellsWrong)

/-- 'footlockerlaw05.WelchOnce': WHATEVER THE INPUT: true; the input reads as it did. -/
def welchOnceSpec : ChangeSpec := { name := "welchOnce", fn := fun _ => fun
  | [d1, d2, d3, d4] => { results := [.lit (.bool true)], args := [d1, d2, d3, d4] }
  | _ => none }
def welchOnceRow : OpenClaim := { program := "ytndljfagojnidaa", sum := "727ca29161ee3fb9b9c80a1cde76e21c86e4e598e96b995ddf5c7d56e884d1fa", func := "footlocker/footlockerlaw05.WelchOnce", spec := "welchOnce", unfollowed := true, recurses := true, apart := false }
def WelchOnceSaid : Prop := welchOnceRow.holds Try.pinned (OpenSpec.ofChange welchOnceSpec)

/-- ITS FALSE NEIGHBOUR: 'it returns false'. Refute it at one input. -/
def welchOnceWrong : ChangeSpec := { name := "welchOnce", fn := fun _ => fun
  | [d1, d2, d3, d4] => { results := [.lit (.bool false)], args := [d1, d2, d3, d4] }
  | _ => none }
def WelchOnceWrongFalsely : Prop := welchOnceRow.holds Try.pinned (OpenSpec.ofChange welchOnceWrong)

/-- 'footlockerlaw05.WelchCounts': WHATEVER THE INPUT: true; the input reads as it did. -/
def welchCountsSpec : ChangeSpec := { name := "welchCounts", fn := fun _ => fun
  | [d1, d2, d3] => { results := [.lit (.bool true)], args := [d1, d2, d3] }
  | _ => none }
def welchCountsRow : OpenClaim := { program := "ytndljfagojnidaa", sum := "727ca29161ee3fb9b9c80a1cde76e21c86e4e598e96b995ddf5c7d56e884d1fa", func := "footlocker/footlockerlaw05.WelchCounts", spec := "welchCounts", unfollowed := true, recurses := true, apart := false }
def WelchCountsSaid : Prop := welchCountsRow.holds Try.pinned (OpenSpec.ofChange welchCountsSpec)

/-- ITS FALSE NEIGHBOUR: 'it returns false'. Refute it at one input. -/
def welchCountsWrong : ChangeSpec := { name := "welchCounts", fn := fun _ => fun
  | [d1, d2, d3] => { results := [.lit (.bool false)], args := [d1, d2, d3] }
  | _ => none }
def WelchCountsWrongFalsely : Prop := welchCountsRow.holds Try.pinned (OpenSpec.ofChange welchCountsWrong)

/- THE SECOND FORM. 'bulk': how many values and letters a reading holds, each counted each time it is reached (what is shared counts as often as it is met; a slice's spare places count too). A statement '..UptoSaid' is the law's where the arguments, and the package variables that the reading takes, are together of bulk at most 1048576: NARROWER than '..Said'. Prove '..Said' where nothing that the law and all that it calls make is longer than what came in: it says more and counts as full. Else prove '..UptoSaid'. A law counts once. -/
mutual
def uptoBulk {H : Type} : DataW H → Nat
  | .lit (.string bytes) => bytes.length + 1
  | .lit _ => 1
  | .nil => 1
  | .ptr d => uptoBulk d + 1
  | .slice elems spare => uptoBulkAll elems + uptoBulkAll spare + 1
  | .agg parts => uptoBulkAll parts + 1
  | .iface _ d => uptoBulk d + 1
  | .map entries => uptoBulkEntries entries + 1
  | .held _ => 1
def uptoBulkAll {H : Type} : List (DataW H) → Nat
  | [] => 0
  | d :: r => uptoBulk d + uptoBulkAll r
def uptoBulkEntries {H : Type} : List (Lit × DataW H) → Nat
  | [] => 0
  | x :: r => uptoBulkEntry x + uptoBulkEntries r
def uptoBulkEntry {H : Type} : Lit × DataW H → Nat
  | (.string bytes, d) => bytes.length + uptoBulk d + 1
  | (_, d) => uptoBulk d + 1
 end
def uptoSmall : (H : Type) → List (DataW H) → Bool := fun _ ds => decide (uptoBulkAll ds ≤ 1048576)
def OpenSpec.upto (s : _root_.Go.ChangeSpec) : _root_.Go.OpenSpec := { _root_.Go.OpenSpec.ofChange s with cond := some uptoSmall }

/-- 'footlockerlaw05.WelchDecodes', WHERE WHAT IT READS IS OF BULK AT MOST 1048576: true; the input reads as it did. -/
def welchDecodesUptoRow : OpenClaim := { program := "ytndljfagojnidaa", sum := "727ca29161ee3fb9b9c80a1cde76e21c86e4e598e96b995ddf5c7d56e884d1fa", func := "footlocker/footlockerlaw05.WelchDecodes", spec := "welchDecodes", unfollowed := true, recurses := true, apart := false, narrowed := true }
def WelchDecodesUptoSaid : Prop := welchDecodesUptoRow.holds Try.pinned (OpenSpec.upto welchDecodesSpec)

/-- 'footlockerlaw05.WelchTells', WHERE WHAT IT READS IS OF BULK AT MOST 1048576: true; the input reads as it did. -/
def welchTellsUptoRow : OpenClaim := { program := "ytndljfagojnidaa", sum := "727ca29161ee3fb9b9c80a1cde76e21c86e4e598e96b995ddf5c7d56e884d1fa", func := "footlocker/footlockerlaw05.WelchTells", spec := "welchTells", unfollowed := true, recurses := true, apart := false, narrowed := true }
def WelchTellsUptoSaid : Prop := welchTellsUptoRow.holds Try.pinned (OpenSpec.upto welchTellsSpec)

/-- 'footlockerlaw05.WelchOnce', WHERE WHAT IT READS IS OF BULK AT MOST 1048576: true; the input reads as it did. -/
def welchOnceUptoRow : OpenClaim := { program := "ytndljfagojnidaa", sum := "727ca29161ee3fb9b9c80a1cde76e21c86e4e598e96b995ddf5c7d56e884d1fa", func := "footlocker/footlockerlaw05.WelchOnce", spec := "welchOnce", unfollowed := true, recurses := true, apart := false, narrowed := true }
def WelchOnceUptoSaid : Prop := welchOnceUptoRow.holds Try.pinned (OpenSpec.upto welchOnceSpec)

/-- 'footlockerlaw05.WelchCounts', WHERE WHAT IT READS IS OF BULK AT MOST 1048576: true; the input reads as it did. -/
def welchCountsUptoRow : OpenClaim := { program := "ytndljfagojnidaa", sum := "727ca29161ee3fb9b9c80a1cde76e21c86e4e598e96b995ddf5c7d56e884d1fa", func := "footlocker/footlockerlaw05.WelchCounts", spec := "welchCounts", unfollowed := true, recurses := true, apart := false, narrowed := true }
def WelchCountsUptoSaid : Prop := welchCountsUptoRow.holds Try.pinned (OpenSpec.upto welchCountsSpec)

end Rows
end Go.Proofs.Ytndljfagojnidaa
