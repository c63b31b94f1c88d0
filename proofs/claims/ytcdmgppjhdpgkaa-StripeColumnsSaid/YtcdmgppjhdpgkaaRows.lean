/-
  No cell of these rows narrows 'for every input' (looked for: loops, veiled, ifaces, maps, wideKeys, modest, calm, conditions, laid).
  DERIVED. THE GIVEN ROWS OF THIS SEAT. 4 by the template 'for every input the law returns true; each argument reads behind the call as it read before'; 0 by the template 'total and deterministic' (their statements: YtcdmgppjhdpgkaaTotals.lean).
  GIVEN WITH THE SEED: the statements are not yours to turn. If you find one false, say at which input.
  Laid BY PROGRAM, IN A SANDBOX (cutbox-rows.mjs): the forced cells as the released guide's own fill.sh prints them over the translation 574e77a7fbfd11f7… (all of the seat's roots in one cut). By AI agents, Wed Nov 11 2026. No macro, syntax, notation, axiom, sorry.
-/
import Derived.Test.YtcdmgppjhdpgkaaChecked
import GoSem.Claim
import GoSem.ClaimJoined
import GoSem.ClaimMapViews
import Derived.JoinedTies
import Derived.KernelRfl
namespace Go.Proofs.Ytcdmgppjhdpgkaa
/- THE CELL 'sum', in the pinned program and in every row, IS THE sha256 OF THE DUMP (.gsa) THAT YtcdmgppjhdpgkaaProg.lean LOADS. Nothing in Lean hashes anything: it is a label: what it is worth is what the hold of that sum in a sandbox is worth. -/
noncomputable def Try.pinned : Pinned := { name := "ytcdmgppjhdpgkaa", sum := "574e77a7fbfd11f7f6ab912caa2045d0f444d8bd7942a9d783d7de18fbfe4cc9", checked := Try.checked }
namespace Rows
def none {H : Type} : Left H := { results := [], args := [] }

/-- 'footlockerlaw23.StripeColumns': WHATEVER THE INPUT: true; the input reads as it did. -/
def stripeColumnsSpec : ChangeSpec := { name := "stripeColumns", fn := fun _ => fun
  | [d1, d2, d3, d4] => { results := [.lit (.bool true)], args := [d1, d2, d3, d4] }
  | _ => none }
def stripeColumnsRow : OpenClaim := { program := "ytcdmgppjhdpgkaa", sum := "574e77a7fbfd11f7f6ab912caa2045d0f444d8bd7942a9d783d7de18fbfe4cc9", func := "footlocker/footlockerlaw23.StripeColumns", spec := "stripeColumns", unfollowed := true, recurses := true, apart := false }
def StripeColumnsSaid : Prop := stripeColumnsRow.holds Try.pinned (OpenSpec.ofChange stripeColumnsSpec)

/-- ITS FALSE NEIGHBOUR: 'it returns false'. Refute it at one input. -/
def stripeColumnsWrong : ChangeSpec := { name := "stripeColumns", fn := fun _ => fun
  | [d1, d2, d3, d4] => { results := [.lit (.bool false)], args := [d1, d2, d3, d4] }
  | _ => none }
def StripeColumnsWrongFalsely : Prop := stripeColumnsRow.holds Try.pinned (OpenSpec.ofChange stripeColumnsWrong)

/-- 'footlockerlaw23.StripeParity': WHATEVER THE INPUT: true; the input reads as it did. -/
def stripeParitySpec : ChangeSpec := { name := "stripeParity", fn := fun _ => fun
  | [d1, d2] => { results := [.lit (.bool true)], args := [d1, d2] }
  | _ => none }
def stripeParityRow : OpenClaim := { program := "ytcdmgppjhdpgkaa", sum := "574e77a7fbfd11f7f6ab912caa2045d0f444d8bd7942a9d783d7de18fbfe4cc9", func := "footlocker/footlockerlaw23.StripeParity", spec := "stripeParity", unfollowed := true, recurses := true, apart := false }
def StripeParitySaid : Prop := stripeParityRow.holds Try.pinned (OpenSpec.ofChange stripeParitySpec)

/-- ITS FALSE NEIGHBOUR: 'it returns false'. Refute it at one input. -/
def stripeParityWrong : ChangeSpec := { name := "stripeParity", fn := fun _ => fun
  | [d1, d2] => { results := [.lit (.bool false)], args := [d1, d2] }
  | _ => none }
def StripeParityWrongFalsely : Prop := stripeParityRow.holds Try.pinned (OpenSpec.ofChange stripeParityWrong)

/-- 'footlockerlaw23.StripeSums': WHATEVER THE INPUT: true; the input reads as it did. -/
def stripeSumsSpec : ChangeSpec := { name := "stripeSums", fn := fun _ => fun
  | [d1, d2, d3] => { results := [.lit (.bool true)], args := [d1, d2, d3] }
  | _ => none }
def stripeSumsRow : OpenClaim := { program := "ytcdmgppjhdpgkaa", sum := "574e77a7fbfd11f7f6ab912caa2045d0f444d8bd7942a9d783d7de18fbfe4cc9", func := "footlocker/footlockerlaw23.StripeSums", spec := "stripeSums", unfollowed := true, recurses := true, apart := false }
def StripeSumsSaid : Prop := stripeSumsRow.holds Try.pinned (OpenSpec.ofChange stripeSumsSpec)

/-- ITS FALSE NEIGHBOUR: 'it returns false'. Refute it at one input. -/
def stripeSumsWrong : ChangeSpec := { name := "stripeSums", fn := fun _ => fun
  | [d1, d2, d3] => { results := [.lit (.bool false)], args := [d1, d2, d3] }
  | _ => none }
def StripeSumsWrongFalsely : Prop := stripeSumsRow.holds Try.pinned (OpenSpec.ofChange stripeSumsWrong)

/-- 'footlockerlaw23.StripeBack': WHATEVER THE INPUT: true; the input reads as it did. -/
def stripeBackSpec : ChangeSpec := { name := "stripeBack", fn := fun _ => fun
  | [d1, d2, d3] => { results := [.lit (.bool true)], args := [d1, d2, d3] }
  | _ => none }
def stripeBackRow : OpenClaim := { program := "ytcdmgppjhdpgkaa", sum := "574e77a7fbfd11f7f6ab912caa2045d0f444d8bd7942a9d783d7de18fbfe4cc9", func := "footlocker/footlockerlaw23.StripeBack", spec := "stripeBack", unfollowed := true, recurses := true, apart := false }
def StripeBackSaid : Prop := stripeBackRow.holds Try.pinned (OpenSpec.ofChange stripeBackSpec)

/-- ITS FALSE NEIGHBOUR: 'it returns false'. Refute it at one input. -/
def stripeBackWrong : ChangeSpec := { name := "stripeBack", fn := fun _ => fun
  | [d1, d2, d3] => { results := [.lit (.bool false)], args := [d1, d2, d3] }
  | _ => none }
def StripeBackWrongFalsely : Prop := stripeBackRow.holds Try.pinned (OpenSpec.ofChange stripeBackWrong)

/- THE SECOND FORM. 'bulk': how many values and letters a reading holds, each counted each time it is reached (what is shared counts as often as it is met; a slice's spare places count too). A statement '..UptoSaid' is the law's where the arguments, and the package variables that the reading takes, are together of bulk at most 1048576: NARROWER than '..Said'. Prove '..Said' where nothing that the law and all that it calls make is longer than what came in: it says more and counts as full. Else prove '..UptoSaid'. A law counts once. -/
mutual
def uptoBulk {H : Type} : DataW H → Nat
  | .lit (.string bytes) => bytes.length + 1
  | .lit _ => 1
  | .nil => 1
  | .ptr d => uptoBulk d + 1
  | .slice elems spare => uptoBulkAll elems + uptoBulkAll spare + 1
  | .agg parts => uptoBulkAll parts + 1
  | .iface _ d => uptoBulk d + 1
  | .map entries => uptoBulkEntries entries + 1
  | .held _ => 1
def uptoBulkAll {H : Type} : List (DataW H) → Nat
  | [] => 0
  | d :: r => uptoBulk d + uptoBulkAll r
def uptoBulkEntries {H : Type} : List (Lit × DataW H) → Nat
  | [] => 0
  | x :: r => uptoBulkEntry x + uptoBulkEntries r
def uptoBulkEntry {H : Type} : Lit × DataW H → Nat
  | (.string bytes, d) => bytes.length + uptoBulk d + 1
  | (_, d) => uptoBulk d + 1
 end
def uptoSmall : (H : Type) → List (DataW H) → Bool := fun _ ds => decide (uptoBulkAll ds ≤ 1048576)
def OpenSpec.upto (s : _root_.Go.ChangeSpec) : _root_.Go.OpenSpec := { _root_.Go.OpenSpec.ofChange s with cond := some uptoSmall }

/-- 'footlockerlaw23.StripeColumns', WHERE WHAT IT READS IS OF BULK AT MOST 1048576: true; the input reads as it did. -/
def stripeColumnsUptoRow : OpenClaim := { program := "ytcdmgppjhdpgkaa", sum := "574e77a7fbfd11f7f6ab912caa2045d0f444d8bd7942a9d783d7de18fbfe4cc9", func := "footlocker/footlockerlaw23.StripeColumns", spec := "stripeColumns", unfollowed := true, recurses := true, apart := false, narrowed := true }
def StripeColumnsUptoSaid : Prop := stripeColumnsUptoRow.holds Try.pinned (OpenSpec.upto stripeColumnsSpec)

/-- 'footlockerlaw23.StripeParity', WHERE WHAT IT READS IS OF BULK AT MOST 1048576: true; the input reads as it did. -/
def stripeParityUptoRow : OpenClaim := { program := "ytcdmgppjhdpgkaa", sum := "574e77a7fbfd11f7f6ab912caa2045d0f444d8bd7942a9d783d7de18fbfe4cc9", func := "footlocker/footlockerlaw23.StripeParity", spec := "stripeParity", unfollowed := true, recurses := true, apart := false, narrowed := true }
def StripeParityUptoSaid : Prop := stripeParityUptoRow.holds Try.pinned (OpenSpec.upto stripeParitySpec)

/-- 'footlockerlaw23.StripeSums', WHERE WHAT IT READS IS OF BULK AT MOST 1048576: true; the input reads as it did. -/
def stripeSumsUptoRow : OpenClaim := { program := "ytcdmgppjhdpgkaa", sum := "574e77a7fbfd11f7f6ab912caa2045d0f444d8bd7942a9d783d7de18fbfe4cc9", func := "footlocker/footlockerlaw23.StripeSums", spec := "stripeSums", unfollowed := true, recurses := true, apart := false, narrowed := true }
def StripeSumsUptoSaid : Prop := stripeSumsUptoRow.holds Try.pinned (OpenSpec.upto stripeSumsSpec)

/-- 'footlockerlaw23.StripeBack', WHERE WHAT IT READS IS OF BULK AT MOST 1048576: true; the input reads as it did. -/
def stripeBackUptoRow : OpenClaim := { program := "ytcdmgppjhdpgkaa", sum := "574e77a7fbfd11f7f6ab912caa2045d0f444d8bd7942a9d783d7de18fbfe4cc9", func := "footlocker/footlockerlaw23.StripeBack", spec := "stripeBack", unfollowed := true, recurses := true, apart := false, narrowed := true }
def StripeBackUptoSaid : Prop := stripeBackUptoRow.holds Try.pinned (OpenSpec.upto stripeBackSpec)

end Rows
end Go.Proofs.Ytcdmgppjhdpgkaa
