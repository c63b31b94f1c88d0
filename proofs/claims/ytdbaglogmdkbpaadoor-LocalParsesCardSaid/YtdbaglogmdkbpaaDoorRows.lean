/-
  NARROWER THAN 'FOR EVERY INPUT', by the rows' own cells (each row's printed sentence says how): LocalWrites: laid · LocalParses: laid · LocalBack: laid · LocalRows: laid · LocalSizes: laid.
  DERIVED. THE GIVEN ROWS OF THIS SEAT. 5 by the template 'for every input the law returns true; each argument reads behind the call as it read before'; 0 by the template 'total and deterministic' (their statements: YtdbaglogmdkbpaaDoorTotals.lean).
  GIVEN WITH THE SEED: the statements are not yours to turn. If you find one false, say at which input.
  Laid BY PROGRAM, IN A SANDBOX (cutbox-rows.mjs): the forced cells as the released guide's own fill.sh prints them over the translation 581f5291d47aa726… (all of the seat's roots in one cut). By AI agents, Wed Nov 11 2026. No macro, syntax, notation, axiom, sorry.
-/
import Derived.Test.YtdbaglogmdkbpaaDoorChecked
import GoSem.PinnedTables
import GoSem.Claim
import GoSem.ClaimJoined
import GoSem.ClaimMapViews
import Derived.JoinedTies
import Derived.KernelRfl
namespace Go.Proofs.YtdbaglogmdkbpaaDoor
/- THE CELL 'sum', in the pinned program and in every row, IS THE sha256 OF THE DUMP (.gsa) THAT YtdbaglogmdkbpaaDoorProg.lean LOADS. Nothing in Lean hashes anything: it is a label: what it is worth is what the hold of that sum in a sandbox is worth. -/
noncomputable def Tryd.pinned : Pinned := { name := "ytdbaglogmdkbpaadoor", sum := "581f5291d47aa726cbd3facd63833b2647fac6c9bb0cb135d0bf536d8f9ac5e3", checked := Tryd.checked }
namespace Rows
def none {H : Type} : Left H := { results := [], args := [] }

/- WHAT THE LISTED PACKAGE-LEVEL VARIABLES READ AS WHEN THE CALL BEGINS. Each datum BY PROGRAM (the guide's laid-datum.mjs) off the statement by which the dump's own 'gosem.cut.vars' lays the variable. In a bare row this is a premise. The card (YtdbaglogmdkbpaaDoorCards.lean) ties it to the program's text. -/
def laid_footlocker_stamp_days {H : Type} : DataW H := .agg [.lit (.int .i64 0), .lit (.int .i64 31), .lit (.int .i64 28), .lit (.int .i64 31), .lit (.int .i64 30), .lit (.int .i64 31), .lit (.int .i64 30), .lit (.int .i64 31), .lit (.int .i64 31), .lit (.int .i64 30), .lit (.int .i64 31), .lit (.int .i64 30), .lit (.int .i64 31)]
def laid_unicode_utf8_acceptRanges {H : Type} : DataW H := .agg [.agg [.lit (.int .u8 128), .lit (.int .u8 191)], .agg [.lit (.int .u8 160), .lit (.int .u8 191)], .agg [.lit (.int .u8 128), .lit (.int .u8 159)], .agg [.lit (.int .u8 144), .lit (.int .u8 191)], .agg [.lit (.int .u8 128), .lit (.int .u8 143)], .agg [.lit (.int .u8 0), .lit (.int .u8 0)], .agg [.lit (.int .u8 0), .lit (.int .u8 0)], .agg [.lit (.int .u8 0), .lit (.int .u8 0)], .agg [.lit (.int .u8 0), .lit (.int .u8 0)], .agg [.lit (.int .u8 0), .lit (.int .u8 0)], .agg [.lit (.int .u8 0), .lit (.int .u8 0)], .agg [.lit (.int .u8 0), .lit (.int .u8 0)], .agg [.lit (.int .u8 0), .lit (.int .u8 0)], .agg [.lit (.int .u8 0), .lit (.int .u8 0)], .agg [.lit (.int .u8 0), .lit (.int .u8 0)], .agg [.lit (.int .u8 0), .lit (.int .u8 0)]]
/-- One of Go's own tables, pinned by name: the form's constant. -/
def laid_unicode_utf8_first : DataW Unit := Go.Pinned.utf8First

/-- 'footlockerlaw18.LocalWrites': WHATEVER THE INPUT: true; the input reads as it did. -/
def localWritesSpec : ChangeSpec := { name := "localWrites", fn := fun _ => fun
  | [d] => { results := [.lit (.bool true)], args := [d] }
  | _ => none }
def localWritesRow : OpenClaim := { program := "ytdbaglogmdkbpaadoor", sum := "581f5291d47aa726cbd3facd63833b2647fac6c9bb0cb135d0bf536d8f9ac5e3", func := "footlocker/footlockerlaw18.LocalWrites", spec := "localWrites", inPlace := ["internal/bytealg.IndexByteString", "internal/bytealg.IndexString"], unfollowed := true, recurses := true, named := ["footlocker/stamp.days", "unicode/utf8.first", "unicode/utf8.acceptRanges", "internal/bytealg.MaxLen"], apart := false, laid := [("footlocker/stamp.days", laid_footlocker_stamp_days), ("unicode/utf8.acceptRanges", laid_unicode_utf8_acceptRanges), ("unicode/utf8.first", laid_unicode_utf8_first)] }
def LocalWritesSaid : Prop := localWritesRow.holds Tryd.pinned (OpenSpec.ofChange localWritesSpec)

/-- ITS FALSE NEIGHBOUR: 'it returns false'. Refute it at one input. -/
def localWritesWrong : ChangeSpec := { name := "localWrites", fn := fun _ => fun
  | [d] => { results := [.lit (.bool false)], args := [d] }
  | _ => none }
def LocalWritesWrongFalsely : Prop := localWritesRow.holds Tryd.pinned (OpenSpec.ofChange localWritesWrong)

/-- 'footlockerlaw18.LocalParses': WHATEVER THE INPUT: true; the input reads as it did. -/
def localParsesSpec : ChangeSpec := { name := "localParses", fn := fun _ => fun
  | [d] => { results := [.lit (.bool true)], args := [d] }
  | _ => none }
def localParsesRow : OpenClaim := { program := "ytdbaglogmdkbpaadoor", sum := "581f5291d47aa726cbd3facd63833b2647fac6c9bb0cb135d0bf536d8f9ac5e3", func := "footlocker/footlockerlaw18.LocalParses", spec := "localParses", inPlace := ["internal/bytealg.IndexByteString", "internal/bytealg.IndexString"], unfollowed := true, recurses := true, named := ["footlocker/stamp.days", "unicode/utf8.first", "unicode/utf8.acceptRanges", "internal/bytealg.MaxLen"], apart := false, laid := [("footlocker/stamp.days", laid_footlocker_stamp_days), ("unicode/utf8.acceptRanges", laid_unicode_utf8_acceptRanges), ("unicode/utf8.first", laid_unicode_utf8_first)] }
def LocalParsesSaid : Prop := localParsesRow.holds Tryd.pinned (OpenSpec.ofChange localParsesSpec)

/-- ITS FALSE NEIGHBOUR: 'it returns false'. Refute it at one input. -/
def localParsesWrong : ChangeSpec := { name := "localParses", fn := fun _ => fun
  | [d] => { results := [.lit (.bool false)], args := [d] }
  | _ => none }
def LocalParsesWrongFalsely : Prop := localParsesRow.holds Tryd.pinned (OpenSpec.ofChange localParsesWrong)

/-- 'footlockerlaw18.LocalBack': WHATEVER THE INPUT: true; the input reads as it did. -/
def localBackSpec : ChangeSpec := { name := "localBack", fn := fun _ => fun
  | [d1, d2, d3, d4] => { results := [.lit (.bool true)], args := [d1, d2, d3, d4] }
  | _ => none }
def localBackRow : OpenClaim := { program := "ytdbaglogmdkbpaadoor", sum := "581f5291d47aa726cbd3facd63833b2647fac6c9bb0cb135d0bf536d8f9ac5e3", func := "footlocker/footlockerlaw18.LocalBack", spec := "localBack", inPlace := ["internal/bytealg.IndexByteString", "internal/bytealg.IndexString"], unfollowed := true, recurses := true, named := ["footlocker/stamp.days", "unicode/utf8.first", "unicode/utf8.acceptRanges", "internal/bytealg.MaxLen"], apart := false, laid := [("footlocker/stamp.days", laid_footlocker_stamp_days), ("unicode/utf8.acceptRanges", laid_unicode_utf8_acceptRanges), ("unicode/utf8.first", laid_unicode_utf8_first)] }
def LocalBackSaid : Prop := localBackRow.holds Tryd.pinned (OpenSpec.ofChange localBackSpec)

/-- ITS FALSE NEIGHBOUR: 'it returns false'. Refute it at one input. -/
def localBackWrong : ChangeSpec := { name := "localBack", fn := fun _ => fun
  | [d1, d2, d3, d4] => { results := [.lit (.bool false)], args := [d1, d2, d3, d4] }
  | _ => none }
def LocalBackWrongFalsely : Prop := localBackRow.holds Tryd.pinned (OpenSpec.ofChange localBackWrong)

/-- 'footlockerlaw18.LocalRows': WHATEVER THE INPUT: true; the input reads as it did. -/
def localRowsSpec : ChangeSpec := { name := "localRows", fn := fun _ => fun
  | [d1, d2] => { results := [.lit (.bool true)], args := [d1, d2] }
  | _ => none }
def localRowsRow : OpenClaim := { program := "ytdbaglogmdkbpaadoor", sum := "581f5291d47aa726cbd3facd63833b2647fac6c9bb0cb135d0bf536d8f9ac5e3", func := "footlocker/footlockerlaw18.LocalRows", spec := "localRows", inPlace := ["internal/bytealg.IndexByteString", "internal/bytealg.IndexString"], unfollowed := true, recurses := true, named := ["footlocker/stamp.days", "unicode/utf8.first", "unicode/utf8.acceptRanges", "internal/bytealg.MaxLen"], apart := false, laid := [("footlocker/stamp.days", laid_footlocker_stamp_days), ("unicode/utf8.acceptRanges", laid_unicode_utf8_acceptRanges), ("unicode/utf8.first", laid_unicode_utf8_first)] }
def LocalRowsSaid : Prop := localRowsRow.holds Tryd.pinned (OpenSpec.ofChange localRowsSpec)

/-- ITS FALSE NEIGHBOUR: 'it returns false'. Refute it at one input. -/
def localRowsWrong : ChangeSpec := { name := "localRows", fn := fun _ => fun
  | [d1, d2] => { results := [.lit (.bool false)], args := [d1, d2] }
  | _ => none }
def LocalRowsWrongFalsely : Prop := localRowsRow.holds Tryd.pinned (OpenSpec.ofChange localRowsWrong)

/-- 'footlockerlaw18.LocalSizes': WHATEVER THE INPUT: true; the input reads as it did. -/
def localSizesSpec : ChangeSpec := { name := "localSizes", fn := fun _ => fun
  | [d1, d2, d3, d4] => { results := [.lit (.bool true)], args := [d1, d2, d3, d4] }
  | _ => none }
def localSizesRow : OpenClaim := { program := "ytdbaglogmdkbpaadoor", sum := "581f5291d47aa726cbd3facd63833b2647fac6c9bb0cb135d0bf536d8f9ac5e3", func := "footlocker/footlockerlaw18.LocalSizes", spec := "localSizes", inPlace := ["internal/bytealg.IndexByteString", "internal/bytealg.IndexString"], unfollowed := true, recurses := true, named := ["footlocker/stamp.days", "unicode/utf8.first", "unicode/utf8.acceptRanges", "internal/bytealg.MaxLen"], apart := false, laid := [("footlocker/stamp.days", laid_footlocker_stamp_days), ("unicode/utf8.acceptRanges", laid_unicode_utf8_acceptRanges), ("unicode/utf8.first", laid_unicode_utf8_first)] }
def LocalSizesSaid : Prop := localSizesRow.holds Tryd.pinned (OpenSpec.ofChange localSizesSpec)

/-- ITS FALSE NEIGHBOUR: 'it returns false'. Refute it at one input. -/
def localSizesWrong : ChangeSpec := { name := "localSizes", fn := fun _ => fun
  | [d1, d2, d3, d4] => { results := [.lit (.bool false)], args := [d1, d2, d3, d4] }
  | _ => none }
def LocalSizesWrongFalsely : Prop := localSizesRow.holds Tryd.pinned (OpenSpec.ofChange localSizesWrong)

/- THE SECOND FORM. 'bulk': how many values and letters a reading holds, each counted each time it is reached (what is shared counts as often as it is met; a slice's spare places count too). A statement '..UptoSaid' is the law's where the arguments, and the package variables that the reading takes, are together of bulk at most 1048576: NARROWER than '..Said'. Prove '..Said' where nothing that the law and all that it calls make is longer than what came in: it says more and counts as full. Else prove '..UptoSaid'. A law counts once. -/
mutual
def uptoBulk {H : Type} : DataW H → Nat
  | .lit (.string bytes) => bytes.length + 1
  | .lit _ => 1
  | .nil => 1
  | .ptr d => uptoBulk d + 1
  | .slice elems spare => uptoBulkAll elems + uptoBulkAll spare + 1
  | .agg parts => uptoBulkAll parts + 1
  | .iface _ d => uptoBulk d + 1
  | .map entries => uptoBulkEntries entries + 1
  | .held _ => 1
def uptoBulkAll {H : Type} : List (DataW H) → Nat
  | [] => 0
  | d :: r => uptoBulk d + uptoBulkAll r
def uptoBulkEntries {H : Type} : List (Lit × DataW H) → Nat
  | [] => 0
  | x :: r => uptoBulkEntry x + uptoBulkEntries r
def uptoBulkEntry {H : Type} : Lit × DataW H → Nat
  | (.string bytes, d) => bytes.length + uptoBulk d + 1
  | (_, d) => uptoBulk d + 1
 end
def uptoSmall : (H : Type) → List (DataW H) → Bool := fun _ ds => decide (uptoBulkAll ds ≤ 1048576)
def OpenSpec.upto (s : _root_.Go.ChangeSpec) : _root_.Go.OpenSpec := { _root_.Go.OpenSpec.ofChange s with cond := some uptoSmall }

/-- 'footlockerlaw18.LocalWrites', WHERE WHAT IT READS IS OF BULK AT MOST 1048576: true; the input reads as it did. -/
def localWritesUptoRow : OpenClaim := { program := "ytdbaglogmdkbpaadoor", sum := "581f5291d47aa726cbd3facd63833b2647fac6c9bb0cb135d0bf536d8f9ac5e3", func := "footlocker/footlockerlaw18.LocalWrites", spec := "localWrites", inPlace := ["internal/bytealg.IndexByteString", "internal/bytealg.IndexString"], unfollowed := true, recurses := true, named := ["footlocker/stamp.days", "unicode/utf8.first", "unicode/utf8.acceptRanges", "internal/bytealg.MaxLen"], apart := false, laid := [("footlocker/stamp.days", laid_footlocker_stamp_days), ("unicode/utf8.acceptRanges", laid_unicode_utf8_acceptRanges), ("unicode/utf8.first", laid_unicode_utf8_first)], narrowed := true }
def LocalWritesUptoSaid : Prop := localWritesUptoRow.holds Tryd.pinned (OpenSpec.upto localWritesSpec)

/-- 'footlockerlaw18.LocalParses', WHERE WHAT IT READS IS OF BULK AT MOST 1048576: true; the input reads as it did. -/
def localParsesUptoRow : OpenClaim := { program := "ytdbaglogmdkbpaadoor", sum := "581f5291d47aa726cbd3facd63833b2647fac6c9bb0cb135d0bf536d8f9ac5e3", func := "footlocker/footlockerlaw18.LocalParses", spec := "localParses", inPlace := ["internal/bytealg.IndexByteString", "internal/bytealg.IndexString"], unfollowed := true, recurses := true, named := ["footlocker/stamp.days", "unicode/utf8.first", "unicode/utf8.acceptRanges", "internal/bytealg.MaxLen"], apart := false, laid := [("footlocker/stamp.days", laid_footlocker_stamp_days), ("unicode/utf8.acceptRanges", laid_unicode_utf8_acceptRanges), ("unicode/utf8.first", laid_unicode_utf8_first)], narrowed := true }
def LocalParsesUptoSaid : Prop := localParsesUptoRow.holds Tryd.pinned (OpenSpec.upto localParsesSpec)

/-- 'footlockerlaw18.LocalBack', WHERE WHAT IT READS IS OF BULK AT MOST 1048576: true; the input reads as it did. -/
def localBackUptoRow : OpenClaim := { program := "ytdbaglogmdkbpaadoor", sum := "581f5291d47aa726cbd3facd63833b2647fac6c9bb0cb135d0bf536d8f9ac5e3", func := "footlocker/footlockerlaw18.LocalBack", spec := "localBack", inPlace := ["internal/bytealg.IndexByteString", "internal/bytealg.IndexString"], unfollowed := true, recurses := true, named := ["footlocker/stamp.days", "unicode/utf8.first", "unicode/utf8.acceptRanges", "internal/bytealg.MaxLen"], apart := false, laid := [("footlocker/stamp.days", laid_footlocker_stamp_days), ("unicode/utf8.acceptRanges", laid_unicode_utf8_acceptRanges), ("unicode/utf8.first", laid_unicode_utf8_first)], narrowed := true }
def LocalBackUptoSaid : Prop := localBackUptoRow.holds Tryd.pinned (OpenSpec.upto localBackSpec)

/-- 'footlockerlaw18.LocalRows', WHERE WHAT IT READS IS OF BULK AT MOST 1048576: true; the input reads as it did. -/
def localRowsUptoRow : OpenClaim := { program := "ytdbaglogmdkbpaadoor", sum := "581f5291d47aa726cbd3facd63833b2647fac6c9bb0cb135d0bf536d8f9ac5e3", func := "footlocker/footlockerlaw18.LocalRows", spec := "localRows", inPlace := ["internal/bytealg.IndexByteString", "internal/bytealg.IndexString"], unfollowed := true, recurses := true, named := ["footlocker/stamp.days", "unicode/utf8.first", "unicode/utf8.acceptRanges", "internal/bytealg.MaxLen"], apart := false, laid := [("footlocker/stamp.days", laid_footlocker_stamp_days), ("unicode/utf8.acceptRanges", laid_unicode_utf8_acceptRanges), ("unicode/utf8.first", laid_unicode_utf8_first)], narrowed := true }
def LocalRowsUptoSaid : Prop := localRowsUptoRow.holds Tryd.pinned (OpenSpec.upto localRowsSpec)

/-- 'footlockerlaw18.LocalSizes', WHERE WHAT IT READS IS OF BULK AT MOST 1048576: true; the input reads as it did. -/
def localSizesUptoRow : OpenClaim := { program := "ytdbaglogmdkbpaadoor", sum := "581f5291d47aa726cbd3facd63833b2647fac6c9bb0cb135d0bf536d8f9ac5e3", func := "footlocker/footlockerlaw18.LocalSizes", spec := "localSizes", inPlace := ["internal/bytealg.IndexByteString", "internal/bytealg.IndexString"], unfollowed := true, recurses := true, named := ["footlocker/stamp.days", "unicode/utf8.first", "unicode/utf8.acceptRanges", "internal/bytealg.MaxLen"], apart := false, laid := [("footlocker/stamp.days", laid_footlocker_stamp_days), ("unicode/utf8.acceptRanges", laid_unicode_utf8_acceptRanges), ("unicode/utf8.first", laid_unicode_utf8_first)], narrowed := true }
def LocalSizesUptoSaid : Prop := localSizesUptoRow.holds Tryd.pinned (OpenSpec.upto localSizesSpec)

end Rows
end Go.Proofs.YtdbaglogmdkbpaaDoor
