/-
  NARROWER THAN 'FOR EVERY INPUT', by the rows' own cells (each row's printed sentence says how): CentralWrites: laid · CentralParses: laid · CentralBack: laid · CentralSizes: laid · CentralRows: laid.
  DERIVED. THE GIVEN ROWS OF THIS SEAT. 5 by the template 'for every input the law returns true; each argument reads behind the call as it read before'; 0 by the template 'total and deterministic' (their statements: YtcnegcjjeakmmaaDoorTotals.lean).
  GIVEN WITH THE SEED: the statements are not yours to turn. If you find one false, say at which input.
  Laid BY PROGRAM, IN A SANDBOX (cutbox-rows.mjs): the forced cells as the released guide's own fill.sh prints them over the translation 3c1b4f3e4e5922a0… (all of the seat's roots in one cut). By AI agents, Wed Nov 11 2026. No macro, syntax, notation, axiom, sorry.
-/
import Derived.Test.YtcnegcjjeakmmaaDoorChecked
import GoSem.PinnedTables
import GoSem.Claim
import GoSem.ClaimJoined
import GoSem.ClaimMapViews
import Derived.JoinedTies
import Derived.KernelRfl
namespace Go.Proofs.YtcnegcjjeakmmaaDoor
/- THE CELL 'sum', in the pinned program and in every row, IS THE sha256 OF THE DUMP (.gsa) THAT YtcnegcjjeakmmaaDoorProg.lean LOADS. Nothing in Lean hashes anything: it is a label: what it is worth is what the hold of that sum in a sandbox is worth. -/
noncomputable def Tryd.pinned : Pinned := { name := "ytcnegcjjeakmmaadoor", sum := "3c1b4f3e4e5922a0a39fbadfd7bbdedc0fd3030d1b37886487de9f4b3b147dac", checked := Tryd.checked }
namespace Rows
def none {H : Type} : Left H := { results := [], args := [] }

/- WHAT THE LISTED PACKAGE-LEVEL VARIABLES READ AS WHEN THE CALL BEGINS. Each datum BY PROGRAM (the guide's laid-datum.mjs) off the statement by which the dump's own 'gosem.cut.vars' lays the variable. In a bare row this is a premise. The card (YtcnegcjjeakmmaaDoorCards.lean) ties it to the program's text. -/
def laid_footlocker_stamp_days {H : Type} : DataW H := .agg [.lit (.int .i64 0), .lit (.int .i64 31), .lit (.int .i64 28), .lit (.int .i64 31), .lit (.int .i64 30), .lit (.int .i64 31), .lit (.int .i64 30), .lit (.int .i64 31), .lit (.int .i64 31), .lit (.int .i64 30), .lit (.int .i64 31), .lit (.int .i64 30), .lit (.int .i64 31)]
def laid_unicode_utf8_acceptRanges {H : Type} : DataW H := .agg [.agg [.lit (.int .u8 128), .lit (.int .u8 191)], .agg [.lit (.int .u8 160), .lit (.int .u8 191)], .agg [.lit (.int .u8 128), .lit (.int .u8 159)], .agg [.lit (.int .u8 144), .lit (.int .u8 191)], .agg [.lit (.int .u8 128), .lit (.int .u8 143)], .agg [.lit (.int .u8 0), .lit (.int .u8 0)], .agg [.lit (.int .u8 0), .lit (.int .u8 0)], .agg [.lit (.int .u8 0), .lit (.int .u8 0)], .agg [.lit (.int .u8 0), .lit (.int .u8 0)], .agg [.lit (.int .u8 0), .lit (.int .u8 0)], .agg [.lit (.int .u8 0), .lit (.int .u8 0)], .agg [.lit (.int .u8 0), .lit (.int .u8 0)], .agg [.lit (.int .u8 0), .lit (.int .u8 0)], .agg [.lit (.int .u8 0), .lit (.int .u8 0)], .agg [.lit (.int .u8 0), .lit (.int .u8 0)], .agg [.lit (.int .u8 0), .lit (.int .u8 0)]]
/-- One of Go's own tables, pinned by name: the form's constant. -/
def laid_unicode_utf8_first : DataW Unit := Go.Pinned.utf8First

/-- 'footlockerlaw19.CentralWrites': WHATEVER THE INPUT: true; the input reads as it did. -/
def centralWritesSpec : ChangeSpec := { name := "centralWrites", fn := fun _ => fun
  | [d] => { results := [.lit (.bool true)], args := [d] }
  | _ => none }
def centralWritesRow : OpenClaim := { program := "ytcnegcjjeakmmaadoor", sum := "3c1b4f3e4e5922a0a39fbadfd7bbdedc0fd3030d1b37886487de9f4b3b147dac", func := "footlocker/footlockerlaw19.CentralWrites", spec := "centralWrites", inPlace := ["internal/bytealg.IndexByteString", "internal/bytealg.IndexString"], unfollowed := true, recurses := true, named := ["footlocker/stamp.days", "unicode/utf8.first", "unicode/utf8.acceptRanges", "internal/bytealg.MaxLen"], apart := false, laid := [("footlocker/stamp.days", laid_footlocker_stamp_days), ("unicode/utf8.acceptRanges", laid_unicode_utf8_acceptRanges), ("unicode/utf8.first", laid_unicode_utf8_first)] }
def CentralWritesSaid : Prop := centralWritesRow.holds Tryd.pinned (OpenSpec.ofChange centralWritesSpec)

/-- ITS FALSE NEIGHBOUR: 'it returns false'. Refute it at one input. -/
def centralWritesWrong : ChangeSpec := { name := "centralWrites", fn := fun _ => fun
  | [d] => { results := [.lit (.bool false)], args := [d] }
  | _ => none }
def CentralWritesWrongFalsely : Prop := centralWritesRow.holds Tryd.pinned (OpenSpec.ofChange centralWritesWrong)

/-- 'footlockerlaw19.CentralParses': WHATEVER THE INPUT: true; the input reads as it did. -/
def centralParsesSpec : ChangeSpec := { name := "centralParses", fn := fun _ => fun
  | [d] => { results := [.lit (.bool true)], args := [d] }
  | _ => none }
def centralParsesRow : OpenClaim := { program := "ytcnegcjjeakmmaadoor", sum := "3c1b4f3e4e5922a0a39fbadfd7bbdedc0fd3030d1b37886487de9f4b3b147dac", func := "footlocker/footlockerlaw19.CentralParses", spec := "centralParses", inPlace := ["internal/bytealg.IndexByteString", "internal/bytealg.IndexString"], unfollowed := true, recurses := true, named := ["footlocker/stamp.days", "unicode/utf8.first", "unicode/utf8.acceptRanges", "internal/bytealg.MaxLen"], apart := false, laid := [("footlocker/stamp.days", laid_footlocker_stamp_days), ("unicode/utf8.acceptRanges", laid_unicode_utf8_acceptRanges), ("unicode/utf8.first", laid_unicode_utf8_first)] }
def CentralParsesSaid : Prop := centralParsesRow.holds Tryd.pinned (OpenSpec.ofChange centralParsesSpec)

/-- ITS FALSE NEIGHBOUR: 'it returns false'. Refute it at one input. -/
def centralParsesWrong : ChangeSpec := { name := "centralParses", fn := fun _ => fun
  | [d] => { results := [.lit (.bool false)], args := [d] }
  | _ => none }
def CentralParsesWrongFalsely : Prop := centralParsesRow.holds Tryd.pinned (OpenSpec.ofChange centralParsesWrong)

/-- 'footlockerlaw19.CentralBack': WHATEVER THE INPUT: true; the input reads as it did. -/
def centralBackSpec : ChangeSpec := { name := "centralBack", fn := fun _ => fun
  | [d1, d2, d3, d4] => { results := [.lit (.bool true)], args := [d1, d2, d3, d4] }
  | _ => none }
def centralBackRow : OpenClaim := { program := "ytcnegcjjeakmmaadoor", sum := "3c1b4f3e4e5922a0a39fbadfd7bbdedc0fd3030d1b37886487de9f4b3b147dac", func := "footlocker/footlockerlaw19.CentralBack", spec := "centralBack", inPlace := ["internal/bytealg.IndexByteString", "internal/bytealg.IndexString"], unfollowed := true, recurses := true, named := ["footlocker/stamp.days", "unicode/utf8.first", "unicode/utf8.acceptRanges", "internal/bytealg.MaxLen"], apart := false, laid := [("footlocker/stamp.days", laid_footlocker_stamp_days), ("unicode/utf8.acceptRanges", laid_unicode_utf8_acceptRanges), ("unicode/utf8.first", laid_unicode_utf8_first)] }
def CentralBackSaid : Prop := centralBackRow.holds Tryd.pinned (OpenSpec.ofChange centralBackSpec)

/-- ITS FALSE NEIGHBOUR: 'it returns false'. Refute it at one input. -/
def centralBackWrong : ChangeSpec := { name := "centralBack", fn := fun _ => fun
  | [d1, d2, d3, d4] => { results := [.lit (.bool false)], args := [d1, d2, d3, d4] }
  | _ => none }
def CentralBackWrongFalsely : Prop := centralBackRow.holds Tryd.pinned (OpenSpec.ofChange centralBackWrong)

/-- 'footlockerlaw19.CentralSizes': WHATEVER THE INPUT: true; the input reads as it did. -/
def centralSizesSpec : ChangeSpec := { name := "centralSizes", fn := fun _ => fun
  | [d] => { results := [.lit (.bool true)], args := [d] }
  | _ => none }
def centralSizesRow : OpenClaim := { program := "ytcnegcjjeakmmaadoor", sum := "3c1b4f3e4e5922a0a39fbadfd7bbdedc0fd3030d1b37886487de9f4b3b147dac", func := "footlocker/footlockerlaw19.CentralSizes", spec := "centralSizes", inPlace := ["internal/bytealg.IndexByteString", "internal/bytealg.IndexString"], unfollowed := true, recurses := true, named := ["footlocker/stamp.days", "unicode/utf8.first", "unicode/utf8.acceptRanges", "internal/bytealg.MaxLen"], apart := false, laid := [("footlocker/stamp.days", laid_footlocker_stamp_days), ("unicode/utf8.acceptRanges", laid_unicode_utf8_acceptRanges), ("unicode/utf8.first", laid_unicode_utf8_first)] }
def CentralSizesSaid : Prop := centralSizesRow.holds Tryd.pinned (OpenSpec.ofChange centralSizesSpec)

/-- ITS FALSE NEIGHBOUR: 'it returns false'. Refute it at one input. -/
def centralSizesWrong : ChangeSpec := { name := "centralSizes", fn := fun _ => fun
  | [d] => { results := [.lit (.bool false)], args := [d] }
  | _ => none }
def CentralSizesWrongFalsely : Prop := centralSizesRow.holds Tryd.pinned (OpenSpec.ofChange centralSizesWrong)

/-- 'footlockerlaw19.CentralRows': WHATEVER THE INPUT: true; the input reads as it did. -/
def centralRowsSpec : ChangeSpec := { name := "centralRows", fn := fun _ => fun
  | [d1, d2] => { results := [.lit (.bool true)], args := [d1, d2] }
  | _ => none }
def centralRowsRow : OpenClaim := { program := "ytcnegcjjeakmmaadoor", sum := "3c1b4f3e4e5922a0a39fbadfd7bbdedc0fd3030d1b37886487de9f4b3b147dac", func := "footlocker/footlockerlaw19.CentralRows", spec := "centralRows", inPlace := ["internal/bytealg.IndexByteString", "internal/bytealg.IndexString"], unfollowed := true, recurses := true, named := ["footlocker/stamp.days", "unicode/utf8.first", "unicode/utf8.acceptRanges", "internal/bytealg.MaxLen"], apart := false, laid := [("footlocker/stamp.days", laid_footlocker_stamp_days), ("unicode/utf8.acceptRanges", laid_unicode_utf8_acceptRanges), ("unicode/utf8.first", laid_unicode_utf8_first)] }
def CentralRowsSaid : Prop := centralRowsRow.holds Tryd.pinned (OpenSpec.ofChange centralRowsSpec)

/-- ITS FALSE NEIGHBOUR: 'it returns false'. Refute it at one input. -/
def centralRowsWrong : ChangeSpec := { name := "centralRows", fn := fun _ => fun
  | [d1, d2] => { results := [.lit (.bool false)], args := [d1, d2] }
  | _ => none }
def CentralRowsWrongFalsely : Prop := centralRowsRow.holds Tryd.pinned (OpenSpec.ofChange centralRowsWrong)

/- THE SECOND FORM. 'bulk': how many values and letters a reading holds, each counted each time it is reached (what is shared counts as often as it is met; a slice's spare places count too). A statement '..UptoSaid' is the law's where the arguments, and the package variables that the reading takes, are together of bulk at most 1048576: NARROWER than '..Said'. Prove '..Said' where nothing that the law and all that it calls make is longer than what came in: it says more and counts as full. Else prove '..UptoSaid'. A law counts once. -/
mutual
def uptoBulk {H : Type} : DataW H → Nat
  | .lit (.string bytes) => bytes.length + 1
  | .lit _ => 1
  | .nil => 1
  | .ptr d => uptoBulk d + 1
  | .slice elems spare => uptoBulkAll elems + uptoBulkAll spare + 1
  | .agg parts => uptoBulkAll parts + 1
  | .iface _ d => uptoBulk d + 1
  | .map entries => uptoBulkEntries entries + 1
  | .held _ => 1
def uptoBulkAll {H : Type} : List (DataW H) → Nat
  | [] => 0
  | d :: r => uptoBulk d + uptoBulkAll r
def uptoBulkEntries {H : Type} : List (Lit × DataW H) → Nat
  | [] => 0
  | x :: r => uptoBulkEntry x + uptoBulkEntries r
def uptoBulkEntry {H : Type} : Lit × DataW H → Nat
  | (.string bytes, d) => bytes.length + uptoBulk d + 1
  | (_, d) => uptoBulk d + 1
 end
def uptoSmall : (H : Type) → List (DataW H) → Bool := fun _ ds => decide (uptoBulkAll ds ≤ 1048576)
def OpenSpec.upto (s : _root_.Go.ChangeSpec) : _root_.Go.OpenSpec := { _root_.Go.OpenSpec.ofChange s with cond := some uptoSmall }

/-- 'footlockerlaw19.CentralWrites', WHERE WHAT IT READS IS OF BULK AT MOST 1048576: true; the input reads as it did. -/
def centralWritesUptoRow : OpenClaim := { program := "ytcnegcjjeakmmaadoor", sum := "3c1b4f3e4e5922a0a39fbadfd7bbdedc0fd3030d1b37886487de9f4b3b147dac", func := "footlocker/footlockerlaw19.CentralWrites", spec := "centralWrites", inPlace := ["internal/bytealg.IndexByteString", "internal/bytealg.IndexString"], unfollowed := true, recurses := true, named := ["footlocker/stamp.days", "unicode/utf8.first", "unicode/utf8.acceptRanges", "internal/bytealg.MaxLen"], apart := false, laid := [("footlocker/stamp.days", laid_footlocker_stamp_days), ("unicode/utf8.acceptRanges", laid_unicode_utf8_acceptRanges), ("unicode/utf8.first", laid_unicode_utf8_first)], narrowed := true }
def CentralWritesUptoSaid : Prop := centralWritesUptoRow.holds Tryd.pinned (OpenSpec.upto centralWritesSpec)

/-- 'footlockerlaw19.CentralParses', WHERE WHAT IT READS IS OF BULK AT MOST 1048576: true; the input reads as it did. -/
def centralParsesUptoRow : OpenClaim := { program := "ytcnegcjjeakmmaadoor", sum := "3c1b4f3e4e5922a0a39fbadfd7bbdedc0fd3030d1b37886487de9f4b3b147dac", func := "footlocker/footlockerlaw19.CentralParses", spec := "centralParses", inPlace := ["internal/bytealg.IndexByteString", "internal/bytealg.IndexString"], unfollowed := true, recurses := true, named := ["footlocker/stamp.days", "unicode/utf8.first", "unicode/utf8.acceptRanges", "internal/bytealg.MaxLen"], apart := false, laid := [("footlocker/stamp.days", laid_footlocker_stamp_days), ("unicode/utf8.acceptRanges", laid_unicode_utf8_acceptRanges), ("unicode/utf8.first", laid_unicode_utf8_first)], narrowed := true }
def CentralParsesUptoSaid : Prop := centralParsesUptoRow.holds Tryd.pinned (OpenSpec.upto centralParsesSpec)

/-- 'footlockerlaw19.CentralBack', WHERE WHAT IT READS IS OF BULK AT MOST 1048576: true; the input reads as it did. -/
def centralBackUptoRow : OpenClaim := { program := "ytcnegcjjeakmmaadoor", sum := "3c1b4f3e4e5922a0a39fbadfd7bbdedc0fd3030d1b37886487de9f4b3b147dac", func := "footlocker/footlockerlaw19.CentralBack", spec := "centralBack", inPlace := ["internal/bytealg.IndexByteString", "internal/bytealg.IndexString"], unfollowed := true, recurses := true, named := ["footlocker/stamp.days", "unicode/utf8.first", "unicode/utf8.acceptRanges", "internal/bytealg.MaxLen"], apart := false, laid := [("footlocker/stamp.days", laid_footlocker_stamp_days), ("unicode/utf8.acceptRanges", laid_unicode_utf8_acceptRanges), ("unicode/utf8.first", laid_unicode_utf8_first)], narrowed := true }
def CentralBackUptoSaid : Prop := centralBackUptoRow.holds Tryd.pinned (OpenSpec.upto centralBackSpec)

/-- 'footlockerlaw19.CentralSizes', WHERE WHAT IT READS IS OF BULK AT MOST 1048576: true; the input reads as it did. -/
def centralSizesUptoRow : OpenClaim := { program := "ytcnegcjjeakmmaadoor", sum := "3c1b4f3e4e5922a0a39fbadfd7bbdedc0fd3030d1b37886487de9f4b3b147dac", func := "footlocker/footlockerlaw19.CentralSizes", spec := "centralSizes", inPlace := ["internal/bytealg.IndexByteString", "internal/bytealg.IndexString"], unfollowed := true, recurses := true, named := ["footlocker/stamp.days", "unicode/utf8.first", "unicode/utf8.acceptRanges", "internal/bytealg.MaxLen"], apart := false, laid := [("footlocker/stamp.days", laid_footlocker_stamp_days), ("unicode/utf8.acceptRanges", laid_unicode_utf8_acceptRanges), ("unicode/utf8.first", laid_unicode_utf8_first)], narrowed := true }
def CentralSizesUptoSaid : Prop := centralSizesUptoRow.holds Tryd.pinned (OpenSpec.upto centralSizesSpec)

/-- 'footlockerlaw19.CentralRows', WHERE WHAT IT READS IS OF BULK AT MOST 1048576: true; the input reads as it did. -/
def centralRowsUptoRow : OpenClaim := { program := "ytcnegcjjeakmmaadoor", sum := "3c1b4f3e4e5922a0a39fbadfd7bbdedc0fd3030d1b37886487de9f4b3b147dac", func := "footlocker/footlockerlaw19.CentralRows", spec := "centralRows", inPlace := ["internal/bytealg.IndexByteString", "internal/bytealg.IndexString"], unfollowed := true, recurses := true, named := ["footlocker/stamp.days", "unicode/utf8.first", "unicode/utf8.acceptRanges", "internal/bytealg.MaxLen"], apart := false, laid := [("footlocker/stamp.days", laid_footlocker_stamp_days), ("unicode/utf8.acceptRanges", laid_unicode_utf8_acceptRanges), ("unicode/utf8.first", laid_unicode_utf8_first)], narrowed := true }
def CentralRowsUptoSaid : Prop := centralRowsUptoRow.holds Tryd.pinned (OpenSpec.upto centralRowsSpec)

end Rows
end Go.Proofs.YtcnegcjjeakmmaaDoor
