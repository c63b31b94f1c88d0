/- What the rows' tables hold, as the machine wants it. Written by a program. -/
import Derived.Test.YtcnegcjjeakmmaaDoorRows
import Derived.Test.YtcnegcjjeakmmaaDoorVL
import Derived.Test.YtcnegcjjeakmmaaDoorVH
import Derived.Test.YtcnegcjjeakmmaaDoorXt
import Derived.Lay
import Derived.SevenTiedAt
import Derived.Stop.Joined
namespace Go.Proofs.YtcnegcjjeakmmaaDoor.Vm
open Go Go.ChangeShapes Go.WideShapes Go.ChangeAt Go.RowKit
set_option linter.unusedVariables false
set_option maxRecDepth 100000
theorem laidTabs {W : World} (h : laidMetH Go.Proofs.Tryd.prog [("footlocker/stamp.days", Rows.laid_footlocker_stamp_days), ("unicode/utf8.acceptRanges", Rows.laid_unicode_utf8_acceptRanges), ("unicode/utf8.first", Rows.laid_unicode_utf8_first)] W) : TabsAt gl W := by
  rw [MakeChecks.laidMetH_plain _ _ _ (by kernel_rfl)] at h
  obtain ⟨ps, r, _, _⟩ := h
  obtain ⟨g0, t0, c0, f0, p0, q0, hg0, ht0, hv0, hd0, r0, _⟩ := r
  obtain ⟨g1, t1, c1, f1, p1, q1, hg1, ht1, hv1, hd1, r1, _⟩ := r0
  obtain ⟨g2, t2, c2, f2, p2, q2, hg2, ht2, hv2, hd2, r2, _⟩ := r1
  have k0 := tab_ints (ik := .i64) (g := 0) (t := 117) (e := 3) (l := tab0) (by kernel_rfl) (by kernel_rfl) Go.Proofs.Tryd.underlying117 Go.Proofs.Tryd.underlying3 (by kernel_rfl) (by decide) (by decide) (by rfl) hg0 ht0 hv0 hd0
  have k1 := tab_ints (ik := .u8) (g := 1) (t := 122) (e := 5) (l := tab1) (by kernel_rfl) (by kernel_rfl) Go.Proofs.Tryd.underlying122 Go.Proofs.Tryd.underlying5 (by kernel_rfl) (by decide) (by decide) (by rfl) hg2 ht2 hv2 hd2
  have k2 := tab_pairs (ik := .u8) (g := 2) (t := 125) (e := 124) (l := tab2) (by kernel_rfl) (by kernel_rfl) Go.Proofs.Tryd.underlying125 Go.Proofs.Tryd.underlying124 (by kernel_rfl) rfl rfl (by kernel_rfl) (by kernel_rfl) Go.Proofs.Tryd.underlying5 Go.Proofs.Tryd.underlying5 (by decide) (by decide) (by rfl) hg1 ht1 hv1 hd1
  intro g v hv
  unfold gl at hv
  rw [look] at hv
  split at hv
  · rename_i hb; have := Nat.eq_of_beq_eq_true hb; subst this; cases hv; exact k0
  rw [look] at hv
  split at hv
  · rename_i hb; have := Nat.eq_of_beq_eq_true hb; subst this; cases hv; exact k1
  rw [look] at hv
  split at hv
  · rename_i hb; have := Nat.eq_of_beq_eq_true hb; subst this; cases hv; exact k2
  cases hv
end Go.Proofs.YtcnegcjjeakmmaaDoor.Vm
