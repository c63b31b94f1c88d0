/- What the rows' tables hold, as the machine wants it. Written by a program. -/
import Derived.Test.YtlioalaehkohlaaDoorRows
import Derived.Test.YtlioalaehkohlaaDoorVL
import Derived.Test.YtlioalaehkohlaaDoorVH
import Derived.Test.YtlioalaehkohlaaDoorXt
import Derived.Lay
import Derived.SevenTiedAt
import Derived.Stop.Joined
namespace Go.Proofs.YtlioalaehkohlaaDoor.Vm
open Go Go.ChangeShapes Go.WideShapes Go.ChangeAt Go.RowKit
set_option linter.unusedVariables false
set_option maxRecDepth 100000
theorem laidTabs {W : World} (h : laidMetH Go.Proofs.Tryd.prog [("footlocker/crc.nibbles", Rows.laid_footlocker_crc_nibbles)] W) : TabsAt gl W := by
  rw [MakeChecks.laidMetH_plain _ _ _ (by kernel_rfl)] at h
  obtain ⟨ps, r, _, _⟩ := h
  obtain ⟨g0, t0, c0, f0, p0, q0, hg0, ht0, hv0, hd0, r0, _⟩ := r
  have k0 := tab_ints (ik := .u32) (g := 0) (t := 127) (e := 70) (l := tab0) (by kernel_rfl) (by kernel_rfl) Go.Proofs.Tryd.underlying127 Go.Proofs.Tryd.underlying70 (by kernel_rfl) (by decide) (by decide) (by rfl) hg0 ht0 hv0 hd0
  intro g v hv
  unfold gl at hv
  rw [look] at hv
  split at hv
  · rename_i hb; have := Nat.eq_of_beq_eq_true hb; subst this; cases hv; exact k0
  cases hv
end Go.Proofs.YtlioalaehkohlaaDoor.Vm
