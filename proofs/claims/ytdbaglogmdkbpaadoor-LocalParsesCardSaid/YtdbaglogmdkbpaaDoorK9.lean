/- Layer 18: the laws, over what the arguments read as. Conditions: as each theorem states them. -/
import Derived.Test.YtdbaglogmdkbpaaDoorK8
namespace Go.Proofs.YtdbaglogmdkbpaaDoor.Vm
open Go Go.RowKit
set_option linter.unusedVariables false
set_option linter.unusedSimpArgs false
set_option maxRecDepth 100000
theorem wf_of {k : IntKind} {x : Int} (h : (Lit.int k x).wf = true) : k.min ≤ x ∧ x ≤ k.max := by
  have h' : (decide (k.min ≤ x) && decide (x ≤ k.max)) = true := h
  rw [Bool.and_eq_true] at h'
  exact ⟨of_decide_eq_true h'.1, of_decide_eq_true h'.2⟩
theorem wf_u8 {x : Int} (h : (Lit.int .u8 x).wf = true) : 0 ≤ x ∧ x < 256 := by
  obtain ⟨h1, h2⟩ := wf_of h
  have e1 : IntKind.min .u8 = 0 := rfl
  have e2 : IntKind.max .u8 = 255 := rfl
  omega
theorem wf_u32 {x : Int} (h : (Lit.int .u32 x).wf = true) : 0 ≤ x ∧ x < 4294967296 := by
  obtain ⟨h1, h2⟩ := wf_of h
  have e1 : IntKind.min .u32 = 0 := rfl
  have e2 : IntKind.max .u32 = 4294967295 := rfl
  omega
theorem wf_u64 {x : Int} (h : (Lit.int .u64 x).wf = true) : 0 ≤ x ∧ x < 18446744073709551616 := by
  obtain ⟨h1, h2⟩ := wf_of h
  have e1 : IntKind.min .u64 = 0 := rfl
  have e2 : IntKind.max .u64 = 18446744073709551615 := rfl
  omega
theorem by_of {l : List Int} (h : KWf (.list (.int .u8)) l) : By l := fun x hx => wf_u8 (h.2 x hx)
theorem hd_of {h : Hdr} (hh : KWf HK h) : HdOk h := ⟨wf_u32 hh.2.2.1, wf_u64 hh.2.2.2.1, wf_u64 hh.2.2.2.2.1⟩
theorem pure_LocalBack (z0 : HK.den) (z1 z2 : (Ki.list (.int .u8)).den) (z3 : (Ki.int .i64).den) (f0 : KWf HK z0) (f1 : KWf (.list (.int .u8)) z1) (f2 : KWf (.list (.int .u8)) z2) (f3 : KWf (.int .i64) z3) : law18_LocalBack.f 1000 (z0, z1, z2, z3, ()) = some (true, ()) :=
  localBack z0 (hd_of f0) z1 z2 z3 (by_of f1) (by_of f2)
theorem pure_LocalRows (z0 z1 : HK.den) (f0 : KWf HK z0) (f1 : KWf HK z1) : law18_LocalRows.f 1000 (z0, z1, ()) = some (true, ()) :=
  localRows z0 z1 (hd_of f0) (hd_of f1)
theorem pure_LocalSizes (z0 : HK.den) (z1 z2 : (Ki.int .u64).den) (z3 : (Ki.int .u32).den) (f0 : KWf HK z0) (f1 : KWf (.int .u64) z1) (f2 : KWf (.int .u64) z2) (f3 : KWf (.int .u32) z3) : law18_LocalSizes.f 1000 (z0, z1, z2, z3, ()) = some (true, ()) :=
  localSizes z0 (hd_of f0) z1 z2 z3 (wf_u64 f1) (wf_u64 f2) (wf_u32 f3)
end Go.Proofs.YtdbaglogmdkbpaaDoor.Vm
