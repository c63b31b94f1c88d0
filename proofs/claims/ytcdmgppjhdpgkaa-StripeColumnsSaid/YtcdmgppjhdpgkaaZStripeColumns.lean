/- The statement's row: for every input that it lets in the call returns true, and turns nothing that came in. Conditions: those of the row alone. Written by a program. -/
import Derived.Test.YtcdmgppjhdpgkaaRows
import Derived.Test.YtcdmgppjhdpgkaaZStripeColumnsD
import Derived.Below
import Derived.WalkKit
import Derived.ProofKit
import Derived.OpenShut
import Derived.ShutString
import Derived.ChangeOld
import Derived.SizedLaws
namespace Go.Proofs.Ytcdmgppjhdpgkaa.stripeColumns
open Go.ChangeShapes Go.WideShapes Go.ChangeAt Go.RowKit
open Go.ChangeMaps (open_string shut_string)
set_option linter.unusedVariables false
theorem own : ownKnob Try.prog.godebug = none := by kernel_rfl
theorem laidOut : laidOutB Try.prog = true := by kernel_rfl
set_option maxRecDepth 100000 in
theorem lifted (os : Os) (started : os.Started) (H : Type) (enc : TypeId × Value → H) :
 ReturnsInHanded {} Try.checked os 3 .any (Rows.stripeColumnsSpec.pre6 enc Try.prog Try.f3 Rows.stripeColumnsRow.domain false) (Rows.stripeColumnsSpec.post enc Try.prog Try.f3 false true false false) := by
 refine returnsInHanded_of_change_sized (C := Try.checked) own started (by kernel_rfl) Try.func3
  (ChangeSpec.witness6 (enc := enc) (C := Try.checked) false ⟨#[], #[.slice none 0 0, .int .i64 0, .slice none 0 0, .agg #[.int .i64 0, .int .i64 0, .int .i64 0, .int .i64 0]], []⟩ 8 (by kernel_rfl) (by kernel_rfl) (by kernel_rfl) (by kernel_rfl)) ?_
 intro W base args ds gs before hval0 hW hcnd hsz0 _
 have hval : ∀ (j : Nat) t v, Try.f3.params[j]? = some t → args[j]? = some v → Value.okWide Try.prog W .any base t v := hval0
 have hW' := hW
 obtain ⟨p, q, hA0, hV, rfl, hfz, hnd⟩ := hW
 have hA : DataW.TrodAll enc Try.prog W 0 (fun _ => true) true Try.f3.params.toList args.toList ds p := hA0
 rw [Try.params3] at hA hval
 obtain ⟨v0, vs0, d0, ds0, p0, q0, hargs, rfl, rfl, h0, r0⟩ := trodAll_cons hA
 obtain ⟨v1, vs1, d1, ds1, p1, q1, rfl, rfl, rfl, h1, r1⟩ := trodAll_cons r0
 obtain ⟨v2, vs2, d2, ds2, p2, q2, rfl, rfl, rfl, h2, r2⟩ := trodAll_cons r1
 obtain ⟨v3, vs3, d3, ds3, p3, q3, rfl, rfl, rfl, h3, r3⟩ := trodAll_cons r2
 obtain ⟨rfl, rfl, rfl⟩ := trodAll_nil r3
 obtain rfl : args = #[v0, v1, v2, v3] := by cases args; simp_all
 obtain ⟨rfl, rfl⟩ := trodVars_none hV
 obtain ⟨a0, len0, cap0, rfl⟩ := okWide_slice Try.underlying22 (hval 0 22 v0 rfl rfl)
 have k0 := h0
 have lt0 : ∀ x ∈ p0, x.block < W.heap.size := by obtain ⟨m, hm⟩ := k0; exact DataW.trod_lt m _ _ _ hm
 obtain ⟨z0, hK0, wf0⟩ : ∃ z, (Go.Proofs.YtcdmgppjhdpgkaaW.PrintWords.Kd.slice 5 (Go.Proofs.YtcdmgppjhdpgkaaW.PrintWords.Kd.int .u8)).K W z (Value.cells (.slice a0 len0 cap0)).toList ∧ (z.length ≤ maxLen ∧ ∀ x1_ ∈ z, (Lit.int .u8 x1_).wf = true) := by
  obtain ⟨fuel, hf⟩ := h0
  exact (Q.opens_slice Try.underlying22 (by kernel_rfl) (by decide) (Q.opens_int Try.underlying5)) _ _ _ _ _ hf
 obtain ⟨rfl, hc0, hr0⟩ := Q.slice_arg hK0
 obtain ⟨a1, rfl, rfl, rfl, w1⟩ := open_int Try.underlying3 (hval 1 3 v1 rfl rfl) h1
 obtain ⟨a2, len2, cap2, rfl⟩ := okWide_slice Try.underlying22 (hval 2 22 v2 rfl rfl)
 have k2 := h2
 have lt2 : ∀ x ∈ p2, x.block < W.heap.size := by obtain ⟨m, hm⟩ := k2; exact DataW.trod_lt m _ _ _ hm
 obtain ⟨z2, hK2, wf2⟩ : ∃ z, (Go.Proofs.YtcdmgppjhdpgkaaW.PrintWords.Kd.slice 5 (Go.Proofs.YtcdmgppjhdpgkaaW.PrintWords.Kd.int .u8)).K W z (Value.cells (.slice a2 len2 cap2)).toList ∧ (z.length ≤ maxLen ∧ ∀ x1_ ∈ z, (Lit.int .u8 x1_).wf = true) := by
  obtain ⟨fuel, hf⟩ := h2
  exact (Q.opens_slice Try.underlying22 (by kernel_rfl) (by decide) (Q.opens_int Try.underlying5)) _ _ _ _ _ hf
 obtain ⟨rfl, hc2, hr2⟩ := Q.slice_arg hK2
 obtain ⟨cs3, rfl, hz3⟩ := okWide_struct Try.underlying24 (hval 3 24 v3 rfl rfl)
 have k3 := h3
 have lt3 : ∀ x ∈ p3, x.block < W.heap.size := by obtain ⟨m, hm⟩ := k3; exact DataW.trod_lt m _ _ _ hm
 obtain ⟨a3_0, a3_1, a3_2, a3_3, rfl, w3⟩ : ∃ a3_0 a3_1 a3_2 a3_3 : Int, cs3 = #[.int .i64 a3_0, .int .i64 a3_1, .int .i64 a3_2, .int .i64 a3_3] ∧ (Lit.int .i64 a3_0).wf = true ∧ (Lit.int .i64 a3_1).wf = true ∧ (Lit.int .i64 a3_2).wf = true ∧ (Lit.int .i64 a3_3).wf = true := by
  obtain ⟨fuel, hf⟩ := h3
  obtain ⟨a, b, c, d, e, wa, wb, wc, wd⟩ := Q.struct_ints4 Try.underlying24 (by kernel_rfl) rfl rfl rfl rfl Try.underlying3 Try.underlying3 Try.underlying3 Try.underlying3 (by kernel_rfl) (by kernel_rfl) (by kernel_rfl) (by kernel_rfl) hf
  refine ⟨a, b, c, d, ?_, wa, wb, wc, wd⟩
  have e2 : cs3.toList = _ := e
  rw [← Array.toArray_toList (xs := cs3), e2]
 clear hA0 hval0 hsz0
 refine (P.footlockerlaw23_StripeColumns.walk Pure.StripeColumns a0 cap0 z0 a1 a2 cap2 z2 a3_0 a3_1 a3_2 a3_3 W hr0 hc0 wf0 w1 hr2 hc2 wf2 w3).mono fun e W' ⟨he, bel⟩ => ?_
 subst he
 exact ⟨_, rfl, _, _, _, [], _, [], hW', trodAll_mk1 (shut_bool Try.underlying4 _), (trodAll_cons_mk (Below.trod laidOut (by kernel_rfl) (of_decide_eq_true (by kernel_rfl)) k0 bel lt0) (trodAll_cons_mk (shut_int Try.underlying3 w1) (trodAll_cons_mk (Below.trod laidOut (by kernel_rfl) (of_decide_eq_true (by kernel_rfl)) k2 bel lt2) (trodAll_cons_mk (Below.trod laidOut (by kernel_rfl) (of_decide_eq_true (by kernel_rfl)) k3 bel lt3) trodAll_mk0)))), rfl, bel.frame _, fun h => by cases h⟩
theorem over : Rows.stripeColumnsRow.holds Try.pinned (OpenSpec.ofChange Rows.stripeColumnsSpec) :=
 OpenClaim.holds_of_wide 3 Try.f3 rfl rfl rfl rfl rfl rfl rfl ⟨rfl, rfl, rfl, rfl, rfl⟩ rfl rfl rfl rfl rfl (by kernel_rfl) Try.func3 (by kernel_rfl)
  (of_decide_eq_true (by kernel_rfl)) (by unfold Func.isWrapper; first | (rw [if_pos (by decide +kernel)]; kernel_rfl) | (rw [if_neg (by decide +kernel)]; exact ⟨rfl, rfl⟩))
  (fun os started H enc _ => lifted os started H enc)
theorem proved : Rows.StripeColumnsSaid := over
#print axioms proved
end Go.Proofs.Ytcdmgppjhdpgkaa.stripeColumns
namespace Go.Proofs.Ytcdmgppjhdpgkaa
theorem stripeColumns_holds : Rows.StripeColumnsSaid := stripeColumns.proved
end Go.Proofs.Ytcdmgppjhdpgkaa
