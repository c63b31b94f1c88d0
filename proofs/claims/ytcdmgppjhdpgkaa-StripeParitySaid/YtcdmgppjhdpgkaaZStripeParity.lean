/- The statement's row: for every input that it lets in the call returns true, and turns nothing that came in. Conditions: those of the row alone. Written by a program. -/
import Derived.Test.YtcdmgppjhdpgkaaRows
import Derived.Test.YtcdmgppjhdpgkaaZStripeParityD
import Derived.Below
import Derived.WalkKit
import Derived.ProofKit
import Derived.OpenShut
import Derived.ShutString
import Derived.ChangeOld
import Derived.SizedLaws
namespace Go.Proofs.Ytcdmgppjhdpgkaa.stripeParity
open Go.ChangeShapes Go.WideShapes Go.ChangeAt Go.RowKit
open Go.ChangeMaps (open_string shut_string)
set_option linter.unusedVariables false
theorem own : ownKnob Try.prog.godebug = none := by kernel_rfl
theorem laidOut : laidOutB Try.prog = true := by kernel_rfl
set_option maxRecDepth 100000 in
theorem lifted (os : Os) (started : os.Started) (H : Type) (enc : TypeId × Value → H) :
 ReturnsInHanded {} Try.checked os 4 .any (Rows.stripeParitySpec.pre6 enc Try.prog Try.f4 Rows.stripeParityRow.domain false) (Rows.stripeParitySpec.post enc Try.prog Try.f4 false true false false) := by
 refine returnsInHanded_of_change_sized (C := Try.checked) own started (by kernel_rfl) Try.func4
  (ChangeSpec.witness6 (enc := enc) (C := Try.checked) false ⟨#[], #[.slice none 0 0, .int .i64 0], []⟩ 8 (by kernel_rfl) (by kernel_rfl) (by kernel_rfl) (by kernel_rfl)) ?_
 intro W base args ds gs before hval0 hW hcnd hsz0 _
 have hval : ∀ (j : Nat) t v, Try.f4.params[j]? = some t → args[j]? = some v → Value.okWide Try.prog W .any base t v := hval0
 have hW' := hW
 obtain ⟨p, q, hA0, hV, rfl, hfz, hnd⟩ := hW
 have hA : DataW.TrodAll enc Try.prog W 0 (fun _ => true) true Try.f4.params.toList args.toList ds p := hA0
 rw [Try.params4] at hA hval
 obtain ⟨v0, vs0, d0, ds0, p0, q0, hargs, rfl, rfl, h0, r0⟩ := trodAll_cons hA
 obtain ⟨v1, vs1, d1, ds1, p1, q1, rfl, rfl, rfl, h1, r1⟩ := trodAll_cons r0
 obtain ⟨rfl, rfl, rfl⟩ := trodAll_nil r1
 obtain rfl : args = #[v0, v1] := by cases args; simp_all
 obtain ⟨rfl, rfl⟩ := trodVars_none hV
 obtain ⟨a0, len0, cap0, rfl⟩ := okWide_slice Try.underlying40 (hval 0 40 v0 rfl rfl)
 have k0 := h0
 have lt0 : ∀ x ∈ p0, x.block < W.heap.size := by obtain ⟨m, hm⟩ := k0; exact DataW.trod_lt m _ _ _ hm
 obtain ⟨z0, hK0, wf0⟩ : ∃ z, (Go.Proofs.YtcdmgppjhdpgkaaW.PrintWords.Kd.slice 22 (Go.Proofs.YtcdmgppjhdpgkaaW.PrintWords.Kd.slice 5 (Go.Proofs.YtcdmgppjhdpgkaaW.PrintWords.Kd.int .u8))).K W z (Value.cells (.slice a0 len0 cap0)).toList ∧ (z.length ≤ maxLen ∧ ∀ x1_ ∈ z, x1_.length ≤ maxLen ∧ ∀ x3_ ∈ x1_, (Lit.int .u8 x3_).wf = true) := by
  obtain ⟨fuel, hf⟩ := h0
  exact (Q.opens_slice Try.underlying40 (by kernel_rfl) (by decide) (Q.opens_slice Try.underlying22 (by kernel_rfl) (by decide) (Q.opens_int Try.underlying5))) _ _ _ _ _ hf
 obtain ⟨rfl, hc0, hr0⟩ := Q.slice_arg hK0
 obtain ⟨a1, rfl, rfl, rfl, w1⟩ := open_int Try.underlying3 (hval 1 3 v1 rfl rfl) h1
 clear hA0 hval0 hsz0
 refine (P.footlockerlaw23_StripeParity.walk Pure.StripeParity a0 cap0 z0 a1 W hr0 hc0 wf0 w1).mono fun e W' ⟨he, bel⟩ => ?_
 subst he
 exact ⟨_, rfl, _, _, _, [], _, [], hW', trodAll_mk1 (shut_bool Try.underlying4 _), (trodAll_cons_mk (Below.trod laidOut (by kernel_rfl) (of_decide_eq_true (by kernel_rfl)) k0 bel lt0) (trodAll_cons_mk (shut_int Try.underlying3 w1) trodAll_mk0)), rfl, bel.frame _, fun h => by cases h⟩
theorem over : Rows.stripeParityRow.holds Try.pinned (OpenSpec.ofChange Rows.stripeParitySpec) :=
 OpenClaim.holds_of_wide 4 Try.f4 rfl rfl rfl rfl rfl rfl rfl ⟨rfl, rfl, rfl, rfl, rfl⟩ rfl rfl rfl rfl rfl (by kernel_rfl) Try.func4 (by kernel_rfl)
  (of_decide_eq_true (by kernel_rfl)) (by unfold Func.isWrapper; first | (rw [if_pos (by decide +kernel)]; kernel_rfl) | (rw [if_neg (by decide +kernel)]; exact ⟨rfl, rfl⟩))
  (fun os started H enc _ => lifted os started H enc)
theorem proved : Rows.StripeParitySaid := over
#print axioms proved
end Go.Proofs.Ytcdmgppjhdpgkaa.stripeParity
namespace Go.Proofs.Ytcdmgppjhdpgkaa
theorem stripeParity_holds : Rows.StripeParitySaid := stripeParity.proved
end Go.Proofs.Ytcdmgppjhdpgkaa
