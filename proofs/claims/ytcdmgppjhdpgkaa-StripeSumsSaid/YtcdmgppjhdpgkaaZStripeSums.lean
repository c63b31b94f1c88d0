/- The statement's row: for every input that it lets in the call returns true, and turns nothing that came in. Conditions: those of the row alone. Written by a program. -/
import Derived.Test.YtcdmgppjhdpgkaaRows
import Derived.Test.YtcdmgppjhdpgkaaZStripeSumsE
import Derived.Below
import Derived.WalkKit
import Derived.ProofKit
import Derived.OpenShut
import Derived.ShutString
import Derived.ChangeOld
import Derived.SizedLaws
namespace Go.Proofs.Ytcdmgppjhdpgkaa.stripeSums
open Go.ChangeShapes Go.WideShapes Go.ChangeAt Go.RowKit
open Go.ChangeMaps (open_string shut_string)
set_option linter.unusedVariables false
theorem own : ownKnob Try.prog.godebug = none := by kernel_rfl
theorem laidOut : laidOutB Try.prog = true := by kernel_rfl
set_option maxRecDepth 100000 in
theorem lifted (os : Os) (started : os.Started) (H : Type) (enc : TypeId × Value → H) :
 ReturnsInHanded {} Try.checked os 5 .any (Rows.stripeSumsSpec.pre6 enc Try.prog Try.f5 Rows.stripeSumsRow.domain false) (Rows.stripeSumsSpec.post enc Try.prog Try.f5 false true false false) := by
 refine returnsInHanded_of_change_sized (C := Try.checked) own started (by kernel_rfl) Try.func5
  (ChangeSpec.witness6 (enc := enc) (C := Try.checked) false ⟨#[], #[.slice none 0 0, .slice none 0 0, .int .i64 0], []⟩ 8 (by kernel_rfl) (by kernel_rfl) (by kernel_rfl) (by kernel_rfl)) ?_
 intro W base args ds gs before hval0 hW hcnd hsz0 _
 have hval : ∀ (j : Nat) t v, Try.f5.params[j]? = some t → args[j]? = some v → Value.okWide Try.prog W .any base t v := hval0
 have hW' := hW
 obtain ⟨p, q, hA0, hV, rfl, hfz, hnd⟩ := hW
 have hA : DataW.TrodAll enc Try.prog W 0 (fun _ => true) true Try.f5.params.toList args.toList ds p := hA0
 rw [Try.params5] at hA hval
 obtain ⟨v0, vs0, d0, ds0, p0, q0, hargs, rfl, rfl, h0, r0⟩ := trodAll_cons hA
 obtain ⟨v1, vs1, d1, ds1, p1, q1, rfl, rfl, rfl, h1, r1⟩ := trodAll_cons r0
 obtain ⟨v2, vs2, d2, ds2, p2, q2, rfl, rfl, rfl, h2, r2⟩ := trodAll_cons r1
 obtain ⟨rfl, rfl, rfl⟩ := trodAll_nil r2
 obtain rfl : args = #[v0, v1, v2] := by cases args; simp_all
 obtain ⟨rfl, rfl⟩ := trodVars_none hV
 obtain ⟨a0, len0, cap0, rfl⟩ := okWide_slice Try.underlying40 (hval 0 40 v0 rfl rfl)
 have k0 := h0
 have lt0 : ∀ x ∈ p0, x.block < W.heap.size := by obtain ⟨m, hm⟩ := k0; exact DataW.trod_lt m _ _ _ hm
 obtain ⟨z0, hK0, wf0⟩ : ∃ z, (Go.Proofs.YtcdmgppjhdpgkaaW.PrintWords.Kd.slice 22 (Go.Proofs.YtcdmgppjhdpgkaaW.PrintWords.Kd.slice 5 (Go.Proofs.YtcdmgppjhdpgkaaW.PrintWords.Kd.int .u8))).K W z (Value.cells (.slice a0 len0 cap0)).toList ∧ (z.length ≤ maxLen ∧ ∀ x1_ ∈ z, x1_.length ≤ maxLen ∧ ∀ x3_ ∈ x1_, (Lit.int .u8 x3_).wf = true) := by
  obtain ⟨fuel, hf⟩ := h0
  exact (Q.opens_slice Try.underlying40 (by kernel_rfl) (by decide) (Q.opens_slice Try.underlying22 (by kernel_rfl) (by decide) (Q.opens_int Try.underlying5))) _ _ _ _ _ hf
 obtain ⟨rfl, hc0, hr0⟩ := Q.slice_arg hK0
 obtain ⟨a1, len1, cap1, rfl⟩ := okWide_slice Try.underlying40 (hval 1 40 v1 rfl rfl)
 have k1 := h1
 have lt1 : ∀ x ∈ p1, x.block < W.heap.size := by obtain ⟨m, hm⟩ := k1; exact DataW.trod_lt m _ _ _ hm
 obtain ⟨z1, hK1, wf1⟩ : ∃ z, (Go.Proofs.YtcdmgppjhdpgkaaW.PrintWords.Kd.slice 22 (Go.Proofs.YtcdmgppjhdpgkaaW.PrintWords.Kd.slice 5 (Go.Proofs.YtcdmgppjhdpgkaaW.PrintWords.Kd.int .u8))).K W z (Value.cells (.slice a1 len1 cap1)).toList ∧ (z.length ≤ maxLen ∧ ∀ x1_ ∈ z, x1_.length ≤ maxLen ∧ ∀ x3_ ∈ x1_, (Lit.int .u8 x3_).wf = true) := by
  obtain ⟨fuel, hf⟩ := h1
  exact (Q.opens_slice Try.underlying40 (by kernel_rfl) (by decide) (Q.opens_slice Try.underlying22 (by kernel_rfl) (by decide) (Q.opens_int Try.underlying5))) _ _ _ _ _ hf
 obtain ⟨rfl, hc1, hr1⟩ := Q.slice_arg hK1
 obtain ⟨a2, rfl, rfl, rfl, w2⟩ := open_int Try.underlying3 (hval 2 3 v2 rfl rfl) h2
 clear hA0 hval0 hsz0
 refine (P.footlockerlaw23_StripeSums.walk Pure.StripeSums a0 cap0 z0 a1 cap1 z1 a2 W hr0 hc0 wf0 hr1 hc1 wf1 w2).mono fun e W' ⟨he, bel⟩ => ?_
 subst he
 exact ⟨_, rfl, _, _, _, [], _, [], hW', trodAll_mk1 (shut_bool Try.underlying4 _), (trodAll_cons_mk (Below.trod laidOut (by kernel_rfl) (of_decide_eq_true (by kernel_rfl)) k0 bel lt0) (trodAll_cons_mk (Below.trod laidOut (by kernel_rfl) (of_decide_eq_true (by kernel_rfl)) k1 bel lt1) (trodAll_cons_mk (shut_int Try.underlying3 w2) trodAll_mk0))), rfl, bel.frame _, fun h => by cases h⟩
theorem over : Rows.stripeSumsRow.holds Try.pinned (OpenSpec.ofChange Rows.stripeSumsSpec) :=
 OpenClaim.holds_of_wide 5 Try.f5 rfl rfl rfl rfl rfl rfl rfl ⟨rfl, rfl, rfl, rfl, rfl⟩ rfl rfl rfl rfl rfl (by kernel_rfl) Try.func5 (by kernel_rfl)
  (of_decide_eq_true (by kernel_rfl)) (by unfold Func.isWrapper; first | (rw [if_pos (by decide +kernel)]; kernel_rfl) | (rw [if_neg (by decide +kernel)]; exact ⟨rfl, rfl⟩))
  (fun os started H enc _ => lifted os started H enc)
theorem proved : Rows.StripeSumsSaid := over
#print axioms proved
end Go.Proofs.Ytcdmgppjhdpgkaa.stripeSums
namespace Go.Proofs.Ytcdmgppjhdpgkaa
theorem stripeSums_holds : Rows.StripeSumsSaid := stripeSums.proved
end Go.Proofs.Ytcdmgppjhdpgkaa
