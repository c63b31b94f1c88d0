/- The row of the law DamageWhole: the program's law function answers true for every input. Conditions: none beyond the row's own. -/
import Derived.Test.YtlioalaehkohlaaDoorRows
import Derived.Test.YtlioalaehkohlaaDoorGB
import Derived.Test.YtlioalaehkohlaaDoorTb
import Derived.Test.YtlioalaehkohlaaDoorTie
import Derived.Test.YtlioalaehkohlaaDoorCards
import Derived.WalkKit
import Derived.ProofKit
import Derived.OpenShut
import Derived.ShutString
import Derived.ChangeOld
import Derived.Below
import Derived.SizedLaws
import Derived.Handed
import Derived.LaidLaws
import Derived.Carry
namespace Go.Proofs.YtlioalaehkohlaaDoor.damageWhole
open Go Go.ChangeShapes Go.WideShapes Go.ChangeAt Go.RowKit
open Go.ChangeMaps (open_string shut_string)
open Go.Proofs.YtlioalaehkohlaaDoor.Vm (VRv KWf)
set_option linter.unusedVariables false
set_option maxRecDepth 100000
set_option maxHeartbeats 4000000
theorem own : ownKnob Go.Proofs.Tryd.prog.godebug = none := by kernel_rfl
theorem laidOut : laidOutB Go.Proofs.Tryd.prog = true := by kernel_rfl
theorem lifted (os : Os) (started : os.Started) (H : Type) (enc : TypeId × Value → H) :
    ReturnsInHanded {} Go.Proofs.Tryd.checked os 5 .any (fun w args => (Rows.damageWholeSpec.pre enc Go.Proofs.Tryd.prog Go.Proofs.Tryd.f5 Rows.damageWholeRow.domain false w args ∧ laidMetH Go.Proofs.Tryd.prog Rows.damageWholeRow.laid w) ∧ sizedMet enc Go.Proofs.Tryd.prog Go.Proofs.Tryd.f5 (OpenSpec.ofChange Rows.damageWholeSpec) false w args) (Rows.damageWholeSpec.post enc Go.Proofs.Tryd.prog Go.Proofs.Tryd.f5 false true false false) := by
  refine returnsInHanded_of_change_and (C := Go.Proofs.Tryd.checked) (X := fun w _ => laidMetH Go.Proofs.Tryd.prog Rows.damageWholeRow.laid w) (fun _ _ _ hh h => h.of_heap hh) own started (by kernel_rfl) Go.Proofs.Tryd.func5
    (ChangeSpec.witness_shaped (enc := enc) (C := Go.Proofs.Tryd.checked) (os := os) (X := fun w _ => laidMetH Go.Proofs.Tryd.prog Rows.damageWholeRow.laid w) false (World.laidAll Go.Proofs.Tryd.prog os Rows.damageWholeRow.laid) #[.slice none 0 0, .int .i64 0, .int .i64 0, .int .i64 0, .slice none 0 0] 8 (World.laidAll_os _ _ _) (World.shaped_of_ZipB (by kernel_rfl) (by kernel_rfl)) (by kernel_rfl) (by kernel_rfl) (by kernel_rfl)
      (by rw [MakeChecks.laidMetH_plain _ _ _ (by kernel_rfl)]; exact laidMet_laidAll _ (by kernel_rfl) (by kernel_rfl))) ?_
  intro W base args ds gs before hval0 hW hcnd hsz0 hL _
  have hval : ∀ (j : Nat) t v, Go.Proofs.Tryd.f5.params[j]? = some t → args[j]? = some v → Value.okWide Go.Proofs.Tryd.prog W .any base t v := hval0
  have hW' := hW
  obtain ⟨p, q, hA0, hV, rfl, hfz, hnd⟩ := hW
  have hA : DataW.TrodAll enc Go.Proofs.Tryd.prog W 0 (fun _ => true) true Go.Proofs.Tryd.f5.params.toList args.toList ds p := hA0
  rw [Go.Proofs.Tryd.params5] at hA hval
  obtain ⟨v0, vs0, d0, ds0, p0, q0, hargs, rfl, rfl, h0, r0⟩ := trodAll_cons hA
  obtain ⟨v1, vs1, d1, ds1, p1, q1, rfl, rfl, rfl, h1, r1⟩ := trodAll_cons r0
  obtain ⟨v2, vs2, d2, ds2, p2, q2, rfl, rfl, rfl, h2, r2⟩ := trodAll_cons r1
  obtain ⟨v3, vs3, d3, ds3, p3, q3, rfl, rfl, rfl, h3, r3⟩ := trodAll_cons r2
  obtain ⟨v4, vs4, d4, ds4, p4, q4, rfl, rfl, rfl, h4, r4⟩ := trodAll_cons r3
  obtain ⟨rfl, rfl, rfl⟩ := trodAll_nil r4
  obtain rfl : args = #[v0, v1, v2, v3, v4] := by cases args; simp_all
  obtain ⟨rfl, rfl⟩ := trodVars_none hV
  obtain ⟨a0, len0, cap0, rfl⟩ := okWide_slice Go.Proofs.Tryd.underlying42 (hval 0 42 v0 rfl rfl)
  have lt0 : ∀ x ∈ p0, x.block < W.heap.size := by obtain ⟨m, hm⟩ := h0; exact DataW.trod_lt m _ _ _ hm
  obtain ⟨z0, y0, f0⟩ : ∃ z : ((.list (.list (.int .u8))) : Vm.Ki).den, VRv W (fun b => b < W.heap.size) (.list (.list (.int .u8))) z _ ∧ KWf (.list (.list (.int .u8))) z := by obtain ⟨fuel, hf⟩ := h0; exact Vm.opens Vm.hTy (k := (.list (.list (.int .u8)))) (t := 42) rfl hf (fun h => by cases h) (fun _ => rfl)
  obtain ⟨a1, rfl⟩ := okWide_int Go.Proofs.Tryd.underlying3 (hval 1 3 v1 rfl rfl)
  have lt1 : ∀ x ∈ p1, x.block < W.heap.size := by obtain ⟨m, hm⟩ := h1; exact DataW.trod_lt m _ _ _ hm
  obtain ⟨z1, y1, f1⟩ : ∃ z : ((.int .i64) : Vm.Ki).den, VRv W (fun b => b < W.heap.size) (.int .i64) z _ ∧ KWf (.int .i64) z := by obtain ⟨fuel, hf⟩ := h1; exact Vm.opens Vm.hTy (k := (.int .i64)) (t := 3) rfl hf (fun h => by cases h) (fun _ => rfl)
  obtain ⟨a2, rfl⟩ := okWide_int Go.Proofs.Tryd.underlying3 (hval 2 3 v2 rfl rfl)
  have lt2 : ∀ x ∈ p2, x.block < W.heap.size := by obtain ⟨m, hm⟩ := h2; exact DataW.trod_lt m _ _ _ hm
  obtain ⟨z2, y2, f2⟩ : ∃ z : ((.int .i64) : Vm.Ki).den, VRv W (fun b => b < W.heap.size) (.int .i64) z _ ∧ KWf (.int .i64) z := by obtain ⟨fuel, hf⟩ := h2; exact Vm.opens Vm.hTy (k := (.int .i64)) (t := 3) rfl hf (fun h => by cases h) (fun _ => rfl)
  obtain ⟨a3, rfl⟩ := okWide_int Go.Proofs.Tryd.underlying3 (hval 3 3 v3 rfl rfl)
  have lt3 : ∀ x ∈ p3, x.block < W.heap.size := by obtain ⟨m, hm⟩ := h3; exact DataW.trod_lt m _ _ _ hm
  obtain ⟨z3, y3, f3⟩ : ∃ z : ((.int .i64) : Vm.Ki).den, VRv W (fun b => b < W.heap.size) (.int .i64) z _ ∧ KWf (.int .i64) z := by obtain ⟨fuel, hf⟩ := h3; exact Vm.opens Vm.hTy (k := (.int .i64)) (t := 3) rfl hf (fun h => by cases h) (fun _ => rfl)
  obtain ⟨a4, len4, cap4, rfl⟩ := okWide_slice Go.Proofs.Tryd.underlying28 (hval 4 28 v4 rfl rfl)
  have lt4 : ∀ x ∈ p4, x.block < W.heap.size := by obtain ⟨m, hm⟩ := h4; exact DataW.trod_lt m _ _ _ hm
  obtain ⟨z4, y4, f4⟩ : ∃ z : ((.list .bool) : Vm.Ki).den, VRv W (fun b => b < W.heap.size) (.list .bool) z _ ∧ KWf (.list .bool) z := by obtain ⟨fuel, hf⟩ := h4; exact Vm.opens Vm.hTy (k := (.list .bool)) (t := 28) rfl hf (fun h => by cases h) (fun _ => rfl)
  obtain ⟨n, hp⟩ : ∃ n, Vm.law25_DamageWhole.f n (z0, z1, z2, z3, z4, ()) = some (true, ()) := Vm.pure_DamageWhole z0 z1 z2 z3 z4 f0 f1 f2 f3 f4
  refine (Vm.law_calls (Vm.law25_DamageWhole.sat n) (ks := [(.list (.list (.int .u8))), (.int .i64), (.int .i64), (.int .i64), (.list .bool)]) rfl (Vm.laidTabs hL) (x := (z0, z1, z2, z3, z4, ())) ⟨_, _, rfl, y0, ⟨_, _, rfl, y1, ⟨_, _, rfl, y2, ⟨_, _, rfl, y3, ⟨_, _, rfl, y4, rfl⟩⟩⟩⟩⟩ (t := 10) rfl rfl hp rfl).mono fun e W' ⟨he, bel⟩ => ?_
  subst he
  exact ⟨_, rfl, _, _, _, [], _, [], hW', trodAll_mk1 (shut_bool Go.Proofs.Tryd.underlying4 _), (trodAll_cons_mk (Below.trod laidOut (by kernel_rfl) (of_decide_eq_true (by kernel_rfl)) h0 bel lt0) (trodAll_cons_mk (Below.trod laidOut (by kernel_rfl) (of_decide_eq_true (by kernel_rfl)) h1 bel lt1) (trodAll_cons_mk (Below.trod laidOut (by kernel_rfl) (of_decide_eq_true (by kernel_rfl)) h2 bel lt2) (trodAll_cons_mk (Below.trod laidOut (by kernel_rfl) (of_decide_eq_true (by kernel_rfl)) h3 bel lt3) (trodAll_cons_mk (Below.trod laidOut (by kernel_rfl) (of_decide_eq_true (by kernel_rfl)) h4 bel lt4) trodAll_mk0))))), rfl, bel.frame _, fun h => by cases h⟩
theorem over : Rows.damageWholeRow.holds Tryd.pinned (OpenSpec.ofChange Rows.damageWholeSpec) :=
  OpenClaim.holds_of_wide 5 Go.Proofs.Tryd.f5 rfl rfl rfl rfl rfl rfl rfl ⟨rfl, rfl, rfl, rfl, rfl⟩ rfl rfl rfl rfl rfl (by kernel_rfl) Go.Proofs.Tryd.func5 (by kernel_rfl)
    (of_decide_eq_true (by kernel_rfl)) (by unfold Func.isWrapper; first | (rw [if_pos (by decide +kernel)]; kernel_rfl) | (rw [if_neg (by decide +kernel)]; exact ⟨rfl, rfl⟩))
    (fun os started H enc _ => lifted os started H enc)
theorem proved : Rows.DamageWholeSaid := over
theorem card : Rows.DamageWholeCardSaid :=
  Claim7.holds_tied_plain_at .later [] [.data] true (true, "3168b2bd0c65127cd78653ec5364784def68f8a98436a95ae218b0019dadf862") false proved (fun _ h => by cases h) (by kernel_rfl) (fun _ h => by cases h) damageWhole_row_tie rfl ⟨rfl, rfl⟩ (by kernel_rfl) rfl
    (fun f fn hf hfn => by
      obtain rfl : f = 5 := Option.some.inj ((show Go.Proofs.Tryd.prog.funcNamed "footlocker/footlockerlaw25.DamageWhole" = some 5 by kernel_rfl).symm.trans hf) |>.symm
      obtain rfl : fn = Go.Proofs.Tryd.f5 := (Option.some.inj (Go.Proofs.Tryd.func5.symm.trans hfn)).symm
      exact ⟨by kernel_rfl, fun j t ht => by
        rw [Go.Proofs.Tryd.params5] at ht
        have hm : t ∈ [42, 3, 3, 3, 28] := by have := Array.mem_of_getElem? ht; simpa using this
        have hall : ([42, 3, 3, 3, 28].all fun u => !Go.Proofs.Tryd.prog.wantsStandIn u) = true := by kernel_rfl
        exact (show Go.Proofs.Tryd.prog.wantsStandIn t = false by simpa using List.all_eq_true.1 hall t hm)⟩)
    (by kernel_rfl)
#print axioms card
end Go.Proofs.YtlioalaehkohlaaDoor.damageWhole
namespace Go.Proofs.YtlioalaehkohlaaDoor
/-- The row, under a short name, for the claim. -/
theorem damageWhole_holds : Rows.DamageWholeCardSaid := damageWhole.card
end Go.Proofs.YtlioalaehkohlaaDoor
