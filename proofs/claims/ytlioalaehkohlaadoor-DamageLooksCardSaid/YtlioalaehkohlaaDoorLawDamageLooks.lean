/- The row of the law DamageLooks: the program's law function answers true for every input. Conditions: none beyond the row's own. -/
import Derived.Test.YtlioalaehkohlaaDoorRows
import Derived.Test.YtlioalaehkohlaaDoorGA
import Derived.Test.YtlioalaehkohlaaDoorTb
import Derived.Test.YtlioalaehkohlaaDoorTie
import Derived.Test.YtlioalaehkohlaaDoorCards
import Derived.WalkKit
import Derived.ProofKit
import Derived.OpenShut
import Derived.ShutString
import Derived.ChangeOld
import Derived.Below
import Derived.SizedLaws
import Derived.Handed
import Derived.LaidLaws
import Derived.Carry
namespace Go.Proofs.YtlioalaehkohlaaDoor.damageLooks
open Go Go.ChangeShapes Go.WideShapes Go.ChangeAt Go.RowKit
open Go.ChangeMaps (open_string shut_string)
open Go.Proofs.YtlioalaehkohlaaDoor.Vm (VRv KWf)
set_option linter.unusedVariables false
set_option maxRecDepth 100000
set_option maxHeartbeats 4000000
theorem own : ownKnob Go.Proofs.Tryd.prog.godebug = none := by kernel_rfl
theorem laidOut : laidOutB Go.Proofs.Tryd.prog = true := by kernel_rfl
theorem lifted (os : Os) (started : os.Started) (H : Type) (enc : TypeId × Value → H) :
    ReturnsInHanded {} Go.Proofs.Tryd.checked os 3 .any (fun w args => (Rows.damageLooksSpec.pre enc Go.Proofs.Tryd.prog Go.Proofs.Tryd.f3 Rows.damageLooksRow.domain false w args ∧ laidMetH Go.Proofs.Tryd.prog Rows.damageLooksRow.laid w) ∧ sizedMet enc Go.Proofs.Tryd.prog Go.Proofs.Tryd.f3 (OpenSpec.ofChange Rows.damageLooksSpec) false w args) (Rows.damageLooksSpec.post enc Go.Proofs.Tryd.prog Go.Proofs.Tryd.f3 false true false false) := by
  refine returnsInHanded_of_change_and (C := Go.Proofs.Tryd.checked) (X := fun w _ => laidMetH Go.Proofs.Tryd.prog Rows.damageLooksRow.laid w) (fun _ _ _ hh h => h.of_heap hh) own started (by kernel_rfl) Go.Proofs.Tryd.func3
    (ChangeSpec.witness_shaped (enc := enc) (C := Go.Proofs.Tryd.checked) (os := os) (X := fun w _ => laidMetH Go.Proofs.Tryd.prog Rows.damageLooksRow.laid w) false (World.laidAll Go.Proofs.Tryd.prog os Rows.damageLooksRow.laid) #[.slice none 0 0, .agg #[.int .i64 0, .int .i64 0, .int .i64 0, .int .i64 0], .slice none 0 0, .slice none 0 0] 8 (World.laidAll_os _ _ _) (World.shaped_of_ZipB (by kernel_rfl) (by kernel_rfl)) (by kernel_rfl) (by kernel_rfl) (by kernel_rfl)
      (by rw [MakeChecks.laidMetH_plain _ _ _ (by kernel_rfl)]; exact laidMet_laidAll _ (by kernel_rfl) (by kernel_rfl))) ?_
  intro W base args ds gs before hval0 hW hcnd hsz0 hL _
  have hval : ∀ (j : Nat) t v, Go.Proofs.Tryd.f3.params[j]? = some t → args[j]? = some v → Value.okWide Go.Proofs.Tryd.prog W .any base t v := hval0
  have hW' := hW
  obtain ⟨p, q, hA0, hV, rfl, hfz, hnd⟩ := hW
  have hA : DataW.TrodAll enc Go.Proofs.Tryd.prog W 0 (fun _ => true) true Go.Proofs.Tryd.f3.params.toList args.toList ds p := hA0
  rw [Go.Proofs.Tryd.params3] at hA hval
  obtain ⟨v0, vs0, d0, ds0, p0, q0, hargs, rfl, rfl, h0, r0⟩ := trodAll_cons hA
  obtain ⟨v1, vs1, d1, ds1, p1, q1, rfl, rfl, rfl, h1, r1⟩ := trodAll_cons r0
  obtain ⟨v2, vs2, d2, ds2, p2, q2, rfl, rfl, rfl, h2, r2⟩ := trodAll_cons r1
  obtain ⟨v3, vs3, d3, ds3, p3, q3, rfl, rfl, rfl, h3, r3⟩ := trodAll_cons r2
  obtain ⟨rfl, rfl, rfl⟩ := trodAll_nil r3
  obtain rfl : args = #[v0, v1, v2, v3] := by cases args; simp_all
  obtain ⟨rfl, rfl⟩ := trodVars_none hV
  obtain ⟨a0, len0, cap0, rfl⟩ := okWide_slice Go.Proofs.Tryd.underlying22 (hval 0 22 v0 rfl rfl)
  have lt0 : ∀ x ∈ p0, x.block < W.heap.size := by obtain ⟨m, hm⟩ := h0; exact DataW.trod_lt m _ _ _ hm
  obtain ⟨z0, y0, f0⟩ : ∃ z : ((.list (.pair .bool (.pair (.list (.int .u8)) .unit))) : Vm.Ki).den, VRv W (fun b => b < W.heap.size) (.list (.pair .bool (.pair (.list (.int .u8)) .unit))) z _ ∧ KWf (.list (.pair .bool (.pair (.list (.int .u8)) .unit))) z := by obtain ⟨fuel, hf⟩ := h0; exact Vm.opens Vm.hTy (k := (.list (.pair .bool (.pair (.list (.int .u8)) .unit)))) (t := 22) rfl hf (fun h => by cases h) (fun _ => rfl)
  obtain ⟨a1, rfl, hz1⟩ := okWide_struct Go.Proofs.Tryd.underlying24 (hval 1 24 v1 rfl rfl)
  have lt1 : ∀ x ∈ p1, x.block < W.heap.size := by obtain ⟨m, hm⟩ := h1; exact DataW.trod_lt m _ _ _ hm
  obtain ⟨z1, y1, f1⟩ : ∃ z : ((.pair (.int .i64) (.pair (.int .i64) (.pair (.int .i64) (.pair (.int .i64) .unit)))) : Vm.Ki).den, VRv W (fun b => b < W.heap.size) (.pair (.int .i64) (.pair (.int .i64) (.pair (.int .i64) (.pair (.int .i64) .unit)))) z _ ∧ KWf (.pair (.int .i64) (.pair (.int .i64) (.pair (.int .i64) (.pair (.int .i64) .unit)))) z := by obtain ⟨fuel, hf⟩ := h1; exact Vm.opens Vm.hTy (k := (.pair (.int .i64) (.pair (.int .i64) (.pair (.int .i64) (.pair (.int .i64) .unit))))) (t := 24) rfl hf (fun _ => ⟨_, rfl⟩) (fun h => by cases h)
  obtain ⟨a2, len2, cap2, rfl⟩ := okWide_slice Go.Proofs.Tryd.underlying25 (hval 2 25 v2 rfl rfl)
  have lt2 : ∀ x ∈ p2, x.block < W.heap.size := by obtain ⟨m, hm⟩ := h2; exact DataW.trod_lt m _ _ _ hm
  obtain ⟨z2, y2, f2⟩ : ∃ z : ((.list (.list (.int .u32))) : Vm.Ki).den, VRv W (fun b => b < W.heap.size) (.list (.list (.int .u32))) z _ ∧ KWf (.list (.list (.int .u32))) z := by obtain ⟨fuel, hf⟩ := h2; exact Vm.opens Vm.hTy (k := (.list (.list (.int .u32)))) (t := 25) rfl hf (fun h => by cases h) (fun _ => rfl)
  obtain ⟨a3, len3, cap3, rfl⟩ := okWide_slice Go.Proofs.Tryd.underlying26 (hval 3 26 v3 rfl rfl)
  have lt3 : ∀ x ∈ p3, x.block < W.heap.size := by obtain ⟨m, hm⟩ := h3; exact DataW.trod_lt m _ _ _ hm
  obtain ⟨z3, y3, f3⟩ : ∃ z : ((.list (.list .bool)) : Vm.Ki).den, VRv W (fun b => b < W.heap.size) (.list (.list .bool)) z _ ∧ KWf (.list (.list .bool)) z := by obtain ⟨fuel, hf⟩ := h3; exact Vm.opens Vm.hTy (k := (.list (.list .bool))) (t := 26) rfl hf (fun h => by cases h) (fun _ => rfl)
  obtain ⟨n, hp⟩ : ∃ n, Vm.law25_DamageLooks.f n (z0, z1, z2, z3, ()) = some (true, ()) := Vm.pure_DamageLooks z0 z1 z2 z3 f0 f1 f2 f3
  refine (Vm.law_calls (Vm.law25_DamageLooks.sat n) (ks := [(.list (.pair .bool (.pair (.list (.int .u8)) .unit))), (.pair (.int .i64) (.pair (.int .i64) (.pair (.int .i64) (.pair (.int .i64) .unit)))), (.list (.list (.int .u32))), (.list (.list .bool))]) rfl (Vm.laidTabs hL) (x := (z0, z1, z2, z3, ())) ⟨_, _, rfl, y0, ⟨_, _, rfl, y1, ⟨_, _, rfl, y2, ⟨_, _, rfl, y3, rfl⟩⟩⟩⟩ (t := 8) rfl rfl hp rfl).mono fun e W' ⟨he, bel⟩ => ?_
  subst he
  exact ⟨_, rfl, _, _, _, [], _, [], hW', trodAll_mk1 (shut_bool Go.Proofs.Tryd.underlying4 _), (trodAll_cons_mk (Below.trod laidOut (by kernel_rfl) (of_decide_eq_true (by kernel_rfl)) h0 bel lt0) (trodAll_cons_mk (Below.trod laidOut (by kernel_rfl) (of_decide_eq_true (by kernel_rfl)) h1 bel lt1) (trodAll_cons_mk (Below.trod laidOut (by kernel_rfl) (of_decide_eq_true (by kernel_rfl)) h2 bel lt2) (trodAll_cons_mk (Below.trod laidOut (by kernel_rfl) (of_decide_eq_true (by kernel_rfl)) h3 bel lt3) trodAll_mk0)))), rfl, bel.frame _, fun h => by cases h⟩
theorem over : Rows.damageLooksRow.holds Tryd.pinned (OpenSpec.ofChange Rows.damageLooksSpec) :=
  OpenClaim.holds_of_wide 3 Go.Proofs.Tryd.f3 rfl rfl rfl rfl rfl rfl rfl ⟨rfl, rfl, rfl, rfl, rfl⟩ rfl rfl rfl rfl rfl (by kernel_rfl) Go.Proofs.Tryd.func3 (by kernel_rfl)
    (of_decide_eq_true (by kernel_rfl)) (by unfold Func.isWrapper; first | (rw [if_pos (by decide +kernel)]; kernel_rfl) | (rw [if_neg (by decide +kernel)]; exact ⟨rfl, rfl⟩))
    (fun os started H enc _ => lifted os started H enc)
theorem proved : Rows.DamageLooksSaid := over
theorem card : Rows.DamageLooksCardSaid :=
  Claim7.holds_tied_plain_at .later [] [.data] true (true, "3168b2bd0c65127cd78653ec5364784def68f8a98436a95ae218b0019dadf862") false proved (fun _ h => by cases h) (by kernel_rfl) (fun _ h => by cases h) damageLooks_row_tie rfl ⟨rfl, rfl⟩ (by kernel_rfl) rfl
    (fun f fn hf hfn => by
      obtain rfl : f = 3 := Option.some.inj ((show Go.Proofs.Tryd.prog.funcNamed "footlocker/footlockerlaw25.DamageLooks" = some 3 by kernel_rfl).symm.trans hf) |>.symm
      obtain rfl : fn = Go.Proofs.Tryd.f3 := (Option.some.inj (Go.Proofs.Tryd.func3.symm.trans hfn)).symm
      exact ⟨by kernel_rfl, fun j t ht => by
        rw [Go.Proofs.Tryd.params3] at ht
        have hm : t ∈ [22, 24, 25, 26] := by have := Array.mem_of_getElem? ht; simpa using this
        have hall : ([22, 24, 25, 26].all fun u => !Go.Proofs.Tryd.prog.wantsStandIn u) = true := by kernel_rfl
        exact (show Go.Proofs.Tryd.prog.wantsStandIn t = false by simpa using List.all_eq_true.1 hall t hm)⟩)
    (by kernel_rfl)
#print axioms card
end Go.Proofs.YtlioalaehkohlaaDoor.damageLooks
namespace Go.Proofs.YtlioalaehkohlaaDoor
/-- The row, under a short name, for the claim. -/
theorem damageLooks_holds : Rows.DamageLooksCardSaid := damageLooks.card
end Go.Proofs.YtlioalaehkohlaaDoor
