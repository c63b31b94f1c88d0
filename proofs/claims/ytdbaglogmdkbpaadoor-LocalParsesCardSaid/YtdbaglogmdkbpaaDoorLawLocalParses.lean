/- The row of the law LocalParses: the program's law function answers true for every input. Conditions: none beyond the row's own. -/
import Derived.Test.YtdbaglogmdkbpaaDoorRows
import Derived.Test.YtdbaglogmdkbpaaDoorK17
import Derived.Test.YtdbaglogmdkbpaaDoorTb
import Derived.Test.YtdbaglogmdkbpaaDoorTie
import Derived.Test.YtdbaglogmdkbpaaDoorCards
import Derived.WalkKit
import Derived.ProofKit
import Derived.OpenShut
import Derived.ShutString
import Derived.ChangeOld
import Derived.Below
import Derived.SizedLaws
import Derived.Handed
import Derived.LaidLaws
import Derived.Carry
namespace Go.Proofs.YtdbaglogmdkbpaaDoor.localParses
open Go Go.ChangeShapes Go.WideShapes Go.ChangeAt Go.RowKit
open Go.ChangeMaps (open_string shut_string)
open Go.Proofs.YtdbaglogmdkbpaaDoor.Vm (VRv KWf)
set_option linter.unusedVariables false
set_option maxRecDepth 100000
theorem own : ownKnob Go.Proofs.Tryd.prog.godebug = none := by kernel_rfl
theorem laidOut : laidOutB Go.Proofs.Tryd.prog = true := by kernel_rfl
theorem lifted (os : Os) (started : os.Started) (H : Type) (enc : TypeId × Value → H) :
    ReturnsInHanded {} Go.Proofs.Tryd.checked os 4 .any (fun w args => (Rows.localParsesSpec.pre enc Go.Proofs.Tryd.prog Go.Proofs.Tryd.f4 Rows.localParsesRow.domain false w args ∧ laidMetH Go.Proofs.Tryd.prog Rows.localParsesRow.laid w) ∧ sizedMet enc Go.Proofs.Tryd.prog Go.Proofs.Tryd.f4 (OpenSpec.ofChange Rows.localParsesSpec) false w args) (Rows.localParsesSpec.post enc Go.Proofs.Tryd.prog Go.Proofs.Tryd.f4 false true false false) := by
  refine returnsInHanded_of_change_and (C := Go.Proofs.Tryd.checked) (X := fun w _ => laidMetH Go.Proofs.Tryd.prog Rows.localParsesRow.laid w) (fun _ _ _ hh h => h.of_heap hh) own started (by kernel_rfl) Go.Proofs.Tryd.func4
    (ChangeSpec.witness_shaped (enc := enc) (C := Go.Proofs.Tryd.checked) (os := os) (X := fun w _ => laidMetH Go.Proofs.Tryd.prog Rows.localParsesRow.laid w) false (World.laidAll Go.Proofs.Tryd.prog os Rows.localParsesRow.laid) #[.slice none 0 0] 8 (World.laidAll_os _ _ _) (World.shaped_of_ZipB (by kernel_rfl) (by kernel_rfl)) (by kernel_rfl) (by kernel_rfl) (by kernel_rfl)
      (by rw [MakeChecks.laidMetH_plain _ _ _ (by kernel_rfl)]; exact laidMet_laidAll _ (by kernel_rfl) (by kernel_rfl))) ?_
  intro W base args ds gs before hval0 hW hcnd hsz0 hL _
  have hval : ∀ (j : Nat) t v, Go.Proofs.Tryd.f4.params[j]? = some t → args[j]? = some v → Value.okWide Go.Proofs.Tryd.prog W .any base t v := hval0
  have hW' := hW
  obtain ⟨p, q, hA0, hV, rfl, hfz, hnd⟩ := hW
  have hA : DataW.TrodAll enc Go.Proofs.Tryd.prog W 0 (fun _ => true) true Go.Proofs.Tryd.f4.params.toList args.toList ds p := hA0
  rw [Go.Proofs.Tryd.params4] at hA hval
  obtain ⟨v0, vs0, d0, ds0, p0, q0, hargs, rfl, rfl, h0, r0⟩ := trodAll_cons hA
  obtain ⟨rfl, rfl, rfl⟩ := trodAll_nil r0
  obtain rfl : args = #[v0] := by cases args; simp_all
  obtain ⟨rfl, rfl⟩ := trodVars_none hV
  obtain ⟨a0, len0, cap0, rfl⟩ := okWide_slice Go.Proofs.Tryd.underlying29 (hval 0 29 v0 rfl rfl)
  have lt0 : ∀ x ∈ p0, x.block < W.heap.size := by obtain ⟨m, hm⟩ := h0; exact DataW.trod_lt m _ _ _ hm
  obtain ⟨z0, y0, f0⟩ : ∃ z : ((.list (.int .u8)) : Vm.Ki).den, VRv W (fun b => b < W.heap.size) (.list (.int .u8)) z _ ∧ KWf (.list (.int .u8)) z := by obtain ⟨fuel, hf⟩ := h0; exact Vm.opens Vm.hTy (k := (.list (.int .u8))) (t := 29) rfl hf (fun h => by cases h) (fun _ => rfl)
  have hp : Vm.law18_LocalParses.f 1000 (z0, ()) = some (true, ()) := Vm.pure_LocalParses z0 f0
  refine (Vm.law_calls (Vm.law18_LocalParses.sat 1000) (ks := [(.list (.int .u8))]) rfl (Vm.laidTabs hL) (x := (z0, ())) ⟨_, _, rfl, y0, rfl⟩ (t := 2) rfl rfl hp rfl).mono fun e W' ⟨he, bel⟩ => ?_
  subst he
  exact ⟨_, rfl, _, _, _, [], _, [], hW', trodAll_mk1 (shut_bool Go.Proofs.Tryd.underlying4 _), (trodAll_cons_mk (Below.trod laidOut (by kernel_rfl) (of_decide_eq_true (by kernel_rfl)) h0 bel lt0) trodAll_mk0), rfl, bel.frame _, fun h => by cases h⟩
theorem over : Rows.localParsesRow.holds Tryd.pinned (OpenSpec.ofChange Rows.localParsesSpec) :=
  OpenClaim.holds_of_wide 4 Go.Proofs.Tryd.f4 rfl rfl rfl rfl rfl rfl rfl ⟨rfl, rfl, rfl, rfl, rfl⟩ rfl rfl rfl rfl rfl (by kernel_rfl) Go.Proofs.Tryd.func4 (by kernel_rfl)
    (of_decide_eq_true (by kernel_rfl)) (by unfold Func.isWrapper; first | (rw [if_pos (by decide +kernel)]; kernel_rfl) | (rw [if_neg (by decide +kernel)]; exact ⟨rfl, rfl⟩))
    (fun os started H enc _ => lifted os started H enc)
theorem proved : Rows.LocalParsesSaid := over
theorem card : Rows.LocalParsesCardSaid :=
  Claim7.holds_tied_plain_at .later [] [.data, .data, .pinned] true (true, "540feb068dc41521180dc84cdc05bfc0c5a4b3ca9d5175df0e1598ad6fe75164") false proved (fun _ h => by cases h) (by kernel_rfl) (fun _ h => by cases h) localParses_row_tie rfl ⟨rfl, rfl⟩ (by kernel_rfl) rfl
    (fun f fn hf hfn => by
      obtain rfl : f = 4 := Option.some.inj ((show Go.Proofs.Tryd.prog.funcNamed "footlocker/footlockerlaw18.LocalParses" = some 4 by kernel_rfl).symm.trans hf) |>.symm
      obtain rfl : fn = Go.Proofs.Tryd.f4 := (Option.some.inj (Go.Proofs.Tryd.func4.symm.trans hfn)).symm
      exact ⟨by kernel_rfl, fun j t ht => by
        rw [Go.Proofs.Tryd.params4] at ht
        have hm : t ∈ [29] := by have := Array.mem_of_getElem? ht; simpa using this
        have hall : ([29].all fun u => !Go.Proofs.Tryd.prog.wantsStandIn u) = true := by kernel_rfl
        exact (show Go.Proofs.Tryd.prog.wantsStandIn t = false by simpa using List.all_eq_true.1 hall t hm)⟩)
    (by kernel_rfl)
#print axioms card
end Go.Proofs.YtdbaglogmdkbpaaDoor.localParses
namespace Go.Proofs.YtdbaglogmdkbpaaDoor
/-- The row, under a short name, for the claim. -/
theorem localParses_holds : Rows.LocalParsesCardSaid := localParses.card
end Go.Proofs.YtdbaglogmdkbpaaDoor
