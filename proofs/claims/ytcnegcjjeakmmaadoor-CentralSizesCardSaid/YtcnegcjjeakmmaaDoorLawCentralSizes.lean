/- The row of the law CentralSizes: the program's law function answers true for every input. Conditions: none beyond the row's own. -/
import Derived.Test.YtcnegcjjeakmmaaDoorRows
import Derived.Test.YtcnegcjjeakmmaaDoorGE
import Derived.Test.YtcnegcjjeakmmaaDoorTb
import Derived.Test.YtcnegcjjeakmmaaDoorTie
import Derived.Test.YtcnegcjjeakmmaaDoorCards
import Derived.WalkKit
import Derived.ProofKit
import Derived.OpenShut
import Derived.ShutString
import Derived.ChangeOld
import Derived.Below
import Derived.SizedLaws
import Derived.Handed
import Derived.LaidLaws
import Derived.Carry
namespace Go.Proofs.YtcnegcjjeakmmaaDoor.centralSizes
open Go Go.ChangeShapes Go.WideShapes Go.ChangeAt Go.RowKit
open Go.ChangeMaps (open_string shut_string)
open Go.Proofs.YtcnegcjjeakmmaaDoor.Vm (VRv KWf)
set_option linter.unusedVariables false
set_option maxRecDepth 100000
theorem own : ownKnob Go.Proofs.Tryd.prog.godebug = none := by kernel_rfl
theorem laidOut : laidOutB Go.Proofs.Tryd.prog = true := by kernel_rfl
theorem lifted (os : Os) (started : os.Started) (H : Type) (enc : TypeId × Value → H) :
    ReturnsInHanded {} Go.Proofs.Tryd.checked os 6 .any (fun w args => (Rows.centralSizesSpec.pre enc Go.Proofs.Tryd.prog Go.Proofs.Tryd.f6 Rows.centralSizesRow.domain false w args ∧ laidMetH Go.Proofs.Tryd.prog Rows.centralSizesRow.laid w) ∧ sizedMet enc Go.Proofs.Tryd.prog Go.Proofs.Tryd.f6 (OpenSpec.ofChange Rows.centralSizesSpec) false w args) (Rows.centralSizesSpec.post enc Go.Proofs.Tryd.prog Go.Proofs.Tryd.f6 false true false false) := by
  refine returnsInHanded_of_change_and (C := Go.Proofs.Tryd.checked) (X := fun w _ => laidMetH Go.Proofs.Tryd.prog Rows.centralSizesRow.laid w) (fun _ _ _ hh h => h.of_heap hh) own started (by kernel_rfl) Go.Proofs.Tryd.func6
    (ChangeSpec.witness_shaped (enc := enc) (C := Go.Proofs.Tryd.checked) (os := os) (X := fun w _ => laidMetH Go.Proofs.Tryd.prog Rows.centralSizesRow.laid w) false (World.laidAll Go.Proofs.Tryd.prog os Rows.centralSizesRow.laid) #[.agg #[.int .i64 0, .int .i64 0, .int .i64 0, .int .i64 0, .int .i64 0, .int .i64 0, .int .i64 0, .int .u32 0, .int .u64 0, .int .u64 0, .string ByteArray.empty, .int .u32 0, .int .u64 0]] 8 (World.laidAll_os _ _ _) (World.shaped_of_ZipB (by kernel_rfl) (by kernel_rfl)) (by kernel_rfl) (by kernel_rfl) (by kernel_rfl)
      (by rw [MakeChecks.laidMetH_plain _ _ _ (by kernel_rfl)]; exact laidMet_laidAll _ (by kernel_rfl) (by kernel_rfl))) ?_
  intro W base args ds gs before hval0 hW hcnd hsz0 hL _
  have hval : ∀ (j : Nat) t v, Go.Proofs.Tryd.f6.params[j]? = some t → args[j]? = some v → Value.okWide Go.Proofs.Tryd.prog W .any base t v := hval0
  have hW' := hW
  obtain ⟨p, q, hA0, hV, rfl, hfz, hnd⟩ := hW
  have hA : DataW.TrodAll enc Go.Proofs.Tryd.prog W 0 (fun _ => true) true Go.Proofs.Tryd.f6.params.toList args.toList ds p := hA0
  rw [Go.Proofs.Tryd.params6] at hA hval
  obtain ⟨v0, vs0, d0, ds0, p0, q0, hargs, rfl, rfl, h0, r0⟩ := trodAll_cons hA
  obtain ⟨rfl, rfl, rfl⟩ := trodAll_nil r0
  obtain rfl : args = #[v0] := by cases args; simp_all
  obtain ⟨rfl, rfl⟩ := trodVars_none hV
  obtain ⟨a0, rfl, hz0⟩ := okWide_struct Go.Proofs.Tryd.underlying29 (hval 0 29 v0 rfl rfl)
  have lt0 : ∀ x ∈ p0, x.block < W.heap.size := by obtain ⟨m, hm⟩ := h0; exact DataW.trod_lt m _ _ _ hm
  obtain ⟨z0, y0, f0⟩ : ∃ z : ((.pair (.pair (.int .i64) (.pair (.pair (.int .i64) (.pair (.int .i64) (.pair (.int .i64) (.pair (.int .i64) (.pair (.int .i64) (.pair (.int .i64) .unit)))))) (.pair (.int .u32) (.pair (.int .u64) (.pair (.int .u64) (.pair .str .unit)))))) (.pair (.int .u32) (.pair (.int .u64) .unit))) : Vm.Ki).den, VRv W (fun b => b < W.heap.size) (.pair (.pair (.int .i64) (.pair (.pair (.int .i64) (.pair (.int .i64) (.pair (.int .i64) (.pair (.int .i64) (.pair (.int .i64) (.pair (.int .i64) .unit)))))) (.pair (.int .u32) (.pair (.int .u64) (.pair (.int .u64) (.pair .str .unit)))))) (.pair (.int .u32) (.pair (.int .u64) .unit))) z _ ∧ KWf (.pair (.pair (.int .i64) (.pair (.pair (.int .i64) (.pair (.int .i64) (.pair (.int .i64) (.pair (.int .i64) (.pair (.int .i64) (.pair (.int .i64) .unit)))))) (.pair (.int .u32) (.pair (.int .u64) (.pair (.int .u64) (.pair .str .unit)))))) (.pair (.int .u32) (.pair (.int .u64) .unit))) z := by obtain ⟨fuel, hf⟩ := h0; exact Vm.opens Vm.hTy (k := (.pair (.pair (.int .i64) (.pair (.pair (.int .i64) (.pair (.int .i64) (.pair (.int .i64) (.pair (.int .i64) (.pair (.int .i64) (.pair (.int .i64) .unit)))))) (.pair (.int .u32) (.pair (.int .u64) (.pair (.int .u64) (.pair .str .unit)))))) (.pair (.int .u32) (.pair (.int .u64) .unit)))) (t := 29) rfl hf (fun _ => ⟨_, rfl⟩) (fun h => by cases h)
  have hp : Vm.law19_CentralSizes.f 1000 (z0, ()) = some (true, ()) := Vm.pure_CentralSizes z0 f0
  refine (Vm.law_calls (Vm.law19_CentralSizes.sat 1000) (ks := [(.pair (.pair (.int .i64) (.pair (.pair (.int .i64) (.pair (.int .i64) (.pair (.int .i64) (.pair (.int .i64) (.pair (.int .i64) (.pair (.int .i64) .unit)))))) (.pair (.int .u32) (.pair (.int .u64) (.pair (.int .u64) (.pair .str .unit)))))) (.pair (.int .u32) (.pair (.int .u64) .unit)))]) rfl (Vm.laidTabs hL) (x := (z0, ())) ⟨_, _, rfl, y0, rfl⟩ (t := 2) rfl rfl hp rfl).mono fun e W' ⟨he, bel⟩ => ?_
  subst he
  exact ⟨_, rfl, _, _, _, [], _, [], hW', trodAll_mk1 (shut_bool Go.Proofs.Tryd.underlying4 _), (trodAll_cons_mk (Below.trod laidOut (by kernel_rfl) (of_decide_eq_true (by kernel_rfl)) h0 bel lt0) trodAll_mk0), rfl, bel.frame _, fun h => by cases h⟩
theorem over : Rows.centralSizesRow.holds Tryd.pinned (OpenSpec.ofChange Rows.centralSizesSpec) :=
  OpenClaim.holds_of_wide 6 Go.Proofs.Tryd.f6 rfl rfl rfl rfl rfl rfl rfl ⟨rfl, rfl, rfl, rfl, rfl⟩ rfl rfl rfl rfl rfl (by kernel_rfl) Go.Proofs.Tryd.func6 (by kernel_rfl)
    (of_decide_eq_true (by kernel_rfl)) (by unfold Func.isWrapper; first | (rw [if_pos (by decide +kernel)]; kernel_rfl) | (rw [if_neg (by decide +kernel)]; exact ⟨rfl, rfl⟩))
    (fun os started H enc _ => lifted os started H enc)
theorem proved : Rows.CentralSizesSaid := over
theorem card : Rows.CentralSizesCardSaid :=
  Claim7.holds_tied_plain_at .later [] [.data, .data, .pinned] true (true, "e3ad590eba8263ccc69bd9e7753c2f4273bff96244eebd01598d974b1f486751") false proved (fun _ h => by cases h) (by kernel_rfl) (fun _ h => by cases h) centralSizes_row_tie rfl ⟨rfl, rfl⟩ (by kernel_rfl) rfl
    (fun f fn hf hfn => by
      obtain rfl : f = 6 := Option.some.inj ((show Go.Proofs.Tryd.prog.funcNamed "footlocker/footlockerlaw19.CentralSizes" = some 6 by kernel_rfl).symm.trans hf) |>.symm
      obtain rfl : fn = Go.Proofs.Tryd.f6 := (Option.some.inj (Go.Proofs.Tryd.func6.symm.trans hfn)).symm
      exact ⟨by kernel_rfl, fun j t ht => by
        rw [Go.Proofs.Tryd.params6] at ht
        have hm : t ∈ [29] := by have := Array.mem_of_getElem? ht; simpa using this
        have hall : ([29].all fun u => !Go.Proofs.Tryd.prog.wantsStandIn u) = true := by kernel_rfl
        exact (show Go.Proofs.Tryd.prog.wantsStandIn t = false by simpa using List.all_eq_true.1 hall t hm)⟩)
    (by kernel_rfl)
#print axioms card
end Go.Proofs.YtcnegcjjeakmmaaDoor.centralSizes
namespace Go.Proofs.YtcnegcjjeakmmaaDoor
/-- The row, under a short name, for the claim. -/
theorem centralSizes_holds : Rows.CentralSizesCardSaid := centralSizes.card
end Go.Proofs.YtcnegcjjeakmmaaDoor
