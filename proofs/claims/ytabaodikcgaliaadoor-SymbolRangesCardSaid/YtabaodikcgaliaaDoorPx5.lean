/- Functions of the Go program as Lean functions, each with a proof that the Go code answers just so; each theorem states its own conditions. Written by a program. -/
import Derived.Test.YtabaodikcgaliaaDoorPx0
import Derived.Test.YtabaodikcgaliaaDoorPx1
import Derived.Test.YtabaodikcgaliaaDoorPx3
namespace Go.Proofs.YtabaodikcgaliaaDoor.P
open Go.RowKit Go.Proofs.YtabaodikcgaliaaDoorW.PrintWords Go.Proofs.YtabaodikcgaliaaDoorW.PrintLast Go.Proofs.YtabaodikcgaliaaDoorW.PrintMore
attribute [local go_sem] max2_int min2_int max_two min_two max_three min_three max_four min_four   -- for this text's walks alone
set_option linter.unusedVariables false
set_option linter.unusedSimpArgs false

/-! ### footlockerlaw11_SymbolRanges: function 5 -/
mutual
def footlockerlaw11_SymbolRanges.j1 : Nat → Int → Int → Option (Bool)
  | 0, _, _ => none
  | k + 1, x0, x1 => (symbol_DistBase.f x0).bind fun bt201 => (if bt201.2.2 = true then (if 0 ≤ bt201.2.1 then (if (shl .i64 1 bt201.2.1) = 0 then (none) else ((symbol_Dist.f k (wrap64 (bt201.1 + (Int.tmod (Go.bits .and .i64 x1 8191) (shl .i64 1 bt201.2.1))))).bind fun bt204 => (if bt204.1 = x0 then (if bt204.2.1 = bt201.2.1 then (footlockerlaw11_SymbolRanges.j2 k x0 bt201.1 (bt204.2.2 != (wrap64 ((wrap64 (bt201.1 + (Int.tmod (Go.bits .and .i64 x1 8191) (shl .i64 1 bt201.2.1)))) - bt201.1)))) else (footlockerlaw11_SymbolRanges.j2 k x0 bt201.1 true)) else (footlockerlaw11_SymbolRanges.j2 k x0 bt201.1 true)))) else (none)) else (some true))
def footlockerlaw11_SymbolRanges.j2 : Nat → Int → Int → Bool → Option (Bool)
  | 0, _, _, _ => none
  | k + 1, x0, x15, x118 => if x118 = true then (some false) else ((symbol_Dist.f k (wrap64 (x15 - 1))).bind fun bt207 => (if x0 > 0 then (if bt207.1 ≥ x0 then (some false) else (some true)) else (some true)))
def footlockerlaw11_SymbolRanges.j0 : Nat → Int → Int → Int → Bool → Option (Bool)
  | 0, _, _, _, _ => none
  | k + 1, x0, x1, x5, x73 => if x73 = true then (some false) else ((symbol_Length.f k (wrap64 (x5 - 1))).bind fun bt198 => (if bt198.1 ≥ x0 then (some false) else (footlockerlaw11_SymbolRanges.j1 k x0 x1)))
end
def footlockerlaw11_SymbolRanges.f (k : Nat) (a0 : Int) (a1 : Int) : Option (Bool) := (footlockerlaw11_alive.f k).bind fun t191 => (if t191 = true then ((symbol_LengthBase.f a0).bind fun bt192 => (if bt192.2.2 = true then (if 0 ≤ bt192.2.1 then (if (shl .i64 1 bt192.2.1) = 0 then (none) else ((symbol_Length.f k (wrap64 (bt192.1 + (Int.tmod (Go.bits .and .i64 a1 31) (shl .i64 1 bt192.2.1))))).bind fun bt195 => (if (wrap64 (bt192.1 + (Int.tmod (Go.bits .and .i64 a1 31) (shl .i64 1 bt192.2.1)))) = 258 then (footlockerlaw11_SymbolRanges.j0 k a0 a1 bt192.1 (bt195.1 != 285)) else (if bt195.1 = a0 then (if bt195.2.1 = bt192.2.1 then (if bt195.2.2 = (wrap64 ((wrap64 (bt192.1 + (Int.tmod (Go.bits .and .i64 a1 31) (shl .i64 1 bt192.2.1)))) - bt192.1)) then (footlockerlaw11_SymbolRanges.j0 k a0 a1 bt192.1 false) else (footlockerlaw11_SymbolRanges.j0 k a0 a1 bt192.1 true)) else (footlockerlaw11_SymbolRanges.j0 k a0 a1 bt192.1 true)) else (footlockerlaw11_SymbolRanges.j0 k a0 a1 bt192.1 true))))) else (none)) else (footlockerlaw11_SymbolRanges.j1 k a0 a1))) else (some false))
theorem footlockerlaw11_SymbolRanges.mono_l : ∀ k, (∀ y0 y1, LeO (footlockerlaw11_SymbolRanges.j1 k y0 y1) (footlockerlaw11_SymbolRanges.j1 (k + 1) y0 y1)) ∧ (∀ y0 y1 y2, LeO (footlockerlaw11_SymbolRanges.j2 k y0 y1 y2) (footlockerlaw11_SymbolRanges.j2 (k + 1) y0 y1 y2)) ∧ (∀ y0 y1 y2 y3, LeO (footlockerlaw11_SymbolRanges.j0 k y0 y1 y2 y3) (footlockerlaw11_SymbolRanges.j0 (k + 1) y0 y1 y2 y3))
  | 0 => ⟨fun _ _ r h => by simp [footlockerlaw11_SymbolRanges.j1] at h, fun _ _ _ r h => by simp [footlockerlaw11_SymbolRanges.j2] at h, fun _ _ _ _ r h => by simp [footlockerlaw11_SymbolRanges.j0] at h⟩
  | k + 1 => by
    obtain ⟨ih0, ih1, ih2⟩ := footlockerlaw11_SymbolRanges.mono_l k
    refine ⟨?_, ?_, ?_⟩
    · intro y0 y1
      unfold footlockerlaw11_SymbolRanges.j1
      repeat' first
      | (with_reducible exact ih0 _ _)
      | (with_reducible exact ih1 _ _ _)
      | (with_reducible exact ih2 _ _ _ _)
      | (with_reducible exact footlockerlaw11_alive.mono _)
      | (with_reducible exact symbol_Dist.mono _ _)
      | (with_reducible exact symbol_Length.mono _ _)
      | (with_reducible exact LeO.refl _)
      | (with_reducible exact LeO.none _)
      | (with_reducible refine LeO.ite ?_ ?_)
      | (with_reducible refine LeO.bind ?_ (fun _ => ?_))
      | exact ih0 _ _
      | exact ih1 _ _ _
      | exact ih2 _ _ _ _
      | exact footlockerlaw11_alive.mono _
      | exact symbol_Dist.mono _ _
      | exact symbol_Length.mono _ _
      | exact LeO.none _
      | refine LeO.ite ?_ ?_
      | refine LeO.bind ?_ (fun _ => ?_)
    · intro y0 y1 y2
      unfold footlockerlaw11_SymbolRanges.j2
      repeat' first
      | (with_reducible exact ih0 _ _)
      | (with_reducible exact ih1 _ _ _)
      | (with_reducible exact ih2 _ _ _ _)
      | (with_reducible exact footlockerlaw11_alive.mono _)
      | (with_reducible exact symbol_Dist.mono _ _)
      | (with_reducible exact symbol_Length.mono _ _)
      | (with_reducible exact LeO.refl _)
      | (with_reducible exact LeO.none _)
      | (with_reducible refine LeO.ite ?_ ?_)
      | (with_reducible refine LeO.bind ?_ (fun _ => ?_))
      | exact ih0 _ _
      | exact ih1 _ _ _
      | exact ih2 _ _ _ _
      | exact footlockerlaw11_alive.mono _
      | exact symbol_Dist.mono _ _
      | exact symbol_Length.mono _ _
      | exact LeO.none _
      | refine LeO.ite ?_ ?_
      | refine LeO.bind ?_ (fun _ => ?_)
    · intro y0 y1 y2 y3
      unfold footlockerlaw11_SymbolRanges.j0
      repeat' first
      | (with_reducible exact ih0 _ _)
      | (with_reducible exact ih1 _ _ _)
      | (with_reducible exact ih2 _ _ _ _)
      | (with_reducible exact footlockerlaw11_alive.mono _)
      | (with_reducible exact symbol_Dist.mono _ _)
      | (with_reducible exact symbol_Length.mono _ _)
      | (with_reducible exact LeO.refl _)
      | (with_reducible exact LeO.none _)
      | (with_reducible refine LeO.ite ?_ ?_)
      | (with_reducible refine LeO.bind ?_ (fun _ => ?_))
      | exact ih0 _ _
      | exact ih1 _ _ _
      | exact ih2 _ _ _ _
      | exact footlockerlaw11_alive.mono _
      | exact symbol_Dist.mono _ _
      | exact symbol_Length.mono _ _
      | exact LeO.none _
      | refine LeO.ite ?_ ?_
      | refine LeO.bind ?_ (fun _ => ?_)
theorem footlockerlaw11_SymbolRanges.mono : ∀ a0 a1 k, LeO (footlockerlaw11_SymbolRanges.f k a0 a1) (footlockerlaw11_SymbolRanges.f (k + 1) a0 a1) := by
  intro a0 a1 k
  obtain ⟨ih0, ih1, ih2⟩ := footlockerlaw11_SymbolRanges.mono_l k
  unfold footlockerlaw11_SymbolRanges.f
  repeat' first
      | (with_reducible exact ih0 _ _)
      | (with_reducible exact ih1 _ _ _)
      | (with_reducible exact ih2 _ _ _ _)
      | (with_reducible exact footlockerlaw11_alive.mono _)
      | (with_reducible exact symbol_Dist.mono _ _)
      | (with_reducible exact symbol_Length.mono _ _)
      | (with_reducible exact LeO.refl _)
      | (with_reducible exact LeO.none _)
      | (with_reducible refine LeO.ite ?_ ?_)
      | (with_reducible refine LeO.bind ?_ (fun _ => ?_))
      | exact ih0 _ _
      | exact ih1 _ _ _
      | exact ih2 _ _ _ _
      | exact footlockerlaw11_alive.mono _
      | exact symbol_Dist.mono _ _
      | exact symbol_Length.mono _ _
      | exact LeO.none _
      | refine LeO.ite ?_ ?_
      | refine LeO.bind ?_ (fun _ => ?_)
set_option maxHeartbeats 8000000 in
set_option maxRecDepth 100000 in
theorem footlockerlaw11_SymbolRanges.calls (k : Nat) (a0 : Int) (a1 : Int) (r : Bool) (w : World) (hG : Laid w) (h : footlockerlaw11_SymbolRanges.f k a0 a1 = some r) :
    Calls Tryd.prog 5 #[.int .i64 a0, .int .i64 a1] w fun e w' => e = .returned (.bool r) ∧ Below w.heap.size w w' := by
  have HG := Aside0.mk hG
  clear hG
  have HB := Aside0.mk (Below.refl w.heap.size w)
  have H : ((footlockerlaw11_alive.f k).bind fun t191 => (if t191 = true then ((symbol_LengthBase.f a0).bind fun bt192 => (if bt192.2.2 = true then (if 0 ≤ bt192.2.1 then (if (shl .i64 1 bt192.2.1) = 0 then (none) else ((symbol_Length.f k (wrap64 (bt192.1 + (Int.tmod (Go.bits .and .i64 a1 31) (shl .i64 1 bt192.2.1))))).bind fun bt195 => (if (wrap64 (bt192.1 + (Int.tmod (Go.bits .and .i64 a1 31) (shl .i64 1 bt192.2.1)))) = 258 then (footlockerlaw11_SymbolRanges.j0 k a0 a1 bt192.1 (bt195.1 != 285)) else (if bt195.1 = a0 then (if bt195.2.1 = bt192.2.1 then (if bt195.2.2 = (wrap64 ((wrap64 (bt192.1 + (Int.tmod (Go.bits .and .i64 a1 31) (shl .i64 1 bt192.2.1)))) - bt192.1)) then (footlockerlaw11_SymbolRanges.j0 k a0 a1 bt192.1 false) else (footlockerlaw11_SymbolRanges.j0 k a0 a1 bt192.1 true)) else (footlockerlaw11_SymbolRanges.j0 k a0 a1 bt192.1 true)) else (footlockerlaw11_SymbolRanges.j0 k a0 a1 bt192.1 true))))) else (none)) else (footlockerlaw11_SymbolRanges.j1 k a0 a1))) else (some false))) = some r := h
  clear h
  replace H := Option.bind_eq_some_iff.mp H
  obtain ⟨t191, A30, H⟩ := H
  replace H : (if t191 = true then ((symbol_LengthBase.f a0).bind fun bt192 => (if bt192.2.2 = true then (if 0 ≤ bt192.2.1 then (if (shl .i64 1 bt192.2.1) = 0 then (none) else ((symbol_Length.f k (wrap64 (bt192.1 + (Int.tmod (Go.bits .and .i64 a1 31) (shl .i64 1 bt192.2.1))))).bind fun bt195 => (if (wrap64 (bt192.1 + (Int.tmod (Go.bits .and .i64 a1 31) (shl .i64 1 bt192.2.1)))) = 258 then (footlockerlaw11_SymbolRanges.j0 k a0 a1 bt192.1 (bt195.1 != 285)) else (if bt195.1 = a0 then (if bt195.2.1 = bt192.2.1 then (if bt195.2.2 = (wrap64 ((wrap64 (bt192.1 + (Int.tmod (Go.bits .and .i64 a1 31) (shl .i64 1 bt192.2.1)))) - bt192.1)) then (footlockerlaw11_SymbolRanges.j0 k a0 a1 bt192.1 false) else (footlockerlaw11_SymbolRanges.j0 k a0 a1 bt192.1 true)) else (footlockerlaw11_SymbolRanges.j0 k a0 a1 bt192.1 true)) else (footlockerlaw11_SymbolRanges.j0 k a0 a1 bt192.1 true))))) else (none)) else (footlockerlaw11_SymbolRanges.j1 k a0 a1))) else (some false)) = some r := H
  have A3 := Aside0.mk A30
  clear A30
  by_cases c4 : t191 = true
  · subst c4
    have H1 : ((symbol_LengthBase.f a0).bind fun bt192 => (if bt192.2.2 = true then (if 0 ≤ bt192.2.1 then (if (shl .i64 1 bt192.2.1) = 0 then (none) else ((symbol_Length.f k (wrap64 (bt192.1 + (Int.tmod (Go.bits .and .i64 a1 31) (shl .i64 1 bt192.2.1))))).bind fun bt195 => (if (wrap64 (bt192.1 + (Int.tmod (Go.bits .and .i64 a1 31) (shl .i64 1 bt192.2.1)))) = 258 then (footlockerlaw11_SymbolRanges.j0 k a0 a1 bt192.1 (bt195.1 != 285)) else (if bt195.1 = a0 then (if bt195.2.1 = bt192.2.1 then (if bt195.2.2 = (wrap64 ((wrap64 (bt192.1 + (Int.tmod (Go.bits .and .i64 a1 31) (shl .i64 1 bt192.2.1)))) - bt192.1)) then (footlockerlaw11_SymbolRanges.j0 k a0 a1 bt192.1 false) else (footlockerlaw11_SymbolRanges.j0 k a0 a1 bt192.1 true)) else (footlockerlaw11_SymbolRanges.j0 k a0 a1 bt192.1 true)) else (footlockerlaw11_SymbolRanges.j0 k a0 a1 bt192.1 true))))) else (none)) else (footlockerlaw11_SymbolRanges.j1 k a0 a1))) = some r := by rw [if_pos rfl] at H; exact H
    clear H
    have H := H1
    clear H1
    replace H := Option.bind_eq_some_iff.mp H
    obtain ⟨⟨t192, t193, t194⟩, A50, H⟩ := H
    replace H : (if t194 = true then (if 0 ≤ t193 then (if (shl .i64 1 t193) = 0 then (none) else ((symbol_Length.f k (wrap64 (t192 + (Int.tmod (Go.bits .and .i64 a1 31) (shl .i64 1 t193))))).bind fun bt195 => (if (wrap64 (t192 + (Int.tmod (Go.bits .and .i64 a1 31) (shl .i64 1 t193)))) = 258 then (footlockerlaw11_SymbolRanges.j0 k a0 a1 t192 (bt195.1 != 285)) else (if bt195.1 = a0 then (if bt195.2.1 = t193 then (if bt195.2.2 = (wrap64 ((wrap64 (t192 + (Int.tmod (Go.bits .and .i64 a1 31) (shl .i64 1 t193)))) - t192)) then (footlockerlaw11_SymbolRanges.j0 k a0 a1 t192 false) else (footlockerlaw11_SymbolRanges.j0 k a0 a1 t192 true)) else (footlockerlaw11_SymbolRanges.j0 k a0 a1 t192 true)) else (footlockerlaw11_SymbolRanges.j0 k a0 a1 t192 true))))) else (none)) else (footlockerlaw11_SymbolRanges.j1 k a0 a1)) = some r := H
    have A5 := Aside0.mk A50
    clear A50
    have HC6 := Aside0.mk H
    clear H
    go_enter Tryd.func5, Tryd.ntmps5
    go_upto_if 33 with (first | ((with_reducible refine gate_callee (f := 6) rfl ?_); refine goesL_ (some 25) rfl rfl Tryd.func6 (by kernel_rfl) rfl #[] rfl (by (try simp only [List.map_toArray, List.map_cons, List.map_nil]); first | done | rfl | (simp only [List.length_drop, List.length_take]; rfl)) ?_; (with_reducible refine (footlockerlaw11_alive.calls k  true _ (by first | exact HG.out | exact Laid.below HG.out HB.out | (repeat (first | exact HG.out | with_reducible exact Laid.below HG.out HB.out | apply Laid.drewN | apply Laid.drew | apply Laid.alloc))) A3.out).mono ?_); rintro e w7 ⟨rfl, hb⟩; refine ⟨_, rfl, ?_⟩; have n0_ := Aside0.mk (below_step (by repeat (first | (with_reducible first | exact HB.out | apply below_alloc | apply pw_below_drewN | apply below_drew1) | exact HB.out)) hb); clear HB; have HB := n0_; clear n0_; (try clear hb); (try clear hb2); (try clear hk); (try clear hi)) | ((with_reducible refine gate_callee (f := 11) rfl ?_); refine goesL_ (some 29) rfl rfl Tryd.func11 (by kernel_rfl) rfl #[.int .i64 a0] rfl (by (try simp only [List.map_toArray, List.map_cons, List.map_nil]); first | done | rfl | (simp only [List.length_drop, List.length_take]; rfl)) ?_; (with_reducible refine (symbol_LengthBase.calls a0 t192 t193 t194 _ (by first | exact HG.out | exact Laid.below HG.out HB.out | (repeat (first | exact HG.out | with_reducible exact Laid.below HG.out HB.out | apply Laid.drewN | apply Laid.drew | apply Laid.alloc))) A5.out).mono ?_); rintro e w' ⟨rfl, ⟨nd, rfl⟩⟩; refine ⟨_, rfl, ?_⟩))
    (try simp only [Act.put, List.setIfInBounds_toArray, List.set_cons_zero, List.set_cons_succ])
    go_cut [] (fun wc => ∃ (kq : Nat), Aside0 (footlockerlaw11_SymbolRanges.j1 kq a0 a1 = some r) ∧ Aside0 (kq ≤ k) ∧ Aside0 (Below w.heap.size w wc))
    case first =>
      have H := HC6.out
      clear HC6
      by_cases c8 : t194 = true
      · subst c8
        have H1 : (if 0 ≤ t193 then (if (shl .i64 1 t193) = 0 then (none) else ((symbol_Length.f k (wrap64 (t192 + (Int.tmod (Go.bits .and .i64 a1 31) (shl .i64 1 t193))))).bind fun bt195 => (if (wrap64 (t192 + (Int.tmod (Go.bits .and .i64 a1 31) (shl .i64 1 t193)))) = 258 then (footlockerlaw11_SymbolRanges.j0 k a0 a1 t192 (bt195.1 != 285)) else (if bt195.1 = a0 then (if bt195.2.1 = t193 then (if bt195.2.2 = (wrap64 ((wrap64 (t192 + (Int.tmod (Go.bits .and .i64 a1 31) (shl .i64 1 t193)))) - t192)) then (footlockerlaw11_SymbolRanges.j0 k a0 a1 t192 false) else (footlockerlaw11_SymbolRanges.j0 k a0 a1 t192 true)) else (footlockerlaw11_SymbolRanges.j0 k a0 a1 t192 true)) else (footlockerlaw11_SymbolRanges.j0 k a0 a1 t192 true))))) else (none)) = some r := by rw [if_pos rfl] at H; exact H
        clear H
        have H := H1
        clear H1
        by_cases c9 : 0 ≤ t193
        · rw [if_pos c9] at H
          have c9b0 := eq_true c9
          have c9b1 : decide (0 ≤ t193) = true := decide_eq_true c9
          clear c9
          obtain ⟨ji10, hji10⟩ : ∃ j_ : Int, (shl .i64 1 t193) = j_ := ⟨_, rfl⟩
          replace H : (if (ji10) = 0 then (none) else ((symbol_Length.f k (wrap64 (t192 + (Int.tmod (Go.bits .and .i64 a1 31) (ji10))))).bind fun bt195 => (if (wrap64 (t192 + (Int.tmod (Go.bits .and .i64 a1 31) (ji10)))) = 258 then (footlockerlaw11_SymbolRanges.j0 k a0 a1 t192 (bt195.1 != 285)) else (if bt195.1 = a0 then (if bt195.2.1 = t193 then (if bt195.2.2 = (wrap64 ((wrap64 (t192 + (Int.tmod (Go.bits .and .i64 a1 31) (ji10)))) - t192)) then (footlockerlaw11_SymbolRanges.j0 k a0 a1 t192 false) else (footlockerlaw11_SymbolRanges.j0 k a0 a1 t192 true)) else (footlockerlaw11_SymbolRanges.j0 k a0 a1 t192 true)) else (footlockerlaw11_SymbolRanges.j0 k a0 a1 t192 true))))) = some r := by first | (rw [hji10] at H; exact H) | (simp only [hji10] at H ⊢; exact H)
          have hji10_ : (IntKind.i64.wrap (1 * 2 ^ min t193.toNat 64)) = ji10 := hji10
          have hji10z : t193 ≤ 64 → (IntKind.i64.wrap (1 * 2 ^ t193.toNat)) = ji10 := shl_small hji10
          have hji10u : (IntKind.i64.wrap (2 ^ min t193.toNat 64)) = ji10 := by have h_ := hji10_; rw [Int.one_mul] at h_; exact h_
          have hji10v : t193 ≤ 64 → (IntKind.i64.wrap (2 ^ t193.toNat)) = ji10 := fun hle_ => by have h_ := hji10z hle_; rw [Int.one_mul] at h_; exact h_
          have hji10y : (wrap64 (1 * 2 ^ min t193.toNat 64)) = ji10 := (i64_w _).symm.trans hji10_
          have hji10x : t193 ≤ 64 → (wrap64 (1 * 2 ^ t193.toNat)) = ji10 := fun h_ => (i64_w _).symm.trans (hji10z h_)
          by_cases c11 : (ji10) = 0
          · rw [if_pos c11] at H
            exact absurd H (by simp)
          · rw [if_neg c11] at H
            have c11b0 : ((ji10) == 0) = false := beq_eq_false_iff_ne.mpr c11
            have c11b1 : ((ji10) != 0) = true := bne_iff_ne.mpr c11
            (first | rw [c11b0] | (simp only [i64_w, i32_w]; rw [c11b0]) | skip)
            replace H := Option.bind_eq_some_iff.mp H
            obtain ⟨⟨t195, t196, t197⟩, A120, H⟩ := H
            replace H : (if (wrap64 (t192 + (Int.tmod (Go.bits .and .i64 a1 31) (ji10)))) = 258 then (footlockerlaw11_SymbolRanges.j0 k a0 a1 t192 (t195 != 285)) else (if t195 = a0 then (if t196 = t193 then (if t197 = (wrap64 ((wrap64 (t192 + (Int.tmod (Go.bits .and .i64 a1 31) (ji10)))) - t192)) then (footlockerlaw11_SymbolRanges.j0 k a0 a1 t192 false) else (footlockerlaw11_SymbolRanges.j0 k a0 a1 t192 true)) else (footlockerlaw11_SymbolRanges.j0 k a0 a1 t192 true)) else (footlockerlaw11_SymbolRanges.j0 k a0 a1 t192 true))) = some r := H
            have A12 := Aside0.mk A120
            clear A120
            have HC13 := Aside0.mk H
            clear H
            go_upto_region 7 with (first | ((with_reducible refine gate_callee (f := 7) rfl ?_); refine goesL_ (some 43) rfl rfl Tryd.func7 (by kernel_rfl) rfl #[.int .i64 (wrap64 (t192 + (Int.tmod (Go.bits .and .i64 a1 31) (ji10))))] rfl (by (try simp only [List.map_toArray, List.map_cons, List.map_nil]); first | done | (simp only [hji10]; rfl) | rfl | (simp only [List.length_drop, List.length_take]; rfl)) ?_; (with_reducible refine (symbol_Length.calls k (wrap64 (t192 + (Int.tmod (Go.bits .and .i64 a1 31) (ji10)))) t195 t196 t197 _ (by first | exact HG.out | exact Laid.below HG.out HB.out | (repeat (first | exact HG.out | with_reducible exact Laid.below HG.out HB.out | apply Laid.drewN | apply Laid.drew | apply Laid.alloc))) A12.out).mono ?_); rintro e w' ⟨rfl, ⟨nd, rfl⟩⟩; refine ⟨_, rfl, ?_⟩))
            (try simp only [Act.put, List.setIfInBounds_toArray, List.set_cons_zero, List.set_cons_succ])
            go_cut [73] (fun v73 wc => ∃ (kq : Nat) (x73_12 : Bool), v73 = .bool x73_12 ∧ Aside0 (footlockerlaw11_SymbolRanges.j0 kq a0 a1 t192 x73_12 = some r) ∧ Aside0 (kq ≤ k) ∧ Aside0 (Below w.heap.size w wc))
            case first =>
              have H := HC13.out
              clear HC13
              by_cases c14 : (wrap64 (t192 + (Int.tmod (Go.bits .and .i64 a1 31) (ji10)))) = 258
              · rw [if_pos c14] at H
                have c14b0 : ((wrap64 (t192 + (Int.tmod (Go.bits .and .i64 a1 31) (ji10)))) == 258) = true := beq_iff_eq.mpr c14
                have c14b1 : ((wrap64 (t192 + (Int.tmod (Go.bits .and .i64 a1 31) (ji10)))) != 258) = false := bne_eq_false_iff_eq.mpr c14
                clear c14
                (first | rw [c14b0] | (simp only [i64_w, i32_w]; rw [c14b0]) | skip)
                have H' := Aside0.mk H
                clear H
                go_wp2
                go_meet
                case rel => exact ⟨_, ((t195 != 285)), (by first | rfl | (simp; done) | (simp [*]; done)), H', ⟨by first | omega | exact Nat.le_refl _⟩, ⟨by repeat (first | (with_reducible first | exact HB.out | apply below_alloc | apply pw_below_drewN | apply below_drew1) | exact HB.out)⟩⟩
              · rw [if_neg c14] at H
                have c14b0 : ((wrap64 (t192 + (Int.tmod (Go.bits .and .i64 a1 31) (ji10)))) == 258) = false := beq_eq_false_iff_ne.mpr c14
                have c14b1 : ((wrap64 (t192 + (Int.tmod (Go.bits .and .i64 a1 31) (ji10)))) != 258) = true := bne_iff_ne.mpr c14
                (first | rw [c14b0] | (simp only [i64_w, i32_w]; rw [c14b0]) | skip)
                by_cases c15 : t195 = a0
                · rw [if_pos c15] at H
                  have c15b0 : (t195 == a0) = true := beq_iff_eq.mpr c15
                  have c15b1 : (t195 != a0) = false := bne_eq_false_iff_eq.mpr c15
                  clear c15
                  by_cases c16 : t196 = t193
                  · rw [if_pos c16] at H
                    have c16b0 : (t196 == t193) = true := beq_iff_eq.mpr c16
                    have c16b1 : (t196 != t193) = false := bne_eq_false_iff_eq.mpr c16
                    clear c16
                    by_cases c17 : t197 = (wrap64 ((wrap64 (t192 + (Int.tmod (Go.bits .and .i64 a1 31) (ji10)))) - t192))
                    · rw [if_pos c17] at H
                      have c17b0 : (t197 == (wrap64 ((wrap64 (t192 + (Int.tmod (Go.bits .and .i64 a1 31) (ji10)))) - t192))) = true := beq_iff_eq.mpr c17
                      have c17b1 : (t197 != (wrap64 ((wrap64 (t192 + (Int.tmod (Go.bits .and .i64 a1 31) (ji10)))) - t192))) = false := bne_eq_false_iff_eq.mpr c17
                      clear c17
                      have H' := Aside0.mk H
                      clear H
                      go_wp2
                      go_meet
                      case rel => exact ⟨_, (false), (by first | rfl | (simp; done) | (simp [*]; done)), H', ⟨by first | omega | exact Nat.le_refl _⟩, ⟨by repeat (first | (with_reducible first | exact HB.out | apply below_alloc | apply pw_below_drewN | apply below_drew1) | exact HB.out)⟩⟩
                    · rw [if_neg c17] at H
                      have c17b0 : (t197 == (wrap64 ((wrap64 (t192 + (Int.tmod (Go.bits .and .i64 a1 31) (ji10)))) - t192))) = false := beq_eq_false_iff_ne.mpr c17
                      have c17b1 : (t197 != (wrap64 ((wrap64 (t192 + (Int.tmod (Go.bits .and .i64 a1 31) (ji10)))) - t192))) = true := bne_iff_ne.mpr c17
                      have H' := Aside0.mk H
                      clear H
                      go_wp2
                      go_meet
                      case rel => exact ⟨_, (true), (by first | rfl | (simp; done) | (simp [*]; done)), H', ⟨by first | omega | exact Nat.le_refl _⟩, ⟨by repeat (first | (with_reducible first | exact HB.out | apply below_alloc | apply pw_below_drewN | apply below_drew1) | exact HB.out)⟩⟩
                  · rw [if_neg c16] at H
                    have c16b0 : (t196 == t193) = false := beq_eq_false_iff_ne.mpr c16
                    have c16b1 : (t196 != t193) = true := bne_iff_ne.mpr c16
                    have H' := Aside0.mk H
                    clear H
                    go_wp2
                    go_meet
                    case rel => exact ⟨_, (true), (by first | rfl | (simp; done) | (simp [*]; done)), H', ⟨by first | omega | exact Nat.le_refl _⟩, ⟨by repeat (first | (with_reducible first | exact HB.out | apply below_alloc | apply pw_below_drewN | apply below_drew1) | exact HB.out)⟩⟩
                · rw [if_neg c15] at H
                  have c15b0 : (t195 == a0) = false := beq_eq_false_iff_ne.mpr c15
                  have c15b1 : (t195 != a0) = true := bne_iff_ne.mpr c15
                  have H' := Aside0.mk H
                  clear H
                  go_wp2
                  go_meet
                  case rel => exact ⟨_, (true), (by first | rfl | (simp; done) | (simp [*]; done)), H', ⟨by first | omega | exact Nat.le_refl _⟩, ⟨by repeat (first | (with_reducible first | exact HB.out | apply below_alloc | apply pw_below_drewN | apply below_drew1) | exact HB.out)⟩⟩
            case rest =>
              clear HC13
              try clear c1
              try clear p2
              try clear c4
              try clear c5
              try clear c6
              try clear p6
              try clear c7
              try clear c8
              try clear c9
              try clear c9b0
              try clear c9b1
              try clear c11
              try clear c11b0
              try clear c11b1
              try clear c14
              try clear c14b0
              try clear c14b1
              try clear c15
              try clear c15b0
              try clear c15b1
              try clear c16
              try clear c16b0
              try clear c16b1
              try clear c17
              try clear c17b0
              try clear c17b1
              obtain ⟨kq, x73_12, rfl, HA, HJ12, HB⟩ := hcut
              cases kq with
              | zero => exact absurd HA.out (by simp [footlockerlaw11_SymbolRanges.j0])
              | succ kj12 =>
                have H := HA.out
                clear HA
                simp only [footlockerlaw11_SymbolRanges.j0] at H
                by_cases c18 : x73_12 = true
                · subst c18
                  have H1 : (some false) = some r := by rw [if_pos rfl] at H; exact H
                  clear H
                  have H := H1
                  clear H1
                  obtain rfl := Option.some.inj H
                  go_wp2
                  go_ret
                  exact ⟨by first | rfl | (simp [errW_none, errW_some] <;> rfl) | (simp only [← hji10]; first | rfl | (simp [errW_none, errW_some] <;> rfl)) | (simp [*, errW_none, errW_some] <;> rfl), by repeat (first | (with_reducible first | exact HB.out | apply below_alloc | apply pw_below_drewN | apply below_drew1) | exact HB.out)⟩
                · replace c18 := Bool.eq_false_iff.mpr c18
                  subst c18
                  have H1 : ((symbol_Length.f kj12 (wrap64 (t192 - 1))).bind fun bt198 => (if bt198.1 ≥ a0 then (some false) else (footlockerlaw11_SymbolRanges.j1 kj12 a0 a1))) = some r := by rw [if_neg (show ¬ (false = true) by decide)] at H; exact H
                  clear H
                  have H := H1
                  clear H1
                  replace H := Option.bind_eq_some_iff.mp H
                  obtain ⟨⟨t198, t199, t200⟩, A190, H⟩ := H
                  replace H : (if t198 ≥ a0 then (some false) else (footlockerlaw11_SymbolRanges.j1 kj12 a0 a1)) = some r := H
                  have A19 := Aside0.mk A190
                  clear A190
                  by_cases c20 : t198 ≥ a0
                  · rw [if_pos c20] at H
                    have c20b0 : decide (a0 ≤ t198) = true := decide_eq_true c20
                    clear c20
                    obtain rfl := Option.some.inj H
                    go_wp2_with (first | ((with_reducible refine gate_callee (f := 7) rfl ?_); refine goesL_ (some 77) rfl rfl Tryd.func7 (by kernel_rfl) rfl #[.int .i64 (wrap64 (t192 - 1))] rfl (by (try simp only [List.map_toArray, List.map_cons, List.map_nil]); first | done | rfl | (simp only [List.length_drop, List.length_take]; rfl)) ?_; (with_reducible refine (symbol_Length.calls kj12 (wrap64 (t192 - 1)) t198 t199 t200 _ (by first | exact HG.out | exact Laid.below HG.out HB.out | (repeat (first | exact HG.out | with_reducible exact Laid.below HG.out HB.out | apply Laid.drewN | apply Laid.drew | apply Laid.alloc))) A19.out).mono ?_); rintro e w' ⟨rfl, ⟨nd, rfl⟩⟩; refine ⟨_, rfl, ?_⟩))
                    go_ret
                    exact ⟨by first | rfl | (simp [errW_none, errW_some] <;> rfl) | (simp only [← hji10]; first | rfl | (simp [errW_none, errW_some] <;> rfl)) | (simp [*, errW_none, errW_some] <;> rfl), by repeat (first | (with_reducible first | exact HB.out | apply below_alloc | apply pw_below_drewN | apply below_drew1) | exact HB.out)⟩
                  · rw [if_neg c20] at H
                    have c20b0 : decide (a0 ≤ t198) = false := decide_eq_false c20
                    clear c20
                    have H' := Aside0.mk H
                    clear H
                    go_wp2_with (first | ((with_reducible refine gate_callee (f := 7) rfl ?_); refine goesL_ (some 77) rfl rfl Tryd.func7 (by kernel_rfl) rfl #[.int .i64 (wrap64 (t192 - 1))] rfl (by (try simp only [List.map_toArray, List.map_cons, List.map_nil]); first | done | rfl | (simp only [List.length_drop, List.length_take]; rfl)) ?_; (with_reducible refine (symbol_Length.calls kj12 (wrap64 (t192 - 1)) t198 t199 t200 _ (by first | exact HG.out | exact Laid.below HG.out HB.out | (repeat (first | exact HG.out | with_reducible exact Laid.below HG.out HB.out | apply Laid.drewN | apply Laid.drew | apply Laid.alloc))) A19.out).mono ?_); rintro e w' ⟨rfl, ⟨nd, rfl⟩⟩; refine ⟨_, rfl, ?_⟩))
                    go_meet
                    case rel => exact ⟨_, H', ⟨by have := HJ12.out; first | omega | exact Nat.le_refl _⟩, ⟨by repeat (first | (with_reducible first | exact HB.out | apply below_alloc | apply pw_below_drewN | apply below_drew1) | exact HB.out)⟩⟩
        · rw [if_neg c9] at H
          exact absurd H (by simp)
      · replace c8 := Bool.eq_false_iff.mpr c8
        subst c8
        have H1 : (footlockerlaw11_SymbolRanges.j1 k a0 a1) = some r := by rw [if_neg (show ¬ (false = true) by decide)] at H; exact H
        clear H
        have H := H1
        clear H1
        have H' := Aside0.mk H
        clear H
        go_wp2
        go_meet
        case rel => exact ⟨_, H', ⟨by first | omega | exact Nat.le_refl _⟩, ⟨by repeat (first | (with_reducible first | exact HB.out | apply below_alloc | apply pw_below_drewN | apply below_drew1) | exact HB.out)⟩⟩
    case rest =>
      clear HC6
      try clear c1
      try clear c2
      try clear p2
      try clear c4
      try clear c5
      try clear c6
      try clear p6
      try clear c7
      try clear c8
      try clear c9
      try clear c9b0
      try clear c9b1
      try clear c11
      try clear c11b0
      try clear c11b1
      try clear c14
      try clear c14b0
      try clear c14b1
      try clear c15
      try clear c15b0
      try clear c15b1
      try clear c16
      try clear c16b0
      try clear c16b1
      try clear c17
      try clear c17b0
      try clear c17b1
      try clear c18
      try clear c20
      try clear c20b0
      try clear p2
      try clear p6
      obtain ⟨kq, HA, HJ5, HB⟩ := hcut
      cases kq with
      | zero => exact absurd HA.out (by simp [footlockerlaw11_SymbolRanges.j1])
      | succ kj5 =>
        have H := HA.out
        clear HA
        simp only [footlockerlaw11_SymbolRanges.j1] at H
        replace H := Option.bind_eq_some_iff.mp H
        obtain ⟨⟨t201, t202, t203⟩, A210, H⟩ := H
        replace H : (if t203 = true then (if 0 ≤ t202 then (if (shl .i64 1 t202) = 0 then (none) else ((symbol_Dist.f kj5 (wrap64 (t201 + (Int.tmod (Go.bits .and .i64 a1 8191) (shl .i64 1 t202))))).bind fun bt204 => (if bt204.1 = a0 then (if bt204.2.1 = t202 then (footlockerlaw11_SymbolRanges.j2 kj5 a0 t201 (bt204.2.2 != (wrap64 ((wrap64 (t201 + (Int.tmod (Go.bits .and .i64 a1 8191) (shl .i64 1 t202)))) - t201)))) else (footlockerlaw11_SymbolRanges.j2 kj5 a0 t201 true)) else (footlockerlaw11_SymbolRanges.j2 kj5 a0 t201 true)))) else (none)) else (some true)) = some r := H
        have A21 := Aside0.mk A210
        clear A210
        by_cases c22 : t203 = true
        · subst c22
          have H1 : (if 0 ≤ t202 then (if (shl .i64 1 t202) = 0 then (none) else ((symbol_Dist.f kj5 (wrap64 (t201 + (Int.tmod (Go.bits .and .i64 a1 8191) (shl .i64 1 t202))))).bind fun bt204 => (if bt204.1 = a0 then (if bt204.2.1 = t202 then (footlockerlaw11_SymbolRanges.j2 kj5 a0 t201 (bt204.2.2 != (wrap64 ((wrap64 (t201 + (Int.tmod (Go.bits .and .i64 a1 8191) (shl .i64 1 t202)))) - t201)))) else (footlockerlaw11_SymbolRanges.j2 kj5 a0 t201 true)) else (footlockerlaw11_SymbolRanges.j2 kj5 a0 t201 true)))) else (none)) = some r := by rw [if_pos rfl] at H; exact H
          clear H
          have H := H1
          clear H1
          by_cases c23 : 0 ≤ t202
          · rw [if_pos c23] at H
            have c23b0 := eq_true c23
            have c23b1 : decide (0 ≤ t202) = true := decide_eq_true c23
            clear c23
            obtain ⟨ji24, hji24⟩ : ∃ j_ : Int, (shl .i64 1 t202) = j_ := ⟨_, rfl⟩
            replace H : (if (ji24) = 0 then (none) else ((symbol_Dist.f kj5 (wrap64 (t201 + (Int.tmod (Go.bits .and .i64 a1 8191) (ji24))))).bind fun bt204 => (if bt204.1 = a0 then (if bt204.2.1 = t202 then (footlockerlaw11_SymbolRanges.j2 kj5 a0 t201 (bt204.2.2 != (wrap64 ((wrap64 (t201 + (Int.tmod (Go.bits .and .i64 a1 8191) (ji24)))) - t201)))) else (footlockerlaw11_SymbolRanges.j2 kj5 a0 t201 true)) else (footlockerlaw11_SymbolRanges.j2 kj5 a0 t201 true)))) = some r := by first | (rw [hji24] at H; exact H) | (simp only [hji24] at H ⊢; exact H)
            (try rw [hji24] at A21)
            have hji24_ : (IntKind.i64.wrap (1 * 2 ^ min t202.toNat 64)) = ji24 := hji24
            have hji24z : t202 ≤ 64 → (IntKind.i64.wrap (1 * 2 ^ t202.toNat)) = ji24 := shl_small hji24
            have hji24u : (IntKind.i64.wrap (2 ^ min t202.toNat 64)) = ji24 := by have h_ := hji24_; rw [Int.one_mul] at h_; exact h_
            have hji24v : t202 ≤ 64 → (IntKind.i64.wrap (2 ^ t202.toNat)) = ji24 := fun hle_ => by have h_ := hji24z hle_; rw [Int.one_mul] at h_; exact h_
            have hji24y : (wrap64 (1 * 2 ^ min t202.toNat 64)) = ji24 := (i64_w _).symm.trans hji24_
            have hji24x : t202 ≤ 64 → (wrap64 (1 * 2 ^ t202.toNat)) = ji24 := fun h_ => (i64_w _).symm.trans (hji24z h_)
            by_cases c25 : (ji24) = 0
            · rw [if_pos c25] at H
              exact absurd H (by simp)
            · rw [if_neg c25] at H
              have c25b0 : ((ji24) == 0) = false := beq_eq_false_iff_ne.mpr c25
              have c25b1 : ((ji24) != 0) = true := bne_iff_ne.mpr c25
              replace H := Option.bind_eq_some_iff.mp H
              obtain ⟨⟨t204, t205, t206⟩, A260, H⟩ := H
              replace H : (if t204 = a0 then (if t205 = t202 then (footlockerlaw11_SymbolRanges.j2 kj5 a0 t201 (t206 != (wrap64 ((wrap64 (t201 + (Int.tmod (Go.bits .and .i64 a1 8191) (ji24)))) - t201)))) else (footlockerlaw11_SymbolRanges.j2 kj5 a0 t201 true)) else (footlockerlaw11_SymbolRanges.j2 kj5 a0 t201 true)) = some r := H
              have A26 := Aside0.mk A260
              clear A260
              have HC27 := Aside0.mk H
              clear H
              go_upto_region 16 with (first | ((with_reducible refine gate_callee (f := 13) rfl ?_); refine goesL_ (some 86) rfl rfl Tryd.func13 (by kernel_rfl) rfl #[.int .i64 a0] rfl (by (try simp only [List.map_toArray, List.map_cons, List.map_nil]); first | done | rfl | (simp only [List.length_drop, List.length_take]; rfl)) ?_; (with_reducible refine (symbol_DistBase.calls a0 t201 t202 true _ (by first | exact HG.out | exact Laid.below HG.out HB.out | (repeat (first | exact HG.out | with_reducible exact Laid.below HG.out HB.out | apply Laid.drewN | apply Laid.drew | apply Laid.alloc))) A21.out).mono ?_); rintro e w' ⟨rfl, ⟨nd, rfl⟩⟩; refine ⟨_, rfl, ?_⟩) | ((with_reducible refine gate_callee (f := 9) rfl ?_); refine goesL_ (some 100) rfl rfl Tryd.func9 (by kernel_rfl) rfl #[.int .i64 (wrap64 (t201 + (Int.tmod (Go.bits .and .i64 a1 8191) (ji24))))] rfl (by (try simp only [List.map_toArray, List.map_cons, List.map_nil]); first | done | (simp only [hji24]; rfl) | rfl | (simp only [List.length_drop, List.length_take]; rfl)) ?_; (with_reducible refine (symbol_Dist.calls kj5 (wrap64 (t201 + (Int.tmod (Go.bits .and .i64 a1 8191) (ji24)))) t204 t205 t206 _ (by first | exact HG.out | exact Laid.below HG.out HB.out | (repeat (first | exact HG.out | with_reducible exact Laid.below HG.out HB.out | apply Laid.drewN | apply Laid.drew | apply Laid.alloc))) A26.out).mono ?_); rintro e w' ⟨rfl, ⟨nd, rfl⟩⟩; refine ⟨_, rfl, ?_⟩))
              (try simp only [Act.put, List.setIfInBounds_toArray, List.set_cons_zero, List.set_cons_succ])
              go_cut [118] (fun v118 wc => ∃ (kq : Nat) (x118_26 : Bool), v118 = .bool x118_26 ∧ Aside0 (footlockerlaw11_SymbolRanges.j2 kq a0 t201 x118_26 = some r) ∧ Aside0 (kq ≤ kj5) ∧ Aside0 (Below w.heap.size w wc))
              case first =>
                have H := HC27.out
                clear HC27
                by_cases c28 : t204 = a0
                · rw [if_pos c28] at H
                  have c28b0 : (t204 == a0) = true := beq_iff_eq.mpr c28
                  have c28b1 : (t204 != a0) = false := bne_eq_false_iff_eq.mpr c28
                  clear c28
                  (first | rw [c28b0] | (simp only [i64_w, i32_w]; rw [c28b0]) | skip)
                  by_cases c29 : t205 = t202
                  · rw [if_pos c29] at H
                    have c29b0 : (t205 == t202) = true := beq_iff_eq.mpr c29
                    have c29b1 : (t205 != t202) = false := bne_eq_false_iff_eq.mpr c29
                    clear c29
                    have H' := Aside0.mk H
                    clear H
                    go_wp2
                    go_meet
                    case rel => exact ⟨_, ((t206 != (wrap64 ((wrap64 (t201 + (Int.tmod (Go.bits .and .i64 a1 8191) (ji24)))) - t201)))), (by first | rfl | (simp; done) | (simp only [← hji24] <;> (first | rfl | simp)) | (simp [*]; done)), H', ⟨by have := HJ5.out; first | omega | exact Nat.le_refl _⟩, ⟨by repeat (first | (with_reducible first | exact HB.out | apply below_alloc | apply pw_below_drewN | apply below_drew1) | exact HB.out)⟩⟩
                  · rw [if_neg c29] at H
                    have c29b0 : (t205 == t202) = false := beq_eq_false_iff_ne.mpr c29
                    have c29b1 : (t205 != t202) = true := bne_iff_ne.mpr c29
                    have H' := Aside0.mk H
                    clear H
                    go_wp2
                    go_meet
                    case rel => exact ⟨_, (true), (by first | rfl | (simp; done) | (simp [*]; done)), H', ⟨by have := HJ5.out; first | omega | exact Nat.le_refl _⟩, ⟨by repeat (first | (with_reducible first | exact HB.out | apply below_alloc | apply pw_below_drewN | apply below_drew1) | exact HB.out)⟩⟩
                · rw [if_neg c28] at H
                  have c28b0 : (t204 == a0) = false := beq_eq_false_iff_ne.mpr c28
                  have c28b1 : (t204 != a0) = true := bne_iff_ne.mpr c28
                  (first | rw [c28b0] | (simp only [i64_w, i32_w]; rw [c28b0]) | skip)
                  have H' := Aside0.mk H
                  clear H
                  go_wp2
                  go_meet
                  case rel => exact ⟨_, (true), (by first | rfl | (simp; done) | (simp [*]; done)), H', ⟨by have := HJ5.out; first | omega | exact Nat.le_refl _⟩, ⟨by repeat (first | (with_reducible first | exact HB.out | apply below_alloc | apply pw_below_drewN | apply below_drew1) | exact HB.out)⟩⟩
              case rest =>
                clear HC27
                try clear c1
                try clear c2
                try clear p2
                try clear c4
                try clear c5
                try clear c6
                try clear p6
                try clear c7
                try clear c8
                try clear c9
                try clear c9b0
                try clear c9b1
                try clear c11
                try clear c11b0
                try clear c11b1
                try clear c13
                try clear c14
                try clear c14b0
                try clear c14b1
                try clear c15
                try clear c15b0
                try clear c15b1
                try clear c16
                try clear c16b0
                try clear c16b1
                try clear c17
                try clear c17b0
                try clear c17b1
                try clear c18
                try clear c20
                try clear c20b0
                try clear c22
                try clear c23
                try clear c23b0
                try clear c23b1
                try clear c25
                try clear c25b0
                try clear c25b1
                try clear c28
                try clear c28b0
                try clear c28b1
                try clear c29
                try clear c29b0
                try clear c29b1
                try clear p2
                try clear p6
                obtain ⟨kq, x118_26, rfl, HA, HJ26, HB⟩ := hcut
                cases kq with
                | zero => exact absurd HA.out (by simp [footlockerlaw11_SymbolRanges.j2])
                | succ kj26 =>
                  have H := HA.out
                  clear HA
                  simp only [footlockerlaw11_SymbolRanges.j2] at H
                  by_cases c30 : x118_26 = true
                  · subst c30
                    have H1 : (some false) = some r := by rw [if_pos rfl] at H; exact H
                    clear H
                    have H := H1
                    clear H1
                    obtain rfl := Option.some.inj H
                    go_wp2
                    go_ret
                    exact ⟨by first | rfl | (simp [errW_none, errW_some] <;> rfl) | (simp only [← hji24]; first | rfl | (simp [errW_none, errW_some] <;> rfl)) | (simp [*, errW_none, errW_some] <;> rfl), by repeat (first | (with_reducible first | exact HB.out | apply below_alloc | apply pw_below_drewN | apply below_drew1) | exact HB.out)⟩
                  · replace c30 := Bool.eq_false_iff.mpr c30
                    subst c30
                    have H1 : ((symbol_Dist.f kj26 (wrap64 (t201 - 1))).bind fun bt207 => (if a0 > 0 then (if bt207.1 ≥ a0 then (some false) else (some true)) else (some true))) = some r := by rw [if_neg (show ¬ (false = true) by decide)] at H; exact H
                    clear H
                    have H := H1
                    clear H1
                    replace H := Option.bind_eq_some_iff.mp H
                    obtain ⟨⟨t207, t208, t209⟩, A310, H⟩ := H
                    replace H : (if a0 > 0 then (if t207 ≥ a0 then (some false) else (some true)) else (some true)) = some r := H
                    have A31 := Aside0.mk A310
                    clear A310
                    by_cases c32 : a0 > 0
                    · rw [if_pos c32] at H
                      have c32b0 : decide (0 < a0) = true := decide_eq_true c32
                      clear c32
                      by_cases c33 : t207 ≥ a0
                      · rw [if_pos c33] at H
                        have c33b0 : decide (a0 ≤ t207) = true := decide_eq_true c33
                        clear c33
                        obtain rfl := Option.some.inj H
                        go_wp2_with (first | ((with_reducible refine gate_callee (f := 9) rfl ?_); refine goesL_ (some 122) rfl rfl Tryd.func9 (by kernel_rfl) rfl #[.int .i64 (wrap64 (t201 - 1))] rfl (by (try simp only [List.map_toArray, List.map_cons, List.map_nil]); first | done | rfl | (simp only [List.length_drop, List.length_take]; rfl)) ?_; (with_reducible refine (symbol_Dist.calls kj26 (wrap64 (t201 - 1)) t207 t208 t209 _ (by first | exact HG.out | exact Laid.below HG.out HB.out | (repeat (first | exact HG.out | with_reducible exact Laid.below HG.out HB.out | apply Laid.drewN | apply Laid.drew | apply Laid.alloc))) A31.out).mono ?_); rintro e w' ⟨rfl, ⟨nd, rfl⟩⟩; refine ⟨_, rfl, ?_⟩))
                        go_ret
                        exact ⟨by first | rfl | (simp [errW_none, errW_some] <;> rfl) | (simp only [← hji24]; first | rfl | (simp [errW_none, errW_some] <;> rfl)) | (simp [*, errW_none, errW_some] <;> rfl), by repeat (first | (with_reducible first | exact HB.out | apply below_alloc | apply pw_below_drewN | apply below_drew1) | exact HB.out)⟩
                      · rw [if_neg c33] at H
                        have c33b0 : decide (a0 ≤ t207) = false := decide_eq_false c33
                        clear c33
                        obtain rfl := Option.some.inj H
                        go_wp2_with (first | ((with_reducible refine gate_callee (f := 9) rfl ?_); refine goesL_ (some 122) rfl rfl Tryd.func9 (by kernel_rfl) rfl #[.int .i64 (wrap64 (t201 - 1))] rfl (by (try simp only [List.map_toArray, List.map_cons, List.map_nil]); first | done | rfl | (simp only [List.length_drop, List.length_take]; rfl)) ?_; (with_reducible refine (symbol_Dist.calls kj26 (wrap64 (t201 - 1)) t207 t208 t209 _ (by first | exact HG.out | exact Laid.below HG.out HB.out | (repeat (first | exact HG.out | with_reducible exact Laid.below HG.out HB.out | apply Laid.drewN | apply Laid.drew | apply Laid.alloc))) A31.out).mono ?_); rintro e w' ⟨rfl, ⟨nd, rfl⟩⟩; refine ⟨_, rfl, ?_⟩))
                        go_ret
                        exact ⟨by first | rfl | (simp [errW_none, errW_some] <;> rfl) | (simp only [← hji24]; first | rfl | (simp [errW_none, errW_some] <;> rfl)) | (simp [*, errW_none, errW_some] <;> rfl), by repeat (first | (with_reducible first | exact HB.out | apply below_alloc | apply pw_below_drewN | apply below_drew1) | exact HB.out)⟩
                    · rw [if_neg c32] at H
                      have c32b0 : decide (0 < a0) = false := decide_eq_false c32
                      clear c32
                      obtain rfl := Option.some.inj H
                      go_wp2_with (first | ((with_reducible refine gate_callee (f := 9) rfl ?_); refine goesL_ (some 122) rfl rfl Tryd.func9 (by kernel_rfl) rfl #[.int .i64 (wrap64 (t201 - 1))] rfl (by (try simp only [List.map_toArray, List.map_cons, List.map_nil]); first | done | rfl | (simp only [List.length_drop, List.length_take]; rfl)) ?_; (with_reducible refine (symbol_Dist.calls kj26 (wrap64 (t201 - 1)) t207 t208 t209 _ (by first | exact HG.out | exact Laid.below HG.out HB.out | (repeat (first | exact HG.out | with_reducible exact Laid.below HG.out HB.out | apply Laid.drewN | apply Laid.drew | apply Laid.alloc))) A31.out).mono ?_); rintro e w' ⟨rfl, ⟨nd, rfl⟩⟩; refine ⟨_, rfl, ?_⟩))
                      go_ret
                      exact ⟨by first | rfl | (simp [errW_none, errW_some] <;> rfl) | (simp only [← hji24]; first | rfl | (simp [errW_none, errW_some] <;> rfl)) | (simp [*, errW_none, errW_some] <;> rfl), by repeat (first | (with_reducible first | exact HB.out | apply below_alloc | apply pw_below_drewN | apply below_drew1) | exact HB.out)⟩
          · rw [if_neg c23] at H
            exact absurd H (by simp)
        · replace c22 := Bool.eq_false_iff.mpr c22
          subst c22
          have H1 : (some true) = some r := by rw [if_neg (show ¬ (false = true) by decide)] at H; exact H
          clear H
          have H := H1
          clear H1
          obtain rfl := Option.some.inj H
          go_wp2_with (first | ((with_reducible refine gate_callee (f := 13) rfl ?_); refine goesL_ (some 86) rfl rfl Tryd.func13 (by kernel_rfl) rfl #[.int .i64 a0] rfl (by (try simp only [List.map_toArray, List.map_cons, List.map_nil]); first | done | rfl | (simp only [List.length_drop, List.length_take]; rfl)) ?_; (with_reducible refine (symbol_DistBase.calls a0 t201 t202 false _ (by first | exact HG.out | exact Laid.below HG.out HB.out | (repeat (first | exact HG.out | with_reducible exact Laid.below HG.out HB.out | apply Laid.drewN | apply Laid.drew | apply Laid.alloc))) A21.out).mono ?_); rintro e w' ⟨rfl, ⟨nd, rfl⟩⟩; refine ⟨_, rfl, ?_⟩))
          go_ret
          exact ⟨by first | rfl | (simp [errW_none, errW_some] <;> rfl) | (simp [*, errW_none, errW_some] <;> rfl), by repeat (first | (with_reducible first | exact HB.out | apply below_alloc | apply pw_below_drewN | apply below_drew1) | exact HB.out)⟩
  · replace c4 := Bool.eq_false_iff.mpr c4
    subst c4
    have H1 : (some false) = some r := by rw [if_neg (show ¬ (false = true) by decide)] at H; exact H
    clear H
    have H := H1
    clear H1
    obtain rfl := Option.some.inj H
    go_enter Tryd.func5, Tryd.ntmps5
    go_wp2_with (first | ((with_reducible refine gate_callee (f := 6) rfl ?_); refine goesL_ (some 25) rfl rfl Tryd.func6 (by kernel_rfl) rfl #[] rfl (by (try simp only [List.map_toArray, List.map_cons, List.map_nil]); first | done | rfl | (simp only [List.length_drop, List.length_take]; rfl)) ?_; (with_reducible refine (footlockerlaw11_alive.calls k  false _ (by first | exact HG.out | exact Laid.below HG.out HB.out | (repeat (first | exact HG.out | with_reducible exact Laid.below HG.out HB.out | apply Laid.drewN | apply Laid.drew | apply Laid.alloc))) A3.out).mono ?_); rintro e w34 ⟨rfl, hb⟩; refine ⟨_, rfl, ?_⟩; have n0_ := Aside0.mk (below_step (by repeat (first | (with_reducible first | exact HB.out | apply below_alloc | apply pw_below_drewN | apply below_drew1) | exact HB.out)) hb); clear HB; have HB := n0_; clear n0_; (try clear hb); (try clear hb2); (try clear hk); (try clear hi)))
    go_ret
    exact ⟨by first | rfl | (simp [errW_none, errW_some] <;> rfl) | (simp [*, errW_none, errW_some] <;> rfl), by repeat (first | (with_reducible first | exact HB.out | apply below_alloc | apply pw_below_drewN | apply below_drew1) | exact HB.out)⟩

/-- THE ONE PURE STATEMENT of footlockerlaw11_SymbolRanges: yours. -/
def footlockerlaw11_SymbolRanges.Pure : Prop := ∀ (a0 : Int) (a1 : Int), (Lit.int .i64 a0).wf = true → (Lit.int .i64 a1).wf = true → ∃ k, footlockerlaw11_SymbolRanges.f k a0 a1 = some true
theorem footlockerlaw11_SymbolRanges.walk (P : footlockerlaw11_SymbolRanges.Pure) (a0 : Int) (a1 : Int) (w : World) (hG : Laid w) (w0 : (Lit.int .i64 a0).wf = true) (w1 : (Lit.int .i64 a1).wf = true) :
    Calls Tryd.prog 5 #[.int .i64 a0, .int .i64 a1] w fun e w' => e = .returned (.bool true) ∧ Below w.heap.size w w' := by
  obtain ⟨k, h⟩ := P a0 a1 w0 w1
  refine (footlockerlaw11_SymbolRanges.calls k a0 a1 true w hG h).mono ?_
  rintro e w' ⟨rfl, hd⟩
  exact ⟨rfl, hd⟩

end Go.Proofs.YtabaodikcgaliaaDoor.P
