/- Functions of the Go program as Lean functions, each with a proof that the Go code answers just so; each theorem states its own conditions. Written by a program. -/
import Derived.Test.YtabaodikcgaliaaDoorPx0
import Derived.Test.YtabaodikcgaliaaDoorPx1
import Derived.Test.YtabaodikcgaliaaDoorPx3
namespace Go.Proofs.YtabaodikcgaliaaDoor.P
open Go.RowKit Go.Proofs.YtabaodikcgaliaaDoorW.PrintWords Go.Proofs.YtabaodikcgaliaaDoorW.PrintLast Go.Proofs.YtabaodikcgaliaaDoorW.PrintMore
attribute [local go_sem] max2_int min2_int max_two min_two max_three min_three max_four min_four   -- for this text's walks alone
set_option linter.unusedVariables false
set_option linter.unusedSimpArgs false

/-! ### footlockerlaw11_SymbolBack: function 4 -/
mutual
def footlockerlaw11_SymbolBack.j0 : Nat → Int → Int → Int → Bool → Option (Bool)
  | 0, _, _, _, _ => none
  | k + 1, x0, x1, x5, x64 => if x64 = true then (some false) else ((symbol_Dist.f k x1).bind fun bt179 => ((symbol_DistBase.f bt179.1).bind fun bt182 => (if bt182.2.2 = true then (if bt182.2.1 = bt179.2.1 then (if (wrap64 (bt182.1 + bt179.2.2)) = x1 then (if bt179.2.2 < 0 then (footlockerlaw11_SymbolBack.j1 k x0 x1 x5 bt179.1 true) else (if 0 ≤ bt179.2.1 then (footlockerlaw11_SymbolBack.j1 k x0 x1 x5 bt179.1 (decide (bt179.2.2 ≥ (shl .i64 1 bt179.2.1)))) else (none))) else (footlockerlaw11_SymbolBack.j1 k x0 x1 x5 bt179.1 true)) else (footlockerlaw11_SymbolBack.j1 k x0 x1 x5 bt179.1 true)) else (footlockerlaw11_SymbolBack.j1 k x0 x1 x5 bt179.1 true))))
def footlockerlaw11_SymbolBack.j1 : Nat → Int → Int → Int → Int → Bool → Option (Bool)
  | 0, _, _, _, _, _ => none
  | k + 1, x0, x1, x5, x11, x100 => if x100 = true then (some false) else ((symbol_Length.f k (mn (wrap64 (x0 + 1)) 258)).bind fun bt185 => ((symbol_Dist.f k (mn (wrap64 (x1 + 1)) 32768)).bind fun bt188 => (if bt185.1 ≥ x5 then (if bt185.1 ≤ (wrap64 (x5 + 1)) then (if bt188.1 ≥ x11 then (some (decide (bt188.1 ≤ (wrap64 (x11 + 1))))) else (some false)) else (some false)) else (some false))))
end
def footlockerlaw11_SymbolBack.f (k : Nat) (a0 : Int) (a1 : Int) : Option (Bool) := (footlockerlaw11_alive.f k).bind fun t170 => (if t170 = true then ((footlockerref01_Held.f a0 3 258).bind fun t171 => ((footlockerref01_Held.f a1 1 32768).bind fun t172 => ((symbol_Length.f k t171).bind fun bt173 => ((symbol_LengthBase.f bt173.1).bind fun bt176 => (if bt176.2.2 = true then (if bt176.2.1 = bt173.2.1 then (if (wrap64 (bt176.1 + bt173.2.2)) = t171 then (if bt173.2.2 < 0 then (footlockerlaw11_SymbolBack.j0 k t171 t172 bt173.1 true) else (if 0 ≤ bt173.2.1 then (footlockerlaw11_SymbolBack.j0 k t171 t172 bt173.1 (decide (bt173.2.2 ≥ (shl .i64 1 bt173.2.1)))) else (none))) else (footlockerlaw11_SymbolBack.j0 k t171 t172 bt173.1 true)) else (footlockerlaw11_SymbolBack.j0 k t171 t172 bt173.1 true)) else (footlockerlaw11_SymbolBack.j0 k t171 t172 bt173.1 true)))))) else (some false))
theorem footlockerlaw11_SymbolBack.mono_l : ∀ k, (∀ y0 y1 y2 y3, LeO (footlockerlaw11_SymbolBack.j0 k y0 y1 y2 y3) (footlockerlaw11_SymbolBack.j0 (k + 1) y0 y1 y2 y3)) ∧ (∀ y0 y1 y2 y3 y4, LeO (footlockerlaw11_SymbolBack.j1 k y0 y1 y2 y3 y4) (footlockerlaw11_SymbolBack.j1 (k + 1) y0 y1 y2 y3 y4))
  | 0 => ⟨fun _ _ _ _ r h => by simp [footlockerlaw11_SymbolBack.j0] at h, fun _ _ _ _ _ r h => by simp [footlockerlaw11_SymbolBack.j1] at h⟩
  | k + 1 => by
    obtain ⟨ih0, ih1⟩ := footlockerlaw11_SymbolBack.mono_l k
    refine ⟨?_, ?_⟩
    · intro y0 y1 y2 y3
      unfold footlockerlaw11_SymbolBack.j0
      repeat' first
      | (with_reducible exact ih0 _ _ _ _)
      | (with_reducible exact ih1 _ _ _ _ _)
      | (with_reducible exact footlockerlaw11_alive.mono _)
      | (with_reducible exact symbol_Dist.mono _ _)
      | (with_reducible exact symbol_Length.mono _ _)
      | (with_reducible exact LeO.refl _)
      | (with_reducible exact LeO.none _)
      | (with_reducible refine LeO.ite ?_ ?_)
      | (with_reducible refine LeO.bind ?_ (fun _ => ?_))
      | exact ih0 _ _ _ _
      | exact ih1 _ _ _ _ _
      | exact footlockerlaw11_alive.mono _
      | exact symbol_Dist.mono _ _
      | exact symbol_Length.mono _ _
      | exact LeO.none _
      | refine LeO.ite ?_ ?_
      | refine LeO.bind ?_ (fun _ => ?_)
    · intro y0 y1 y2 y3 y4
      unfold footlockerlaw11_SymbolBack.j1
      repeat' first
      | (with_reducible exact ih0 _ _ _ _)
      | (with_reducible exact ih1 _ _ _ _ _)
      | (with_reducible exact footlockerlaw11_alive.mono _)
      | (with_reducible exact symbol_Dist.mono _ _)
      | (with_reducible exact symbol_Length.mono _ _)
      | (with_reducible exact LeO.refl _)
      | (with_reducible exact LeO.none _)
      | (with_reducible refine LeO.ite ?_ ?_)
      | (with_reducible refine LeO.bind ?_ (fun _ => ?_))
      | exact ih0 _ _ _ _
      | exact ih1 _ _ _ _ _
      | exact footlockerlaw11_alive.mono _
      | exact symbol_Dist.mono _ _
      | exact symbol_Length.mono _ _
      | exact LeO.none _
      | refine LeO.ite ?_ ?_
      | refine LeO.bind ?_ (fun _ => ?_)
theorem footlockerlaw11_SymbolBack.mono : ∀ a0 a1 k, LeO (footlockerlaw11_SymbolBack.f k a0 a1) (footlockerlaw11_SymbolBack.f (k + 1) a0 a1) := by
  intro a0 a1 k
  obtain ⟨ih0, ih1⟩ := footlockerlaw11_SymbolBack.mono_l k
  unfold footlockerlaw11_SymbolBack.f
  repeat' first
      | (with_reducible exact ih0 _ _ _ _)
      | (with_reducible exact ih1 _ _ _ _ _)
      | (with_reducible exact footlockerlaw11_alive.mono _)
      | (with_reducible exact symbol_Dist.mono _ _)
      | (with_reducible exact symbol_Length.mono _ _)
      | (with_reducible exact LeO.refl _)
      | (with_reducible exact LeO.none _)
      | (with_reducible refine LeO.ite ?_ ?_)
      | (with_reducible refine LeO.bind ?_ (fun _ => ?_))
      | exact ih0 _ _ _ _
      | exact ih1 _ _ _ _ _
      | exact footlockerlaw11_alive.mono _
      | exact symbol_Dist.mono _ _
      | exact symbol_Length.mono _ _
      | exact LeO.none _
      | refine LeO.ite ?_ ?_
      | refine LeO.bind ?_ (fun _ => ?_)
set_option maxHeartbeats 8000000 in
set_option maxRecDepth 100000 in
theorem footlockerlaw11_SymbolBack.calls (k : Nat) (a0 : Int) (a1 : Int) (r : Bool) (w : World) (hG : Laid w) (h : footlockerlaw11_SymbolBack.f k a0 a1 = some r) :
    Calls Tryd.prog 4 #[.int .i64 a0, .int .i64 a1] w fun e w' => e = .returned (.bool r) ∧ Below w.heap.size w w' := by
  have HG := Aside0.mk hG
  clear hG
  have HB := Aside0.mk (Below.refl w.heap.size w)
  have H : ((footlockerlaw11_alive.f k).bind fun t170 => (if t170 = true then ((footlockerref01_Held.f a0 3 258).bind fun t171 => ((footlockerref01_Held.f a1 1 32768).bind fun t172 => ((symbol_Length.f k t171).bind fun bt173 => ((symbol_LengthBase.f bt173.1).bind fun bt176 => (if bt176.2.2 = true then (if bt176.2.1 = bt173.2.1 then (if (wrap64 (bt176.1 + bt173.2.2)) = t171 then (if bt173.2.2 < 0 then (footlockerlaw11_SymbolBack.j0 k t171 t172 bt173.1 true) else (if 0 ≤ bt173.2.1 then (footlockerlaw11_SymbolBack.j0 k t171 t172 bt173.1 (decide (bt173.2.2 ≥ (shl .i64 1 bt173.2.1)))) else (none))) else (footlockerlaw11_SymbolBack.j0 k t171 t172 bt173.1 true)) else (footlockerlaw11_SymbolBack.j0 k t171 t172 bt173.1 true)) else (footlockerlaw11_SymbolBack.j0 k t171 t172 bt173.1 true)))))) else (some false))) = some r := h
  clear h
  replace H := Option.bind_eq_some_iff.mp H
  obtain ⟨t170, A30, H⟩ := H
  replace H : (if t170 = true then ((footlockerref01_Held.f a0 3 258).bind fun t171 => ((footlockerref01_Held.f a1 1 32768).bind fun t172 => ((symbol_Length.f k t171).bind fun bt173 => ((symbol_LengthBase.f bt173.1).bind fun bt176 => (if bt176.2.2 = true then (if bt176.2.1 = bt173.2.1 then (if (wrap64 (bt176.1 + bt173.2.2)) = t171 then (if bt173.2.2 < 0 then (footlockerlaw11_SymbolBack.j0 k t171 t172 bt173.1 true) else (if 0 ≤ bt173.2.1 then (footlockerlaw11_SymbolBack.j0 k t171 t172 bt173.1 (decide (bt173.2.2 ≥ (shl .i64 1 bt173.2.1)))) else (none))) else (footlockerlaw11_SymbolBack.j0 k t171 t172 bt173.1 true)) else (footlockerlaw11_SymbolBack.j0 k t171 t172 bt173.1 true)) else (footlockerlaw11_SymbolBack.j0 k t171 t172 bt173.1 true)))))) else (some false)) = some r := H
  have A3 := Aside0.mk A30
  clear A30
  by_cases c4 : t170 = true
  · subst c4
    have H1 : ((footlockerref01_Held.f a0 3 258).bind fun t171 => ((footlockerref01_Held.f a1 1 32768).bind fun t172 => ((symbol_Length.f k t171).bind fun bt173 => ((symbol_LengthBase.f bt173.1).bind fun bt176 => (if bt176.2.2 = true then (if bt176.2.1 = bt173.2.1 then (if (wrap64 (bt176.1 + bt173.2.2)) = t171 then (if bt173.2.2 < 0 then (footlockerlaw11_SymbolBack.j0 k t171 t172 bt173.1 true) else (if 0 ≤ bt173.2.1 then (footlockerlaw11_SymbolBack.j0 k t171 t172 bt173.1 (decide (bt173.2.2 ≥ (shl .i64 1 bt173.2.1)))) else (none))) else (footlockerlaw11_SymbolBack.j0 k t171 t172 bt173.1 true)) else (footlockerlaw11_SymbolBack.j0 k t171 t172 bt173.1 true)) else (footlockerlaw11_SymbolBack.j0 k t171 t172 bt173.1 true)))))) = some r := by rw [if_pos rfl] at H; exact H
    clear H
    have H := H1
    clear H1
    replace H := Option.bind_eq_some_iff.mp H
    obtain ⟨t171, A50, H⟩ := H
    replace H : ((footlockerref01_Held.f a1 1 32768).bind fun t172 => ((symbol_Length.f k t171).bind fun bt173 => ((symbol_LengthBase.f bt173.1).bind fun bt176 => (if bt176.2.2 = true then (if bt176.2.1 = bt173.2.1 then (if (wrap64 (bt176.1 + bt173.2.2)) = t171 then (if bt173.2.2 < 0 then (footlockerlaw11_SymbolBack.j0 k t171 t172 bt173.1 true) else (if 0 ≤ bt173.2.1 then (footlockerlaw11_SymbolBack.j0 k t171 t172 bt173.1 (decide (bt173.2.2 ≥ (shl .i64 1 bt173.2.1)))) else (none))) else (footlockerlaw11_SymbolBack.j0 k t171 t172 bt173.1 true)) else (footlockerlaw11_SymbolBack.j0 k t171 t172 bt173.1 true)) else (footlockerlaw11_SymbolBack.j0 k t171 t172 bt173.1 true))))) = some r := H
    have A5 := Aside0.mk A50
    clear A50
    replace H := Option.bind_eq_some_iff.mp H
    obtain ⟨t172, A60, H⟩ := H
    replace H : ((symbol_Length.f k t171).bind fun bt173 => ((symbol_LengthBase.f bt173.1).bind fun bt176 => (if bt176.2.2 = true then (if bt176.2.1 = bt173.2.1 then (if (wrap64 (bt176.1 + bt173.2.2)) = t171 then (if bt173.2.2 < 0 then (footlockerlaw11_SymbolBack.j0 k t171 t172 bt173.1 true) else (if 0 ≤ bt173.2.1 then (footlockerlaw11_SymbolBack.j0 k t171 t172 bt173.1 (decide (bt173.2.2 ≥ (shl .i64 1 bt173.2.1)))) else (none))) else (footlockerlaw11_SymbolBack.j0 k t171 t172 bt173.1 true)) else (footlockerlaw11_SymbolBack.j0 k t171 t172 bt173.1 true)) else (footlockerlaw11_SymbolBack.j0 k t171 t172 bt173.1 true)))) = some r := H
    have A6 := Aside0.mk A60
    clear A60
    replace H := Option.bind_eq_some_iff.mp H
    obtain ⟨⟨t173, t174, t175⟩, A70, H⟩ := H
    replace H : ((symbol_LengthBase.f t173).bind fun bt176 => (if bt176.2.2 = true then (if bt176.2.1 = t174 then (if (wrap64 (bt176.1 + t175)) = t171 then (if t175 < 0 then (footlockerlaw11_SymbolBack.j0 k t171 t172 t173 true) else (if 0 ≤ t174 then (footlockerlaw11_SymbolBack.j0 k t171 t172 t173 (decide (t175 ≥ (shl .i64 1 t174)))) else (none))) else (footlockerlaw11_SymbolBack.j0 k t171 t172 t173 true)) else (footlockerlaw11_SymbolBack.j0 k t171 t172 t173 true)) else (footlockerlaw11_SymbolBack.j0 k t171 t172 t173 true))) = some r := H
    have A7 := Aside0.mk A70
    clear A70
    replace H := Option.bind_eq_some_iff.mp H
    obtain ⟨⟨t176, t177, t178⟩, A80, H⟩ := H
    replace H : (if t178 = true then (if t177 = t174 then (if (wrap64 (t176 + t175)) = t171 then (if t175 < 0 then (footlockerlaw11_SymbolBack.j0 k t171 t172 t173 true) else (if 0 ≤ t174 then (footlockerlaw11_SymbolBack.j0 k t171 t172 t173 (decide (t175 ≥ (shl .i64 1 t174)))) else (none))) else (footlockerlaw11_SymbolBack.j0 k t171 t172 t173 true)) else (footlockerlaw11_SymbolBack.j0 k t171 t172 t173 true)) else (footlockerlaw11_SymbolBack.j0 k t171 t172 t173 true)) = some r := H
    have A8 := Aside0.mk A80
    clear A80
    have HC9 := Aside0.mk H
    clear H
    go_enter Tryd.func4, Tryd.ntmps4
    go_upto_region 6 with (first | ((with_reducible refine gate_callee (f := 6) rfl ?_); refine goesL_ (some 23) rfl rfl Tryd.func6 (by kernel_rfl) rfl #[] rfl (by (try simp only [List.map_toArray, List.map_cons, List.map_nil]); first | done | rfl | (simp only [List.length_drop, List.length_take]; rfl)) ?_; (with_reducible refine (footlockerlaw11_alive.calls k  true _ (by first | exact HG.out | exact Laid.below HG.out HB.out | (repeat (first | exact HG.out | with_reducible exact Laid.below HG.out HB.out | apply Laid.drewN | apply Laid.drew | apply Laid.alloc))) A3.out).mono ?_); rintro e w10 ⟨rfl, hb⟩; refine ⟨_, rfl, ?_⟩; have n0_ := Aside0.mk (below_step (by repeat (first | (with_reducible first | exact HB.out | apply below_alloc | apply pw_below_drewN | apply below_drew1) | exact HB.out)) hb); clear HB; have HB := n0_; clear n0_; (try clear hb); (try clear hb2); (try clear hk); (try clear hi)) | ((with_reducible refine gate_callee (f := 18) rfl ?_); refine goesL_ (some 26) rfl rfl Tryd.func18 (by kernel_rfl) rfl #[.int .i64 a0, .int .i64 3, .int .i64 258] rfl (by (try simp only [List.map_toArray, List.map_cons, List.map_nil]); first | done | rfl | (simp only [List.length_drop, List.length_take]; rfl)) ?_; (with_reducible refine (footlockerref01_Held.calls a0 3 258 t171 _ A5.out).mono ?_); rintro e w' ⟨rfl, ⟨nd, rfl⟩⟩; refine ⟨_, rfl, ?_⟩) | ((with_reducible refine gate_callee (f := 18) rfl ?_); refine goesL_ (some 28) rfl rfl Tryd.func18 (by kernel_rfl) rfl #[.int .i64 a1, .int .i64 1, .int .i64 32768] rfl (by (try simp only [List.map_toArray, List.map_cons, List.map_nil]); first | done | rfl | (simp only [List.length_drop, List.length_take]; rfl)) ?_; (with_reducible refine (footlockerref01_Held.calls a1 1 32768 t172 _ A6.out).mono ?_); rintro e w' ⟨rfl, ⟨nd, rfl⟩⟩; refine ⟨_, rfl, ?_⟩) | ((with_reducible refine gate_callee (f := 7) rfl ?_); refine goesL_ (some 31) rfl rfl Tryd.func7 (by kernel_rfl) rfl #[.int .i64 t171] rfl (by (try simp only [List.map_toArray, List.map_cons, List.map_nil]); first | done | rfl | (simp only [List.length_drop, List.length_take]; rfl)) ?_; (with_reducible refine (symbol_Length.calls k t171 t173 t174 t175 _ (by first | exact HG.out | exact Laid.below HG.out HB.out | (repeat (first | exact HG.out | with_reducible exact Laid.below HG.out HB.out | apply Laid.drewN | apply Laid.drew | apply Laid.alloc))) A7.out).mono ?_); rintro e w' ⟨rfl, ⟨nd, rfl⟩⟩; refine ⟨_, rfl, ?_⟩) | ((with_reducible refine gate_callee (f := 11) rfl ?_); refine goesL_ (some 37) rfl rfl Tryd.func11 (by kernel_rfl) rfl #[.int .i64 t173] rfl (by (try simp only [List.map_toArray, List.map_cons, List.map_nil]); first | done | rfl | (simp only [List.length_drop, List.length_take]; rfl)) ?_; (with_reducible refine (symbol_LengthBase.calls t173 t176 t177 t178 _ (by first | exact HG.out | exact Laid.below HG.out HB.out | (repeat (first | exact HG.out | with_reducible exact Laid.below HG.out HB.out | apply Laid.drewN | apply Laid.drew | apply Laid.alloc))) A8.out).mono ?_); rintro e w' ⟨rfl, ⟨nd, rfl⟩⟩; refine ⟨_, rfl, ?_⟩))
    (try simp only [Act.put, List.setIfInBounds_toArray, List.set_cons_zero, List.set_cons_succ])
    go_cut [64] (fun v64 wc => ∃ (kq : Nat) (x64_8 : Bool), v64 = .bool x64_8 ∧ Aside0 (footlockerlaw11_SymbolBack.j0 kq t171 t172 t173 x64_8 = some r) ∧ Aside0 (kq ≤ k) ∧ Aside0 (Below w.heap.size w wc))
    case first =>
      have H := HC9.out
      clear HC9
      by_cases c11 : t178 = true
      · subst c11
        have H1 : (if t177 = t174 then (if (wrap64 (t176 + t175)) = t171 then (if t175 < 0 then (footlockerlaw11_SymbolBack.j0 k t171 t172 t173 true) else (if 0 ≤ t174 then (footlockerlaw11_SymbolBack.j0 k t171 t172 t173 (decide (t175 ≥ (shl .i64 1 t174)))) else (none))) else (footlockerlaw11_SymbolBack.j0 k t171 t172 t173 true)) else (footlockerlaw11_SymbolBack.j0 k t171 t172 t173 true)) = some r := by rw [if_pos rfl] at H; exact H
        clear H
        have H := H1
        clear H1
        by_cases c12 : t177 = t174
        · rw [if_pos c12] at H
          have c12b0 : (t177 == t174) = true := beq_iff_eq.mpr c12
          have c12b1 : (t177 != t174) = false := bne_eq_false_iff_eq.mpr c12
          clear c12
          (first | rw [c12b0] | (simp only [i64_w, i32_w]; rw [c12b0]) | skip)
          by_cases c13 : (wrap64 (t176 + t175)) = t171
          · rw [if_pos c13] at H
            have c13b0 : ((wrap64 (t176 + t175)) == t171) = true := beq_iff_eq.mpr c13
            have c13b1 : ((wrap64 (t176 + t175)) != t171) = false := bne_eq_false_iff_eq.mpr c13
            clear c13
            by_cases c14 : t175 < 0
            · rw [if_pos c14] at H
              have c14b0 : decide (t175 < 0) = true := decide_eq_true c14
              clear c14
              have H' := Aside0.mk H
              clear H
              go_wp2
              go_meet
              case rel => exact ⟨_, (true), (by first | rfl | (simp; done) | (simp [*]; done)), H', ⟨by first | omega | exact Nat.le_refl _⟩, ⟨by repeat (first | (with_reducible first | exact HB.out | apply below_alloc | apply pw_below_drewN | apply below_drew1) | exact HB.out)⟩⟩
            · rw [if_neg c14] at H
              have c14b0 : decide (t175 < 0) = false := decide_eq_false c14
              clear c14
              by_cases c15 : 0 ≤ t174
              · rw [if_pos c15] at H
                have c15b0 := eq_true c15
                have c15b1 : decide (0 ≤ t174) = true := decide_eq_true c15
                clear c15
                obtain ⟨ji16, hji16⟩ : ∃ j_ : Int, (shl .i64 1 t174) = j_ := ⟨_, rfl⟩
                replace H : (footlockerlaw11_SymbolBack.j0 k t171 t172 t173 (decide (t175 ≥ (ji16)))) = some r := by first | (rw [hji16] at H; exact H) | (simp only [hji16] at H ⊢; exact H)
                have hji16_ : (IntKind.i64.wrap (1 * 2 ^ min t174.toNat 64)) = ji16 := hji16
                have hji16z : t174 ≤ 64 → (IntKind.i64.wrap (1 * 2 ^ t174.toNat)) = ji16 := shl_small hji16
                have hji16u : (IntKind.i64.wrap (2 ^ min t174.toNat 64)) = ji16 := by have h_ := hji16_; rw [Int.one_mul] at h_; exact h_
                have hji16v : t174 ≤ 64 → (IntKind.i64.wrap (2 ^ t174.toNat)) = ji16 := fun hle_ => by have h_ := hji16z hle_; rw [Int.one_mul] at h_; exact h_
                have hji16y : (wrap64 (1 * 2 ^ min t174.toNat 64)) = ji16 := (i64_w _).symm.trans hji16_
                have hji16x : t174 ≤ 64 → (wrap64 (1 * 2 ^ t174.toNat)) = ji16 := fun h_ => (i64_w _).symm.trans (hji16z h_)
                have H' := Aside0.mk H
                clear H
                go_wp2
                go_meet
                case rel => exact ⟨_, (decide (t175 ≥ (ji16))), (by first | rfl | (simp; done) | (simp only [← hji16] <;> (first | rfl | simp)) | (simp [*]; done)), H', ⟨by first | omega | exact Nat.le_refl _⟩, ⟨by repeat (first | (with_reducible first | exact HB.out | apply below_alloc | apply pw_below_drewN | apply below_drew1) | exact HB.out)⟩⟩
              · rw [if_neg c15] at H
                exact absurd H (by simp)
          · rw [if_neg c13] at H
            have c13b0 : ((wrap64 (t176 + t175)) == t171) = false := beq_eq_false_iff_ne.mpr c13
            have c13b1 : ((wrap64 (t176 + t175)) != t171) = true := bne_iff_ne.mpr c13
            have H' := Aside0.mk H
            clear H
            go_wp2
            go_meet
            case rel => exact ⟨_, (true), (by first | rfl | (simp; done) | (simp [*]; done)), H', ⟨by first | omega | exact Nat.le_refl _⟩, ⟨by repeat (first | (with_reducible first | exact HB.out | apply below_alloc | apply pw_below_drewN | apply below_drew1) | exact HB.out)⟩⟩
        · rw [if_neg c12] at H
          have c12b0 : (t177 == t174) = false := beq_eq_false_iff_ne.mpr c12
          have c12b1 : (t177 != t174) = true := bne_iff_ne.mpr c12
          (first | rw [c12b0] | (simp only [i64_w, i32_w]; rw [c12b0]) | skip)
          have H' := Aside0.mk H
          clear H
          go_wp2
          go_meet
          case rel => exact ⟨_, (true), (by first | rfl | (simp; done) | (simp [*]; done)), H', ⟨by first | omega | exact Nat.le_refl _⟩, ⟨by repeat (first | (with_reducible first | exact HB.out | apply below_alloc | apply pw_below_drewN | apply below_drew1) | exact HB.out)⟩⟩
      · replace c11 := Bool.eq_false_iff.mpr c11
        subst c11
        have H1 : (footlockerlaw11_SymbolBack.j0 k t171 t172 t173 true) = some r := by rw [if_neg (show ¬ (false = true) by decide)] at H; exact H
        clear H
        have H := H1
        clear H1
        have H' := Aside0.mk H
        clear H
        go_wp2
        go_meet
        case rel => exact ⟨_, (true), (by first | rfl | (simp; done) | (simp [*]; done)), H', ⟨by first | omega | exact Nat.le_refl _⟩, ⟨by repeat (first | (with_reducible first | exact HB.out | apply below_alloc | apply pw_below_drewN | apply below_drew1) | exact HB.out)⟩⟩
    case rest =>
      clear HC9
      try clear c1
      try clear p2
      try clear c4
      try clear c6
      try clear p6
      try clear c7
      try clear c11
      try clear c12
      try clear c12b0
      try clear c12b1
      try clear c13
      try clear c13b0
      try clear c13b1
      try clear c14
      try clear c14b0
      try clear c15
      try clear c15b0
      try clear c15b1
      obtain ⟨kq, x64_8, rfl, HA, HJ8, HB⟩ := hcut
      cases kq with
      | zero => exact absurd HA.out (by simp [footlockerlaw11_SymbolBack.j0])
      | succ kj8 =>
        have H := HA.out
        clear HA
        simp only [footlockerlaw11_SymbolBack.j0] at H
        by_cases c17 : x64_8 = true
        · subst c17
          have H1 : (some false) = some r := by rw [if_pos rfl] at H; exact H
          clear H
          have H := H1
          clear H1
          obtain rfl := Option.some.inj H
          go_wp2
          go_ret
          exact ⟨by first | rfl | (simp [errW_none, errW_some] <;> rfl) | (simp [*, errW_none, errW_some] <;> rfl), by repeat (first | (with_reducible first | exact HB.out | apply below_alloc | apply pw_below_drewN | apply below_drew1) | exact HB.out)⟩
        · replace c17 := Bool.eq_false_iff.mpr c17
          subst c17
          have H1 : ((symbol_Dist.f kj8 t172).bind fun bt179 => ((symbol_DistBase.f bt179.1).bind fun bt182 => (if bt182.2.2 = true then (if bt182.2.1 = bt179.2.1 then (if (wrap64 (bt182.1 + bt179.2.2)) = t172 then (if bt179.2.2 < 0 then (footlockerlaw11_SymbolBack.j1 kj8 t171 t172 t173 bt179.1 true) else (if 0 ≤ bt179.2.1 then (footlockerlaw11_SymbolBack.j1 kj8 t171 t172 t173 bt179.1 (decide (bt179.2.2 ≥ (shl .i64 1 bt179.2.1)))) else (none))) else (footlockerlaw11_SymbolBack.j1 kj8 t171 t172 t173 bt179.1 true)) else (footlockerlaw11_SymbolBack.j1 kj8 t171 t172 t173 bt179.1 true)) else (footlockerlaw11_SymbolBack.j1 kj8 t171 t172 t173 bt179.1 true)))) = some r := by rw [if_neg (show ¬ (false = true) by decide)] at H; exact H
          clear H
          have H := H1
          clear H1
          replace H := Option.bind_eq_some_iff.mp H
          obtain ⟨⟨t179, t180, t181⟩, A180, H⟩ := H
          replace H : ((symbol_DistBase.f t179).bind fun bt182 => (if bt182.2.2 = true then (if bt182.2.1 = t180 then (if (wrap64 (bt182.1 + t181)) = t172 then (if t181 < 0 then (footlockerlaw11_SymbolBack.j1 kj8 t171 t172 t173 t179 true) else (if 0 ≤ t180 then (footlockerlaw11_SymbolBack.j1 kj8 t171 t172 t173 t179 (decide (t181 ≥ (shl .i64 1 t180)))) else (none))) else (footlockerlaw11_SymbolBack.j1 kj8 t171 t172 t173 t179 true)) else (footlockerlaw11_SymbolBack.j1 kj8 t171 t172 t173 t179 true)) else (footlockerlaw11_SymbolBack.j1 kj8 t171 t172 t173 t179 true))) = some r := H
          have A18 := Aside0.mk A180
          clear A180
          replace H := Option.bind_eq_some_iff.mp H
          obtain ⟨⟨t182, t183, t184⟩, A190, H⟩ := H
          replace H : (if t184 = true then (if t183 = t180 then (if (wrap64 (t182 + t181)) = t172 then (if t181 < 0 then (footlockerlaw11_SymbolBack.j1 kj8 t171 t172 t173 t179 true) else (if 0 ≤ t180 then (footlockerlaw11_SymbolBack.j1 kj8 t171 t172 t173 t179 (decide (t181 ≥ (shl .i64 1 t180)))) else (none))) else (footlockerlaw11_SymbolBack.j1 kj8 t171 t172 t173 t179 true)) else (footlockerlaw11_SymbolBack.j1 kj8 t171 t172 t173 t179 true)) else (footlockerlaw11_SymbolBack.j1 kj8 t171 t172 t173 t179 true)) = some r := H
          have A19 := Aside0.mk A190
          clear A190
          have HC20 := Aside0.mk H
          clear H
          go_upto_region 10 with (first | ((with_reducible refine gate_callee (f := 9) rfl ?_); refine goesL_ (some 67) rfl rfl Tryd.func9 (by kernel_rfl) rfl #[.int .i64 t172] rfl (by (try simp only [List.map_toArray, List.map_cons, List.map_nil]); first | done | rfl | (simp only [List.length_drop, List.length_take]; rfl)) ?_; (with_reducible refine (symbol_Dist.calls kj8 t172 t179 t180 t181 _ (by first | exact HG.out | exact Laid.below HG.out HB.out | (repeat (first | exact HG.out | with_reducible exact Laid.below HG.out HB.out | apply Laid.drewN | apply Laid.drew | apply Laid.alloc))) A18.out).mono ?_); rintro e w' ⟨rfl, ⟨nd, rfl⟩⟩; refine ⟨_, rfl, ?_⟩) | ((with_reducible refine gate_callee (f := 13) rfl ?_); refine goesL_ (some 73) rfl rfl Tryd.func13 (by kernel_rfl) rfl #[.int .i64 t179] rfl (by (try simp only [List.map_toArray, List.map_cons, List.map_nil]); first | done | rfl | (simp only [List.length_drop, List.length_take]; rfl)) ?_; (with_reducible refine (symbol_DistBase.calls t179 t182 t183 t184 _ (by first | exact HG.out | exact Laid.below HG.out HB.out | (repeat (first | exact HG.out | with_reducible exact Laid.below HG.out HB.out | apply Laid.drewN | apply Laid.drew | apply Laid.alloc))) A19.out).mono ?_); rintro e w' ⟨rfl, ⟨nd, rfl⟩⟩; refine ⟨_, rfl, ?_⟩))
          (try simp only [Act.put, List.setIfInBounds_toArray, List.set_cons_zero, List.set_cons_succ])
          go_cut [100] (fun v100 wc => ∃ (kq : Nat) (x100_19 : Bool), v100 = .bool x100_19 ∧ Aside0 (footlockerlaw11_SymbolBack.j1 kq t171 t172 t173 t179 x100_19 = some r) ∧ Aside0 (kq ≤ kj8) ∧ Aside0 (Below w.heap.size w wc))
          case first =>
            have H := HC20.out
            clear HC20
            by_cases c21 : t184 = true
            · subst c21
              have H1 : (if t183 = t180 then (if (wrap64 (t182 + t181)) = t172 then (if t181 < 0 then (footlockerlaw11_SymbolBack.j1 kj8 t171 t172 t173 t179 true) else (if 0 ≤ t180 then (footlockerlaw11_SymbolBack.j1 kj8 t171 t172 t173 t179 (decide (t181 ≥ (shl .i64 1 t180)))) else (none))) else (footlockerlaw11_SymbolBack.j1 kj8 t171 t172 t173 t179 true)) else (footlockerlaw11_SymbolBack.j1 kj8 t171 t172 t173 t179 true)) = some r := by rw [if_pos rfl] at H; exact H
              clear H
              have H := H1
              clear H1
              by_cases c22 : t183 = t180
              · rw [if_pos c22] at H
                have c22b0 : (t183 == t180) = true := beq_iff_eq.mpr c22
                have c22b1 : (t183 != t180) = false := bne_eq_false_iff_eq.mpr c22
                clear c22
                (first | rw [c22b0] | (simp only [i64_w, i32_w]; rw [c22b0]) | skip)
                by_cases c23 : (wrap64 (t182 + t181)) = t172
                · rw [if_pos c23] at H
                  have c23b0 : ((wrap64 (t182 + t181)) == t172) = true := beq_iff_eq.mpr c23
                  have c23b1 : ((wrap64 (t182 + t181)) != t172) = false := bne_eq_false_iff_eq.mpr c23
                  clear c23
                  by_cases c24 : t181 < 0
                  · rw [if_pos c24] at H
                    have c24b0 : decide (t181 < 0) = true := decide_eq_true c24
                    clear c24
                    have H' := Aside0.mk H
                    clear H
                    go_wp2
                    go_meet
                    case rel => exact ⟨_, (true), (by first | rfl | (simp; done) | (simp [*]; done)), H', ⟨by have := HJ8.out; first | omega | exact Nat.le_refl _⟩, ⟨by repeat (first | (with_reducible first | exact HB.out | apply below_alloc | apply pw_below_drewN | apply below_drew1) | exact HB.out)⟩⟩
                  · rw [if_neg c24] at H
                    have c24b0 : decide (t181 < 0) = false := decide_eq_false c24
                    clear c24
                    by_cases c25 : 0 ≤ t180
                    · rw [if_pos c25] at H
                      have c25b0 := eq_true c25
                      have c25b1 : decide (0 ≤ t180) = true := decide_eq_true c25
                      clear c25
                      obtain ⟨ji26, hji26⟩ : ∃ j_ : Int, (shl .i64 1 t180) = j_ := ⟨_, rfl⟩
                      replace H : (footlockerlaw11_SymbolBack.j1 kj8 t171 t172 t173 t179 (decide (t181 ≥ (ji26)))) = some r := by first | (rw [hji26] at H; exact H) | (simp only [hji26] at H ⊢; exact H)
                      have hji26_ : (IntKind.i64.wrap (1 * 2 ^ min t180.toNat 64)) = ji26 := hji26
                      have hji26z : t180 ≤ 64 → (IntKind.i64.wrap (1 * 2 ^ t180.toNat)) = ji26 := shl_small hji26
                      have hji26u : (IntKind.i64.wrap (2 ^ min t180.toNat 64)) = ji26 := by have h_ := hji26_; rw [Int.one_mul] at h_; exact h_
                      have hji26v : t180 ≤ 64 → (IntKind.i64.wrap (2 ^ t180.toNat)) = ji26 := fun hle_ => by have h_ := hji26z hle_; rw [Int.one_mul] at h_; exact h_
                      have hji26y : (wrap64 (1 * 2 ^ min t180.toNat 64)) = ji26 := (i64_w _).symm.trans hji26_
                      have hji26x : t180 ≤ 64 → (wrap64 (1 * 2 ^ t180.toNat)) = ji26 := fun h_ => (i64_w _).symm.trans (hji26z h_)
                      have H' := Aside0.mk H
                      clear H
                      go_wp2
                      go_meet
                      case rel => exact ⟨_, (decide (t181 ≥ (ji26))), (by first | rfl | (simp; done) | (simp only [← hji26] <;> (first | rfl | simp)) | (simp [*]; done)), H', ⟨by have := HJ8.out; first | omega | exact Nat.le_refl _⟩, ⟨by repeat (first | (with_reducible first | exact HB.out | apply below_alloc | apply pw_below_drewN | apply below_drew1) | exact HB.out)⟩⟩
                    · rw [if_neg c25] at H
                      exact absurd H (by simp)
                · rw [if_neg c23] at H
                  have c23b0 : ((wrap64 (t182 + t181)) == t172) = false := beq_eq_false_iff_ne.mpr c23
                  have c23b1 : ((wrap64 (t182 + t181)) != t172) = true := bne_iff_ne.mpr c23
                  have H' := Aside0.mk H
                  clear H
                  go_wp2
                  go_meet
                  case rel => exact ⟨_, (true), (by first | rfl | (simp; done) | (simp [*]; done)), H', ⟨by have := HJ8.out; first | omega | exact Nat.le_refl _⟩, ⟨by repeat (first | (with_reducible first | exact HB.out | apply below_alloc | apply pw_below_drewN | apply below_drew1) | exact HB.out)⟩⟩
              · rw [if_neg c22] at H
                have c22b0 : (t183 == t180) = false := beq_eq_false_iff_ne.mpr c22
                have c22b1 : (t183 != t180) = true := bne_iff_ne.mpr c22
                (first | rw [c22b0] | (simp only [i64_w, i32_w]; rw [c22b0]) | skip)
                have H' := Aside0.mk H
                clear H
                go_wp2
                go_meet
                case rel => exact ⟨_, (true), (by first | rfl | (simp; done) | (simp [*]; done)), H', ⟨by have := HJ8.out; first | omega | exact Nat.le_refl _⟩, ⟨by repeat (first | (with_reducible first | exact HB.out | apply below_alloc | apply pw_below_drewN | apply below_drew1) | exact HB.out)⟩⟩
            · replace c21 := Bool.eq_false_iff.mpr c21
              subst c21
              have H1 : (footlockerlaw11_SymbolBack.j1 kj8 t171 t172 t173 t179 true) = some r := by rw [if_neg (show ¬ (false = true) by decide)] at H; exact H
              clear H
              have H := H1
              clear H1
              have H' := Aside0.mk H
              clear H
              go_wp2
              go_meet
              case rel => exact ⟨_, (true), (by first | rfl | (simp; done) | (simp [*]; done)), H', ⟨by have := HJ8.out; first | omega | exact Nat.le_refl _⟩, ⟨by repeat (first | (with_reducible first | exact HB.out | apply below_alloc | apply pw_below_drewN | apply below_drew1) | exact HB.out)⟩⟩
          case rest =>
            clear HC20
            try clear c1
            try clear c2
            try clear p2
            try clear c4
            try clear c6
            try clear p6
            try clear c7
            try clear c9
            try clear c11
            try clear c12
            try clear c12b0
            try clear c12b1
            try clear c13
            try clear c13b0
            try clear c13b1
            try clear c14
            try clear c14b0
            try clear c15
            try clear c15b0
            try clear c15b1
            try clear c17
            try clear c18
            try clear c21
            try clear c22
            try clear c22b0
            try clear c22b1
            try clear c23
            try clear c23b0
            try clear c23b1
            try clear c24
            try clear c24b0
            try clear c25
            try clear c25b0
            try clear c25b1
            try clear p2
            try clear p6
            obtain ⟨kq, x100_19, rfl, HA, HJ19, HB⟩ := hcut
            cases kq with
            | zero => exact absurd HA.out (by simp [footlockerlaw11_SymbolBack.j1])
            | succ kj19 =>
              have H := HA.out
              clear HA
              simp only [footlockerlaw11_SymbolBack.j1] at H
              by_cases c27 : x100_19 = true
              · subst c27
                have H1 : (some false) = some r := by rw [if_pos rfl] at H; exact H
                clear H
                have H := H1
                clear H1
                obtain rfl := Option.some.inj H
                go_wp2
                go_ret
                exact ⟨by first | rfl | (simp [errW_none, errW_some] <;> rfl) | (simp [*, errW_none, errW_some] <;> rfl), by repeat (first | (with_reducible first | exact HB.out | apply below_alloc | apply pw_below_drewN | apply below_drew1) | exact HB.out)⟩
              · replace c27 := Bool.eq_false_iff.mpr c27
                subst c27
                have H1 : ((symbol_Length.f kj19 (mn (wrap64 (t171 + 1)) 258)).bind fun bt185 => ((symbol_Dist.f kj19 (mn (wrap64 (t172 + 1)) 32768)).bind fun bt188 => (if bt185.1 ≥ t173 then (if bt185.1 ≤ (wrap64 (t173 + 1)) then (if bt188.1 ≥ t179 then (some (decide (bt188.1 ≤ (wrap64 (t179 + 1))))) else (some false)) else (some false)) else (some false)))) = some r := by rw [if_neg (show ¬ (false = true) by decide)] at H; exact H
                clear H
                have H := H1
                clear H1
                obtain ⟨ji28, hji28⟩ : ∃ j_ : Int, (mn (wrap64 (t171 + 1)) 258) = j_ := ⟨_, rfl⟩
                replace H : ((symbol_Length.f kj19 (ji28)).bind fun bt185 => ((symbol_Dist.f kj19 (mn (wrap64 (t172 + 1)) 32768)).bind fun bt188 => (if bt185.1 ≥ t173 then (if bt185.1 ≤ (wrap64 (t173 + 1)) then (if bt188.1 ≥ t179 then (some (decide (bt188.1 ≤ (wrap64 (t179 + 1))))) else (some false)) else (some false)) else (some false)))) = some r := by first | (rw [hji28] at H; exact H) | (simp only [hji28] at H ⊢; exact H)
                have hji28_ : (if 258 < (wrap64 (t171 + 1)) then 258 else (wrap64 (t171 + 1))) = ji28 := hji28
                replace H := Option.bind_eq_some_iff.mp H
                obtain ⟨⟨t185, t186, t187⟩, A290, H⟩ := H
                replace H : ((symbol_Dist.f kj19 (mn (wrap64 (t172 + 1)) 32768)).bind fun bt188 => (if t185 ≥ t173 then (if t185 ≤ (wrap64 (t173 + 1)) then (if bt188.1 ≥ t179 then (some (decide (bt188.1 ≤ (wrap64 (t179 + 1))))) else (some false)) else (some false)) else (some false))) = some r := H
                have A29 := Aside0.mk A290
                clear A290
                obtain ⟨ji30, hji30⟩ : ∃ j_ : Int, (mn (wrap64 (t172 + 1)) 32768) = j_ := ⟨_, rfl⟩
                replace H : ((symbol_Dist.f kj19 (ji30)).bind fun bt188 => (if t185 ≥ t173 then (if t185 ≤ (wrap64 (t173 + 1)) then (if bt188.1 ≥ t179 then (some (decide (bt188.1 ≤ (wrap64 (t179 + 1))))) else (some false)) else (some false)) else (some false))) = some r := by first | (rw [hji30] at H; exact H) | (simp only [hji30] at H ⊢; exact H)
                (try rw [hji30] at A29)
                have hji30_ : (if 32768 < (wrap64 (t172 + 1)) then 32768 else (wrap64 (t172 + 1))) = ji30 := hji30
                replace H := Option.bind_eq_some_iff.mp H
                obtain ⟨⟨t188, t189, t190⟩, A310, H⟩ := H
                replace H : (if t185 ≥ t173 then (if t185 ≤ (wrap64 (t173 + 1)) then (if t188 ≥ t179 then (some (decide (t188 ≤ (wrap64 (t179 + 1))))) else (some false)) else (some false)) else (some false)) = some r := H
                have A31 := Aside0.mk A310
                clear A310
                by_cases c32 : t185 ≥ t173
                · rw [if_pos c32] at H
                  have c32b0 : decide (t173 ≤ t185) = true := decide_eq_true c32
                  clear c32
                  by_cases c33 : t185 ≤ (wrap64 (t173 + 1))
                  · rw [if_pos c33] at H
                    have c33b0 : decide (t185 ≤ (wrap64 (t173 + 1))) = true := decide_eq_true c33
                    clear c33
                    by_cases c34 : t188 ≥ t179
                    · rw [if_pos c34] at H
                      have c34b0 : decide (t179 ≤ t188) = true := decide_eq_true c34
                      clear c34
                      obtain rfl := Option.some.inj H
                      go_wp2_with (first | ((with_reducible refine gate_callee (f := 7) rfl ?_); refine goesL_ (some 105) rfl rfl Tryd.func7 (by kernel_rfl) rfl #[.int .i64 ji28] rfl (by (try simp only [List.map_toArray, List.map_cons, List.map_nil]); first | done | (simp only [hji28]; rfl) | rfl | (simp only [List.length_drop, List.length_take]; rfl)) ?_; (with_reducible refine (symbol_Length.calls kj19 ji28 t185 t186 t187 _ (by first | exact HG.out | exact Laid.below HG.out HB.out | (repeat (first | exact HG.out | with_reducible exact Laid.below HG.out HB.out | apply Laid.drewN | apply Laid.drew | apply Laid.alloc))) A29.out).mono ?_); rintro e w' ⟨rfl, ⟨nd, rfl⟩⟩; refine ⟨_, rfl, ?_⟩) | ((with_reducible refine gate_callee (f := 9) rfl ?_); refine goesL_ (some 113) rfl rfl Tryd.func9 (by kernel_rfl) rfl #[.int .i64 ji30] rfl (by (try simp only [List.map_toArray, List.map_cons, List.map_nil]); first | done | (simp only [hji30]; rfl) | rfl | (simp only [List.length_drop, List.length_take]; rfl)) ?_; (with_reducible refine (symbol_Dist.calls kj19 ji30 t188 t189 t190 _ (by first | exact HG.out | exact Laid.below HG.out HB.out | (repeat (first | exact HG.out | with_reducible exact Laid.below HG.out HB.out | apply Laid.drewN | apply Laid.drew | apply Laid.alloc))) A31.out).mono ?_); rintro e w' ⟨rfl, ⟨nd, rfl⟩⟩; refine ⟨_, rfl, ?_⟩))
                      go_ret
                      exact ⟨by first | rfl | (simp [errW_none, errW_some] <;> rfl) | (simp only [← hji28, ← hji30]; first | rfl | (simp [errW_none, errW_some] <;> rfl)) | (simp [*, errW_none, errW_some] <;> rfl), by repeat (first | (with_reducible first | exact HB.out | apply below_alloc | apply pw_below_drewN | apply below_drew1) | exact HB.out)⟩
                    · rw [if_neg c34] at H
                      have c34b0 : decide (t179 ≤ t188) = false := decide_eq_false c34
                      clear c34
                      obtain rfl := Option.some.inj H
                      go_wp2_with (first | ((with_reducible refine gate_callee (f := 7) rfl ?_); refine goesL_ (some 105) rfl rfl Tryd.func7 (by kernel_rfl) rfl #[.int .i64 ji28] rfl (by (try simp only [List.map_toArray, List.map_cons, List.map_nil]); first | done | (simp only [hji28]; rfl) | rfl | (simp only [List.length_drop, List.length_take]; rfl)) ?_; (with_reducible refine (symbol_Length.calls kj19 ji28 t185 t186 t187 _ (by first | exact HG.out | exact Laid.below HG.out HB.out | (repeat (first | exact HG.out | with_reducible exact Laid.below HG.out HB.out | apply Laid.drewN | apply Laid.drew | apply Laid.alloc))) A29.out).mono ?_); rintro e w' ⟨rfl, ⟨nd, rfl⟩⟩; refine ⟨_, rfl, ?_⟩) | ((with_reducible refine gate_callee (f := 9) rfl ?_); refine goesL_ (some 113) rfl rfl Tryd.func9 (by kernel_rfl) rfl #[.int .i64 ji30] rfl (by (try simp only [List.map_toArray, List.map_cons, List.map_nil]); first | done | (simp only [hji30]; rfl) | rfl | (simp only [List.length_drop, List.length_take]; rfl)) ?_; (with_reducible refine (symbol_Dist.calls kj19 ji30 t188 t189 t190 _ (by first | exact HG.out | exact Laid.below HG.out HB.out | (repeat (first | exact HG.out | with_reducible exact Laid.below HG.out HB.out | apply Laid.drewN | apply Laid.drew | apply Laid.alloc))) A31.out).mono ?_); rintro e w' ⟨rfl, ⟨nd, rfl⟩⟩; refine ⟨_, rfl, ?_⟩))
                      go_ret
                      exact ⟨by first | rfl | (simp [errW_none, errW_some] <;> rfl) | (simp only [← hji28, ← hji30]; first | rfl | (simp [errW_none, errW_some] <;> rfl)) | (simp [*, errW_none, errW_some] <;> rfl), by repeat (first | (with_reducible first | exact HB.out | apply below_alloc | apply pw_below_drewN | apply below_drew1) | exact HB.out)⟩
                  · rw [if_neg c33] at H
                    have c33b0 : decide (t185 ≤ (wrap64 (t173 + 1))) = false := decide_eq_false c33
                    clear c33
                    obtain rfl := Option.some.inj H
                    go_wp2_with (first | ((with_reducible refine gate_callee (f := 7) rfl ?_); refine goesL_ (some 105) rfl rfl Tryd.func7 (by kernel_rfl) rfl #[.int .i64 ji28] rfl (by (try simp only [List.map_toArray, List.map_cons, List.map_nil]); first | done | (simp only [hji28]; rfl) | rfl | (simp only [List.length_drop, List.length_take]; rfl)) ?_; (with_reducible refine (symbol_Length.calls kj19 ji28 t185 t186 t187 _ (by first | exact HG.out | exact Laid.below HG.out HB.out | (repeat (first | exact HG.out | with_reducible exact Laid.below HG.out HB.out | apply Laid.drewN | apply Laid.drew | apply Laid.alloc))) A29.out).mono ?_); rintro e w' ⟨rfl, ⟨nd, rfl⟩⟩; refine ⟨_, rfl, ?_⟩) | ((with_reducible refine gate_callee (f := 9) rfl ?_); refine goesL_ (some 113) rfl rfl Tryd.func9 (by kernel_rfl) rfl #[.int .i64 ji30] rfl (by (try simp only [List.map_toArray, List.map_cons, List.map_nil]); first | done | (simp only [hji30]; rfl) | rfl | (simp only [List.length_drop, List.length_take]; rfl)) ?_; (with_reducible refine (symbol_Dist.calls kj19 ji30 t188 t189 t190 _ (by first | exact HG.out | exact Laid.below HG.out HB.out | (repeat (first | exact HG.out | with_reducible exact Laid.below HG.out HB.out | apply Laid.drewN | apply Laid.drew | apply Laid.alloc))) A31.out).mono ?_); rintro e w' ⟨rfl, ⟨nd, rfl⟩⟩; refine ⟨_, rfl, ?_⟩))
                    go_ret
                    exact ⟨by first | rfl | (simp [errW_none, errW_some] <;> rfl) | (simp only [← hji28, ← hji30]; first | rfl | (simp [errW_none, errW_some] <;> rfl)) | (simp [*, errW_none, errW_some] <;> rfl), by repeat (first | (with_reducible first | exact HB.out | apply below_alloc | apply pw_below_drewN | apply below_drew1) | exact HB.out)⟩
                · rw [if_neg c32] at H
                  have c32b0 : decide (t173 ≤ t185) = false := decide_eq_false c32
                  clear c32
                  obtain rfl := Option.some.inj H
                  go_wp2_with (first | ((with_reducible refine gate_callee (f := 7) rfl ?_); refine goesL_ (some 105) rfl rfl Tryd.func7 (by kernel_rfl) rfl #[.int .i64 ji28] rfl (by (try simp only [List.map_toArray, List.map_cons, List.map_nil]); first | done | (simp only [hji28]; rfl) | rfl | (simp only [List.length_drop, List.length_take]; rfl)) ?_; (with_reducible refine (symbol_Length.calls kj19 ji28 t185 t186 t187 _ (by first | exact HG.out | exact Laid.below HG.out HB.out | (repeat (first | exact HG.out | with_reducible exact Laid.below HG.out HB.out | apply Laid.drewN | apply Laid.drew | apply Laid.alloc))) A29.out).mono ?_); rintro e w' ⟨rfl, ⟨nd, rfl⟩⟩; refine ⟨_, rfl, ?_⟩) | ((with_reducible refine gate_callee (f := 9) rfl ?_); refine goesL_ (some 113) rfl rfl Tryd.func9 (by kernel_rfl) rfl #[.int .i64 ji30] rfl (by (try simp only [List.map_toArray, List.map_cons, List.map_nil]); first | done | (simp only [hji30]; rfl) | rfl | (simp only [List.length_drop, List.length_take]; rfl)) ?_; (with_reducible refine (symbol_Dist.calls kj19 ji30 t188 t189 t190 _ (by first | exact HG.out | exact Laid.below HG.out HB.out | (repeat (first | exact HG.out | with_reducible exact Laid.below HG.out HB.out | apply Laid.drewN | apply Laid.drew | apply Laid.alloc))) A31.out).mono ?_); rintro e w' ⟨rfl, ⟨nd, rfl⟩⟩; refine ⟨_, rfl, ?_⟩))
                  go_ret
                  exact ⟨by first | rfl | (simp [errW_none, errW_some] <;> rfl) | (simp only [← hji28, ← hji30]; first | rfl | (simp [errW_none, errW_some] <;> rfl)) | (simp [*, errW_none, errW_some] <;> rfl), by repeat (first | (with_reducible first | exact HB.out | apply below_alloc | apply pw_below_drewN | apply below_drew1) | exact HB.out)⟩
  · replace c4 := Bool.eq_false_iff.mpr c4
    subst c4
    have H1 : (some false) = some r := by rw [if_neg (show ¬ (false = true) by decide)] at H; exact H
    clear H
    have H := H1
    clear H1
    obtain rfl := Option.some.inj H
    go_enter Tryd.func4, Tryd.ntmps4
    go_wp2_with (first | ((with_reducible refine gate_callee (f := 6) rfl ?_); refine goesL_ (some 23) rfl rfl Tryd.func6 (by kernel_rfl) rfl #[] rfl (by (try simp only [List.map_toArray, List.map_cons, List.map_nil]); first | done | rfl | (simp only [List.length_drop, List.length_take]; rfl)) ?_; (with_reducible refine (footlockerlaw11_alive.calls k  false _ (by first | exact HG.out | exact Laid.below HG.out HB.out | (repeat (first | exact HG.out | with_reducible exact Laid.below HG.out HB.out | apply Laid.drewN | apply Laid.drew | apply Laid.alloc))) A3.out).mono ?_); rintro e w35 ⟨rfl, hb⟩; refine ⟨_, rfl, ?_⟩; have n0_ := Aside0.mk (below_step (by repeat (first | (with_reducible first | exact HB.out | apply below_alloc | apply pw_below_drewN | apply below_drew1) | exact HB.out)) hb); clear HB; have HB := n0_; clear n0_; (try clear hb); (try clear hb2); (try clear hk); (try clear hi)))
    go_ret
    exact ⟨by first | rfl | (simp [errW_none, errW_some] <;> rfl) | (simp [*, errW_none, errW_some] <;> rfl), by repeat (first | (with_reducible first | exact HB.out | apply below_alloc | apply pw_below_drewN | apply below_drew1) | exact HB.out)⟩

/-- THE ONE PURE STATEMENT of footlockerlaw11_SymbolBack: yours. -/
def footlockerlaw11_SymbolBack.Pure : Prop := ∀ (a0 : Int) (a1 : Int), (Lit.int .i64 a0).wf = true → (Lit.int .i64 a1).wf = true → ∃ k, footlockerlaw11_SymbolBack.f k a0 a1 = some true
theorem footlockerlaw11_SymbolBack.walk (P : footlockerlaw11_SymbolBack.Pure) (a0 : Int) (a1 : Int) (w : World) (hG : Laid w) (w0 : (Lit.int .i64 a0).wf = true) (w1 : (Lit.int .i64 a1).wf = true) :
    Calls Tryd.prog 4 #[.int .i64 a0, .int .i64 a1] w fun e w' => e = .returned (.bool true) ∧ Below w.heap.size w w' := by
  obtain ⟨k, h⟩ := P a0 a1 w0 w1
  refine (footlockerlaw11_SymbolBack.calls k a0 a1 true w hG h).mono ?_
  rintro e w' ⟨rfl, hd⟩
  exact ⟨rfl, hd⟩

end Go.Proofs.YtabaodikcgaliaaDoor.P
