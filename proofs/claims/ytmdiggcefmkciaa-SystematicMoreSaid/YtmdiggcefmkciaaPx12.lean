/- Functions of the Go program as Lean functions, each with a proof that the Go code answers just so; each theorem states its own conditions. Written by a program. -/
import Derived.Test.YtmdiggcefmkciaaPx0
import Derived.Test.YtmdiggcefmkciaaPx3
import Derived.Test.YtmdiggcefmkciaaPx5
namespace Go.Proofs.Ytmdiggcefmkciaa.P
open Go.RowKit Go.Proofs.YtmdiggcefmkciaaW.PrintWords Go.Proofs.YtmdiggcefmkciaaW.PrintLast Go.Proofs.YtmdiggcefmkciaaW.PrintMore
attribute [local go_sem] max2_int min2_int max_two min_two max_three min_three max_four min_four   -- for this text's walks alone
set_option linter.unusedVariables false
set_option linter.unusedSimpArgs false

/-! ### footlockerlaw04_SystematicMore: function 6 -/
mutual
def footlockerlaw04_SystematicMore.j0 : Nat → List Int → Int → Int → Int → Bool → Option (Bool)
  | 0, _, _, _, _, _ => none
  | k + 1, x0, x1, x2, x7, x33 => if x33 = true then (some true) else ((systematic_Encode.f k x0 x1).bind fun bt473 => ((systematic_Encode.f k x0 (wrap64 (x1 + (Go.bits .and .i64 x2 7)))).bind fun bt477 => (if bt473.2 = 0 then (if bt477.2 = 0 then (if (bt473.1.length : Int) = x1 then (if (bt477.1.length : Int) = (wrap64 (x1 + (Go.bits .and .i64 x2 7))) then (if 0 ≤ x1 then (if x1 ≤ (bt477.1.length : Int) then ((footlockerref01_Same.f k (bt477.1.take (x1 : Int).toNat) bt473.1).bind fun t485 => (footlockerlaw04_SystematicMore.j1 k x0 x7 bt477.1 (!t485))) else (none)) else (none)) else (footlockerlaw04_SystematicMore.j1 k x0 x7 bt477.1 true)) else (footlockerlaw04_SystematicMore.j1 k x0 x7 bt477.1 true)) else (footlockerlaw04_SystematicMore.j1 k x0 x7 bt477.1 true)) else (footlockerlaw04_SystematicMore.j1 k x0 x7 bt477.1 true))))
def footlockerlaw04_SystematicMore.j1 : Nat → List Int → Int → List Int → Bool → Option (Bool)
  | 0, _, _, _, _ => none
  | k + 1, x0, x7, x10, x77 => if x77 = true then (some false) else ((footlockerref01_Copy.f x0).bind fun t486 => (if t486.length + x10.length < 140737488355328 then (footlockerlaw04_SystematicMore.l0 k x7 (t486 ++ x10) x7) else (none)))
def footlockerlaw04_SystematicMore.l0 : Nat → Int → List Int → Int → Option (Bool)
  | 0, _, _, _ => none
  | k + 1, x7, x12, x13 => if x13 ≤ (x12.length : Int) then ((systematic_Is.f k x12 x13).bind fun t495 => (if t495 = true then (if 0 ≤ x13 then ((systematic_Is.f k (x12.take (x13 : Int).toNat) x7).bind fun t500 => (if t500 = true then (footlockerlaw04_SystematicMore.l0 k x7 x12 (wrap64 (x13 + 1))) else (some false))) else (none)) else (some false))) else ((systematic_At.f k x12 x7 (wrap64 ((x12.length : Int) - 1))).bind fun bt492 => (if bt492.2 = true then (if 0 ≤ (wrap64 ((x12.length : Int) - 1)) then (if (wrap64 ((x12.length : Int) - 1)) < (x12.length : Int) then (some (bt492.1 == (rd x12 (wrap64 ((x12.length : Int) - 1))))) else (none)) else (none)) else (some false)))
end
def footlockerlaw04_SystematicMore.f (k : Nat) (l0 : List Int) (a1 : Int) (a2 : Int) : Option (Bool) := (footlockerlaw04_alive.f k).bind fun t472 => (if t472 = true then (if (l0.length : Int) = 0 then (footlockerlaw04_SystematicMore.j0 k l0 a1 a2 (l0.length : Int) true) else (if (l0.length : Int) > 12 then (footlockerlaw04_SystematicMore.j0 k l0 a1 a2 (l0.length : Int) true) else (if a1 < 0 then (footlockerlaw04_SystematicMore.j0 k l0 a1 a2 (l0.length : Int) true) else (footlockerlaw04_SystematicMore.j0 k l0 a1 a2 (l0.length : Int) (decide (a1 > 6)))))) else (some false))
theorem footlockerlaw04_SystematicMore.mono_l : ∀ k, (∀ y0 y1 y2 y3 y4, LeO (footlockerlaw04_SystematicMore.j0 k y0 y1 y2 y3 y4) (footlockerlaw04_SystematicMore.j0 (k + 1) y0 y1 y2 y3 y4)) ∧ (∀ y0 y1 y2 y3, LeO (footlockerlaw04_SystematicMore.j1 k y0 y1 y2 y3) (footlockerlaw04_SystematicMore.j1 (k + 1) y0 y1 y2 y3)) ∧ (∀ y0 y1 y2, LeO (footlockerlaw04_SystematicMore.l0 k y0 y1 y2) (footlockerlaw04_SystematicMore.l0 (k + 1) y0 y1 y2))
  | 0 => ⟨fun _ _ _ _ _ r h => by simp [footlockerlaw04_SystematicMore.j0] at h, fun _ _ _ _ r h => by simp [footlockerlaw04_SystematicMore.j1] at h, fun _ _ _ r h => by simp [footlockerlaw04_SystematicMore.l0] at h⟩
  | k + 1 => by
    obtain ⟨ih0, ih1, ih2⟩ := footlockerlaw04_SystematicMore.mono_l k
    refine ⟨?_, ?_, ?_⟩
    · intro y0 y1 y2 y3 y4
      unfold footlockerlaw04_SystematicMore.j0
      repeat' first
      | (with_reducible exact ih0 _ _ _ _ _)
      | (with_reducible exact ih1 _ _ _ _)
      | (with_reducible exact ih2 _ _ _)
      | (with_reducible exact footlockerlaw04_alive.mono _)
      | (with_reducible exact footlockerref01_Same.mono _ _ _)
      | (with_reducible exact systematic_At.mono _ _ _ _)
      | (with_reducible exact systematic_Encode.mono _ _ _)
      | (with_reducible exact systematic_Is.mono _ _ _)
      | (with_reducible exact LeO.refl _)
      | (with_reducible exact LeO.none _)
      | (with_reducible refine LeO.ite ?_ ?_)
      | (with_reducible refine LeO.bind ?_ (fun _ => ?_))
      | exact ih0 _ _ _ _ _
      | exact ih1 _ _ _ _
      | exact ih2 _ _ _
      | exact footlockerlaw04_alive.mono _
      | exact footlockerref01_Same.mono _ _ _
      | exact systematic_At.mono _ _ _ _
      | exact systematic_Encode.mono _ _ _
      | exact systematic_Is.mono _ _ _
      | exact LeO.none _
      | refine LeO.ite ?_ ?_
      | refine LeO.bind ?_ (fun _ => ?_)
    · intro y0 y1 y2 y3
      unfold footlockerlaw04_SystematicMore.j1
      repeat' first
      | (with_reducible exact ih0 _ _ _ _ _)
      | (with_reducible exact ih1 _ _ _ _)
      | (with_reducible exact ih2 _ _ _)
      | (with_reducible exact footlockerlaw04_alive.mono _)
      | (with_reducible exact footlockerref01_Same.mono _ _ _)
      | (with_reducible exact systematic_At.mono _ _ _ _)
      | (with_reducible exact systematic_Encode.mono _ _ _)
      | (with_reducible exact systematic_Is.mono _ _ _)
      | (with_reducible exact LeO.refl _)
      | (with_reducible exact LeO.none _)
      | (with_reducible refine LeO.ite ?_ ?_)
      | (with_reducible refine LeO.bind ?_ (fun _ => ?_))
      | exact ih0 _ _ _ _ _
      | exact ih1 _ _ _ _
      | exact ih2 _ _ _
      | exact footlockerlaw04_alive.mono _
      | exact footlockerref01_Same.mono _ _ _
      | exact systematic_At.mono _ _ _ _
      | exact systematic_Encode.mono _ _ _
      | exact systematic_Is.mono _ _ _
      | exact LeO.none _
      | refine LeO.ite ?_ ?_
      | refine LeO.bind ?_ (fun _ => ?_)
    · intro y0 y1 y2
      unfold footlockerlaw04_SystematicMore.l0
      repeat' first
      | (with_reducible exact ih0 _ _ _ _ _)
      | (with_reducible exact ih1 _ _ _ _)
      | (with_reducible exact ih2 _ _ _)
      | (with_reducible exact footlockerlaw04_alive.mono _)
      | (with_reducible exact footlockerref01_Same.mono _ _ _)
      | (with_reducible exact systematic_At.mono _ _ _ _)
      | (with_reducible exact systematic_Encode.mono _ _ _)
      | (with_reducible exact systematic_Is.mono _ _ _)
      | (with_reducible exact LeO.refl _)
      | (with_reducible exact LeO.none _)
      | (with_reducible refine LeO.ite ?_ ?_)
      | (with_reducible refine LeO.bind ?_ (fun _ => ?_))
      | exact ih0 _ _ _ _ _
      | exact ih1 _ _ _ _
      | exact ih2 _ _ _
      | exact footlockerlaw04_alive.mono _
      | exact footlockerref01_Same.mono _ _ _
      | exact systematic_At.mono _ _ _ _
      | exact systematic_Encode.mono _ _ _
      | exact systematic_Is.mono _ _ _
      | exact LeO.none _
      | refine LeO.ite ?_ ?_
      | refine LeO.bind ?_ (fun _ => ?_)
theorem footlockerlaw04_SystematicMore.mono : ∀ a0 a1 a2 k, LeO (footlockerlaw04_SystematicMore.f k a0 a1 a2) (footlockerlaw04_SystematicMore.f (k + 1) a0 a1 a2) := by
  intro a0 a1 a2 k
  obtain ⟨ih0, ih1, ih2⟩ := footlockerlaw04_SystematicMore.mono_l k
  unfold footlockerlaw04_SystematicMore.f
  repeat' first
      | (with_reducible exact ih0 _ _ _ _ _)
      | (with_reducible exact ih1 _ _ _ _)
      | (with_reducible exact ih2 _ _ _)
      | (with_reducible exact footlockerlaw04_alive.mono _)
      | (with_reducible exact footlockerref01_Same.mono _ _ _)
      | (with_reducible exact systematic_At.mono _ _ _ _)
      | (with_reducible exact systematic_Encode.mono _ _ _)
      | (with_reducible exact systematic_Is.mono _ _ _)
      | (with_reducible exact LeO.refl _)
      | (with_reducible exact LeO.none _)
      | (with_reducible refine LeO.ite ?_ ?_)
      | (with_reducible refine LeO.bind ?_ (fun _ => ?_))
      | exact ih0 _ _ _ _ _
      | exact ih1 _ _ _ _
      | exact ih2 _ _ _
      | exact footlockerlaw04_alive.mono _
      | exact footlockerref01_Same.mono _ _ _
      | exact systematic_At.mono _ _ _ _
      | exact systematic_Encode.mono _ _ _
      | exact systematic_Is.mono _ _ _
      | exact LeO.none _
      | refine LeO.ite ?_ ?_
      | refine LeO.bind ?_ (fun _ => ?_)
set_option maxHeartbeats 8000000 in
set_option maxRecDepth 100000 in
theorem footlockerlaw04_SystematicMore.calls (k : Nat) (A0 : Option Addr) (c0 : Nat) (l0 : List Int) (a1 : Int) (a2 : Int) (r : Bool) (w : World) (hr0 : Kd.C (Kd.int .u8) w A0 l0.length l0) (hc0 : l0.length ≤ c0) (h : footlockerlaw04_SystematicMore.f k l0 a1 a2 = some r) :
    Calls Try.prog 6 #[.slice A0 l0.length c0, .int .i64 a1, .int .i64 a2] w fun e w' => e = .returned (.bool r) ∧ Below w.heap.size w w' := by
  have HR0 := Aside0.mk hr0
  have HC0 := Aside0.mk hc0
  clear hr0 hc0
  have HB := Aside0.mk (Below.refl w.heap.size w)
  have H : ((footlockerlaw04_alive.f k).bind fun t472 => (if t472 = true then (if (l0.length : Int) = 0 then (footlockerlaw04_SystematicMore.j0 k l0 a1 a2 (l0.length : Int) true) else (if (l0.length : Int) > 12 then (footlockerlaw04_SystematicMore.j0 k l0 a1 a2 (l0.length : Int) true) else (if a1 < 0 then (footlockerlaw04_SystematicMore.j0 k l0 a1 a2 (l0.length : Int) true) else (footlockerlaw04_SystematicMore.j0 k l0 a1 a2 (l0.length : Int) (decide (a1 > 6)))))) else (some false))) = some r := h
  clear h
  replace H := Option.bind_eq_some_iff.mp H
  obtain ⟨t472, A40, H⟩ := H
  replace H : (if t472 = true then (if (l0.length : Int) = 0 then (footlockerlaw04_SystematicMore.j0 k l0 a1 a2 (l0.length : Int) true) else (if (l0.length : Int) > 12 then (footlockerlaw04_SystematicMore.j0 k l0 a1 a2 (l0.length : Int) true) else (if a1 < 0 then (footlockerlaw04_SystematicMore.j0 k l0 a1 a2 (l0.length : Int) true) else (footlockerlaw04_SystematicMore.j0 k l0 a1 a2 (l0.length : Int) (decide (a1 > 6)))))) else (some false)) = some r := H
  have A4 := Aside0.mk A40
  clear A40
  by_cases c5 : t472 = true
  · subst c5
    have H1 : (if (l0.length : Int) = 0 then (footlockerlaw04_SystematicMore.j0 k l0 a1 a2 (l0.length : Int) true) else (if (l0.length : Int) > 12 then (footlockerlaw04_SystematicMore.j0 k l0 a1 a2 (l0.length : Int) true) else (if a1 < 0 then (footlockerlaw04_SystematicMore.j0 k l0 a1 a2 (l0.length : Int) true) else (footlockerlaw04_SystematicMore.j0 k l0 a1 a2 (l0.length : Int) (decide (a1 > 6)))))) = some r := by rw [if_pos rfl] at H; exact H
    clear H
    have H := H1
    clear H1
    have HC6 := Aside0.mk H
    clear H
    go_enter Try.func6, Try.ntmps6
    go_upto_region 4 with (first | ((with_reducible refine gate_callee (f := 7) rfl ?_); refine goesL_ (some 16) rfl rfl Try.func7 (by kernel_rfl) rfl #[] rfl (by (try simp only [List.map_toArray, List.map_cons, List.map_nil]); first | done | rfl | (simp only [List.length_drop, List.length_take]; rfl)) ?_; (with_reducible refine (footlockerlaw04_alive.calls k  true _ A4.out).mono ?_); rintro e w7 ⟨rfl, hb⟩; refine ⟨_, rfl, ?_⟩; have n0_ := Aside0.mk (below_step (by repeat (first | (with_reducible first | exact HB.out | apply below_alloc | apply pw_below_drewN | apply below_drew1) | exact HB.out)) hb); clear HB; have HB := n0_; clear n0_; (try clear hb); (try clear hb2); (try clear hk); (try clear hi)))
    (try simp only [Act.put, List.setIfInBounds_toArray, List.set_cons_zero, List.set_cons_succ])
    go_cut [33] (fun v33 wc => ∃ (kq : Nat) (x33_5 : Bool), v33 = .bool x33_5 ∧ Aside0 (footlockerlaw04_SystematicMore.j0 kq l0 a1 a2 (l0.length : Int) x33_5 = some r) ∧ Aside0 (kq ≤ k) ∧ Aside0 (Below w.heap.size w wc))
    case first =>
      have H := HC6.out
      clear HC6
      by_cases c8 : (l0.length : Int) = 0
      · rw [if_pos c8] at H
        have c8b0 : ((l0.length : Int) == 0) = true := beq_iff_eq.mpr c8
        have c8b1 : ((l0.length : Int) != 0) = false := bne_eq_false_iff_eq.mpr c8
        clear c8
        (first | rw [c8b0] | (simp only [i64_w, i32_w]; rw [c8b0]) | skip)
        have H' := Aside0.mk H
        clear H
        go_wp2
        go_meet
        case rel => exact ⟨_, (true), (by first | rfl | (simp; done) | (simp [*]; done)), H', ⟨by first | omega | exact Nat.le_refl _⟩, ⟨by repeat (first | (with_reducible first | exact HB.out | apply below_alloc | apply pw_below_drewN | apply below_drew1) | exact HB.out)⟩⟩
      · rw [if_neg c8] at H
        have c8b0 : ((l0.length : Int) == 0) = false := beq_eq_false_iff_ne.mpr c8
        have c8b1 : ((l0.length : Int) != 0) = true := bne_iff_ne.mpr c8
        have c8b2 : ¬ (l0 = []) := fun h_ => c8 (by rw [h_]; rfl)
        (first | rw [c8b0] | (simp only [i64_w, i32_w]; rw [c8b0]) | skip)
        by_cases c9 : (l0.length : Int) > 12
        · rw [if_pos c9] at H
          have c9b0 : decide (12 < (l0.length : Int)) = true := decide_eq_true c9
          have c9b1 : decide (12 < l0.length) = true := decide_eq_true (by omega)
          clear c9
          have H' := Aside0.mk H
          clear H
          go_wp2
          go_meet
          case rel => exact ⟨_, (true), (by first | rfl | (simp; done) | (simp [*]; done)), H', ⟨by first | omega | exact Nat.le_refl _⟩, ⟨by repeat (first | (with_reducible first | exact HB.out | apply below_alloc | apply pw_below_drewN | apply below_drew1) | exact HB.out)⟩⟩
        · rw [if_neg c9] at H
          have c9b0 : decide (12 < (l0.length : Int)) = false := decide_eq_false c9
          have c9b1 : decide (12 < l0.length) = false := decide_eq_false (by omega)
          clear c9
          by_cases c10 : a1 < 0
          · rw [if_pos c10] at H
            have c10b0 : decide (a1 < 0) = true := decide_eq_true c10
            clear c10
            have H' := Aside0.mk H
            clear H
            go_wp2
            go_meet
            case rel => exact ⟨_, (true), (by first | rfl | (simp; done) | (simp [*]; done)), H', ⟨by first | omega | exact Nat.le_refl _⟩, ⟨by repeat (first | (with_reducible first | exact HB.out | apply below_alloc | apply pw_below_drewN | apply below_drew1) | exact HB.out)⟩⟩
          · rw [if_neg c10] at H
            have c10b0 : decide (a1 < 0) = false := decide_eq_false c10
            clear c10
            have H' := Aside0.mk H
            clear H
            go_wp2
            go_meet
            case rel => exact ⟨_, (decide (a1 > 6)), (by first | rfl | (simp; done) | (simp [*]; done)), H', ⟨by first | omega | exact Nat.le_refl _⟩, ⟨by repeat (first | (with_reducible first | exact HB.out | apply below_alloc | apply pw_below_drewN | apply below_drew1) | exact HB.out)⟩⟩
    case rest =>
      clear HC6
      try clear c1
      try clear p2
      try clear c5
      try clear c6
      try clear c7
      try clear c8
      try clear c8b0
      try clear c8b1
      try clear c8b2
      try clear c9
      try clear c9b0
      try clear c9b1
      try clear c10
      try clear c10b0
      obtain ⟨kq, x33_5, rfl, HA, HJ5, HB⟩ := hcut
      cases kq with
      | zero => exact absurd HA.out (by simp [footlockerlaw04_SystematicMore.j0])
      | succ kj5 =>
        have H := HA.out
        clear HA
        simp only [footlockerlaw04_SystematicMore.j0] at H
        by_cases c11 : x33_5 = true
        · subst c11
          have H1 : (some true) = some r := by rw [if_pos rfl] at H; exact H
          clear H
          have H := H1
          clear H1
          obtain rfl := Option.some.inj H
          go_wp2
          go_ret
          exact ⟨by first | rfl | (simp [errW_none, errW_some] <;> rfl) | (simp [*, errW_none, errW_some] <;> rfl), by repeat (first | (with_reducible first | exact HB.out | apply below_alloc | apply pw_below_drewN | apply below_drew1) | exact HB.out)⟩
        · replace c11 := Bool.eq_false_iff.mpr c11
          subst c11
          have H1 : ((systematic_Encode.f kj5 l0 a1).bind fun bt473 => ((systematic_Encode.f kj5 l0 (wrap64 (a1 + (Go.bits .and .i64 a2 7)))).bind fun bt477 => (if bt473.2 = 0 then (if bt477.2 = 0 then (if (bt473.1.length : Int) = a1 then (if (bt477.1.length : Int) = (wrap64 (a1 + (Go.bits .and .i64 a2 7))) then (if 0 ≤ a1 then (if a1 ≤ (bt477.1.length : Int) then ((footlockerref01_Same.f kj5 (bt477.1.take (a1 : Int).toNat) bt473.1).bind fun t485 => (footlockerlaw04_SystematicMore.j1 kj5 l0 (l0.length : Int) bt477.1 (!t485))) else (none)) else (none)) else (footlockerlaw04_SystematicMore.j1 kj5 l0 (l0.length : Int) bt477.1 true)) else (footlockerlaw04_SystematicMore.j1 kj5 l0 (l0.length : Int) bt477.1 true)) else (footlockerlaw04_SystematicMore.j1 kj5 l0 (l0.length : Int) bt477.1 true)) else (footlockerlaw04_SystematicMore.j1 kj5 l0 (l0.length : Int) bt477.1 true)))) = some r := by rw [if_neg (show ¬ (false = true) by decide)] at H; exact H
          clear H
          have H := H1
          clear H1
          replace H := Option.bind_eq_some_iff.mp H
          obtain ⟨⟨t473, t474⟩, A120, H⟩ := H
          replace H : ((systematic_Encode.f kj5 l0 (wrap64 (a1 + (Go.bits .and .i64 a2 7)))).bind fun bt477 => (if t474 = 0 then (if bt477.2 = 0 then (if (t473.length : Int) = a1 then (if (bt477.1.length : Int) = (wrap64 (a1 + (Go.bits .and .i64 a2 7))) then (if 0 ≤ a1 then (if a1 ≤ (bt477.1.length : Int) then ((footlockerref01_Same.f kj5 (bt477.1.take (a1 : Int).toNat) t473).bind fun t485 => (footlockerlaw04_SystematicMore.j1 kj5 l0 (l0.length : Int) bt477.1 (!t485))) else (none)) else (none)) else (footlockerlaw04_SystematicMore.j1 kj5 l0 (l0.length : Int) bt477.1 true)) else (footlockerlaw04_SystematicMore.j1 kj5 l0 (l0.length : Int) bt477.1 true)) else (footlockerlaw04_SystematicMore.j1 kj5 l0 (l0.length : Int) bt477.1 true)) else (footlockerlaw04_SystematicMore.j1 kj5 l0 (l0.length : Int) bt477.1 true))) = some r := H
          have A12 := Aside0.mk A120
          clear A120
          replace H := Option.bind_eq_some_iff.mp H
          obtain ⟨⟨t477, t478⟩, A130, H⟩ := H
          replace H : (if t474 = 0 then (if t478 = 0 then (if (t473.length : Int) = a1 then (if (t477.length : Int) = (wrap64 (a1 + (Go.bits .and .i64 a2 7))) then (if 0 ≤ a1 then (if a1 ≤ (t477.length : Int) then ((footlockerref01_Same.f kj5 (t477.take (a1 : Int).toNat) t473).bind fun t485 => (footlockerlaw04_SystematicMore.j1 kj5 l0 (l0.length : Int) t477 (!t485))) else (none)) else (none)) else (footlockerlaw04_SystematicMore.j1 kj5 l0 (l0.length : Int) t477 true)) else (footlockerlaw04_SystematicMore.j1 kj5 l0 (l0.length : Int) t477 true)) else (footlockerlaw04_SystematicMore.j1 kj5 l0 (l0.length : Int) t477 true)) else (footlockerlaw04_SystematicMore.j1 kj5 l0 (l0.length : Int) t477 true)) = some r := H
          have A13 := Aside0.mk A130
          clear A130
          have HC14 := Aside0.mk H
          clear H
          go_upto_region 9 with (first | ((with_reducible refine gate_callee (f := 8) rfl ?_); refine goesL_ (some 39) rfl rfl Try.func8 (by kernel_rfl) rfl #[.slice A0 l0.length c0, .int .i64 a1] rfl (by (try simp only [List.map_toArray, List.map_cons, List.map_nil]); first | done | rfl | (simp only [List.length_drop, List.length_take]; rfl)) ?_; (with_reducible refine (systematic_Encode.calls kj5 _ _ l0 a1 t473 t474 _ ?side1 ?side2 A12.out).mono ?_); (case side1 => repeat (first | exact (Kd.C_below HR0.out HB.out) | (with_reducible refine Kd.C_alloc ?_ _) | (with_reducible refine Kd.C_drewN ?_ _) | (with_reducible refine Kd.C_drew ?_))); (case side2 => exact HC0.out); rintro e w15 ⟨v475, rfl, ho0, hb⟩; refine ⟨_, rfl, ?_⟩; have n0_ := Aside0.mk (Kd.R_lower ho0 (below_size (by repeat (first | (with_reducible first | exact HB.out | apply below_alloc | apply pw_below_drewN | apply below_drew1) | exact HB.out)))); have n1_ := Aside0.mk (below_step (by repeat (first | (with_reducible first | exact HB.out | apply below_alloc | apply pw_below_drewN | apply below_drew1) | exact HB.out)) hb); clear HB; have HO476 := n0_; have HB := n1_; clear n0_ n1_; (try clear hb); (try clear hb2); (try clear hk); (try clear hi); (try clear ho0)) | ((with_reducible refine gate_callee (f := 8) rfl ?_); refine goesL_ (some 47) rfl rfl Try.func8 (by kernel_rfl) rfl #[.slice A0 l0.length c0, .int .i64 (wrap64 (a1 + (Go.bits .and .i64 a2 7)))] rfl (by (try simp only [List.map_toArray, List.map_cons, List.map_nil]); first | done | rfl | (simp only [List.length_drop, List.length_take]; rfl)) ?_; (with_reducible refine (systematic_Encode.calls kj5 _ _ l0 (wrap64 (a1 + (Go.bits .and .i64 a2 7))) t477 t478 _ ?side1 ?side2 A13.out).mono ?_); (case side1 => repeat (first | exact (Kd.C_below HR0.out HB.out) | (with_reducible refine Kd.C_alloc ?_ _) | (with_reducible refine Kd.C_drewN ?_ _) | (with_reducible refine Kd.C_drew ?_))); (case side2 => exact HC0.out); rintro e w16 ⟨v479, rfl, ho0, hb⟩; refine ⟨_, rfl, ?_⟩; have n0_ := Aside0.mk (Kd.R_elder' (by (with_reducible repeat (first | apply Kd.R_alloc | apply Kd.R_drewN | apply Kd.R_drew)); exact HO476.out) (Kd.R_base ho0) hb); have n1_ := Aside0.mk (Kd.R_lower (Kd.R_new' ho0 (Kd.R_lt (by (with_reducible repeat (first | apply Kd.R_alloc | apply Kd.R_drewN | apply Kd.R_drew)); exact HO476.out))) (below_size (by repeat (first | (with_reducible first | exact HB.out | apply below_alloc | apply pw_below_drewN | apply below_drew1) | exact HB.out)))); have n2_ := Aside0.mk (below_step (by repeat (first | (with_reducible first | exact HB.out | apply below_alloc | apply pw_below_drewN | apply below_drew1) | exact HB.out)) hb); clear HO476; clear HB; have HO476 := n0_; have HO480 := n1_; have HB := n2_; clear n0_ n1_ n2_; (try clear hb); (try clear hb2); (try clear hk); (try clear hi); (try clear ho0)))
          (try simp only [Act.put, List.setIfInBounds_toArray, List.set_cons_zero, List.set_cons_succ])
          go_cut [77] (fun v77 wc => ∃ (kq : Nat) (x77_13 : Bool), v77 = .bool x77_13 ∧ Aside0 (footlockerlaw04_SystematicMore.j1 kq l0 (l0.length : Int) t477 x77_13 = some r) ∧ Aside0 (kq ≤ kj5) ∧ Aside0 (Kd.R (Kd.int .u8) 5 wc w.heap.size (fun _ => True) v479 t477) ∧ Aside0 (Below w.heap.size w wc))
          case first =>
            have H := HC14.out
            clear HC14
            by_cases c17 : t474 = 0
            · rw [if_pos c17] at H
              have c17b0 : (t474 == 0) = true := beq_iff_eq.mpr c17
              have c17b1 : (t474 != 0) = false := bne_eq_false_iff_eq.mpr c17
              clear c17
              (first | rw [c17b0] | (simp only [i64_w, i32_w]; rw [c17b0]) | skip)
              by_cases c18 : t478 = 0
              · rw [if_pos c18] at H
                have c18b0 : (t478 == 0) = true := beq_iff_eq.mpr c18
                have c18b1 : (t478 != 0) = false := bne_eq_false_iff_eq.mpr c18
                clear c18
                by_cases c19 : (t473.length : Int) = a1
                · rw [if_pos c19] at H
                  have c19b0 : ((t473.length : Int) == a1) = true := beq_iff_eq.mpr c19
                  have c19b1 : ((t473.length : Int) != a1) = false := bne_eq_false_iff_eq.mpr c19
                  clear c19
                  by_cases c20 : (t477.length : Int) = (wrap64 (a1 + (Go.bits .and .i64 a2 7)))
                  · rw [if_pos c20] at H
                    have c20b0 : ((t477.length : Int) == (wrap64 (a1 + (Go.bits .and .i64 a2 7)))) = true := beq_iff_eq.mpr c20
                    have c20b1 : ((t477.length : Int) != (wrap64 (a1 + (Go.bits .and .i64 a2 7)))) = false := bne_eq_false_iff_eq.mpr c20
                    clear c20
                    by_cases c21 : 0 ≤ a1
                    · rw [if_pos c21] at H
                      have c21b0 := eq_true c21
                      have c21b1 : decide (0 ≤ a1) = true := decide_eq_true c21
                      clear c21
                      by_cases c22 : a1 ≤ (t477.length : Int)
                      · rw [if_pos c22] at H
                        have c22b0 := eq_true c22
                        have c22b1 : decide (a1 ≤ (t477.length : Int)) = true := decide_eq_true c22
                        clear c22
                        obtain ⟨y481, hy481⟩ : ∃ y_ : List Int, y_ = (t477.take (a1 : Int).toNat) := ⟨_, rfl⟩
                        replace H : ((footlockerref01_Same.f kj5 y481 t473).bind fun t485 => (footlockerlaw04_SystematicMore.j1 kj5 l0 (l0.length : Int) t477 (!t485))) = some r := by first | (rw [hy481]; with_reducible exact H) | (have H2_ := (Option.bind_some _ _).symm.trans H; rw [hy481]; with_reducible exact H2_) | (have H2_ := (Option.bind_some _ _).symm.trans H; with_reducible exact H2_) | with_reducible exact H | (rw [hy481]; exact H) | exact H
                        have Ny481 := Aside0.mk hy481
                        clear hy481
                        replace H := Option.bind_eq_some_iff.mp H
                        obtain ⟨t485, A230, H⟩ := H
                        replace H : (footlockerlaw04_SystematicMore.j1 kj5 l0 (l0.length : Int) t477 (!t485)) = some r := H
                        have A23 := Aside0.mk A230
                        clear A230
                        have H' := Aside0.mk H
                        clear H
                        obtain ⟨Ao24, co24, eo24⟩ := Kd.R_slice HO476.out
                        subst eo24
                        obtain ⟨Ao25, co25, eo25⟩ := Kd.R_slice HO480.out
                        subst eo25
                        have q26 : (a1 : Int) ≤ ((t477.length : Int) : Int) := of_decide_eq_true (by first | (with_reducible assumption) | assumption)
                        obtain ⟨i026, hi026, _, hsz26, _⟩ := info_parts info5
                        have hroom26 : t477.length ≤ co25 := (Kd.R_reads' HO480.out).2.1
                        have hC26 : Kd.C (Kd.int .u8) _ Ao25 t477.length t477 := (Kd.R_reads' HO480.out).2.2
                        have hcut26 := cut_to (P := Try.prog) 22 5 .i64 Try.underlying22 hi026 Ao25 t477.length co25 a1 (of_decide_eq_true (by first | (with_reducible assumption) | assumption)) q26 hroom26
                        have hr26 := Kd.C_take (m := (a1 : Int).toNat) hC26 (by omega)
                        have hy26 : y481.length = (a1 : Int).toNat := (by rw [Ny481.out, List.length_take]; omega)
                        rw [← Ny481.out] at hr26
                        rw [← hy26] at hcut26
                        have HR484 := Aside0.mk hr26
                        have HC484 := Aside0.mk (show y481.length ≤ co25 from by omega)
                        clear hr26 hC26 hroom26 hi026 hsz26
                        have KY26 := Aside0.mk hy26
                        clear hy26
                        have KL26 := Aside0.mk (show (a1 : Int).toNat ≤ t477.length from by omega)
                        replace q26 := eq_true q26
                        go_wp2_with (first | (go_at_call 9; (with_reducible refine (footlockerref01_Same.calls kj5 _ _ y481 _ _ t473 t485 _ ?side1 ?side2 ?side3 ?side4 A23.out).mono ?_); (case side1 => repeat (first | exact (by repeat (first | (with_reducible exact HR484.out) | (with_reducible refine Kd.C_alloc ?_ _) | (with_reducible refine Kd.C_drewN ?_ _) | (with_reducible refine Kd.C_drew ?_) | exact HR484.out)) | (with_reducible refine Kd.C_alloc ?_ _) | (with_reducible refine Kd.C_drewN ?_ _) | (with_reducible refine Kd.C_drew ?_))); (case side2 => exact HC484.out); (case side3 => repeat (first | exact (Kd.R_reads' HO476.out).2.2 | (with_reducible refine Kd.C_alloc ?_ _) | (with_reducible refine Kd.C_drewN ?_ _) | (with_reducible refine Kd.C_drew ?_))); (case side4 => exact (Kd.R_reads' HO476.out).2.1); rintro e w' ⟨rfl, ⟨nd, rfl⟩⟩))
                        go_meet
                        case rel => exact ⟨_, (!t485), (by first | rfl | (simp; done) | (simp [*]; done)), H', ⟨by have := HJ5.out; first | omega | exact Nat.le_refl _⟩, ⟨by (with_reducible repeat (first | apply Kd.R_alloc | apply Kd.R_drewN | apply Kd.R_drew)); exact Kd.R_mono HO480.out (fun _ hk => trivial)⟩, ⟨by repeat (first | (with_reducible first | exact HB.out | apply below_alloc | apply pw_below_drewN | apply below_drew1) | exact HB.out)⟩⟩
                      · rw [if_neg c22] at H
                        exact absurd H (by simp)
                    · rw [if_neg c21] at H
                      exact absurd H (by simp)
                  · rw [if_neg c20] at H
                    have c20b0 : ((t477.length : Int) == (wrap64 (a1 + (Go.bits .and .i64 a2 7)))) = false := beq_eq_false_iff_ne.mpr c20
                    have c20b1 : ((t477.length : Int) != (wrap64 (a1 + (Go.bits .and .i64 a2 7)))) = true := bne_iff_ne.mpr c20
                    have H' := Aside0.mk H
                    clear H
                    obtain ⟨Ao27, co27, eo27⟩ := Kd.R_slice HO476.out
                    subst eo27
                    obtain ⟨Ao28, co28, eo28⟩ := Kd.R_slice HO480.out
                    subst eo28
                    go_wp2
                    go_meet
                    case rel => exact ⟨_, (true), (by first | rfl | (simp; done) | (simp [*]; done)), H', ⟨by have := HJ5.out; first | omega | exact Nat.le_refl _⟩, ⟨by (with_reducible repeat (first | apply Kd.R_alloc | apply Kd.R_drewN | apply Kd.R_drew)); exact Kd.R_mono HO480.out (fun _ hk => trivial)⟩, ⟨by repeat (first | (with_reducible first | exact HB.out | apply below_alloc | apply pw_below_drewN | apply below_drew1) | exact HB.out)⟩⟩
                · rw [if_neg c19] at H
                  have c19b0 : ((t473.length : Int) == a1) = false := beq_eq_false_iff_ne.mpr c19
                  have c19b1 : ((t473.length : Int) != a1) = true := bne_iff_ne.mpr c19
                  have H' := Aside0.mk H
                  clear H
                  obtain ⟨Ao29, co29, eo29⟩ := Kd.R_slice HO476.out
                  subst eo29
                  go_wp2
                  go_meet
                  case rel => exact ⟨_, (true), (by first | rfl | (simp; done) | (simp [*]; done)), H', ⟨by have := HJ5.out; first | omega | exact Nat.le_refl _⟩, ⟨by (with_reducible repeat (first | apply Kd.R_alloc | apply Kd.R_drewN | apply Kd.R_drew)); exact Kd.R_mono HO480.out (fun _ hk => trivial)⟩, ⟨by repeat (first | (with_reducible first | exact HB.out | apply below_alloc | apply pw_below_drewN | apply below_drew1) | exact HB.out)⟩⟩
              · rw [if_neg c18] at H
                have c18b0 : (t478 == 0) = false := beq_eq_false_iff_ne.mpr c18
                have c18b1 : (t478 != 0) = true := bne_iff_ne.mpr c18
                have H' := Aside0.mk H
                clear H
                go_wp2
                go_meet
                case rel => exact ⟨_, (true), (by first | rfl | (simp; done) | (simp [*]; done)), H', ⟨by have := HJ5.out; first | omega | exact Nat.le_refl _⟩, ⟨by (with_reducible repeat (first | apply Kd.R_alloc | apply Kd.R_drewN | apply Kd.R_drew)); exact Kd.R_mono HO480.out (fun _ hk => trivial)⟩, ⟨by repeat (first | (with_reducible first | exact HB.out | apply below_alloc | apply pw_below_drewN | apply below_drew1) | exact HB.out)⟩⟩
            · rw [if_neg c17] at H
              have c17b0 : (t474 == 0) = false := beq_eq_false_iff_ne.mpr c17
              have c17b1 : (t474 != 0) = true := bne_iff_ne.mpr c17
              (first | rw [c17b0] | (simp only [i64_w, i32_w]; rw [c17b0]) | skip)
              have H' := Aside0.mk H
              clear H
              go_wp2
              go_meet
              case rel => exact ⟨_, (true), (by first | rfl | (simp; done) | (simp [*]; done)), H', ⟨by have := HJ5.out; first | omega | exact Nat.le_refl _⟩, ⟨by (with_reducible repeat (first | apply Kd.R_alloc | apply Kd.R_drewN | apply Kd.R_drew)); exact Kd.R_mono HO480.out (fun _ hk => trivial)⟩, ⟨by repeat (first | (with_reducible first | exact HB.out | apply below_alloc | apply pw_below_drewN | apply below_drew1) | exact HB.out)⟩⟩
          case rest =>
            clear HC14
            try clear c1
            try clear c2
            try clear p2
            try clear q2
            try clear c5
            try clear c6
            try clear p6
            try clear c7
            try clear c8
            try clear c8b0
            try clear c8b1
            try clear c8b2
            try clear c9
            try clear c9b0
            try clear c9b1
            try clear c10
            try clear c10b0
            try clear c11
            try clear c17
            try clear c17b0
            try clear c17b1
            try clear c18
            try clear c18b0
            try clear c18b1
            try clear c19
            try clear c19b0
            try clear c19b1
            try clear c20
            try clear c20b0
            try clear c20b1
            try clear c21
            try clear c21b0
            try clear c21b1
            try clear c22
            try clear c22b0
            try clear c22b1
            try clear q26
            try clear p2
            try clear q26
            obtain ⟨kq, x77_13, rfl, HA, HJ13, HO_10, HB⟩ := hcut
            cases kq with
            | zero => exact absurd HA.out (by simp [footlockerlaw04_SystematicMore.j1])
            | succ kj13 =>
              have H := HA.out
              clear HA
              simp only [footlockerlaw04_SystematicMore.j1] at H
              by_cases c30 : x77_13 = true
              · subst c30
                have H1 : (some false) = some r := by rw [if_pos rfl] at H; exact H
                clear H
                have H := H1
                clear H1
                obtain rfl := Option.some.inj H
                go_wp2
                go_ret
                exact ⟨by first | rfl | (simp [errW_none, errW_some] <;> rfl) | (simp [*, errW_none, errW_some] <;> rfl), by repeat (first | (with_reducible first | exact HB.out | apply below_alloc | apply pw_below_drewN | apply below_drew1) | exact HB.out)⟩
              · replace c30 := Bool.eq_false_iff.mpr c30
                subst c30
                have H1 : ((footlockerref01_Copy.f l0).bind fun t486 => (if t486.length + t477.length < 140737488355328 then (footlockerlaw04_SystematicMore.l0 kj13 (l0.length : Int) (t486 ++ t477) (l0.length : Int)) else (none))) = some r := by rw [if_neg (show ¬ (false = true) by decide)] at H; exact H
                clear H
                have H := H1
                clear H1
                replace H := Option.bind_eq_some_iff.mp H
                obtain ⟨t486, A310, H⟩ := H
                replace H : (if t486.length + t477.length < 140737488355328 then (footlockerlaw04_SystematicMore.l0 kj13 (l0.length : Int) (t486 ++ t477) (l0.length : Int)) else (none)) = some r := H
                have A31 := Aside0.mk A310
                clear A310
                by_cases c32 : t486.length + t477.length < 140737488355328
                · rw [if_pos c32] at H
                  have LMc32 := Aside0.mk c32
                  clear c32
                  obtain ⟨y489, hy489⟩ : ∃ y_ : List Int, y_ = (t486 ++ t477) := ⟨_, rfl⟩
                  replace H : (footlockerlaw04_SystematicMore.l0 kj13 (l0.length : Int) y489 (l0.length : Int)) = some r := by first | (rw [hy489]; with_reducible exact H) | (have H2_ := (Option.bind_some _ _).symm.trans H; rw [hy489]; with_reducible exact H2_) | (have H2_ := (Option.bind_some _ _).symm.trans H; with_reducible exact H2_) | with_reducible exact H | (rw [hy489]; exact H) | exact H
                  have Ny489 := Aside0.mk hy489
                  clear hy489
                  have H' := Aside0.mk H
                  clear H
                  go_wp2_with (first | ((with_reducible refine gate_callee (f := 10) rfl ?_); refine goesL_ (some 79) rfl rfl Try.func10 (by kernel_rfl) rfl #[.slice A0 l0.length c0] rfl (by (try simp only [List.map_toArray, List.map_cons, List.map_nil]); first | done | rfl | (simp only [List.length_drop, List.length_take]; rfl)) ?_; (with_reducible refine (footlockerref01_Copy.calls _ _ l0 t486 _ ?side1 ?side2 A31.out).mono ?_); (case side1 => repeat (first | exact (Kd.C_below HR0.out HB.out) | (with_reducible refine Kd.C_alloc ?_ _) | (with_reducible refine Kd.C_drewN ?_ _) | (with_reducible refine Kd.C_drew ?_))); (case side2 => exact HC0.out); rintro e w33 ⟨v487, rfl, ho0, hb⟩; refine ⟨_, rfl, ?_⟩; have n0_ := Aside0.mk (Kd.R_elder' (by (with_reducible repeat (first | apply Kd.R_alloc | apply Kd.R_drewN | apply Kd.R_drew)); exact HO_10.out) (Kd.R_base ho0) hb); have n1_ := Aside0.mk (Kd.R_lower (Kd.R_new' ho0 (Kd.R_lt (by (with_reducible repeat (first | apply Kd.R_alloc | apply Kd.R_drewN | apply Kd.R_drew)); exact HO_10.out))) (below_size (by repeat (first | (with_reducible first | exact HB.out | apply below_alloc | apply pw_below_drewN | apply below_drew1) | exact HB.out)))); have n2_ := Aside0.mk (below_step (by repeat (first | (with_reducible first | exact HB.out | apply below_alloc | apply pw_below_drewN | apply below_drew1) | exact HB.out)) hb); clear HO_10; clear HB; have HO_10 := n0_; have HO488 := n1_; have HB := n2_; clear n0_ n1_ n2_; (try clear hb); (try clear hb2); (try clear hk); (try clear hi); (try clear ho0); obtain ⟨Ao35, co35, eo35⟩ := Kd.R_slice HO_10.out; subst eo35) | ((with_reducible refine gate_builtin (b := .append) (xs := #[.tmp 79, .tmp 80]) rfl ?_); (try (refine gate_guard (by rfl) ?_; dsimp only)); at_builtin; refine Kd.R_append_rows (Kd.int .u8) (w0 := w) w.heap.size rfl (.tmp 79) (.tmp 80) 22 5 (.int .u8 0) 1 rfl Try.underlying22 info5 rfl (by decide) (by omega) v487 t486 t477 _ _ _ (fun k_ => some k_ ≠ (.slice Ao35 t477.length co35 : Value).ownBlock) (fun _ => False) rfl rfl ?aO ?aR (fun _ _ h => h) (fun _ h => h.elim) ?aF ?aB ?aS ?aL ?_; (case aR => repeat (first | exact (Kd.R_reads' HO_10.out).2.2 | (with_reducible refine Kd.C_alloc ?_ _) | (with_reducible refine Kd.C_drewN ?_ _) | (with_reducible refine Kd.C_drew ?_))); (case aB => exact (by repeat (first | (with_reducible first | exact HB.out | apply below_alloc | apply pw_below_drewN | apply below_drew1) | exact HB.out))); (case aF => exact (fun k_ hk => Kd.fresh' (Kd.R_lt (by (with_reducible repeat (first | apply Kd.R_alloc | apply Kd.R_drewN | apply Kd.R_drew)); exact HO_10.out)) k_ hk)); (case aO => exact (by (with_reducible repeat (first | apply Kd.R_alloc | apply Kd.R_drewN | apply Kd.R_drew)); exact Kd.R_mono HO488.out (fun _ hk => hk.2))); (case aS => exact (below_size (by repeat (first | (with_reducible first | exact HB.out | apply below_alloc | apply pw_below_drewN | apply below_drew1) | exact HB.out)))); (case aL => have := LMc32.out; omega); intro v490 w34 ho hb hg hat; rw [← Ny489.out] at ho; have n0_ := Aside0.mk (Kd.R_after (ok := (fun _ => True)) (by (with_reducible repeat (first | apply Kd.R_alloc | apply Kd.R_drewN | apply Kd.R_drew)); exact HO_10.out) hg hat); have n1_ := Aside0.mk (hb); have n2_ := Aside0.mk (ho); clear HO_10; clear HB; clear HO488; have HO_10 := n0_; have HB := n1_; have HO491 := n2_; clear n0_ n1_ n2_; clear ho hb hg hat))
                  go_loopg [13] kj13 (fun kq v13 w' => ∃ (x13_3 : Int), v13 = .int .i64 x13_3 ∧ Aside0 (footlockerlaw04_SystematicMore.l0 kq (l0.length : Int) y489 x13_3 = some r) ∧ Aside0 (kq ≤ kj13) ∧ Aside0 (Kd.R (Kd.int .u8) 5 w' w.heap.size (fun _ => True) v490 y489) ∧ Aside0 (Below w.heap.size w w'))
                  case atStart => exact ⟨((l0.length : Int)), (by first | rfl | (simp; done) | (simp [*]; done)), H', ⟨Nat.le_refl _⟩, ⟨by (with_reducible repeat (first | apply Kd.R_alloc | apply Kd.R_drewN | apply Kd.R_drew)); exact Kd.R_mono HO491.out (fun _ hk => trivial)⟩, ⟨by repeat (first | (with_reducible first | exact HB.out | apply below_alloc | apply pw_below_drewN | apply below_drew1) | exact HB.out)⟩⟩
                  case round =>
                    clear H'
                    try clear c1
                    try clear c2
                    try clear p2
                    try clear q2
                    try clear c3
                    try clear c5
                    try clear c6
                    try clear p6
                    try clear c7
                    try clear c8
                    try clear c8b0
                    try clear c8b1
                    try clear c8b2
                    try clear c9
                    try clear c9b0
                    try clear c9b1
                    try clear c10
                    try clear c10b0
                    try clear c11
                    try clear c17
                    try clear c17b0
                    try clear c17b1
                    try clear c18
                    try clear c18b0
                    try clear c18b1
                    try clear c19
                    try clear c19b0
                    try clear c19b1
                    try clear c20
                    try clear c20b0
                    try clear c20b1
                    try clear c21
                    try clear c21b0
                    try clear c21b1
                    try clear c22
                    try clear c22b0
                    try clear c22b1
                    try clear q26
                    try clear c30
                    try clear c32
                    try clear p2
                    try clear p6
                    try clear q2
                    try clear q26
                    obtain ⟨x13_3, rfl, HA, HK3, HO_12, HB⟩ := hrel
                    cases gk with
                    | zero => exact absurd HA.out (by simp [footlockerlaw04_SystematicMore.l0])
                    | succ k3 =>
                      have H := HA.out
                      clear HA
                      simp only [footlockerlaw04_SystematicMore.l0] at H
                      by_cases c36 : x13_3 ≤ (y489.length : Int)
                      · rw [if_pos c36] at H
                        have c36b0 : decide (x13_3 ≤ (y489.length : Int)) = true := decide_eq_true c36
                        clear c36
                        replace H := Option.bind_eq_some_iff.mp H
                        obtain ⟨t495, A370, H⟩ := H
                        replace H : (if t495 = true then (if 0 ≤ x13_3 then ((systematic_Is.f k3 (y489.take (x13_3 : Int).toNat) (l0.length : Int)).bind fun t500 => (if t500 = true then (footlockerlaw04_SystematicMore.l0 k3 (l0.length : Int) y489 (wrap64 (x13_3 + 1))) else (some false))) else (none)) else (some false)) = some r := H
                        have A37 := Aside0.mk A370
                        clear A370
                        by_cases c38 : t495 = true
                        · subst c38
                          have H1 : (if 0 ≤ x13_3 then ((systematic_Is.f k3 (y489.take (x13_3 : Int).toNat) (l0.length : Int)).bind fun t500 => (if t500 = true then (footlockerlaw04_SystematicMore.l0 k3 (l0.length : Int) y489 (wrap64 (x13_3 + 1))) else (some false))) else (none)) = some r := by rw [if_pos rfl] at H; exact H
                          clear H
                          have H := H1
                          clear H1
                          by_cases c39 : 0 ≤ x13_3
                          · rw [if_pos c39] at H
                            have c39b0 := eq_true c39
                            have c39b1 : decide (0 ≤ x13_3) = true := decide_eq_true c39
                            clear c39
                            have c40b0 := eq_true (of_decide_eq_true (by first | (with_reducible assumption) | assumption) : x13_3 ≤ (y489.length : Int))
                            obtain ⟨y496, hy496⟩ : ∃ y_ : List Int, y_ = (y489.take (x13_3 : Int).toNat) := ⟨_, rfl⟩
                            replace H : ((systematic_Is.f k3 y496 (l0.length : Int)).bind fun t500 => (if t500 = true then (footlockerlaw04_SystematicMore.l0 k3 (l0.length : Int) y489 (wrap64 (x13_3 + 1))) else (some false))) = some r := by first | (rw [hy496]; with_reducible exact H) | (have H2_ := (Option.bind_some _ _).symm.trans H; rw [hy496]; with_reducible exact H2_) | (have H2_ := (Option.bind_some _ _).symm.trans H; with_reducible exact H2_) | with_reducible exact H | (rw [hy496]; exact H) | exact H
                            have Ny496 := Aside0.mk hy496
                            clear hy496
                            replace H := Option.bind_eq_some_iff.mp H
                            obtain ⟨t500, A410, H⟩ := H
                            replace H : (if t500 = true then (footlockerlaw04_SystematicMore.l0 k3 (l0.length : Int) y489 (wrap64 (x13_3 + 1))) else (some false)) = some r := H
                            have A41 := Aside0.mk A410
                            clear A410
                            by_cases c42 : t500 = true
                            · subst c42
                              have H1 : (footlockerlaw04_SystematicMore.l0 k3 (l0.length : Int) y489 (wrap64 (x13_3 + 1))) = some r := by rw [if_pos rfl] at H; exact H
                              clear H
                              have H := H1
                              clear H1
                              have H' := Aside0.mk H
                              clear H
                              obtain ⟨Ao43, co43, eo43⟩ := Kd.R_slice HO_12.out
                              subst eo43
                              go_wp2_with (first | ((with_reducible refine gate_callee (f := 16) rfl ?_); refine goesL_ (some 91) rfl rfl Try.func16 (by kernel_rfl) rfl #[.slice Ao43 y489.length co43, .int .i64 x13_3] rfl (by (try simp only [List.map_toArray, List.map_cons, List.map_nil]); first | done | rfl | (simp only [List.length_drop, List.length_take]; rfl)) ?_; (with_reducible refine (systematic_Is.calls k3 _ _ y489 x13_3 true _ ?side1 ?side2 A37.out).mono ?_); (case side1 => repeat (first | exact (Kd.R_reads' HO_12.out).2.2 | (with_reducible refine Kd.C_alloc ?_ _) | (with_reducible refine Kd.C_drewN ?_ _) | (with_reducible refine Kd.C_drew ?_))); (case side2 => exact (Kd.R_reads' HO_12.out).2.1); rintro e w44 ⟨rfl, hb⟩; refine ⟨_, rfl, ?_⟩; have n0_ := Aside0.mk (Kd.R_below (by (with_reducible repeat (first | apply Kd.R_alloc | apply Kd.R_drewN | apply Kd.R_drew)); exact HO_12.out) hb); have n1_ := Aside0.mk (below_step (by repeat (first | (with_reducible first | exact HB.out | apply below_alloc | apply pw_below_drewN | apply below_drew1) | exact HB.out)) hb); clear HO_12; clear HB; have HO_12 := n0_; have HB := n1_; clear n0_ n1_; (try clear hb); (try clear hb2); (try clear hk); (try clear hi); have q45 : (x13_3 : Int) ≤ ((y489.length : Int) : Int) := of_decide_eq_true (by first | (with_reducible assumption) | assumption); obtain ⟨i045, hi045, _, hsz45, _⟩ := info_parts info5; have hroom45 : y489.length ≤ co43 := (Kd.R_reads' HO_12.out).2.1; have hC45 : Kd.C (Kd.int .u8) _ Ao43 y489.length y489 := (Kd.R_reads' HO_12.out).2.2; have hcut45 := cut_to (P := Try.prog) 22 5 .i64 Try.underlying22 hi045 Ao43 y489.length co43 x13_3 (of_decide_eq_true (by first | (with_reducible assumption) | assumption)) q45 hroom45; have hr45 := Kd.C_take (m := (x13_3 : Int).toNat) hC45 (by omega); have hy45 : y496.length = (x13_3 : Int).toNat := (by rw [Ny496.out, List.length_take]; omega); rw [← Ny496.out] at hr45; rw [← hy45] at hcut45; have HR499 := Aside0.mk hr45; have HC499 := Aside0.mk (show y496.length ≤ co43 from by omega); clear hr45 hC45 hroom45 hi045 hsz45; have KY45 := Aside0.mk hy45; clear hy45; have KL45 := Aside0.mk (show (x13_3 : Int).toNat ≤ y489.length from by omega); replace q45 := eq_true q45) | (go_at_call 16; (with_reducible refine (systematic_Is.calls k3 _ _ y496 (l0.length : Int) true _ ?side1 ?side2 A41.out).mono ?_); (case side1 => repeat (first | exact (by repeat (first | (with_reducible exact HR499.out) | (with_reducible refine Kd.C_alloc ?_ _) | (with_reducible refine Kd.C_drewN ?_ _) | (with_reducible refine Kd.C_drew ?_) | exact HR499.out)) | (with_reducible refine Kd.C_alloc ?_ _) | (with_reducible refine Kd.C_drewN ?_ _) | (with_reducible refine Kd.C_drew ?_))); (case side2 => exact HC499.out); rintro e w46 ⟨rfl, hb⟩; have n0_ := Aside0.mk (Kd.R_below (by (with_reducible repeat (first | apply Kd.R_alloc | apply Kd.R_drewN | apply Kd.R_drew)); exact HO_12.out) hb); have n1_ := Aside0.mk (Kd.C_below (by repeat (first | (with_reducible exact HR499.out) | (with_reducible refine Kd.C_alloc ?_ _) | (with_reducible refine Kd.C_drewN ?_ _) | (with_reducible refine Kd.C_drew ?_) | exact HR499.out)) hb); have n2_ := Aside0.mk (below_step (by repeat (first | (with_reducible first | exact HB.out | apply below_alloc | apply pw_below_drewN | apply below_drew1) | exact HB.out)) hb); clear HO_12; clear HR499; clear HB; have HO_12 := n0_; have HR499 := n1_; have HB := n2_; clear n0_ n1_ n2_; (try clear hb); (try clear hb2); (try clear hk); (try clear hi)))
                              go_roundg k3
                              case measure => have := HJ5.out; have := HJ13.out; have := HK3.out; omega
                              case rel => exact ⟨(wrap64 (x13_3 + 1)), (by first | rfl | (simp; done) | (simp [*]; done)), H', ⟨by have := HJ5.out; have := HJ13.out; have := HK3.out; omega⟩, ⟨by (with_reducible repeat (first | apply Kd.R_alloc | apply Kd.R_drewN | apply Kd.R_drew)); exact HO_12.out⟩, ⟨by repeat (first | (with_reducible first | exact HB.out | apply below_alloc | apply pw_below_drewN | apply below_drew1) | exact HB.out)⟩⟩
                            · replace c42 := Bool.eq_false_iff.mpr c42
                              subst c42
                              have H1 : (some false) = some r := by rw [if_neg (show ¬ (false = true) by decide)] at H; exact H
                              clear H
                              have H := H1
                              clear H1
                              obtain rfl := Option.some.inj H
                              obtain ⟨Ao47, co47, eo47⟩ := Kd.R_slice HO_12.out
                              subst eo47
                              go_wp2_with (first | ((with_reducible refine gate_callee (f := 16) rfl ?_); refine goesL_ (some 91) rfl rfl Try.func16 (by kernel_rfl) rfl #[.slice Ao47 y489.length co47, .int .i64 x13_3] rfl (by (try simp only [List.map_toArray, List.map_cons, List.map_nil]); first | done | rfl | (simp only [List.length_drop, List.length_take]; rfl)) ?_; (with_reducible refine (systematic_Is.calls k3 _ _ y489 x13_3 true _ ?side1 ?side2 A37.out).mono ?_); (case side1 => repeat (first | exact (Kd.R_reads' HO_12.out).2.2 | (with_reducible refine Kd.C_alloc ?_ _) | (with_reducible refine Kd.C_drewN ?_ _) | (with_reducible refine Kd.C_drew ?_))); (case side2 => exact (Kd.R_reads' HO_12.out).2.1); rintro e w48 ⟨rfl, hb⟩; refine ⟨_, rfl, ?_⟩; have n0_ := Aside0.mk (Kd.R_below (by (with_reducible repeat (first | apply Kd.R_alloc | apply Kd.R_drewN | apply Kd.R_drew)); exact HO_12.out) hb); have n1_ := Aside0.mk (below_step (by repeat (first | (with_reducible first | exact HB.out | apply below_alloc | apply pw_below_drewN | apply below_drew1) | exact HB.out)) hb); clear HO_12; clear HB; have HO_12 := n0_; have HB := n1_; clear n0_ n1_; (try clear hb); (try clear hb2); (try clear hk); (try clear hi); have q49 : (x13_3 : Int) ≤ ((y489.length : Int) : Int) := of_decide_eq_true (by first | (with_reducible assumption) | assumption); obtain ⟨i049, hi049, _, hsz49, _⟩ := info_parts info5; have hroom49 : y489.length ≤ co47 := (Kd.R_reads' HO_12.out).2.1; have hC49 : Kd.C (Kd.int .u8) _ Ao47 y489.length y489 := (Kd.R_reads' HO_12.out).2.2; have hcut49 := cut_to (P := Try.prog) 22 5 .i64 Try.underlying22 hi049 Ao47 y489.length co47 x13_3 (of_decide_eq_true (by first | (with_reducible assumption) | assumption)) q49 hroom49; have hr49 := Kd.C_take (m := (x13_3 : Int).toNat) hC49 (by omega); have hy49 : y496.length = (x13_3 : Int).toNat := (by rw [Ny496.out, List.length_take]; omega); rw [← Ny496.out] at hr49; rw [← hy49] at hcut49; have HR499 := Aside0.mk hr49; have HC499 := Aside0.mk (show y496.length ≤ co47 from by omega); clear hr49 hC49 hroom49 hi049 hsz49; have KY49 := Aside0.mk hy49; clear hy49; have KL49 := Aside0.mk (show (x13_3 : Int).toNat ≤ y489.length from by omega); replace q49 := eq_true q49) | (go_at_call 16; (with_reducible refine (systematic_Is.calls k3 _ _ y496 (l0.length : Int) false _ ?side1 ?side2 A41.out).mono ?_); (case side1 => repeat (first | exact (by repeat (first | (with_reducible exact HR499.out) | (with_reducible refine Kd.C_alloc ?_ _) | (with_reducible refine Kd.C_drewN ?_ _) | (with_reducible refine Kd.C_drew ?_) | exact HR499.out)) | (with_reducible refine Kd.C_alloc ?_ _) | (with_reducible refine Kd.C_drewN ?_ _) | (with_reducible refine Kd.C_drew ?_))); (case side2 => exact HC499.out); rintro e w50 ⟨rfl, hb⟩; have n0_ := Aside0.mk (Kd.R_below (by (with_reducible repeat (first | apply Kd.R_alloc | apply Kd.R_drewN | apply Kd.R_drew)); exact HO_12.out) hb); have n1_ := Aside0.mk (Kd.C_below (by repeat (first | (with_reducible exact HR499.out) | (with_reducible refine Kd.C_alloc ?_ _) | (with_reducible refine Kd.C_drewN ?_ _) | (with_reducible refine Kd.C_drew ?_) | exact HR499.out)) hb); have n2_ := Aside0.mk (below_step (by repeat (first | (with_reducible first | exact HB.out | apply below_alloc | apply pw_below_drewN | apply below_drew1) | exact HB.out)) hb); clear HO_12; clear HR499; clear HB; have HO_12 := n0_; have HR499 := n1_; have HB := n2_; clear n0_ n1_ n2_; (try clear hb); (try clear hb2); (try clear hk); (try clear hi)))
                              go_ret
                              exact ⟨by first | rfl | (simp [errW_none, errW_some] <;> rfl) | (simp [*, errW_none, errW_some] <;> rfl), by repeat (first | (with_reducible first | exact HB.out | apply below_alloc | apply pw_below_drewN | apply below_drew1) | exact HB.out)⟩
                          · rw [if_neg c39] at H
                            exact absurd H (by simp)
                        · replace c38 := Bool.eq_false_iff.mpr c38
                          subst c38
                          have H1 : (some false) = some r := by rw [if_neg (show ¬ (false = true) by decide)] at H; exact H
                          clear H
                          have H := H1
                          clear H1
                          obtain rfl := Option.some.inj H
                          obtain ⟨Ao51, co51, eo51⟩ := Kd.R_slice HO_12.out
                          subst eo51
                          go_wp2_with (first | ((with_reducible refine gate_callee (f := 16) rfl ?_); refine goesL_ (some 91) rfl rfl Try.func16 (by kernel_rfl) rfl #[.slice Ao51 y489.length co51, .int .i64 x13_3] rfl (by (try simp only [List.map_toArray, List.map_cons, List.map_nil]); first | done | rfl | (simp only [List.length_drop, List.length_take]; rfl)) ?_; (with_reducible refine (systematic_Is.calls k3 _ _ y489 x13_3 false _ ?side1 ?side2 A37.out).mono ?_); (case side1 => repeat (first | exact (Kd.R_reads' HO_12.out).2.2 | (with_reducible refine Kd.C_alloc ?_ _) | (with_reducible refine Kd.C_drewN ?_ _) | (with_reducible refine Kd.C_drew ?_))); (case side2 => exact (Kd.R_reads' HO_12.out).2.1); rintro e w52 ⟨rfl, hb⟩; refine ⟨_, rfl, ?_⟩; have n0_ := Aside0.mk (Kd.R_below (by (with_reducible repeat (first | apply Kd.R_alloc | apply Kd.R_drewN | apply Kd.R_drew)); exact HO_12.out) hb); have n1_ := Aside0.mk (below_step (by repeat (first | (with_reducible first | exact HB.out | apply below_alloc | apply pw_below_drewN | apply below_drew1) | exact HB.out)) hb); clear HO_12; clear HB; have HO_12 := n0_; have HB := n1_; clear n0_ n1_; (try clear hb); (try clear hb2); (try clear hk); (try clear hi)))
                          go_ret
                          exact ⟨by first | rfl | (simp [errW_none, errW_some] <;> rfl) | (simp [*, errW_none, errW_some] <;> rfl), by repeat (first | (with_reducible first | exact HB.out | apply below_alloc | apply pw_below_drewN | apply below_drew1) | exact HB.out)⟩
                      · rw [if_neg c36] at H
                        have c36b0 : decide (x13_3 ≤ (y489.length : Int)) = false := decide_eq_false c36
                        clear c36
                        replace H := Option.bind_eq_some_iff.mp H
                        obtain ⟨⟨t492, t493⟩, A530, H⟩ := H
                        replace H : (if t493 = true then (if 0 ≤ (wrap64 ((y489.length : Int) - 1)) then (if (wrap64 ((y489.length : Int) - 1)) < (y489.length : Int) then (some (t492 == (rd y489 (wrap64 ((y489.length : Int) - 1))))) else (none)) else (none)) else (some false)) = some r := H
                        have A53 := Aside0.mk A530
                        clear A530
                        by_cases c54 : t493 = true
                        · subst c54
                          have H1 : (if 0 ≤ (wrap64 ((y489.length : Int) - 1)) then (if (wrap64 ((y489.length : Int) - 1)) < (y489.length : Int) then (some (t492 == (rd y489 (wrap64 ((y489.length : Int) - 1))))) else (none)) else (none)) = some r := by rw [if_pos rfl] at H; exact H
                          clear H
                          have H := H1
                          clear H1
                          obtain ⟨ji55, hji55⟩ : ∃ j_ : Int, (wrap64 ((y489.length : Int) - 1)) = j_ := ⟨_, rfl⟩
                          replace H : (if 0 ≤ (ji55) then (if (ji55) < (y489.length : Int) then (some (t492 == (rd y489 (ji55)))) else (none)) else (none)) = some r := by first | (rw [hji55] at H; exact H) | (simp only [hji55] at H ⊢; exact H)
                          (try rw [hji55] at A53)
                          have hji55w : (IntKind.i64.wrap ((y489.length : Int) - 1)) = ji55 := (i64_w _).trans hji55
                          by_cases c56 : 0 ≤ (ji55)
                          · rw [if_pos c56] at H
                            have c56b0 : decide (0 ≤ (ji55)) = true := decide_eq_true c56
                            clear c56
                            by_cases c57 : (ji55) < (y489.length : Int)
                            · rw [if_pos c57] at H
                              have c57b0 : decide ((ji55) < (y489.length : Int)) = true := decide_eq_true c57
                              clear c57
                              obtain rfl := Option.some.inj H
                              obtain ⟨Ao58, co58, eo58⟩ := Kd.R_slice HO_12.out
                              subst eo58
                              go_wp2_with (first | ((with_reducible refine gate_callee (f := 15) rfl ?_); refine goesL_ (some 107) rfl rfl Try.func15 (by kernel_rfl) rfl #[.slice Ao58 y489.length co58, .int .i64 (l0.length : Int), .int .i64 ji55] rfl (by (try simp only [List.map_toArray, List.map_cons, List.map_nil]); first | done | (simp only [hji55]; rfl) | rfl | (simp only [List.length_drop, List.length_take]; rfl)) ?_; (with_reducible refine (systematic_At.calls k3 _ _ y489 (l0.length : Int) ji55 t492 true _ ?side1 ?side2 A53.out).mono ?_); (case side1 => repeat (first | exact (Kd.R_reads' HO_12.out).2.2 | (with_reducible refine Kd.C_alloc ?_ _) | (with_reducible refine Kd.C_drewN ?_ _) | (with_reducible refine Kd.C_drew ?_))); (case side2 => exact (Kd.R_reads' HO_12.out).2.1); rintro e w59 ⟨rfl, hb⟩; refine ⟨_, rfl, ?_⟩; have n0_ := Aside0.mk (Kd.R_below (by (with_reducible repeat (first | apply Kd.R_alloc | apply Kd.R_drewN | apply Kd.R_drew)); exact HO_12.out) hb); have n1_ := Aside0.mk (below_step (by repeat (first | (with_reducible first | exact HB.out | apply below_alloc | apply pw_below_drewN | apply below_drew1) | exact HB.out)) hb); clear HO_12; clear HB; have HO_12 := n0_; have HB := n1_; clear n0_ n1_; (try clear hb); (try clear hb2); (try clear hk); (try clear hi); have p494 : 0 ≤ ((ji55) : Int) := of_decide_eq_true (by first | (with_reducible assumption) | assumption); have q494 : (ji55) < (y489.length : Int) := of_decide_eq_true (by first | (with_reducible assumption) | assumption); obtain ⟨ad494, e494, hx494_0⟩ := Kd.at_int (Kd.R_reads' HO_12.out).2.2 (ji55) p494 q494; cases e494; replace p494 := eq_true p494; replace q494 := eq_true q494))
                              go_ret
                              exact ⟨by first | rfl | (simp [errW_none, errW_some] <;> rfl) | (simp only [← hji55]; first | rfl | (simp [errW_none, errW_some] <;> rfl)) | (simp [*, errW_none, errW_some] <;> rfl), by repeat (first | (with_reducible first | exact HB.out | apply below_alloc | apply pw_below_drewN | apply below_drew1) | exact HB.out)⟩
                            · rw [if_neg c57] at H
                              exact absurd H (by simp)
                          · rw [if_neg c56] at H
                            exact absurd H (by simp)
                        · replace c54 := Bool.eq_false_iff.mpr c54
                          subst c54
                          have H1 : (some false) = some r := by rw [if_neg (show ¬ (false = true) by decide)] at H; exact H
                          clear H
                          have H := H1
                          clear H1
                          obtain rfl := Option.some.inj H
                          obtain ⟨Ao60, co60, eo60⟩ := Kd.R_slice HO_12.out
                          subst eo60
                          go_wp2_with (first | ((with_reducible refine gate_callee (f := 15) rfl ?_); refine goesL_ (some 107) rfl rfl Try.func15 (by kernel_rfl) rfl #[.slice Ao60 y489.length co60, .int .i64 (l0.length : Int), .int .i64 (wrap64 ((y489.length : Int) - 1))] rfl (by (try simp only [List.map_toArray, List.map_cons, List.map_nil]); first | done | rfl | (simp only [List.length_drop, List.length_take]; rfl)) ?_; (with_reducible refine (systematic_At.calls k3 _ _ y489 (l0.length : Int) (wrap64 ((y489.length : Int) - 1)) t492 false _ ?side1 ?side2 A53.out).mono ?_); (case side1 => repeat (first | exact (Kd.R_reads' HO_12.out).2.2 | (with_reducible refine Kd.C_alloc ?_ _) | (with_reducible refine Kd.C_drewN ?_ _) | (with_reducible refine Kd.C_drew ?_))); (case side2 => exact (Kd.R_reads' HO_12.out).2.1); rintro e w61 ⟨rfl, hb⟩; refine ⟨_, rfl, ?_⟩; have n0_ := Aside0.mk (Kd.R_below (by (with_reducible repeat (first | apply Kd.R_alloc | apply Kd.R_drewN | apply Kd.R_drew)); exact HO_12.out) hb); have n1_ := Aside0.mk (below_step (by repeat (first | (with_reducible first | exact HB.out | apply below_alloc | apply pw_below_drewN | apply below_drew1) | exact HB.out)) hb); clear HO_12; clear HB; have HO_12 := n0_; have HB := n1_; clear n0_ n1_; (try clear hb); (try clear hb2); (try clear hk); (try clear hi)))
                          go_ret
                          exact ⟨by first | rfl | (simp [errW_none, errW_some] <;> rfl) | (simp [*, errW_none, errW_some] <;> rfl), by repeat (first | (with_reducible first | exact HB.out | apply below_alloc | apply pw_below_drewN | apply below_drew1) | exact HB.out)⟩
                · rw [if_neg c32] at H
                  exact absurd H (by simp)
  · replace c5 := Bool.eq_false_iff.mpr c5
    subst c5
    have H1 : (some false) = some r := by rw [if_neg (show ¬ (false = true) by decide)] at H; exact H
    clear H
    have H := H1
    clear H1
    obtain rfl := Option.some.inj H
    go_enter Try.func6, Try.ntmps6
    go_wp2_with (first | ((with_reducible refine gate_callee (f := 7) rfl ?_); refine goesL_ (some 16) rfl rfl Try.func7 (by kernel_rfl) rfl #[] rfl (by (try simp only [List.map_toArray, List.map_cons, List.map_nil]); first | done | rfl | (simp only [List.length_drop, List.length_take]; rfl)) ?_; (with_reducible refine (footlockerlaw04_alive.calls k  false _ A4.out).mono ?_); rintro e w62 ⟨rfl, hb⟩; refine ⟨_, rfl, ?_⟩; have n0_ := Aside0.mk (below_step (by repeat (first | (with_reducible first | exact HB.out | apply below_alloc | apply pw_below_drewN | apply below_drew1) | exact HB.out)) hb); clear HB; have HB := n0_; clear n0_; (try clear hb); (try clear hb2); (try clear hk); (try clear hi)))
    go_ret
    exact ⟨by first | rfl | (simp [errW_none, errW_some] <;> rfl) | (simp [*, errW_none, errW_some] <;> rfl), by repeat (first | (with_reducible first | exact HB.out | apply below_alloc | apply pw_below_drewN | apply below_drew1) | exact HB.out)⟩

/-- THE ONE PURE STATEMENT of footlockerlaw04_SystematicMore: yours. -/
def footlockerlaw04_SystematicMore.Pure : Prop := ∀ (l0 : List Int) (a1 : Int) (a2 : Int), l0.length ≤ maxLen → l0.length * 1 ≤ 140737488351232 → (∀ x ∈ l0, (Lit.int .u8 x).wf = true) → (Lit.int .i64 a1).wf = true → (Lit.int .i64 a2).wf = true → ∃ k, footlockerlaw04_SystematicMore.f k l0 a1 a2 = some true
theorem footlockerlaw04_SystematicMore.walk (P : footlockerlaw04_SystematicMore.Pure) (a0 : Option Addr) (len0 cap0 : Nat) (z0 : List Int) (a1 : Int) (a2 : Int) (w : World) (w0 : (a0 = none ∧ len0 = 0 ∧ cap0 = 0 ∧ z0 = []) ∨ ∃ x, a0 = some x ∧ len0 ≤ cap0 ∧ cap0 ≤ maxLen ∧ z0.length = cap0 ∧ (∀ i, i < z0.length → w.cell? (x.add i) = some (.int .u8 (z0.getD i 0))) ∧ ∀ n ∈ z0, (Lit.int .u8 n).wf = true) (y0 : len0 * 1 ≤ 140737488351232) (w1 : (Lit.int .i64 a1).wf = true) (w2 : (Lit.int .i64 a2).wf = true) :
    Calls Try.prog 6 #[.slice a0 len0 cap0, .int .i64 a1, .int .i64 a2] w fun e w' => e = .returned (.bool true) ∧ Below w.heap.size w w' := by
  obtain ⟨l0, rfl, hr0, hm0, hw0, hc0⟩ := ReadsInt.ofRowC w0
  obtain ⟨k, h⟩ := P l0 a1 a2 hm0 y0 hw0 w1 w2
  refine (footlockerlaw04_SystematicMore.calls k _ _ l0 a1 a2 true w (Kd.C_of_reads (d := (0 : Int)) (h1 := fun _ => rfl) hr0) hc0 h).mono ?_
  rintro e w' ⟨rfl, hd⟩
  exact ⟨rfl, hd⟩

end Go.Proofs.Ytmdiggcefmkciaa.P
