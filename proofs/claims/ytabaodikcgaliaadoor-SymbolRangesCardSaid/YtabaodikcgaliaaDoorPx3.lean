/- Functions of the Go program as Lean functions, each with a proof that the Go code answers just so; each theorem states its own conditions. Written by a program. -/
import Derived.Test.YtabaodikcgaliaaDoorPx0
import Derived.Test.YtabaodikcgaliaaDoorPx1
import Derived.Test.YtabaodikcgaliaaDoorPx2
namespace Go.Proofs.YtabaodikcgaliaaDoor.P
open Go.RowKit Go.Proofs.YtabaodikcgaliaaDoorW.PrintWords Go.Proofs.YtabaodikcgaliaaDoorW.PrintLast Go.Proofs.YtabaodikcgaliaaDoorW.PrintMore
attribute [local go_sem] max2_int min2_int max_two min_two max_three min_three max_four min_four   -- for this text's walks alone
set_option linter.unusedVariables false
set_option linter.unusedSimpArgs false

def symbol_LengthBase.f (a0 : Int) : Option (Int × Int × Bool) := if a0 < 257 then some (0, 0, false) else if a0 ≥ 286 then some (0, 0, false) else some (rd symLen (a0 - 257), rd symLenBits (a0 - 257), true)
set_option maxHeartbeats 8000000 in
set_option maxRecDepth 100000 in
theorem symbol_LengthBase.calls (a0 : Int) (r1 : Int) (r2 : Int) (r3 : Bool) (w : World) (hG : Laid w) (h : symbol_LengthBase.f a0 = some (r1, r2, r3)) :
    Calls Tryd.prog 11 #[.int .i64 a0] w fun e w' => e = .returned (.tuple #[.int .i64 r1, .int .i64 r2, .bool r3]) ∧ Drawn0 w w' := by
  have HG := Aside0.mk hG
  clear hG
  unfold symbol_LengthBase.f at h
  by_cases c1 : a0 < 257
  · rw [if_pos c1] at h
    simp only [Option.some.injEq, Prod.mk.injEq] at h
    obtain ⟨rfl, rfl, rfl⟩ := h
    have b1 : decide (a0 < 257) = true := decide_eq_true c1
    clear c1
    go_enter Tryd.func11, Tryd.ntmps11
    go_wp2
    go_ret3
    exact ⟨rfl, by repeat (first | exact Drawn0.refl _ | apply Drawn0.step)⟩
  · rw [if_neg c1] at h
    have b1 : decide (a0 < 257) = false := decide_eq_false c1
    by_cases c2 : a0 ≥ 286
    · rw [if_pos c2] at h
      simp only [Option.some.injEq, Prod.mk.injEq] at h
      obtain ⟨rfl, rfl, rfl⟩ := h
      have b2 : decide (a0 ≥ 286) = true := decide_eq_true c2
      have b3 : decide (286 ≤ a0) = true := decide_eq_true c2
      clear c1 c2
      go_enter Tryd.func11, Tryd.ntmps11
      go_wp2
      go_ret3
      exact ⟨rfl, by repeat (first | exact Drawn0.refl _ | apply Drawn0.step)⟩
    · rw [if_neg c2] at h
      have b2 : decide (a0 ≥ 286) = false := decide_eq_false c2
      have b3 : decide (286 ≤ a0) = false := decide_eq_false c2
      simp only [Option.some.injEq, Prod.mk.injEq] at h
      obtain ⟨e1, e2, rfl⟩ := h
      have hc1 := tab_at HG.out.len (i := a0 - 257) (by omega) (by omega)
      have hc2 := tab_at HG.out.lenBits (i := a0 - 257) (by omega) (by omega)
      rw [e1] at hc1
      rw [e2] at hc2
      clear e1 e2
      have hw : IntKind.i64.wrap (a0 - 257) = a0 - 257 := IntWalk.i64_in _ (by omega)
      have l0 : 0 ≤ a0 - 257 := by omega
      have l1 : a0 - 257 < 29 := by omega
      clear c1 c2
      obtain ⟨j, hj⟩ : ∃ j, a0 - 257 = j := ⟨_, rfl⟩
      rw [hj] at hc1 hc2 l0 l1 hw
      go_enter Tryd.func11, Tryd.ntmps11
      go_wp2
      go_quiet (fail)
      go_wp2
      go_ret3
      exact ⟨rfl, by repeat (first | exact Drawn0.refl _ | apply Drawn0.step)⟩

def symbol_DistBase.f (a0 : Int) : Option (Int × Int × Bool) := if a0 < 0 then some (0, 0, false) else if a0 ≥ 30 then some (0, 0, false) else some (rd symDist a0, rd symDistBits a0, true)
set_option maxHeartbeats 8000000 in
set_option maxRecDepth 100000 in
theorem symbol_DistBase.calls (a0 : Int) (r1 : Int) (r2 : Int) (r3 : Bool) (w : World) (hG : Laid w) (h : symbol_DistBase.f a0 = some (r1, r2, r3)) :
    Calls Tryd.prog 13 #[.int .i64 a0] w fun e w' => e = .returned (.tuple #[.int .i64 r1, .int .i64 r2, .bool r3]) ∧ Drawn0 w w' := by
  have HG := Aside0.mk hG
  clear hG
  unfold symbol_DistBase.f at h
  by_cases c1 : a0 < 0
  · rw [if_pos c1] at h
    simp only [Option.some.injEq, Prod.mk.injEq] at h
    obtain ⟨rfl, rfl, rfl⟩ := h
    have b1 : decide (a0 < 0) = true := decide_eq_true c1
    clear c1
    go_enter Tryd.func13, Tryd.ntmps13
    go_wp2
    go_ret3
    exact ⟨rfl, by repeat (first | exact Drawn0.refl _ | apply Drawn0.step)⟩
  · rw [if_neg c1] at h
    have b1 : decide (a0 < 0) = false := decide_eq_false c1
    by_cases c2 : a0 ≥ 30
    · rw [if_pos c2] at h
      simp only [Option.some.injEq, Prod.mk.injEq] at h
      obtain ⟨rfl, rfl, rfl⟩ := h
      have b2 : decide (a0 ≥ 30) = true := decide_eq_true c2
      have b3 : decide (30 ≤ a0) = true := decide_eq_true c2
      clear c1 c2
      go_enter Tryd.func13, Tryd.ntmps13
      go_wp2
      go_ret3
      exact ⟨rfl, by repeat (first | exact Drawn0.refl _ | apply Drawn0.step)⟩
    · rw [if_neg c2] at h
      have b2 : decide (a0 ≥ 30) = false := decide_eq_false c2
      have b3 : decide (30 ≤ a0) = false := decide_eq_false c2
      simp only [Option.some.injEq, Prod.mk.injEq] at h
      obtain ⟨e1, e2, rfl⟩ := h
      have hc1 := tab_at HG.out.dist (i := a0) (by omega) (by omega)
      have hc2 := tab_at HG.out.distBits (i := a0) (by omega) (by omega)
      rw [e1] at hc1
      rw [e2] at hc2
      clear e1 e2
      have l0 : 0 ≤ a0 := by omega
      have l1 : a0 < 30 := by omega
      clear c1 c2
      go_enter Tryd.func13, Tryd.ntmps13
      go_wp2
      go_quiet (fail)
      go_wp2
      go_ret3
      exact ⟨rfl, by repeat (first | exact Drawn0.refl _ | apply Drawn0.step)⟩


/-! ### footlockerref01_SameInts: function 15 -/
def footlockerref01_SameInts.l0 : Nat → List Int → List Int → Int → Option (Bool)
  | 0, _, _, _ => none
  | k + 1, x0, x1, x5 => if x5 < (x0.length : Int) then (if 0 ≤ x5 then (if x5 < (x1.length : Int) then (if (rd x0 x5) = (rd x1 x5) then (footlockerref01_SameInts.l0 k x0 x1 (wrap64 (x5 + 1))) else (some false)) else (none)) else (none)) else (some true)
def footlockerref01_SameInts.f (k : Nat) (l0 : List Int) (l1 : List Int) : Option (Bool) := if (l0.length : Int) = (l1.length : Int) then (footlockerref01_SameInts.l0 k l0 l1 0) else (some false)
theorem footlockerref01_SameInts.mono_l : ∀ k, (∀ y0 y1 y2, LeO (footlockerref01_SameInts.l0 k y0 y1 y2) (footlockerref01_SameInts.l0 (k + 1) y0 y1 y2))
  | 0 => fun _ _ _ r h => by simp [footlockerref01_SameInts.l0] at h
  | k + 1 => by
    have ih0 := footlockerref01_SameInts.mono_l k
    · intro y0 y1 y2
      unfold footlockerref01_SameInts.l0
      repeat' first
      | (with_reducible exact ih0 _ _ _)
      | (with_reducible exact LeO.refl _)
      | (with_reducible exact LeO.none _)
      | (with_reducible refine LeO.ite ?_ ?_)
      | (with_reducible refine LeO.bind ?_ (fun _ => ?_))
      | exact ih0 _ _ _
      | exact LeO.none _
      | refine LeO.ite ?_ ?_
      | refine LeO.bind ?_ (fun _ => ?_)
theorem footlockerref01_SameInts.mono : ∀ a0 a1 k, LeO (footlockerref01_SameInts.f k a0 a1) (footlockerref01_SameInts.f (k + 1) a0 a1) := by
  intro a0 a1 k
  have ih0 := footlockerref01_SameInts.mono_l k
  unfold footlockerref01_SameInts.f
  repeat' first
      | (with_reducible exact ih0 _ _ _)
      | (with_reducible exact LeO.refl _)
      | (with_reducible exact LeO.none _)
      | (with_reducible refine LeO.ite ?_ ?_)
      | (with_reducible refine LeO.bind ?_ (fun _ => ?_))
      | exact ih0 _ _ _
      | exact LeO.none _
      | refine LeO.ite ?_ ?_
      | refine LeO.bind ?_ (fun _ => ?_)
set_option maxHeartbeats 8000000 in
set_option maxRecDepth 100000 in
theorem footlockerref01_SameInts.calls (k : Nat) (A0 : Option Addr) (c0 : Nat) (l0 : List Int) (A1 : Option Addr) (c1 : Nat) (l1 : List Int) (r : Bool) (w : World) (hr0 : Kd.C (Kd.int .i64) w A0 l0.length l0) (hc0 : l0.length ≤ c0) (hr1 : Kd.C (Kd.int .i64) w A1 l1.length l1) (hc1 : l1.length ≤ c1) (h : footlockerref01_SameInts.f k l0 l1 = some r) :
    Calls Tryd.prog 15 #[.slice A0 l0.length c0, .slice A1 l1.length c1] w fun e w' => e = .returned (.bool r) ∧ Drawn0 w w' := by
  have HR0 := Aside0.mk hr0
  have HC0 := Aside0.mk hc0
  clear hr0 hc0
  have HR1 := Aside0.mk hr1
  have HC1 := Aside0.mk hc1
  clear hr1 hc1
  have H : (if (l0.length : Int) = (l1.length : Int) then (footlockerref01_SameInts.l0 k l0 l1 0) else (some false)) = some r := h
  clear h
  by_cases c3 : (l0.length : Int) = (l1.length : Int)
  · rw [if_pos c3] at H
    have c3b0 : ((l0.length : Int) == (l1.length : Int)) = true := beq_iff_eq.mpr c3
    have c3b1 : ((l0.length : Int) != (l1.length : Int)) = false := bne_eq_false_iff_eq.mpr c3
    have c3b2 : (l0.length == l1.length) = true := by first | simpa using c3 | (simp at c3 ⊢; omega)
    clear c3
    have H' := Aside0.mk H
    clear H
    go_enter Tryd.func15, Tryd.ntmps15
    go_wp2
    repeat (go_quiet (fail); try go_wp2)
    go_loopg [5] k (fun kq v5 w' => ∃ (x5_1 : Int), v5 = .int .i64 x5_1 ∧ Aside0 (footlockerref01_SameInts.l0 kq l0 l1 x5_1 = some r) ∧ Aside0 (kq ≤ k) ∧ Drawn0 w w')
    case atStart => exact ⟨(0), (by first | rfl | (simp; done) | (simp [*]; done)), H', ⟨Nat.le_refl _⟩, by repeat (first | exact Drawn0.refl _ | apply Drawn0.step)⟩
    case round =>
      clear H'
      try clear c1
      try clear p2
      try clear c3
      try clear c3b0
      try clear c3b1
      try clear c3b2
      obtain ⟨x5_1, rfl, HA, HK1, ⟨m1, rfl⟩⟩ := hrel
      cases gk with
      | zero => exact absurd HA.out (by simp [footlockerref01_SameInts.l0])
      | succ k1 =>
        have H := HA.out
        clear HA
        simp only [footlockerref01_SameInts.l0] at H
        by_cases c4 : x5_1 < (l0.length : Int)
        · rw [if_pos c4] at H
          have c4b0 : decide (x5_1 < (l0.length : Int)) = true := decide_eq_true c4
          clear c4
          by_cases c5 : 0 ≤ x5_1
          · rw [if_pos c5] at H
            have c5b0 : decide (0 ≤ x5_1) = true := decide_eq_true c5
            clear c5
            by_cases c6 : x5_1 < (l1.length : Int)
            · rw [if_pos c6] at H
              have c6b0 : decide (x5_1 < (l1.length : Int)) = true := decide_eq_true c6
              clear c6
              by_cases c7 : (rd l0 x5_1) = (rd l1 x5_1)
              · rw [if_pos c7] at H
                have c7b0 : ((rd l0 x5_1) == (rd l1 x5_1)) = true := beq_iff_eq.mpr c7
                have c7b1 : ((rd l0 x5_1) != (rd l1 x5_1)) = false := bne_eq_false_iff_eq.mpr c7
                clear c7
                have H' := Aside0.mk H
                clear H
                have p133 : 0 ≤ (x5_1 : Int) := of_decide_eq_true (by first | (with_reducible assumption) | assumption)
                have q133 : x5_1 < (l0.length : Int) := of_decide_eq_true (by first | (with_reducible assumption) | assumption)
                obtain ⟨ad133, e133, hx133_0⟩ := Kd.at_int HR0.out x5_1 p133 q133
                cases e133
                replace p133 := eq_true p133
                replace q133 := eq_true q133
                have p134 : 0 ≤ (x5_1 : Int) := of_decide_eq_true (by first | (with_reducible assumption) | assumption)
                have q134 : x5_1 < (l1.length : Int) := of_decide_eq_true (by first | (with_reducible assumption) | assumption)
                obtain ⟨ad134, e134, hx134_0⟩ := Kd.at_int HR1.out x5_1 p134 q134
                cases e134
                replace p134 := eq_true p134
                replace q134 := eq_true q134
                go_wp2
                repeat (go_quiet (fail); try go_wp2)
                go_roundg k1
                case measure => have := HK1.out; omega
                case rel => exact ⟨(wrap64 (x5_1 + 1)), (by first | rfl | (simp; done) | (simp [*]; done)), H', ⟨by have := HK1.out; omega⟩, by repeat (first | exact Drawn0.refl _ | apply Drawn0.step)⟩
              · rw [if_neg c7] at H
                have c7b0 : ((rd l0 x5_1) == (rd l1 x5_1)) = false := beq_eq_false_iff_ne.mpr c7
                have c7b1 : ((rd l0 x5_1) != (rd l1 x5_1)) = true := bne_iff_ne.mpr c7
                obtain rfl := Option.some.inj H
                have p133 : 0 ≤ (x5_1 : Int) := of_decide_eq_true (by first | (with_reducible assumption) | assumption)
                have q133 : x5_1 < (l0.length : Int) := of_decide_eq_true (by first | (with_reducible assumption) | assumption)
                obtain ⟨ad133, e133, hx133_0⟩ := Kd.at_int HR0.out x5_1 p133 q133
                cases e133
                replace p133 := eq_true p133
                replace q133 := eq_true q133
                have p134 : 0 ≤ (x5_1 : Int) := of_decide_eq_true (by first | (with_reducible assumption) | assumption)
                have q134 : x5_1 < (l1.length : Int) := of_decide_eq_true (by first | (with_reducible assumption) | assumption)
                obtain ⟨ad134, e134, hx134_0⟩ := Kd.at_int HR1.out x5_1 p134 q134
                cases e134
                replace p134 := eq_true p134
                replace q134 := eq_true q134
                go_wp2
                repeat (go_quiet (fail); try go_wp2)
                go_ret
                exact ⟨by first | rfl | (simp; done) | (simp [*]; done), by repeat (first | exact Drawn0.refl _ | apply Drawn0.step)⟩
            · rw [if_neg c6] at H
              exact absurd H (by simp)
          · rw [if_neg c5] at H
            exact absurd H (by simp)
        · rw [if_neg c4] at H
          have c4b0 : decide (x5_1 < (l0.length : Int)) = false := decide_eq_false c4
          clear c4
          obtain rfl := Option.some.inj H
          go_wp2
          repeat (go_quiet (fail); try go_wp2)
          go_ret
          exact ⟨by first | rfl | (simp; done) | (simp [*]; done), by repeat (first | exact Drawn0.refl _ | apply Drawn0.step)⟩
  · rw [if_neg c3] at H
    have c3b0 : ((l0.length : Int) == (l1.length : Int)) = false := beq_eq_false_iff_ne.mpr c3
    have c3b1 : ((l0.length : Int) != (l1.length : Int)) = true := bne_iff_ne.mpr c3
    have c3b2 : (l0.length == l1.length) = false := by first | simpa using c3 | (simp at c3 ⊢; omega)
    obtain rfl := Option.some.inj H
    go_enter Tryd.func15, Tryd.ntmps15
    go_wp2
    repeat (go_quiet (fail); try go_wp2)
    go_ret
    exact ⟨by first | rfl | (simp; done) | (simp [*]; done), by repeat (first | exact Drawn0.refl _ | apply Drawn0.step)⟩

/-! ### footlockerref11_Order: function 17 -/
def footlockerref11_Order.f  : Option (List Int) := some (([16, 17, 18, 0, 8, 7, 9, 6, 10, 5, 11, 4, 12, 3, 13, 2, 14, 1, 15] : List Int))
set_option maxHeartbeats 8000000 in
set_option maxRecDepth 100000 in
theorem footlockerref11_Order.calls  (r : List Int) (w : World) (h : footlockerref11_Order.f  = some r) :
    Calls Tryd.prog 17 #[] w fun e w' => ∃ v0_ : Value, e = .returned (v0_) ∧ Kd.R (Kd.int .i64) 3 w' w.heap.size (fun _ => True) v0_ r ∧ Below w.heap.size w w' := by
  have HB := Aside0.mk (Below.refl w.heap.size w)
  have H : (some (([16, 17, 18, 0, 8, 7, 9, 6, 10, 5, 11, 4, 12, 3, 13, 2, 14, 1, 15] : List Int))) = some r := h
  clear h
  obtain ⟨y135, hy135⟩ : ∃ y_ : List Int, y_ = (([16, 17, 18, 0, 8, 7, 9, 6, 10, 5, 11, 4, 12, 3, 13, 2, 14, 1, 15] : List Int)) := ⟨_, rfl⟩
  replace H : (some y135) = some r := by first | (rw [hy135]; with_reducible exact H) | (have H2_ := (Option.bind_some _ _).symm.trans H; rw [hy135]; with_reducible exact H2_) | (have H2_ := (Option.bind_some _ _).symm.trans H; with_reducible exact H2_) | with_reducible exact H | (rw [hy135]; exact H) | exact H
  have Ny135 := Aside0.mk hy135
  clear hy135
  obtain rfl := Option.some.inj H
  go_enter Tryd.func17, Tryd.ntmps17
  go_wp2_with (first | ((with_reducible refine gate_dst (N := 1) rfl ?_); refine Kd.R_lit (Kd.int .i64) _ 3 ?hg (N := 1) ?hd (xs := ([16, 17, 18, 0, 8, 7, 9, 6, 10, 5, 11, 4, 12, 3, 13, 2, 14, 1, 15] : List Int)) (inner := [.int .i64 16, .int .i64 17, .int .i64 18, .int .i64 0, .int .i64 8, .int .i64 7, .int .i64 9, .int .i64 6, .int .i64 10, .int .i64 5, .int .i64 11, .int .i64 4, .int .i64 12, .int .i64 3, .int .i64 13, .int .i64 2, .int .i64 14, .int .i64 1, .int .i64 15]) (ok := fun _ => True) (okp := fun _ => True) ?hr ?hp (fun _ hk => hk) trivial (Below.refl _ _) (Nat.le_refl _) (by simp) ?_; (case hd => rfl); (case hg => rfl); (case hr => first | (go_simp; done) | (go_simp; rfl)); (case hp => exact (Reps.one (show Kd.M (Kd.int .i64) _ _ _ 16 [.int .i64 16] from rfl) (Reps.one (show Kd.M (Kd.int .i64) _ _ _ 17 [.int .i64 17] from rfl) (Reps.one (show Kd.M (Kd.int .i64) _ _ _ 18 [.int .i64 18] from rfl) (Reps.one (show Kd.M (Kd.int .i64) _ _ _ 0 [.int .i64 0] from rfl) (Reps.one (show Kd.M (Kd.int .i64) _ _ _ 8 [.int .i64 8] from rfl) (Reps.one (show Kd.M (Kd.int .i64) _ _ _ 7 [.int .i64 7] from rfl) (Reps.one (show Kd.M (Kd.int .i64) _ _ _ 9 [.int .i64 9] from rfl) (Reps.one (show Kd.M (Kd.int .i64) _ _ _ 6 [.int .i64 6] from rfl) (Reps.one (show Kd.M (Kd.int .i64) _ _ _ 10 [.int .i64 10] from rfl) (Reps.one (show Kd.M (Kd.int .i64) _ _ _ 5 [.int .i64 5] from rfl) (Reps.one (show Kd.M (Kd.int .i64) _ _ _ 11 [.int .i64 11] from rfl) (Reps.one (show Kd.M (Kd.int .i64) _ _ _ 4 [.int .i64 4] from rfl) (Reps.one (show Kd.M (Kd.int .i64) _ _ _ 12 [.int .i64 12] from rfl) (Reps.one (show Kd.M (Kd.int .i64) _ _ _ 3 [.int .i64 3] from rfl) (Reps.one (show Kd.M (Kd.int .i64) _ _ _ 13 [.int .i64 13] from rfl) (Reps.one (show Kd.M (Kd.int .i64) _ _ _ 2 [.int .i64 2] from rfl) (Reps.one (show Kd.M (Kd.int .i64) _ _ _ 14 [.int .i64 14] from rfl) (Reps.one (show Kd.M (Kd.int .i64) _ _ _ 1 [.int .i64 1] from rfl) (Reps.one (show Kd.M (Kd.int .i64) _ _ _ 15 [.int .i64 15] from rfl) (Reps.none _ _))))))))))))))))))))); intro v136 w1 ho2 hb hg_ hnew_; clear hg_ hnew_; (first | rw [← Ny135.out] at ho2 | (simp only [Int.reduceToNat] at ho2; rw [← Ny135.out] at ho2)); have n0_ := Aside0.mk (Kd.R_lower ho2 (below_size (by repeat (first | (with_reducible first | exact HB.out | apply below_alloc | apply pw_below_drewN | apply below_drew1) | exact HB.out)))); have n1_ := Aside0.mk (below_step (by repeat (first | (with_reducible first | exact HB.out | apply below_alloc | apply pw_below_drewN | apply below_drew1) | exact HB.out)) hb); clear HB; have HO137 := n0_; have HB := n1_; clear n0_ n1_; clear hb ho2))
  go_ret
  exact ⟨_, by first | rfl | (simp [errW_none, errW_some] <;> rfl) | (simp [*, errW_none, errW_some] <;> rfl), by (with_reducible repeat (first | apply Kd.R_alloc | apply Kd.R_drewN | apply Kd.R_drew)); exact HO137.out, by repeat (first | (with_reducible first | exact HB.out | apply below_alloc | apply pw_below_drewN | apply below_drew1) | exact HB.out)⟩

/-! ### footlockerlaw11_SymbolNames: function 3 -/
def footlockerlaw11_SymbolNames.f (k : Nat) (a0 : Int) (a1 : Int) : Option (Bool) := (footlockerlaw11_alive.f k).bind fun t138 => (if t138 = true then ((symbol_Length.f k a0).bind fun bt139 => ((footlockerref11_Length.f k a0).bind fun bt142 => ((symbol_Dist.f k a0).bind fun bt145 => ((footlockerref11_Dist.f k a0).bind fun bt148 => ((symbol_LengthBase.f a1).bind fun bt151 => ((footlockerref11_LengthBase.f k a1).bind fun bt154 => ((symbol_DistBase.f a1).bind fun bt157 => ((footlockerref11_DistBase.f k a1).bind fun bt160 => (if bt139.1 = bt142.1 then (if bt139.2.1 = bt142.2.1 then (if bt139.2.2 = bt142.2.2 then (if bt145.1 = bt148.1 then (if bt145.2.1 = bt148.2.1 then (if bt145.2.2 = bt148.2.2 then (if bt151.1 = bt154.1 then (if bt151.2.1 = bt154.2.1 then (if (bt151.2.2 == bt154.2.2) = true then (if bt157.1 = bt160.1 then (if bt157.2.1 = bt160.2.1 then (if (bt157.2.2 == bt160.2.2) = true then ((symbol_Order.f).bind fun t163 => ((footlockerref11_Order.f).bind fun t166 => ((footlockerref01_SameInts.f k t163 t166).bind fun t169 => (some t169)))) else (some false)) else (some false)) else (some false)) else (some false)) else (some false)) else (some false)) else (some false)) else (some false)) else (some false)) else (some false)) else (some false)) else (some false)))))))))) else (some false))
theorem footlockerlaw11_SymbolNames.mono : ∀ a0 a1 k, LeO (footlockerlaw11_SymbolNames.f k a0 a1) (footlockerlaw11_SymbolNames.f (k + 1) a0 a1) := by
  intro a0 a1 k
  unfold footlockerlaw11_SymbolNames.f
  repeat' first
      | (with_reducible exact footlockerlaw11_alive.mono _)
      | (with_reducible exact footlockerref01_SameInts.mono _ _ _)
      | (with_reducible exact footlockerref11_Dist.mono _ _)
      | (with_reducible exact footlockerref11_DistBase.mono _ _)
      | (with_reducible exact footlockerref11_Length.mono _ _)
      | (with_reducible exact footlockerref11_LengthBase.mono _ _)
      | (with_reducible exact symbol_Dist.mono _ _)
      | (with_reducible exact symbol_Length.mono _ _)
      | (with_reducible exact LeO.refl _)
      | (with_reducible exact LeO.none _)
      | (with_reducible refine LeO.ite ?_ ?_)
      | (with_reducible refine LeO.bind ?_ (fun _ => ?_))
      | exact footlockerlaw11_alive.mono _
      | exact footlockerref01_SameInts.mono _ _ _
      | exact footlockerref11_Dist.mono _ _
      | exact footlockerref11_DistBase.mono _ _
      | exact footlockerref11_Length.mono _ _
      | exact footlockerref11_LengthBase.mono _ _
      | exact symbol_Dist.mono _ _
      | exact symbol_Length.mono _ _
      | exact LeO.none _
      | refine LeO.ite ?_ ?_
      | refine LeO.bind ?_ (fun _ => ?_)
set_option maxHeartbeats 8000000 in
set_option maxRecDepth 100000 in
theorem footlockerlaw11_SymbolNames.calls (k : Nat) (a0 : Int) (a1 : Int) (r : Bool) (w : World) (hG : Laid w) (h : footlockerlaw11_SymbolNames.f k a0 a1 = some r) :
    Calls Tryd.prog 3 #[.int .i64 a0, .int .i64 a1] w fun e w' => e = .returned (.bool r) ∧ Below w.heap.size w w' := by
  have HG := Aside0.mk hG
  clear hG
  have HB := Aside0.mk (Below.refl w.heap.size w)
  have H : ((footlockerlaw11_alive.f k).bind fun t138 => (if t138 = true then ((symbol_Length.f k a0).bind fun bt139 => ((footlockerref11_Length.f k a0).bind fun bt142 => ((symbol_Dist.f k a0).bind fun bt145 => ((footlockerref11_Dist.f k a0).bind fun bt148 => ((symbol_LengthBase.f a1).bind fun bt151 => ((footlockerref11_LengthBase.f k a1).bind fun bt154 => ((symbol_DistBase.f a1).bind fun bt157 => ((footlockerref11_DistBase.f k a1).bind fun bt160 => (if bt139.1 = bt142.1 then (if bt139.2.1 = bt142.2.1 then (if bt139.2.2 = bt142.2.2 then (if bt145.1 = bt148.1 then (if bt145.2.1 = bt148.2.1 then (if bt145.2.2 = bt148.2.2 then (if bt151.1 = bt154.1 then (if bt151.2.1 = bt154.2.1 then (if (bt151.2.2 == bt154.2.2) = true then (if bt157.1 = bt160.1 then (if bt157.2.1 = bt160.2.1 then (if (bt157.2.2 == bt160.2.2) = true then ((symbol_Order.f).bind fun t163 => ((footlockerref11_Order.f).bind fun t166 => ((footlockerref01_SameInts.f k t163 t166).bind fun t169 => (some t169)))) else (some false)) else (some false)) else (some false)) else (some false)) else (some false)) else (some false)) else (some false)) else (some false)) else (some false)) else (some false)) else (some false)) else (some false)))))))))) else (some false))) = some r := h
  clear h
  replace H := Option.bind_eq_some_iff.mp H
  obtain ⟨t138, A30, H⟩ := H
  replace H : (if t138 = true then ((symbol_Length.f k a0).bind fun bt139 => ((footlockerref11_Length.f k a0).bind fun bt142 => ((symbol_Dist.f k a0).bind fun bt145 => ((footlockerref11_Dist.f k a0).bind fun bt148 => ((symbol_LengthBase.f a1).bind fun bt151 => ((footlockerref11_LengthBase.f k a1).bind fun bt154 => ((symbol_DistBase.f a1).bind fun bt157 => ((footlockerref11_DistBase.f k a1).bind fun bt160 => (if bt139.1 = bt142.1 then (if bt139.2.1 = bt142.2.1 then (if bt139.2.2 = bt142.2.2 then (if bt145.1 = bt148.1 then (if bt145.2.1 = bt148.2.1 then (if bt145.2.2 = bt148.2.2 then (if bt151.1 = bt154.1 then (if bt151.2.1 = bt154.2.1 then (if (bt151.2.2 == bt154.2.2) = true then (if bt157.1 = bt160.1 then (if bt157.2.1 = bt160.2.1 then (if (bt157.2.2 == bt160.2.2) = true then ((symbol_Order.f).bind fun t163 => ((footlockerref11_Order.f).bind fun t166 => ((footlockerref01_SameInts.f k t163 t166).bind fun t169 => (some t169)))) else (some false)) else (some false)) else (some false)) else (some false)) else (some false)) else (some false)) else (some false)) else (some false)) else (some false)) else (some false)) else (some false)) else (some false)))))))))) else (some false)) = some r := H
  have A3 := Aside0.mk A30
  clear A30
  by_cases c4 : t138 = true
  · subst c4
    have H1 : ((symbol_Length.f k a0).bind fun bt139 => ((footlockerref11_Length.f k a0).bind fun bt142 => ((symbol_Dist.f k a0).bind fun bt145 => ((footlockerref11_Dist.f k a0).bind fun bt148 => ((symbol_LengthBase.f a1).bind fun bt151 => ((footlockerref11_LengthBase.f k a1).bind fun bt154 => ((symbol_DistBase.f a1).bind fun bt157 => ((footlockerref11_DistBase.f k a1).bind fun bt160 => (if bt139.1 = bt142.1 then (if bt139.2.1 = bt142.2.1 then (if bt139.2.2 = bt142.2.2 then (if bt145.1 = bt148.1 then (if bt145.2.1 = bt148.2.1 then (if bt145.2.2 = bt148.2.2 then (if bt151.1 = bt154.1 then (if bt151.2.1 = bt154.2.1 then (if (bt151.2.2 == bt154.2.2) = true then (if bt157.1 = bt160.1 then (if bt157.2.1 = bt160.2.1 then (if (bt157.2.2 == bt160.2.2) = true then ((symbol_Order.f).bind fun t163 => ((footlockerref11_Order.f).bind fun t166 => ((footlockerref01_SameInts.f k t163 t166).bind fun t169 => (some t169)))) else (some false)) else (some false)) else (some false)) else (some false)) else (some false)) else (some false)) else (some false)) else (some false)) else (some false)) else (some false)) else (some false)) else (some false)))))))))) = some r := by rw [if_pos rfl] at H; exact H
    clear H
    have H := H1
    clear H1
    replace H := Option.bind_eq_some_iff.mp H
    obtain ⟨⟨t139, t140, t141⟩, A50, H⟩ := H
    replace H : ((footlockerref11_Length.f k a0).bind fun bt142 => ((symbol_Dist.f k a0).bind fun bt145 => ((footlockerref11_Dist.f k a0).bind fun bt148 => ((symbol_LengthBase.f a1).bind fun bt151 => ((footlockerref11_LengthBase.f k a1).bind fun bt154 => ((symbol_DistBase.f a1).bind fun bt157 => ((footlockerref11_DistBase.f k a1).bind fun bt160 => (if t139 = bt142.1 then (if t140 = bt142.2.1 then (if t141 = bt142.2.2 then (if bt145.1 = bt148.1 then (if bt145.2.1 = bt148.2.1 then (if bt145.2.2 = bt148.2.2 then (if bt151.1 = bt154.1 then (if bt151.2.1 = bt154.2.1 then (if (bt151.2.2 == bt154.2.2) = true then (if bt157.1 = bt160.1 then (if bt157.2.1 = bt160.2.1 then (if (bt157.2.2 == bt160.2.2) = true then ((symbol_Order.f).bind fun t163 => ((footlockerref11_Order.f).bind fun t166 => ((footlockerref01_SameInts.f k t163 t166).bind fun t169 => (some t169)))) else (some false)) else (some false)) else (some false)) else (some false)) else (some false)) else (some false)) else (some false)) else (some false)) else (some false)) else (some false)) else (some false)) else (some false))))))))) = some r := H
    have A5 := Aside0.mk A50
    clear A50
    replace H := Option.bind_eq_some_iff.mp H
    obtain ⟨⟨t142, t143, t144⟩, A60, H⟩ := H
    replace H : ((symbol_Dist.f k a0).bind fun bt145 => ((footlockerref11_Dist.f k a0).bind fun bt148 => ((symbol_LengthBase.f a1).bind fun bt151 => ((footlockerref11_LengthBase.f k a1).bind fun bt154 => ((symbol_DistBase.f a1).bind fun bt157 => ((footlockerref11_DistBase.f k a1).bind fun bt160 => (if t139 = t142 then (if t140 = t143 then (if t141 = t144 then (if bt145.1 = bt148.1 then (if bt145.2.1 = bt148.2.1 then (if bt145.2.2 = bt148.2.2 then (if bt151.1 = bt154.1 then (if bt151.2.1 = bt154.2.1 then (if (bt151.2.2 == bt154.2.2) = true then (if bt157.1 = bt160.1 then (if bt157.2.1 = bt160.2.1 then (if (bt157.2.2 == bt160.2.2) = true then ((symbol_Order.f).bind fun t163 => ((footlockerref11_Order.f).bind fun t166 => ((footlockerref01_SameInts.f k t163 t166).bind fun t169 => (some t169)))) else (some false)) else (some false)) else (some false)) else (some false)) else (some false)) else (some false)) else (some false)) else (some false)) else (some false)) else (some false)) else (some false)) else (some false)))))))) = some r := H
    have A6 := Aside0.mk A60
    clear A60
    replace H := Option.bind_eq_some_iff.mp H
    obtain ⟨⟨t145, t146, t147⟩, A70, H⟩ := H
    replace H : ((footlockerref11_Dist.f k a0).bind fun bt148 => ((symbol_LengthBase.f a1).bind fun bt151 => ((footlockerref11_LengthBase.f k a1).bind fun bt154 => ((symbol_DistBase.f a1).bind fun bt157 => ((footlockerref11_DistBase.f k a1).bind fun bt160 => (if t139 = t142 then (if t140 = t143 then (if t141 = t144 then (if t145 = bt148.1 then (if t146 = bt148.2.1 then (if t147 = bt148.2.2 then (if bt151.1 = bt154.1 then (if bt151.2.1 = bt154.2.1 then (if (bt151.2.2 == bt154.2.2) = true then (if bt157.1 = bt160.1 then (if bt157.2.1 = bt160.2.1 then (if (bt157.2.2 == bt160.2.2) = true then ((symbol_Order.f).bind fun t163 => ((footlockerref11_Order.f).bind fun t166 => ((footlockerref01_SameInts.f k t163 t166).bind fun t169 => (some t169)))) else (some false)) else (some false)) else (some false)) else (some false)) else (some false)) else (some false)) else (some false)) else (some false)) else (some false)) else (some false)) else (some false)) else (some false))))))) = some r := H
    have A7 := Aside0.mk A70
    clear A70
    replace H := Option.bind_eq_some_iff.mp H
    obtain ⟨⟨t148, t149, t150⟩, A80, H⟩ := H
    replace H : ((symbol_LengthBase.f a1).bind fun bt151 => ((footlockerref11_LengthBase.f k a1).bind fun bt154 => ((symbol_DistBase.f a1).bind fun bt157 => ((footlockerref11_DistBase.f k a1).bind fun bt160 => (if t139 = t142 then (if t140 = t143 then (if t141 = t144 then (if t145 = t148 then (if t146 = t149 then (if t147 = t150 then (if bt151.1 = bt154.1 then (if bt151.2.1 = bt154.2.1 then (if (bt151.2.2 == bt154.2.2) = true then (if bt157.1 = bt160.1 then (if bt157.2.1 = bt160.2.1 then (if (bt157.2.2 == bt160.2.2) = true then ((symbol_Order.f).bind fun t163 => ((footlockerref11_Order.f).bind fun t166 => ((footlockerref01_SameInts.f k t163 t166).bind fun t169 => (some t169)))) else (some false)) else (some false)) else (some false)) else (some false)) else (some false)) else (some false)) else (some false)) else (some false)) else (some false)) else (some false)) else (some false)) else (some false)))))) = some r := H
    have A8 := Aside0.mk A80
    clear A80
    replace H := Option.bind_eq_some_iff.mp H
    obtain ⟨⟨t151, t152, t153⟩, A90, H⟩ := H
    replace H : ((footlockerref11_LengthBase.f k a1).bind fun bt154 => ((symbol_DistBase.f a1).bind fun bt157 => ((footlockerref11_DistBase.f k a1).bind fun bt160 => (if t139 = t142 then (if t140 = t143 then (if t141 = t144 then (if t145 = t148 then (if t146 = t149 then (if t147 = t150 then (if t151 = bt154.1 then (if t152 = bt154.2.1 then (if (t153 == bt154.2.2) = true then (if bt157.1 = bt160.1 then (if bt157.2.1 = bt160.2.1 then (if (bt157.2.2 == bt160.2.2) = true then ((symbol_Order.f).bind fun t163 => ((footlockerref11_Order.f).bind fun t166 => ((footlockerref01_SameInts.f k t163 t166).bind fun t169 => (some t169)))) else (some false)) else (some false)) else (some false)) else (some false)) else (some false)) else (some false)) else (some false)) else (some false)) else (some false)) else (some false)) else (some false)) else (some false))))) = some r := H
    have A9 := Aside0.mk A90
    clear A90
    replace H := Option.bind_eq_some_iff.mp H
    obtain ⟨⟨t154, t155, t156⟩, A100, H⟩ := H
    replace H : ((symbol_DistBase.f a1).bind fun bt157 => ((footlockerref11_DistBase.f k a1).bind fun bt160 => (if t139 = t142 then (if t140 = t143 then (if t141 = t144 then (if t145 = t148 then (if t146 = t149 then (if t147 = t150 then (if t151 = t154 then (if t152 = t155 then (if (t153 == t156) = true then (if bt157.1 = bt160.1 then (if bt157.2.1 = bt160.2.1 then (if (bt157.2.2 == bt160.2.2) = true then ((symbol_Order.f).bind fun t163 => ((footlockerref11_Order.f).bind fun t166 => ((footlockerref01_SameInts.f k t163 t166).bind fun t169 => (some t169)))) else (some false)) else (some false)) else (some false)) else (some false)) else (some false)) else (some false)) else (some false)) else (some false)) else (some false)) else (some false)) else (some false)) else (some false)))) = some r := H
    have A10 := Aside0.mk A100
    clear A100
    replace H := Option.bind_eq_some_iff.mp H
    obtain ⟨⟨t157, t158, t159⟩, A110, H⟩ := H
    replace H : ((footlockerref11_DistBase.f k a1).bind fun bt160 => (if t139 = t142 then (if t140 = t143 then (if t141 = t144 then (if t145 = t148 then (if t146 = t149 then (if t147 = t150 then (if t151 = t154 then (if t152 = t155 then (if (t153 == t156) = true then (if t157 = bt160.1 then (if t158 = bt160.2.1 then (if (t159 == bt160.2.2) = true then ((symbol_Order.f).bind fun t163 => ((footlockerref11_Order.f).bind fun t166 => ((footlockerref01_SameInts.f k t163 t166).bind fun t169 => (some t169)))) else (some false)) else (some false)) else (some false)) else (some false)) else (some false)) else (some false)) else (some false)) else (some false)) else (some false)) else (some false)) else (some false)) else (some false))) = some r := H
    have A11 := Aside0.mk A110
    clear A110
    replace H := Option.bind_eq_some_iff.mp H
    obtain ⟨⟨t160, t161, t162⟩, A120, H⟩ := H
    replace H : (if t139 = t142 then (if t140 = t143 then (if t141 = t144 then (if t145 = t148 then (if t146 = t149 then (if t147 = t150 then (if t151 = t154 then (if t152 = t155 then (if (t153 == t156) = true then (if t157 = t160 then (if t158 = t161 then (if (t159 == t162) = true then ((symbol_Order.f).bind fun t163 => ((footlockerref11_Order.f).bind fun t166 => ((footlockerref01_SameInts.f k t163 t166).bind fun t169 => (some t169)))) else (some false)) else (some false)) else (some false)) else (some false)) else (some false)) else (some false)) else (some false)) else (some false)) else (some false)) else (some false)) else (some false)) else (some false)) = some r := H
    have A12 := Aside0.mk A120
    clear A120
    by_cases c13 : t139 = t142
    · rw [if_pos c13] at H
      have c13b0 : (t139 == t142) = true := beq_iff_eq.mpr c13
      have c13b1 : (t139 != t142) = false := bne_eq_false_iff_eq.mpr c13
      clear c13
      by_cases c14 : t140 = t143
      · rw [if_pos c14] at H
        have c14b0 : (t140 == t143) = true := beq_iff_eq.mpr c14
        have c14b1 : (t140 != t143) = false := bne_eq_false_iff_eq.mpr c14
        clear c14
        by_cases c15 : t141 = t144
        · rw [if_pos c15] at H
          have c15b0 : (t141 == t144) = true := beq_iff_eq.mpr c15
          have c15b1 : (t141 != t144) = false := bne_eq_false_iff_eq.mpr c15
          clear c15
          by_cases c16 : t145 = t148
          · rw [if_pos c16] at H
            have c16b0 : (t145 == t148) = true := beq_iff_eq.mpr c16
            have c16b1 : (t145 != t148) = false := bne_eq_false_iff_eq.mpr c16
            clear c16
            by_cases c17 : t146 = t149
            · rw [if_pos c17] at H
              have c17b0 : (t146 == t149) = true := beq_iff_eq.mpr c17
              have c17b1 : (t146 != t149) = false := bne_eq_false_iff_eq.mpr c17
              clear c17
              by_cases c18 : t147 = t150
              · rw [if_pos c18] at H
                have c18b0 : (t147 == t150) = true := beq_iff_eq.mpr c18
                have c18b1 : (t147 != t150) = false := bne_eq_false_iff_eq.mpr c18
                clear c18
                by_cases c19 : t151 = t154
                · rw [if_pos c19] at H
                  have c19b0 : (t151 == t154) = true := beq_iff_eq.mpr c19
                  have c19b1 : (t151 != t154) = false := bne_eq_false_iff_eq.mpr c19
                  clear c19
                  by_cases c20 : t152 = t155
                  · rw [if_pos c20] at H
                    have c20b0 : (t152 == t155) = true := beq_iff_eq.mpr c20
                    have c20b1 : (t152 != t155) = false := bne_eq_false_iff_eq.mpr c20
                    clear c20
                    by_cases c21 : (t153 == t156) = true
                    · rw [if_pos c21] at H
                      have c21b0 : (t153 == t156) = true := c21
                      (try (have c21b1 : decide (t153 = t156) = true := by simpa using c21))
                      (try (have c21b2 : (t153 == t156) = true := by simpa using c21))
                      clear c21
                      by_cases c22 : t157 = t160
                      · rw [if_pos c22] at H
                        have c22b0 : (t157 == t160) = true := beq_iff_eq.mpr c22
                        have c22b1 : (t157 != t160) = false := bne_eq_false_iff_eq.mpr c22
                        clear c22
                        by_cases c23 : t158 = t161
                        · rw [if_pos c23] at H
                          have c23b0 : (t158 == t161) = true := beq_iff_eq.mpr c23
                          have c23b1 : (t158 != t161) = false := bne_eq_false_iff_eq.mpr c23
                          clear c23
                          by_cases c24 : (t159 == t162) = true
                          · rw [if_pos c24] at H
                            have c24b0 : (t159 == t162) = true := c24
                            (try (have c24b1 : decide (t159 = t162) = true := by simpa using c24))
                            (try (have c24b2 : (t159 == t162) = true := by simpa using c24))
                            clear c24
                            replace H := Option.bind_eq_some_iff.mp H
                            obtain ⟨t163, A250, H⟩ := H
                            replace H : ((footlockerref11_Order.f).bind fun t166 => ((footlockerref01_SameInts.f k t163 t166).bind fun t169 => (some t169))) = some r := H
                            have A25 := Aside0.mk A250
                            clear A250
                            replace H := Option.bind_eq_some_iff.mp H
                            obtain ⟨t166, A260, H⟩ := H
                            replace H : ((footlockerref01_SameInts.f k t163 t166).bind fun t169 => (some t169)) = some r := H
                            have A26 := Aside0.mk A260
                            clear A260
                            replace H := Option.bind_eq_some_iff.mp H
                            obtain ⟨t169, A270, H⟩ := H
                            replace H : (some t169) = some r := H
                            have A27 := Aside0.mk A270
                            clear A270
                            obtain rfl := Option.some.inj H
                            go_enter Tryd.func3, Tryd.ntmps3
                            go_wp2_with (first | ((with_reducible refine gate_callee (f := 6) rfl ?_); refine goesL_ (some 29) rfl rfl Tryd.func6 (by kernel_rfl) rfl #[] rfl (by (try simp only [List.map_toArray, List.map_cons, List.map_nil]); first | done | rfl | (simp only [List.length_drop, List.length_take]; rfl)) ?_; (with_reducible refine (footlockerlaw11_alive.calls k  true _ (by first | exact HG.out | exact Laid.below HG.out HB.out | (repeat (first | exact HG.out | with_reducible exact Laid.below HG.out HB.out | apply Laid.drewN | apply Laid.drew | apply Laid.alloc))) A3.out).mono ?_); rintro e w28 ⟨rfl, hb⟩; refine ⟨_, rfl, ?_⟩; have n0_ := Aside0.mk (below_step (by repeat (first | (with_reducible first | exact HB.out | apply below_alloc | apply pw_below_drewN | apply below_drew1) | exact HB.out)) hb); clear HB; have HB := n0_; clear n0_; (try clear hb); (try clear hb2); (try clear hk); (try clear hi)) | ((with_reducible refine gate_callee (f := 7) rfl ?_); refine goesL_ (some 33) rfl rfl Tryd.func7 (by kernel_rfl) rfl #[.int .i64 a0] rfl (by (try simp only [List.map_toArray, List.map_cons, List.map_nil]); first | done | rfl | (simp only [List.length_drop, List.length_take]; rfl)) ?_; (with_reducible refine (symbol_Length.calls k a0 t139 t140 t141 _ (by first | exact HG.out | exact Laid.below HG.out HB.out | (repeat (first | exact HG.out | with_reducible exact Laid.below HG.out HB.out | apply Laid.drewN | apply Laid.drew | apply Laid.alloc))) A5.out).mono ?_); rintro e w' ⟨rfl, ⟨nd, rfl⟩⟩; refine ⟨_, rfl, ?_⟩) | ((with_reducible refine gate_callee (f := 8) rfl ?_); refine goesL_ (some 39) rfl rfl Tryd.func8 (by kernel_rfl) rfl #[.int .i64 a0] rfl (by (try simp only [List.map_toArray, List.map_cons, List.map_nil]); first | done | rfl | (simp only [List.length_drop, List.length_take]; rfl)) ?_; (with_reducible refine (footlockerref11_Length.calls k a0 t142 t143 t144 _ A6.out).mono ?_); rintro e w' ⟨rfl, ⟨nd, rfl⟩⟩; refine ⟨_, rfl, ?_⟩) | ((with_reducible refine gate_callee (f := 9) rfl ?_); refine goesL_ (some 45) rfl rfl Tryd.func9 (by kernel_rfl) rfl #[.int .i64 a0] rfl (by (try simp only [List.map_toArray, List.map_cons, List.map_nil]); first | done | rfl | (simp only [List.length_drop, List.length_take]; rfl)) ?_; (with_reducible refine (symbol_Dist.calls k a0 t145 t146 t147 _ (by first | exact HG.out | exact Laid.below HG.out HB.out | (repeat (first | exact HG.out | with_reducible exact Laid.below HG.out HB.out | apply Laid.drewN | apply Laid.drew | apply Laid.alloc))) A7.out).mono ?_); rintro e w' ⟨rfl, ⟨nd, rfl⟩⟩; refine ⟨_, rfl, ?_⟩) | ((with_reducible refine gate_callee (f := 10) rfl ?_); refine goesL_ (some 51) rfl rfl Tryd.func10 (by kernel_rfl) rfl #[.int .i64 a0] rfl (by (try simp only [List.map_toArray, List.map_cons, List.map_nil]); first | done | rfl | (simp only [List.length_drop, List.length_take]; rfl)) ?_; (with_reducible refine (footlockerref11_Dist.calls k a0 t148 t149 t150 _ A8.out).mono ?_); rintro e w' ⟨rfl, ⟨nd, rfl⟩⟩; refine ⟨_, rfl, ?_⟩) | ((with_reducible refine gate_callee (f := 11) rfl ?_); refine goesL_ (some 57) rfl rfl Tryd.func11 (by kernel_rfl) rfl #[.int .i64 a1] rfl (by (try simp only [List.map_toArray, List.map_cons, List.map_nil]); first | done | rfl | (simp only [List.length_drop, List.length_take]; rfl)) ?_; (with_reducible refine (symbol_LengthBase.calls a1 t151 t152 t153 _ (by first | exact HG.out | exact Laid.below HG.out HB.out | (repeat (first | exact HG.out | with_reducible exact Laid.below HG.out HB.out | apply Laid.drewN | apply Laid.drew | apply Laid.alloc))) A9.out).mono ?_); rintro e w' ⟨rfl, ⟨nd, rfl⟩⟩; refine ⟨_, rfl, ?_⟩) | ((with_reducible refine gate_callee (f := 12) rfl ?_); refine goesL_ (some 63) rfl rfl Tryd.func12 (by kernel_rfl) rfl #[.int .i64 a1] rfl (by (try simp only [List.map_toArray, List.map_cons, List.map_nil]); first | done | rfl | (simp only [List.length_drop, List.length_take]; rfl)) ?_; (with_reducible refine (footlockerref11_LengthBase.calls k a1 t154 t155 t156 _ A10.out).mono ?_); rintro e w' ⟨rfl, ⟨nd, rfl⟩⟩; refine ⟨_, rfl, ?_⟩) | ((with_reducible refine gate_callee (f := 13) rfl ?_); refine goesL_ (some 69) rfl rfl Tryd.func13 (by kernel_rfl) rfl #[.int .i64 a1] rfl (by (try simp only [List.map_toArray, List.map_cons, List.map_nil]); first | done | rfl | (simp only [List.length_drop, List.length_take]; rfl)) ?_; (with_reducible refine (symbol_DistBase.calls a1 t157 t158 t159 _ (by first | exact HG.out | exact Laid.below HG.out HB.out | (repeat (first | exact HG.out | with_reducible exact Laid.below HG.out HB.out | apply Laid.drewN | apply Laid.drew | apply Laid.alloc))) A11.out).mono ?_); rintro e w' ⟨rfl, ⟨nd, rfl⟩⟩; refine ⟨_, rfl, ?_⟩) | ((with_reducible refine gate_callee (f := 14) rfl ?_); refine goesL_ (some 75) rfl rfl Tryd.func14 (by kernel_rfl) rfl #[.int .i64 a1] rfl (by (try simp only [List.map_toArray, List.map_cons, List.map_nil]); first | done | rfl | (simp only [List.length_drop, List.length_take]; rfl)) ?_; (with_reducible refine (footlockerref11_DistBase.calls k a1 t160 t161 t162 _ A12.out).mono ?_); rintro e w' ⟨rfl, ⟨nd, rfl⟩⟩; refine ⟨_, rfl, ?_⟩) | (go_at_call 16; (with_reducible refine (symbol_Order.calls  t163 _ (by first | exact HG.out | exact Laid.below HG.out HB.out | (repeat (first | exact HG.out | with_reducible exact Laid.below HG.out HB.out | apply Laid.drewN | apply Laid.drew | apply Laid.alloc))) A25.out).mono ?_); rintro e w29 ⟨v164, rfl, ho0, hb⟩; have n0_ := Aside0.mk (Kd.R_lower ho0 (below_size (by repeat (first | (with_reducible first | exact HB.out | apply below_alloc | apply pw_below_drewN | apply below_drew1) | exact HB.out)))); have n1_ := Aside0.mk (below_step (by repeat (first | (with_reducible first | exact HB.out | apply below_alloc | apply pw_below_drewN | apply below_drew1) | exact HB.out)) hb); clear HB; have HO165 := n0_; have HB := n1_; clear n0_ n1_; (try clear hb); (try clear hb2); (try clear hk); (try clear hi); (try clear ho0)) | (go_at_call 17; (with_reducible refine (footlockerref11_Order.calls  t166 _ A26.out).mono ?_); rintro e w30 ⟨v167, rfl, ho0, hb⟩; have n0_ := Aside0.mk (Kd.R_elder' (by (with_reducible repeat (first | apply Kd.R_alloc | apply Kd.R_drewN | apply Kd.R_drew)); exact HO165.out) (Kd.R_base ho0) hb); have n1_ := Aside0.mk (Kd.R_lower (Kd.R_new' ho0 (Kd.R_lt (by (with_reducible repeat (first | apply Kd.R_alloc | apply Kd.R_drewN | apply Kd.R_drew)); exact HO165.out))) (below_size (by repeat (first | (with_reducible first | exact HB.out | apply below_alloc | apply pw_below_drewN | apply below_drew1) | exact HB.out)))); have n2_ := Aside0.mk (below_step (by repeat (first | (with_reducible first | exact HB.out | apply below_alloc | apply pw_below_drewN | apply below_drew1) | exact HB.out)) hb); clear HO165; clear HB; have HO165 := n0_; have HO168 := n1_; have HB := n2_; clear n0_ n1_ n2_; (try clear hb); (try clear hb2); (try clear hk); (try clear hi); (try clear ho0); obtain ⟨Ao31, co31, eo31⟩ := Kd.R_slice HO165.out; subst eo31; obtain ⟨Ao32, co32, eo32⟩ := Kd.R_slice HO168.out; subst eo32) | (go_at_call 15; (with_reducible refine (footlockerref01_SameInts.calls k _ _ t163 _ _ t166 t169 _ ?side1 ?side2 ?side3 ?side4 A27.out).mono ?_); (case side1 => repeat (first | exact (Kd.R_reads' HO165.out).2.2 | (with_reducible refine Kd.C_alloc ?_ _) | (with_reducible refine Kd.C_drewN ?_ _) | (with_reducible refine Kd.C_drew ?_))); (case side2 => exact (Kd.R_reads' HO165.out).2.1); (case side3 => repeat (first | exact (Kd.R_reads' HO168.out).2.2 | (with_reducible refine Kd.C_alloc ?_ _) | (with_reducible refine Kd.C_drewN ?_ _) | (with_reducible refine Kd.C_drew ?_))); (case side4 => exact (Kd.R_reads' HO168.out).2.1); rintro e w' ⟨rfl, ⟨nd, rfl⟩⟩))
                            go_ret
                            exact ⟨by first | rfl | (simp [errW_none, errW_some] <;> rfl) | (simp [*, errW_none, errW_some] <;> rfl), by repeat (first | (with_reducible first | exact HB.out | apply below_alloc | apply pw_below_drewN | apply below_drew1) | exact HB.out)⟩
                          · rw [if_neg c24] at H
                            have c24b0 : (t159 == t162) = false := by simpa using c24
                            (try (have c24b1 : decide (t159 = t162) = false := by simpa using c24))
                            (try (have c24b2 : (t159 == t162) = false := by simpa using c24))
                            (try (have c24b3 : ¬ (t159 = t162) := by simpa using c24))
                            clear c24
                            obtain rfl := Option.some.inj H
                            go_enter Tryd.func3, Tryd.ntmps3
                            go_wp2_with (first | ((with_reducible refine gate_callee (f := 6) rfl ?_); refine goesL_ (some 29) rfl rfl Tryd.func6 (by kernel_rfl) rfl #[] rfl (by (try simp only [List.map_toArray, List.map_cons, List.map_nil]); first | done | rfl | (simp only [List.length_drop, List.length_take]; rfl)) ?_; (with_reducible refine (footlockerlaw11_alive.calls k  true _ (by first | exact HG.out | exact Laid.below HG.out HB.out | (repeat (first | exact HG.out | with_reducible exact Laid.below HG.out HB.out | apply Laid.drewN | apply Laid.drew | apply Laid.alloc))) A3.out).mono ?_); rintro e w33 ⟨rfl, hb⟩; refine ⟨_, rfl, ?_⟩; have n0_ := Aside0.mk (below_step (by repeat (first | (with_reducible first | exact HB.out | apply below_alloc | apply pw_below_drewN | apply below_drew1) | exact HB.out)) hb); clear HB; have HB := n0_; clear n0_; (try clear hb); (try clear hb2); (try clear hk); (try clear hi)) | ((with_reducible refine gate_callee (f := 7) rfl ?_); refine goesL_ (some 33) rfl rfl Tryd.func7 (by kernel_rfl) rfl #[.int .i64 a0] rfl (by (try simp only [List.map_toArray, List.map_cons, List.map_nil]); first | done | rfl | (simp only [List.length_drop, List.length_take]; rfl)) ?_; (with_reducible refine (symbol_Length.calls k a0 t139 t140 t141 _ (by first | exact HG.out | exact Laid.below HG.out HB.out | (repeat (first | exact HG.out | with_reducible exact Laid.below HG.out HB.out | apply Laid.drewN | apply Laid.drew | apply Laid.alloc))) A5.out).mono ?_); rintro e w' ⟨rfl, ⟨nd, rfl⟩⟩; refine ⟨_, rfl, ?_⟩) | ((with_reducible refine gate_callee (f := 8) rfl ?_); refine goesL_ (some 39) rfl rfl Tryd.func8 (by kernel_rfl) rfl #[.int .i64 a0] rfl (by (try simp only [List.map_toArray, List.map_cons, List.map_nil]); first | done | rfl | (simp only [List.length_drop, List.length_take]; rfl)) ?_; (with_reducible refine (footlockerref11_Length.calls k a0 t142 t143 t144 _ A6.out).mono ?_); rintro e w' ⟨rfl, ⟨nd, rfl⟩⟩; refine ⟨_, rfl, ?_⟩) | ((with_reducible refine gate_callee (f := 9) rfl ?_); refine goesL_ (some 45) rfl rfl Tryd.func9 (by kernel_rfl) rfl #[.int .i64 a0] rfl (by (try simp only [List.map_toArray, List.map_cons, List.map_nil]); first | done | rfl | (simp only [List.length_drop, List.length_take]; rfl)) ?_; (with_reducible refine (symbol_Dist.calls k a0 t145 t146 t147 _ (by first | exact HG.out | exact Laid.below HG.out HB.out | (repeat (first | exact HG.out | with_reducible exact Laid.below HG.out HB.out | apply Laid.drewN | apply Laid.drew | apply Laid.alloc))) A7.out).mono ?_); rintro e w' ⟨rfl, ⟨nd, rfl⟩⟩; refine ⟨_, rfl, ?_⟩) | ((with_reducible refine gate_callee (f := 10) rfl ?_); refine goesL_ (some 51) rfl rfl Tryd.func10 (by kernel_rfl) rfl #[.int .i64 a0] rfl (by (try simp only [List.map_toArray, List.map_cons, List.map_nil]); first | done | rfl | (simp only [List.length_drop, List.length_take]; rfl)) ?_; (with_reducible refine (footlockerref11_Dist.calls k a0 t148 t149 t150 _ A8.out).mono ?_); rintro e w' ⟨rfl, ⟨nd, rfl⟩⟩; refine ⟨_, rfl, ?_⟩) | ((with_reducible refine gate_callee (f := 11) rfl ?_); refine goesL_ (some 57) rfl rfl Tryd.func11 (by kernel_rfl) rfl #[.int .i64 a1] rfl (by (try simp only [List.map_toArray, List.map_cons, List.map_nil]); first | done | rfl | (simp only [List.length_drop, List.length_take]; rfl)) ?_; (with_reducible refine (symbol_LengthBase.calls a1 t151 t152 t153 _ (by first | exact HG.out | exact Laid.below HG.out HB.out | (repeat (first | exact HG.out | with_reducible exact Laid.below HG.out HB.out | apply Laid.drewN | apply Laid.drew | apply Laid.alloc))) A9.out).mono ?_); rintro e w' ⟨rfl, ⟨nd, rfl⟩⟩; refine ⟨_, rfl, ?_⟩) | ((with_reducible refine gate_callee (f := 12) rfl ?_); refine goesL_ (some 63) rfl rfl Tryd.func12 (by kernel_rfl) rfl #[.int .i64 a1] rfl (by (try simp only [List.map_toArray, List.map_cons, List.map_nil]); first | done | rfl | (simp only [List.length_drop, List.length_take]; rfl)) ?_; (with_reducible refine (footlockerref11_LengthBase.calls k a1 t154 t155 t156 _ A10.out).mono ?_); rintro e w' ⟨rfl, ⟨nd, rfl⟩⟩; refine ⟨_, rfl, ?_⟩) | ((with_reducible refine gate_callee (f := 13) rfl ?_); refine goesL_ (some 69) rfl rfl Tryd.func13 (by kernel_rfl) rfl #[.int .i64 a1] rfl (by (try simp only [List.map_toArray, List.map_cons, List.map_nil]); first | done | rfl | (simp only [List.length_drop, List.length_take]; rfl)) ?_; (with_reducible refine (symbol_DistBase.calls a1 t157 t158 t159 _ (by first | exact HG.out | exact Laid.below HG.out HB.out | (repeat (first | exact HG.out | with_reducible exact Laid.below HG.out HB.out | apply Laid.drewN | apply Laid.drew | apply Laid.alloc))) A11.out).mono ?_); rintro e w' ⟨rfl, ⟨nd, rfl⟩⟩; refine ⟨_, rfl, ?_⟩) | ((with_reducible refine gate_callee (f := 14) rfl ?_); refine goesL_ (some 75) rfl rfl Tryd.func14 (by kernel_rfl) rfl #[.int .i64 a1] rfl (by (try simp only [List.map_toArray, List.map_cons, List.map_nil]); first | done | rfl | (simp only [List.length_drop, List.length_take]; rfl)) ?_; (with_reducible refine (footlockerref11_DistBase.calls k a1 t160 t161 t162 _ A12.out).mono ?_); rintro e w' ⟨rfl, ⟨nd, rfl⟩⟩; refine ⟨_, rfl, ?_⟩))
                            go_ret
                            exact ⟨by first | rfl | (simp [errW_none, errW_some] <;> rfl) | (simp [*, errW_none, errW_some] <;> rfl), by repeat (first | (with_reducible first | exact HB.out | apply below_alloc | apply pw_below_drewN | apply below_drew1) | exact HB.out)⟩
                        · rw [if_neg c23] at H
                          have c23b0 : (t158 == t161) = false := beq_eq_false_iff_ne.mpr c23
                          have c23b1 : (t158 != t161) = true := bne_iff_ne.mpr c23
                          obtain rfl := Option.some.inj H
                          go_enter Tryd.func3, Tryd.ntmps3
                          go_wp2_with (first | ((with_reducible refine gate_callee (f := 6) rfl ?_); refine goesL_ (some 29) rfl rfl Tryd.func6 (by kernel_rfl) rfl #[] rfl (by (try simp only [List.map_toArray, List.map_cons, List.map_nil]); first | done | rfl | (simp only [List.length_drop, List.length_take]; rfl)) ?_; (with_reducible refine (footlockerlaw11_alive.calls k  true _ (by first | exact HG.out | exact Laid.below HG.out HB.out | (repeat (first | exact HG.out | with_reducible exact Laid.below HG.out HB.out | apply Laid.drewN | apply Laid.drew | apply Laid.alloc))) A3.out).mono ?_); rintro e w34 ⟨rfl, hb⟩; refine ⟨_, rfl, ?_⟩; have n0_ := Aside0.mk (below_step (by repeat (first | (with_reducible first | exact HB.out | apply below_alloc | apply pw_below_drewN | apply below_drew1) | exact HB.out)) hb); clear HB; have HB := n0_; clear n0_; (try clear hb); (try clear hb2); (try clear hk); (try clear hi)) | ((with_reducible refine gate_callee (f := 7) rfl ?_); refine goesL_ (some 33) rfl rfl Tryd.func7 (by kernel_rfl) rfl #[.int .i64 a0] rfl (by (try simp only [List.map_toArray, List.map_cons, List.map_nil]); first | done | rfl | (simp only [List.length_drop, List.length_take]; rfl)) ?_; (with_reducible refine (symbol_Length.calls k a0 t139 t140 t141 _ (by first | exact HG.out | exact Laid.below HG.out HB.out | (repeat (first | exact HG.out | with_reducible exact Laid.below HG.out HB.out | apply Laid.drewN | apply Laid.drew | apply Laid.alloc))) A5.out).mono ?_); rintro e w' ⟨rfl, ⟨nd, rfl⟩⟩; refine ⟨_, rfl, ?_⟩) | ((with_reducible refine gate_callee (f := 8) rfl ?_); refine goesL_ (some 39) rfl rfl Tryd.func8 (by kernel_rfl) rfl #[.int .i64 a0] rfl (by (try simp only [List.map_toArray, List.map_cons, List.map_nil]); first | done | rfl | (simp only [List.length_drop, List.length_take]; rfl)) ?_; (with_reducible refine (footlockerref11_Length.calls k a0 t142 t143 t144 _ A6.out).mono ?_); rintro e w' ⟨rfl, ⟨nd, rfl⟩⟩; refine ⟨_, rfl, ?_⟩) | ((with_reducible refine gate_callee (f := 9) rfl ?_); refine goesL_ (some 45) rfl rfl Tryd.func9 (by kernel_rfl) rfl #[.int .i64 a0] rfl (by (try simp only [List.map_toArray, List.map_cons, List.map_nil]); first | done | rfl | (simp only [List.length_drop, List.length_take]; rfl)) ?_; (with_reducible refine (symbol_Dist.calls k a0 t145 t146 t147 _ (by first | exact HG.out | exact Laid.below HG.out HB.out | (repeat (first | exact HG.out | with_reducible exact Laid.below HG.out HB.out | apply Laid.drewN | apply Laid.drew | apply Laid.alloc))) A7.out).mono ?_); rintro e w' ⟨rfl, ⟨nd, rfl⟩⟩; refine ⟨_, rfl, ?_⟩) | ((with_reducible refine gate_callee (f := 10) rfl ?_); refine goesL_ (some 51) rfl rfl Tryd.func10 (by kernel_rfl) rfl #[.int .i64 a0] rfl (by (try simp only [List.map_toArray, List.map_cons, List.map_nil]); first | done | rfl | (simp only [List.length_drop, List.length_take]; rfl)) ?_; (with_reducible refine (footlockerref11_Dist.calls k a0 t148 t149 t150 _ A8.out).mono ?_); rintro e w' ⟨rfl, ⟨nd, rfl⟩⟩; refine ⟨_, rfl, ?_⟩) | ((with_reducible refine gate_callee (f := 11) rfl ?_); refine goesL_ (some 57) rfl rfl Tryd.func11 (by kernel_rfl) rfl #[.int .i64 a1] rfl (by (try simp only [List.map_toArray, List.map_cons, List.map_nil]); first | done | rfl | (simp only [List.length_drop, List.length_take]; rfl)) ?_; (with_reducible refine (symbol_LengthBase.calls a1 t151 t152 t153 _ (by first | exact HG.out | exact Laid.below HG.out HB.out | (repeat (first | exact HG.out | with_reducible exact Laid.below HG.out HB.out | apply Laid.drewN | apply Laid.drew | apply Laid.alloc))) A9.out).mono ?_); rintro e w' ⟨rfl, ⟨nd, rfl⟩⟩; refine ⟨_, rfl, ?_⟩) | ((with_reducible refine gate_callee (f := 12) rfl ?_); refine goesL_ (some 63) rfl rfl Tryd.func12 (by kernel_rfl) rfl #[.int .i64 a1] rfl (by (try simp only [List.map_toArray, List.map_cons, List.map_nil]); first | done | rfl | (simp only [List.length_drop, List.length_take]; rfl)) ?_; (with_reducible refine (footlockerref11_LengthBase.calls k a1 t154 t155 t156 _ A10.out).mono ?_); rintro e w' ⟨rfl, ⟨nd, rfl⟩⟩; refine ⟨_, rfl, ?_⟩) | ((with_reducible refine gate_callee (f := 13) rfl ?_); refine goesL_ (some 69) rfl rfl Tryd.func13 (by kernel_rfl) rfl #[.int .i64 a1] rfl (by (try simp only [List.map_toArray, List.map_cons, List.map_nil]); first | done | rfl | (simp only [List.length_drop, List.length_take]; rfl)) ?_; (with_reducible refine (symbol_DistBase.calls a1 t157 t158 t159 _ (by first | exact HG.out | exact Laid.below HG.out HB.out | (repeat (first | exact HG.out | with_reducible exact Laid.below HG.out HB.out | apply Laid.drewN | apply Laid.drew | apply Laid.alloc))) A11.out).mono ?_); rintro e w' ⟨rfl, ⟨nd, rfl⟩⟩; refine ⟨_, rfl, ?_⟩) | ((with_reducible refine gate_callee (f := 14) rfl ?_); refine goesL_ (some 75) rfl rfl Tryd.func14 (by kernel_rfl) rfl #[.int .i64 a1] rfl (by (try simp only [List.map_toArray, List.map_cons, List.map_nil]); first | done | rfl | (simp only [List.length_drop, List.length_take]; rfl)) ?_; (with_reducible refine (footlockerref11_DistBase.calls k a1 t160 t161 t162 _ A12.out).mono ?_); rintro e w' ⟨rfl, ⟨nd, rfl⟩⟩; refine ⟨_, rfl, ?_⟩))
                          go_ret
                          exact ⟨by first | rfl | (simp [errW_none, errW_some] <;> rfl) | (simp [*, errW_none, errW_some] <;> rfl), by repeat (first | (with_reducible first | exact HB.out | apply below_alloc | apply pw_below_drewN | apply below_drew1) | exact HB.out)⟩
                      · rw [if_neg c22] at H
                        have c22b0 : (t157 == t160) = false := beq_eq_false_iff_ne.mpr c22
                        have c22b1 : (t157 != t160) = true := bne_iff_ne.mpr c22
                        obtain rfl := Option.some.inj H
                        go_enter Tryd.func3, Tryd.ntmps3
                        go_wp2_with (first | ((with_reducible refine gate_callee (f := 6) rfl ?_); refine goesL_ (some 29) rfl rfl Tryd.func6 (by kernel_rfl) rfl #[] rfl (by (try simp only [List.map_toArray, List.map_cons, List.map_nil]); first | done | rfl | (simp only [List.length_drop, List.length_take]; rfl)) ?_; (with_reducible refine (footlockerlaw11_alive.calls k  true _ (by first | exact HG.out | exact Laid.below HG.out HB.out | (repeat (first | exact HG.out | with_reducible exact Laid.below HG.out HB.out | apply Laid.drewN | apply Laid.drew | apply Laid.alloc))) A3.out).mono ?_); rintro e w35 ⟨rfl, hb⟩; refine ⟨_, rfl, ?_⟩; have n0_ := Aside0.mk (below_step (by repeat (first | (with_reducible first | exact HB.out | apply below_alloc | apply pw_below_drewN | apply below_drew1) | exact HB.out)) hb); clear HB; have HB := n0_; clear n0_; (try clear hb); (try clear hb2); (try clear hk); (try clear hi)) | ((with_reducible refine gate_callee (f := 7) rfl ?_); refine goesL_ (some 33) rfl rfl Tryd.func7 (by kernel_rfl) rfl #[.int .i64 a0] rfl (by (try simp only [List.map_toArray, List.map_cons, List.map_nil]); first | done | rfl | (simp only [List.length_drop, List.length_take]; rfl)) ?_; (with_reducible refine (symbol_Length.calls k a0 t139 t140 t141 _ (by first | exact HG.out | exact Laid.below HG.out HB.out | (repeat (first | exact HG.out | with_reducible exact Laid.below HG.out HB.out | apply Laid.drewN | apply Laid.drew | apply Laid.alloc))) A5.out).mono ?_); rintro e w' ⟨rfl, ⟨nd, rfl⟩⟩; refine ⟨_, rfl, ?_⟩) | ((with_reducible refine gate_callee (f := 8) rfl ?_); refine goesL_ (some 39) rfl rfl Tryd.func8 (by kernel_rfl) rfl #[.int .i64 a0] rfl (by (try simp only [List.map_toArray, List.map_cons, List.map_nil]); first | done | rfl | (simp only [List.length_drop, List.length_take]; rfl)) ?_; (with_reducible refine (footlockerref11_Length.calls k a0 t142 t143 t144 _ A6.out).mono ?_); rintro e w' ⟨rfl, ⟨nd, rfl⟩⟩; refine ⟨_, rfl, ?_⟩) | ((with_reducible refine gate_callee (f := 9) rfl ?_); refine goesL_ (some 45) rfl rfl Tryd.func9 (by kernel_rfl) rfl #[.int .i64 a0] rfl (by (try simp only [List.map_toArray, List.map_cons, List.map_nil]); first | done | rfl | (simp only [List.length_drop, List.length_take]; rfl)) ?_; (with_reducible refine (symbol_Dist.calls k a0 t145 t146 t147 _ (by first | exact HG.out | exact Laid.below HG.out HB.out | (repeat (first | exact HG.out | with_reducible exact Laid.below HG.out HB.out | apply Laid.drewN | apply Laid.drew | apply Laid.alloc))) A7.out).mono ?_); rintro e w' ⟨rfl, ⟨nd, rfl⟩⟩; refine ⟨_, rfl, ?_⟩) | ((with_reducible refine gate_callee (f := 10) rfl ?_); refine goesL_ (some 51) rfl rfl Tryd.func10 (by kernel_rfl) rfl #[.int .i64 a0] rfl (by (try simp only [List.map_toArray, List.map_cons, List.map_nil]); first | done | rfl | (simp only [List.length_drop, List.length_take]; rfl)) ?_; (with_reducible refine (footlockerref11_Dist.calls k a0 t148 t149 t150 _ A8.out).mono ?_); rintro e w' ⟨rfl, ⟨nd, rfl⟩⟩; refine ⟨_, rfl, ?_⟩) | ((with_reducible refine gate_callee (f := 11) rfl ?_); refine goesL_ (some 57) rfl rfl Tryd.func11 (by kernel_rfl) rfl #[.int .i64 a1] rfl (by (try simp only [List.map_toArray, List.map_cons, List.map_nil]); first | done | rfl | (simp only [List.length_drop, List.length_take]; rfl)) ?_; (with_reducible refine (symbol_LengthBase.calls a1 t151 t152 t153 _ (by first | exact HG.out | exact Laid.below HG.out HB.out | (repeat (first | exact HG.out | with_reducible exact Laid.below HG.out HB.out | apply Laid.drewN | apply Laid.drew | apply Laid.alloc))) A9.out).mono ?_); rintro e w' ⟨rfl, ⟨nd, rfl⟩⟩; refine ⟨_, rfl, ?_⟩) | ((with_reducible refine gate_callee (f := 12) rfl ?_); refine goesL_ (some 63) rfl rfl Tryd.func12 (by kernel_rfl) rfl #[.int .i64 a1] rfl (by (try simp only [List.map_toArray, List.map_cons, List.map_nil]); first | done | rfl | (simp only [List.length_drop, List.length_take]; rfl)) ?_; (with_reducible refine (footlockerref11_LengthBase.calls k a1 t154 t155 t156 _ A10.out).mono ?_); rintro e w' ⟨rfl, ⟨nd, rfl⟩⟩; refine ⟨_, rfl, ?_⟩) | ((with_reducible refine gate_callee (f := 13) rfl ?_); refine goesL_ (some 69) rfl rfl Tryd.func13 (by kernel_rfl) rfl #[.int .i64 a1] rfl (by (try simp only [List.map_toArray, List.map_cons, List.map_nil]); first | done | rfl | (simp only [List.length_drop, List.length_take]; rfl)) ?_; (with_reducible refine (symbol_DistBase.calls a1 t157 t158 t159 _ (by first | exact HG.out | exact Laid.below HG.out HB.out | (repeat (first | exact HG.out | with_reducible exact Laid.below HG.out HB.out | apply Laid.drewN | apply Laid.drew | apply Laid.alloc))) A11.out).mono ?_); rintro e w' ⟨rfl, ⟨nd, rfl⟩⟩; refine ⟨_, rfl, ?_⟩) | ((with_reducible refine gate_callee (f := 14) rfl ?_); refine goesL_ (some 75) rfl rfl Tryd.func14 (by kernel_rfl) rfl #[.int .i64 a1] rfl (by (try simp only [List.map_toArray, List.map_cons, List.map_nil]); first | done | rfl | (simp only [List.length_drop, List.length_take]; rfl)) ?_; (with_reducible refine (footlockerref11_DistBase.calls k a1 t160 t161 t162 _ A12.out).mono ?_); rintro e w' ⟨rfl, ⟨nd, rfl⟩⟩; refine ⟨_, rfl, ?_⟩))
                        go_ret
                        exact ⟨by first | rfl | (simp [errW_none, errW_some] <;> rfl) | (simp [*, errW_none, errW_some] <;> rfl), by repeat (first | (with_reducible first | exact HB.out | apply below_alloc | apply pw_below_drewN | apply below_drew1) | exact HB.out)⟩
                    · rw [if_neg c21] at H
                      have c21b0 : (t153 == t156) = false := by simpa using c21
                      (try (have c21b1 : decide (t153 = t156) = false := by simpa using c21))
                      (try (have c21b2 : (t153 == t156) = false := by simpa using c21))
                      (try (have c21b3 : ¬ (t153 = t156) := by simpa using c21))
                      clear c21
                      obtain rfl := Option.some.inj H
                      go_enter Tryd.func3, Tryd.ntmps3
                      go_wp2_with (first | ((with_reducible refine gate_callee (f := 6) rfl ?_); refine goesL_ (some 29) rfl rfl Tryd.func6 (by kernel_rfl) rfl #[] rfl (by (try simp only [List.map_toArray, List.map_cons, List.map_nil]); first | done | rfl | (simp only [List.length_drop, List.length_take]; rfl)) ?_; (with_reducible refine (footlockerlaw11_alive.calls k  true _ (by first | exact HG.out | exact Laid.below HG.out HB.out | (repeat (first | exact HG.out | with_reducible exact Laid.below HG.out HB.out | apply Laid.drewN | apply Laid.drew | apply Laid.alloc))) A3.out).mono ?_); rintro e w36 ⟨rfl, hb⟩; refine ⟨_, rfl, ?_⟩; have n0_ := Aside0.mk (below_step (by repeat (first | (with_reducible first | exact HB.out | apply below_alloc | apply pw_below_drewN | apply below_drew1) | exact HB.out)) hb); clear HB; have HB := n0_; clear n0_; (try clear hb); (try clear hb2); (try clear hk); (try clear hi)) | ((with_reducible refine gate_callee (f := 7) rfl ?_); refine goesL_ (some 33) rfl rfl Tryd.func7 (by kernel_rfl) rfl #[.int .i64 a0] rfl (by (try simp only [List.map_toArray, List.map_cons, List.map_nil]); first | done | rfl | (simp only [List.length_drop, List.length_take]; rfl)) ?_; (with_reducible refine (symbol_Length.calls k a0 t139 t140 t141 _ (by first | exact HG.out | exact Laid.below HG.out HB.out | (repeat (first | exact HG.out | with_reducible exact Laid.below HG.out HB.out | apply Laid.drewN | apply Laid.drew | apply Laid.alloc))) A5.out).mono ?_); rintro e w' ⟨rfl, ⟨nd, rfl⟩⟩; refine ⟨_, rfl, ?_⟩) | ((with_reducible refine gate_callee (f := 8) rfl ?_); refine goesL_ (some 39) rfl rfl Tryd.func8 (by kernel_rfl) rfl #[.int .i64 a0] rfl (by (try simp only [List.map_toArray, List.map_cons, List.map_nil]); first | done | rfl | (simp only [List.length_drop, List.length_take]; rfl)) ?_; (with_reducible refine (footlockerref11_Length.calls k a0 t142 t143 t144 _ A6.out).mono ?_); rintro e w' ⟨rfl, ⟨nd, rfl⟩⟩; refine ⟨_, rfl, ?_⟩) | ((with_reducible refine gate_callee (f := 9) rfl ?_); refine goesL_ (some 45) rfl rfl Tryd.func9 (by kernel_rfl) rfl #[.int .i64 a0] rfl (by (try simp only [List.map_toArray, List.map_cons, List.map_nil]); first | done | rfl | (simp only [List.length_drop, List.length_take]; rfl)) ?_; (with_reducible refine (symbol_Dist.calls k a0 t145 t146 t147 _ (by first | exact HG.out | exact Laid.below HG.out HB.out | (repeat (first | exact HG.out | with_reducible exact Laid.below HG.out HB.out | apply Laid.drewN | apply Laid.drew | apply Laid.alloc))) A7.out).mono ?_); rintro e w' ⟨rfl, ⟨nd, rfl⟩⟩; refine ⟨_, rfl, ?_⟩) | ((with_reducible refine gate_callee (f := 10) rfl ?_); refine goesL_ (some 51) rfl rfl Tryd.func10 (by kernel_rfl) rfl #[.int .i64 a0] rfl (by (try simp only [List.map_toArray, List.map_cons, List.map_nil]); first | done | rfl | (simp only [List.length_drop, List.length_take]; rfl)) ?_; (with_reducible refine (footlockerref11_Dist.calls k a0 t148 t149 t150 _ A8.out).mono ?_); rintro e w' ⟨rfl, ⟨nd, rfl⟩⟩; refine ⟨_, rfl, ?_⟩) | ((with_reducible refine gate_callee (f := 11) rfl ?_); refine goesL_ (some 57) rfl rfl Tryd.func11 (by kernel_rfl) rfl #[.int .i64 a1] rfl (by (try simp only [List.map_toArray, List.map_cons, List.map_nil]); first | done | rfl | (simp only [List.length_drop, List.length_take]; rfl)) ?_; (with_reducible refine (symbol_LengthBase.calls a1 t151 t152 t153 _ (by first | exact HG.out | exact Laid.below HG.out HB.out | (repeat (first | exact HG.out | with_reducible exact Laid.below HG.out HB.out | apply Laid.drewN | apply Laid.drew | apply Laid.alloc))) A9.out).mono ?_); rintro e w' ⟨rfl, ⟨nd, rfl⟩⟩; refine ⟨_, rfl, ?_⟩) | ((with_reducible refine gate_callee (f := 12) rfl ?_); refine goesL_ (some 63) rfl rfl Tryd.func12 (by kernel_rfl) rfl #[.int .i64 a1] rfl (by (try simp only [List.map_toArray, List.map_cons, List.map_nil]); first | done | rfl | (simp only [List.length_drop, List.length_take]; rfl)) ?_; (with_reducible refine (footlockerref11_LengthBase.calls k a1 t154 t155 t156 _ A10.out).mono ?_); rintro e w' ⟨rfl, ⟨nd, rfl⟩⟩; refine ⟨_, rfl, ?_⟩) | ((with_reducible refine gate_callee (f := 13) rfl ?_); refine goesL_ (some 69) rfl rfl Tryd.func13 (by kernel_rfl) rfl #[.int .i64 a1] rfl (by (try simp only [List.map_toArray, List.map_cons, List.map_nil]); first | done | rfl | (simp only [List.length_drop, List.length_take]; rfl)) ?_; (with_reducible refine (symbol_DistBase.calls a1 t157 t158 t159 _ (by first | exact HG.out | exact Laid.below HG.out HB.out | (repeat (first | exact HG.out | with_reducible exact Laid.below HG.out HB.out | apply Laid.drewN | apply Laid.drew | apply Laid.alloc))) A11.out).mono ?_); rintro e w' ⟨rfl, ⟨nd, rfl⟩⟩; refine ⟨_, rfl, ?_⟩) | ((with_reducible refine gate_callee (f := 14) rfl ?_); refine goesL_ (some 75) rfl rfl Tryd.func14 (by kernel_rfl) rfl #[.int .i64 a1] rfl (by (try simp only [List.map_toArray, List.map_cons, List.map_nil]); first | done | rfl | (simp only [List.length_drop, List.length_take]; rfl)) ?_; (with_reducible refine (footlockerref11_DistBase.calls k a1 t160 t161 t162 _ A12.out).mono ?_); rintro e w' ⟨rfl, ⟨nd, rfl⟩⟩; refine ⟨_, rfl, ?_⟩))
                      go_ret
                      exact ⟨by first | rfl | (simp [errW_none, errW_some] <;> rfl) | (simp [*, errW_none, errW_some] <;> rfl), by repeat (first | (with_reducible first | exact HB.out | apply below_alloc | apply pw_below_drewN | apply below_drew1) | exact HB.out)⟩
                  · rw [if_neg c20] at H
                    have c20b0 : (t152 == t155) = false := beq_eq_false_iff_ne.mpr c20
                    have c20b1 : (t152 != t155) = true := bne_iff_ne.mpr c20
                    obtain rfl := Option.some.inj H
                    go_enter Tryd.func3, Tryd.ntmps3
                    go_wp2_with (first | ((with_reducible refine gate_callee (f := 6) rfl ?_); refine goesL_ (some 29) rfl rfl Tryd.func6 (by kernel_rfl) rfl #[] rfl (by (try simp only [List.map_toArray, List.map_cons, List.map_nil]); first | done | rfl | (simp only [List.length_drop, List.length_take]; rfl)) ?_; (with_reducible refine (footlockerlaw11_alive.calls k  true _ (by first | exact HG.out | exact Laid.below HG.out HB.out | (repeat (first | exact HG.out | with_reducible exact Laid.below HG.out HB.out | apply Laid.drewN | apply Laid.drew | apply Laid.alloc))) A3.out).mono ?_); rintro e w37 ⟨rfl, hb⟩; refine ⟨_, rfl, ?_⟩; have n0_ := Aside0.mk (below_step (by repeat (first | (with_reducible first | exact HB.out | apply below_alloc | apply pw_below_drewN | apply below_drew1) | exact HB.out)) hb); clear HB; have HB := n0_; clear n0_; (try clear hb); (try clear hb2); (try clear hk); (try clear hi)) | ((with_reducible refine gate_callee (f := 7) rfl ?_); refine goesL_ (some 33) rfl rfl Tryd.func7 (by kernel_rfl) rfl #[.int .i64 a0] rfl (by (try simp only [List.map_toArray, List.map_cons, List.map_nil]); first | done | rfl | (simp only [List.length_drop, List.length_take]; rfl)) ?_; (with_reducible refine (symbol_Length.calls k a0 t139 t140 t141 _ (by first | exact HG.out | exact Laid.below HG.out HB.out | (repeat (first | exact HG.out | with_reducible exact Laid.below HG.out HB.out | apply Laid.drewN | apply Laid.drew | apply Laid.alloc))) A5.out).mono ?_); rintro e w' ⟨rfl, ⟨nd, rfl⟩⟩; refine ⟨_, rfl, ?_⟩) | ((with_reducible refine gate_callee (f := 8) rfl ?_); refine goesL_ (some 39) rfl rfl Tryd.func8 (by kernel_rfl) rfl #[.int .i64 a0] rfl (by (try simp only [List.map_toArray, List.map_cons, List.map_nil]); first | done | rfl | (simp only [List.length_drop, List.length_take]; rfl)) ?_; (with_reducible refine (footlockerref11_Length.calls k a0 t142 t143 t144 _ A6.out).mono ?_); rintro e w' ⟨rfl, ⟨nd, rfl⟩⟩; refine ⟨_, rfl, ?_⟩) | ((with_reducible refine gate_callee (f := 9) rfl ?_); refine goesL_ (some 45) rfl rfl Tryd.func9 (by kernel_rfl) rfl #[.int .i64 a0] rfl (by (try simp only [List.map_toArray, List.map_cons, List.map_nil]); first | done | rfl | (simp only [List.length_drop, List.length_take]; rfl)) ?_; (with_reducible refine (symbol_Dist.calls k a0 t145 t146 t147 _ (by first | exact HG.out | exact Laid.below HG.out HB.out | (repeat (first | exact HG.out | with_reducible exact Laid.below HG.out HB.out | apply Laid.drewN | apply Laid.drew | apply Laid.alloc))) A7.out).mono ?_); rintro e w' ⟨rfl, ⟨nd, rfl⟩⟩; refine ⟨_, rfl, ?_⟩) | ((with_reducible refine gate_callee (f := 10) rfl ?_); refine goesL_ (some 51) rfl rfl Tryd.func10 (by kernel_rfl) rfl #[.int .i64 a0] rfl (by (try simp only [List.map_toArray, List.map_cons, List.map_nil]); first | done | rfl | (simp only [List.length_drop, List.length_take]; rfl)) ?_; (with_reducible refine (footlockerref11_Dist.calls k a0 t148 t149 t150 _ A8.out).mono ?_); rintro e w' ⟨rfl, ⟨nd, rfl⟩⟩; refine ⟨_, rfl, ?_⟩) | ((with_reducible refine gate_callee (f := 11) rfl ?_); refine goesL_ (some 57) rfl rfl Tryd.func11 (by kernel_rfl) rfl #[.int .i64 a1] rfl (by (try simp only [List.map_toArray, List.map_cons, List.map_nil]); first | done | rfl | (simp only [List.length_drop, List.length_take]; rfl)) ?_; (with_reducible refine (symbol_LengthBase.calls a1 t151 t152 t153 _ (by first | exact HG.out | exact Laid.below HG.out HB.out | (repeat (first | exact HG.out | with_reducible exact Laid.below HG.out HB.out | apply Laid.drewN | apply Laid.drew | apply Laid.alloc))) A9.out).mono ?_); rintro e w' ⟨rfl, ⟨nd, rfl⟩⟩; refine ⟨_, rfl, ?_⟩) | ((with_reducible refine gate_callee (f := 12) rfl ?_); refine goesL_ (some 63) rfl rfl Tryd.func12 (by kernel_rfl) rfl #[.int .i64 a1] rfl (by (try simp only [List.map_toArray, List.map_cons, List.map_nil]); first | done | rfl | (simp only [List.length_drop, List.length_take]; rfl)) ?_; (with_reducible refine (footlockerref11_LengthBase.calls k a1 t154 t155 t156 _ A10.out).mono ?_); rintro e w' ⟨rfl, ⟨nd, rfl⟩⟩; refine ⟨_, rfl, ?_⟩) | ((with_reducible refine gate_callee (f := 13) rfl ?_); refine goesL_ (some 69) rfl rfl Tryd.func13 (by kernel_rfl) rfl #[.int .i64 a1] rfl (by (try simp only [List.map_toArray, List.map_cons, List.map_nil]); first | done | rfl | (simp only [List.length_drop, List.length_take]; rfl)) ?_; (with_reducible refine (symbol_DistBase.calls a1 t157 t158 t159 _ (by first | exact HG.out | exact Laid.below HG.out HB.out | (repeat (first | exact HG.out | with_reducible exact Laid.below HG.out HB.out | apply Laid.drewN | apply Laid.drew | apply Laid.alloc))) A11.out).mono ?_); rintro e w' ⟨rfl, ⟨nd, rfl⟩⟩; refine ⟨_, rfl, ?_⟩) | ((with_reducible refine gate_callee (f := 14) rfl ?_); refine goesL_ (some 75) rfl rfl Tryd.func14 (by kernel_rfl) rfl #[.int .i64 a1] rfl (by (try simp only [List.map_toArray, List.map_cons, List.map_nil]); first | done | rfl | (simp only [List.length_drop, List.length_take]; rfl)) ?_; (with_reducible refine (footlockerref11_DistBase.calls k a1 t160 t161 t162 _ A12.out).mono ?_); rintro e w' ⟨rfl, ⟨nd, rfl⟩⟩; refine ⟨_, rfl, ?_⟩))
                    go_ret
                    exact ⟨by first | rfl | (simp [errW_none, errW_some] <;> rfl) | (simp [*, errW_none, errW_some] <;> rfl), by repeat (first | (with_reducible first | exact HB.out | apply below_alloc | apply pw_below_drewN | apply below_drew1) | exact HB.out)⟩
                · rw [if_neg c19] at H
                  have c19b0 : (t151 == t154) = false := beq_eq_false_iff_ne.mpr c19
                  have c19b1 : (t151 != t154) = true := bne_iff_ne.mpr c19
                  obtain rfl := Option.some.inj H
                  go_enter Tryd.func3, Tryd.ntmps3
                  go_wp2_with (first | ((with_reducible refine gate_callee (f := 6) rfl ?_); refine goesL_ (some 29) rfl rfl Tryd.func6 (by kernel_rfl) rfl #[] rfl (by (try simp only [List.map_toArray, List.map_cons, List.map_nil]); first | done | rfl | (simp only [List.length_drop, List.length_take]; rfl)) ?_; (with_reducible refine (footlockerlaw11_alive.calls k  true _ (by first | exact HG.out | exact Laid.below HG.out HB.out | (repeat (first | exact HG.out | with_reducible exact Laid.below HG.out HB.out | apply Laid.drewN | apply Laid.drew | apply Laid.alloc))) A3.out).mono ?_); rintro e w38 ⟨rfl, hb⟩; refine ⟨_, rfl, ?_⟩; have n0_ := Aside0.mk (below_step (by repeat (first | (with_reducible first | exact HB.out | apply below_alloc | apply pw_below_drewN | apply below_drew1) | exact HB.out)) hb); clear HB; have HB := n0_; clear n0_; (try clear hb); (try clear hb2); (try clear hk); (try clear hi)) | ((with_reducible refine gate_callee (f := 7) rfl ?_); refine goesL_ (some 33) rfl rfl Tryd.func7 (by kernel_rfl) rfl #[.int .i64 a0] rfl (by (try simp only [List.map_toArray, List.map_cons, List.map_nil]); first | done | rfl | (simp only [List.length_drop, List.length_take]; rfl)) ?_; (with_reducible refine (symbol_Length.calls k a0 t139 t140 t141 _ (by first | exact HG.out | exact Laid.below HG.out HB.out | (repeat (first | exact HG.out | with_reducible exact Laid.below HG.out HB.out | apply Laid.drewN | apply Laid.drew | apply Laid.alloc))) A5.out).mono ?_); rintro e w' ⟨rfl, ⟨nd, rfl⟩⟩; refine ⟨_, rfl, ?_⟩) | ((with_reducible refine gate_callee (f := 8) rfl ?_); refine goesL_ (some 39) rfl rfl Tryd.func8 (by kernel_rfl) rfl #[.int .i64 a0] rfl (by (try simp only [List.map_toArray, List.map_cons, List.map_nil]); first | done | rfl | (simp only [List.length_drop, List.length_take]; rfl)) ?_; (with_reducible refine (footlockerref11_Length.calls k a0 t142 t143 t144 _ A6.out).mono ?_); rintro e w' ⟨rfl, ⟨nd, rfl⟩⟩; refine ⟨_, rfl, ?_⟩) | ((with_reducible refine gate_callee (f := 9) rfl ?_); refine goesL_ (some 45) rfl rfl Tryd.func9 (by kernel_rfl) rfl #[.int .i64 a0] rfl (by (try simp only [List.map_toArray, List.map_cons, List.map_nil]); first | done | rfl | (simp only [List.length_drop, List.length_take]; rfl)) ?_; (with_reducible refine (symbol_Dist.calls k a0 t145 t146 t147 _ (by first | exact HG.out | exact Laid.below HG.out HB.out | (repeat (first | exact HG.out | with_reducible exact Laid.below HG.out HB.out | apply Laid.drewN | apply Laid.drew | apply Laid.alloc))) A7.out).mono ?_); rintro e w' ⟨rfl, ⟨nd, rfl⟩⟩; refine ⟨_, rfl, ?_⟩) | ((with_reducible refine gate_callee (f := 10) rfl ?_); refine goesL_ (some 51) rfl rfl Tryd.func10 (by kernel_rfl) rfl #[.int .i64 a0] rfl (by (try simp only [List.map_toArray, List.map_cons, List.map_nil]); first | done | rfl | (simp only [List.length_drop, List.length_take]; rfl)) ?_; (with_reducible refine (footlockerref11_Dist.calls k a0 t148 t149 t150 _ A8.out).mono ?_); rintro e w' ⟨rfl, ⟨nd, rfl⟩⟩; refine ⟨_, rfl, ?_⟩) | ((with_reducible refine gate_callee (f := 11) rfl ?_); refine goesL_ (some 57) rfl rfl Tryd.func11 (by kernel_rfl) rfl #[.int .i64 a1] rfl (by (try simp only [List.map_toArray, List.map_cons, List.map_nil]); first | done | rfl | (simp only [List.length_drop, List.length_take]; rfl)) ?_; (with_reducible refine (symbol_LengthBase.calls a1 t151 t152 t153 _ (by first | exact HG.out | exact Laid.below HG.out HB.out | (repeat (first | exact HG.out | with_reducible exact Laid.below HG.out HB.out | apply Laid.drewN | apply Laid.drew | apply Laid.alloc))) A9.out).mono ?_); rintro e w' ⟨rfl, ⟨nd, rfl⟩⟩; refine ⟨_, rfl, ?_⟩) | ((with_reducible refine gate_callee (f := 12) rfl ?_); refine goesL_ (some 63) rfl rfl Tryd.func12 (by kernel_rfl) rfl #[.int .i64 a1] rfl (by (try simp only [List.map_toArray, List.map_cons, List.map_nil]); first | done | rfl | (simp only [List.length_drop, List.length_take]; rfl)) ?_; (with_reducible refine (footlockerref11_LengthBase.calls k a1 t154 t155 t156 _ A10.out).mono ?_); rintro e w' ⟨rfl, ⟨nd, rfl⟩⟩; refine ⟨_, rfl, ?_⟩) | ((with_reducible refine gate_callee (f := 13) rfl ?_); refine goesL_ (some 69) rfl rfl Tryd.func13 (by kernel_rfl) rfl #[.int .i64 a1] rfl (by (try simp only [List.map_toArray, List.map_cons, List.map_nil]); first | done | rfl | (simp only [List.length_drop, List.length_take]; rfl)) ?_; (with_reducible refine (symbol_DistBase.calls a1 t157 t158 t159 _ (by first | exact HG.out | exact Laid.below HG.out HB.out | (repeat (first | exact HG.out | with_reducible exact Laid.below HG.out HB.out | apply Laid.drewN | apply Laid.drew | apply Laid.alloc))) A11.out).mono ?_); rintro e w' ⟨rfl, ⟨nd, rfl⟩⟩; refine ⟨_, rfl, ?_⟩) | ((with_reducible refine gate_callee (f := 14) rfl ?_); refine goesL_ (some 75) rfl rfl Tryd.func14 (by kernel_rfl) rfl #[.int .i64 a1] rfl (by (try simp only [List.map_toArray, List.map_cons, List.map_nil]); first | done | rfl | (simp only [List.length_drop, List.length_take]; rfl)) ?_; (with_reducible refine (footlockerref11_DistBase.calls k a1 t160 t161 t162 _ A12.out).mono ?_); rintro e w' ⟨rfl, ⟨nd, rfl⟩⟩; refine ⟨_, rfl, ?_⟩))
                  go_ret
                  exact ⟨by first | rfl | (simp [errW_none, errW_some] <;> rfl) | (simp [*, errW_none, errW_some] <;> rfl), by repeat (first | (with_reducible first | exact HB.out | apply below_alloc | apply pw_below_drewN | apply below_drew1) | exact HB.out)⟩
              · rw [if_neg c18] at H
                have c18b0 : (t147 == t150) = false := beq_eq_false_iff_ne.mpr c18
                have c18b1 : (t147 != t150) = true := bne_iff_ne.mpr c18
                obtain rfl := Option.some.inj H
                go_enter Tryd.func3, Tryd.ntmps3
                go_wp2_with (first | ((with_reducible refine gate_callee (f := 6) rfl ?_); refine goesL_ (some 29) rfl rfl Tryd.func6 (by kernel_rfl) rfl #[] rfl (by (try simp only [List.map_toArray, List.map_cons, List.map_nil]); first | done | rfl | (simp only [List.length_drop, List.length_take]; rfl)) ?_; (with_reducible refine (footlockerlaw11_alive.calls k  true _ (by first | exact HG.out | exact Laid.below HG.out HB.out | (repeat (first | exact HG.out | with_reducible exact Laid.below HG.out HB.out | apply Laid.drewN | apply Laid.drew | apply Laid.alloc))) A3.out).mono ?_); rintro e w39 ⟨rfl, hb⟩; refine ⟨_, rfl, ?_⟩; have n0_ := Aside0.mk (below_step (by repeat (first | (with_reducible first | exact HB.out | apply below_alloc | apply pw_below_drewN | apply below_drew1) | exact HB.out)) hb); clear HB; have HB := n0_; clear n0_; (try clear hb); (try clear hb2); (try clear hk); (try clear hi)) | ((with_reducible refine gate_callee (f := 7) rfl ?_); refine goesL_ (some 33) rfl rfl Tryd.func7 (by kernel_rfl) rfl #[.int .i64 a0] rfl (by (try simp only [List.map_toArray, List.map_cons, List.map_nil]); first | done | rfl | (simp only [List.length_drop, List.length_take]; rfl)) ?_; (with_reducible refine (symbol_Length.calls k a0 t139 t140 t141 _ (by first | exact HG.out | exact Laid.below HG.out HB.out | (repeat (first | exact HG.out | with_reducible exact Laid.below HG.out HB.out | apply Laid.drewN | apply Laid.drew | apply Laid.alloc))) A5.out).mono ?_); rintro e w' ⟨rfl, ⟨nd, rfl⟩⟩; refine ⟨_, rfl, ?_⟩) | ((with_reducible refine gate_callee (f := 8) rfl ?_); refine goesL_ (some 39) rfl rfl Tryd.func8 (by kernel_rfl) rfl #[.int .i64 a0] rfl (by (try simp only [List.map_toArray, List.map_cons, List.map_nil]); first | done | rfl | (simp only [List.length_drop, List.length_take]; rfl)) ?_; (with_reducible refine (footlockerref11_Length.calls k a0 t142 t143 t144 _ A6.out).mono ?_); rintro e w' ⟨rfl, ⟨nd, rfl⟩⟩; refine ⟨_, rfl, ?_⟩) | ((with_reducible refine gate_callee (f := 9) rfl ?_); refine goesL_ (some 45) rfl rfl Tryd.func9 (by kernel_rfl) rfl #[.int .i64 a0] rfl (by (try simp only [List.map_toArray, List.map_cons, List.map_nil]); first | done | rfl | (simp only [List.length_drop, List.length_take]; rfl)) ?_; (with_reducible refine (symbol_Dist.calls k a0 t145 t146 t147 _ (by first | exact HG.out | exact Laid.below HG.out HB.out | (repeat (first | exact HG.out | with_reducible exact Laid.below HG.out HB.out | apply Laid.drewN | apply Laid.drew | apply Laid.alloc))) A7.out).mono ?_); rintro e w' ⟨rfl, ⟨nd, rfl⟩⟩; refine ⟨_, rfl, ?_⟩) | ((with_reducible refine gate_callee (f := 10) rfl ?_); refine goesL_ (some 51) rfl rfl Tryd.func10 (by kernel_rfl) rfl #[.int .i64 a0] rfl (by (try simp only [List.map_toArray, List.map_cons, List.map_nil]); first | done | rfl | (simp only [List.length_drop, List.length_take]; rfl)) ?_; (with_reducible refine (footlockerref11_Dist.calls k a0 t148 t149 t150 _ A8.out).mono ?_); rintro e w' ⟨rfl, ⟨nd, rfl⟩⟩; refine ⟨_, rfl, ?_⟩) | ((with_reducible refine gate_callee (f := 11) rfl ?_); refine goesL_ (some 57) rfl rfl Tryd.func11 (by kernel_rfl) rfl #[.int .i64 a1] rfl (by (try simp only [List.map_toArray, List.map_cons, List.map_nil]); first | done | rfl | (simp only [List.length_drop, List.length_take]; rfl)) ?_; (with_reducible refine (symbol_LengthBase.calls a1 t151 t152 t153 _ (by first | exact HG.out | exact Laid.below HG.out HB.out | (repeat (first | exact HG.out | with_reducible exact Laid.below HG.out HB.out | apply Laid.drewN | apply Laid.drew | apply Laid.alloc))) A9.out).mono ?_); rintro e w' ⟨rfl, ⟨nd, rfl⟩⟩; refine ⟨_, rfl, ?_⟩) | ((with_reducible refine gate_callee (f := 12) rfl ?_); refine goesL_ (some 63) rfl rfl Tryd.func12 (by kernel_rfl) rfl #[.int .i64 a1] rfl (by (try simp only [List.map_toArray, List.map_cons, List.map_nil]); first | done | rfl | (simp only [List.length_drop, List.length_take]; rfl)) ?_; (with_reducible refine (footlockerref11_LengthBase.calls k a1 t154 t155 t156 _ A10.out).mono ?_); rintro e w' ⟨rfl, ⟨nd, rfl⟩⟩; refine ⟨_, rfl, ?_⟩) | ((with_reducible refine gate_callee (f := 13) rfl ?_); refine goesL_ (some 69) rfl rfl Tryd.func13 (by kernel_rfl) rfl #[.int .i64 a1] rfl (by (try simp only [List.map_toArray, List.map_cons, List.map_nil]); first | done | rfl | (simp only [List.length_drop, List.length_take]; rfl)) ?_; (with_reducible refine (symbol_DistBase.calls a1 t157 t158 t159 _ (by first | exact HG.out | exact Laid.below HG.out HB.out | (repeat (first | exact HG.out | with_reducible exact Laid.below HG.out HB.out | apply Laid.drewN | apply Laid.drew | apply Laid.alloc))) A11.out).mono ?_); rintro e w' ⟨rfl, ⟨nd, rfl⟩⟩; refine ⟨_, rfl, ?_⟩) | ((with_reducible refine gate_callee (f := 14) rfl ?_); refine goesL_ (some 75) rfl rfl Tryd.func14 (by kernel_rfl) rfl #[.int .i64 a1] rfl (by (try simp only [List.map_toArray, List.map_cons, List.map_nil]); first | done | rfl | (simp only [List.length_drop, List.length_take]; rfl)) ?_; (with_reducible refine (footlockerref11_DistBase.calls k a1 t160 t161 t162 _ A12.out).mono ?_); rintro e w' ⟨rfl, ⟨nd, rfl⟩⟩; refine ⟨_, rfl, ?_⟩))
                go_ret
                exact ⟨by first | rfl | (simp [errW_none, errW_some] <;> rfl) | (simp [*, errW_none, errW_some] <;> rfl), by repeat (first | (with_reducible first | exact HB.out | apply below_alloc | apply pw_below_drewN | apply below_drew1) | exact HB.out)⟩
            · rw [if_neg c17] at H
              have c17b0 : (t146 == t149) = false := beq_eq_false_iff_ne.mpr c17
              have c17b1 : (t146 != t149) = true := bne_iff_ne.mpr c17
              obtain rfl := Option.some.inj H
              go_enter Tryd.func3, Tryd.ntmps3
              go_wp2_with (first | ((with_reducible refine gate_callee (f := 6) rfl ?_); refine goesL_ (some 29) rfl rfl Tryd.func6 (by kernel_rfl) rfl #[] rfl (by (try simp only [List.map_toArray, List.map_cons, List.map_nil]); first | done | rfl | (simp only [List.length_drop, List.length_take]; rfl)) ?_; (with_reducible refine (footlockerlaw11_alive.calls k  true _ (by first | exact HG.out | exact Laid.below HG.out HB.out | (repeat (first | exact HG.out | with_reducible exact Laid.below HG.out HB.out | apply Laid.drewN | apply Laid.drew | apply Laid.alloc))) A3.out).mono ?_); rintro e w40 ⟨rfl, hb⟩; refine ⟨_, rfl, ?_⟩; have n0_ := Aside0.mk (below_step (by repeat (first | (with_reducible first | exact HB.out | apply below_alloc | apply pw_below_drewN | apply below_drew1) | exact HB.out)) hb); clear HB; have HB := n0_; clear n0_; (try clear hb); (try clear hb2); (try clear hk); (try clear hi)) | ((with_reducible refine gate_callee (f := 7) rfl ?_); refine goesL_ (some 33) rfl rfl Tryd.func7 (by kernel_rfl) rfl #[.int .i64 a0] rfl (by (try simp only [List.map_toArray, List.map_cons, List.map_nil]); first | done | rfl | (simp only [List.length_drop, List.length_take]; rfl)) ?_; (with_reducible refine (symbol_Length.calls k a0 t139 t140 t141 _ (by first | exact HG.out | exact Laid.below HG.out HB.out | (repeat (first | exact HG.out | with_reducible exact Laid.below HG.out HB.out | apply Laid.drewN | apply Laid.drew | apply Laid.alloc))) A5.out).mono ?_); rintro e w' ⟨rfl, ⟨nd, rfl⟩⟩; refine ⟨_, rfl, ?_⟩) | ((with_reducible refine gate_callee (f := 8) rfl ?_); refine goesL_ (some 39) rfl rfl Tryd.func8 (by kernel_rfl) rfl #[.int .i64 a0] rfl (by (try simp only [List.map_toArray, List.map_cons, List.map_nil]); first | done | rfl | (simp only [List.length_drop, List.length_take]; rfl)) ?_; (with_reducible refine (footlockerref11_Length.calls k a0 t142 t143 t144 _ A6.out).mono ?_); rintro e w' ⟨rfl, ⟨nd, rfl⟩⟩; refine ⟨_, rfl, ?_⟩) | ((with_reducible refine gate_callee (f := 9) rfl ?_); refine goesL_ (some 45) rfl rfl Tryd.func9 (by kernel_rfl) rfl #[.int .i64 a0] rfl (by (try simp only [List.map_toArray, List.map_cons, List.map_nil]); first | done | rfl | (simp only [List.length_drop, List.length_take]; rfl)) ?_; (with_reducible refine (symbol_Dist.calls k a0 t145 t146 t147 _ (by first | exact HG.out | exact Laid.below HG.out HB.out | (repeat (first | exact HG.out | with_reducible exact Laid.below HG.out HB.out | apply Laid.drewN | apply Laid.drew | apply Laid.alloc))) A7.out).mono ?_); rintro e w' ⟨rfl, ⟨nd, rfl⟩⟩; refine ⟨_, rfl, ?_⟩) | ((with_reducible refine gate_callee (f := 10) rfl ?_); refine goesL_ (some 51) rfl rfl Tryd.func10 (by kernel_rfl) rfl #[.int .i64 a0] rfl (by (try simp only [List.map_toArray, List.map_cons, List.map_nil]); first | done | rfl | (simp only [List.length_drop, List.length_take]; rfl)) ?_; (with_reducible refine (footlockerref11_Dist.calls k a0 t148 t149 t150 _ A8.out).mono ?_); rintro e w' ⟨rfl, ⟨nd, rfl⟩⟩; refine ⟨_, rfl, ?_⟩) | ((with_reducible refine gate_callee (f := 11) rfl ?_); refine goesL_ (some 57) rfl rfl Tryd.func11 (by kernel_rfl) rfl #[.int .i64 a1] rfl (by (try simp only [List.map_toArray, List.map_cons, List.map_nil]); first | done | rfl | (simp only [List.length_drop, List.length_take]; rfl)) ?_; (with_reducible refine (symbol_LengthBase.calls a1 t151 t152 t153 _ (by first | exact HG.out | exact Laid.below HG.out HB.out | (repeat (first | exact HG.out | with_reducible exact Laid.below HG.out HB.out | apply Laid.drewN | apply Laid.drew | apply Laid.alloc))) A9.out).mono ?_); rintro e w' ⟨rfl, ⟨nd, rfl⟩⟩; refine ⟨_, rfl, ?_⟩) | ((with_reducible refine gate_callee (f := 12) rfl ?_); refine goesL_ (some 63) rfl rfl Tryd.func12 (by kernel_rfl) rfl #[.int .i64 a1] rfl (by (try simp only [List.map_toArray, List.map_cons, List.map_nil]); first | done | rfl | (simp only [List.length_drop, List.length_take]; rfl)) ?_; (with_reducible refine (footlockerref11_LengthBase.calls k a1 t154 t155 t156 _ A10.out).mono ?_); rintro e w' ⟨rfl, ⟨nd, rfl⟩⟩; refine ⟨_, rfl, ?_⟩) | ((with_reducible refine gate_callee (f := 13) rfl ?_); refine goesL_ (some 69) rfl rfl Tryd.func13 (by kernel_rfl) rfl #[.int .i64 a1] rfl (by (try simp only [List.map_toArray, List.map_cons, List.map_nil]); first | done | rfl | (simp only [List.length_drop, List.length_take]; rfl)) ?_; (with_reducible refine (symbol_DistBase.calls a1 t157 t158 t159 _ (by first | exact HG.out | exact Laid.below HG.out HB.out | (repeat (first | exact HG.out | with_reducible exact Laid.below HG.out HB.out | apply Laid.drewN | apply Laid.drew | apply Laid.alloc))) A11.out).mono ?_); rintro e w' ⟨rfl, ⟨nd, rfl⟩⟩; refine ⟨_, rfl, ?_⟩) | ((with_reducible refine gate_callee (f := 14) rfl ?_); refine goesL_ (some 75) rfl rfl Tryd.func14 (by kernel_rfl) rfl #[.int .i64 a1] rfl (by (try simp only [List.map_toArray, List.map_cons, List.map_nil]); first | done | rfl | (simp only [List.length_drop, List.length_take]; rfl)) ?_; (with_reducible refine (footlockerref11_DistBase.calls k a1 t160 t161 t162 _ A12.out).mono ?_); rintro e w' ⟨rfl, ⟨nd, rfl⟩⟩; refine ⟨_, rfl, ?_⟩))
              go_ret
              exact ⟨by first | rfl | (simp [errW_none, errW_some] <;> rfl) | (simp [*, errW_none, errW_some] <;> rfl), by repeat (first | (with_reducible first | exact HB.out | apply below_alloc | apply pw_below_drewN | apply below_drew1) | exact HB.out)⟩
          · rw [if_neg c16] at H
            have c16b0 : (t145 == t148) = false := beq_eq_false_iff_ne.mpr c16
            have c16b1 : (t145 != t148) = true := bne_iff_ne.mpr c16
            obtain rfl := Option.some.inj H
            go_enter Tryd.func3, Tryd.ntmps3
            go_wp2_with (first | ((with_reducible refine gate_callee (f := 6) rfl ?_); refine goesL_ (some 29) rfl rfl Tryd.func6 (by kernel_rfl) rfl #[] rfl (by (try simp only [List.map_toArray, List.map_cons, List.map_nil]); first | done | rfl | (simp only [List.length_drop, List.length_take]; rfl)) ?_; (with_reducible refine (footlockerlaw11_alive.calls k  true _ (by first | exact HG.out | exact Laid.below HG.out HB.out | (repeat (first | exact HG.out | with_reducible exact Laid.below HG.out HB.out | apply Laid.drewN | apply Laid.drew | apply Laid.alloc))) A3.out).mono ?_); rintro e w41 ⟨rfl, hb⟩; refine ⟨_, rfl, ?_⟩; have n0_ := Aside0.mk (below_step (by repeat (first | (with_reducible first | exact HB.out | apply below_alloc | apply pw_below_drewN | apply below_drew1) | exact HB.out)) hb); clear HB; have HB := n0_; clear n0_; (try clear hb); (try clear hb2); (try clear hk); (try clear hi)) | ((with_reducible refine gate_callee (f := 7) rfl ?_); refine goesL_ (some 33) rfl rfl Tryd.func7 (by kernel_rfl) rfl #[.int .i64 a0] rfl (by (try simp only [List.map_toArray, List.map_cons, List.map_nil]); first | done | rfl | (simp only [List.length_drop, List.length_take]; rfl)) ?_; (with_reducible refine (symbol_Length.calls k a0 t139 t140 t141 _ (by first | exact HG.out | exact Laid.below HG.out HB.out | (repeat (first | exact HG.out | with_reducible exact Laid.below HG.out HB.out | apply Laid.drewN | apply Laid.drew | apply Laid.alloc))) A5.out).mono ?_); rintro e w' ⟨rfl, ⟨nd, rfl⟩⟩; refine ⟨_, rfl, ?_⟩) | ((with_reducible refine gate_callee (f := 8) rfl ?_); refine goesL_ (some 39) rfl rfl Tryd.func8 (by kernel_rfl) rfl #[.int .i64 a0] rfl (by (try simp only [List.map_toArray, List.map_cons, List.map_nil]); first | done | rfl | (simp only [List.length_drop, List.length_take]; rfl)) ?_; (with_reducible refine (footlockerref11_Length.calls k a0 t142 t143 t144 _ A6.out).mono ?_); rintro e w' ⟨rfl, ⟨nd, rfl⟩⟩; refine ⟨_, rfl, ?_⟩) | ((with_reducible refine gate_callee (f := 9) rfl ?_); refine goesL_ (some 45) rfl rfl Tryd.func9 (by kernel_rfl) rfl #[.int .i64 a0] rfl (by (try simp only [List.map_toArray, List.map_cons, List.map_nil]); first | done | rfl | (simp only [List.length_drop, List.length_take]; rfl)) ?_; (with_reducible refine (symbol_Dist.calls k a0 t145 t146 t147 _ (by first | exact HG.out | exact Laid.below HG.out HB.out | (repeat (first | exact HG.out | with_reducible exact Laid.below HG.out HB.out | apply Laid.drewN | apply Laid.drew | apply Laid.alloc))) A7.out).mono ?_); rintro e w' ⟨rfl, ⟨nd, rfl⟩⟩; refine ⟨_, rfl, ?_⟩) | ((with_reducible refine gate_callee (f := 10) rfl ?_); refine goesL_ (some 51) rfl rfl Tryd.func10 (by kernel_rfl) rfl #[.int .i64 a0] rfl (by (try simp only [List.map_toArray, List.map_cons, List.map_nil]); first | done | rfl | (simp only [List.length_drop, List.length_take]; rfl)) ?_; (with_reducible refine (footlockerref11_Dist.calls k a0 t148 t149 t150 _ A8.out).mono ?_); rintro e w' ⟨rfl, ⟨nd, rfl⟩⟩; refine ⟨_, rfl, ?_⟩) | ((with_reducible refine gate_callee (f := 11) rfl ?_); refine goesL_ (some 57) rfl rfl Tryd.func11 (by kernel_rfl) rfl #[.int .i64 a1] rfl (by (try simp only [List.map_toArray, List.map_cons, List.map_nil]); first | done | rfl | (simp only [List.length_drop, List.length_take]; rfl)) ?_; (with_reducible refine (symbol_LengthBase.calls a1 t151 t152 t153 _ (by first | exact HG.out | exact Laid.below HG.out HB.out | (repeat (first | exact HG.out | with_reducible exact Laid.below HG.out HB.out | apply Laid.drewN | apply Laid.drew | apply Laid.alloc))) A9.out).mono ?_); rintro e w' ⟨rfl, ⟨nd, rfl⟩⟩; refine ⟨_, rfl, ?_⟩) | ((with_reducible refine gate_callee (f := 12) rfl ?_); refine goesL_ (some 63) rfl rfl Tryd.func12 (by kernel_rfl) rfl #[.int .i64 a1] rfl (by (try simp only [List.map_toArray, List.map_cons, List.map_nil]); first | done | rfl | (simp only [List.length_drop, List.length_take]; rfl)) ?_; (with_reducible refine (footlockerref11_LengthBase.calls k a1 t154 t155 t156 _ A10.out).mono ?_); rintro e w' ⟨rfl, ⟨nd, rfl⟩⟩; refine ⟨_, rfl, ?_⟩) | ((with_reducible refine gate_callee (f := 13) rfl ?_); refine goesL_ (some 69) rfl rfl Tryd.func13 (by kernel_rfl) rfl #[.int .i64 a1] rfl (by (try simp only [List.map_toArray, List.map_cons, List.map_nil]); first | done | rfl | (simp only [List.length_drop, List.length_take]; rfl)) ?_; (with_reducible refine (symbol_DistBase.calls a1 t157 t158 t159 _ (by first | exact HG.out | exact Laid.below HG.out HB.out | (repeat (first | exact HG.out | with_reducible exact Laid.below HG.out HB.out | apply Laid.drewN | apply Laid.drew | apply Laid.alloc))) A11.out).mono ?_); rintro e w' ⟨rfl, ⟨nd, rfl⟩⟩; refine ⟨_, rfl, ?_⟩) | ((with_reducible refine gate_callee (f := 14) rfl ?_); refine goesL_ (some 75) rfl rfl Tryd.func14 (by kernel_rfl) rfl #[.int .i64 a1] rfl (by (try simp only [List.map_toArray, List.map_cons, List.map_nil]); first | done | rfl | (simp only [List.length_drop, List.length_take]; rfl)) ?_; (with_reducible refine (footlockerref11_DistBase.calls k a1 t160 t161 t162 _ A12.out).mono ?_); rintro e w' ⟨rfl, ⟨nd, rfl⟩⟩; refine ⟨_, rfl, ?_⟩))
            go_ret
            exact ⟨by first | rfl | (simp [errW_none, errW_some] <;> rfl) | (simp [*, errW_none, errW_some] <;> rfl), by repeat (first | (with_reducible first | exact HB.out | apply below_alloc | apply pw_below_drewN | apply below_drew1) | exact HB.out)⟩
        · rw [if_neg c15] at H
          have c15b0 : (t141 == t144) = false := beq_eq_false_iff_ne.mpr c15
          have c15b1 : (t141 != t144) = true := bne_iff_ne.mpr c15
          obtain rfl := Option.some.inj H
          go_enter Tryd.func3, Tryd.ntmps3
          go_wp2_with (first | ((with_reducible refine gate_callee (f := 6) rfl ?_); refine goesL_ (some 29) rfl rfl Tryd.func6 (by kernel_rfl) rfl #[] rfl (by (try simp only [List.map_toArray, List.map_cons, List.map_nil]); first | done | rfl | (simp only [List.length_drop, List.length_take]; rfl)) ?_; (with_reducible refine (footlockerlaw11_alive.calls k  true _ (by first | exact HG.out | exact Laid.below HG.out HB.out | (repeat (first | exact HG.out | with_reducible exact Laid.below HG.out HB.out | apply Laid.drewN | apply Laid.drew | apply Laid.alloc))) A3.out).mono ?_); rintro e w42 ⟨rfl, hb⟩; refine ⟨_, rfl, ?_⟩; have n0_ := Aside0.mk (below_step (by repeat (first | (with_reducible first | exact HB.out | apply below_alloc | apply pw_below_drewN | apply below_drew1) | exact HB.out)) hb); clear HB; have HB := n0_; clear n0_; (try clear hb); (try clear hb2); (try clear hk); (try clear hi)) | ((with_reducible refine gate_callee (f := 7) rfl ?_); refine goesL_ (some 33) rfl rfl Tryd.func7 (by kernel_rfl) rfl #[.int .i64 a0] rfl (by (try simp only [List.map_toArray, List.map_cons, List.map_nil]); first | done | rfl | (simp only [List.length_drop, List.length_take]; rfl)) ?_; (with_reducible refine (symbol_Length.calls k a0 t139 t140 t141 _ (by first | exact HG.out | exact Laid.below HG.out HB.out | (repeat (first | exact HG.out | with_reducible exact Laid.below HG.out HB.out | apply Laid.drewN | apply Laid.drew | apply Laid.alloc))) A5.out).mono ?_); rintro e w' ⟨rfl, ⟨nd, rfl⟩⟩; refine ⟨_, rfl, ?_⟩) | ((with_reducible refine gate_callee (f := 8) rfl ?_); refine goesL_ (some 39) rfl rfl Tryd.func8 (by kernel_rfl) rfl #[.int .i64 a0] rfl (by (try simp only [List.map_toArray, List.map_cons, List.map_nil]); first | done | rfl | (simp only [List.length_drop, List.length_take]; rfl)) ?_; (with_reducible refine (footlockerref11_Length.calls k a0 t142 t143 t144 _ A6.out).mono ?_); rintro e w' ⟨rfl, ⟨nd, rfl⟩⟩; refine ⟨_, rfl, ?_⟩) | ((with_reducible refine gate_callee (f := 9) rfl ?_); refine goesL_ (some 45) rfl rfl Tryd.func9 (by kernel_rfl) rfl #[.int .i64 a0] rfl (by (try simp only [List.map_toArray, List.map_cons, List.map_nil]); first | done | rfl | (simp only [List.length_drop, List.length_take]; rfl)) ?_; (with_reducible refine (symbol_Dist.calls k a0 t145 t146 t147 _ (by first | exact HG.out | exact Laid.below HG.out HB.out | (repeat (first | exact HG.out | with_reducible exact Laid.below HG.out HB.out | apply Laid.drewN | apply Laid.drew | apply Laid.alloc))) A7.out).mono ?_); rintro e w' ⟨rfl, ⟨nd, rfl⟩⟩; refine ⟨_, rfl, ?_⟩) | ((with_reducible refine gate_callee (f := 10) rfl ?_); refine goesL_ (some 51) rfl rfl Tryd.func10 (by kernel_rfl) rfl #[.int .i64 a0] rfl (by (try simp only [List.map_toArray, List.map_cons, List.map_nil]); first | done | rfl | (simp only [List.length_drop, List.length_take]; rfl)) ?_; (with_reducible refine (footlockerref11_Dist.calls k a0 t148 t149 t150 _ A8.out).mono ?_); rintro e w' ⟨rfl, ⟨nd, rfl⟩⟩; refine ⟨_, rfl, ?_⟩) | ((with_reducible refine gate_callee (f := 11) rfl ?_); refine goesL_ (some 57) rfl rfl Tryd.func11 (by kernel_rfl) rfl #[.int .i64 a1] rfl (by (try simp only [List.map_toArray, List.map_cons, List.map_nil]); first | done | rfl | (simp only [List.length_drop, List.length_take]; rfl)) ?_; (with_reducible refine (symbol_LengthBase.calls a1 t151 t152 t153 _ (by first | exact HG.out | exact Laid.below HG.out HB.out | (repeat (first | exact HG.out | with_reducible exact Laid.below HG.out HB.out | apply Laid.drewN | apply Laid.drew | apply Laid.alloc))) A9.out).mono ?_); rintro e w' ⟨rfl, ⟨nd, rfl⟩⟩; refine ⟨_, rfl, ?_⟩) | ((with_reducible refine gate_callee (f := 12) rfl ?_); refine goesL_ (some 63) rfl rfl Tryd.func12 (by kernel_rfl) rfl #[.int .i64 a1] rfl (by (try simp only [List.map_toArray, List.map_cons, List.map_nil]); first | done | rfl | (simp only [List.length_drop, List.length_take]; rfl)) ?_; (with_reducible refine (footlockerref11_LengthBase.calls k a1 t154 t155 t156 _ A10.out).mono ?_); rintro e w' ⟨rfl, ⟨nd, rfl⟩⟩; refine ⟨_, rfl, ?_⟩) | ((with_reducible refine gate_callee (f := 13) rfl ?_); refine goesL_ (some 69) rfl rfl Tryd.func13 (by kernel_rfl) rfl #[.int .i64 a1] rfl (by (try simp only [List.map_toArray, List.map_cons, List.map_nil]); first | done | rfl | (simp only [List.length_drop, List.length_take]; rfl)) ?_; (with_reducible refine (symbol_DistBase.calls a1 t157 t158 t159 _ (by first | exact HG.out | exact Laid.below HG.out HB.out | (repeat (first | exact HG.out | with_reducible exact Laid.below HG.out HB.out | apply Laid.drewN | apply Laid.drew | apply Laid.alloc))) A11.out).mono ?_); rintro e w' ⟨rfl, ⟨nd, rfl⟩⟩; refine ⟨_, rfl, ?_⟩) | ((with_reducible refine gate_callee (f := 14) rfl ?_); refine goesL_ (some 75) rfl rfl Tryd.func14 (by kernel_rfl) rfl #[.int .i64 a1] rfl (by (try simp only [List.map_toArray, List.map_cons, List.map_nil]); first | done | rfl | (simp only [List.length_drop, List.length_take]; rfl)) ?_; (with_reducible refine (footlockerref11_DistBase.calls k a1 t160 t161 t162 _ A12.out).mono ?_); rintro e w' ⟨rfl, ⟨nd, rfl⟩⟩; refine ⟨_, rfl, ?_⟩))
          go_ret
          exact ⟨by first | rfl | (simp [errW_none, errW_some] <;> rfl) | (simp [*, errW_none, errW_some] <;> rfl), by repeat (first | (with_reducible first | exact HB.out | apply below_alloc | apply pw_below_drewN | apply below_drew1) | exact HB.out)⟩
      · rw [if_neg c14] at H
        have c14b0 : (t140 == t143) = false := beq_eq_false_iff_ne.mpr c14
        have c14b1 : (t140 != t143) = true := bne_iff_ne.mpr c14
        obtain rfl := Option.some.inj H
        go_enter Tryd.func3, Tryd.ntmps3
        go_wp2_with (first | ((with_reducible refine gate_callee (f := 6) rfl ?_); refine goesL_ (some 29) rfl rfl Tryd.func6 (by kernel_rfl) rfl #[] rfl (by (try simp only [List.map_toArray, List.map_cons, List.map_nil]); first | done | rfl | (simp only [List.length_drop, List.length_take]; rfl)) ?_; (with_reducible refine (footlockerlaw11_alive.calls k  true _ (by first | exact HG.out | exact Laid.below HG.out HB.out | (repeat (first | exact HG.out | with_reducible exact Laid.below HG.out HB.out | apply Laid.drewN | apply Laid.drew | apply Laid.alloc))) A3.out).mono ?_); rintro e w43 ⟨rfl, hb⟩; refine ⟨_, rfl, ?_⟩; have n0_ := Aside0.mk (below_step (by repeat (first | (with_reducible first | exact HB.out | apply below_alloc | apply pw_below_drewN | apply below_drew1) | exact HB.out)) hb); clear HB; have HB := n0_; clear n0_; (try clear hb); (try clear hb2); (try clear hk); (try clear hi)) | ((with_reducible refine gate_callee (f := 7) rfl ?_); refine goesL_ (some 33) rfl rfl Tryd.func7 (by kernel_rfl) rfl #[.int .i64 a0] rfl (by (try simp only [List.map_toArray, List.map_cons, List.map_nil]); first | done | rfl | (simp only [List.length_drop, List.length_take]; rfl)) ?_; (with_reducible refine (symbol_Length.calls k a0 t139 t140 t141 _ (by first | exact HG.out | exact Laid.below HG.out HB.out | (repeat (first | exact HG.out | with_reducible exact Laid.below HG.out HB.out | apply Laid.drewN | apply Laid.drew | apply Laid.alloc))) A5.out).mono ?_); rintro e w' ⟨rfl, ⟨nd, rfl⟩⟩; refine ⟨_, rfl, ?_⟩) | ((with_reducible refine gate_callee (f := 8) rfl ?_); refine goesL_ (some 39) rfl rfl Tryd.func8 (by kernel_rfl) rfl #[.int .i64 a0] rfl (by (try simp only [List.map_toArray, List.map_cons, List.map_nil]); first | done | rfl | (simp only [List.length_drop, List.length_take]; rfl)) ?_; (with_reducible refine (footlockerref11_Length.calls k a0 t142 t143 t144 _ A6.out).mono ?_); rintro e w' ⟨rfl, ⟨nd, rfl⟩⟩; refine ⟨_, rfl, ?_⟩) | ((with_reducible refine gate_callee (f := 9) rfl ?_); refine goesL_ (some 45) rfl rfl Tryd.func9 (by kernel_rfl) rfl #[.int .i64 a0] rfl (by (try simp only [List.map_toArray, List.map_cons, List.map_nil]); first | done | rfl | (simp only [List.length_drop, List.length_take]; rfl)) ?_; (with_reducible refine (symbol_Dist.calls k a0 t145 t146 t147 _ (by first | exact HG.out | exact Laid.below HG.out HB.out | (repeat (first | exact HG.out | with_reducible exact Laid.below HG.out HB.out | apply Laid.drewN | apply Laid.drew | apply Laid.alloc))) A7.out).mono ?_); rintro e w' ⟨rfl, ⟨nd, rfl⟩⟩; refine ⟨_, rfl, ?_⟩) | ((with_reducible refine gate_callee (f := 10) rfl ?_); refine goesL_ (some 51) rfl rfl Tryd.func10 (by kernel_rfl) rfl #[.int .i64 a0] rfl (by (try simp only [List.map_toArray, List.map_cons, List.map_nil]); first | done | rfl | (simp only [List.length_drop, List.length_take]; rfl)) ?_; (with_reducible refine (footlockerref11_Dist.calls k a0 t148 t149 t150 _ A8.out).mono ?_); rintro e w' ⟨rfl, ⟨nd, rfl⟩⟩; refine ⟨_, rfl, ?_⟩) | ((with_reducible refine gate_callee (f := 11) rfl ?_); refine goesL_ (some 57) rfl rfl Tryd.func11 (by kernel_rfl) rfl #[.int .i64 a1] rfl (by (try simp only [List.map_toArray, List.map_cons, List.map_nil]); first | done | rfl | (simp only [List.length_drop, List.length_take]; rfl)) ?_; (with_reducible refine (symbol_LengthBase.calls a1 t151 t152 t153 _ (by first | exact HG.out | exact Laid.below HG.out HB.out | (repeat (first | exact HG.out | with_reducible exact Laid.below HG.out HB.out | apply Laid.drewN | apply Laid.drew | apply Laid.alloc))) A9.out).mono ?_); rintro e w' ⟨rfl, ⟨nd, rfl⟩⟩; refine ⟨_, rfl, ?_⟩) | ((with_reducible refine gate_callee (f := 12) rfl ?_); refine goesL_ (some 63) rfl rfl Tryd.func12 (by kernel_rfl) rfl #[.int .i64 a1] rfl (by (try simp only [List.map_toArray, List.map_cons, List.map_nil]); first | done | rfl | (simp only [List.length_drop, List.length_take]; rfl)) ?_; (with_reducible refine (footlockerref11_LengthBase.calls k a1 t154 t155 t156 _ A10.out).mono ?_); rintro e w' ⟨rfl, ⟨nd, rfl⟩⟩; refine ⟨_, rfl, ?_⟩) | ((with_reducible refine gate_callee (f := 13) rfl ?_); refine goesL_ (some 69) rfl rfl Tryd.func13 (by kernel_rfl) rfl #[.int .i64 a1] rfl (by (try simp only [List.map_toArray, List.map_cons, List.map_nil]); first | done | rfl | (simp only [List.length_drop, List.length_take]; rfl)) ?_; (with_reducible refine (symbol_DistBase.calls a1 t157 t158 t159 _ (by first | exact HG.out | exact Laid.below HG.out HB.out | (repeat (first | exact HG.out | with_reducible exact Laid.below HG.out HB.out | apply Laid.drewN | apply Laid.drew | apply Laid.alloc))) A11.out).mono ?_); rintro e w' ⟨rfl, ⟨nd, rfl⟩⟩; refine ⟨_, rfl, ?_⟩) | ((with_reducible refine gate_callee (f := 14) rfl ?_); refine goesL_ (some 75) rfl rfl Tryd.func14 (by kernel_rfl) rfl #[.int .i64 a1] rfl (by (try simp only [List.map_toArray, List.map_cons, List.map_nil]); first | done | rfl | (simp only [List.length_drop, List.length_take]; rfl)) ?_; (with_reducible refine (footlockerref11_DistBase.calls k a1 t160 t161 t162 _ A12.out).mono ?_); rintro e w' ⟨rfl, ⟨nd, rfl⟩⟩; refine ⟨_, rfl, ?_⟩))
        go_ret
        exact ⟨by first | rfl | (simp [errW_none, errW_some] <;> rfl) | (simp [*, errW_none, errW_some] <;> rfl), by repeat (first | (with_reducible first | exact HB.out | apply below_alloc | apply pw_below_drewN | apply below_drew1) | exact HB.out)⟩
    · rw [if_neg c13] at H
      have c13b0 : (t139 == t142) = false := beq_eq_false_iff_ne.mpr c13
      have c13b1 : (t139 != t142) = true := bne_iff_ne.mpr c13
      obtain rfl := Option.some.inj H
      go_enter Tryd.func3, Tryd.ntmps3
      go_wp2_with (first | ((with_reducible refine gate_callee (f := 6) rfl ?_); refine goesL_ (some 29) rfl rfl Tryd.func6 (by kernel_rfl) rfl #[] rfl (by (try simp only [List.map_toArray, List.map_cons, List.map_nil]); first | done | rfl | (simp only [List.length_drop, List.length_take]; rfl)) ?_; (with_reducible refine (footlockerlaw11_alive.calls k  true _ (by first | exact HG.out | exact Laid.below HG.out HB.out | (repeat (first | exact HG.out | with_reducible exact Laid.below HG.out HB.out | apply Laid.drewN | apply Laid.drew | apply Laid.alloc))) A3.out).mono ?_); rintro e w44 ⟨rfl, hb⟩; refine ⟨_, rfl, ?_⟩; have n0_ := Aside0.mk (below_step (by repeat (first | (with_reducible first | exact HB.out | apply below_alloc | apply pw_below_drewN | apply below_drew1) | exact HB.out)) hb); clear HB; have HB := n0_; clear n0_; (try clear hb); (try clear hb2); (try clear hk); (try clear hi)) | ((with_reducible refine gate_callee (f := 7) rfl ?_); refine goesL_ (some 33) rfl rfl Tryd.func7 (by kernel_rfl) rfl #[.int .i64 a0] rfl (by (try simp only [List.map_toArray, List.map_cons, List.map_nil]); first | done | rfl | (simp only [List.length_drop, List.length_take]; rfl)) ?_; (with_reducible refine (symbol_Length.calls k a0 t139 t140 t141 _ (by first | exact HG.out | exact Laid.below HG.out HB.out | (repeat (first | exact HG.out | with_reducible exact Laid.below HG.out HB.out | apply Laid.drewN | apply Laid.drew | apply Laid.alloc))) A5.out).mono ?_); rintro e w' ⟨rfl, ⟨nd, rfl⟩⟩; refine ⟨_, rfl, ?_⟩) | ((with_reducible refine gate_callee (f := 8) rfl ?_); refine goesL_ (some 39) rfl rfl Tryd.func8 (by kernel_rfl) rfl #[.int .i64 a0] rfl (by (try simp only [List.map_toArray, List.map_cons, List.map_nil]); first | done | rfl | (simp only [List.length_drop, List.length_take]; rfl)) ?_; (with_reducible refine (footlockerref11_Length.calls k a0 t142 t143 t144 _ A6.out).mono ?_); rintro e w' ⟨rfl, ⟨nd, rfl⟩⟩; refine ⟨_, rfl, ?_⟩) | ((with_reducible refine gate_callee (f := 9) rfl ?_); refine goesL_ (some 45) rfl rfl Tryd.func9 (by kernel_rfl) rfl #[.int .i64 a0] rfl (by (try simp only [List.map_toArray, List.map_cons, List.map_nil]); first | done | rfl | (simp only [List.length_drop, List.length_take]; rfl)) ?_; (with_reducible refine (symbol_Dist.calls k a0 t145 t146 t147 _ (by first | exact HG.out | exact Laid.below HG.out HB.out | (repeat (first | exact HG.out | with_reducible exact Laid.below HG.out HB.out | apply Laid.drewN | apply Laid.drew | apply Laid.alloc))) A7.out).mono ?_); rintro e w' ⟨rfl, ⟨nd, rfl⟩⟩; refine ⟨_, rfl, ?_⟩) | ((with_reducible refine gate_callee (f := 10) rfl ?_); refine goesL_ (some 51) rfl rfl Tryd.func10 (by kernel_rfl) rfl #[.int .i64 a0] rfl (by (try simp only [List.map_toArray, List.map_cons, List.map_nil]); first | done | rfl | (simp only [List.length_drop, List.length_take]; rfl)) ?_; (with_reducible refine (footlockerref11_Dist.calls k a0 t148 t149 t150 _ A8.out).mono ?_); rintro e w' ⟨rfl, ⟨nd, rfl⟩⟩; refine ⟨_, rfl, ?_⟩) | ((with_reducible refine gate_callee (f := 11) rfl ?_); refine goesL_ (some 57) rfl rfl Tryd.func11 (by kernel_rfl) rfl #[.int .i64 a1] rfl (by (try simp only [List.map_toArray, List.map_cons, List.map_nil]); first | done | rfl | (simp only [List.length_drop, List.length_take]; rfl)) ?_; (with_reducible refine (symbol_LengthBase.calls a1 t151 t152 t153 _ (by first | exact HG.out | exact Laid.below HG.out HB.out | (repeat (first | exact HG.out | with_reducible exact Laid.below HG.out HB.out | apply Laid.drewN | apply Laid.drew | apply Laid.alloc))) A9.out).mono ?_); rintro e w' ⟨rfl, ⟨nd, rfl⟩⟩; refine ⟨_, rfl, ?_⟩) | ((with_reducible refine gate_callee (f := 12) rfl ?_); refine goesL_ (some 63) rfl rfl Tryd.func12 (by kernel_rfl) rfl #[.int .i64 a1] rfl (by (try simp only [List.map_toArray, List.map_cons, List.map_nil]); first | done | rfl | (simp only [List.length_drop, List.length_take]; rfl)) ?_; (with_reducible refine (footlockerref11_LengthBase.calls k a1 t154 t155 t156 _ A10.out).mono ?_); rintro e w' ⟨rfl, ⟨nd, rfl⟩⟩; refine ⟨_, rfl, ?_⟩) | ((with_reducible refine gate_callee (f := 13) rfl ?_); refine goesL_ (some 69) rfl rfl Tryd.func13 (by kernel_rfl) rfl #[.int .i64 a1] rfl (by (try simp only [List.map_toArray, List.map_cons, List.map_nil]); first | done | rfl | (simp only [List.length_drop, List.length_take]; rfl)) ?_; (with_reducible refine (symbol_DistBase.calls a1 t157 t158 t159 _ (by first | exact HG.out | exact Laid.below HG.out HB.out | (repeat (first | exact HG.out | with_reducible exact Laid.below HG.out HB.out | apply Laid.drewN | apply Laid.drew | apply Laid.alloc))) A11.out).mono ?_); rintro e w' ⟨rfl, ⟨nd, rfl⟩⟩; refine ⟨_, rfl, ?_⟩) | ((with_reducible refine gate_callee (f := 14) rfl ?_); refine goesL_ (some 75) rfl rfl Tryd.func14 (by kernel_rfl) rfl #[.int .i64 a1] rfl (by (try simp only [List.map_toArray, List.map_cons, List.map_nil]); first | done | rfl | (simp only [List.length_drop, List.length_take]; rfl)) ?_; (with_reducible refine (footlockerref11_DistBase.calls k a1 t160 t161 t162 _ A12.out).mono ?_); rintro e w' ⟨rfl, ⟨nd, rfl⟩⟩; refine ⟨_, rfl, ?_⟩))
      go_ret
      exact ⟨by first | rfl | (simp [errW_none, errW_some] <;> rfl) | (simp [*, errW_none, errW_some] <;> rfl), by repeat (first | (with_reducible first | exact HB.out | apply below_alloc | apply pw_below_drewN | apply below_drew1) | exact HB.out)⟩
  · replace c4 := Bool.eq_false_iff.mpr c4
    subst c4
    have H1 : (some false) = some r := by rw [if_neg (show ¬ (false = true) by decide)] at H; exact H
    clear H
    have H := H1
    clear H1
    obtain rfl := Option.some.inj H
    go_enter Tryd.func3, Tryd.ntmps3
    go_wp2_with (first | ((with_reducible refine gate_callee (f := 6) rfl ?_); refine goesL_ (some 29) rfl rfl Tryd.func6 (by kernel_rfl) rfl #[] rfl (by (try simp only [List.map_toArray, List.map_cons, List.map_nil]); first | done | rfl | (simp only [List.length_drop, List.length_take]; rfl)) ?_; (with_reducible refine (footlockerlaw11_alive.calls k  false _ (by first | exact HG.out | exact Laid.below HG.out HB.out | (repeat (first | exact HG.out | with_reducible exact Laid.below HG.out HB.out | apply Laid.drewN | apply Laid.drew | apply Laid.alloc))) A3.out).mono ?_); rintro e w45 ⟨rfl, hb⟩; refine ⟨_, rfl, ?_⟩; have n0_ := Aside0.mk (below_step (by repeat (first | (with_reducible first | exact HB.out | apply below_alloc | apply pw_below_drewN | apply below_drew1) | exact HB.out)) hb); clear HB; have HB := n0_; clear n0_; (try clear hb); (try clear hb2); (try clear hk); (try clear hi)))
    go_ret
    exact ⟨by first | rfl | (simp [errW_none, errW_some] <;> rfl) | (simp [*, errW_none, errW_some] <;> rfl), by repeat (first | (with_reducible first | exact HB.out | apply below_alloc | apply pw_below_drewN | apply below_drew1) | exact HB.out)⟩

/-- THE ONE PURE STATEMENT of footlockerlaw11_SymbolNames: yours. -/
def footlockerlaw11_SymbolNames.Pure : Prop := ∀ (a0 : Int) (a1 : Int), (Lit.int .i64 a0).wf = true → (Lit.int .i64 a1).wf = true → ∃ k, footlockerlaw11_SymbolNames.f k a0 a1 = some true
theorem footlockerlaw11_SymbolNames.walk (P : footlockerlaw11_SymbolNames.Pure) (a0 : Int) (a1 : Int) (w : World) (hG : Laid w) (w0 : (Lit.int .i64 a0).wf = true) (w1 : (Lit.int .i64 a1).wf = true) :
    Calls Tryd.prog 3 #[.int .i64 a0, .int .i64 a1] w fun e w' => e = .returned (.bool true) ∧ Below w.heap.size w w' := by
  obtain ⟨k, h⟩ := P a0 a1 w0 w1
  refine (footlockerlaw11_SymbolNames.calls k a0 a1 true w hG h).mono ?_
  rintro e w' ⟨rfl, hd⟩
  exact ⟨rfl, hd⟩

/-! ### footlockerref01_Held: function 18 -/
def footlockerref01_Held.f (a0 : Int) (a1 : Int) (a2 : Int) : Option (Int) := if a0 > a2 then (if a2 < a1 then (some a1) else (some a2)) else (if a0 < a1 then (some a1) else (some a0))
set_option maxHeartbeats 8000000 in
set_option maxRecDepth 100000 in
theorem footlockerref01_Held.calls (a0 : Int) (a1 : Int) (a2 : Int) (r : Int) (w : World) (h : footlockerref01_Held.f a0 a1 a2 = some r) :
    Calls Tryd.prog 18 #[.int .i64 a0, .int .i64 a1, .int .i64 a2] w fun e w' => e = .returned (.int .i64 r) ∧ Drawn0 w w' := by
  have H : (if a0 > a2 then (if a2 < a1 then (some a1) else (some a2)) else (if a0 < a1 then (some a1) else (some a0))) = some r := h
  clear h
  by_cases c4 : a0 > a2
  · rw [if_pos c4] at H
    have c4b0 : decide (a2 < a0) = true := decide_eq_true c4
    clear c4
    by_cases c5 : a2 < a1
    · rw [if_pos c5] at H
      have c5b0 : decide (a2 < a1) = true := decide_eq_true c5
      clear c5
      obtain rfl := Option.some.inj H
      go_enter Tryd.func18, Tryd.ntmps18
      go_wp2
      go_ret
      exact ⟨by first | rfl | (simp; done) | (simp [*]; done), by repeat (first | exact Drawn0.refl _ | apply Drawn0.step)⟩
    · rw [if_neg c5] at H
      have c5b0 : decide (a2 < a1) = false := decide_eq_false c5
      clear c5
      obtain rfl := Option.some.inj H
      go_enter Tryd.func18, Tryd.ntmps18
      go_wp2
      go_ret
      exact ⟨by first | rfl | (simp; done) | (simp [*]; done), by repeat (first | exact Drawn0.refl _ | apply Drawn0.step)⟩
  · rw [if_neg c4] at H
    have c4b0 : decide (a2 < a0) = false := decide_eq_false c4
    clear c4
    by_cases c6 : a0 < a1
    · rw [if_pos c6] at H
      have c6b0 : decide (a0 < a1) = true := decide_eq_true c6
      clear c6
      obtain rfl := Option.some.inj H
      go_enter Tryd.func18, Tryd.ntmps18
      go_wp2
      go_ret
      exact ⟨by first | rfl | (simp; done) | (simp [*]; done), by repeat (first | exact Drawn0.refl _ | apply Drawn0.step)⟩
    · rw [if_neg c6] at H
      have c6b0 : decide (a0 < a1) = false := decide_eq_false c6
      clear c6
      obtain rfl := Option.some.inj H
      go_enter Tryd.func18, Tryd.ntmps18
      go_wp2
      go_ret
      exact ⟨by first | rfl | (simp; done) | (simp [*]; done), by repeat (first | exact Drawn0.refl _ | apply Drawn0.step)⟩

end Go.Proofs.YtabaodikcgaliaaDoor.P
