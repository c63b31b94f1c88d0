/- What the statement's proof uses: lemmas, and the program's functions as Lean functions; each theorem states its own conditions. Joined by a program. -/
import Derived.Test.YtanknpdibjfmlaaZLinearInverseB
namespace Go.Proofs.Ytanknpdibjfmlaa.P
open Go.RowKit Go.Proofs.YtanknpdibjfmlaaW.PrintWords Go.Proofs.YtanknpdibjfmlaaW.PrintLast Go.Proofs.YtanknpdibjfmlaaW.PrintMore
set_option linter.unusedVariables false
set_option linter.unusedSimpArgs false
set_option maxHeartbeats 8000000 in
set_option maxRecDepth 100000 in
theorem footlockerref03_Same.calls (k : Nat) (A0 : Option Addr) (c0 : Nat) (l0 : List (List Int)) (A1 : Option Addr) (c1 : Nat) (l1 : List (List Int)) (r : Bool) (w : World) (hr0 : Kd.C (Kd.slice 5 (Kd.int .u8)) w A0 l0.length l0) (hc0 : l0.length ≤ c0) (hr1 : Kd.C (Kd.slice 5 (Kd.int .u8)) w A1 l1.length l1) (hc1 : l1.length ≤ c1) (h : footlockerref03_Same.f k l0 l1 = some r) :
 Calls Try.prog 15 #[.slice A0 l0.length c0, .slice A1 l1.length c1] w fun e w' => e = .returned (.bool r) ∧ Drawn0 w w' := by
 have HR0 := Aside0.mk hr0
 have HC0 := Aside0.mk hc0
 clear hr0 hc0
 have HR1 := Aside0.mk hr1
 have HC1 := Aside0.mk hc1
 clear hr1 hc1
 have H : (if (l0.length : Int) = (l1.length : Int) then (footlockerref03_Same.l0 k l0 l1 0) else (some false)) = some r := h
 clear h
 by_cases c3 : (l0.length : Int) = (l1.length : Int)
 ·rw [if_pos c3] at H
  have c3b0 : ((l0.length : Int) == (l1.length : Int)) = true := beq_iff_eq.mpr c3
  have c3b1 : ((l0.length : Int) != (l1.length : Int)) = false := bne_eq_false_iff_eq.mpr c3
  have c3b2 : (l0.length == l1.length) = true := by first | simpa using c3 | (simp at c3 ⊢; omega)
  clear c3
  have H' := Aside0.mk H
  clear H
  go_enter Try.func15, Try.ntmps15
  go_wp2
  repeat (go_quiet (fail); try go_wp2)
  go_loopg [5] k (fun kq v5 w' => ∃ (x5_1 : Int), v5 = .int .i64 x5_1 ∧ Aside0 (footlockerref03_Same.l0 kq l0 l1 x5_1 = some r) ∧ Aside0 (kq ≤ k) ∧ Drawn0 w w')
  case atStart => exact ⟨(0), (by first | rfl | (simp; done) | (simp [*]; done)), H', ⟨Nat.le_refl _⟩, by repeat (first | exact Drawn0.refl _ | apply Drawn0.step)⟩
  case round =>
   clear H'
   try clear c1
   try clear p2
   try clear c3
   try clear c3b0
   try clear c3b1
   try clear c3b2
   obtain ⟨x5_1, rfl, HA, HK1, ⟨m1, rfl⟩⟩ := hrel
   cases gk with
   | zero => exact absurd HA.out (by simp [footlockerref03_Same.l0])
   | succ k1 =>
    have H := HA.out
    clear HA
    simp only [footlockerref03_Same.l0] at H
    by_cases c4 : x5_1 < (l0.length : Int)
    ·rw [if_pos c4] at H
     have c4b0 : decide (x5_1 < (l0.length : Int)) = true := decide_eq_true c4
     clear c4
     by_cases c5 : 0 ≤ x5_1
     ·rw [if_pos c5] at H
      have c5b0 : decide (0 ≤ x5_1) = true := decide_eq_true c5
      clear c5
      by_cases c6 : x5_1 < (l1.length : Int)
      ·rw [if_pos c6] at H
       have c6b0 : decide (x5_1 < (l1.length : Int)) = true := decide_eq_true c6
       clear c6
       replace H := Option.bind_eq_some_iff.mp H
       obtain ⟨t243, A70, H⟩ := H
       replace H : (if t243 = true then (footlockerref03_Same.l0 k1 l0 l1 (wrap64 (x5_1 + 1))) else (some false)) = some r := H
       have A7 := Aside0.mk A70
       clear A70
       by_cases c8 : t243 = true
       ·subst c8
        have H1 : (footlockerref03_Same.l0 k1 l0 l1 (wrap64 (x5_1 + 1))) = some r := by rw [if_pos rfl] at H; exact H
        clear H
        have H := H1
        clear H1
        have H' := Aside0.mk H
        clear H
        have p241 : 0 ≤ (x5_1 : Int) := of_decide_eq_true (by first | (with_reducible assumption) | assumption)
        have q241 : x5_1 < (l0.length : Int) := of_decide_eq_true (by first | (with_reducible assumption) | assumption)
        obtain ⟨ad241, A241_0, c241_0, e241, hx241_0, hl241_0, hi241_0⟩ := at_L1 HR0.out x5_1 p241 q241
        cases e241
        have HR241_0 := Aside0.mk hi241_0
        have HC241_0 := Aside0.mk hl241_0
        clear hi241_0 hl241_0
        replace p241 := eq_true p241
        replace q241 := eq_true q241
        have p242 : 0 ≤ (x5_1 : Int) := of_decide_eq_true (by first | (with_reducible assumption) | assumption)
        have q242 : x5_1 < (l1.length : Int) := of_decide_eq_true (by first | (with_reducible assumption) | assumption)
        obtain ⟨ad242, A242_0, c242_0, e242, hx242_0, hl242_0, hi242_0⟩ := at_L1 HR1.out x5_1 p242 q242
        cases e242
        have HR242_0 := Aside0.mk hi242_0
        have HC242_0 := Aside0.mk hl242_0
        clear hi242_0 hl242_0
        replace p242 := eq_true p242
        replace q242 := eq_true q242
        go_wp2_with (first | (go_at_call 18; (with_reducible refine (footlockerref01_Same.calls k1 _ _ (rd_L1 l0 x5_1) _ _ (rd_L1 l1 x5_1) true _ ?side1 ?side2 ?side3 ?side4 A7.out).mono ?_); (case side1 => repeat (first | exact HR241_0.out | (with_reducible refine Kd.C_alloc ?_ _) | (with_reducible refine Kd.C_drewN ?_ _) | (with_reducible refine Kd.C_drew ?_))); (case side2 => exact HC241_0.out); (case side3 => repeat (first | exact HR242_0.out | (with_reducible refine Kd.C_alloc ?_ _) | (with_reducible refine Kd.C_drewN ?_ _) | (with_reducible refine Kd.C_drew ?_))); (case side4 => exact HC242_0.out); rintro e w' ⟨rfl, ⟨nd, rfl⟩⟩; (try first | exact ⟨rfl, _, World.drewN_drewN _ _ _⟩ | exact ⟨rfl, _, Eq.trans (World.drewN_drewN _ _ _) (congrArg (World.drewN _) (Nat.add_assoc _ _ _))⟩)))
        repeat (go_quiet (first | (go_at_call 18; (with_reducible refine (footlockerref01_Same.calls k1 _ _ (rd_L1 l0 x5_1) _ _ (rd_L1 l1 x5_1) true _ ?side1 ?side2 ?side3 ?side4 A7.out).mono ?_); (case side1 => repeat (first | exact HR241_0.out | (with_reducible refine Kd.C_alloc ?_ _) | (with_reducible refine Kd.C_drewN ?_ _) | (with_reducible refine Kd.C_drew ?_))); (case side2 => exact HC241_0.out); (case side3 => repeat (first | exact HR242_0.out | (with_reducible refine Kd.C_alloc ?_ _) | (with_reducible refine Kd.C_drewN ?_ _) | (with_reducible refine Kd.C_drew ?_))); (case side4 => exact HC242_0.out); rintro e w' ⟨rfl, ⟨nd, rfl⟩⟩; (try first | exact ⟨rfl, _, World.drewN_drewN _ _ _⟩ | exact ⟨rfl, _, Eq.trans (World.drewN_drewN _ _ _) (congrArg (World.drewN _) (Nat.add_assoc _ _ _))⟩))); try go_wp2_with (first | (go_at_call 18; (with_reducible refine (footlockerref01_Same.calls k1 _ _ (rd_L1 l0 x5_1) _ _ (rd_L1 l1 x5_1) true _ ?side1 ?side2 ?side3 ?side4 A7.out).mono ?_); (case side1 => repeat (first | exact HR241_0.out | (with_reducible refine Kd.C_alloc ?_ _) | (with_reducible refine Kd.C_drewN ?_ _) | (with_reducible refine Kd.C_drew ?_))); (case side2 => exact HC241_0.out); (case side3 => repeat (first | exact HR242_0.out | (with_reducible refine Kd.C_alloc ?_ _) | (with_reducible refine Kd.C_drewN ?_ _) | (with_reducible refine Kd.C_drew ?_))); (case side4 => exact HC242_0.out); rintro e w' ⟨rfl, ⟨nd, rfl⟩⟩; (try first | exact ⟨rfl, _, World.drewN_drewN _ _ _⟩ | exact ⟨rfl, _, Eq.trans (World.drewN_drewN _ _ _) (congrArg (World.drewN _) (Nat.add_assoc _ _ _))⟩))))
        go_roundg k1
        case measure => have := HK1.out; omega
        case rel => exact ⟨(wrap64 (x5_1 + 1)), (by first | rfl | (simp; done) | (simp [*]; done)), H', ⟨by have := HK1.out; omega⟩, by repeat (first | exact Drawn0.refl _ | apply Drawn0.step)⟩
       ·replace c8 := Bool.eq_false_iff.mpr c8
        subst c8
        have H1 : (some false) = some r := by rw [if_neg (show ¬ (false = true) by decide)] at H; exact H
        clear H
        have H := H1
        clear H1
        obtain rfl := Option.some.inj H
        have p241 : 0 ≤ (x5_1 : Int) := of_decide_eq_true (by first | (with_reducible assumption) | assumption)
        have q241 : x5_1 < (l0.length : Int) := of_decide_eq_true (by first | (with_reducible assumption) | assumption)
        obtain ⟨ad241, A241_0, c241_0, e241, hx241_0, hl241_0, hi241_0⟩ := at_L1 HR0.out x5_1 p241 q241
        cases e241
        have HR241_0 := Aside0.mk hi241_0
        have HC241_0 := Aside0.mk hl241_0
        clear hi241_0 hl241_0
        replace p241 := eq_true p241
        replace q241 := eq_true q241
        have p242 : 0 ≤ (x5_1 : Int) := of_decide_eq_true (by first | (with_reducible assumption) | assumption)
        have q242 : x5_1 < (l1.length : Int) := of_decide_eq_true (by first | (with_reducible assumption) | assumption)
        obtain ⟨ad242, A242_0, c242_0, e242, hx242_0, hl242_0, hi242_0⟩ := at_L1 HR1.out x5_1 p242 q242
        cases e242
        have HR242_0 := Aside0.mk hi242_0
        have HC242_0 := Aside0.mk hl242_0
        clear hi242_0 hl242_0
        replace p242 := eq_true p242
        replace q242 := eq_true q242
        go_wp2_with (first | (go_at_call 18; (with_reducible refine (footlockerref01_Same.calls k1 _ _ (rd_L1 l0 x5_1) _ _ (rd_L1 l1 x5_1) false _ ?side1 ?side2 ?side3 ?side4 A7.out).mono ?_); (case side1 => repeat (first | exact HR241_0.out | (with_reducible refine Kd.C_alloc ?_ _) | (with_reducible refine Kd.C_drewN ?_ _) | (with_reducible refine Kd.C_drew ?_))); (case side2 => exact HC241_0.out); (case side3 => repeat (first | exact HR242_0.out | (with_reducible refine Kd.C_alloc ?_ _) | (with_reducible refine Kd.C_drewN ?_ _) | (with_reducible refine Kd.C_drew ?_))); (case side4 => exact HC242_0.out); rintro e w' ⟨rfl, ⟨nd, rfl⟩⟩; (try first | exact ⟨rfl, _, World.drewN_drewN _ _ _⟩ | exact ⟨rfl, _, Eq.trans (World.drewN_drewN _ _ _) (congrArg (World.drewN _) (Nat.add_assoc _ _ _))⟩)))
        repeat (go_quiet (first | (go_at_call 18; (with_reducible refine (footlockerref01_Same.calls k1 _ _ (rd_L1 l0 x5_1) _ _ (rd_L1 l1 x5_1) false _ ?side1 ?side2 ?side3 ?side4 A7.out).mono ?_); (case side1 => repeat (first | exact HR241_0.out | (with_reducible refine Kd.C_alloc ?_ _) | (with_reducible refine Kd.C_drewN ?_ _) | (with_reducible refine Kd.C_drew ?_))); (case side2 => exact HC241_0.out); (case side3 => repeat (first | exact HR242_0.out | (with_reducible refine Kd.C_alloc ?_ _) | (with_reducible refine Kd.C_drewN ?_ _) | (with_reducible refine Kd.C_drew ?_))); (case side4 => exact HC242_0.out); rintro e w' ⟨rfl, ⟨nd, rfl⟩⟩; (try first | exact ⟨rfl, _, World.drewN_drewN _ _ _⟩ | exact ⟨rfl, _, Eq.trans (World.drewN_drewN _ _ _) (congrArg (World.drewN _) (Nat.add_assoc _ _ _))⟩))); try go_wp2_with (first | (go_at_call 18; (with_reducible refine (footlockerref01_Same.calls k1 _ _ (rd_L1 l0 x5_1) _ _ (rd_L1 l1 x5_1) false _ ?side1 ?side2 ?side3 ?side4 A7.out).mono ?_); (case side1 => repeat (first | exact HR241_0.out | (with_reducible refine Kd.C_alloc ?_ _) | (with_reducible refine Kd.C_drewN ?_ _) | (with_reducible refine Kd.C_drew ?_))); (case side2 => exact HC241_0.out); (case side3 => repeat (first | exact HR242_0.out | (with_reducible refine Kd.C_alloc ?_ _) | (with_reducible refine Kd.C_drewN ?_ _) | (with_reducible refine Kd.C_drew ?_))); (case side4 => exact HC242_0.out); rintro e w' ⟨rfl, ⟨nd, rfl⟩⟩; (try first | exact ⟨rfl, _, World.drewN_drewN _ _ _⟩ | exact ⟨rfl, _, Eq.trans (World.drewN_drewN _ _ _) (congrArg (World.drewN _) (Nat.add_assoc _ _ _))⟩))))
        go_ret
        exact ⟨by first | rfl | (simp; done) | (simp [*]; done), by repeat (first | exact Drawn0.refl _ | apply Drawn0.step)⟩
      ·rw [if_neg c6] at H
       exact absurd H (by simp)
     ·rw [if_neg c5] at H
      exact absurd H (by simp)
    ·rw [if_neg c4] at H
     have c4b0 : decide (x5_1 < (l0.length : Int)) = false := decide_eq_false c4
     clear c4
     obtain rfl := Option.some.inj H
     go_wp2
     repeat (go_quiet (fail); try go_wp2)
     go_ret
     exact ⟨by first | rfl | (simp; done) | (simp [*]; done), by repeat (first | exact Drawn0.refl _ | apply Drawn0.step)⟩
 ·rw [if_neg c3] at H
  have c3b0 : ((l0.length : Int) == (l1.length : Int)) = false := beq_eq_false_iff_ne.mpr c3
  have c3b1 : ((l0.length : Int) != (l1.length : Int)) = true := bne_iff_ne.mpr c3
  have c3b2 : (l0.length == l1.length) = false := by first | simpa using c3 | (simp at c3 ⊢; omega)
  obtain rfl := Option.some.inj H
  go_enter Try.func15, Try.ntmps15
  go_wp2
  repeat (go_quiet (fail); try go_wp2)
  go_ret
  exact ⟨by first | rfl | (simp; done) | (simp [*]; done), by repeat (first | exact Drawn0.refl _ | apply Drawn0.step)⟩
end Go.Proofs.Ytanknpdibjfmlaa.P
namespace Go.Proofs.Ytanknpdibjfmlaa.P
open Go.RowKit Go.Proofs.YtanknpdibjfmlaaW.PrintWords Go.Proofs.YtanknpdibjfmlaaW.PrintLast Go.Proofs.YtanknpdibjfmlaaW.PrintMore
attribute [local go_sem] max2_int min2_int max_two min_two max_three min_three max_four min_four
set_option linter.unusedVariables false
set_option linter.unusedSimpArgs false
mutual
def footlockerlaw03_LinearInverse.j0 : Nat → List (List Int) → Bool → Option (Bool)
 | 0, _, _ => none
 | k + 1, x0, x20 => if x20 = true then (some true) else ((linear_Inverse.f k x0).bind fun bt372 => ((footlockerref03_Right.f k x0).bind fun t376 => (if t376 = true then (if (x0.length : Int) = 0 then (footlockerlaw03_LinearInverse.j1 k x0 bt372.1 bt372.2 (x0.length : Int) true) else (if 0 < (x0.length : Int) then (footlockerlaw03_LinearInverse.j1 k x0 bt372.1 bt372.2 (x0.length : Int) (((rd_L1 x0 0).length : Int) == (x0.length : Int))) else (none))) else (footlockerlaw03_LinearInverse.j1 k x0 bt372.1 bt372.2 (x0.length : Int) false))))
def footlockerlaw03_LinearInverse.j1 : Nat → List (List Int) → List (List Int) → Bool → Int → Bool → Option (Bool)
 | 0, _, _, _, _, _ => none
 | k + 1, x0, x3, x4, x5, x6 => if x6 = true then ((linear_Rank.f k x0).bind fun t378 => (footlockerlaw03_LinearInverse.j2 k x0 x3 x4 x5 (x4 != (t378 == x5)))) else (footlockerlaw03_LinearInverse.j2 k x0 x3 x4 x5 (x4 != false))
def footlockerlaw03_LinearInverse.j2 : Nat → List (List Int) → List (List Int) → Bool → Int → Bool → Option (Bool)
 | 0, _, _, _, _, _ => none
 | k + 1, x0, x3, x4, x5, x50 => if x50 = true then (some false) else (if x4 = true then (footlockerlaw03_LinearInverse.l0 k x0 x3 x5 x5 0) else (some ((x3.length : Int) == 0)))
def footlockerlaw03_LinearInverse.l0 : Nat → List (List Int) → List (List Int) → Int → Int → Int → Option (Bool)
 | 0, _, _, _, _, _ => none
 | k + 1, x0, x3, x5, x56, x57 => if x57 < x56 then (if 0 ≤ x5 then (if (x5 : Int).toNat ≤ 281474976710656 then ((some (List.replicate (x5 : Int).toNat 0 : List Int)).bind fun y384 => (if 0 ≤ x57 then (if x57 < (y384.length : Int) then ((some (y384.set (x57 : Int).toNat 1 : List Int)).bind fun y387 => ((linear_Times.f k x3 y387).bind fun t388 => ((linear_Times.f k x0 t388).bind fun t391 => ((footlockerref01_Same.f k t391 y387).bind fun t394 => (if t394 = true then ((linear_Times.f k x0 y387).bind fun t395 => ((linear_Times.f k x3 t395).bind fun t398 => ((footlockerref01_Same.f k t398 y387).bind fun t401 => (if t401 = true then (footlockerlaw03_LinearInverse.l0 k x0 x3 x5 x56 (wrap64 (x57 + 1))) else (some false))))) else (some false)))))) else (none)) else (none))) else (none)) else (none)) else ((linear_Inverse.f k x3).bind fun bt379 => (if bt379.2 = true then ((footlockerref03_Same.f k bt379.1 x0).bind fun t383 => (some t383)) else (some false)))
end
def footlockerlaw03_LinearInverse.f (k : Nat) (l0 : List (List Int)) : Option (Bool) := (footlockerlaw03_alive.f k).bind fun t370 => (if t370 = true then ((footlockerlaw03_small.f k l0).bind fun t371 => (if t371 = true then (footlockerlaw03_LinearInverse.j0 k l0 (decide ((l0.length : Int) > 12))) else (footlockerlaw03_LinearInverse.j0 k l0 true))) else (some false))
set_option maxHeartbeats 8000000 in
set_option maxRecDepth 100000 in
theorem footlockerlaw03_LinearInverse.calls (k : Nat) (A0 : Option Addr) (c0 : Nat) (l0 : List (List Int)) (r : Bool) (w : World) (hr0 : Kd.C (Kd.slice 5 (Kd.int .u8)) w A0 l0.length l0) (hc0 : l0.length ≤ c0) (h : footlockerlaw03_LinearInverse.f k l0 = some r) :
 Calls Try.prog 6 #[.slice A0 l0.length c0] w fun e w' => e = .returned (.bool r) ∧ Below w.heap.size w w' := by
 have HR0 := Aside0.mk hr0
 have HC0 := Aside0.mk hc0
 clear hr0 hc0
 have HB := Aside0.mk (Below.refl w.heap.size w)
 have H : ((footlockerlaw03_alive.f k).bind fun t370 => (if t370 = true then ((footlockerlaw03_small.f k l0).bind fun t371 => (if t371 = true then (footlockerlaw03_LinearInverse.j0 k l0 (decide ((l0.length : Int) > 12))) else (footlockerlaw03_LinearInverse.j0 k l0 true))) else (some false))) = some r := h
 clear h
 replace H := Option.bind_eq_some_iff.mp H
 obtain ⟨t370, A20, H⟩ := H
 replace H : (if t370 = true then ((footlockerlaw03_small.f k l0).bind fun t371 => (if t371 = true then (footlockerlaw03_LinearInverse.j0 k l0 (decide ((l0.length : Int) > 12))) else (footlockerlaw03_LinearInverse.j0 k l0 true))) else (some false)) = some r := H
 have A2 := Aside0.mk A20
 clear A20
 by_cases c3 : t370 = true
 ·subst c3
  have H1 : ((footlockerlaw03_small.f k l0).bind fun t371 => (if t371 = true then (footlockerlaw03_LinearInverse.j0 k l0 (decide ((l0.length : Int) > 12))) else (footlockerlaw03_LinearInverse.j0 k l0 true))) = some r := by rw [if_pos rfl] at H; exact H
  clear H
  have H := H1
  clear H1
  have HC4 := Aside0.mk H
  clear H
  go_enter Try.func6, Try.ntmps6
  go_upto_region 3 with (first | ((with_reducible refine gate_callee (f := 9) rfl ?_); refine goesL_ (some 11) rfl rfl Try.func9 (by kernel_rfl) rfl #[] rfl (by (try simp only [List.map_toArray, List.map_cons, List.map_nil]); first | done | rfl | (simp only [List.length_drop, List.length_take]; rfl)) ?_; (with_reducible refine (footlockerlaw03_alive.calls k  true _ A2.out).mono ?_); rintro e w5 ⟨rfl, hb⟩; refine ⟨_, rfl, ?_⟩; have n0_ := Aside0.mk (below_step (by repeat (first | (with_reducible first | exact HB.out | apply below_alloc | apply pw_below_drewN | apply below_drew1) | exact HB.out)) hb); clear HB; have HB := n0_; clear n0_; (try clear hb); (try clear hb2); (try clear hk); (try clear hi)))
  (try simp only [Act.put, List.setIfInBounds_toArray, List.set_cons_zero, List.set_cons_succ])
  go_cut [20] (fun v20 wc => ∃ (kq : Nat) (x20_3 : Bool), v20 = .bool x20_3 ∧ Aside0 (footlockerlaw03_LinearInverse.j0 kq l0 x20_3 = some r) ∧ Aside0 (kq ≤ k) ∧ Aside0 (Below w.heap.size w wc))
  case first =>
   have H := HC4.out
   clear HC4
   replace H := Option.bind_eq_some_iff.mp H
   obtain ⟨t371, A60, H⟩ := H
   replace H : (if t371 = true then (footlockerlaw03_LinearInverse.j0 k l0 (decide ((l0.length : Int) > 12))) else (footlockerlaw03_LinearInverse.j0 k l0 true)) = some r := H
   have A6 := Aside0.mk A60
   clear A60
   by_cases c7 : t371 = true
   ·subst c7
    have H1 : (footlockerlaw03_LinearInverse.j0 k l0 (decide ((l0.length : Int) > 12))) = some r := by rw [if_pos rfl] at H; exact H
    clear H
    have H := H1
    clear H1
    have H' := Aside0.mk H
    clear H
    go_wp2_with (first | ((with_reducible refine gate_callee (f := 10) rfl ?_); refine goesL_ (some 14) rfl rfl Try.func10 (by kernel_rfl) rfl #[.slice A0 l0.length c0] rfl (by (try simp only [List.map_toArray, List.map_cons, List.map_nil]); first | done | rfl | (simp only [List.length_drop, List.length_take]; rfl)) ?_; (with_reducible refine (footlockerlaw03_small.calls k _ _ l0 true _ ?side1 ?side2 A6.out).mono ?_); (case side1 => repeat (first | exact (Kd.C_below HR0.out HB.out) | (with_reducible refine Kd.C_alloc ?_ _) | (with_reducible refine Kd.C_drewN ?_ _) | (with_reducible refine Kd.C_drew ?_))); (case side2 => exact HC0.out); rintro e w' ⟨rfl, ⟨nd, rfl⟩⟩; refine ⟨_, rfl, ?_⟩))
    go_meet
    case rel => exact ⟨_, (decide ((l0.length : Int) > 12)), (by first | rfl | (simp; done) | (simp [*]; done)), H', ⟨by first | omega | exact Nat.le_refl _⟩, ⟨by repeat (first | (with_reducible first | exact HB.out | apply below_alloc | apply pw_below_drewN | apply below_drew1) | exact HB.out)⟩⟩
   ·replace c7 := Bool.eq_false_iff.mpr c7
    subst c7
    have H1 : (footlockerlaw03_LinearInverse.j0 k l0 true) = some r := by rw [if_neg (show ¬ (false = true) by decide)] at H; exact H
    clear H
    have H := H1
    clear H1
    have H' := Aside0.mk H
    clear H
    go_wp2_with (first | ((with_reducible refine gate_callee (f := 10) rfl ?_); refine goesL_ (some 14) rfl rfl Try.func10 (by kernel_rfl) rfl #[.slice A0 l0.length c0] rfl (by (try simp only [List.map_toArray, List.map_cons, List.map_nil]); first | done | rfl | (simp only [List.length_drop, List.length_take]; rfl)) ?_; (with_reducible refine (footlockerlaw03_small.calls k _ _ l0 false _ ?side1 ?side2 A6.out).mono ?_); (case side1 => repeat (first | exact (Kd.C_below HR0.out HB.out) | (with_reducible refine Kd.C_alloc ?_ _) | (with_reducible refine Kd.C_drewN ?_ _) | (with_reducible refine Kd.C_drew ?_))); (case side2 => exact HC0.out); rintro e w' ⟨rfl, ⟨nd, rfl⟩⟩; refine ⟨_, rfl, ?_⟩))
    go_meet
    case rel => exact ⟨_, (true), (by first | rfl | (simp; done) | (simp [*]; done)), H', ⟨by first | omega | exact Nat.le_refl _⟩, ⟨by repeat (first | (with_reducible first | exact HB.out | apply below_alloc | apply pw_below_drewN | apply below_drew1) | exact HB.out)⟩⟩
  case rest =>
   clear HC4
   try clear c1
   try clear p2
   try clear c3
   try clear c6
   try clear c7
   obtain ⟨kq, x20_3, rfl, HA, HJ3, HB⟩ := hcut
   cases kq with
   | zero => exact absurd HA.out (by simp [footlockerlaw03_LinearInverse.j0])
   | succ kj3 =>
    have H := HA.out
    clear HA
    simp only [footlockerlaw03_LinearInverse.j0] at H
    by_cases c8 : x20_3 = true
    ·subst c8
     have H1 : (some true) = some r := by rw [if_pos rfl] at H; exact H
     clear H
     have H := H1
     clear H1
     obtain rfl := Option.some.inj H
     go_wp2
     go_ret
     exact ⟨by first | rfl | (simp [errW_none, errW_some] <;> rfl) | (simp [*, errW_none, errW_some] <;> rfl), by repeat (first | (with_reducible first | exact HB.out | apply below_alloc | apply pw_below_drewN | apply below_drew1) | exact HB.out)⟩
    ·replace c8 := Bool.eq_false_iff.mpr c8
     subst c8
     have H1 : ((linear_Inverse.f kj3 l0).bind fun bt372 => ((footlockerref03_Right.f kj3 l0).bind fun t376 => (if t376 = true then (if (l0.length : Int) = 0 then (footlockerlaw03_LinearInverse.j1 kj3 l0 bt372.1 bt372.2 (l0.length : Int) true) else (if 0 < (l0.length : Int) then (footlockerlaw03_LinearInverse.j1 kj3 l0 bt372.1 bt372.2 (l0.length : Int) (((rd_L1 l0 0).length : Int) == (l0.length : Int))) else (none))) else (footlockerlaw03_LinearInverse.j1 kj3 l0 bt372.1 bt372.2 (l0.length : Int) false)))) = some r := by rw [if_neg (show ¬ (false = true) by decide)] at H; exact H
     clear H
     have H := H1
     clear H1
     replace H := Option.bind_eq_some_iff.mp H
     obtain ⟨⟨t372, t375⟩, A90, H⟩ := H
     replace H : ((footlockerref03_Right.f kj3 l0).bind fun t376 => (if t376 = true then (if (l0.length : Int) = 0 then (footlockerlaw03_LinearInverse.j1 kj3 l0 t372 t375 (l0.length : Int) true) else (if 0 < (l0.length : Int) then (footlockerlaw03_LinearInverse.j1 kj3 l0 t372 t375 (l0.length : Int) (((rd_L1 l0 0).length : Int) == (l0.length : Int))) else (none))) else (footlockerlaw03_LinearInverse.j1 kj3 l0 t372 t375 (l0.length : Int) false))) = some r := H
     have A9 := Aside0.mk A90
     clear A90
     have HC10 := Aside0.mk H
     clear H
     go_upto_region 7 with (first | ((with_reducible refine gate_callee (f := 23) rfl ?_); refine goesL_ (some 23) rfl rfl Try.func23 (by kernel_rfl) rfl #[.slice A0 l0.length c0] rfl (by (try simp only [List.map_toArray, List.map_cons, List.map_nil]); first | done | rfl | (simp only [List.length_drop, List.length_take]; rfl)) ?_; (with_reducible refine (linear_Inverse.calls kj3 _ _ l0 t372 t375 _ ?side1 ?side2 A9.out).mono ?_); (case side1 => repeat (first | exact (Kd.C_below HR0.out HB.out) | (with_reducible refine Kd.C_alloc ?_ _) | (with_reducible refine Kd.C_drewN ?_ _) | (with_reducible refine Kd.C_drew ?_))); (case side2 => exact HC0.out); rintro e w11 ⟨v373, rfl, ho0, hb⟩; refine ⟨_, rfl, ?_⟩; have n0_ := Aside0.mk (Kd.V_lower (Kd.V_mono (ok' := fun k_ => True) ho0 (fun k_ hk_ => trivial)) (below_size (by repeat (first | (with_reducible first | exact HB.out | apply below_alloc | apply pw_below_drewN | apply below_drew1) | exact HB.out)))); have n1_ := Aside0.mk (below_step (by repeat (first | (with_reducible first | exact HB.out | apply below_alloc | apply pw_below_drewN | apply below_drew1) | exact HB.out)) hb); clear HB; have HO374 := n0_; have HB := n1_; clear n0_ n1_; (try clear hb); (try clear hb2); (try clear hk); (try clear hi); (try clear ho0)))
     (try simp only [Act.put, List.setIfInBounds_toArray, List.set_cons_zero, List.set_cons_succ])
     go_cut [6] (fun v6 wc => ∃ (kq : Nat) (x6_9 : Bool), v6 = .bool x6_9 ∧ Aside0 (footlockerlaw03_LinearInverse.j1 kq l0 t372 t375 (l0.length : Int) x6_9 = some r) ∧ Aside0 (kq ≤ kj3) ∧ Aside0 (Kd.V (Kd.slice 5 (Kd.int .u8)) 23 wc w.heap.size (fun _ => True) v373 t372) ∧ Aside0 (Below w.heap.size w wc))
     case first =>
      have H := HC10.out
      clear HC10
      replace H := Option.bind_eq_some_iff.mp H
      obtain ⟨t376, A120, H⟩ := H
      replace H : (if t376 = true then (if (l0.length : Int) = 0 then (footlockerlaw03_LinearInverse.j1 kj3 l0 t372 t375 (l0.length : Int) true) else (if 0 < (l0.length : Int) then (footlockerlaw03_LinearInverse.j1 kj3 l0 t372 t375 (l0.length : Int) (((rd_L1 l0 0).length : Int) == (l0.length : Int))) else (none))) else (footlockerlaw03_LinearInverse.j1 kj3 l0 t372 t375 (l0.length : Int) false)) = some r := H
      have A12 := Aside0.mk A120
      clear A120
      by_cases c13 : t376 = true
      ·subst c13
       have H1 : (if (l0.length : Int) = 0 then (footlockerlaw03_LinearInverse.j1 kj3 l0 t372 t375 (l0.length : Int) true) else (if 0 < (l0.length : Int) then (footlockerlaw03_LinearInverse.j1 kj3 l0 t372 t375 (l0.length : Int) (((rd_L1 l0 0).length : Int) == (l0.length : Int))) else (none))) = some r := by rw [if_pos rfl] at H; exact H
       clear H
       have H := H1
       clear H1
       by_cases c14 : (l0.length : Int) = 0
       ·rw [if_pos c14] at H
        have c14b0 : ((l0.length : Int) == 0) = true := beq_iff_eq.mpr c14
        have c14b1 : ((l0.length : Int) != 0) = false := bne_eq_false_iff_eq.mpr c14
        clear c14
        (first | rw [c14b0] | (simp only [i64_w, i32_w]; rw [c14b0]) | skip)
        have H' := Aside0.mk H
        clear H
        go_wp2_with (first | ((with_reducible refine gate_callee (f := 14) rfl ?_); refine goesL_ (some 29) rfl rfl Try.func14 (by kernel_rfl) rfl #[.slice A0 l0.length c0] rfl (by (try simp only [List.map_toArray, List.map_cons, List.map_nil]); first | done | rfl | (simp only [List.length_drop, List.length_take]; rfl)) ?_; (with_reducible refine (footlockerref03_Right.calls kj3 _ _ l0 true _ ?side1 ?side2 A12.out).mono ?_); (case side1 => repeat (first | exact (Kd.C_below HR0.out HB.out) | (with_reducible refine Kd.C_alloc ?_ _) | (with_reducible refine Kd.C_drewN ?_ _) | (with_reducible refine Kd.C_drew ?_))); (case side2 => exact HC0.out); rintro e w' ⟨rfl, ⟨nd, rfl⟩⟩; refine ⟨_, rfl, ?_⟩))
        go_meet
        case rel => exact ⟨_, (true), (by first | rfl | (simp; done) | (simp [*]; done)), H', ⟨by have := HJ3.out; first | omega | exact Nat.le_refl _⟩, ⟨by (with_reducible repeat (first | apply Kd.V_alloc | apply Kd.V_drewN | apply Kd.V_drew)); exact HO374.out⟩, ⟨by repeat (first | (with_reducible first | exact HB.out | apply below_alloc | apply pw_below_drewN | apply below_drew1) | exact HB.out)⟩⟩
       ·rw [if_neg c14] at H
        have c14b0 : ((l0.length : Int) == 0) = false := beq_eq_false_iff_ne.mpr c14
        have c14b1 : ((l0.length : Int) != 0) = true := bne_iff_ne.mpr c14
        have c14b2 : ¬ (l0 = []) := fun h_ => c14 (by rw [h_]; rfl)
        (first | rw [c14b0] | (simp only [i64_w, i32_w]; rw [c14b0]) | skip)
        by_cases c15 : 0 < (l0.length : Int)
        ·rw [if_pos c15] at H
         have c15b0 : decide (0 < (l0.length : Int)) = true := decide_eq_true c15
         have c15b1 : decide (0 < l0.length) = true := decide_eq_true (by omega)
         clear c15
         have H' := Aside0.mk H
         clear H
         go_wp2_with (first | ((with_reducible refine gate_callee (f := 14) rfl ?_); refine goesL_ (some 29) rfl rfl Try.func14 (by kernel_rfl) rfl #[.slice A0 l0.length c0] rfl (by (try simp only [List.map_toArray, List.map_cons, List.map_nil]); first | done | rfl | (simp only [List.length_drop, List.length_take]; rfl)) ?_; (with_reducible refine (footlockerref03_Right.calls kj3 _ _ l0 true _ ?side1 ?side2 A12.out).mono ?_); (case side1 => repeat (first | exact (Kd.C_below HR0.out HB.out) | (with_reducible refine Kd.C_alloc ?_ _) | (with_reducible refine Kd.C_drewN ?_ _) | (with_reducible refine Kd.C_drew ?_))); (case side2 => exact HC0.out); rintro e w' ⟨rfl, ⟨nd, rfl⟩⟩; refine ⟨_, rfl, ?_⟩; have p377 : 0 ≤ (0 : Int) := (by omega); have q377 : 0 < (l0.length : Int) := of_decide_eq_true (by first | (with_reducible assumption) | assumption); obtain ⟨ad377, A377_0, c377_0, e377, hx377_0, hl377_0, hi377_0⟩ := at_L1 HR0.out 0 p377 q377; cases e377; have qi377 : (0 < l0.length) = True := eq_true (by omega); (try rw [show ((0 : Int)).toNat = 0 from rfl] at hx377_0); (try rw [Addr.add_zero'] at hx377_0); replace hx377_0 := (HB.out.cell (World.block_lt_of_cell? w _ hx377_0)).trans hx377_0; have HR377_0 := Aside0.mk hi377_0; have HC377_0 := Aside0.mk hl377_0; clear hi377_0 hl377_0; replace p377 := eq_true p377; replace q377 := eq_true q377))
         go_meet
         case rel => exact ⟨_, ((((rd_L1 l0 0).length : Int) == (l0.length : Int))), (by first | rfl | (simp; done) | (simp [*]; done)), H', ⟨by have := HJ3.out; first | omega | exact Nat.le_refl _⟩, ⟨by (with_reducible repeat (first | apply Kd.V_alloc | apply Kd.V_drewN | apply Kd.V_drew)); exact HO374.out⟩, ⟨by repeat (first | (with_reducible first | exact HB.out | apply below_alloc | apply pw_below_drewN | apply below_drew1) | exact HB.out)⟩⟩
        ·rw [if_neg c15] at H
         exact absurd H (by simp)
      ·replace c13 := Bool.eq_false_iff.mpr c13
       subst c13
       have H1 : (footlockerlaw03_LinearInverse.j1 kj3 l0 t372 t375 (l0.length : Int) false) = some r := by rw [if_neg (show ¬ (false = true) by decide)] at H; exact H
       clear H
       have H := H1
       clear H1
       have H' := Aside0.mk H
       clear H
       go_wp2_with (first | ((with_reducible refine gate_callee (f := 14) rfl ?_); refine goesL_ (some 29) rfl rfl Try.func14 (by kernel_rfl) rfl #[.slice A0 l0.length c0] rfl (by (try simp only [List.map_toArray, List.map_cons, List.map_nil]); first | done | rfl | (simp only [List.length_drop, List.length_take]; rfl)) ?_; (with_reducible refine (footlockerref03_Right.calls kj3 _ _ l0 false _ ?side1 ?side2 A12.out).mono ?_); (case side1 => repeat (first | exact (Kd.C_below HR0.out HB.out) | (with_reducible refine Kd.C_alloc ?_ _) | (with_reducible refine Kd.C_drewN ?_ _) | (with_reducible refine Kd.C_drew ?_))); (case side2 => exact HC0.out); rintro e w' ⟨rfl, ⟨nd, rfl⟩⟩; refine ⟨_, rfl, ?_⟩))
       go_meet
       case rel => exact ⟨_, (false), (by first | rfl | (simp; done) | (simp [*]; done)), H', ⟨by have := HJ3.out; first | omega | exact Nat.le_refl _⟩, ⟨by (with_reducible repeat (first | apply Kd.V_alloc | apply Kd.V_drewN | apply Kd.V_drew)); exact HO374.out⟩, ⟨by repeat (first | (with_reducible first | exact HB.out | apply below_alloc | apply pw_below_drewN | apply below_drew1) | exact HB.out)⟩⟩
     case rest =>
      clear HC10
      try clear c1
      try clear c2
      try clear p2
      try clear c3
      try clear p3
      try clear q3
      try clear hx3
      try clear qi3
      try clear c6
      try clear c7
      try clear c8
      try clear c9
      try clear c10
      try clear c13
      try clear c14
      try clear c14b0
      try clear c14b1
      try clear c14b2
      try clear c15
      try clear c15b0
      try clear c15b1
      try clear hx377_0
      try clear p2
      try clear p377
      try clear q377
      obtain ⟨kq, x6_9, rfl, HA, HJ9, HO_3, HB⟩ := hcut
      cases kq with
      | zero => exact absurd HA.out (by simp [footlockerlaw03_LinearInverse.j1])
      | succ kj9 =>
       have H := HA.out
       clear HA
       simp only [footlockerlaw03_LinearInverse.j1] at H
       have HC16 := Aside0.mk H
       clear H
       go_upto_region 8 with (fail)
       go_cut [50] (fun v50 wc => ∃ (kq : Nat) (x50_15 : Bool), v50 = .bool x50_15 ∧ Aside0 (footlockerlaw03_LinearInverse.j2 kq l0 t372 t375 (l0.length : Int) x50_15 = some r) ∧ Aside0 (kq ≤ kj9) ∧ Aside0 (Kd.V (Kd.slice 5 (Kd.int .u8)) 23 wc w.heap.size (fun _ => True) v373 t372) ∧ Aside0 (Below w.heap.size w wc))
       case first =>
        have H := HC16.out
        clear HC16
        by_cases c17 : x6_9 = true
        ·subst c17
         have H1 : ((linear_Rank.f kj9 l0).bind fun t378 => (footlockerlaw03_LinearInverse.j2 kj9 l0 t372 t375 (l0.length : Int) (t375 != (t378 == (l0.length : Int))))) = some r := by rw [if_pos rfl] at H; exact H
         clear H
         have H := H1
         clear H1
         replace H := Option.bind_eq_some_iff.mp H
         obtain ⟨t378, A180, H⟩ := H
         replace H : (footlockerlaw03_LinearInverse.j2 kj9 l0 t372 t375 (l0.length : Int) (t375 != (t378 == (l0.length : Int)))) = some r := H
         have A18 := Aside0.mk A180
         clear A180
         have H' := Aside0.mk H
         clear H
         go_wp2_with (first | (go_at_call 17; (with_reducible refine (linear_Rank.calls kj9 _ _ l0 t378 _ ?side1 ?side2 A18.out).mono ?_); (case side1 => repeat (first | exact (Kd.C_below HR0.out HB.out) | (with_reducible refine Kd.C_alloc ?_ _) | (with_reducible refine Kd.C_drewN ?_ _) | (with_reducible refine Kd.C_drew ?_))); (case side2 => exact HC0.out); rintro e w19 ⟨rfl, hb⟩; have n0_ := Aside0.mk (Kd.V_below (by (with_reducible repeat (first | apply Kd.V_alloc | apply Kd.V_drewN | apply Kd.V_drew)); exact HO_3.out) hb); have n1_ := Aside0.mk (below_step (by repeat (first | (with_reducible first | exact HB.out | apply below_alloc | apply pw_below_drewN | apply below_drew1) | exact HB.out)) hb); clear HO_3; clear HB; have HO_3 := n0_; have HB := n1_; clear n0_ n1_; (try clear hb); (try clear hb2); (try clear hk); (try clear hi)))
         go_meet
         case rel => exact ⟨_, ((t375 != (t378 == (l0.length : Int)))), (by first | rfl | (simp; done) | (simp [*]; done)), H', ⟨by have := HJ3.out; have := HJ9.out; first | omega | exact Nat.le_refl _⟩, ⟨by (with_reducible repeat (first | apply Kd.V_alloc | apply Kd.V_drewN | apply Kd.V_drew)); exact HO_3.out⟩, ⟨by repeat (first | (with_reducible first | exact HB.out | apply below_alloc | apply pw_below_drewN | apply below_drew1) | exact HB.out)⟩⟩
        ·replace c17 := Bool.eq_false_iff.mpr c17
         subst c17
         have H1 : (footlockerlaw03_LinearInverse.j2 kj9 l0 t372 t375 (l0.length : Int) (t375 != false)) = some r := by rw [if_neg (show ¬ (false = true) by decide)] at H; exact H
         clear H
         have H := H1
         clear H1
         have H' := Aside0.mk H
         clear H
         go_wp2
         go_meet
         case rel => exact ⟨_, ((t375 != false)), (by first | rfl | (simp; done) | (simp [*]; done)), H', ⟨by have := HJ3.out; have := HJ9.out; first | omega | exact Nat.le_refl _⟩, ⟨by (with_reducible repeat (first | apply Kd.V_alloc | apply Kd.V_drewN | apply Kd.V_drew)); exact HO_3.out⟩, ⟨by repeat (first | (with_reducible first | exact HB.out | apply below_alloc | apply pw_below_drewN | apply below_drew1) | exact HB.out)⟩⟩
       case rest =>
        clear HC16
        try clear c1
        try clear c2
        try clear p2
        try clear c3
        try clear p3
        try clear q3
        try clear hx3
        try clear qi3
        try clear c6
        try clear c7
        try clear c8
        try clear c9
        try clear c10
        try clear c13
        try clear c14
        try clear c14b0
        try clear c14b1
        try clear c14b2
        try clear c15
        try clear c15b0
        try clear c15b1
        try clear c17
        try clear hx377_0
        try clear p2
        try clear p3
        try clear p377
        try clear q3
        try clear q377
        obtain ⟨kq, x50_15, rfl, HA, HJ15, HO_3, HB⟩ := hcut
        cases kq with
        | zero => exact absurd HA.out (by simp [footlockerlaw03_LinearInverse.j2])
        | succ kj15 =>
         have H := HA.out
         clear HA
         simp only [footlockerlaw03_LinearInverse.j2] at H
         by_cases c20 : x50_15 = true
         ·subst c20
          have H1 : (some false) = some r := by rw [if_pos rfl] at H; exact H
          clear H
          have H := H1
          clear H1
          obtain rfl := Option.some.inj H
          go_wp2
          go_ret
          exact ⟨by first | rfl | (simp [errW_none, errW_some] <;> rfl) | (simp [*, errW_none, errW_some] <;> rfl), by repeat (first | (with_reducible first | exact HB.out | apply below_alloc | apply pw_below_drewN | apply below_drew1) | exact HB.out)⟩
         ·replace c20 := Bool.eq_false_iff.mpr c20
          subst c20
          have H1 : (if t375 = true then (footlockerlaw03_LinearInverse.l0 kj15 l0 t372 (l0.length : Int) (l0.length : Int) 0) else (some ((t372.length : Int) == 0))) = some r := by rw [if_neg (show ¬ (false = true) by decide)] at H; exact H
          clear H
          have H := H1
          clear H1
          by_cases c21 : t375 = true
          ·subst c21
           have H1 : (footlockerlaw03_LinearInverse.l0 kj15 l0 t372 (l0.length : Int) (l0.length : Int) 0) = some r := by rw [if_pos rfl] at H; exact H
           clear H
           have H := H1
           clear H1
           have H' := Aside0.mk H
           clear H
           go_wp2
           go_loopg [57] kj15 (fun kq v57 w' => ∃ (x57_4 : Int), v57 = .int .i64 x57_4 ∧ Aside0 (footlockerlaw03_LinearInverse.l0 kq l0 t372 (l0.length : Int) (l0.length : Int) x57_4 = some r) ∧ Aside0 (kq ≤ kj15) ∧ Aside0 (Kd.V (Kd.slice 5 (Kd.int .u8)) 23 w' w.heap.size (fun _ => True) v373 t372) ∧ Aside0 (Below w.heap.size w w'))
           case atStart => exact ⟨(0), (by first | rfl | (simp; done) | (simp [*]; done)), H', ⟨Nat.le_refl _⟩, ⟨by (with_reducible repeat (first | apply Kd.V_alloc | apply Kd.V_drewN | apply Kd.V_drew)); exact HO_3.out⟩, ⟨by repeat (first | (with_reducible first | exact HB.out | apply below_alloc | apply pw_below_drewN | apply below_drew1) | exact HB.out)⟩⟩
           case round =>
            clear H'
            try clear c1
            try clear c2
            try clear p2
            try clear c3
            try clear p3
            try clear q3
            try clear hx3
            try clear qi3
            try clear c6
            try clear c7
            try clear c8
            try clear c9
            try clear c10
            try clear c13
            try clear c14
            try clear c14b0
            try clear c14b1
            try clear c14b2
            try clear c15
            try clear c15b0
            try clear c15b1
            try clear c17
            try clear c20
            try clear c21
            try clear hx377_0
            try clear p2
            try clear p3
            try clear p377
            try clear q3
            try clear q377
            obtain ⟨x57_4, rfl, HA, HK4, HO_3, HB⟩ := hrel
            cases gk with
            | zero => exact absurd HA.out (by simp [footlockerlaw03_LinearInverse.l0])
            | succ k4 =>
             have H := HA.out
             clear HA
             simp only [footlockerlaw03_LinearInverse.l0] at H
             by_cases c22 : x57_4 < (l0.length : Int)
             ·rw [if_pos c22] at H
              have c22b0 : decide (x57_4 < (l0.length : Int)) = true := decide_eq_true c22
              clear c22
              by_cases c23 : 0 ≤ (l0.length : Int)
              ·rw [if_pos c23] at H
               have c23b0 := eq_true c23
               have c23b1 : decide (0 ≤ (l0.length : Int)) = true := decide_eq_true c23
               clear c23
               by_cases c24 : ((l0.length : Int) : Int).toNat ≤ 281474976710656
               ·rw [if_pos c24] at H
                have c24b0 := eq_true c24
                have c24b1 : decide (((l0.length : Int) : Int).toNat ≤ 281474976710656) = true := decide_eq_true c24
                clear c24
                obtain ⟨y384, hy384⟩ : ∃ y_ : List Int, y_ = (List.replicate ((l0.length : Int) : Int).toNat 0) := ⟨_, rfl⟩
                replace H : (if 0 ≤ x57_4 then (if x57_4 < (y384.length : Int) then ((some (y384.set (x57_4 : Int).toNat 1 : List Int)).bind fun y387 => ((linear_Times.f k4 t372 y387).bind fun t388 => ((linear_Times.f k4 l0 t388).bind fun t391 => ((footlockerref01_Same.f k4 t391 y387).bind fun t394 => (if t394 = true then ((linear_Times.f k4 l0 y387).bind fun t395 => ((linear_Times.f k4 t372 t395).bind fun t398 => ((footlockerref01_Same.f k4 t398 y387).bind fun t401 => (if t401 = true then (footlockerlaw03_LinearInverse.l0 k4 l0 t372 (l0.length : Int) (l0.length : Int) (wrap64 (x57_4 + 1))) else (some false))))) else (some false)))))) else (none)) else (none)) = some r := by first | (rw [hy384]; with_reducible exact H) | (have H2_ := (Option.bind_some _ _).symm.trans H; rw [hy384]; with_reducible exact H2_) | (have H2_ := (Option.bind_some _ _).symm.trans H; with_reducible exact H2_) | with_reducible exact H | (rw [hy384]; exact H) | exact H
                have Ny384 := Aside0.mk hy384
                clear hy384
                by_cases c25 : 0 ≤ x57_4
                ·rw [if_pos c25] at H
                 have c25b0 : decide (0 ≤ x57_4) = true := decide_eq_true c25
                 clear c25
                 by_cases c26 : x57_4 < (y384.length : Int)
                 ·rw [if_pos c26] at H
                  have c26b0 : decide (x57_4 < (y384.length : Int)) = true := decide_eq_true c26
                  clear c26
                  obtain ⟨y387, hy387⟩ : ∃ y_ : List Int, y_ = (y384.set (x57_4 : Int).toNat 1) := ⟨_, rfl⟩
                  replace H : ((linear_Times.f k4 t372 y387).bind fun t388 => ((linear_Times.f k4 l0 t388).bind fun t391 => ((footlockerref01_Same.f k4 t391 y387).bind fun t394 => (if t394 = true then ((linear_Times.f k4 l0 y387).bind fun t395 => ((linear_Times.f k4 t372 t395).bind fun t398 => ((footlockerref01_Same.f k4 t398 y387).bind fun t401 => (if t401 = true then (footlockerlaw03_LinearInverse.l0 k4 l0 t372 (l0.length : Int) (l0.length : Int) (wrap64 (x57_4 + 1))) else (some false))))) else (some false))))) = some r := by first | (rw [hy387]; with_reducible exact H) | (have H2_ := (Option.bind_some _ _).symm.trans H; rw [hy387]; with_reducible exact H2_) | (have H2_ := (Option.bind_some _ _).symm.trans H; with_reducible exact H2_) | with_reducible exact H | (rw [hy387]; exact H) | exact H
                  have Ny387 := Aside0.mk hy387
                  clear hy387
                  replace H := Option.bind_eq_some_iff.mp H
                  obtain ⟨t388, A280, H⟩ := H
                  replace H : ((linear_Times.f k4 l0 t388).bind fun t391 => ((footlockerref01_Same.f k4 t391 y387).bind fun t394 => (if t394 = true then ((linear_Times.f k4 l0 y387).bind fun t395 => ((linear_Times.f k4 t372 t395).bind fun t398 => ((footlockerref01_Same.f k4 t398 y387).bind fun t401 => (if t401 = true then (footlockerlaw03_LinearInverse.l0 k4 l0 t372 (l0.length : Int) (l0.length : Int) (wrap64 (x57_4 + 1))) else (some false))))) else (some false)))) = some r := H
                  have A28 := Aside0.mk A280
                  clear A280
                  replace H := Option.bind_eq_some_iff.mp H
                  obtain ⟨t391, A290, H⟩ := H
                  replace H : ((footlockerref01_Same.f k4 t391 y387).bind fun t394 => (if t394 = true then ((linear_Times.f k4 l0 y387).bind fun t395 => ((linear_Times.f k4 t372 t395).bind fun t398 => ((footlockerref01_Same.f k4 t398 y387).bind fun t401 => (if t401 = true then (footlockerlaw03_LinearInverse.l0 k4 l0 t372 (l0.length : Int) (l0.length : Int) (wrap64 (x57_4 + 1))) else (some false))))) else (some false))) = some r := H
                  have A29 := Aside0.mk A290
                  clear A290
                  replace H := Option.bind_eq_some_iff.mp H
                  obtain ⟨t394, A300, H⟩ := H
                  replace H : (if t394 = true then ((linear_Times.f k4 l0 y387).bind fun t395 => ((linear_Times.f k4 t372 t395).bind fun t398 => ((footlockerref01_Same.f k4 t398 y387).bind fun t401 => (if t401 = true then (footlockerlaw03_LinearInverse.l0 k4 l0 t372 (l0.length : Int) (l0.length : Int) (wrap64 (x57_4 + 1))) else (some false))))) else (some false)) = some r := H
                  have A30 := Aside0.mk A300
                  clear A300
                  by_cases c31 : t394 = true
                  ·subst c31
                   have H1 : ((linear_Times.f k4 l0 y387).bind fun t395 => ((linear_Times.f k4 t372 t395).bind fun t398 => ((footlockerref01_Same.f k4 t398 y387).bind fun t401 => (if t401 = true then (footlockerlaw03_LinearInverse.l0 k4 l0 t372 (l0.length : Int) (l0.length : Int) (wrap64 (x57_4 + 1))) else (some false))))) = some r := by rw [if_pos rfl] at H; exact H
                   clear H
                   have H := H1
                   clear H1
                   replace H := Option.bind_eq_some_iff.mp H
                   obtain ⟨t395, A320, H⟩ := H
                   replace H : ((linear_Times.f k4 t372 t395).bind fun t398 => ((footlockerref01_Same.f k4 t398 y387).bind fun t401 => (if t401 = true then (footlockerlaw03_LinearInverse.l0 k4 l0 t372 (l0.length : Int) (l0.length : Int) (wrap64 (x57_4 + 1))) else (some false)))) = some r := H
                   have A32 := Aside0.mk A320
                   clear A320
                   replace H := Option.bind_eq_some_iff.mp H
                   obtain ⟨t398, A330, H⟩ := H
                   replace H : ((footlockerref01_Same.f k4 t398 y387).bind fun t401 => (if t401 = true then (footlockerlaw03_LinearInverse.l0 k4 l0 t372 (l0.length : Int) (l0.length : Int) (wrap64 (x57_4 + 1))) else (some false))) = some r := H
                   have A33 := Aside0.mk A330
                   clear A330
                   replace H := Option.bind_eq_some_iff.mp H
                   obtain ⟨t401, A340, H⟩ := H
                   replace H : (if t401 = true then (footlockerlaw03_LinearInverse.l0 k4 l0 t372 (l0.length : Int) (l0.length : Int) (wrap64 (x57_4 + 1))) else (some false)) = some r := H
                   have A34 := Aside0.mk A340
                   clear A340
                   by_cases c35 : t401 = true
                   ·subst c35
                    have H1 : (footlockerlaw03_LinearInverse.l0 k4 l0 t372 (l0.length : Int) (l0.length : Int) (wrap64 (x57_4 + 1))) = some r := by rw [if_pos rfl] at H; exact H
                    clear H
                    have H := H1
                    clear H1
                    have H' := Aside0.mk H
                    clear H
                    go_wp2_with (first | ((with_reducible refine gate_dst (N := 61) rfl ?_); (try (refine gate_guard (by rfl) ?_; dsimp only)); refine Kd.R_make (Kd.int .u8) _ 5 rfl (N := 61) rfl 23 _ _ rfl (l0.length : Int) rfl rfl Try.underlying23 (.int .u8 0) 1 info5 rfl (by decide) (by omega) 0 (ok := fun _ => True) (okp := fun _ => True) rfl (fun _ hk => hk) trivial (of_decide_eq_true (by first | (with_reducible assumption) | assumption)) (Nat.le_trans (Nat.mul_le_mul_right _ (of_decide_eq_true (by first | (with_reducible assumption) | assumption) : (l0.length : Int).toNat ≤ 281474976710656)) (by omega)) (Below.refl _ _) (Nat.le_refl _) ?_; intro v385 w36 ho37 hb hg_ hnew_; clear hg_ hnew_; (first | rw [← Ny384.out] at ho37 | (simp only [Int.reduceToNat] at ho37; rw [← Ny384.out] at ho37)); have n0_ := Aside0.mk (Kd.V_elder' (by (with_reducible repeat (first | apply Kd.V_alloc | apply Kd.V_drewN | apply Kd.V_drew)); exact HO_3.out) (Kd.R_base ho37) hb); have n1_ := Aside0.mk (Kd.R_lower ho37 (below_size (by repeat (first | (with_reducible first | exact HB.out | apply below_alloc | apply pw_below_drewN | apply below_drew1) | exact HB.out)))); have n2_ := Aside0.mk (below_step (by repeat (first | (with_reducible first | exact HB.out | apply below_alloc | apply pw_below_drewN | apply below_drew1) | exact HB.out)) hb); clear HO_3; clear HB; have HO_3 := n0_; have HO386 := n1_; have HB := n2_; clear n0_ n1_ n2_; clear hb ho37; have p27 : 0 ≤ (x57_4 : Int) := of_decide_eq_true (by first | (with_reducible assumption) | assumption); have q27 : (x57_4 : Int) < ((y384.length : Int) : Int) := of_decide_eq_true (by first | (with_reducible assumption) | assumption); obtain ⟨go27, co27, eo27, gb27, gl27, cl27, HG27⟩ := Kd.R_form HO386.out (by omega); (first | cases eo27 | (injection eo27 with ea_ en_ ec_; (first | subst ea_ | (injection ea_ with ea_; subst ea_)); subst ec_; clear en_)); have GB27 := Aside0.mk gb27; have GG27 := Aside0.mk HG27; clear gb27 gl27 HG27; obtain ⟨hx27_0, hf27_0⟩ := Kd.R_celln 0 HO386.out (x57_4 : Int) p27 q27; replace p27 := eq_true p27; replace q27 := eq_true q27; obtain ⟨hy38_, hz38_⟩ := Kd.R_celln 0 HO386.out (x57_4 : Int) (of_decide_eq_true (by first | (with_reducible assumption) | assumption)) (of_decide_eq_true (by first | (with_reducible assumption) | assumption)); have HP38 := Kd.R_putg HO386.out (x57_4 : Int) 1) | ((with_reducible refine gate_store (t := 5) (p := 64) rfl ?_); refine store_event (t := 5) (p := 64) (v := ?vo_w39) (w1 := (w36.setCell ⟨go27, (x57_4 : Int).toNat, none⟩ (.int .u8 1))) ?hg ?ho ?hn ?hr ?_; (case ho => rfl); (case hg => rfl); (case hn => rfl); (case hr => first | (go_simp; done) | (go_simp; rfl)); intro w39 hw; have hg : w36.grownBy w39 (some go27) := (by rw [hw]; exact HP38.2); have hp_ : Kd.R (Kd.int .u8) 5 w39 w.heap.size (fun _ => True) (.slice (some ⟨go27, 0, none⟩) y384.length co27) y387 := (by rw [hw, Ny387.out]; exact HP38.1); clear HP38; have n0_ := Aside0.mk (Kd.V_afterv (v := (.slice (some ⟨go27, 0, none⟩) y384.length co27)) (v1 := (.slice (some ⟨go27, 0, none⟩) y384.length co27)) (ok := (fun _ => True)) (by (with_reducible repeat (first | apply Kd.V_alloc | apply Kd.V_drewN | apply Kd.V_drew)); exact HO_3.out) hg (.inl rfl)); have n1_ := Aside0.mk (hp_); have n2_ := Aside0.mk ((by rw [hw]; exact below_set (HB.out) GB27.out : Below w.heap.size w w39)); clear HO_3; clear HO386; clear HB; have HO_3 := n0_; have HO386 := n1_; have HB := n2_; clear n0_ n1_ n2_; clear hg hw hp_; obtain ⟨Ao40, co40, eo40⟩ := Kd.V_slice HO_3.out; subst eo40) | ((with_reducible refine gate_callee (f := 19) rfl ?_); refine goesL_ (some 68) rfl rfl Try.func19 (by kernel_rfl) rfl #[.slice Ao40 t372.length co40, .slice (some ⟨go27, 0, none⟩) y387.length co27] rfl (by (try simp only [List.map_toArray, List.map_cons, List.map_nil]); first | done | (rw [show y387.length = y384.length from (Kd.R_reads' HO386.out).1.symm] <;> rfl) | rfl | (simp only [List.length_drop, List.length_take]; rfl)) ?_; (with_reducible refine (linear_Times.calls k4 _ _ t372 _ _ y387 t388 _ ?side1 ?side2 ?side3 ?side4 A28.out).mono ?_); (case side1 => repeat (first | exact (Kd.V_reads' HO_3.out).2.2 | (with_reducible refine Kd.C_alloc ?_ _) | (with_reducible refine Kd.C_drewN ?_ _) | (with_reducible refine Kd.C_drew ?_))); (case side2 => exact (Kd.V_reads' HO_3.out).2.1); (case side3 => repeat (first | exact (Kd.R_reads' HO386.out).2.2 | (with_reducible refine Kd.C_alloc ?_ _) | (with_reducible refine Kd.C_drewN ?_ _) | (with_reducible refine Kd.C_drew ?_))); (case side4 => rw [show y387.length = y384.length from (Kd.R_reads' HO386.out).1.symm]; exact (Kd.R_reads' HO386.out).2.1); rintro e w41 ⟨v389, rfl, ho0, hb⟩; refine ⟨_, rfl, ?_⟩; have n0_ := Aside0.mk (Kd.V_elder' (by (with_reducible repeat (first | apply Kd.V_alloc | apply Kd.V_drewN | apply Kd.V_drew)); exact HO_3.out) (Kd.R_base ho0) hb); have n1_ := Aside0.mk (Kd.R_elder' (by (with_reducible repeat (first | apply Kd.R_alloc | apply Kd.R_drewN | apply Kd.R_drew)); exact HO386.out) (Kd.R_base ho0) hb); have n2_ := Aside0.mk (Kd.R_lower (Kd.R_new' ho0 (Kd.R_lt (by (with_reducible repeat (first | apply Kd.R_alloc | apply Kd.R_drewN | apply Kd.R_drew)); exact HO386.out))) (below_size (by repeat (first | (with_reducible first | exact HB.out | apply below_alloc | apply pw_below_drewN | apply below_drew1) | exact HB.out)))); have n3_ := Aside0.mk (below_step (by repeat (first | (with_reducible first | exact HB.out | apply below_alloc | apply pw_below_drewN | apply below_drew1) | exact HB.out)) hb); clear HO_3; clear HO386; clear HB; have HO_3 := n0_; have HO386 := n1_; have HO390 := n2_; have HB := n3_; clear n0_ n1_ n2_ n3_; (try clear hb); (try clear hb2); (try clear hk); (try clear hi); (try clear ho0); obtain ⟨Ao42, co42, eo42⟩ := Kd.R_slice HO390.out; subst eo42) | ((with_reducible refine gate_callee (f := 19) rfl ?_); refine goesL_ (some 69) rfl rfl Try.func19 (by kernel_rfl) rfl #[.slice A0 l0.length c0, .slice Ao42 t388.length co42] rfl (by (try simp only [List.map_toArray, List.map_cons, List.map_nil]); first | done | rfl | (simp only [List.length_drop, List.length_take]; rfl)) ?_; (with_reducible refine (linear_Times.calls k4 _ _ l0 _ _ t388 t391 _ ?side1 ?side2 ?side3 ?side4 A29.out).mono ?_); (case side1 => repeat (first | exact (Kd.C_below HR0.out HB.out) | (with_reducible refine Kd.C_alloc ?_ _) | (with_reducible refine Kd.C_drewN ?_ _) | (with_reducible refine Kd.C_drew ?_))); (case side2 => exact HC0.out); (case side3 => repeat (first | exact (Kd.R_reads' HO390.out).2.2 | (with_reducible refine Kd.C_alloc ?_ _) | (with_reducible refine Kd.C_drewN ?_ _) | (with_reducible refine Kd.C_drew ?_))); (case side4 => exact (Kd.R_reads' HO390.out).2.1); rintro e w43 ⟨v392, rfl, ho0, hb⟩; refine ⟨_, rfl, ?_⟩; have n0_ := Aside0.mk (Kd.V_elder' (by (with_reducible repeat (first | apply Kd.V_alloc | apply Kd.V_drewN | apply Kd.V_drew)); exact HO_3.out) (Kd.R_base ho0) hb); have n1_ := Aside0.mk (Kd.R_elder' (by (with_reducible repeat (first | apply Kd.R_alloc | apply Kd.R_drewN | apply Kd.R_drew)); exact HO386.out) (Kd.R_base ho0) hb); have n2_ := Aside0.mk (Kd.R_elder' (by (with_reducible repeat (first | apply Kd.R_alloc | apply Kd.R_drewN | apply Kd.R_drew)); exact HO390.out) (Kd.R_base ho0) hb); have n3_ := Aside0.mk (Kd.R_lower (Kd.R_new' (Kd.R_new' ho0 (Kd.R_lt (by (with_reducible repeat (first | apply Kd.R_alloc | apply Kd.R_drewN | apply Kd.R_drew)); exact HO386.out))) (Kd.R_lt (by (with_reducible repeat (first | apply Kd.R_alloc | apply Kd.R_drewN | apply Kd.R_drew)); exact HO390.out))) (below_size (by repeat (first | (with_reducible first | exact HB.out | apply below_alloc | apply pw_below_drewN | apply below_drew1) | exact HB.out)))); have n4_ := Aside0.mk (below_step (by repeat (first | (with_reducible first | exact HB.out | apply below_alloc | apply pw_below_drewN | apply below_drew1) | exact HB.out)) hb); clear HO_3; clear HO386; clear HO390; clear HB; have HO_3 := n0_; have HO386 := n1_; have HO390 := n2_; have HO393 := n3_; have HB := n4_; clear n0_ n1_ n2_ n3_ n4_; (try clear hb); (try clear hb2); (try clear hk); (try clear hi); (try clear ho0); obtain ⟨Ao44, co44, eo44⟩ := Kd.R_slice HO393.out; subst eo44) | ((with_reducible refine gate_callee (f := 18) rfl ?_); refine goesL_ (some 71) rfl rfl Try.func18 (by kernel_rfl) rfl #[.slice Ao44 t391.length co44, .slice (some ⟨go27, 0, none⟩) y387.length co27] rfl (by (try simp only [List.map_toArray, List.map_cons, List.map_nil]); first | done | (rw [show y387.length = y384.length from (Kd.R_reads' HO386.out).1.symm] <;> rfl) | rfl | (simp only [List.length_drop, List.length_take]; rfl)) ?_; (with_reducible refine (footlockerref01_Same.calls k4 _ _ t391 _ _ y387 true _ ?side1 ?side2 ?side3 ?side4 A30.out).mono ?_); (case side1 => repeat (first | exact (Kd.R_reads' HO393.out).2.2 | (with_reducible refine Kd.C_alloc ?_ _) | (with_reducible refine Kd.C_drewN ?_ _) | (with_reducible refine Kd.C_drew ?_))); (case side2 => exact (Kd.R_reads' HO393.out).2.1); (case side3 => repeat (first | exact (Kd.R_reads' HO386.out).2.2 | (with_reducible refine Kd.C_alloc ?_ _) | (with_reducible refine Kd.C_drewN ?_ _) | (with_reducible refine Kd.C_drew ?_))); (case side4 => rw [show y387.length = y384.length from (Kd.R_reads' HO386.out).1.symm]; exact (Kd.R_reads' HO386.out).2.1); rintro e w' ⟨rfl, ⟨nd, rfl⟩⟩; refine ⟨_, rfl, ?_⟩) | (go_at_call 19; refine calls_of_args (args' := #[.slice A0 l0.length c0, .slice (some ⟨go27, 0, none⟩) y387.length co27]) (by first | (rw [show y387.length = y384.length from (Kd.R_reads' HO386.out).1.symm] <;> rfl) | rfl) ?_; (with_reducible refine (linear_Times.calls k4 _ _ l0 _ _ y387 t395 _ ?side1 ?side2 ?side3 ?side4 A32.out).mono ?_); (case side1 => repeat (first | exact (Kd.C_below HR0.out (by repeat (first | (with_reducible first | exact HB.out | apply below_alloc | apply pw_below_drewN | apply below_drew1) | exact HB.out))) | (with_reducible refine Kd.C_alloc ?_ _) | (with_reducible refine Kd.C_drewN ?_ _) | (with_reducible refine Kd.C_drew ?_))); (case side2 => exact HC0.out); (case side3 => repeat (first | exact (Kd.R_reads' HO386.out).2.2 | (with_reducible refine Kd.C_alloc ?_ _) | (with_reducible refine Kd.C_drewN ?_ _) | (with_reducible refine Kd.C_drew ?_))); (case side4 => rw [show y387.length = y384.length from (Kd.R_reads' HO386.out).1.symm]; exact (Kd.R_reads' HO386.out).2.1); rintro e w45 ⟨v396, rfl, ho0, hb⟩; have n0_ := Aside0.mk (Kd.V_elder' (by (with_reducible repeat (first | apply Kd.V_alloc | apply Kd.V_drewN | apply Kd.V_drew)); exact HO_3.out) (Kd.R_base ho0) hb); have n1_ := Aside0.mk (Kd.R_elder' (by (with_reducible repeat (first | apply Kd.R_alloc | apply Kd.R_drewN | apply Kd.R_drew)); exact HO386.out) (Kd.R_base ho0) hb); have n2_ := Aside0.mk (Kd.R_elder' (by (with_reducible repeat (first | apply Kd.R_alloc | apply Kd.R_drewN | apply Kd.R_drew)); exact HO390.out) (Kd.R_base ho0) hb); have n3_ := Aside0.mk (Kd.R_elder' (by (with_reducible repeat (first | apply Kd.R_alloc | apply Kd.R_drewN | apply Kd.R_drew)); exact HO393.out) (Kd.R_base ho0) hb); have n4_ := Aside0.mk (Kd.R_lower (Kd.R_new' (Kd.R_new' (Kd.R_new' ho0 (Kd.R_lt (by (with_reducible repeat (first | apply Kd.R_alloc | apply Kd.R_drewN | apply Kd.R_drew)); exact HO386.out))) (Kd.R_lt (by (with_reducible repeat (first | apply Kd.R_alloc | apply Kd.R_drewN | apply Kd.R_drew)); exact HO390.out))) (Kd.R_lt (by (with_reducible repeat (first | apply Kd.R_alloc | apply Kd.R_drewN | apply Kd.R_drew)); exact HO393.out))) (below_size (by repeat (first | (with_reducible first | exact HB.out | apply below_alloc | apply pw_below_drewN | apply below_drew1) | exact HB.out)))); have n5_ := Aside0.mk (below_step (by repeat (first | (with_reducible first | exact HB.out | apply below_alloc | apply pw_below_drewN | apply below_drew1) | exact HB.out)) hb); clear HO_3; clear HO386; clear HO390; clear HO393; clear HB; have HO_3 := n0_; have HO386 := n1_; have HO390 := n2_; have HO393 := n3_; have HO397 := n4_; have HB := n5_; clear n0_ n1_ n2_ n3_ n4_ n5_; (try clear hb); (try clear hb2); (try clear hk); (try clear hi); (try clear ho0); obtain ⟨Ao46, co46, eo46⟩ := Kd.R_slice HO397.out; subst eo46) | (go_at_call 19; (with_reducible refine (linear_Times.calls k4 _ _ t372 _ _ t395 t398 _ ?side1 ?side2 ?side3 ?side4 A33.out).mono ?_); (case side1 => repeat (first | exact (Kd.V_reads' HO_3.out).2.2 | (with_reducible refine Kd.C_alloc ?_ _) | (with_reducible refine Kd.C_drewN ?_ _) | (with_reducible refine Kd.C_drew ?_))); (case side2 => exact (Kd.V_reads' HO_3.out).2.1); (case side3 => repeat (first | exact (Kd.R_reads' HO397.out).2.2 | (with_reducible refine Kd.C_alloc ?_ _) | (with_reducible refine Kd.C_drewN ?_ _) | (with_reducible refine Kd.C_drew ?_))); (case side4 => exact (Kd.R_reads' HO397.out).2.1); rintro e w47 ⟨v399, rfl, ho0, hb⟩; have n0_ := Aside0.mk (Kd.V_elder' (by (with_reducible repeat (first | apply Kd.V_alloc | apply Kd.V_drewN | apply Kd.V_drew)); exact HO_3.out) (Kd.R_base ho0) hb); have n1_ := Aside0.mk (Kd.R_elder' (by (with_reducible repeat (first | apply Kd.R_alloc | apply Kd.R_drewN | apply Kd.R_drew)); exact HO386.out) (Kd.R_base ho0) hb); have n2_ := Aside0.mk (Kd.R_elder' (by (with_reducible repeat (first | apply Kd.R_alloc | apply Kd.R_drewN | apply Kd.R_drew)); exact HO390.out) (Kd.R_base ho0) hb); have n3_ := Aside0.mk (Kd.R_elder' (by (with_reducible repeat (first | apply Kd.R_alloc | apply Kd.R_drewN | apply Kd.R_drew)); exact HO393.out) (Kd.R_base ho0) hb); have n4_ := Aside0.mk (Kd.R_elder' (by (with_reducible repeat (first | apply Kd.R_alloc | apply Kd.R_drewN | apply Kd.R_drew)); exact HO397.out) (Kd.R_base ho0) hb); have n5_ := Aside0.mk (Kd.R_lower (Kd.R_new' (Kd.R_new' (Kd.R_new' (Kd.R_new' ho0 (Kd.R_lt (by (with_reducible repeat (first | apply Kd.R_alloc | apply Kd.R_drewN | apply Kd.R_drew)); exact HO386.out))) (Kd.R_lt (by (with_reducible repeat (first | apply Kd.R_alloc | apply Kd.R_drewN | apply Kd.R_drew)); exact HO390.out))) (Kd.R_lt (by (with_reducible repeat (first | apply Kd.R_alloc | apply Kd.R_drewN | apply Kd.R_drew)); exact HO393.out))) (Kd.R_lt (by (with_reducible repeat (first | apply Kd.R_alloc | apply Kd.R_drewN | apply Kd.R_drew)); exact HO397.out))) (below_size (by repeat (first | (with_reducible first | exact HB.out | apply below_alloc | apply pw_below_drewN | apply below_drew1) | exact HB.out)))); have n6_ := Aside0.mk (below_step (by repeat (first | (with_reducible first | exact HB.out | apply below_alloc | apply pw_below_drewN | apply below_drew1) | exact HB.out)) hb); clear HO_3; clear HO386; clear HO390; clear HO393; clear HO397; clear HB; have HO_3 := n0_; have HO386 := n1_; have HO390 := n2_; have HO393 := n3_; have HO397 := n4_; have HO400 := n5_; have HB := n6_; clear n0_ n1_ n2_ n3_ n4_ n5_ n6_; (try clear hb); (try clear hb2); (try clear hk); (try clear hi); (try clear ho0); obtain ⟨Ao48, co48, eo48⟩ := Kd.R_slice HO400.out; subst eo48) | (go_at_call 18; refine calls_of_args (args' := #[.slice Ao48 t398.length co48, .slice (some ⟨go27, 0, none⟩) y387.length co27]) (by first | (rw [show y387.length = y384.length from (Kd.R_reads' HO386.out).1.symm] <;> rfl) | rfl) ?_; (with_reducible refine (footlockerref01_Same.calls k4 _ _ t398 _ _ y387 true _ ?side1 ?side2 ?side3 ?side4 A34.out).mono ?_); (case side1 => repeat (first | exact (Kd.R_reads' HO400.out).2.2 | (with_reducible refine Kd.C_alloc ?_ _) | (with_reducible refine Kd.C_drewN ?_ _) | (with_reducible refine Kd.C_drew ?_))); (case side2 => exact (Kd.R_reads' HO400.out).2.1); (case side3 => repeat (first | exact (Kd.R_reads' HO386.out).2.2 | (with_reducible refine Kd.C_alloc ?_ _) | (with_reducible refine Kd.C_drewN ?_ _) | (with_reducible refine Kd.C_drew ?_))); (case side4 => rw [show y387.length = y384.length from (Kd.R_reads' HO386.out).1.symm]; exact (Kd.R_reads' HO386.out).2.1); rintro e w' ⟨rfl, ⟨nd, rfl⟩⟩))
                    go_roundg k4
                    case measure => have := HJ3.out; have := HJ9.out; have := HJ15.out; have := HK4.out; omega
                    case rel => exact ⟨(wrap64 (x57_4 + 1)), (by first | rfl | (simp; done) | (simp [*]; done)), H', ⟨by have := HJ3.out; have := HJ9.out; have := HJ15.out; have := HK4.out; omega⟩, ⟨by (with_reducible repeat (first | apply Kd.V_alloc | apply Kd.V_drewN | apply Kd.V_drew)); exact Kd.V_mono HO_3.out (fun _ hk => trivial)⟩, ⟨by repeat (first | (with_reducible first | exact HB.out | apply below_alloc | apply pw_below_drewN | apply below_drew1) | exact HB.out)⟩⟩
                   ·replace c35 := Bool.eq_false_iff.mpr c35
                    subst c35
                    have H1 : (some false) = some r := by rw [if_neg (show ¬ (false = true) by decide)] at H; exact H
                    clear H
                    have H := H1
                    clear H1
                    obtain rfl := Option.some.inj H
                    go_wp2_with (first | ((with_reducible refine gate_dst (N := 61) rfl ?_); (try (refine gate_guard (by rfl) ?_; dsimp only)); refine Kd.R_make (Kd.int .u8) _ 5 rfl (N := 61) rfl 23 _ _ rfl (l0.length : Int) rfl rfl Try.underlying23 (.int .u8 0) 1 info5 rfl (by decide) (by omega) 0 (ok := fun _ => True) (okp := fun _ => True) rfl (fun _ hk => hk) trivial (of_decide_eq_true (by first | (with_reducible assumption) | assumption)) (Nat.le_trans (Nat.mul_le_mul_right _ (of_decide_eq_true (by first | (with_reducible assumption) | assumption) : (l0.length : Int).toNat ≤ 281474976710656)) (by omega)) (Below.refl _ _) (Nat.le_refl _) ?_; intro v385 w49 ho50 hb hg_ hnew_; clear hg_ hnew_; (first | rw [← Ny384.out] at ho50 | (simp only [Int.reduceToNat] at ho50; rw [← Ny384.out] at ho50)); have n0_ := Aside0.mk (Kd.V_elder' (by (with_reducible repeat (first | apply Kd.V_alloc | apply Kd.V_drewN | apply Kd.V_drew)); exact HO_3.out) (Kd.R_base ho50) hb); have n1_ := Aside0.mk (Kd.R_lower ho50 (below_size (by repeat (first | (with_reducible first | exact HB.out | apply below_alloc | apply pw_below_drewN | apply below_drew1) | exact HB.out)))); have n2_ := Aside0.mk (below_step (by repeat (first | (with_reducible first | exact HB.out | apply below_alloc | apply pw_below_drewN | apply below_drew1) | exact HB.out)) hb); clear HO_3; clear HB; have HO_3 := n0_; have HO386 := n1_; have HB := n2_; clear n0_ n1_ n2_; clear hb ho50; have p27 : 0 ≤ (x57_4 : Int) := of_decide_eq_true (by first | (with_reducible assumption) | assumption); have q27 : (x57_4 : Int) < ((y384.length : Int) : Int) := of_decide_eq_true (by first | (with_reducible assumption) | assumption); obtain ⟨go27, co27, eo27, gb27, gl27, cl27, HG27⟩ := Kd.R_form HO386.out (by omega); (first | cases eo27 | (injection eo27 with ea_ en_ ec_; (first | subst ea_ | (injection ea_ with ea_; subst ea_)); subst ec_; clear en_)); have GB27 := Aside0.mk gb27; have GG27 := Aside0.mk HG27; clear gb27 gl27 HG27; obtain ⟨hx27_0, hf27_0⟩ := Kd.R_celln 0 HO386.out (x57_4 : Int) p27 q27; replace p27 := eq_true p27; replace q27 := eq_true q27; obtain ⟨hy51_, hz51_⟩ := Kd.R_celln 0 HO386.out (x57_4 : Int) (of_decide_eq_true (by first | (with_reducible assumption) | assumption)) (of_decide_eq_true (by first | (with_reducible assumption) | assumption)); have HP51 := Kd.R_putg HO386.out (x57_4 : Int) 1) | ((with_reducible refine gate_store (t := 5) (p := 64) rfl ?_); refine store_event (t := 5) (p := 64) (v := ?vo_w52) (w1 := (w49.setCell ⟨go27, (x57_4 : Int).toNat, none⟩ (.int .u8 1))) ?hg ?ho ?hn ?hr ?_; (case ho => rfl); (case hg => rfl); (case hn => rfl); (case hr => first | (go_simp; done) | (go_simp; rfl)); intro w52 hw; have hg : w49.grownBy w52 (some go27) := (by rw [hw]; exact HP51.2); have hp_ : Kd.R (Kd.int .u8) 5 w52 w.heap.size (fun _ => True) (.slice (some ⟨go27, 0, none⟩) y384.length co27) y387 := (by rw [hw, Ny387.out]; exact HP51.1); clear HP51; have n0_ := Aside0.mk (Kd.V_afterv (v := (.slice (some ⟨go27, 0, none⟩) y384.length co27)) (v1 := (.slice (some ⟨go27, 0, none⟩) y384.length co27)) (ok := (fun _ => True)) (by (with_reducible repeat (first | apply Kd.V_alloc | apply Kd.V_drewN | apply Kd.V_drew)); exact HO_3.out) hg (.inl rfl)); have n1_ := Aside0.mk (hp_); have n2_ := Aside0.mk ((by rw [hw]; exact below_set (HB.out) GB27.out : Below w.heap.size w w52)); clear HO_3; clear HO386; clear HB; have HO_3 := n0_; have HO386 := n1_; have HB := n2_; clear n0_ n1_ n2_; clear hg hw hp_; obtain ⟨Ao53, co53, eo53⟩ := Kd.V_slice HO_3.out; subst eo53) | ((with_reducible refine gate_callee (f := 19) rfl ?_); refine goesL_ (some 68) rfl rfl Try.func19 (by kernel_rfl) rfl #[.slice Ao53 t372.length co53, .slice (some ⟨go27, 0, none⟩) y387.length co27] rfl (by (try simp only [List.map_toArray, List.map_cons, List.map_nil]); first | done | (rw [show y387.length = y384.length from (Kd.R_reads' HO386.out).1.symm] <;> rfl) | rfl | (simp only [List.length_drop, List.length_take]; rfl)) ?_; (with_reducible refine (linear_Times.calls k4 _ _ t372 _ _ y387 t388 _ ?side1 ?side2 ?side3 ?side4 A28.out).mono ?_); (case side1 => repeat (first | exact (Kd.V_reads' HO_3.out).2.2 | (with_reducible refine Kd.C_alloc ?_ _) | (with_reducible refine Kd.C_drewN ?_ _) | (with_reducible refine Kd.C_drew ?_))); (case side2 => exact (Kd.V_reads' HO_3.out).2.1); (case side3 => repeat (first | exact (Kd.R_reads' HO386.out).2.2 | (with_reducible refine Kd.C_alloc ?_ _) | (with_reducible refine Kd.C_drewN ?_ _) | (with_reducible refine Kd.C_drew ?_))); (case side4 => rw [show y387.length = y384.length from (Kd.R_reads' HO386.out).1.symm]; exact (Kd.R_reads' HO386.out).2.1); rintro e w54 ⟨v389, rfl, ho0, hb⟩; refine ⟨_, rfl, ?_⟩; have n0_ := Aside0.mk (Kd.V_elder' (by (with_reducible repeat (first | apply Kd.V_alloc | apply Kd.V_drewN | apply Kd.V_drew)); exact HO_3.out) (Kd.R_base ho0) hb); have n1_ := Aside0.mk (Kd.R_elder' (by (with_reducible repeat (first | apply Kd.R_alloc | apply Kd.R_drewN | apply Kd.R_drew)); exact HO386.out) (Kd.R_base ho0) hb); have n2_ := Aside0.mk (Kd.R_lower (Kd.R_new' ho0 (Kd.R_lt (by (with_reducible repeat (first | apply Kd.R_alloc | apply Kd.R_drewN | apply Kd.R_drew)); exact HO386.out))) (below_size (by repeat (first | (with_reducible first | exact HB.out | apply below_alloc | apply pw_below_drewN | apply below_drew1) | exact HB.out)))); have n3_ := Aside0.mk (below_step (by repeat (first | (with_reducible first | exact HB.out | apply below_alloc | apply pw_below_drewN | apply below_drew1) | exact HB.out)) hb); clear HO_3; clear HO386; clear HB; have HO_3 := n0_; have HO386 := n1_; have HO390 := n2_; have HB := n3_; clear n0_ n1_ n2_ n3_; (try clear hb); (try clear hb2); (try clear hk); (try clear hi); (try clear ho0); obtain ⟨Ao55, co55, eo55⟩ := Kd.R_slice HO390.out; subst eo55) | ((with_reducible refine gate_callee (f := 19) rfl ?_); refine goesL_ (some 69) rfl rfl Try.func19 (by kernel_rfl) rfl #[.slice A0 l0.length c0, .slice Ao55 t388.length co55] rfl (by (try simp only [List.map_toArray, List.map_cons, List.map_nil]); first | done | rfl | (simp only [List.length_drop, List.length_take]; rfl)) ?_; (with_reducible refine (linear_Times.calls k4 _ _ l0 _ _ t388 t391 _ ?side1 ?side2 ?side3 ?side4 A29.out).mono ?_); (case side1 => repeat (first | exact (Kd.C_below HR0.out HB.out) | (with_reducible refine Kd.C_alloc ?_ _) | (with_reducible refine Kd.C_drewN ?_ _) | (with_reducible refine Kd.C_drew ?_))); (case side2 => exact HC0.out); (case side3 => repeat (first | exact (Kd.R_reads' HO390.out).2.2 | (with_reducible refine Kd.C_alloc ?_ _) | (with_reducible refine Kd.C_drewN ?_ _) | (with_reducible refine Kd.C_drew ?_))); (case side4 => exact (Kd.R_reads' HO390.out).2.1); rintro e w56 ⟨v392, rfl, ho0, hb⟩; refine ⟨_, rfl, ?_⟩; have n0_ := Aside0.mk (Kd.V_elder' (by (with_reducible repeat (first | apply Kd.V_alloc | apply Kd.V_drewN | apply Kd.V_drew)); exact HO_3.out) (Kd.R_base ho0) hb); have n1_ := Aside0.mk (Kd.R_elder' (by (with_reducible repeat (first | apply Kd.R_alloc | apply Kd.R_drewN | apply Kd.R_drew)); exact HO386.out) (Kd.R_base ho0) hb); have n2_ := Aside0.mk (Kd.R_elder' (by (with_reducible repeat (first | apply Kd.R_alloc | apply Kd.R_drewN | apply Kd.R_drew)); exact HO390.out) (Kd.R_base ho0) hb); have n3_ := Aside0.mk (Kd.R_lower (Kd.R_new' (Kd.R_new' ho0 (Kd.R_lt (by (with_reducible repeat (first | apply Kd.R_alloc | apply Kd.R_drewN | apply Kd.R_drew)); exact HO386.out))) (Kd.R_lt (by (with_reducible repeat (first | apply Kd.R_alloc | apply Kd.R_drewN | apply Kd.R_drew)); exact HO390.out))) (below_size (by repeat (first | (with_reducible first | exact HB.out | apply below_alloc | apply pw_below_drewN | apply below_drew1) | exact HB.out)))); have n4_ := Aside0.mk (below_step (by repeat (first | (with_reducible first | exact HB.out | apply below_alloc | apply pw_below_drewN | apply below_drew1) | exact HB.out)) hb); clear HO_3; clear HO386; clear HO390; clear HB; have HO_3 := n0_; have HO386 := n1_; have HO390 := n2_; have HO393 := n3_; have HB := n4_; clear n0_ n1_ n2_ n3_ n4_; (try clear hb); (try clear hb2); (try clear hk); (try clear hi); (try clear ho0); obtain ⟨Ao57, co57, eo57⟩ := Kd.R_slice HO393.out; subst eo57) | ((with_reducible refine gate_callee (f := 18) rfl ?_); refine goesL_ (some 71) rfl rfl Try.func18 (by kernel_rfl) rfl #[.slice Ao57 t391.length co57, .slice (some ⟨go27, 0, none⟩) y387.length co27] rfl (by (try simp only [List.map_toArray, List.map_cons, List.map_nil]); first | done | (rw [show y387.length = y384.length from (Kd.R_reads' HO386.out).1.symm] <;> rfl) | rfl | (simp only [List.length_drop, List.length_take]; rfl)) ?_; (with_reducible refine (footlockerref01_Same.calls k4 _ _ t391 _ _ y387 true _ ?side1 ?side2 ?side3 ?side4 A30.out).mono ?_); (case side1 => repeat (first | exact (Kd.R_reads' HO393.out).2.2 | (with_reducible refine Kd.C_alloc ?_ _) | (with_reducible refine Kd.C_drewN ?_ _) | (with_reducible refine Kd.C_drew ?_))); (case side2 => exact (Kd.R_reads' HO393.out).2.1); (case side3 => repeat (first | exact (Kd.R_reads' HO386.out).2.2 | (with_reducible refine Kd.C_alloc ?_ _) | (with_reducible refine Kd.C_drewN ?_ _) | (with_reducible refine Kd.C_drew ?_))); (case side4 => rw [show y387.length = y384.length from (Kd.R_reads' HO386.out).1.symm]; exact (Kd.R_reads' HO386.out).2.1); rintro e w' ⟨rfl, ⟨nd, rfl⟩⟩; refine ⟨_, rfl, ?_⟩) | (go_at_call 19; refine calls_of_args (args' := #[.slice A0 l0.length c0, .slice (some ⟨go27, 0, none⟩) y387.length co27]) (by first | (rw [show y387.length = y384.length from (Kd.R_reads' HO386.out).1.symm] <;> rfl) | rfl) ?_; (with_reducible refine (linear_Times.calls k4 _ _ l0 _ _ y387 t395 _ ?side1 ?side2 ?side3 ?side4 A32.out).mono ?_); (case side1 => repeat (first | exact (Kd.C_below HR0.out (by repeat (first | (with_reducible first | exact HB.out | apply below_alloc | apply pw_below_drewN | apply below_drew1) | exact HB.out))) | (with_reducible refine Kd.C_alloc ?_ _) | (with_reducible refine Kd.C_drewN ?_ _) | (with_reducible refine Kd.C_drew ?_))); (case side2 => exact HC0.out); (case side3 => repeat (first | exact (Kd.R_reads' HO386.out).2.2 | (with_reducible refine Kd.C_alloc ?_ _) | (with_reducible refine Kd.C_drewN ?_ _) | (with_reducible refine Kd.C_drew ?_))); (case side4 => rw [show y387.length = y384.length from (Kd.R_reads' HO386.out).1.symm]; exact (Kd.R_reads' HO386.out).2.1); rintro e w58 ⟨v396, rfl, ho0, hb⟩; have n0_ := Aside0.mk (Kd.V_elder' (by (with_reducible repeat (first | apply Kd.V_alloc | apply Kd.V_drewN | apply Kd.V_drew)); exact HO_3.out) (Kd.R_base ho0) hb); have n1_ := Aside0.mk (Kd.R_elder' (by (with_reducible repeat (first | apply Kd.R_alloc | apply Kd.R_drewN | apply Kd.R_drew)); exact HO386.out) (Kd.R_base ho0) hb); have n2_ := Aside0.mk (Kd.R_elder' (by (with_reducible repeat (first | apply Kd.R_alloc | apply Kd.R_drewN | apply Kd.R_drew)); exact HO390.out) (Kd.R_base ho0) hb); have n3_ := Aside0.mk (Kd.R_elder' (by (with_reducible repeat (first | apply Kd.R_alloc | apply Kd.R_drewN | apply Kd.R_drew)); exact HO393.out) (Kd.R_base ho0) hb); have n4_ := Aside0.mk (Kd.R_lower (Kd.R_new' (Kd.R_new' (Kd.R_new' ho0 (Kd.R_lt (by (with_reducible repeat (first | apply Kd.R_alloc | apply Kd.R_drewN | apply Kd.R_drew)); exact HO386.out))) (Kd.R_lt (by (with_reducible repeat (first | apply Kd.R_alloc | apply Kd.R_drewN | apply Kd.R_drew)); exact HO390.out))) (Kd.R_lt (by (with_reducible repeat (first | apply Kd.R_alloc | apply Kd.R_drewN | apply Kd.R_drew)); exact HO393.out))) (below_size (by repeat (first | (with_reducible first | exact HB.out | apply below_alloc | apply pw_below_drewN | apply below_drew1) | exact HB.out)))); have n5_ := Aside0.mk (below_step (by repeat (first | (with_reducible first | exact HB.out | apply below_alloc | apply pw_below_drewN | apply below_drew1) | exact HB.out)) hb); clear HO_3; clear HO386; clear HO390; clear HO393; clear HB; have HO_3 := n0_; have HO386 := n1_; have HO390 := n2_; have HO393 := n3_; have HO397 := n4_; have HB := n5_; clear n0_ n1_ n2_ n3_ n4_ n5_; (try clear hb); (try clear hb2); (try clear hk); (try clear hi); (try clear ho0); obtain ⟨Ao59, co59, eo59⟩ := Kd.R_slice HO397.out; subst eo59) | (go_at_call 19; (with_reducible refine (linear_Times.calls k4 _ _ t372 _ _ t395 t398 _ ?side1 ?side2 ?side3 ?side4 A33.out).mono ?_); (case side1 => repeat (first | exact (Kd.V_reads' HO_3.out).2.2 | (with_reducible refine Kd.C_alloc ?_ _) | (with_reducible refine Kd.C_drewN ?_ _) | (with_reducible refine Kd.C_drew ?_))); (case side2 => exact (Kd.V_reads' HO_3.out).2.1); (case side3 => repeat (first | exact (Kd.R_reads' HO397.out).2.2 | (with_reducible refine Kd.C_alloc ?_ _) | (with_reducible refine Kd.C_drewN ?_ _) | (with_reducible refine Kd.C_drew ?_))); (case side4 => exact (Kd.R_reads' HO397.out).2.1); rintro e w60 ⟨v399, rfl, ho0, hb⟩; have n0_ := Aside0.mk (Kd.V_elder' (by (with_reducible repeat (first | apply Kd.V_alloc | apply Kd.V_drewN | apply Kd.V_drew)); exact HO_3.out) (Kd.R_base ho0) hb); have n1_ := Aside0.mk (Kd.R_elder' (by (with_reducible repeat (first | apply Kd.R_alloc | apply Kd.R_drewN | apply Kd.R_drew)); exact HO386.out) (Kd.R_base ho0) hb); have n2_ := Aside0.mk (Kd.R_elder' (by (with_reducible repeat (first | apply Kd.R_alloc | apply Kd.R_drewN | apply Kd.R_drew)); exact HO390.out) (Kd.R_base ho0) hb); have n3_ := Aside0.mk (Kd.R_elder' (by (with_reducible repeat (first | apply Kd.R_alloc | apply Kd.R_drewN | apply Kd.R_drew)); exact HO393.out) (Kd.R_base ho0) hb); have n4_ := Aside0.mk (Kd.R_elder' (by (with_reducible repeat (first | apply Kd.R_alloc | apply Kd.R_drewN | apply Kd.R_drew)); exact HO397.out) (Kd.R_base ho0) hb); have n5_ := Aside0.mk (Kd.R_lower (Kd.R_new' (Kd.R_new' (Kd.R_new' (Kd.R_new' ho0 (Kd.R_lt (by (with_reducible repeat (first | apply Kd.R_alloc | apply Kd.R_drewN | apply Kd.R_drew)); exact HO386.out))) (Kd.R_lt (by (with_reducible repeat (first | apply Kd.R_alloc | apply Kd.R_drewN | apply Kd.R_drew)); exact HO390.out))) (Kd.R_lt (by (with_reducible repeat (first | apply Kd.R_alloc | apply Kd.R_drewN | apply Kd.R_drew)); exact HO393.out))) (Kd.R_lt (by (with_reducible repeat (first | apply Kd.R_alloc | apply Kd.R_drewN | apply Kd.R_drew)); exact HO397.out))) (below_size (by repeat (first | (with_reducible first | exact HB.out | apply below_alloc | apply pw_below_drewN | apply below_drew1) | exact HB.out)))); have n6_ := Aside0.mk (below_step (by repeat (first | (with_reducible first | exact HB.out | apply below_alloc | apply pw_below_drewN | apply below_drew1) | exact HB.out)) hb); clear HO_3; clear HO386; clear HO390; clear HO393; clear HO397; clear HB; have HO_3 := n0_; have HO386 := n1_; have HO390 := n2_; have HO393 := n3_; have HO397 := n4_; have HO400 := n5_; have HB := n6_; clear n0_ n1_ n2_ n3_ n4_ n5_ n6_; (try clear hb); (try clear hb2); (try clear hk); (try clear hi); (try clear ho0); obtain ⟨Ao61, co61, eo61⟩ := Kd.R_slice HO400.out; subst eo61) | (go_at_call 18; refine calls_of_args (args' := #[.slice Ao61 t398.length co61, .slice (some ⟨go27, 0, none⟩) y387.length co27]) (by first | (rw [show y387.length = y384.length from (Kd.R_reads' HO386.out).1.symm] <;> rfl) | rfl) ?_; (with_reducible refine (footlockerref01_Same.calls k4 _ _ t398 _ _ y387 false _ ?side1 ?side2 ?side3 ?side4 A34.out).mono ?_); (case side1 => repeat (first | exact (Kd.R_reads' HO400.out).2.2 | (with_reducible refine Kd.C_alloc ?_ _) | (with_reducible refine Kd.C_drewN ?_ _) | (with_reducible refine Kd.C_drew ?_))); (case side2 => exact (Kd.R_reads' HO400.out).2.1); (case side3 => repeat (first | exact (Kd.R_reads' HO386.out).2.2 | (with_reducible refine Kd.C_alloc ?_ _) | (with_reducible refine Kd.C_drewN ?_ _) | (with_reducible refine Kd.C_drew ?_))); (case side4 => rw [show y387.length = y384.length from (Kd.R_reads' HO386.out).1.symm]; exact (Kd.R_reads' HO386.out).2.1); rintro e w' ⟨rfl, ⟨nd, rfl⟩⟩))
                    go_ret
                    exact ⟨by first | rfl | (simp [errW_none, errW_some] <;> rfl) | (simp [*, errW_none, errW_some] <;> rfl), by repeat (first | (with_reducible first | exact HB.out | apply below_alloc | apply pw_below_drewN | apply below_drew1) | exact HB.out)⟩
                  ·replace c31 := Bool.eq_false_iff.mpr c31
                   subst c31
                   have H1 : (some false) = some r := by rw [if_neg (show ¬ (false = true) by decide)] at H; exact H
                   clear H
                   have H := H1
                   clear H1
                   obtain rfl := Option.some.inj H
                   go_wp2_with (first | ((with_reducible refine gate_dst (N := 61) rfl ?_); (try (refine gate_guard (by rfl) ?_; dsimp only)); refine Kd.R_make (Kd.int .u8) _ 5 rfl (N := 61) rfl 23 _ _ rfl (l0.length : Int) rfl rfl Try.underlying23 (.int .u8 0) 1 info5 rfl (by decide) (by omega) 0 (ok := fun _ => True) (okp := fun _ => True) rfl (fun _ hk => hk) trivial (of_decide_eq_true (by first | (with_reducible assumption) | assumption)) (Nat.le_trans (Nat.mul_le_mul_right _ (of_decide_eq_true (by first | (with_reducible assumption) | assumption) : (l0.length : Int).toNat ≤ 281474976710656)) (by omega)) (Below.refl _ _) (Nat.le_refl _) ?_; intro v385 w62 ho63 hb hg_ hnew_; clear hg_ hnew_; (first | rw [← Ny384.out] at ho63 | (simp only [Int.reduceToNat] at ho63; rw [← Ny384.out] at ho63)); have n0_ := Aside0.mk (Kd.V_elder' (by (with_reducible repeat (first | apply Kd.V_alloc | apply Kd.V_drewN | apply Kd.V_drew)); exact HO_3.out) (Kd.R_base ho63) hb); have n1_ := Aside0.mk (Kd.R_lower ho63 (below_size (by repeat (first | (with_reducible first | exact HB.out | apply below_alloc | apply pw_below_drewN | apply below_drew1) | exact HB.out)))); have n2_ := Aside0.mk (below_step (by repeat (first | (with_reducible first | exact HB.out | apply below_alloc | apply pw_below_drewN | apply below_drew1) | exact HB.out)) hb); clear HO_3; clear HB; have HO_3 := n0_; have HO386 := n1_; have HB := n2_; clear n0_ n1_ n2_; clear hb ho63; have p27 : 0 ≤ (x57_4 : Int) := of_decide_eq_true (by first | (with_reducible assumption) | assumption); have q27 : (x57_4 : Int) < ((y384.length : Int) : Int) := of_decide_eq_true (by first | (with_reducible assumption) | assumption); obtain ⟨go27, co27, eo27, gb27, gl27, cl27, HG27⟩ := Kd.R_form HO386.out (by omega); (first | cases eo27 | (injection eo27 with ea_ en_ ec_; (first | subst ea_ | (injection ea_ with ea_; subst ea_)); subst ec_; clear en_)); have GB27 := Aside0.mk gb27; have GG27 := Aside0.mk HG27; clear gb27 gl27 HG27; obtain ⟨hx27_0, hf27_0⟩ := Kd.R_celln 0 HO386.out (x57_4 : Int) p27 q27; replace p27 := eq_true p27; replace q27 := eq_true q27; obtain ⟨hy64_, hz64_⟩ := Kd.R_celln 0 HO386.out (x57_4 : Int) (of_decide_eq_true (by first | (with_reducible assumption) | assumption)) (of_decide_eq_true (by first | (with_reducible assumption) | assumption)); have HP64 := Kd.R_putg HO386.out (x57_4 : Int) 1) | ((with_reducible refine gate_store (t := 5) (p := 64) rfl ?_); refine store_event (t := 5) (p := 64) (v := ?vo_w65) (w1 := (w62.setCell ⟨go27, (x57_4 : Int).toNat, none⟩ (.int .u8 1))) ?hg ?ho ?hn ?hr ?_; (case ho => rfl); (case hg => rfl); (case hn => rfl); (case hr => first | (go_simp; done) | (go_simp; rfl)); intro w65 hw; have hg : w62.grownBy w65 (some go27) := (by rw [hw]; exact HP64.2); have hp_ : Kd.R (Kd.int .u8) 5 w65 w.heap.size (fun _ => True) (.slice (some ⟨go27, 0, none⟩) y384.length co27) y387 := (by rw [hw, Ny387.out]; exact HP64.1); clear HP64; have n0_ := Aside0.mk (Kd.V_afterv (v := (.slice (some ⟨go27, 0, none⟩) y384.length co27)) (v1 := (.slice (some ⟨go27, 0, none⟩) y384.length co27)) (ok := (fun _ => True)) (by (with_reducible repeat (first | apply Kd.V_alloc | apply Kd.V_drewN | apply Kd.V_drew)); exact HO_3.out) hg (.inl rfl)); have n1_ := Aside0.mk (hp_); have n2_ := Aside0.mk ((by rw [hw]; exact below_set (HB.out) GB27.out : Below w.heap.size w w65)); clear HO_3; clear HO386; clear HB; have HO_3 := n0_; have HO386 := n1_; have HB := n2_; clear n0_ n1_ n2_; clear hg hw hp_; obtain ⟨Ao66, co66, eo66⟩ := Kd.V_slice HO_3.out; subst eo66) | ((with_reducible refine gate_callee (f := 19) rfl ?_); refine goesL_ (some 68) rfl rfl Try.func19 (by kernel_rfl) rfl #[.slice Ao66 t372.length co66, .slice (some ⟨go27, 0, none⟩) y387.length co27] rfl (by (try simp only [List.map_toArray, List.map_cons, List.map_nil]); first | done | (rw [show y387.length = y384.length from (Kd.R_reads' HO386.out).1.symm] <;> rfl) | rfl | (simp only [List.length_drop, List.length_take]; rfl)) ?_; (with_reducible refine (linear_Times.calls k4 _ _ t372 _ _ y387 t388 _ ?side1 ?side2 ?side3 ?side4 A28.out).mono ?_); (case side1 => repeat (first | exact (Kd.V_reads' HO_3.out).2.2 | (with_reducible refine Kd.C_alloc ?_ _) | (with_reducible refine Kd.C_drewN ?_ _) | (with_reducible refine Kd.C_drew ?_))); (case side2 => exact (Kd.V_reads' HO_3.out).2.1); (case side3 => repeat (first | exact (Kd.R_reads' HO386.out).2.2 | (with_reducible refine Kd.C_alloc ?_ _) | (with_reducible refine Kd.C_drewN ?_ _) | (with_reducible refine Kd.C_drew ?_))); (case side4 => rw [show y387.length = y384.length from (Kd.R_reads' HO386.out).1.symm]; exact (Kd.R_reads' HO386.out).2.1); rintro e w67 ⟨v389, rfl, ho0, hb⟩; refine ⟨_, rfl, ?_⟩; have n0_ := Aside0.mk (Kd.V_elder' (by (with_reducible repeat (first | apply Kd.V_alloc | apply Kd.V_drewN | apply Kd.V_drew)); exact HO_3.out) (Kd.R_base ho0) hb); have n1_ := Aside0.mk (Kd.R_elder' (by (with_reducible repeat (first | apply Kd.R_alloc | apply Kd.R_drewN | apply Kd.R_drew)); exact HO386.out) (Kd.R_base ho0) hb); have n2_ := Aside0.mk (Kd.R_lower (Kd.R_new' ho0 (Kd.R_lt (by (with_reducible repeat (first | apply Kd.R_alloc | apply Kd.R_drewN | apply Kd.R_drew)); exact HO386.out))) (below_size (by repeat (first | (with_reducible first | exact HB.out | apply below_alloc | apply pw_below_drewN | apply below_drew1) | exact HB.out)))); have n3_ := Aside0.mk (below_step (by repeat (first | (with_reducible first | exact HB.out | apply below_alloc | apply pw_below_drewN | apply below_drew1) | exact HB.out)) hb); clear HO_3; clear HO386; clear HB; have HO_3 := n0_; have HO386 := n1_; have HO390 := n2_; have HB := n3_; clear n0_ n1_ n2_ n3_; (try clear hb); (try clear hb2); (try clear hk); (try clear hi); (try clear ho0); obtain ⟨Ao68, co68, eo68⟩ := Kd.R_slice HO390.out; subst eo68) | ((with_reducible refine gate_callee (f := 19) rfl ?_); refine goesL_ (some 69) rfl rfl Try.func19 (by kernel_rfl) rfl #[.slice A0 l0.length c0, .slice Ao68 t388.length co68] rfl (by (try simp only [List.map_toArray, List.map_cons, List.map_nil]); first | done | rfl | (simp only [List.length_drop, List.length_take]; rfl)) ?_; (with_reducible refine (linear_Times.calls k4 _ _ l0 _ _ t388 t391 _ ?side1 ?side2 ?side3 ?side4 A29.out).mono ?_); (case side1 => repeat (first | exact (Kd.C_below HR0.out HB.out) | (with_reducible refine Kd.C_alloc ?_ _) | (with_reducible refine Kd.C_drewN ?_ _) | (with_reducible refine Kd.C_drew ?_))); (case side2 => exact HC0.out); (case side3 => repeat (first | exact (Kd.R_reads' HO390.out).2.2 | (with_reducible refine Kd.C_alloc ?_ _) | (with_reducible refine Kd.C_drewN ?_ _) | (with_reducible refine Kd.C_drew ?_))); (case side4 => exact (Kd.R_reads' HO390.out).2.1); rintro e w69 ⟨v392, rfl, ho0, hb⟩; refine ⟨_, rfl, ?_⟩; have n0_ := Aside0.mk (Kd.V_elder' (by (with_reducible repeat (first | apply Kd.V_alloc | apply Kd.V_drewN | apply Kd.V_drew)); exact HO_3.out) (Kd.R_base ho0) hb); have n1_ := Aside0.mk (Kd.R_elder' (by (with_reducible repeat (first | apply Kd.R_alloc | apply Kd.R_drewN | apply Kd.R_drew)); exact HO386.out) (Kd.R_base ho0) hb); have n2_ := Aside0.mk (Kd.R_elder' (by (with_reducible repeat (first | apply Kd.R_alloc | apply Kd.R_drewN | apply Kd.R_drew)); exact HO390.out) (Kd.R_base ho0) hb); have n3_ := Aside0.mk (Kd.R_lower (Kd.R_new' (Kd.R_new' ho0 (Kd.R_lt (by (with_reducible repeat (first | apply Kd.R_alloc | apply Kd.R_drewN | apply Kd.R_drew)); exact HO386.out))) (Kd.R_lt (by (with_reducible repeat (first | apply Kd.R_alloc | apply Kd.R_drewN | apply Kd.R_drew)); exact HO390.out))) (below_size (by repeat (first | (with_reducible first | exact HB.out | apply below_alloc | apply pw_below_drewN | apply below_drew1) | exact HB.out)))); have n4_ := Aside0.mk (below_step (by repeat (first | (with_reducible first | exact HB.out | apply below_alloc | apply pw_below_drewN | apply below_drew1) | exact HB.out)) hb); clear HO_3; clear HO386; clear HO390; clear HB; have HO_3 := n0_; have HO386 := n1_; have HO390 := n2_; have HO393 := n3_; have HB := n4_; clear n0_ n1_ n2_ n3_ n4_; (try clear hb); (try clear hb2); (try clear hk); (try clear hi); (try clear ho0); obtain ⟨Ao70, co70, eo70⟩ := Kd.R_slice HO393.out; subst eo70) | ((with_reducible refine gate_callee (f := 18) rfl ?_); refine goesL_ (some 71) rfl rfl Try.func18 (by kernel_rfl) rfl #[.slice Ao70 t391.length co70, .slice (some ⟨go27, 0, none⟩) y387.length co27] rfl (by (try simp only [List.map_toArray, List.map_cons, List.map_nil]); first | done | (rw [show y387.length = y384.length from (Kd.R_reads' HO386.out).1.symm] <;> rfl) | rfl | (simp only [List.length_drop, List.length_take]; rfl)) ?_; (with_reducible refine (footlockerref01_Same.calls k4 _ _ t391 _ _ y387 false _ ?side1 ?side2 ?side3 ?side4 A30.out).mono ?_); (case side1 => repeat (first | exact (Kd.R_reads' HO393.out).2.2 | (with_reducible refine Kd.C_alloc ?_ _) | (with_reducible refine Kd.C_drewN ?_ _) | (with_reducible refine Kd.C_drew ?_))); (case side2 => exact (Kd.R_reads' HO393.out).2.1); (case side3 => repeat (first | exact (Kd.R_reads' HO386.out).2.2 | (with_reducible refine Kd.C_alloc ?_ _) | (with_reducible refine Kd.C_drewN ?_ _) | (with_reducible refine Kd.C_drew ?_))); (case side4 => rw [show y387.length = y384.length from (Kd.R_reads' HO386.out).1.symm]; exact (Kd.R_reads' HO386.out).2.1); rintro e w' ⟨rfl, ⟨nd, rfl⟩⟩; refine ⟨_, rfl, ?_⟩))
                   go_ret
                   exact ⟨by first | rfl | (simp [errW_none, errW_some] <;> rfl) | (simp [*, errW_none, errW_some] <;> rfl), by repeat (first | (with_reducible first | exact HB.out | apply below_alloc | apply pw_below_drewN | apply below_drew1) | exact HB.out)⟩
                 ·rw [if_neg c26] at H
                  exact absurd H (by simp)
                ·rw [if_neg c25] at H
                 exact absurd H (by simp)
               ·rw [if_neg c24] at H
                exact absurd H (by simp)
              ·rw [if_neg c23] at H
               exact absurd H (by simp)
             ·rw [if_neg c22] at H
              have c22b0 : decide (x57_4 < (l0.length : Int)) = false := decide_eq_false c22
              clear c22
              replace H := Option.bind_eq_some_iff.mp H
              obtain ⟨⟨t379, t382⟩, A710, H⟩ := H
              replace H : (if t382 = true then ((footlockerref03_Same.f k4 t379 l0).bind fun t383 => (some t383)) else (some false)) = some r := H
              have A71 := Aside0.mk A710
              clear A710
              by_cases c72 : t382 = true
              ·subst c72
               have H1 : ((footlockerref03_Same.f k4 t379 l0).bind fun t383 => (some t383)) = some r := by rw [if_pos rfl] at H; exact H
               clear H
               have H := H1
               clear H1
               replace H := Option.bind_eq_some_iff.mp H
               obtain ⟨t383, A730, H⟩ := H
               replace H : (some t383) = some r := H
               have A73 := Aside0.mk A730
               clear A730
               obtain rfl := Option.some.inj H
               obtain ⟨Ao74, co74, eo74⟩ := Kd.V_slice HO_3.out
               subst eo74
               go_wp2_with (first | ((with_reducible refine gate_callee (f := 23) rfl ?_); refine goesL_ (some 86) rfl rfl Try.func23 (by kernel_rfl) rfl #[.slice Ao74 t372.length co74] rfl (by (try simp only [List.map_toArray, List.map_cons, List.map_nil]); first | done | rfl | (simp only [List.length_drop, List.length_take]; rfl)) ?_; (with_reducible refine (linear_Inverse.calls k4 _ _ t372 t379 true _ ?side1 ?side2 A71.out).mono ?_); (case side1 => repeat (first | exact (Kd.V_reads' HO_3.out).2.2 | (with_reducible refine Kd.C_alloc ?_ _) | (with_reducible refine Kd.C_drewN ?_ _) | (with_reducible refine Kd.C_drew ?_))); (case side2 => exact (Kd.V_reads' HO_3.out).2.1); rintro e w75 ⟨v380, rfl, ho0, hb⟩; refine ⟨_, rfl, ?_⟩; have n0_ := Aside0.mk (Kd.V_below (by (with_reducible repeat (first | apply Kd.V_alloc | apply Kd.V_drewN | apply Kd.V_drew)); exact HO_3.out) hb); have n1_ := Aside0.mk (Kd.V_lower (Kd.V_mono (ok' := fun k_ => True) ho0 (fun k_ hk_ => trivial)) (below_size (by repeat (first | (with_reducible first | exact HB.out | apply below_alloc | apply pw_below_drewN | apply below_drew1) | exact HB.out)))); have n2_ := Aside0.mk (below_step (by repeat (first | (with_reducible first | exact HB.out | apply below_alloc | apply pw_below_drewN | apply below_drew1) | exact HB.out)) hb); clear HO_3; clear HB; have HO_3 := n0_; have HO381 := n1_; have HB := n2_; clear n0_ n1_ n2_; (try clear hb); (try clear hb2); (try clear hk); (try clear hi); (try clear ho0); obtain ⟨Ao76, co76, eo76⟩ := Kd.V_slice HO381.out; subst eo76) | (go_at_call 15; (with_reducible refine (footlockerref03_Same.calls k4 _ _ t379 _ _ l0 t383 _ ?side1 ?side2 ?side3 ?side4 A73.out).mono ?_); (case side1 => repeat (first | exact (Kd.V_reads' HO381.out).2.2 | (with_reducible refine Kd.C_alloc ?_ _) | (with_reducible refine Kd.C_drewN ?_ _) | (with_reducible refine Kd.C_drew ?_))); (case side2 => exact (Kd.V_reads' HO381.out).2.1); (case side3 => repeat (first | exact (Kd.C_below HR0.out HB.out) | (with_reducible refine Kd.C_alloc ?_ _) | (with_reducible refine Kd.C_drewN ?_ _) | (with_reducible refine Kd.C_drew ?_))); (case side4 => exact HC0.out); rintro e w' ⟨rfl, ⟨nd, rfl⟩⟩))
               go_ret
               exact ⟨by first | rfl | (simp [errW_none, errW_some] <;> rfl) | (simp [*, errW_none, errW_some] <;> rfl), by repeat (first | (with_reducible first | exact HB.out | apply below_alloc | apply pw_below_drewN | apply below_drew1) | exact HB.out)⟩
              ·replace c72 := Bool.eq_false_iff.mpr c72
               subst c72
               have H1 : (some false) = some r := by rw [if_neg (show ¬ (false = true) by decide)] at H; exact H
               clear H
               have H := H1
               clear H1
               obtain rfl := Option.some.inj H
               obtain ⟨Ao77, co77, eo77⟩ := Kd.V_slice HO_3.out
               subst eo77
               go_wp2_with (first | ((with_reducible refine gate_callee (f := 23) rfl ?_); refine goesL_ (some 86) rfl rfl Try.func23 (by kernel_rfl) rfl #[.slice Ao77 t372.length co77] rfl (by (try simp only [List.map_toArray, List.map_cons, List.map_nil]); first | done | rfl | (simp only [List.length_drop, List.length_take]; rfl)) ?_; (with_reducible refine (linear_Inverse.calls k4 _ _ t372 t379 false _ ?side1 ?side2 A71.out).mono ?_); (case side1 => repeat (first | exact (Kd.V_reads' HO_3.out).2.2 | (with_reducible refine Kd.C_alloc ?_ _) | (with_reducible refine Kd.C_drewN ?_ _) | (with_reducible refine Kd.C_drew ?_))); (case side2 => exact (Kd.V_reads' HO_3.out).2.1); rintro e w78 ⟨v380, rfl, ho0, hb⟩; refine ⟨_, rfl, ?_⟩; have n0_ := Aside0.mk (Kd.V_below (by (with_reducible repeat (first | apply Kd.V_alloc | apply Kd.V_drewN | apply Kd.V_drew)); exact HO_3.out) hb); have n1_ := Aside0.mk (Kd.V_lower (Kd.V_mono (ok' := fun k_ => True) ho0 (fun k_ hk_ => trivial)) (below_size (by repeat (first | (with_reducible first | exact HB.out | apply below_alloc | apply pw_below_drewN | apply below_drew1) | exact HB.out)))); have n2_ := Aside0.mk (below_step (by repeat (first | (with_reducible first | exact HB.out | apply below_alloc | apply pw_below_drewN | apply below_drew1) | exact HB.out)) hb); clear HO_3; clear HB; have HO_3 := n0_; have HO381 := n1_; have HB := n2_; clear n0_ n1_ n2_; (try clear hb); (try clear hb2); (try clear hk); (try clear hi); (try clear ho0)))
               go_ret
               exact ⟨by first | rfl | (simp [errW_none, errW_some] <;> rfl) | (simp [*, errW_none, errW_some] <;> rfl), by repeat (first | (with_reducible first | exact HB.out | apply below_alloc | apply pw_below_drewN | apply below_drew1) | exact HB.out)⟩
          ·replace c21 := Bool.eq_false_iff.mpr c21
           subst c21
           have H1 : (some ((t372.length : Int) == 0)) = some r := by rw [if_neg (show ¬ (false = true) by decide)] at H; exact H
           clear H
           have H := H1
           clear H1
           obtain rfl := Option.some.inj H
           obtain ⟨Ao79, co79, eo79⟩ := Kd.V_slice HO_3.out
           subst eo79
           go_wp2
           go_ret
           exact ⟨by first | rfl | (simp [errW_none, errW_some] <;> rfl) | (simp [*, errW_none, errW_some] <;> rfl), by repeat (first | (with_reducible first | exact HB.out | apply below_alloc | apply pw_below_drewN | apply below_drew1) | exact HB.out)⟩
 ·replace c3 := Bool.eq_false_iff.mpr c3
  subst c3
  have H1 : (some false) = some r := by rw [if_neg (show ¬ (false = true) by decide)] at H; exact H
  clear H
  have H := H1
  clear H1
  obtain rfl := Option.some.inj H
  go_enter Try.func6, Try.ntmps6
  go_wp2_with (first | ((with_reducible refine gate_callee (f := 9) rfl ?_); refine goesL_ (some 11) rfl rfl Try.func9 (by kernel_rfl) rfl #[] rfl (by (try simp only [List.map_toArray, List.map_cons, List.map_nil]); first | done | rfl | (simp only [List.length_drop, List.length_take]; rfl)) ?_; (with_reducible refine (footlockerlaw03_alive.calls k  false _ A2.out).mono ?_); rintro e w80 ⟨rfl, hb⟩; refine ⟨_, rfl, ?_⟩; have n0_ := Aside0.mk (below_step (by repeat (first | (with_reducible first | exact HB.out | apply below_alloc | apply pw_below_drewN | apply below_drew1) | exact HB.out)) hb); clear HB; have HB := n0_; clear n0_; (try clear hb); (try clear hb2); (try clear hk); (try clear hi)))
  go_ret
  exact ⟨by first | rfl | (simp [errW_none, errW_some] <;> rfl) | (simp [*, errW_none, errW_some] <;> rfl), by repeat (first | (with_reducible first | exact HB.out | apply below_alloc | apply pw_below_drewN | apply below_drew1) | exact HB.out)⟩
def footlockerlaw03_LinearInverse.Pure : Prop := ∀ (l0 : List (List Int)), (l0.length ≤ maxLen ∧ ∀ x2_ ∈ l0, x2_.length ≤ maxLen ∧ ∀ x3_ ∈ x2_, (Lit.int .u8 x3_).wf = true) → ∃ k, footlockerlaw03_LinearInverse.f k l0 = some true
theorem footlockerlaw03_LinearInverse.walk (P : footlockerlaw03_LinearInverse.Pure) (A0 : Option Addr) (c0 : Nat) (l0 : List (List Int)) (w : World) (hr0 : Kd.C (Kd.slice 5 (Kd.int .u8)) w A0 l0.length l0) (hc0 : l0.length ≤ c0) (w0 : l0.length ≤ maxLen ∧ ∀ x2_ ∈ l0, x2_.length ≤ maxLen ∧ ∀ x3_ ∈ x2_, (Lit.int .u8 x3_).wf = true) :
 Calls Try.prog 6 #[.slice A0 l0.length c0] w fun e w' => e = .returned (.bool true) ∧ Below w.heap.size w w' := by
 obtain ⟨k, h⟩ := P l0 w0
 refine (footlockerlaw03_LinearInverse.calls k A0 c0 l0 true w hr0 hc0 h).mono ?_
 rintro e w' ⟨rfl, hd⟩
 exact ⟨rfl, hd⟩
end Go.Proofs.Ytanknpdibjfmlaa.P
namespace Go.Proofs.Ytanknpdibjfmlaa.Al
open Go Go.Proofs.YtanknpdibjfmlaaW.PrintWords Go.Proofs.YtanknpdibjfmlaaW.PrintMore
structure G where
 v : BitVec 8
theorem G.eq_of {a b : G} (h : a.v = b.v) : a = b := by cases a; cases b; simp_all
instance : DecidableEq G := fun a b => if h : a.v = b.v then .isTrue (G.eq_of h) else .isFalse (fun e => h (by rw [e]))
instance : Zero G := ⟨⟨0#8⟩⟩
instance : Add G := ⟨fun a b => ⟨a.v ^^^ b.v⟩⟩
def xt (a : BitVec 8) : BitVec 8 := (a <<< 1) ^^^ (if a.getLsbD 7 then 0x1D#8 else 0#8)
def cb (c : Bool) (a : BitVec 8) : BitVec 8 := if c then a else 0#8
def gm (a b : BitVec 8) : BitVec 8 :=
 cb (b.getLsbD 0) a ^^^ (cb (b.getLsbD 1) (xt a) ^^^ (cb (b.getLsbD 2) (xt (xt a)) ^^^ (cb (b.getLsbD 3) (xt (xt (xt a))) ^^^ (cb (b.getLsbD 4) (xt (xt (xt (xt a)))) ^^^
  (cb (b.getLsbD 5) (xt (xt (xt (xt (xt a))))) ^^^ (cb (b.getLsbD 6) (xt (xt (xt (xt (xt (xt a)))))) ^^^ cb (b.getLsbD 7) (xt (xt (xt (xt (xt (xt (xt a)))))))))))))
instance : One G := ⟨⟨1#8⟩⟩
instance : Mul G := ⟨fun a b => ⟨gm a.v b.v⟩⟩
theorem zero_v : (0 : G).v = 0#8 := rfl
theorem add_v (a b : G) : (a + b).v = a.v ^^^ b.v := rfl
theorem cb_xor (c d : Bool) (a : BitVec 8) : cb (c ^^ d) a = cb c a ^^^ cb d a := by
 cases c <;> cases d <;> simp [cb]
theorem cb_add (c : Bool) (a b : BitVec 8) : cb c (a ^^^ b) = cb c a ^^^ cb c b := by
 cases c <;> simp [cb]
theorem xt_add (a b : BitVec 8) : xt (a ^^^ b) = xt a ^^^ xt b := by
 unfold xt
 have h : (a ^^^ b).getLsbD 7 = (a.getLsbD 7 ^^ b.getLsbD 7) := by simp
 have e : ∀ c : Bool, (if c then 0x1D#8 else 0#8) = cb c 0x1D#8 := fun _ => rfl
 rw [h, e, e, e, cb_xor, BitVec.shiftLeft_xor_distrib]
 ac_rfl
theorem gm_xor_right (a b c : BitVec 8) : gm a (b ^^^ c) = gm a b ^^^ gm a c := by
 unfold gm
 simp only [BitVec.getLsbD_xor, cb_xor]
 ac_rfl
theorem gm_xor_left (a b c : BitVec 8) : gm (a ^^^ b) c = gm a c ^^^ gm b c := by
 unfold gm
 simp only [xt_add, cb_add]
 ac_rfl
theorem sum_bits : ∀ a : Fin 256, (BitVec.ofFin a : BitVec 8) = cb ((BitVec.ofFin a : BitVec 8).getLsbD 0) 1#8 ^^^ (cb ((BitVec.ofFin a : BitVec 8).getLsbD 1) 2#8 ^^^ (cb ((BitVec.ofFin a : BitVec 8).getLsbD 2) 4#8 ^^^ (cb ((BitVec.ofFin a : BitVec 8).getLsbD 3) 8#8 ^^^ (cb ((BitVec.ofFin a : BitVec 8).getLsbD 4) 16#8 ^^^
 (cb ((BitVec.ofFin a : BitVec 8).getLsbD 5) 32#8 ^^^ (cb ((BitVec.ofFin a : BitVec 8).getLsbD 6) 64#8 ^^^ cb ((BitVec.ofFin a : BitVec 8).getLsbD 7) 128#8)))))) := by decide +kernel
theorem basis_ind (P : BitVec 8 → Prop) (h0 : P 0#8) (ha : ∀ a b, P a → P b → P (a ^^^ b)) (hb : ∀ i : Fin 8, P (1#8 <<< i.val)) (a : BitVec 8) : P a := by
 have hc : ∀ (c : Bool) (x : BitVec 8), P x → P (cb c x) := by
  intro c x hx
  cases c
  ·exact h0
  ·exact hx
 have h := sum_bits a.toFin
 rw [show (BitVec.ofFin a.toFin : BitVec 8) = a from rfl] at h
 rw [h]
 exact ha _ _ (hc _ _ (hb 0)) (ha _ _ (hc _ _ (hb 1)) (ha _ _ (hc _ _ (hb 2)) (ha _ _ (hc _ _ (hb 3)) (ha _ _ (hc _ _ (hb 4)) (ha _ _ (hc _ _ (hb 5)) (ha _ _ (hc _ _ (hb 6)) (hc _ _ (hb 7))))))))
theorem gm_zero_right (a : BitVec 8) : gm a 0#8 = 0#8 := by simp [gm, cb]
theorem gm_zero_left (a : BitVec 8) : gm 0#8 a = 0#8 := by
 have h : xt 0#8 = 0#8 := rfl
 have e : ∀ c, cb c 0#8 = 0#8 := by intro c; cases c <;> rfl
 simp [gm, h, e]
theorem comm_basis : ∀ i j : Fin 8, gm (1#8 <<< i.val) (1#8 <<< j.val) = gm (1#8 <<< j.val) (1#8 <<< i.val) := by decide +kernel
theorem assoc_basis : ∀ i j k : Fin 8, gm (gm (1#8 <<< i.val) (1#8 <<< j.val)) (1#8 <<< k.val) = gm (1#8 <<< i.val) (gm (1#8 <<< j.val) (1#8 <<< k.val)) := by decide +kernel
theorem gm_comm (a b : BitVec 8) : gm a b = gm b a := by
 refine basis_ind (fun a => gm a b = gm b a) ?_ ?_ ?_ a
 ·rw [gm_zero_left, gm_zero_right]
 ·intro x y hx hy
  rw [gm_xor_left, gm_xor_right, hx, hy]
 ·intro i
  refine basis_ind (fun b => gm (1#8 <<< i.val) b = gm b (1#8 <<< i.val)) ?_ ?_ ?_ b
  ·rw [gm_zero_left, gm_zero_right]
  ·intro x y hx hy
   rw [gm_xor_left, gm_xor_right, hx, hy]
  ·exact fun j => comm_basis i j
theorem gm_assoc (a b c : BitVec 8) : gm (gm a b) c = gm a (gm b c) := by
 refine basis_ind (fun a => gm (gm a b) c = gm a (gm b c)) ?_ ?_ ?_ a
 ·simp only [gm_zero_left]
 ·intro x y hx hy
  simp only [gm_xor_left, hx, hy]
 ·intro i
  refine basis_ind (fun b => gm (gm (1#8 <<< i.val) b) c = gm (1#8 <<< i.val) (gm b c)) ?_ ?_ ?_ b
  ·simp only [gm_zero_left, gm_zero_right]
  ·intro x y hx hy
   simp only [gm_xor_left, gm_xor_right, hx, hy]
  ·intro j
   refine basis_ind (fun c => gm (gm (1#8 <<< i.val) (1#8 <<< j.val)) c = gm (1#8 <<< i.val) (gm (1#8 <<< j.val) c)) ?_ ?_ ?_ c
   ·simp only [gm_zero_right]
   ·intro x y hx hy
    simp only [gm_xor_right, hx, hy]
   ·exact fun k => assoc_basis i j k
theorem gm_one (a : BitVec 8) : gm a 1#8 = a := by
 have : ∀ a : Fin 256, gm (BitVec.ofFin a) 1#8 = BitVec.ofFin a := by decide +kernel
 exact this a.toFin
theorem add_comm (a b : G) : a + b = b + a := G.eq_of (BitVec.xor_comm _ _)
theorem add_assoc (a b c : G) : a + b + c = a + (b + c) := G.eq_of (BitVec.xor_assoc _ _ _)
theorem add_zero (a : G) : a + 0 = a := G.eq_of (by simp [add_v, zero_v])
theorem zero_add (a : G) : 0 + a = a := by rw [add_comm, add_zero]
theorem add_self (a : G) : a + a = 0 := G.eq_of (by simp [add_v, zero_v])
theorem add_add_self (a b : G) : a + (a + b) = b := by rw [← add_assoc, add_self, zero_add]
theorem add_eq_zero {a b : G} : a + b = 0 ↔ a = b := by
 constructor
 ·intro h
  have := add_add_self a b
  rw [h, add_zero] at this
  exact this
 ·rintro rfl
  exact add_self a
theorem mul_comm (a b : G) : a * b = b * a := G.eq_of (gm_comm _ _)
theorem mul_assoc (a b c : G) : a * b * c = a * (b * c) := G.eq_of (gm_assoc _ _ _)
theorem mul_add (a b c : G) : a * (b + c) = a * b + a * c := G.eq_of (gm_xor_right _ _ _)
theorem add_mul (a b c : G) : (a + b) * c = a * c + b * c := G.eq_of (gm_xor_left _ _ _)
theorem mul_zero (a : G) : a * 0 = 0 := G.eq_of (gm_zero_right _)
theorem zero_mul (a : G) : 0 * a = 0 := G.eq_of (gm_zero_left _)
theorem mul_one (a : G) : a * 1 = a := G.eq_of (gm_one _)
theorem one_mul (a : G) : 1 * a = a := by rw [mul_comm, mul_one]
theorem one_ne_zero : (1 : G) ≠ 0 := by decide
def p254 (a : G) : G :=
 let b := a * a
 let c := b * b
 let d := c * c
 let e := d * d
 let f := e * e
 let g := f * f
 let h := g * g
 b * c * d * e * f * g * h
instance : Std.Commutative (α := G) (· + ·) := ⟨add_comm⟩
instance : Std.Associative (α := G) (· + ·) := ⟨add_assoc⟩
instance : Std.Commutative (α := G) (· * ·) := ⟨mul_comm⟩
instance : Std.Associative (α := G) (· * ·) := ⟨mul_assoc⟩
theorem inv_all : ∀ a : Fin 256, a.val ≠ 0 → (⟨BitVec.ofFin a⟩ : G) * p254 ⟨BitVec.ofFin a⟩ = 1 := by decide +kernel
def inv (a : G) : G := p254 a
theorem mul_inv {a : G} (h : a ≠ 0) : a * inv a = 1 := by
 have := inv_all a.v.toFin (by
  intro e
  apply h
  apply G.eq_of
  exact BitVec.eq_of_toNat_eq e)
 exact this
theorem inv_mul {a : G} (h : a ≠ 0) : inv a * a = 1 := by rw [mul_comm, mul_inv h]
def G.i (a : G) : Int := (a.v.toNat : Int)
def G.of (x : Int) : G := ⟨BitVec.ofInt 8 x⟩
theorem i_inj {a b : G} : a.i = b.i ↔ a = b := by
 constructor
 ·intro h
  apply G.eq_of
  apply BitVec.eq_of_toNat_eq
  unfold G.i at h
  omega
 ·rintro rfl
  rfl
theorem i_of {x : Int} (h0 : 0 ≤ x) (h1 : x < 256) : (G.of x).i = x := by
 simp only [G.of, G.i, BitVec.toNat_ofInt]
 omega
theorem i_zero : (0 : G).i = 0 := rfl
theorem i_eq_zero {a : G} : a.i = 0 ↔ a = 0 := by rw [← i_zero, i_inj]
theorem xor_i (a b : G) : Go.bits .xor .u8 a.i b.i = (a + b).i := by
 unfold Go.bits G.i
 simp only [IntKind.wrap_u8]
 show ((BitVec.ofInt 8 (a.v.toNat : Int) ^^^ BitVec.ofInt 8 (b.v.toNat : Int)).toNat : Int) % 256 = ((a.v ^^^ b.v).toNat : Int)
 simp only [BitVec.ofInt_natCast, BitVec.ofNat_toNat, BitVec.setWidth_eq]
 have := (a.v ^^^ b.v).isLt
 omega
end Go.Proofs.Ytanknpdibjfmlaa.Al
namespace Go.Proofs.Ytanknpdibjfmlaa.Al
set_option linter.unusedVariables false
set_option linter.unusedSimpArgs false
def co (p : List G) (i : Nat) : G := p.getD i 0
theorem co_nil (i : Nat) : co [] i = 0 := rfl
theorem co_succ (a : G) (p : List G) (i : Nat) : co (a :: p) (i + 1) = co p i := rfl
theorem co_lt {p : List G} {i : Nat} (h : i < p.length) : co p i = p[i] := by
 simp [co, List.getD_eq_getElem?_getD, List.getElem?_eq_getElem h]
theorem co_ge {p : List G} {i : Nat} (h : p.length ≤ i) : co p i = 0 := by
 simp [co, List.getD_eq_getElem?_getD, List.getElem?_eq_none h]
theorem co_drop (p : List G) (n i : Nat) : co (p.drop n) i = co p (n + i) := by
 simp only [co, List.getD_eq_getElem?_getD, List.getElem?_drop]
theorem co_append (p q : List G) (i : Nat) : co (p ++ q) i = if i < p.length then co p i else co q (i - p.length) := by
 simp only [co, List.getD_eq_getElem?_getD, List.getElem?_append]
 split <;> rfl
theorem co_set (p : List G) (n i : Nat) (a : G) (h : n < p.length) : co (p.set n a) i = if i = n then a else co p i := by
 simp only [co, List.getD_eq_getElem?_getD, List.getElem?_set]
 by_cases e : n = i
 ·subst e
  simp [h]
 ·simp [e, Ne.symm e]
theorem co_replicate (n i : Nat) : co (List.replicate n 0) i = 0 := by
 simp only [co, List.getD_eq_getElem?_getD, List.getElem?_replicate]
 split <;> rfl
theorem ext_co {p q : List G} (hl : p.length = q.length) (h : ∀ i, i < p.length → co p i = co q i) : p = q := by
 apply List.ext_getElem hl
 intro i h1 h2
 have := h i h1
 rwa [co_lt h1, co_lt h2] at this
def tab (n : Nat) (f : Nat → G) : List G := (List.range n).map f
theorem tab_length (n : Nat) (f : Nat → G) : (tab n f).length = n := by simp [tab]
theorem co_tab (n : Nat) (f : Nat → G) (i : Nat) : co (tab n f) i = if i < n then f i else 0 := by
 by_cases h : i < n
 ·rw [if_pos h, co_lt (by rw [tab_length]; exact h)]
  simp [tab]
 ·rw [if_neg h, co_ge (by rw [tab_length]; omega)]
theorem tab_succ (n : Nat) (f : Nat → G) : tab (n + 1) f = tab n f ++ [f n] := by simp [tab, List.range_succ]
def ev : List G → G → G
 | [], _ => 0
 | a :: p, x => a + x * ev p x
def zadd : List G → List G → List G
 | [], q => q
 | p, [] => p
 | a :: p, b :: q => (a + b) :: zadd p q
theorem co_zadd (p q : List G) (i : Nat) : co (zadd p q) i = co p i + co q i := by
 induction p generalizing q i with
 | nil => rw [zadd, co_nil, zero_add]
 | cons a p ih =>
  cases q with
  | nil => rw [zadd, co_nil, add_zero]; intro h; cases h
  | cons b q =>
   cases i with
   | zero => rfl
   | succ i => rw [zadd, co_succ, co_succ, co_succ, ih]
theorem zadd_length (p q : List G) : (zadd p q).length = max p.length q.length := by
 induction p generalizing q with
 | nil => rw [zadd, List.length_nil]; omega
 | cons a p ih =>
  cases q with
  | nil => rw [zadd, List.length_nil]; omega; intro h; cases h
  | cons b q => rw [zadd, List.length_cons, List.length_cons, List.length_cons, ih]; omega
def scale (c : G) (p : List G) : List G := p.map (c * ·)
theorem co_scale (c : G) (p : List G) (i : Nat) : co (scale c p) i = c * co p i := by
 induction p generalizing i with
 | nil => rw [scale, List.map_nil, co_nil, mul_zero]
 | cons a p ih =>
  cases i with
  | zero => rfl
  | succ i => exact ih i
theorem scale_length (c : G) (p : List G) : (scale c p).length = p.length := List.length_map _
def sum (f : Nat → G) : Nat → G
 | 0 => 0
 | n + 1 => sum f n + f n
theorem sum_zero (f : Nat → G) : sum f 0 = 0 := rfl
theorem sum_succ (f : Nat → G) (n : Nat) : sum f (n + 1) = sum f n + f n := rfl
theorem sum_congr {f g : Nat → G} {n : Nat} (h : ∀ i, i < n → f i = g i) : sum f n = sum g n := by
 induction n with
 | zero => rfl
 | succ n ih => rw [sum_succ, sum_succ, ih (fun i hi => h i (by omega)), h n (by omega)]
theorem sum_add (f g : Nat → G) (n : Nat) : sum (fun i => f i + g i) n = sum f n + sum g n := by
 induction n with
 | zero => rw [sum_zero, sum_zero, sum_zero, add_zero]
 | succ n ih =>
  simp only [sum_succ, ih]
  ac_rfl
theorem sum_mul (c : G) (f : Nat → G) (n : Nat) : sum (fun i => c * f i) n = c * sum f n := by
 induction n with
 | zero => rw [sum_zero, sum_zero, mul_zero]
 | succ n ih => rw [sum_succ, sum_succ, ih, mul_add]
theorem sum_eq_zero {f : Nat → G} {n : Nat} (h : ∀ i, i < n → f i = 0) : sum f n = 0 := by
 induction n with
 | zero => rfl
 | succ n ih => rw [sum_succ, ih (fun i hi => h i (by omega)), h n (by omega), add_zero]
theorem sum_extend {f : Nat → G} {n m : Nat} (hnm : n ≤ m) (h : ∀ i, n ≤ i → i < m → f i = 0) : sum f m = sum f n := by
 induction m with
 | zero => rw [show n = 0 by omega]
 | succ m ih =>
  by_cases e : n = m + 1
  ·rw [e]
  ·rw [sum_succ, ih (by omega) (fun i h1 h2 => h i h1 (by omega)), h m (by omega) (by omega), add_zero]
theorem sum_single {f : Nat → G} {n k : Nat} (hk : k < n) (h : ∀ i, i < n → i ≠ k → f i = 0) : sum f n = f k := by
 induction n with
 | zero => omega
 | succ n ih =>
  rw [sum_succ]
  by_cases e : k = n
  ·subst e
   rw [sum_eq_zero (fun i hi => h i (by omega) (by omega)), zero_add]
  ·rw [ih (by omega) (fun i hi hne => h i (by omega) hne), h n (by omega) (by omega), add_zero]
end Go.Proofs.Ytanknpdibjfmlaa.Al
namespace Go.Proofs.Ytanknpdibjfmlaa.Al
set_option linter.unusedVariables false
set_option linter.unusedSimpArgs false
theorem sum_swap (g : Nat → Nat → G) (m n : Nat) : sum (fun j => sum (fun i => g i j) m) n = sum (fun i => sum (fun j => g i j) n) m := by
 induction n with
 | zero => rw [sum_zero, sum_eq_zero]; intro i _; rfl
 | succ n ih =>
  rw [sum_succ, ih, ← sum_add]
  rfl
theorem sum_split (f : Nat → G) (n m : Nat) : sum f (n + m) = sum f n + sum (fun j => f (n + j)) m := by
 induction m with
 | zero => rw [sum_zero, add_zero]; rfl
 | succ m ih =>
  show sum f (n + m + 1) = _
  rw [sum_succ, sum_succ, ih, add_assoc]
theorem sum_mul_right (c : G) (f : Nat → G) (n : Nat) : sum (fun i => f i * c) n = sum f n * c := by
 rw [mul_comm, ← sum_mul]
 apply sum_congr
 intro i _
 rw [mul_comm]
def row (M : List (List G)) (i : Nat) : List G := M.getD i []
theorem row_lt {M : List (List G)} {i : Nat} (h : i < M.length) : row M i = M[i] := by
 simp [row, List.getD_eq_getElem?_getD, List.getElem?_eq_getElem h]
theorem row_ge {M : List (List G)} {i : Nat} (h : M.length ≤ i) : row M i = [] := by
 simp [row, List.getD_eq_getElem?_getD, List.getElem?_eq_none h]
theorem row_set (M : List (List G)) (n i : Nat) (r : List G) (h : n < M.length) : row (M.set n r) i = if i = n then r else row M i := by
 simp only [row, List.getD_eq_getElem?_getD, List.getElem?_set]
 by_cases e : n = i
 ·subst e
  simp [h]
 ·simp [e, Ne.symm e]
theorem row_drop (M : List (List G)) (n i : Nat) : row (M.drop n) i = row M (n + i) := by
 simp only [row, List.getD_eq_getElem?_getD, List.getElem?_drop]
theorem ext_row {M N : List (List G)} (hl : M.length = N.length) (h : ∀ i, i < M.length → row M i = row N i) : M = N := by
 apply List.ext_getElem hl
 intro i h1 h2
 have := h i h1
 rwa [row_lt h1, row_lt h2] at this
def tabR (n : Nat) (f : Nat → List G) : List (List G) := (List.range n).map f
theorem tabR_length (n : Nat) (f : Nat → List G) : (tabR n f).length = n := by simp [tabR]
theorem row_tabR (n : Nat) (f : Nat → List G) (i : Nat) (h : i < n) : row (tabR n f) i = f i := by
 rw [row_lt (by rw [tabR_length]; exact h)]
 simp [tabR]
def Wd (M : List (List G)) (w : Nat) : Prop := ∀ i, i < M.length → (row M i).length = w
def Sp (M : List (List G)) (v : Nat → G) : Prop := ∃ f : Nat → G, ∀ j, v j = sum (fun i => f i * co (row M i) j) M.length
theorem Sp.zero (M : List (List G)) : Sp M (fun _ => 0) := ⟨fun _ => 0, fun j => by rw [sum_eq_zero]; intro i _; rw [zero_mul]⟩
theorem Sp.congr {M : List (List G)} {v w : Nat → G} (hv : Sp M v) (h : ∀ j, v j = w j) : Sp M w := by
 obtain ⟨f, hf⟩ := hv
 exact ⟨f, fun j => by rw [← h, hf]⟩
theorem Sp.add {M : List (List G)} {v w : Nat → G} (hv : Sp M v) (hw : Sp M w) : Sp M (fun j => v j + w j) := by
 obtain ⟨f, hf⟩ := hv
 obtain ⟨g, hg⟩ := hw
 refine ⟨fun i => f i + g i, fun j => ?_⟩
 dsimp only
 rw [hf, hg, ← sum_add]
 apply sum_congr
 intro i _
 rw [add_mul]
theorem Sp.mul {M : List (List G)} {v : Nat → G} (c : G) (hv : Sp M v) : Sp M (fun j => c * v j) := by
 obtain ⟨f, hf⟩ := hv
 refine ⟨fun i => c * f i, fun j => ?_⟩
 dsimp only
 rw [hf, ← sum_mul]
 apply sum_congr
 intro i _
 rw [mul_assoc]
theorem Sp.row {M : List (List G)} {i : Nat} (h : i < M.length) : Sp M (co (row M i)) := by
 refine ⟨fun k => if k = i then 1 else 0, fun j => ?_⟩
 rw [sum_single (k := i) h]
 ·dsimp only
  rw [if_pos rfl, one_mul]
 ·intro k _ hk
  dsimp only
  rw [if_neg hk, zero_mul]
theorem Sp.sums {M : List (List G)} (f : Nat → G) (r : Nat → Nat → G) (n : Nat) (h : ∀ i, i < n → Sp M (r i)) : Sp M (fun j => sum (fun i => f i * r i j) n) := by
 induction n with
 | zero => exact Sp.zero M
 | succ n ih => exact ((ih (fun i hi => h i (by omega))).add ((h n (by omega)).mul (f n))).congr (fun j => rfl)
theorem Sp.le {M N : List (List G)} (h : ∀ i, i < N.length → Sp M (co (Al.row N i))) {v : Nat → G} (hv : Sp N v) : Sp M v := by
 obtain ⟨f, hf⟩ := hv
 exact (Sp.sums f (fun i => co (Al.row N i)) N.length h).congr (fun j => (hf j).symm)
def dt (n : Nat) (v x : Nat → G) : G := sum (fun j => v j * x j) n
theorem dt_congr {n : Nat} {v w x y : Nat → G} (h : ∀ j, j < n → v j = w j) (h2 : ∀ j, j < n → x j = y j) : dt n v x = dt n w y :=
 sum_congr (fun j hj => by rw [h j hj, h2 j hj])
theorem dt_comm (n : Nat) (v x : Nat → G) : dt n v x = dt n x v := sum_congr (fun j _ => mul_comm _ _)
theorem dt_single {n : Nat} {v x : Nat → G} {k : Nat} (hk : k < n) (h : ∀ j, j < n → j ≠ k → v j = 0 ∨ x j = 0) : dt n v x = v k * x k :=
 sum_single hk (fun j hj hne => (h j hj hne).elim (fun e => by rw [e, zero_mul]) (fun e => by rw [e, mul_zero]))
def Ker (M : List (List G)) (n : Nat) (z : Nat → G) : Prop := ∀ i, i < M.length → dt n (co (row M i)) z = 0
theorem Ker.span {M : List (List G)} {n : Nat} {z : Nat → G} (h : Ker M n z) {v : Nat → G} (hv : Sp M v) : dt n v z = 0 := by
 obtain ⟨f, hf⟩ := hv
 have h1 : dt n v z = sum (fun j => sum (fun i => f i * (co (row M i) j * z j)) M.length) n := by
  unfold dt
  apply sum_congr
  intro j _
  rw [hf, ← sum_mul_right]
  apply sum_congr
  intro i _
  rw [mul_assoc]
 rw [h1, sum_swap, sum_eq_zero]
 intro i hi
 rw [sum_mul]
 have := h i hi
 unfold dt at this
 rw [this, mul_zero]
theorem Ker.of_span {M N : List (List G)} (h : ∀ v, Sp N v → Sp M v) {n : Nat} {z : Nat → G} (hk : Ker M n z) : Ker N n z :=
 fun i hi => hk.span (h _ (Sp.row hi))
def swp (M : List (List G)) (a u k : Nat) : List G := if k = a then row M u else if k = u then row M a else row M k
def piv (M : List (List G)) (c u : Nat) : List G := scale (inv (co (row M u) c)) (row M u)
def elim (M : List (List G)) (a c u : Nat) : List (List G) := tabR M.length (fun k => if k = a then piv M c u else zadd (swp M a u k) (scale (co (swp M a u k) c) (piv M c u)))
theorem elim_length (M : List (List G)) (a c u : Nat) : (elim M a c u).length = M.length := tabR_length _ _
theorem row_elim {M : List (List G)} {a c u k : Nat} (h : k < M.length) : row (elim M a c u) k = if k = a then piv M c u else zadd (swp M a u k) (scale (co (swp M a u k) c) (piv M c u)) := row_tabR _ _ _ h
theorem co_piv (M : List (List G)) (c u j : Nat) : co (piv M c u) j = inv (co (row M u) c) * co (row M u) j := co_scale _ _ _
theorem co_elim_at {M : List (List G)} {a c u : Nat} (h : a < M.length) (j : Nat) : co (row (elim M a c u) a) j = co (piv M c u) j := by rw [row_elim h, if_pos rfl]
theorem co_elim {M : List (List G)} {a c u k : Nat} (h : k < M.length) (hk : k ≠ a) (j : Nat) : co (row (elim M a c u) k) j = co (swp M a u k) j + co (swp M a u k) c * co (piv M c u) j := by
 rw [row_elim h, if_neg hk, co_zadd, co_scale]
theorem swp_width {M : List (List G)} {w a u k : Nat} (hw : Wd M w) (ha : a < M.length) (hu : u < M.length) (hk : k < M.length) : (swp M a u k).length = w := by
 unfold swp
 split
 ·exact hw u hu
 ·split
  ·exact hw a ha
  ·exact hw k hk
theorem elim_width {M : List (List G)} {w a c u : Nat} (hw : Wd M w) (ha : a < M.length) (hu : u < M.length) : Wd (elim M a c u) w := by
 intro k hk
 rw [elim_length] at hk
 rw [row_elim hk]
 have hp : (piv M c u).length = w := by rw [piv, scale_length]; exact hw u hu
 split
 ·exact hp
 ·rw [zadd_length, scale_length, hp, swp_width hw ha hu hk]
  omega
theorem swp_span {M : List (List G)} {a u k : Nat} (ha : a < M.length) (hu : u < M.length) (hk : k < M.length) : Sp M (co (swp M a u k)) := by
 unfold swp
 split
 ·exact Sp.row hu
 ·split
  ·exact Sp.row ha
  ·exact Sp.row hk
theorem elim_span {M : List (List G)} {a c u : Nat} (ha : a < M.length) (hu : u < M.length) (hp : co (row M u) c ≠ 0) (v : Nat → G) : Sp (elim M a c u) v ↔ Sp M v := by
 have hpiv : Sp M (co (piv M c u)) := ((Sp.row hu).mul (inv (co (row M u) c))).congr (fun j => (co_piv M c u j).symm)
 have ha' : a < (elim M a c u).length := by rw [elim_length]; exact ha
 have hpe : Sp (elim M a c u) (co (piv M c u)) := (Sp.row ha').congr (fun j => co_elim_at ha j)
 have hsw : ∀ k, k < M.length → k ≠ a → Sp (elim M a c u) (co (swp M a u k)) := by
  intro k hk hka
  refine ((Sp.row (M := elim M a c u) (i := k) (by rw [elim_length]; exact hk)).add (hpe.mul (co (swp M a u k) c))).congr (fun j => ?_)
  rw [co_elim hk hka, add_assoc, add_self, add_zero]
 have hru : Sp (elim M a c u) (co (row M u)) := by
  refine (hpe.mul (co (row M u) c)).congr (fun j => ?_)
  rw [co_piv, ← mul_assoc, mul_inv hp, one_mul]
 constructor
 ·refine Sp.le (fun k hk => ?_)
  rw [elim_length] at hk
  by_cases hka : k = a
  ·rw [hka]
   exact hpiv.congr (fun j => (co_elim_at ha j).symm)
  ·exact ((swp_span ha hu hk).add (hpiv.mul (co (swp M a u k) c))).congr (fun j => (co_elim hk hka j).symm)
 ·refine Sp.le (fun k hk => ?_)
  by_cases hku : k = u
  ·rw [hku]
   exact hru
  ·by_cases hka : k = a
   ·have h := hsw u hu (fun e => hku (by rw [hka, e]))
    have e : swp M a u u = row M k := by
     unfold swp
     rw [if_neg (fun e => hku (by rw [hka, e])), if_pos rfl, hka]
    rwa [e] at h
   ·have h := hsw k hk hka
    have e : swp M a u k = row M k := by
     unfold swp
     rw [if_neg hka, if_neg hku]
    rwa [e] at h
structure RF (M : List (List G)) (ps : List Nat) (c : Nat) : Prop where
 len : ps.length ≤ M.length
 lt : ∀ t, t < ps.length → ps.getD t 0 < c
 asc : ∀ s t, s < t → t < ps.length → ps.getD s 0 < ps.getD t 0
 unit : ∀ i t, i < M.length → t < ps.length → co (row M i) (ps.getD t 0) = if i = t then 1 else 0
 low : ∀ i j, ps.length ≤ i → i < M.length → j < c → co (row M i) j = 0
 lead : ∀ t j, t < ps.length → j < ps.getD t 0 → co (row M t) j = 0
theorem RF.start (M : List (List G)) : RF M [] 0 where
 len := Nat.zero_le _
 lt := fun t h => absurd h (Nat.not_lt_zero _)
 asc := fun s t _ h => absurd h (Nat.not_lt_zero _)
 unit := fun i t _ h => absurd h (Nat.not_lt_zero _)
 low := fun i j _ _ h => absurd h (Nat.not_lt_zero _)
 lead := fun t j h => absurd h (Nat.not_lt_zero _)
theorem RF.skip {M : List (List G)} {ps : List Nat} {c : Nat} (h : RF M ps c) (hz : ∀ i, ps.length ≤ i → i < M.length → co (row M i) c = 0) : RF M ps (c + 1) where
 len := h.len
 lt := fun t ht => Nat.lt_succ_of_lt (h.lt t ht)
 asc := h.asc
 unit := h.unit
 low := fun i j hi hi2 hj => by
  by_cases e : j = c
  ·rw [e]; exact hz i hi hi2
  ·exact h.low i j hi hi2 (by omega)
 lead := h.lead
theorem getD_snoc (ps : List Nat) (c t : Nat) : (ps ++ [c]).getD t 0 = if t < ps.length then ps.getD t 0 else if t = ps.length then c else 0 := by
 simp only [List.getD_eq_getElem?_getD, List.getElem?_append]
 by_cases h : t < ps.length
 ·rw [if_pos h, if_pos h]
 ·rw [if_neg h, if_neg h]
  by_cases e : t = ps.length
  ·rw [if_pos e, e]; simp
  ·rw [if_neg e, List.getElem?_eq_none (by simp; omega)]; rfl
theorem RF.step {M : List (List G)} {ps : List Nat} {c u : Nat} (h : RF M ps c) (hu : ps.length ≤ u) (hu2 : u < M.length) (hp : co (row M u) c ≠ 0) : RF (elim M ps.length c u) (ps ++ [c]) (c + 1) := by
 have ha : ps.length < M.length := by omega
 have hpz : ∀ j, j < c → co (piv M c u) j = 0 := fun j hj => by rw [co_piv, h.low u j hu hu2 hj, mul_zero]
 have hpc : co (piv M c u) c = 1 := by rw [co_piv, inv_mul hp]
 have hsl : ∀ k, ps.length < k → k < M.length → ∀ j, j < c → co (swp M ps.length u k) j = 0 := by
  intro k hk hk2 j hj
  unfold swp
  rw [if_neg (by omega)]
  split
  ·exact h.low _ j (Nat.le_refl _) ha hj
  ·exact h.low _ j (by omega) hk2 hj
 have hsk : ∀ k, k < ps.length → swp M ps.length u k = row M k := by
  intro k hk
  unfold swp
  rw [if_neg (by omega), if_neg (by omega)]
 have hcol : ∀ i, i < M.length → co (row (elim M ps.length c u) i) c = if i = ps.length then 1 else 0 := by
  intro i hi
  by_cases e : i = ps.length
  ·rw [if_pos e, e, co_elim_at ha, hpc]
  ·rw [if_neg e, co_elim hi e, hpc, mul_one, add_self]
 have hbel : ∀ i j, i < M.length → j < c → co (row (elim M ps.length c u) i) j = if i < ps.length then co (row M i) j else 0 := by
  intro i j hi hj
  by_cases e : i = ps.length
  ·rw [e, co_elim_at ha, hpz j hj, if_neg (Nat.lt_irrefl _)]
  ·rw [co_elim hi e, hpz j hj, mul_zero, add_zero]
   by_cases hlt : i < ps.length
   ·rw [if_pos hlt, hsk i hlt]
   ·rw [if_neg hlt, hsl i (by omega) hi j hj]
 have hget : ∀ t, t < ps.length → (ps ++ [c]).getD t 0 = ps.getD t 0 := fun t ht => by rw [getD_snoc, if_pos ht]
 have hend : (ps ++ [c]).getD ps.length 0 = c := by rw [getD_snoc, if_neg (Nat.lt_irrefl _), if_pos rfl]
 have hl : (ps ++ [c]).length = ps.length + 1 := by simp
 constructor
 ·rw [hl, elim_length]; omega
 ·intro t ht
  rw [hl] at ht
  by_cases e : t = ps.length
  ·rw [e, hend]; omega
  ·rw [hget t (by omega)]
   have := h.lt t (by omega)
   omega
 ·intro s t hst ht
  rw [hl] at ht
  rw [hget s (by omega)]
  by_cases e : t = ps.length
  ·rw [e, hend]
   exact h.lt s (by omega)
  ·rw [hget t (by omega)]
   exact h.asc s t hst (by omega)
 ·intro i t hi ht
  rw [hl] at ht
  rw [elim_length] at hi
  by_cases e : t = ps.length
  ·rw [e, hend, hcol i hi]
  ·rw [hget t (by omega), hbel i _ hi (h.lt t (by omega))]
   by_cases hlt : i < ps.length
   ·rw [if_pos hlt, h.unit i t hi (by omega)]
   ·rw [if_neg hlt, if_neg (by omega)]
 ·intro i j hi hi2 hj
  rw [hl] at hi
  rw [elim_length] at hi2
  by_cases e : j = c
  ·rw [e, hcol i hi2, if_neg (by omega)]
  ·rw [hbel i j hi2 (by omega), if_neg (by omega)]
 ·intro t j ht hj
  rw [hl] at ht
  by_cases e : t = ps.length
  ·rw [e, hend] at hj
   rw [e, hbel _ j ha hj, if_neg (Nat.lt_irrefl _)]
  ·rw [hget t (by omega)] at hj
   have := h.lt t (by omega)
   rw [hbel t j (by omega) (by omega), if_pos (by omega)]
   exact h.lead t j (by omega) hj
def fnd (M : List (List G)) (a c : Nat) : Nat := a + (M.drop a).findIdx (fun r => decide (co r c ≠ 0))
theorem fnd_le (M : List (List G)) (a c : Nat) : a ≤ fnd M a c := Nat.le_add_right _ _
theorem fnd_at {M : List (List G)} {a c : Nat} (h : fnd M a c < M.length) : co (row M (fnd M a c)) c ≠ 0 := by
 have hlt : (M.drop a).findIdx (fun r => decide (co r c ≠ 0)) < (M.drop a).length := by
  rw [List.length_drop]
  unfold fnd at h
  omega
 have h2 := List.findIdx_getElem (w := hlt)
 rw [← row_lt hlt, row_drop] at h2
 exact of_decide_eq_true h2
theorem fnd_before {M : List (List G)} {a c i : Nat} (ha : a ≤ i) (hi : i < fnd M a c) : co (row M i) c = 0 := by
 have hlt : i - a < (M.drop a).findIdx (fun r => decide (co r c ≠ 0)) := by
  unfold fnd at hi
  omega
 have hle := List.findIdx_le_length (p := fun r => decide (co r c ≠ 0)) (xs := M.drop a)
 have h2 := List.not_of_lt_findIdx hlt
 rw [← row_lt, row_drop, show a + (i - a) = i by omega] at h2
 simpa using h2
def red : Nat → List (List G) → List Nat → Nat → List (List G) × List Nat
 | 0, M, ps, _ => (M, ps)
 | d + 1, M, ps, c => if fnd M ps.length c < M.length then red d (elim M ps.length c (fnd M ps.length c)) (ps ++ [c]) (c + 1) else red d M ps (c + 1)
theorem red_facts (d : Nat) : ∀ (M : List (List G)) (ps : List Nat) (c : Nat), RF M ps c →
 RF (red d M ps c).1 (red d M ps c).2 (c + d) ∧ (red d M ps c).1.length = M.length ∧ (∀ w, Wd M w → Wd (red d M ps c).1 w) ∧ ∀ v, Sp (red d M ps c).1 v ↔ Sp M v := by
 induction d with
 | zero => exact fun M ps c h => ⟨h, rfl, fun w hw => hw, fun v => Iff.rfl⟩
 | succ d ih =>
  intro M ps c h
  unfold red
  by_cases hf : fnd M ps.length c < M.length
  ·rw [if_pos hf]
   have hp := fnd_at hf
   have hle := fnd_le M ps.length c
   obtain ⟨h1, h2, h3, h4⟩ := ih _ _ _ (h.step hle hf hp)
   refine ⟨by rw [show c + (d + 1) = c + 1 + d by omega]; exact h1, by rw [h2, elim_length], fun w hw => h3 w (elim_width hw (by omega) hf), fun v => (h4 v).trans (elim_span (by omega) hf hp v)⟩
  ·rw [if_neg hf]
   obtain ⟨h1, h2, h3, h4⟩ := ih _ _ _ (h.skip (fun i hi hi2 => fnd_before hi (by omega)))
   exact ⟨by rw [show c + (d + 1) = c + 1 + d by omega]; exact h1, h2, h3, h4⟩
def reduce (M : List (List G)) (n : Nat) : List (List G) × List Nat := red n M [] 0
theorem reduce_RF (M : List (List G)) (n : Nat) : RF (reduce M n).1 (reduce M n).2 n := by
 have := (red_facts n M [] 0 (RF.start M)).1
 rwa [Nat.zero_add] at this
theorem reduce_length (M : List (List G)) (n : Nat) : (reduce M n).1.length = M.length := (red_facts n M [] 0 (RF.start M)).2.1
theorem reduce_width {M : List (List G)} {w : Nat} (n : Nat) (h : Wd M w) : Wd (reduce M n).1 w := (red_facts n M [] 0 (RF.start M)).2.2.1 w h
theorem reduce_span (M : List (List G)) (n : Nat) (v : Nat → G) : Sp (reduce M n).1 v ↔ Sp M v := (red_facts n M [] 0 (RF.start M)).2.2.2 v
theorem RF.coords {R : List (List G)} {ps : List Nat} {c : Nat} (h : RF R ps c) {v : Nat → G} (hv : Sp R v) {j : Nat} (hj : j < c) :
 v j = sum (fun t => v (ps.getD t 0) * co (row R t) j) ps.length := by
 obtain ⟨f, hf⟩ := hv
 have h1 : ∀ t, t < ps.length → v (ps.getD t 0) = f t := by
  intro t ht
  have hl := h.len
  rw [hf, sum_single (k := t) (by omega)]
  ·rw [h.unit t t (by omega) ht, if_pos rfl, mul_one]
  ·intro i hi hne
   rw [h.unit i t hi ht, if_neg hne, mul_zero]
 rw [hf, sum_extend h.len (fun i h1 h2 => by rw [h.low i j h1 h2 hj, mul_zero])]
 apply sum_congr
 intro t ht
 rw [h1 t ht]
def Ld (M : List (List G)) (j : Nat) : Prop := ∃ v, Sp M v ∧ (∀ i, i < j → v i = 0) ∧ v j ≠ 0
theorem RF.mem {R : List (List G)} {ps : List Nat} {c : Nat} (h : RF R ps c) {j : Nat} (hj : j < c) : Ld R j ↔ ∃ t, t < ps.length ∧ ps.getD t 0 = j := by
 constructor
 ·rintro ⟨v, hv, hz, hne⟩
  apply Classical.byContradiction
  intro hno
  apply hne
  rw [h.coords hv hj]
  apply sum_eq_zero
  intro t ht
  rcases Nat.lt_trichotomy (ps.getD t 0) j with e | e | e
  ·rw [hz _ e, zero_mul]
  ·exact absurd ⟨t, ht, e⟩ hno
  ·rw [h.lead t j ht e, mul_zero]
 ·rintro ⟨t, ht, rfl⟩
  have hl := h.len
  refine ⟨co (row R t), Sp.row (by omega), fun i hi => h.lead t i ht hi, ?_⟩
  rw [h.unit t t (by omega) ht, if_pos rfl]
  exact one_ne_zero
theorem asc_eq {ps qs : List Nat} (hp : ∀ s t, s < t → t < ps.length → ps.getD s 0 < ps.getD t 0) (hq : ∀ s t, s < t → t < qs.length → qs.getD s 0 < qs.getD t 0)
 (h : ∀ j, (∃ t, t < ps.length ∧ ps.getD t 0 = j) ↔ ∃ t, t < qs.length ∧ qs.getD t 0 = j) : ps = qs := by
 have key : ∀ (as0 bs : List Nat), (∀ s t, s < t → t < as0.length → as0.getD s 0 < as0.getD t 0) → (∀ s t, s < t → t < bs.length → bs.getD s 0 < bs.getD t 0) →
  (∀ j, (∃ t, t < as0.length ∧ as0.getD t 0 = j) ↔ ∃ t, t < bs.length ∧ bs.getD t 0 = j) → ∀ t, t < as0.length → (∀ s, s < t → as0.getD s 0 = bs.getD s 0) → t < bs.length ∧ bs.getD t 0 ≤ as0.getD t 0 := by
  intro as0 bs ha hb hab t ht hs
  obtain ⟨s, h1, h2⟩ := (hab (as0.getD t 0)).1 ⟨t, ht, rfl⟩
  rcases Nat.lt_trichotomy s t with e | e | e
  ·have h3 := ha s t e ht
   have h4 := hs s e
   omega
  ·rw [← e]
   exact ⟨h1, by rw [h2, e]; exact Nat.le_refl _⟩
  ·have := hb t s e h1
   exact ⟨by omega, by omega⟩
 have all : ∀ t, (t < ps.length ↔ t < qs.length) ∧ (t < ps.length → ps.getD t 0 = qs.getD t 0) := by
  intro t
  induction t using Nat.strongRecOn with
  | _ t ih =>
   have hpq : t < ps.length → t < qs.length ∧ qs.getD t 0 ≤ ps.getD t 0 := fun ht => key ps qs hp hq h t ht (fun s hs => (ih s hs).2 (by omega))
   have hqp : t < qs.length → t < ps.length ∧ ps.getD t 0 ≤ qs.getD t 0 := fun ht => key qs ps hq hp (fun j => (h j).symm) t ht (fun s hs => ((ih s hs).2 ((ih s hs).1.2 (by omega))).symm)
   refine ⟨⟨fun ht => (hpq ht).1, fun ht => (hqp ht).1⟩, fun ht => ?_⟩
   have h1 := hpq ht
   have h2 := hqp h1.1
   omega
 have hl : ps.length = qs.length := by
  rcases Nat.lt_trichotomy ps.length qs.length with e | e | e
  ·have := (all ps.length).1.2 e
   omega
  ·exact e
  ·have := (all qs.length).1.1 e
   omega
 apply List.ext_getElem hl
 intro i h1 h2
 have := (all i).2 h1
 simpa [List.getD_eq_getElem?_getD, List.getElem?_eq_getElem h1, List.getElem?_eq_getElem h2] using this
theorem pivots_eq {R S : List (List G)} {ps qs : List Nat} {c : Nat} (h1 : RF R ps c) (h2 : RF S qs c) (h : ∀ j, j < c → (Ld R j ↔ Ld S j)) : ps = qs := by
 apply asc_eq h1.asc h2.asc
 intro j
 constructor
 ·rintro ⟨t, ht, rfl⟩
  have hj := h1.lt t ht
  exact (h2.mem hj).1 ((h _ hj).1 ((h1.mem hj).2 ⟨t, ht, rfl⟩))
 ·rintro ⟨t, ht, rfl⟩
  have hj := h2.lt t ht
  exact (h1.mem hj).1 ((h _ hj).2 ((h2.mem hj).2 ⟨t, ht, rfl⟩))
theorem Ld.of {M N : List (List G)} (h : ∀ v, Sp M v → Sp N v) {j : Nat} (hl : Ld M j) : Ld N j := by
 obtain ⟨v, h1, h2⟩ := hl
 exact ⟨v, h v h1, h2⟩
theorem asc_ge {ps : List Nat} (hp : ∀ s t, s < t → t < ps.length → ps.getD s 0 < ps.getD t 0) : ∀ t, t < ps.length → t ≤ ps.getD t 0 := by
 intro t
 induction t with
 | zero => intro _; exact Nat.zero_le _
 | succ t ih =>
  intro ht
  have h1 := ih (by omega)
  have h2 := hp t (t + 1) (by omega) ht
  omega
theorem RF.le {R : List (List G)} {ps : List Nat} {c : Nat} (h : RF R ps c) : ps.length ≤ c := by
 rcases Nat.eq_zero_or_pos ps.length with e | e
 ·omega
 ·have h1 := asc_ge h.asc (ps.length - 1) (by omega)
  have h2 := h.lt (ps.length - 1) (by omega)
  omega
theorem RF.full {R : List (List G)} {ps : List Nat} {c : Nat} (h : RF R ps c) (hl : ps.length = c) : ∀ t, t < c → ps.getD t 0 = t := by
 have hge := asc_ge h.asc
 have hup : ∀ d t, t + d + 1 = c → ps.getD t 0 ≤ t := by
  intro d
  induction d with
  | zero =>
   intro t ht
   have := h.lt t (by omega)
   omega
  | succ d ih =>
   intro t ht
   have h1 := ih (t + 1) (by omega)
   have h2 := h.asc t (t + 1) (by omega) (by omega)
   omega
 intro t ht
 have h1 := hge t (by omega)
 have h2 := hup (c - t - 1) t (by omega)
 omega
end Go.Proofs.Ytanknpdibjfmlaa.Al
namespace Go.Proofs.Ytanknpdibjfmlaa.Al
set_option linter.unusedVariables false
set_option linter.unusedSimpArgs false
def tms (M : List (List G)) (x : List G) : List G := tab M.length (fun i => dt (min (row M i).length x.length) (co (row M i)) (co x))
theorem tms_length (M : List (List G)) (x : List G) : (tms M x).length = M.length := tab_length _ _
theorem co_tms {M : List (List G)} {x : List G} {w i : Nat} (hw : Wd M w) (hx : x.length = w) (hi : i < M.length) : co (tms M x) i = dt w (co (row M i)) (co x) := by
 rw [tms, co_tab, if_pos hi, hw i hi, hx, Nat.min_self]
theorem tms_iff {M : List (List G)} {x b : List G} {w : Nat} (hw : Wd M w) (hx : x.length = w) (hb : b.length = M.length) : tms M x = b ↔ ∀ i, i < M.length → dt w (co (row M i)) (co x) = co b i := by
 constructor
 ·rintro rfl i hi
  rw [co_tms hw hx hi]
 ·intro h
  apply ext_co
  ·rw [tms_length, hb]
  ·intro i hi
   rw [tms_length] at hi
   rw [co_tms hw hx hi, h i hi]
def one (n : Nat) (x : Nat → G) (j : Nat) : G := if j < n then x j else 1
def unitv (n i : Nat) : List G := (List.replicate n 0).set i 1
theorem unitv_length (n i : Nat) : (unitv n i).length = n := by rw [unitv, List.length_set, List.length_replicate]
theorem co_unitv {n i : Nat} (h : i < n) (j : Nat) : co (unitv n i) j = if j = i then 1 else 0 := by
 rw [unitv, co_set _ _ _ _ (by rw [List.length_replicate]; exact h), co_replicate]
theorem dt_unitv {n i : Nat} (h : i < n) (v : Nat → G) : dt n v (co (unitv n i)) = v i := by
 rw [dt_single h (fun j _ hne => .inr (by rw [co_unitv h, if_neg hne])), co_unitv h, if_pos rfl, mul_one]
def augI (M : List (List G)) (n : Nat) : List (List G) := tabR M.length (fun i => row M i ++ unitv n i)
theorem augI_length (M : List (List G)) (n : Nat) : (augI M n).length = M.length := tabR_length _ _
theorem row_augI {M : List (List G)} {n i : Nat} (h : i < M.length) : row (augI M n) i = row M i ++ unitv n i := row_tabR _ _ _ h
theorem augI_width {M : List (List G)} {n : Nat} (hw : Wd M n) : Wd (augI M n) (n + n) := by
 intro i hi
 rw [augI_length] at hi
 rw [row_augI hi, List.length_append, hw i hi, unitv_length]
def two (n : Nat) (x y : Nat → G) (j : Nat) : G := if j < n then x j else y (j - n)
theorem dt_two (n : Nat) (v x y : Nat → G) : dt (n + n) v (two n x y) = dt n v x + dt n (fun j => v (n + j)) y := by
 unfold dt
 rw [sum_split]
 congr 1
 ·apply sum_congr
  intro j hj
  unfold two
  rw [if_pos hj]
 ·apply sum_congr
  intro j hj
  unfold two
  rw [if_neg (by omega), show n + j - n = j by omega]
theorem ker_augI {M : List (List G)} {n : Nat} (hw : Wd M n) (hn : M.length = n) {x y : Nat → G} : Ker (augI M n) (n + n) (two n x y) ↔ ∀ i, i < n → dt n (co (row M i)) x = y i := by
 have key : ∀ i, i < n → dt (n + n) (co (row (augI M n) i)) (two n x y) = dt n (co (row M i)) x + y i := by
  intro i hi
  rw [dt_two, row_augI (by omega)]
  congr 1
  ·exact dt_congr (fun j hj => by rw [co_append, hw i (by omega), if_pos hj]) (fun _ _ => rfl)
  ·rw [dt_congr (w := co (unitv n i)) (y := y) (fun j hj => by rw [co_append, hw i (by omega), if_neg (by omega), show n + j - n = j by omega]) (fun _ _ => rfl), dt_comm, dt_unitv hi]
 constructor
 ·intro h i hi
  have := h i (by rw [augI_length]; omega)
  rw [key i hi] at this
  exact add_eq_zero.1 this
 ·intro h i hi
  rw [augI_length, hn] at hi
  rw [key i hi, h i hi, add_self]
def iv (M : List (List G)) (n : Nat) : List (List G) × List Nat := reduce (augI M n) n
def ivB (M : List (List G)) (n : Nat) : List (List G) := tabR (iv M n).1.length (fun i => (row (iv M n).1 i).drop n)
theorem iv_length (M : List (List G)) (n : Nat) : (iv M n).1.length = M.length := by rw [iv, reduce_length, augI_length]
theorem ivB_length (M : List (List G)) (n : Nat) : (ivB M n).length = M.length := by rw [ivB, tabR_length, iv_length]
theorem row_ivB {M : List (List G)} {n i : Nat} (h : i < M.length) : row (ivB M n) i = (row (iv M n).1 i).drop n := row_tabR _ _ _ (by rw [iv_length]; exact h)
theorem ivB_width {M : List (List G)} {n : Nat} (hw : Wd M n) : Wd (ivB M n) n := by
 intro i hi
 rw [ivB_length] at hi
 have := reduce_width n (augI_width hw) i (by rw [reduce_length, augI_length]; exact hi)
 rw [row_ivB hi, List.length_drop, iv, this]
 omega
theorem ker_iv {M : List (List G)} {n : Nat} (hn : M.length = n) (hf : (iv M n).2.length = n) {x y : Nat → G} : Ker (iv M n).1 (n + n) (two n x y) ↔ ∀ i, i < n → dt n (co (row (ivB M n) i)) y = x i := by
 have hR := reduce_RF (augI M n) n
 have hfull := hR.full hf
 have key : ∀ i, i < n → dt (n + n) (co (row (iv M n).1 i)) (two n x y) = x i + dt n (co (row (ivB M n) i)) y := by
  intro i hi
  rw [dt_two]
  congr 1
  ·have hu : ∀ j, j < n → co (row (iv M n).1 i) j = if i = j then 1 else 0 := by
    intro j hj
    have := hR.unit i j (by rw [reduce_length, augI_length]; omega) (by have : (reduce (augI M n) n).2.length = n := hf; omega)
    rwa [hfull j hj] at this
   rw [dt_single hi (fun j hj hne => .inl (by rw [hu j hj, if_neg (fun e => hne e.symm)])), hu i hi, if_pos rfl, one_mul]
  ·exact dt_congr (fun j hj => by rw [row_ivB (by omega), co_drop]) (fun _ _ => rfl)
 constructor
 ·intro h i hi
  have := h i (by rw [iv_length]; omega)
  rw [key i hi] at this
  exact (add_eq_zero.1 this).symm
 ·intro h i hi
  rw [iv_length, hn] at hi
  rw [key i hi, h i hi, add_self]
theorem iv_iff {M : List (List G)} {n : Nat} (hw : Wd M n) (hn : M.length = n) (hf : (iv M n).2.length = n) {x y : Nat → G} :
 (∀ i, i < n → dt n (co (row M i)) x = y i) ↔ ∀ i, i < n → dt n (co (row (ivB M n) i)) y = x i := by
 rw [← ker_augI hw hn, ← ker_iv hn hf]
 exact ⟨Ker.of_span (fun v => (reduce_span _ _ v).1), Ker.of_span (fun v => (reduce_span _ _ v).2)⟩
theorem inv_right {M : List (List G)} {n : Nat} (hw : Wd M n) (hn : M.length = n) (hf : (iv M n).2.length = n) {e : List G} (he : e.length = n) : tms M (tms (ivB M n) e) = e := by
 have hl : (tms (ivB M n) e).length = n := by rw [tms_length, ivB_length, hn]
 rw [tms_iff hw hl (by omega), hn]
 exact (iv_iff hw hn hf).2 (fun i hi => (co_tms (ivB_width hw) he (by rw [ivB_length]; omega)).symm)
theorem inv_left {M : List (List G)} {n : Nat} (hw : Wd M n) (hn : M.length = n) (hf : (iv M n).2.length = n) {e : List G} (he : e.length = n) : tms (ivB M n) (tms M e) = e := by
 have hl : (tms M e).length = n := by rw [tms_length, hn]
 rw [tms_iff (ivB_width hw) hl (by rw [ivB_length]; omega), ivB_length, hn]
 exact (iv_iff hw hn hf).1 (fun i hi => (co_tms hw he (by omega)).symm)
theorem Ld_congr {M N : List (List G)} {n : Nat} (hl : M.length = N.length) (h : ∀ i, i < M.length → ∀ j, j < n → co (row M i) j = co (row N i) j) {j : Nat} (hj : j < n) (hd : Ld M j) : Ld N j := by
 obtain ⟨v, ⟨f, hf⟩, hz, hne⟩ := hd
 have e : ∀ i, i < n → v i = sum (fun k => f k * co (row N k) i) N.length := by
  intro i hi
  rw [hf, ← hl]
  apply sum_congr
  intro k hk
  rw [h k hk i hi]
 exact ⟨fun i => sum (fun k => f k * co (row N k) i) N.length, ⟨f, fun _ => rfl⟩, fun i hi => by dsimp only; rw [← e i (by omega), hz i hi], by dsimp only; rw [← e j hj]; exact hne⟩
theorem Ld_augI {M : List (List G)} {n : Nat} (hw : Wd M n) {j : Nat} (hj : j < n) : Ld (augI M n) j ↔ Ld M j := by
 have key : ∀ i, i < M.length → ∀ j, j < n → co (row M i) j = co (row (augI M n) i) j := fun i hi j hj => by rw [row_augI hi, co_append, hw i hi, if_pos hj]
 exact ⟨Ld_congr (n := n) (augI_length _ _) (fun i hi j hj => (key i (by rwa [augI_length] at hi) j hj).symm) hj, Ld_congr (n := n) (augI_length _ _).symm key hj⟩
theorem iv_pivots {M : List (List G)} {n : Nat} (hw : Wd M n) : (iv M n).2 = (reduce M n).2 :=
 pivots_eq (reduce_RF (augI M n) n) (reduce_RF M n) (fun j hj =>
  ⟨fun h => Ld.of (fun v => (reduce_span _ _ v).2) ((Ld_augI hw hj).1 (Ld.of (fun v => (reduce_span _ _ v).1) h)),
   fun h => Ld.of (fun v => (reduce_span _ _ v).2) ((Ld_augI hw hj).2 (Ld.of (fun v => (reduce_span _ _ v).1) h))⟩)
theorem inv_full {M : List (List G)} {n : Nat} (hw : Wd M n) (hn : M.length = n) (hf : (iv M n).2.length = n) : (iv (ivB M n) n).2.length = n := by
 have hR := reduce_RF (augI M n) n
 have hB : (ivB M n).length = n := by rw [ivB_length, hn]
 have hld : ∀ j, j < n → Ld (ivB M n) j := by
  intro j hj
  refine ⟨fun i => sum (fun k => co (row M j) k * co (row (ivB M n) k) i) (ivB M n).length, ⟨fun k => co (row M j) k, fun _ => rfl⟩, ?_⟩
  have e : ∀ i, i < n → sum (fun k => co (row M j) k * co (row (ivB M n) k) i) (ivB M n).length = if j = i then 1 else 0 := by
   intro i hi
   have h1 := (iv_iff hw hn hf (x := fun k => co (row (ivB M n) k) i) (y := co (unitv n i))).2 (fun k hk => dt_unitv hi _) j hj
   rw [hB]
   unfold dt at h1
   rw [h1, co_unitv hi]
  exact ⟨fun i hi => by dsimp only; rw [e i (by omega), if_neg (by omega)], by dsimp only; rw [e j hj, if_pos rfl]; exact one_ne_zero⟩
 have hp : (iv (ivB M n) n).2 = (iv M n).2 := by
  refine pivots_eq (reduce_RF (augI (ivB M n) n) n) hR (fun j hj => ?_)
  refine ⟨fun _ => (hR.mem hj).2 ⟨j, by have : (reduce (augI M n) n).2.length = n := hf; omega, hR.full hf j hj⟩, fun _ => Ld.of (fun v => (reduce_span _ _ v).2) ((Ld_augI (ivB_width hw) hj).2 (hld j hj))⟩
 rw [hp, hf]
theorem inv_inv {M : List (List G)} {n : Nat} (hw : Wd M n) (hn : M.length = n) (hf : (iv M n).2.length = n) : ivB (ivB M n) n = M := by
 have hB : (ivB M n).length = n := by rw [ivB_length, hn]
 have hf2 := inv_full hw hn hf
 apply ext_row
 ·rw [ivB_length, hB, hn]
 ·intro i hi
  rw [ivB_length, hB] at hi
  apply ext_co
  ·rw [ivB_width (ivB_width hw) i (by rw [ivB_length, hB]; exact hi), hw i (by omega)]
  ·intro j hj
   rw [ivB_width (ivB_width hw) i (by rw [ivB_length, hB]; exact hi)] at hj
   have h1 := (iv_iff hw hn hf (x := co (unitv n j)) (y := fun i => co (row M i) j)).1 (fun k hk => dt_unitv hj _)
   have h2 := (iv_iff (ivB_width hw) hB hf2).1 h1 i hi
   rw [dt_unitv hj] at h2
   exact h2
end Go.Proofs.Ytanknpdibjfmlaa.Al
namespace Go.Proofs.Ytanknpdibjfmlaa.Al
open Go Go.RowKit Go.Proofs.YtanknpdibjfmlaaW.PrintWords Go.Proofs.YtanknpdibjfmlaaW.PrintMore Go.Proofs.Ytanknpdibjfmlaa.P
set_option linter.unusedVariables false
set_option linter.unusedSimpArgs false
theorem Ev.pos {α : Type} {c : Prop} [Decidable c] {A B : Nat → Option α} {r : α} (h : c) (hA : Ev A r) : Ev (fun k => if c then A k else B k) r := by
 simp only [if_pos h]; exact hA
theorem Ev.neg {α : Type} {c : Prop} [Decidable c] {A B : Nat → Option α} {r : α} (h : ¬ c) (hB : Ev B r) : Ev (fun k => if c then A k else B k) r := by
 simp only [if_neg h]; exact hB
theorem evc {α : Type} {g : Nat → Option α} {r r' : α} (h : Ev g r) (e : r = r') : Ev g r' := e ▸ h
theorem Ev.somef {α β : Type} {f : Nat → α → Option β} {a : α} {r : β} (h : Ev (fun k => f k a) r) : Ev (fun k => (some a).bind (f k)) r := h
theorem wrap_sm {x : Int} (h0 : -9223372036854775808 ≤ x) (h1 : x ≤ 9223372036854775807) : wrap64 x = x := by unfold wrap64; omega
def tm (a : G) : G := ⟨xt a.v⟩
theorem twice_all : ∀ a : Fin 256, gf_twice.f (a.val : Int) = some ((xt (BitVec.ofFin a)).toNat : Int) := by decide +kernel
theorem twice_i (a : G) : gf_twice.f a.i = some (tm a).i := twice_all a.v.toFin
theorem and_one {x : Int} (h0 : 0 ≤ x) (h1 : x < 256) : Go.bits .and .u8 x 1 = x % 2 := bits_mask .u8 8 (by decide) wraps_u8 1 (by decide) x h0 h1
def gmN : Nat → G → Nat → G
 | 0, _, _ => 0
 | n + 1, a, b => (if b % 2 = 1 then a else 0) + gmN n (tm a) (b / 2)
theorem gmN_zero (n : Nat) (a : G) : gmN n a 0 = 0 := by
 induction n generalizing a with
 | zero => rfl
 | succ n ih => rw [gmN, if_neg (by decide), Nat.zero_div, ih, add_zero]
theorem bit_cb (b : BitVec 8) (i : Nat) (a : G) : (if b.toNat / 2 ^ i % 2 = 1 then a else 0) = (⟨cb (b.getLsbD i) a.v⟩ : G) := by
 have h : b.getLsbD i = decide (b.toNat / 2 ^ i % 2 = 1) := by
  rw [BitVec.getLsbD, Nat.testBit_eq_decide_div_mod_eq]
 rw [h]
 by_cases e : b.toNat / 2 ^ i % 2 = 1
 ·rw [if_pos e, decide_eq_true e]; rfl
 ·rw [if_neg e, decide_eq_false e]; rfl
theorem mul_gmN (a b : G) : a * b = gmN 8 a b.v.toNat := by
 simp only [gmN, Nat.div_div_eq_div_mul]
 have h0 := bit_cb b.v 0 a
 simp only [Nat.pow_zero, Nat.div_one] at h0
 rw [h0, bit_cb b.v 1, bit_cb b.v 2, bit_cb b.v 3, bit_cb b.v 4, bit_cb b.v 5, bit_cb b.v 6, bit_cb b.v 7, add_zero]
 rfl
theorem mul_l0 (n : Nat) : ∀ (a : G) (b : Nat) (o : G), b < 2 ^ n → b < 256 → Ev (fun k => gf_Mul.l0 k a.i (b : Int) o.i) (o + gmN n a b).i := by
 induction n with
 | zero =>
  intro a b o h _
  obtain rfl : b = 0 := by omega
  refine Ev.step (fun k => gf_Mul.l0.eq_2 _ _ _ _) (Ev.pos rfl ?_)
  rw [gmN, add_zero]
  exact Ev.now _
 | succ n ih =>
  intro a b o h h1
  refine Ev.step (fun k => gf_Mul.l0.eq_2 _ _ _ _) ?_
  by_cases hb : b = 0
  ·subst hb
   refine Ev.pos rfl ?_
   rw [gmN_zero, add_zero]
   exact Ev.now _
  ·refine Ev.neg (by omega) ?_
   rw [and_one (by omega) (by omega), twice_i]
   have hd : ((b : Int) / 2) = ((b / 2 : Nat) : Int) := by omega
   rw [hd]
   by_cases ho : b % 2 = 1
   ·refine Ev.neg (by omega) ?_
    rw [xor_i]
    refine evc (ih (tm a) (b / 2) (o + a) (by rw [Nat.pow_succ] at h; omega) (by omega)) ?_
    rw [gmN, if_pos ho, add_assoc]
   ·refine Ev.pos (by omega) ?_
    refine evc (ih (tm a) (b / 2) o (by rw [Nat.pow_succ] at h; omega) (by omega)) ?_
    rw [gmN, if_neg ho, zero_add]
theorem mul_ev (a b : G) : Ev (fun k => gf_Mul.f k a.i b.i) (a * b).i := by
 have h := mul_l0 8 a b.v.toNat 0 b.v.isLt b.v.isLt
 rw [zero_add, ← mul_gmN] at h
 exact h
end Go.Proofs.Ytanknpdibjfmlaa.Al
namespace Go.Proofs.Ytanknpdibjfmlaa.Al
open Go Go.RowKit Go.Proofs.YtanknpdibjfmlaaW.PrintWords Go.Proofs.YtanknpdibjfmlaaW.PrintMore Go.Proofs.Ytanknpdibjfmlaa.P
set_option linter.unusedVariables false
set_option linter.unusedSimpArgs false
def bs (p : List G) : List Int := p.map G.i
theorem bs_length (p : List G) : (bs p).length = p.length := List.length_map _
theorem bs_cons (a : G) (p : List G) : bs (a :: p) = a.i :: bs p := rfl
theorem bs_append (p q : List G) : bs (p ++ q) = bs p ++ bs q := List.map_append
theorem bs_drop (p : List G) (n : Nat) : (bs p).drop n = bs (p.drop n) := List.map_drop.symm
theorem bs_set (p : List G) (n : Nat) (a : G) : (bs p).set n a.i = bs (p.set n a) := List.map_set.symm
theorem bs_replicate (n : Nat) : List.replicate n (0 : Int) = bs (List.replicate n 0) := by rw [bs, List.map_replicate]; rfl
theorem rd_bs (p : List G) (n : Nat) : rd (bs p) (n : Int) = (co p n).i := by
 simp only [rd, bs, Int.toNat_natCast, co, List.getD_eq_getElem?_getD, List.getElem?_map]
 cases p[n]? <;> rfl
theorem of_bytes : ∀ l : List Int, (∀ x ∈ l, 0 ≤ x ∧ x < 256) → ∃ p, l = bs p := by
 intro l
 induction l with
 | nil => intro _; exact ⟨[], rfl⟩
 | cons a l ih =>
  intro h
  obtain ⟨p, rfl⟩ := ih (fun x hx => h x (List.mem_cons_of_mem _ hx))
  have ha := h a List.mem_cons_self
  exact ⟨G.of a :: p, by rw [bs_cons, i_of ha.1 ha.2]⟩
theorem wrap_succ {n : Nat} (h : n < 4611686018427387904) : wrap64 ((n : Int) + 1) = ((n + 1 : Nat) : Int) := by
 rw [wrap_sm (by omega) (by omega)]; omega
theorem clone_some (l : List Int) (h : l.length < 1000000000000) : slices_Clone_byte_byte.f l = some l := by
 unfold slices_Clone_byte_byte.f
 rw [if_pos (by omega)]
theorem and_one64 {x : Int} (h0 : 0 ≤ x) (h1 : x < 256) : Go.bits .and .i64 x 1 = x % 2 :=
 bits_mask .i64 8 (by decide) (fun n a b => by rw [IntKind.wrap_i64]; omega) 1 (by decide) x h0 h1
theorem power_odd {a o : G} {x : Int} {r : Int} (h0 : 0 < x) (h1 : x < 256) (ho : x % 2 = 1) (h : Ev (fun k => gf_power.l0 k (a * a).i (x / 2) (o * a).i) r) : Ev (fun k => gf_power.l0 k a.i x o.i) r := by
 refine Ev.step (fun k => gf_power.l0.eq_2 _ _ _ _) (Ev.pos h0 ?_)
 rw [and_one64 (by omega) h1]
 exact Ev.neg (by omega) (Ev.bind (mul_ev _ _) (Ev.bind (mul_ev _ _) h))
theorem power_even {a o : G} {x : Int} {r : Int} (h0 : 0 < x) (h1 : x < 256) (ho : x % 2 = 0) (h : Ev (fun k => gf_power.l0 k (a * a).i (x / 2) o.i) r) : Ev (fun k => gf_power.l0 k a.i x o.i) r := by
 refine Ev.step (fun k => gf_power.l0.eq_2 _ _ _ _) (Ev.pos h0 ?_)
 rw [and_one64 (by omega) h1]
 exact Ev.pos (by omega) (Ev.bind (mul_ev _ _) h)
theorem power_end (a o : G) : Ev (fun k => gf_power.l0 k a.i 0 o.i) o.i :=
 Ev.step (fun k => gf_power.l0.eq_2 _ _ _ _) (Ev.neg (by omega) (Ev.now _))
theorem inv_ev (a : G) : Ev (fun k => gf_Inv.f k a.i) (inv a).i := by
 refine Ev.congr (fun k => gf_Inv.f.eq_1 _ _) (Ev.bind (a := (inv a).i) ?_ (Ev.now _))
 refine Ev.congr (fun k => gf_power.f.eq_1 _ _ _) ?_
 have : Ev (fun k => gf_power.l0 k a.i 254 (1 : G).i) (inv a).i := by
  refine power_even (by omega) (by omega) (by decide) ?_
  refine power_odd (by omega) (by omega) (by decide) ?_
  refine power_odd (by omega) (by omega) (by decide) ?_
  refine power_odd (by omega) (by omega) (by decide) ?_
  refine power_odd (by omega) (by omega) (by decide) ?_
  refine power_odd (by omega) (by omega) (by decide) ?_
  refine power_odd (by omega) (by omega) (by decide) ?_
  refine power_odd (by omega) (by omega) (by decide) ?_
  refine evc (power_end _ _) ?_
  rw [one_mul]
  rfl
 exact this
end Go.Proofs.Ytanknpdibjfmlaa.Al
namespace Go.Proofs.Ytanknpdibjfmlaa.Al
open Go Go.RowKit Go.Proofs.YtanknpdibjfmlaaW.PrintWords Go.Proofs.YtanknpdibjfmlaaW.PrintMore Go.Proofs.Ytanknpdibjfmlaa.P
set_option linter.unusedVariables false
set_option linter.unusedSimpArgs false
theorem rd_drop {l : List Int} {n : Nat} (h : n < l.length) : l.drop n = rd l (n : Int) :: l.drop (n + 1) := by
 rw [List.drop_eq_getElem_cons h]
 simp [rd, List.getD_eq_getElem?_getD, List.getElem?_eq_getElem h]
theorem same_l0 (a b : List Int) (hl : a.length = b.length) (ha : a.length < 1000000000000) (d : Nat) : ∀ n : Nat, n + d = a.length → Ev (fun k => footlockerref01_Same.l0 k a b (n : Int)) (decide (a.drop n = b.drop n)) := by
 induction d with
 | zero =>
  intro n hn
  refine Ev.step (fun k => footlockerref01_Same.l0.eq_2 _ _ _ _) (Ev.neg (by omega) ?_)
  rw [List.drop_of_length_le (by omega), List.drop_of_length_le (by omega)]
  exact Ev.now _
 | succ d ih =>
  intro n hn
  refine Ev.step (fun k => footlockerref01_Same.l0.eq_2 _ _ _ _) (Ev.pos (by omega) (Ev.pos (by omega) (Ev.pos (by omega) ?_)))
  rw [rd_drop (show n < a.length by omega), rd_drop (show n < b.length by omega)]
  by_cases e : rd a (n : Int) = rd b (n : Int)
  ·refine Ev.pos e ?_
   rw [wrap_succ (by omega)]
   refine evc (ih (n + 1) (by omega)) ?_
   rw [e]
   simp
  ·refine Ev.neg e ?_
   rw [decide_eq_false (by intro h; exact e (List.cons.inj h).1)]
   exact Ev.now _
theorem same_ev (a b : List Int) (ha : a.length < 1000000000000) : Ev (fun k => footlockerref01_Same.f k a b) (decide (a = b)) := by
 refine Ev.congr (fun k => footlockerref01_Same.f.eq_1 _ _ _) ?_
 by_cases hl : a.length = b.length
 ·refine Ev.pos (by omega) ?_
  have := same_l0 a b hl ha a.length 0 (by omega)
  rw [List.drop_zero, List.drop_zero] at this
  exact this
 ·refine Ev.neg (by omega) ?_
  rw [decide_eq_false (by rintro rfl; exact hl rfl)]
  exact Ev.now _
theorem wf_u8 {x : Int} (h : (Lit.int .u8 x).wf = true) : 0 ≤ x ∧ x < 256 := by
 simp [Lit.wf, IntKind.min, IntKind.max, IntKind.bits, IntKind.signed] at h
 omega
theorem bytes_in {l : List Int} (h : ∀ x ∈ l, (Lit.int .u8 x).wf = true) : ∃ p, l = bs p := of_bytes l (fun x hx => wf_u8 (h x hx))
theorem same_true {a b : List Int} (h : a = b) (ha : a.length < 1000000000000) : Ev (fun k => footlockerref01_Same.f k a b) true := by
 have := same_ev a b ha
 rwa [decide_eq_true h] at this
end Go.Proofs.Ytanknpdibjfmlaa.Al
namespace Go.Proofs.Ytanknpdibjfmlaa.Al
open Go Go.RowKit Go.Proofs.YtanknpdibjfmlaaW.PrintWords Go.Proofs.YtanknpdibjfmlaaW.PrintMore Go.Proofs.Ytanknpdibjfmlaa.P
set_option linter.unusedVariables false
set_option linter.unusedSimpArgs false
def bss (M : List (List G)) : List (List Int) := M.map bs
theorem bss_length (M : List (List G)) : (bss M).length = M.length := List.length_map _
theorem rd_bss (M : List (List G)) (i : Nat) : rd_L1 (bss M) (i : Int) = bs (row M i) := by
 simp only [rd_L1, bss, Int.toNat_natCast, row, List.getD_eq_getElem?_getD, List.getElem?_map]
 cases M[i]? <;> rfl
theorem rd_bss0 (M : List (List G)) : rd_L1 (bss M) 0 = bs (row M 0) := rd_bss M 0
theorem bss_set (M : List (List G)) (n : Nat) (r : List G) : (bss M).set n (bs r) = bss (M.set n r) := List.map_set.symm
theorem bss_snoc (M : List (List G)) (r : List G) : bss M ++ [bs r] = bss (M ++ [r]) := by simp [bss]
theorem bss_drop (M : List (List G)) (n : Nat) : (bss M).drop n = bss (M.drop n) := List.map_drop.symm
theorem rows_in : ∀ l : List (List Int), (∀ x ∈ l, ∀ y ∈ x, (Lit.int .u8 y).wf = true) → ∃ M, l = bss M := by
 intro l
 induction l with
 | nil => intro _; exact ⟨[], rfl⟩
 | cons a l ih =>
  intro h
  obtain ⟨M, rfl⟩ := ih (fun x hx => h x (List.mem_cons_of_mem _ hx))
  obtain ⟨p, rfl⟩ := bytes_in (h a List.mem_cons_self)
  exact ⟨p :: M, rfl⟩
def wid (M : List (List G)) : Nat := (row M 0).length
def Rt (M : List (List G)) : Prop := Wd M (wid M)
instance (M : List (List G)) : Decidable (Rt M) := Nat.decidableBallLT M.length (fun i _ => (row M i).length = wid M)
theorem row_snoc_take {M : List (List G)} {n : Nat} (h : n < M.length) : M.take n ++ [row M n] = M.take (n + 1) := by
 rw [List.take_succ_eq_append_getElem h, row_lt h]
def Fit (M : List (List G)) : Prop := M.length < 1000000 ∧ ∀ i, i < M.length → (row M i).length < 1000000
theorem Fit.of {M : List (List G)} {w : Nat} (h1 : M.length < 1000000) (hw : Wd M w) (h2 : w < 1000000) : Fit M := ⟨h1, fun i hi => by rw [hw i hi]; exact h2⟩
theorem Fit.wid {M : List (List G)} (h : Fit M) : wid M < 1000000 := by
 unfold Al.wid
 by_cases e : 0 < M.length
 ·exact h.2 0 e
 ·rw [row_ge (by omega)]; decide
theorem fidx_idx {α : Type} (p : α → Bool) : ∀ (l : List α) (i : Nat), fidx p l i = if l.findIdx p < l.length then ((i + l.findIdx p : Nat) : Int) else -1 := by
 intro l
 induction l with
 | nil => intro i; rfl
 | cons a l ih =>
  intro i
  rw [fidx, List.findIdx_cons]
  cases h : p a with
  | true => simp
  | false =>
   rw [if_neg (by simp), ih]
   simp only [Bool.cond_false, List.length_cons]
   by_cases e : l.findIdx p < l.length
   ·rw [if_pos e, if_pos (by omega)]; omega
   ·rw [if_neg e, if_neg (by omega)]
theorem findIdx_bss (p : List Int → Bool) (q : List G → Bool) (h : ∀ r, p (bs r) = q r) (M : List (List G)) : (bss M).findIdx p = M.findIdx q := by
 rw [bss, List.findIdx_map]
 congr 1
 funext r
 exact h r
theorem right_some (M : List (List G)) : linear_Right.f (bss M) = some (decide (Rt M)) := by
 unfold linear_Right.f
 congr 1
 rw [fidx_idx, findIdx_bss _ (fun r => decide (r.length ≠ wid M)) (fun r => by
  rw [rd_bss0, bs_length, bs_length]
  show (!((r.length : Int) == ((row M 0).length : Int))) = _
  unfold wid
  by_cases e : r.length = (row M 0).length
  ·rw [decide_eq_false (by simp [e])]
   simp [e]
  ·rw [decide_eq_true e]
   simp
   omega), bss_length]
 by_cases h : M.findIdx (fun r => decide (r.length ≠ wid M)) < M.length
 ·rw [if_pos h, decide_eq_true (by omega)]
  have h2 := List.findIdx_getElem (w := h)
  rw [← row_lt h] at h2
  rw [decide_eq_false (fun hr => (of_decide_eq_true h2) (hr _ h))]
  rfl
 ·rw [if_neg h, decide_eq_false (by omega)]
  have hr : Rt M := by
   intro i hi
   have h3 := List.not_of_lt_findIdx (p := fun r => decide (r.length ≠ wid M)) (xs := M) (i := i) (by omega)
   rw [← row_lt hi] at h3
   simpa using h3
  rw [decide_eq_true hr]
  rfl
theorem clone_l0 (M : List (List G)) (hM : Fit M) (d : Nat) : ∀ n : Nat, n + d = M.length → Ev (fun k => linear_clone.l0 k (bss (M.take n)) (bss M) (M.length : Int) (n : Int)) (bss M) := by
 have h1 := hM.1
 induction d with
 | zero =>
  intro n hn
  refine Ev.step (fun k => linear_clone.l0.eq_2 _ _ _ _ _) (Ev.neg (by omega) ?_)
  rw [List.take_of_length_le (by omega)]
  exact Ev.now _
 | succ d ih =>
  intro n hn
  refine Ev.step (fun k => linear_clone.l0.eq_2 _ _ _ _ _) (Ev.pos (by omega) (Ev.pos (by omega) (Ev.pos (by rw [bss_length]; omega) ?_)))
  have h2 := hM.2 n (by omega)
  rw [rd_bss, clone_some _ (by rw [bs_length]; omega)]
  refine Ev.somef (Ev.pos (by rw [bss_length, List.length_take]; omega) ?_)
  rw [bss_snoc, row_snoc_take (by omega), wrap_succ (by omega)]
  exact ih (n + 1) (by omega)
theorem clone_ev (M : List (List G)) (hM : Fit M) : Ev (fun k => linear_clone.f k (bss M)) (bss M) := by
 refine Ev.congr (fun k => linear_clone.f.eq_1 _ _) ?_
 rw [bss_length]
 exact clone_l0 M hM M.length 0 (by omega)
theorem width_some (M : List (List G)) : linear_width.f (bss M) = some (wid M : Int) := by
 unfold linear_width.f
 rw [bss_length]
 by_cases h : (M.length : Int) = 0
 ·rw [if_pos h, wid, row_ge (by omega)]
  rfl
 ·rw [if_neg h, if_pos (by omega), rd_bss0, bs_length]
  rfl
theorem scale_l0 (a : G) (p : List G) (hp : p.length < 1000000) (d : Nat) : ∀ (n : Nat) (o : List G), n + d = p.length → o.length = p.length → (∀ j, j < n → co o j = co p j * a) →
 Ev (fun k => gf_Scale.l0 k a.i (bs o) (bs p) (p.length : Int) (n : Int)) (bs (scale a p)) := by
 induction d with
 | zero =>
  intro n o hn ho h
  refine Ev.step (fun k => gf_Scale.l0.eq_2 _ _ _ _ _ _) (Ev.neg (by omega) ?_)
  have : o = scale a p := ext_co (by rw [scale_length, ho]) (fun j hj => by rw [h j (by omega), co_scale, mul_comm])
  rw [this]
  exact Ev.now _
 | succ d ih =>
  intro n o hn ho h
  refine Ev.step (fun k => gf_Scale.l0.eq_2 _ _ _ _ _ _) (Ev.pos (by omega) (Ev.pos (by omega) (Ev.pos (by rw [bs_length]; omega) ?_)))
  rw [rd_bs]
  refine Ev.bind (mul_ev _ _) (Ev.pos (by rw [bs_length]; omega) ?_)
  rw [Int.toNat_natCast, bs_set, wrap_succ (by omega)]
  refine ih (n + 1) _ (by omega) (by rw [List.length_set]; exact ho) (fun j hj => ?_)
  rw [co_set _ _ _ _ (by omega)]
  by_cases e : j = n
  ·rw [if_pos e, e]
  ·rw [if_neg e, h j (by omega)]
theorem scale_ev (a : G) (p : List G) (hp : p.length < 1000000) : Ev (fun k => gf_Scale.f k (bs p) a.i) (bs (scale a p)) := by
 refine Ev.congr (fun k => gf_Scale.f.eq_1 _ _ _) ?_
 rw [bs_length, Int.toNat_natCast, bs_replicate]
 exact Ev.pos (by omega) (Ev.pos (by omega) (scale_l0 a p hp p.length 0 _ (by omega) List.length_replicate (fun j hj => by omega)))
theorem take_l0 (s r : List G) (by_ : G) (hs : s.length = r.length) (hr : r.length < 1000000) (d : Nat) : ∀ (n : Nat) (o : List G), n + d = s.length → o.length = r.length → (∀ j, co o j = if j < n then co r j + co s j * by_ else co r j) →
 Ev (fun k => linear_take.l0 k (bs o) by_.i (bs s) (s.length : Int) (n : Int)) (bs (zadd r (scale by_ s))) := by
 induction d with
 | zero =>
  intro n o hn ho h
  refine Ev.step (fun k => linear_take.l0.eq_2 _ _ _ _ _ _) (Ev.neg (by omega) ?_)
  have : o = zadd r (scale by_ s) := ext_co (by rw [zadd_length, scale_length, ho, hs, Nat.max_self]) (fun j hj => by rw [h j, if_pos (by omega), co_zadd, co_scale, mul_comm])
  rw [this]
  exact Ev.now _
 | succ d ih =>
  intro n o hn ho h
  refine Ev.step (fun k => linear_take.l0.eq_2 _ _ _ _ _ _) (Ev.pos (by omega) (Ev.pos (by omega) (Ev.pos (by rw [bs_length]; omega) (Ev.pos (by rw [bs_length]; omega) ?_))))
  rw [rd_bs, rd_bs]
  refine Ev.bind (mul_ev _ _) ?_
  rw [Int.toNat_natCast, xor_i, bs_set, wrap_succ (by omega)]
  refine ih (n + 1) _ (by omega) (by rw [List.length_set]; exact ho) (fun j => ?_)
  rw [co_set _ _ _ _ (by omega)]
  by_cases e : j = n
  ·rw [if_pos e, e, if_pos (by omega), h n, if_neg (by omega)]
  ·rw [if_neg e, h j]
   by_cases h2 : j < n
   ·rw [if_pos h2, if_pos (by omega)]
   ·rw [if_neg h2, if_neg (by omega)]
theorem take_ev (s r : List G) (by_ : G) (hs : s.length = r.length) (hr : r.length < 1000000) : Ev (fun k => linear_take.f k (bs s) (bs r) by_.i) (bs (zadd r (scale by_ s))) := by
 refine Ev.congr (fun k => linear_take.f.eq_1 _ _ _ _) ?_
 rw [bs_length]
 exact take_l0 s r by_ hs hr s.length 0 r (by omega) rfl (fun j => by rw [if_neg (Nat.not_lt_zero _)])
theorem row_sw {M : List (List G)} {a u k : Nat} (ha : a < M.length) (hu : u < M.length) : row ((M.set a (row M u)).set u (row M a)) k = swp M a u k := by
 rw [row_set _ _ _ _ (by rw [List.length_set]; exact hu), row_set _ _ _ _ ha]
 unfold swp
 by_cases h1 : k = a
 ·rw [if_pos h1, if_pos h1]
  by_cases h2 : k = u
  ·rw [if_pos h2]
   rw [← h1, h2]
  ·rw [if_neg h2]
 ·rw [if_neg h1, if_neg h1]
theorem sw_bss (M : List (List G)) (a u : Nat) : linear_pivot.sw (bss M) a u = bss ((M.set a (row M u)).set u (row M a)) := by
 have e : ∀ i, (bss M).getD i [] = bs (row M i) := fun i => by
  have := rd_bss M i
  rwa [rd_L1, Int.toNat_natCast] at this
 unfold linear_pivot.sw
 rw [e, e, bss_set, bss_set]
theorem piv_length {M : List (List G)} {w c u : Nat} (hw : Wd M w) (hu : u < M.length) : (piv M c u).length = w := by rw [piv, scale_length, hw u hu]
theorem pivot_l0 (M : List (List G)) (w a c u : Nat) (hM : M.length < 1000000) (hw : Wd M w) (hw2 : w < 1000000) (ha : a < M.length) (hu : u < M.length) (hc : c < w) (d : Nat) : ∀ (n : Nat) (N : List (List G)), n + d = M.length → N.length = M.length →
 (∀ k, k < M.length → row N k = if k = a then piv M c u else if k < n then row (elim M a c u) k else swp M a u k) →
 Ev (fun k => linear_pivot.l0 k (bss N) (a : Int) (c : Int) (M.length : Int) (n : Int)) (bss (elim M a c u)) := by
 induction d with
 | zero =>
  intro n N hn hN h
  refine Ev.step (fun k => linear_pivot.l0.eq_2 _ _ _ _ _ _) (Ev.neg (by omega) ?_)
  have : N = elim M a c u := by
   apply ext_row
   ·rw [hN, elim_length]
   ·intro i hi
    rw [h i (by omega)]
    by_cases e : i = a
    ·rw [if_pos e, e, row_elim ha, if_pos rfl]
    ·rw [if_neg e, if_pos (by omega)]
  rw [this]
  exact Ev.now _
 | succ d ih =>
  intro n N hn hN h
  refine Ev.step (fun k => linear_pivot.l0.eq_2 _ _ _ _ _ _) (Ev.pos (by omega) (Ev.pos (by omega) (Ev.pos (by rw [bss_length]; omega) (Ev.pos (by omega) (Ev.pos (by rw [bss_length]; omega) ?_)))))
  rw [rd_bss, rd_bss, wrap_succ (by omega)]
  by_cases e : n = a
  ·refine Ev.pos (by omega) (ih (n + 1) N (by omega) hN (fun k hk => ?_))
   rw [h k hk]
   by_cases e2 : k = a
   ·rw [if_pos e2, if_pos e2]
   ·rw [if_neg e2, if_neg e2]
    by_cases e3 : k < n
    ·rw [if_pos e3, if_pos (by omega)]
    ·rw [if_neg e3, if_neg (by omega)]
  ·have hr : row N n = swp M a u n := by rw [h n (by omega), if_neg e, if_neg (Nat.lt_irrefl _)]
   have hs : row N a = piv M c u := by rw [h a ha, if_pos rfl]
   have hrl := swp_width hw ha hu (k := n) (by omega)
   refine Ev.neg (by omega) (Ev.pos (by omega) ?_)
   rw [hr, hs]
   refine Ev.pos (by rw [bs_length]; omega) ?_
   rw [rd_bs]
   refine Ev.bind (take_ev _ _ _ (by rw [piv_length hw hu, hrl]) (by omega)) ?_
   rw [Int.toNat_natCast, bss_set]
   refine ih (n + 1) _ (by omega) (by rw [List.length_set]; exact hN) (fun k hk => ?_)
   rw [row_set _ _ _ _ (by omega)]
   by_cases e2 : k = n
   ·rw [if_pos e2, e2, if_neg e, if_pos (by omega), row_elim (by omega), if_neg e]
   ·rw [if_neg e2, h k hk]
    by_cases e3 : k = a
    ·rw [if_pos e3, if_pos e3]
    ·rw [if_neg e3, if_neg e3]
     by_cases e4 : k < n
     ·rw [if_pos e4, if_pos (by omega)]
     ·rw [if_neg e4, if_neg (by omega)]
theorem fidx_fnd (M : List (List G)) (a c : Nat) : fidx (fun x => !(rd x (c : Int) == 0)) ((bss M).drop a) 0 = if fnd M a c < M.length then ((fnd M a c - a : Nat) : Int) else -1 := by
 rw [bss_drop, fidx_idx, findIdx_bss _ (fun r => decide (co r c ≠ 0)) (fun r => by
  rw [rd_bs]
  by_cases e : co r c = 0
  ·rw [decide_eq_false (by simp [e]), e]
   rfl
  ·rw [decide_eq_true e]
   have : (co r c).i ≠ 0 := fun h => e (i_eq_zero.1 h)
   simp [this]), bss_length, List.length_drop]
 have hle := List.findIdx_le_length (p := fun r => decide (co r c ≠ 0)) (xs := M.drop a)
 rw [List.length_drop] at hle
 unfold fnd
 generalize List.findIdx (fun r => decide (co r c ≠ 0)) (M.drop a) = f at hle
 by_cases h : f < M.length - a
 ·rw [if_pos h, if_pos (by omega)]; omega
 ·rw [if_neg h, if_neg (by omega)]
theorem pivot_pre {M : List (List G)} {w c : Nat} (hw : Wd M w) (hc : c < w) : ((bss M).all fun x => decide ((c : Int) < (x.length : Int))) = true := by
 rw [List.all_eq_true]
 intro x hx
 rw [bss, List.mem_map] at hx
 obtain ⟨r, hr, rfl⟩ := hx
 obtain ⟨i, hi, rfl⟩ := List.mem_iff_getElem.1 hr
 have := hw i hi
 rw [row_lt hi] at this
 rw [bs_length, this]
 exact decide_eq_true (by omega)
theorem pivot_no {M : List (List G)} {w a c : Nat} (hw : Wd M w) (ha : a < M.length) (hc : c < w) (hf : ¬ fnd M a c < M.length) : Ev (fun k => linear_pivot.f k (bss M) (a : Int) (c : Int)) (bss M, false) := by
 refine Ev.congr (fun k => linear_pivot.f.eq_1 _ _ _ _) (Ev.pos (by omega) (Ev.pos (by rw [bss_length]; omega) (Ev.pos (by omega) (Ev.pos (pivot_pre hw hc) ?_))))
 rw [Int.toNat_natCast, fidx_fnd, if_neg hf]
 exact Ev.pos (by omega) (Ev.now _)
theorem pivot_yes {M : List (List G)} {w a c : Nat} (hM : M.length < 1000000) (hw : Wd M w) (hw2 : w < 1000000) (ha : a < M.length) (hc : c < w) (hf : fnd M a c < M.length) : Ev (fun k => linear_pivot.f k (bss M) (a : Int) (c : Int)) (bss (elim M a c (fnd M a c)), true) := by
 have hle := fnd_le M a c
 refine Ev.congr (fun k => linear_pivot.f.eq_1 _ _ _ _) (Ev.pos (by omega) (Ev.pos (by rw [bss_length]; omega) (Ev.pos (by omega) (Ev.pos (pivot_pre hw hc) ?_))))
 rw [Int.toNat_natCast, fidx_fnd, if_pos hf]
 refine Ev.neg (by omega) ?_
 have e : ((a : Int) + ((fnd M a c - a : Nat) : Int)).toNat = fnd M a c := by omega
 rw [e, sw_bss, rd_bss, row_sw ha hf]
 have e2 : swp M a (fnd M a c) a = row M (fnd M a c) := by unfold swp; rw [if_pos rfl]
 rw [e2, rd_bs]
 refine Ev.bind (inv_ev _) (Ev.bind (scale_ev _ _ (by rw [hw _ hf]; exact hw2)) ?_)
 rw [bss_set, bss_length]
 refine Ev.bind (pivot_l0 M w a c (fnd M a c) hM hw hw2 ha hf hc M.length 0 _ (by omega) (by simp) (fun k hk => ?_)) (Ev.now _)
 rw [row_set _ _ _ _ (by simp; exact ha), row_sw ha hf]
 by_cases h : k = a
 ·rw [if_pos h, if_pos h]; rfl
 ·rw [if_neg h, if_neg h, if_neg (Nat.not_lt_zero _)]
def psI (ps : List Nat) : List Int := ps.map (fun x : Nat => (x : Int))
theorem psI_length (ps : List Nat) : (psI ps).length = ps.length := List.length_map _
theorem psI_snoc (ps : List Nat) (c : Nat) : psI ps ++ [(c : Int)] = psI (ps ++ [c]) := by simp [psI]
theorem fnd_end {M : List (List G)} {a c : Nat} (h : M.length ≤ a) : ¬ fnd M a c < M.length := by
 have := fnd_le M a c
 omega
theorem reduce_l0 (w b : Nat) (hw2 : w < 1000000) (hb : b ≤ w) (d : Nat) : ∀ (M : List (List G)) (ps : List Nat) (c : Nat), M.length < 1000000 → Wd M w → ps.length ≤ M.length → c + d = b →
 Ev (fun k => linear_Reduce.l0 k (M.length : Int) (bss M) (psI ps) (b : Int) (c : Int)) (bss (red d M ps c).1, psI (red d M ps c).2) := by
 induction d with
 | zero =>
  intro M ps c hM hw hp hc
  exact Ev.step (fun k => linear_Reduce.l0.eq_2 _ _ _ _ _ _) (Ev.neg (by omega) (Ev.now _))
 | succ d ih =>
  intro M ps c hM hw hp hc
  refine Ev.step (fun k => linear_Reduce.l0.eq_2 _ _ _ _ _ _) (Ev.pos (by omega) ?_)
  rw [psI_length, wrap_succ (by omega)]
  unfold red
  by_cases hlt : ps.length < M.length
  ·refine Ev.pos (by omega) ?_
   by_cases hf : fnd M ps.length c < M.length
   ·rw [if_pos hf]
    refine Ev.bind (pivot_yes hM hw hw2 hlt (by omega) hf) (Ev.pos rfl (Ev.pos (by omega) ?_))
    rw [psI_snoc]
    have := ih (elim M ps.length c (fnd M ps.length c)) (ps ++ [c]) (c + 1) (by rw [elim_length]; exact hM) (elim_width hw hlt hf) (by rw [elim_length]; simp; omega) (by omega)
    rw [elim_length] at this
    exact this
   ·rw [if_neg hf]
    exact Ev.bind (pivot_no hw hlt (by omega) hf) (Ev.neg (by simp) (ih M ps (c + 1) hM hw hp (by omega)))
  ·rw [if_neg (fnd_end (by omega))]
   exact Ev.neg (by omega) (ih M ps (c + 1) hM hw hp (by omega))
def cols (a : Int) (w : Nat) : Nat := min a.toNat w
theorem cols_eq (a : Int) (w : Nat) : mn (mx a 0) (w : Int) = (cols a w : Int) := by
 unfold mn mx cols
 split <;> split <;> omega
theorem reduce_ev (M : List (List G)) (a : Int) (hM : Fit M) (hr : Rt M) : Ev (fun k => linear_Reduce.f k (bss M) a) (bss (reduce M (cols a (wid M))).1, psI (reduce M (cols a (wid M))).2) := by
 refine Ev.congr (fun k => linear_Reduce.f.eq_1 _ _ _) ?_
 rw [right_some, decide_eq_true hr]
 refine Ev.somef (Ev.pos rfl (Ev.bind (clone_ev M hM) ?_))
 rw [width_some]
 refine Ev.somef ?_
 rw [cols_eq, bss_length]
 exact reduce_l0 (wid M) (cols a (wid M)) hM.wid (Nat.min_le_right _ _) (cols a (wid M)) M [] 0 hM.1 hr (Nat.zero_le _) (Nat.zero_add _)
theorem cols_nat (n w : Nat) : cols (n : Int) w = min n w := by unfold cols; rw [Int.toNat_natCast]
theorem rank_ev (M : List (List G)) (hM : Fit M) (hr : Rt M) : Ev (fun k => linear_Rank.f k (bss M)) ((reduce M (wid M)).2.length : Int) := by
 refine Ev.congr (fun k => linear_Rank.f.eq_1 _ _) ?_
 rw [width_some]
 refine Ev.somef (Ev.bind (reduce_ev M _ hM hr) ?_)
 rw [cols_nat, Nat.min_self]
 dsimp only
 rw [psI_length]
 exact Ev.now _
theorem mn_nat (a b : Nat) : mn (a : Int) (b : Int) = ((min a b : Nat) : Int) := by
 unfold mn
 split <;> omega
theorem dot_l0 (p q : List G) (hp : p.length < 1000000) (d : Nat) : ∀ n : Nat, n + d = min p.length q.length → Ev (fun k => gf_Dot.l0 k (bs p) (bs q) (dt n (co p) (co q)).i ((min p.length q.length : Nat) : Int) (n : Int)) (dt (min p.length q.length) (co p) (co q)).i := by
 induction d with
 | zero =>
  intro n hn
  refine Ev.step (fun k => gf_Dot.l0.eq_2 _ _ _ _ _ _) (Ev.neg (by omega) ?_)
  rw [show n = min p.length q.length by omega]
  exact Ev.now _
 | succ d ih =>
  intro n hn
  refine Ev.step (fun k => gf_Dot.l0.eq_2 _ _ _ _ _ _) (Ev.pos (by omega) (Ev.pos (by omega) (Ev.pos (by rw [bs_length]; omega) (Ev.pos (by rw [bs_length]; omega) ?_))))
  rw [rd_bs, rd_bs]
  refine Ev.bind (mul_ev _ _) ?_
  rw [xor_i, wrap_succ (by omega)]
  exact ih (n + 1) (by omega)
theorem dot_ev (p q : List G) (hp : p.length < 1000000) : Ev (fun k => gf_Dot.f k (bs p) (bs q)) (dt (min p.length q.length) (co p) (co q)).i := by
 refine Ev.congr (fun k => gf_Dot.f.eq_1 _ _ _) ?_
 rw [bs_length, bs_length, mn_nat]
 exact dot_l0 p q hp (min p.length q.length) 0 (by omega)
theorem times_l0 (M : List (List G)) (x : List G) (hM : Fit M) (d : Nat) : ∀ n : Nat, n + d = M.length → Ev (fun k => linear_Times.l0 k (bs x) (bs (tab n (fun i => dt (min (row M i).length x.length) (co (row M i)) (co x)))) (bss M) (M.length : Int) (n : Int)) (bs (tms M x)) := by
 have h1 := hM.1
 induction d with
 | zero =>
  intro n hn
  refine Ev.step (fun k => linear_Times.l0.eq_2 _ _ _ _ _ _) (Ev.neg (by omega) ?_)
  rw [show n = M.length by omega]
  exact Ev.now _
 | succ d ih =>
  intro n hn
  refine Ev.step (fun k => linear_Times.l0.eq_2 _ _ _ _ _ _) (Ev.pos (by omega) (Ev.pos (by omega) (Ev.pos (by rw [bss_length]; omega) ?_)))
  rw [rd_bss]
  refine Ev.bind (dot_ev _ _ (hM.2 n (by omega))) (Ev.pos (by rw [bs_length, tab_length]; omega) ?_)
  have e : bs (tab n (fun i => dt (min (row M i).length x.length) (co (row M i)) (co x))) ++ [(dt (min (row M n).length x.length) (co (row M n)) (co x)).i] = bs (tab (n + 1) (fun i => dt (min (row M i).length x.length) (co (row M i)) (co x))) := by
   rw [tab_succ, bs_append]; rfl
  rw [e, wrap_succ (by omega)]
  exact ih (n + 1) (by omega)
theorem times_ev (M : List (List G)) (x : List G) (hM : Fit M) : Ev (fun k => linear_Times.f k (bss M) (bs x)) (bs (tms M x)) := by
 refine Ev.congr (fun k => linear_Times.f.eq_1 _ _ _) ?_
 rw [bss_length]
 exact times_l0 M x hM M.length 0 (by omega)
end Go.Proofs.Ytanknpdibjfmlaa.Al
namespace Go.Proofs.Ytanknpdibjfmlaa.Al
open Go Go.RowKit Go.Proofs.YtanknpdibjfmlaaW.PrintWords Go.Proofs.YtanknpdibjfmlaaW.PrintMore Go.Proofs.Ytanknpdibjfmlaa.P
set_option linter.unusedVariables false
set_option linter.unusedSimpArgs false
theorem refright_l0 (M : List (List G)) (hM : M.length < 1000000) (d : Nat) : ∀ n : Nat, n + d = M.length → 0 < n → (∀ i, i < n → (row M i).length = wid M) → Ev (fun k => footlockerref03_Right.l0 k (bss M) (n : Int)) (decide (Rt M)) := by
 induction d with
 | zero =>
  intro n hn _ h
  refine Ev.step (fun k => footlockerref03_Right.l0.eq_2 _ _ _) (Ev.neg (by rw [bss_length]; omega) ?_)
  rw [decide_eq_true (show Rt M from fun i hi => h i (by omega))]
  exact Ev.now _
 | succ d ih =>
  intro n hn h0 h
  refine Ev.step (fun k => footlockerref03_Right.l0.eq_2 _ _ _) (Ev.pos (by rw [bss_length]; omega) (Ev.pos (by omega) (Ev.pos (by rw [bss_length]; omega) ?_)))
  rw [rd_bss, rd_bss0, bs_length, bs_length, wrap_succ (by omega)]
  by_cases e : (row M n).length = wid M
  ·refine Ev.pos (by unfold wid at e; omega) (ih (n + 1) (by omega) (by omega) (fun i hi => ?_))
   by_cases e2 : i = n
   ·rw [e2]; exact e
   ·exact h i (by omega)
  ·refine Ev.neg (by unfold wid at e; omega) ?_
   rw [decide_eq_false (fun hr : Rt M => e (hr n (by omega)))]
   exact Ev.now _
theorem refright_ev (M : List (List G)) (hM : M.length < 1000000) : Ev (fun k => footlockerref03_Right.f k (bss M)) (decide (Rt M)) := by
 refine Ev.congr (fun k => footlockerref03_Right.f.eq_1 _ _) ?_
 by_cases h : 0 < M.length
 ·exact refright_l0 M hM (M.length - 1) 1 (by omega) (by omega) (fun i hi => by rw [show i = 0 by omega]; rfl)
 ·refine Ev.step (fun k => footlockerref03_Right.l0.eq_2 _ _ _) (Ev.neg (by rw [bss_length]; omega) ?_)
  rw [decide_eq_true (show Rt M from fun i hi => by omega)]
  exact Ev.now _
theorem sameR_l0 (M : List (List G)) (hM : Fit M) (d : Nat) : ∀ n : Nat, n + d = M.length → Ev (fun k => footlockerref03_Same.l0 k (bss M) (bss M) (n : Int)) true := by
 have h1 := hM.1
 induction d with
 | zero =>
  intro n hn
  exact Ev.step (fun k => footlockerref03_Same.l0.eq_2 _ _ _ _) (Ev.neg (by rw [bss_length]; omega) (Ev.now _))
 | succ d ih =>
  intro n hn
  refine Ev.step (fun k => footlockerref03_Same.l0.eq_2 _ _ _ _) (Ev.pos (by rw [bss_length]; omega) (Ev.pos (by omega) (Ev.pos (by rw [bss_length]; omega) ?_)))
  rw [rd_bss, wrap_succ (by omega)]
  exact Ev.bind (same_true rfl (by rw [bs_length]; have := hM.2 n (by omega); omega)) (Ev.pos rfl (ih (n + 1) (by omega)))
theorem sameR_ev (M : List (List G)) (hM : Fit M) : Ev (fun k => footlockerref03_Same.f k (bss M) (bss M)) true :=
 Ev.congr (fun k => footlockerref03_Same.f.eq_1 _ _ _) (Ev.pos rfl (sameR_l0 M hM M.length 0 (Nat.zero_add _)))
end Go.Proofs.Ytanknpdibjfmlaa.Al
namespace Go.Proofs.Ytanknpdibjfmlaa.Al
open Go Go.RowKit Go.Proofs.YtanknpdibjfmlaaW.PrintWords Go.Proofs.YtanknpdibjfmlaaW.PrintMore Go.Proofs.Ytanknpdibjfmlaa.P
set_option linter.unusedVariables false
set_option linter.unusedSimpArgs false
theorem unit_some (n i : Nat) (hi : i < n) (hn : n < 1000000) : linear_unit.f (n : Int) (i : Int) = some (bs (unitv n i)) := by
 unfold linear_unit.f
 rw [if_pos (by omega), if_pos (by omega)]
 simp only [Option.bind_some, Int.toNat_natCast, List.length_replicate]
 rw [if_pos (by omega), if_pos (by omega), bs_replicate]
 exact congrArg some (bs_set _ _ 1)
theorem inverse_a0 (M : List (List G)) (n : Nat) (hM : Fit M) (hn : M.length ≤ n) (hn2 : n < 500000) (d : Nat) : ∀ (i : Nat) (N : List (List G)), i + d = M.length → N.length = M.length → (∀ k, k < M.length → row N k = if k < i then row M k ++ unitv n k else row M k) →
 Ev (fun k => linear_Inverse.a0 k (n : Int) (M.length : Int) (bss N) (i : Int)) (bss (augI M n)) := by
 have h1 := hM.1
 induction d with
 | zero =>
  intro i N hi hN h
  refine Ev.step (fun k => linear_Inverse.a0.eq_2 _ _ _ _ _) (Ev.neg (by omega) ?_)
  have : N = augI M n := ext_row (by rw [hN, augI_length]) (fun k hk => by rw [h k (by omega), if_pos (by omega), row_augI (by omega)])
  rw [this]
  exact Ev.now _
 | succ d ih =>
  intro i N hi hN h
  have hr : row N i = row M i := by rw [h i (by omega), if_neg (Nat.lt_irrefl _)]
  have h2 := hM.2 i (by omega)
  refine Ev.step (fun k => linear_Inverse.a0.eq_2 _ _ _ _ _) (Ev.pos (by omega) (Ev.pos (by omega) (Ev.pos (by rw [bss_length]; omega) ?_)))
  rw [rd_bss, hr, unit_some n i (by omega) (by omega)]
  refine Ev.somef (Ev.pos (by rw [bs_length, bs_length, unitv_length]; omega) ?_)
  rw [← bs_append, Int.toNat_natCast, bss_set, wrap_succ (by omega)]
  refine ih (i + 1) _ (by omega) (by rw [List.length_set]; exact hN) (fun k hk => ?_)
  rw [row_set _ _ _ _ (by omega)]
  by_cases e : k = i
  ·rw [if_pos e, if_pos (by omega), e]
  ·rw [if_neg e, h k hk]
   by_cases e2 : k < i
   ·rw [if_pos e2, if_pos (by omega)]
   ·rw [if_neg e2, if_neg (by omega)]
theorem inverse_b0 (M : List (List G)) (n : Nat) (hM : M.length < 1000000) (hw : Wd M (n + n)) (hn : 0 < n) (hn2 : n < 1000000) (d : Nat) : ∀ (i : Nat) (N : List (List G)), i + d = M.length → N.length = M.length → (∀ k, k < M.length → row N k = if k < i then (row M k).drop n else row M k) →
 Ev (fun k => linear_Inverse.b0 k (n : Int) (M.length : Int) (bss N) (i : Int)) (bss (tabR M.length (fun k => (row M k).drop n))) := by
 induction d with
 | zero =>
  intro i N hi hN h
  refine Ev.step (fun k => linear_Inverse.b0.eq_2 _ _ _ _ _) (Ev.neg (by omega) ?_)
  have : N = tabR M.length (fun k => (row M k).drop n) := ext_row (by rw [hN, tabR_length]) (fun k hk => by rw [h k (by omega), if_pos (by omega), row_tabR _ _ _ (by omega)])
  rw [this]
  exact Ev.now _
 | succ d ih =>
  intro i N hi hN h
  have hr : row N i = row M i := by rw [h i (by omega), if_neg (Nat.lt_irrefl _)]
  have h2 := hw i (by omega)
  refine Ev.step (fun k => linear_Inverse.b0.eq_2 _ _ _ _ _) (Ev.pos (by omega) (Ev.pos (by omega) (Ev.pos (by rw [bss_length]; omega) ?_)))
  rw [rd_bss, hr]
  refine Ev.pos (by rw [bs_length]; omega) ?_
  rw [Int.toNat_natCast, Int.toNat_natCast, bs_drop, bss_set, wrap_succ (by omega)]
  refine ih (i + 1) _ (by omega) (by rw [List.length_set]; exact hN) (fun k hk => ?_)
  rw [row_set _ _ _ _ (by omega)]
  by_cases e : k = i
  ·rw [if_pos e, if_pos (by omega), e]
  ·rw [if_neg e, h k hk]
   by_cases e2 : k < i
   ·rw [if_pos e2, if_pos (by omega)]
   ·rw [if_neg e2, if_neg (by omega)]
theorem inverse_arg (M : List (List G)) (h : ¬ (Rt M ∧ wid M = M.length)) : Ev (fun k => linear_Inverse.f k (bss M)) ([], false) := by
 refine Ev.congr (fun k => linear_Inverse.f.eq_1 _ _) ?_
 rw [right_some]
 refine Ev.somef ?_
 by_cases hr : Rt M
 ·refine Ev.pos (decide_eq_true hr) ?_
  rw [width_some]
  refine Ev.somef (Ev.neg ?_ (Ev.now _))
  rw [bss_length]
  have : wid M ≠ M.length := fun e => h ⟨hr, e⟩
  omega
 ·exact Ev.neg (by simpa using hr) (Ev.now _)
theorem inverse_pre (M : List (List G)) (hM : Fit M) (hr : Rt M) (hq : wid M = M.length) (hn : M.length < 400000) {r : List (List Int) × Bool}
 (h : Ev (fun k => if ((psI (iv M M.length).2).length : Int) < ((bss M).length : Int) then some ([], false) else ((linear_Inverse.b0 k ((bss M).length : Int) ((bss (iv M M.length).1).length : Int) (bss (iv M M.length).1) 0).bind fun x3 => some (x3, true))) r) : Ev (fun k => linear_Inverse.f k (bss M)) r := by
 have hw : Wd M M.length := by rw [← hq]; exact hr
 refine Ev.congr (fun k => linear_Inverse.f.eq_1 _ _) ?_
 rw [right_some]
 refine Ev.somef (Ev.pos (decide_eq_true hr) ?_)
 rw [width_some]
 refine Ev.somef (Ev.pos (by rw [bss_length, hq]) (Ev.bind (clone_ev M hM) ?_))
 have ha := inverse_a0 M M.length hM (Nat.le_refl _) (by omega) M.length 0 M (Nat.zero_add _) rfl (fun k hk => by rw [if_neg (Nat.not_lt_zero _)])
 refine Ev.bind (a := bss (augI M M.length)) (by rw [bss_length]; exact ha) ?_
 have hwa : Wd (augI M M.length) (M.length + M.length) := augI_width hw
 have hc : Rt (augI M M.length) ∧ min M.length (wid (augI M M.length)) = M.length := by
  by_cases e : 0 < M.length
  ·have h0 : wid (augI M M.length) = M.length + M.length := hwa 0 (by rw [augI_length]; exact e)
   exact ⟨by unfold Rt; rw [h0]; exact hwa, by omega⟩
  ·exact ⟨fun i hi => by rw [augI_length] at hi; omega, by omega⟩
 have he := reduce_ev (augI M M.length) (M.length : Int) (Fit.of (by rw [augI_length]; omega) hwa (by omega)) hc.1
 rw [cols_nat, hc.2] at he
 refine Ev.bind (by rw [bss_length]; exact he) ?_
 exact h
theorem inverse_no (M : List (List G)) (hM : Fit M) (hr : Rt M) (hq : wid M = M.length) (hn : M.length < 400000) (hf : (iv M M.length).2.length ≠ M.length) : Ev (fun k => linear_Inverse.f k (bss M)) ([], false) := by
 refine inverse_pre M hM hr hq hn (Ev.pos ?_ (Ev.now _))
 have hle := (reduce_RF (augI M M.length) M.length).le
 have : (iv M M.length).2.length ≤ M.length := hle
 rw [psI_length, bss_length]
 omega
theorem inverse_yes (M : List (List G)) (hM : Fit M) (hr : Rt M) (hq : wid M = M.length) (hn : M.length < 400000) (hf : (iv M M.length).2.length = M.length) : Ev (fun k => linear_Inverse.f k (bss M)) (bss (ivB M M.length), true) := by
 have hw : Wd M M.length := by rw [← hq]; exact hr
 have hl := iv_length M M.length
 refine inverse_pre M hM hr hq hn (Ev.neg (by rw [psI_length, bss_length]; omega) ?_)
 rw [bss_length, bss_length]
 by_cases e : 0 < M.length
 ·exact Ev.bind (inverse_b0 (iv M M.length).1 M.length (by omega) (reduce_width _ (augI_width hw)) e (by omega) _ 0 _ (Nat.zero_add _) rfl (fun k hk => by rw [if_neg (Nat.not_lt_zero _)])) (Ev.now _)
 ·refine Ev.bind (a := bss (ivB M M.length)) (Ev.step (fun k => linear_Inverse.b0.eq_2 _ _ _ _ _) (Ev.neg (by omega) ?_)) (Ev.now _)
  have e1 : (iv M M.length).1 = [] := List.eq_nil_of_length_eq_zero (by omega)
  have e2 : ivB M M.length = [] := List.eq_nil_of_length_eq_zero (by rw [ivB_length]; omega)
  rw [e1, e2]
  exact Ev.now _
end Go.Proofs.Ytanknpdibjfmlaa.Al
namespace Go.Proofs.Ytanknpdibjfmlaa.Al
open Go Go.RowKit Go.Proofs.YtanknpdibjfmlaaW.PrintWords Go.Proofs.YtanknpdibjfmlaaW.PrintMore Go.Proofs.Ytanknpdibjfmlaa.P
set_option linter.unusedVariables false
set_option linter.unusedSimpArgs false
theorem alive_ev : Ev (fun k => footlockerlaw03_alive.f k) true :=
 Ev.of (fun k => footlockerlaw03_alive.mono k) (k := 60) (by decide +kernel)
def Few (M : List (List G)) : Prop := M.length ≤ 20 ∧ ∀ i, i < M.length → (row M i).length ≤ 20
theorem Few.fit {M : List (List G)} (h : Few M) : Fit M := ⟨by have := h.1; omega, fun i hi => by have := h.2 i hi; omega⟩
theorem Few.wid {M : List (List G)} (h : Few M) : wid M ≤ 20 := by
 unfold Al.wid
 by_cases e : 0 < M.length
 ·exact h.2 0 e
 ·rw [row_ge (by omega)]; decide
theorem small_l0 (M : List (List G)) (hM : M.length ≤ 9223372036854775807) (d : Nat) : ∀ n : Nat, n + d = M.length → (∀ i, i < n → (row M i).length ≤ 20) → ∃ b, Ev (fun k => footlockerlaw03_small.l0 k (bss M) (bss M) (M.length : Int) (n : Int)) b ∧ (b = true → Few M) := by
 induction d with
 | zero =>
  intro n hn h
  refine ⟨decide ((M.length : Int) ≤ 20), Ev.step (fun k => footlockerlaw03_small.l0.eq_2 _ _ _ _ _) (Ev.neg (by omega) ?_), fun hb => ⟨by have := of_decide_eq_true hb; omega, fun i hi => h i (by omega)⟩⟩
  rw [bss_length]
  exact Ev.now _
 | succ d ih =>
  intro n hn h
  by_cases e : (row M n).length > 20
  ·refine ⟨false, Ev.step (fun k => footlockerlaw03_small.l0.eq_2 _ _ _ _ _) (Ev.pos (by omega) (Ev.pos (by omega) (Ev.pos (by rw [bss_length]; omega) ?_))), fun hb => by cases hb⟩
   rw [rd_bss]
   exact Ev.pos (by rw [bs_length]; omega) (Ev.now _)
  ·obtain ⟨b, h1, h2⟩ := ih (n + 1) (by omega) (fun i hi => by
    by_cases e2 : i = n
    ·rw [e2]; omega
    ·exact h i (by omega))
   refine ⟨b, Ev.step (fun k => footlockerlaw03_small.l0.eq_2 _ _ _ _ _) (Ev.pos (by omega) (Ev.pos (by omega) (Ev.pos (by rw [bss_length]; omega) ?_))), h2⟩
   have hw : wrap64 ((n : Int) + 1) = ((n + 1 : Nat) : Int) := by rw [Al.wrap_sm (by omega) (by omega)]; omega
   rw [rd_bss, hw]
   exact Ev.neg (by rw [bs_length]; omega) h1
theorem small_ev (M : List (List G)) (hM : M.length ≤ 9223372036854775807) : ∃ b, Ev (fun k => footlockerlaw03_small.f k (bss M)) b ∧ (b = true → Few M) := by
 obtain ⟨b, h1, h2⟩ := small_l0 M hM M.length 0 (Nat.zero_add _) (fun i hi => by omega)
 refine ⟨b, Ev.congr (fun k => footlockerlaw03_small.f.eq_1 _ _) ?_, h2⟩
 rw [bss_length]
 exact h1
theorem len_in {n : Nat} (h : n ≤ maxLen) : n ≤ 9223372036854775807 := by
 unfold maxLen at h
 omega
end Go.Proofs.Ytanknpdibjfmlaa.Al
namespace Go.Proofs.Ytanknpdibjfmlaa.Pure
open Go Go.RowKit Go.Proofs.YtanknpdibjfmlaaW.PrintWords Go.Proofs.YtanknpdibjfmlaaW.PrintMore Go.Proofs.Ytanknpdibjfmlaa.P Go.Proofs.Ytanknpdibjfmlaa.Al
set_option linter.unusedVariables false
set_option linter.unusedSimpArgs false
theorem inverse_l0 (M : List (List G)) (hF : Few M) (hr : Rt M) (hq : wid M = M.length) (hf : (iv M M.length).2.length = M.length) (d : Nat) : ∀ i : Nat, i + d = M.length →
 Ev (fun k => footlockerlaw03_LinearInverse.l0 k (bss M) (bss (ivB M M.length)) (M.length : Int) (M.length : Int) (i : Int)) true := by
 have hM := hF.fit
 have h1 := hF.1
 have hw : Wd M M.length := by rw [← hq]; exact hr
 have hBl := ivB_length M M.length
 have hBw : Wd (ivB M M.length) M.length := ivB_width hw
 have hBF : Fit (ivB M M.length) := Fit.of (by omega) hBw (by omega)
 have hl : ∀ (N : List (List G)) y, N.length = M.length → (bs (tms N y)).length < 1000000000000 := fun N y e => by rw [bs_length, tms_length]; omega
 induction d with
 | zero =>
  intro i hi
  have hBq : wid (ivB M M.length) = (ivB M M.length).length := by
   rw [hBl]
   by_cases e : 0 < M.length
   ·exact hBw 0 (by omega)
   ·unfold wid
    rw [row_ge (by omega), List.length_nil]
    omega
  have hBr : Rt (ivB M M.length) := by unfold Rt; rw [hBq, hBl]; exact hBw
  have h2 := inverse_yes (ivB M M.length) hBF hBr hBq (by omega) (by rw [hBl]; exact inv_full hw rfl hf)
  rw [hBl, inv_inv hw rfl hf] at h2
  exact Ev.step (fun k => footlockerlaw03_LinearInverse.l0.eq_2 _ _ _ _ _ _) (Ev.neg (by omega) (Ev.bind h2 (Ev.pos rfl (Ev.bind (sameR_ev M hM) (Ev.now _)))))
 | succ d ih =>
  intro i hi
  have hu := unitv_length M.length i
  refine Ev.step (fun k => footlockerlaw03_LinearInverse.l0.eq_2 _ _ _ _ _ _) (Ev.pos (by omega) (Ev.pos (by omega) (Ev.pos (by omega) (Ev.somef ?_))))
  refine Ev.pos (by omega) (Ev.pos (by rw [List.length_replicate]; omega) (Ev.somef ?_))
  have e : (List.replicate ((M.length : Int)).toNat (0 : Int)).set ((i : Int)).toNat 1 = bs (unitv M.length i) := by
   rw [Int.toNat_natCast, Int.toNat_natCast, bs_replicate]
   exact bs_set _ _ 1
  rw [e, wrap_succ (by omega)]
  refine Ev.bind (times_ev _ _ hBF) (Ev.bind (times_ev _ _ hM) (Ev.bind (same_true (by rw [inv_right hw rfl hf hu]) (hl _ _ rfl)) (Ev.pos rfl ?_)))
  exact Ev.bind (times_ev _ _ hM) (Ev.bind (times_ev _ _ hBF) (Ev.bind (same_true (by rw [inv_left hw rfl hf hu]) (hl _ _ hBl)) (Ev.pos rfl (ih (i + 1) (by omega)))))
theorem inverse_j2 (M N : List (List G)) (x : Int) : Ev (fun k => footlockerlaw03_LinearInverse.j2 k (bss M) [] false x false) true :=
 Ev.step (fun k => footlockerlaw03_LinearInverse.j2.eq_2 _ _ _ _ _ _) (Ev.neg (by simp) (Ev.neg (by simp) (Ev.now _)))
theorem inverse_j0 (M : List (List G)) (hF : Few M) : Ev (fun k => footlockerlaw03_LinearInverse.j0 k (bss M) false) true := by
 have hM := hF.fit
 have h1 := hF.1
 refine Ev.step (fun k => footlockerlaw03_LinearInverse.j0.eq_2 _ _ _) (Ev.neg (by simp) ?_)
 by_cases hc : Rt M ∧ wid M = M.length
 ·obtain ⟨hr, hq⟩ := hc
  have hw : Wd M M.length := by rw [← hq]; exact hr
  have hrank := rank_ev M hM hr
  rw [hq, ← iv_pivots hw] at hrank
  have key : ∀ (r : List (List Int) × Bool), Ev (fun k => linear_Inverse.f k (bss M)) r → Ev (fun k => footlockerlaw03_LinearInverse.j2 k (bss M) r.1 r.2 (M.length : Int) (r.2 != (((iv M M.length).2.length : Int) == (M.length : Int)))) true →
   Ev (fun k => (linear_Inverse.f k (bss M)).bind fun bt372 => ((footlockerref03_Right.f k (bss M)).bind fun t376 => (if t376 = true then (if ((bss M).length : Int) = 0 then (footlockerlaw03_LinearInverse.j1 k (bss M) bt372.1 bt372.2 ((bss M).length : Int) true) else (if 0 < ((bss M).length : Int) then (footlockerlaw03_LinearInverse.j1 k (bss M) bt372.1 bt372.2 ((bss M).length : Int) (((rd_L1 (bss M) 0).length : Int) == ((bss M).length : Int))) else (none))) else (footlockerlaw03_LinearInverse.j1 k (bss M) bt372.1 bt372.2 ((bss M).length : Int) false)))) true := by
   intro r h2 h3
   refine Ev.bind h2 (Ev.bind (refright_ev M hM.1) (Ev.pos (decide_eq_true hr) ?_))
   have hj : Ev (fun k => footlockerlaw03_LinearInverse.j1 k (bss M) r.1 r.2 (M.length : Int) true) true :=
    Ev.step (fun k => footlockerlaw03_LinearInverse.j1.eq_2 _ _ _ _ _ _) (Ev.pos rfl (Ev.bind hrank h3))
   rw [bss_length, rd_bss0, bs_length]
   by_cases h0 : (M.length : Int) = 0
   ·exact Ev.pos h0 hj
   ·refine Ev.neg h0 (Ev.pos (by omega) ?_)
    rw [show (((row M 0).length : Int) == (M.length : Int)) = true by unfold wid at hq; simp [hq]]
    exact hj
  by_cases hf : (iv M M.length).2.length = M.length
  ·refine key _ (inverse_yes M hM hr hq (by omega) hf) ?_
   rw [show (true != (((iv M M.length).2.length : Int) == (M.length : Int))) = false by simp [hf]]
   exact Ev.step (fun k => footlockerlaw03_LinearInverse.j2.eq_2 _ _ _ _ _ _) (Ev.neg (by simp) (Ev.pos rfl (inverse_l0 M hF hr hq hf M.length 0 (Nat.zero_add _))))
  ·refine key _ (inverse_no M hM hr hq (by omega) hf) ?_
   rw [show (false != (((iv M M.length).2.length : Int) == (M.length : Int))) = false by
    simp
    omega]
   exact inverse_j2 M M _
 ·refine Ev.bind (inverse_arg M hc) (Ev.bind (refright_ev M hM.1) ?_)
  have hj : Ev (fun k => footlockerlaw03_LinearInverse.j1 k (bss M) [] false ((bss M).length : Int) false) true :=
   Ev.step (fun k => footlockerlaw03_LinearInverse.j1.eq_2 _ _ _ _ _ _) (Ev.neg (by simp) (inverse_j2 M M _))
  by_cases hr : Rt M
  ·refine Ev.pos (decide_eq_true hr) ?_
   have hq : wid M ≠ M.length := fun e => hc ⟨hr, e⟩
   have h0 : M.length ≠ 0 := fun e => hq (by rw [wid, row_ge (by omega), e]; rfl)
   refine Ev.neg (by rw [bss_length]; omega) (Ev.pos (by rw [bss_length]; omega) ?_)
   rw [show (((rd_L1 (bss M) 0).length : Int) == ((bss M).length : Int)) = false by
    rw [rd_bss0, bs_length, bss_length]
    unfold wid at hq
    simp
    omega]
   exact hj
  ·exact Ev.neg (by simpa using hr) hj
theorem LinearInverse : footlockerlaw03_LinearInverse.Pure := by
 rintro l0 ⟨hl, h0⟩
 obtain ⟨M, rfl⟩ := rows_in l0 (fun y hy => (h0 y hy).2)
 apply Ev.rounds
 obtain ⟨b, hs, hb⟩ := small_ev M (len_in (by rw [bss_length] at hl; exact hl))
 have big : Ev (fun k => footlockerlaw03_LinearInverse.j0 k (bss M) true) true := Ev.step (fun k => footlockerlaw03_LinearInverse.j0.eq_2 _ _ _) (Ev.pos rfl (Ev.now _))
 refine Ev.congr (fun k => footlockerlaw03_LinearInverse.f.eq_1 _ _) (Ev.bind alive_ev (Ev.pos rfl (Ev.bind hs ?_)))
 cases b with
 | false => exact Ev.neg (by simp) big
 | true =>
  refine Ev.pos rfl ?_
  cases decide (((bss M).length : Int) > 12) with
  | true => exact big
  | false => exact inverse_j0 M (hb rfl)
end Go.Proofs.Ytanknpdibjfmlaa.Pure
namespace Go.Proofs.Ytanknpdibjfmlaa.Q
open Go Go.RowKit Go.ChangeShapes Go.WideShapes Go.Proofs.YtanknpdibjfmlaaW.PrintWords
set_option linter.unusedVariables false
set_option linter.unusedSimpArgs false
def Opens {H : Type} (enc : TypeId × Value → H) (P : Program) (W : World) (base : Nat) (t : TypeId) {α : Type} (d : Kd α) (wf : α → Prop) : Prop :=
 ∀ (spare : Nat → Bool) (held : Bool) (fuel : Nat) (cs : List Value) (x : DataW H × List MemPlace), DataW.trod enc P W base spare held fuel t cs = some x → ∃ v : α, d.K W v cs ∧ wf v
section
variable {H : Type} {enc : TypeId × Value → H} {P : Program} {W : World} {base : Nat}
theorem opens_int {t : TypeId} {k : IntKind} (ht : P.underlying t = some (.int k)) : Opens enc P W base t (Kd.int k) (fun n => (Lit.int k n).wf = true) := by
 intro spare held fuel cs x h
 obtain ⟨n, rfl, _, hw⟩ := DataW.trod_int ht h
 exact ⟨n, rfl, hw⟩
theorem mapM_get {β γ : Type} {f : β → Option γ} : ∀ {l : List β} {cs : List γ}, l.mapM f = some cs → cs.length = l.length ∧ ∀ (i : Nat) (b : β), l[i]? = some b → f b = cs[i]? := by
 intro l
 induction l with
 | nil =>
  intro cs h
  simp at h
  subst h
  exact ⟨rfl, fun i b hb => by simp at hb⟩
 | cons a l ih =>
  intro cs h
  rw [List.mapM_cons] at h
  cases hf : f a with
  | none => simp [hf] at h
  | some y =>
   cases hm : l.mapM f with
   | none => simp [hf, hm] at h
   | some ys =>
    simp [hf, hm] at h
    subst h
    obtain ⟨h1, h2⟩ := ih hm
    refine ⟨by simp [h1], fun i b hb => ?_⟩
    cases i with
    | zero =>
     simp at hb
     subst hb
     simpa using hf
    | succ i =>
     simp at hb
     simpa using h2 i b hb
theorem cells_of {a : Addr} {n : Nat} {cs : List Value} (h : W.cells? base a n = some cs) : cs.length = n ∧ ∀ (i : Nat) (u : Value), cs[i]? = some u → W.cell? (a.add i) = some u := by
 unfold World.cells? at h
 split at h
 ·obtain ⟨h1, h2⟩ := mapM_get h
  rw [List.length_range] at h1
  refine ⟨h1, fun i u hu => ?_⟩
  have hi : i < n := by
   have := (List.getElem?_eq_some_iff.1 hu).1
   omega
  rw [h2 i i (by rw [List.getElem?_range hi]), hu]
 ·cases h
theorem opens_slice {t e : TypeId} {α : Type} {d : Kd α} {wf : α → Prop} (ht : P.underlying t = some (.slice e)) (hc : P.cellsOf e = d.sz) (hm : maxLen ≤ 9223372036854775807) (ho : Opens enc P W base e d wf) [Inhabited α] :
 Opens enc P W base t (Kd.slice e d) (fun xs => xs.length ≤ maxLen ∧ ∀ x ∈ xs, wf x) := by
 intro spare held fuel cs x h
 rcases Deep.open_slice ht h with ⟨rfl, _⟩ | ⟨a, len, cap, m, n, D, Pl, rfl, hb, hl, hcm, hmm, rfl, hx⟩
 ·exact ⟨[], ⟨none, 0, rfl, Nat.le_refl _, rfl, Nat.zero_le _, fun h => absurd h (by simp)⟩, Nat.zero_le _, fun x hx => by simp at hx⟩
 ·have hlm : len ≤ m := by rw [hmm]; split <;> omega
  obtain ⟨F, hF⟩ := Deep.choose_lt (α := α) (n := len) (p := fun i v => ∃ cs', d.K W v cs' ∧ cs'.length = d.sz ∧ (∀ j u, cs'[j]? = some u → W.cell? (a.add (i * d.sz + j)) = some u) ∧ wf v) (fun i hi => by
   obtain ⟨cs', h1, h2⟩ := hx i (by omega)
   obtain ⟨v, hv, hw⟩ := ho spare held n cs' _ h2
   rw [hc] at h1
   obtain ⟨h3, h4⟩ := cells_of h1
   refine ⟨v, cs', hv, h3, fun j u hu => ?_, hw⟩
   have := h4 j u hu
   rwa [Deep.add_add] at this)
  refine ⟨(List.range len).map F, ⟨some a, cap, by simp, by simpa using hl, by simp, by simp; omega, fun _ => ⟨a, rfl, fun j p hj => ?_⟩⟩, by simp; omega, fun x hx => ?_⟩
  ·have hjl : j < len := by
    have := (List.getElem?_eq_some_iff.1 hj).1
    simpa using this
   rw [List.getElem?_map, List.getElem?_range hjl] at hj
   simp at hj
   subst hj
   obtain ⟨cs', h1, h2, h3, _⟩ := hF j hjl
   exact ⟨cs', h2, h1, h3⟩
  ·rw [List.mem_map] at hx
   obtain ⟨i, hi, rfl⟩ := hx
   obtain ⟨_, _, _, _, hw⟩ := hF i (List.mem_range.1 hi)
   exact hw
theorem slice_arg {e : TypeId} {α : Type} {d : Kd α} {xs : List α} {a : Option Addr} {len cap : Nat} (h : (Kd.slice e d).K W xs (Value.cells (.slice a len cap)).toList) : len = xs.length ∧ xs.length ≤ cap ∧ d.C W a xs.length xs := by
 obtain ⟨A, c, hcs, hl, hC⟩ := h
 simp [Value.cells] at hcs
 obtain ⟨rfl, rfl, rfl⟩ := hcs
 exact ⟨rfl, hl, hC⟩
end
end Go.Proofs.Ytanknpdibjfmlaa.Q
