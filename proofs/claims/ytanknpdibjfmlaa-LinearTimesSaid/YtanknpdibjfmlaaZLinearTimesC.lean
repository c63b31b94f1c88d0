/- What the statement's proof uses: lemmas, and the program's functions as Lean functions; each theorem states its own conditions. Joined by a program. -/
import Derived.Test.YtanknpdibjfmlaaZLinearTimesB
namespace Go.Proofs.Ytanknpdibjfmlaa.P
open Go.RowKit Go.Proofs.YtanknpdibjfmlaaW.PrintWords Go.Proofs.YtanknpdibjfmlaaW.PrintLast Go.Proofs.YtanknpdibjfmlaaW.PrintMore
set_option linter.unusedVariables false
set_option linter.unusedSimpArgs false
set_option maxHeartbeats 8000000 in
set_option maxRecDepth 100000 in
theorem footlockerlaw03_LinearTimes.calls (k : Nat) (A0 : Option Addr) (c0 : Nat) (l0 : List (List Int)) (A1 : Option Addr) (c1 : Nat) (l1 : List Int) (A2 : Option Addr) (c2 : Nat) (l2 : List Int) (r : Bool) (w : World) (hr0 : Kd.C (Kd.slice 5 (Kd.int .u8)) w A0 l0.length l0) (hc0 : l0.length ≤ c0) (hr1 : Kd.C (Kd.int .u8) w A1 l1.length l1) (hc1 : l1.length ≤ c1) (hr2 : Kd.C (Kd.int .u8) w A2 l2.length l2) (hc2 : l2.length ≤ c2) (h : footlockerlaw03_LinearTimes.f k l0 l1 l2 = some r) :
 Calls Try.prog 8 #[.slice A0 l0.length c0, .slice A1 l1.length c1, .slice A2 l2.length c2] w fun e w' => e = .returned (.bool r) ∧ Below w.heap.size w w' := by
 have HR0 := Aside0.mk hr0
 have HC0 := Aside0.mk hc0
 clear hr0 hc0
 have HR1 := Aside0.mk hr1
 have HC1 := Aside0.mk hc1
 clear hr1 hc1
 have HR2 := Aside0.mk hr2
 have HC2 := Aside0.mk hc2
 clear hr2 hc2
 have HB := Aside0.mk (Below.refl w.heap.size w)
 have H : ((footlockerlaw03_alive.f k).bind fun t440 => (if t440 = true then ((footlockerlaw03_small.f k l0).bind fun t441 => (if t441 = true then ((footlockerref03_Right.f k l0).bind fun t442 => (if t442 = true then (if (l0.length : Int) = 0 then (footlockerlaw03_LinearTimes.j0 k l0 l1 l2 true) else (if 0 < (l0.length : Int) then (if (l1.length : Int) = ((rd_L1 l0 0).length : Int) then (footlockerlaw03_LinearTimes.j0 k l0 l1 l2 ((l2.length : Int) != (l1.length : Int))) else (footlockerlaw03_LinearTimes.j0 k l0 l1 l2 true)) else (none))) else (footlockerlaw03_LinearTimes.j0 k l0 l1 l2 true))) else (footlockerlaw03_LinearTimes.j0 k l0 l1 l2 true))) else (some false))) = some r := h
 clear h
 replace H := Option.bind_eq_some_iff.mp H
 obtain ⟨t440, A40, H⟩ := H
 replace H : (if t440 = true then ((footlockerlaw03_small.f k l0).bind fun t441 => (if t441 = true then ((footlockerref03_Right.f k l0).bind fun t442 => (if t442 = true then (if (l0.length : Int) = 0 then (footlockerlaw03_LinearTimes.j0 k l0 l1 l2 true) else (if 0 < (l0.length : Int) then (if (l1.length : Int) = ((rd_L1 l0 0).length : Int) then (footlockerlaw03_LinearTimes.j0 k l0 l1 l2 ((l2.length : Int) != (l1.length : Int))) else (footlockerlaw03_LinearTimes.j0 k l0 l1 l2 true)) else (none))) else (footlockerlaw03_LinearTimes.j0 k l0 l1 l2 true))) else (footlockerlaw03_LinearTimes.j0 k l0 l1 l2 true))) else (some false)) = some r := H
 have A4 := Aside0.mk A40
 clear A40
 by_cases c5 : t440 = true
 ·subst c5
  have H1 : ((footlockerlaw03_small.f k l0).bind fun t441 => (if t441 = true then ((footlockerref03_Right.f k l0).bind fun t442 => (if t442 = true then (if (l0.length : Int) = 0 then (footlockerlaw03_LinearTimes.j0 k l0 l1 l2 true) else (if 0 < (l0.length : Int) then (if (l1.length : Int) = ((rd_L1 l0 0).length : Int) then (footlockerlaw03_LinearTimes.j0 k l0 l1 l2 ((l2.length : Int) != (l1.length : Int))) else (footlockerlaw03_LinearTimes.j0 k l0 l1 l2 true)) else (none))) else (footlockerlaw03_LinearTimes.j0 k l0 l1 l2 true))) else (footlockerlaw03_LinearTimes.j0 k l0 l1 l2 true))) = some r := by rw [if_pos rfl] at H; exact H
  clear H
  have H := H1
  clear H1
  have HC6 := Aside0.mk H
  clear H
  go_enter Try.func8, Try.ntmps8
  go_upto_region 3 with (first | ((with_reducible refine gate_callee (f := 9) rfl ?_); refine goesL_ (some 16) rfl rfl Try.func9 (by kernel_rfl) rfl #[] rfl (by (try simp only [List.map_toArray, List.map_cons, List.map_nil]); first | done | rfl | (simp only [List.length_drop, List.length_take]; rfl)) ?_; (with_reducible refine (footlockerlaw03_alive.calls k  true _ A4.out).mono ?_); rintro e w7 ⟨rfl, hb⟩; refine ⟨_, rfl, ?_⟩; have n0_ := Aside0.mk (below_step (by repeat (first | (with_reducible first | exact HB.out | apply below_alloc | apply pw_below_drewN | apply below_drew1) | exact HB.out)) hb); clear HB; have HB := n0_; clear n0_; (try clear hb); (try clear hb2); (try clear hk); (try clear hi)))
  (try simp only [Act.put, List.setIfInBounds_toArray, List.set_cons_zero, List.set_cons_succ])
  go_cut [46] (fun v46 wc => ∃ (kq : Nat) (x46_5 : Bool), v46 = .bool x46_5 ∧ Aside0 (footlockerlaw03_LinearTimes.j0 kq l0 l1 l2 x46_5 = some r) ∧ Aside0 (kq ≤ k) ∧ Aside0 (Below w.heap.size w wc))
  case first =>
   have H := HC6.out
   clear HC6
   replace H := Option.bind_eq_some_iff.mp H
   obtain ⟨t441, A80, H⟩ := H
   replace H : (if t441 = true then ((footlockerref03_Right.f k l0).bind fun t442 => (if t442 = true then (if (l0.length : Int) = 0 then (footlockerlaw03_LinearTimes.j0 k l0 l1 l2 true) else (if 0 < (l0.length : Int) then (if (l1.length : Int) = ((rd_L1 l0 0).length : Int) then (footlockerlaw03_LinearTimes.j0 k l0 l1 l2 ((l2.length : Int) != (l1.length : Int))) else (footlockerlaw03_LinearTimes.j0 k l0 l1 l2 true)) else (none))) else (footlockerlaw03_LinearTimes.j0 k l0 l1 l2 true))) else (footlockerlaw03_LinearTimes.j0 k l0 l1 l2 true)) = some r := H
   have A8 := Aside0.mk A80
   clear A80
   by_cases c9 : t441 = true
   ·as_aux_lemma =>
     subst c9
     have H1 : ((footlockerref03_Right.f k l0).bind fun t442 => (if t442 = true then (if (l0.length : Int) = 0 then (footlockerlaw03_LinearTimes.j0 k l0 l1 l2 true) else (if 0 < (l0.length : Int) then (if (l1.length : Int) = ((rd_L1 l0 0).length : Int) then (footlockerlaw03_LinearTimes.j0 k l0 l1 l2 ((l2.length : Int) != (l1.length : Int))) else (footlockerlaw03_LinearTimes.j0 k l0 l1 l2 true)) else (none))) else (footlockerlaw03_LinearTimes.j0 k l0 l1 l2 true))) = some r := by rw [if_pos rfl] at H; exact H
     clear H
     have H := H1
     clear H1
     replace H := Option.bind_eq_some_iff.mp H
     obtain ⟨t442, A100, H⟩ := H
     replace H : (if t442 = true then (if (l0.length : Int) = 0 then (footlockerlaw03_LinearTimes.j0 k l0 l1 l2 true) else (if 0 < (l0.length : Int) then (if (l1.length : Int) = ((rd_L1 l0 0).length : Int) then (footlockerlaw03_LinearTimes.j0 k l0 l1 l2 ((l2.length : Int) != (l1.length : Int))) else (footlockerlaw03_LinearTimes.j0 k l0 l1 l2 true)) else (none))) else (footlockerlaw03_LinearTimes.j0 k l0 l1 l2 true)) = some r := H
     have A10 := Aside0.mk A100
     clear A100
     by_cases c11 : t442 = true
     ·subst c11
      have H1 : (if (l0.length : Int) = 0 then (footlockerlaw03_LinearTimes.j0 k l0 l1 l2 true) else (if 0 < (l0.length : Int) then (if (l1.length : Int) = ((rd_L1 l0 0).length : Int) then (footlockerlaw03_LinearTimes.j0 k l0 l1 l2 ((l2.length : Int) != (l1.length : Int))) else (footlockerlaw03_LinearTimes.j0 k l0 l1 l2 true)) else (none))) = some r := by rw [if_pos rfl] at H; exact H
      clear H
      have H := H1
      clear H1
      by_cases c12 : (l0.length : Int) = 0
      ·rw [if_pos c12] at H
       have c12b0 : ((l0.length : Int) == 0) = true := beq_iff_eq.mpr c12
       have c12b1 : ((l0.length : Int) != 0) = false := bne_eq_false_iff_eq.mpr c12
       clear c12
       (first | rw [c12b0] | (simp only [i64_w, i32_w]; rw [c12b0]) | skip)
       have H' := Aside0.mk H
       clear H
       go_wp2_with (first | ((with_reducible refine gate_callee (f := 10) rfl ?_); refine goesL_ (some 19) rfl rfl Try.func10 (by kernel_rfl) rfl #[.slice A0 l0.length c0] rfl (by (try simp only [List.map_toArray, List.map_cons, List.map_nil]); first | done | rfl | (simp only [List.length_drop, List.length_take]; rfl)) ?_; (with_reducible refine (footlockerlaw03_small.calls k _ _ l0 true _ ?side1 ?side2 A8.out).mono ?_); (case side1 => repeat (first | exact (Kd.C_below HR0.out HB.out) | (with_reducible refine Kd.C_alloc ?_ _) | (with_reducible refine Kd.C_drewN ?_ _) | (with_reducible refine Kd.C_drew ?_))); (case side2 => exact HC0.out); rintro e w' ⟨rfl, ⟨nd, rfl⟩⟩; refine ⟨_, rfl, ?_⟩) | (go_at_call 14; (with_reducible refine (footlockerref03_Right.calls k _ _ l0 true _ ?side1 ?side2 A10.out).mono ?_); (case side1 => repeat (first | exact (Kd.C_below HR0.out (by repeat (first | (with_reducible first | exact HB.out | apply below_alloc | apply pw_below_drewN | apply below_drew1) | exact HB.out))) | (with_reducible refine Kd.C_alloc ?_ _) | (with_reducible refine Kd.C_drewN ?_ _) | (with_reducible refine Kd.C_drew ?_))); (case side2 => exact HC0.out); rintro e w' ⟨rfl, ⟨nd, rfl⟩⟩))
       go_meet
       case rel => exact ⟨_, (true), (by first | rfl | (simp; done) | (simp [*]; done)), H', ⟨by first | omega | exact Nat.le_refl _⟩, ⟨by repeat (first | (with_reducible first | exact HB.out | apply below_alloc | apply pw_below_drewN | apply below_drew1) | exact HB.out)⟩⟩
      ·rw [if_neg c12] at H
       have c12b0 : ((l0.length : Int) == 0) = false := beq_eq_false_iff_ne.mpr c12
       have c12b1 : ((l0.length : Int) != 0) = true := bne_iff_ne.mpr c12
       have c12b2 : ¬ (l0 = []) := fun h_ => c12 (by rw [h_]; rfl)
       (first | rw [c12b0] | (simp only [i64_w, i32_w]; rw [c12b0]) | skip)
       by_cases c13 : 0 < (l0.length : Int)
       ·rw [if_pos c13] at H
        have c13b0 : decide (0 < (l0.length : Int)) = true := decide_eq_true c13
        have c13b1 : decide (0 < l0.length) = true := decide_eq_true (by omega)
        clear c13
        by_cases c14 : (l1.length : Int) = ((rd_L1 l0 0).length : Int)
        ·rw [if_pos c14] at H
         have c14b0 : ((l1.length : Int) == ((rd_L1 l0 0).length : Int)) = true := beq_iff_eq.mpr c14
         have c14b1 : ((l1.length : Int) != ((rd_L1 l0 0).length : Int)) = false := bne_eq_false_iff_eq.mpr c14
         have c14b2 : (l1.length == (rd_L1 l0 0).length) = true := by first | simpa using c14 | (simp at c14 ⊢; omega)
         clear c14
         have H' := Aside0.mk H
         clear H
         go_wp2_with (first | ((with_reducible refine gate_callee (f := 10) rfl ?_); refine goesL_ (some 19) rfl rfl Try.func10 (by kernel_rfl) rfl #[.slice A0 l0.length c0] rfl (by (try simp only [List.map_toArray, List.map_cons, List.map_nil]); first | done | rfl | (simp only [List.length_drop, List.length_take]; rfl)) ?_; (with_reducible refine (footlockerlaw03_small.calls k _ _ l0 true _ ?side1 ?side2 A8.out).mono ?_); (case side1 => repeat (first | exact (Kd.C_below HR0.out HB.out) | (with_reducible refine Kd.C_alloc ?_ _) | (with_reducible refine Kd.C_drewN ?_ _) | (with_reducible refine Kd.C_drew ?_))); (case side2 => exact HC0.out); rintro e w' ⟨rfl, ⟨nd, rfl⟩⟩; refine ⟨_, rfl, ?_⟩) | (go_at_call 14; (with_reducible refine (footlockerref03_Right.calls k _ _ l0 true _ ?side1 ?side2 A10.out).mono ?_); (case side1 => repeat (first | exact (Kd.C_below HR0.out (by repeat (first | (with_reducible first | exact HB.out | apply below_alloc | apply pw_below_drewN | apply below_drew1) | exact HB.out))) | (with_reducible refine Kd.C_alloc ?_ _) | (with_reducible refine Kd.C_drewN ?_ _) | (with_reducible refine Kd.C_drew ?_))); (case side2 => exact HC0.out); rintro e w' ⟨rfl, ⟨nd, rfl⟩⟩; have p443 : 0 ≤ (0 : Int) := (by omega); have q443 : 0 < (l0.length : Int) := of_decide_eq_true (by first | (with_reducible assumption) | assumption); obtain ⟨ad443, A443_0, c443_0, e443, hx443_0, hl443_0, hi443_0⟩ := at_L1 HR0.out 0 p443 q443; cases e443; have qi443 : (0 < l0.length) = True := eq_true (by omega); (try rw [show ((0 : Int)).toNat = 0 from rfl] at hx443_0); (try rw [Addr.add_zero'] at hx443_0); replace hx443_0 := (HB.out.cell (World.block_lt_of_cell? w _ hx443_0)).trans hx443_0; have HR443_0 := Aside0.mk hi443_0; have HC443_0 := Aside0.mk hl443_0; clear hi443_0 hl443_0; replace p443 := eq_true p443; replace q443 := eq_true q443))
         go_meet
         case rel => exact ⟨_, (((l2.length : Int) != (l1.length : Int))), (by first | rfl | (simp; done) | (simp [*]; done)), H', ⟨by first | omega | exact Nat.le_refl _⟩, ⟨by repeat (first | (with_reducible first | exact HB.out | apply below_alloc | apply pw_below_drewN | apply below_drew1) | exact HB.out)⟩⟩
        ·rw [if_neg c14] at H
         have c14b0 : ((l1.length : Int) == ((rd_L1 l0 0).length : Int)) = false := beq_eq_false_iff_ne.mpr c14
         have c14b1 : ((l1.length : Int) != ((rd_L1 l0 0).length : Int)) = true := bne_iff_ne.mpr c14
         have c14b2 : (l1.length == (rd_L1 l0 0).length) = false := by first | simpa using c14 | (simp at c14 ⊢; omega)
         have H' := Aside0.mk H
         clear H
         go_wp2_with (first | ((with_reducible refine gate_callee (f := 10) rfl ?_); refine goesL_ (some 19) rfl rfl Try.func10 (by kernel_rfl) rfl #[.slice A0 l0.length c0] rfl (by (try simp only [List.map_toArray, List.map_cons, List.map_nil]); first | done | rfl | (simp only [List.length_drop, List.length_take]; rfl)) ?_; (with_reducible refine (footlockerlaw03_small.calls k _ _ l0 true _ ?side1 ?side2 A8.out).mono ?_); (case side1 => repeat (first | exact (Kd.C_below HR0.out HB.out) | (with_reducible refine Kd.C_alloc ?_ _) | (with_reducible refine Kd.C_drewN ?_ _) | (with_reducible refine Kd.C_drew ?_))); (case side2 => exact HC0.out); rintro e w' ⟨rfl, ⟨nd, rfl⟩⟩; refine ⟨_, rfl, ?_⟩) | (go_at_call 14; (with_reducible refine (footlockerref03_Right.calls k _ _ l0 true _ ?side1 ?side2 A10.out).mono ?_); (case side1 => repeat (first | exact (Kd.C_below HR0.out (by repeat (first | (with_reducible first | exact HB.out | apply below_alloc | apply pw_below_drewN | apply below_drew1) | exact HB.out))) | (with_reducible refine Kd.C_alloc ?_ _) | (with_reducible refine Kd.C_drewN ?_ _) | (with_reducible refine Kd.C_drew ?_))); (case side2 => exact HC0.out); rintro e w' ⟨rfl, ⟨nd, rfl⟩⟩; have p443 : 0 ≤ (0 : Int) := (by omega); have q443 : 0 < (l0.length : Int) := of_decide_eq_true (by first | (with_reducible assumption) | assumption); obtain ⟨ad443, A443_0, c443_0, e443, hx443_0, hl443_0, hi443_0⟩ := at_L1 HR0.out 0 p443 q443; cases e443; have qi443 : (0 < l0.length) = True := eq_true (by omega); (try rw [show ((0 : Int)).toNat = 0 from rfl] at hx443_0); (try rw [Addr.add_zero'] at hx443_0); replace hx443_0 := (HB.out.cell (World.block_lt_of_cell? w _ hx443_0)).trans hx443_0; have HR443_0 := Aside0.mk hi443_0; have HC443_0 := Aside0.mk hl443_0; clear hi443_0 hl443_0; replace p443 := eq_true p443; replace q443 := eq_true q443))
         go_meet
         case rel => exact ⟨_, (true), (by first | rfl | (simp; done) | (simp [*]; done)), H', ⟨by first | omega | exact Nat.le_refl _⟩, ⟨by repeat (first | (with_reducible first | exact HB.out | apply below_alloc | apply pw_below_drewN | apply below_drew1) | exact HB.out)⟩⟩
       ·rw [if_neg c13] at H
        exact absurd H (by simp)
     ·replace c11 := Bool.eq_false_iff.mpr c11
      subst c11
      have H1 : (footlockerlaw03_LinearTimes.j0 k l0 l1 l2 true) = some r := by rw [if_neg (show ¬ (false = true) by decide)] at H; exact H
      clear H
      have H := H1
      clear H1
      have H' := Aside0.mk H
      clear H
      go_wp2_with (first | ((with_reducible refine gate_callee (f := 10) rfl ?_); refine goesL_ (some 19) rfl rfl Try.func10 (by kernel_rfl) rfl #[.slice A0 l0.length c0] rfl (by (try simp only [List.map_toArray, List.map_cons, List.map_nil]); first | done | rfl | (simp only [List.length_drop, List.length_take]; rfl)) ?_; (with_reducible refine (footlockerlaw03_small.calls k _ _ l0 true _ ?side1 ?side2 A8.out).mono ?_); (case side1 => repeat (first | exact (Kd.C_below HR0.out HB.out) | (with_reducible refine Kd.C_alloc ?_ _) | (with_reducible refine Kd.C_drewN ?_ _) | (with_reducible refine Kd.C_drew ?_))); (case side2 => exact HC0.out); rintro e w' ⟨rfl, ⟨nd, rfl⟩⟩; refine ⟨_, rfl, ?_⟩) | (go_at_call 14; (with_reducible refine (footlockerref03_Right.calls k _ _ l0 false _ ?side1 ?side2 A10.out).mono ?_); (case side1 => repeat (first | exact (Kd.C_below HR0.out (by repeat (first | (with_reducible first | exact HB.out | apply below_alloc | apply pw_below_drewN | apply below_drew1) | exact HB.out))) | (with_reducible refine Kd.C_alloc ?_ _) | (with_reducible refine Kd.C_drewN ?_ _) | (with_reducible refine Kd.C_drew ?_))); (case side2 => exact HC0.out); rintro e w' ⟨rfl, ⟨nd, rfl⟩⟩))
      go_meet
      case rel => exact ⟨_, (true), (by first | rfl | (simp; done) | (simp [*]; done)), H', ⟨by first | omega | exact Nat.le_refl _⟩, ⟨by repeat (first | (with_reducible first | exact HB.out | apply below_alloc | apply pw_below_drewN | apply below_drew1) | exact HB.out)⟩⟩
   ·replace c9 := Bool.eq_false_iff.mpr c9
    subst c9
    have H1 : (footlockerlaw03_LinearTimes.j0 k l0 l1 l2 true) = some r := by rw [if_neg (show ¬ (false = true) by decide)] at H; exact H
    clear H
    have H := H1
    clear H1
    have H' := Aside0.mk H
    clear H
    go_wp2_with (first | ((with_reducible refine gate_callee (f := 10) rfl ?_); refine goesL_ (some 19) rfl rfl Try.func10 (by kernel_rfl) rfl #[.slice A0 l0.length c0] rfl (by (try simp only [List.map_toArray, List.map_cons, List.map_nil]); first | done | rfl | (simp only [List.length_drop, List.length_take]; rfl)) ?_; (with_reducible refine (footlockerlaw03_small.calls k _ _ l0 false _ ?side1 ?side2 A8.out).mono ?_); (case side1 => repeat (first | exact (Kd.C_below HR0.out HB.out) | (with_reducible refine Kd.C_alloc ?_ _) | (with_reducible refine Kd.C_drewN ?_ _) | (with_reducible refine Kd.C_drew ?_))); (case side2 => exact HC0.out); rintro e w' ⟨rfl, ⟨nd, rfl⟩⟩; refine ⟨_, rfl, ?_⟩))
    go_meet
    case rel => exact ⟨_, (true), (by first | rfl | (simp; done) | (simp [*]; done)), H', ⟨by first | omega | exact Nat.le_refl _⟩, ⟨by repeat (first | (with_reducible first | exact HB.out | apply below_alloc | apply pw_below_drewN | apply below_drew1) | exact HB.out)⟩⟩
  case rest =>
   clear HC6
   try clear c1
   try clear c2
   try clear p2
   try clear c4
   try clear p4
   try clear q4
   try clear hx4
   try clear qi4
   try clear c5
   try clear c8
   try clear c9
   try clear c10
   try clear c11
   try clear c12
   try clear c12b0
   try clear c12b1
   try clear c12b2
   try clear c13
   try clear c13b0
   try clear c13b1
   try clear c14
   try clear c14b0
   try clear c14b1
   try clear c14b2
   try clear hx443_0
   try clear p443
   try clear q443
   obtain ⟨kq, x46_5, rfl, HA, HJ5, HB⟩ := hcut
   cases kq with
   | zero => exact absurd HA.out (by simp [footlockerlaw03_LinearTimes.j0])
   | succ kj5 =>
    have H := HA.out
    clear HA
    simp only [footlockerlaw03_LinearTimes.j0] at H
    by_cases c15 : x46_5 = true
    ·subst c15
     have H1 : (some true) = some r := by rw [if_pos rfl] at H; exact H
     clear H
     have H := H1
     clear H1
     obtain rfl := Option.some.inj H
     go_wp2
     go_ret
     exact ⟨by first | rfl | (simp [errW_none, errW_some] <;> rfl) | (simp [*, errW_none, errW_some] <;> rfl), by repeat (first | (with_reducible first | exact HB.out | apply below_alloc | apply pw_below_drewN | apply below_drew1) | exact HB.out)⟩
    ·replace c15 := Bool.eq_false_iff.mpr c15
     subst c15
     have H1 : (footlockerlaw03_LinearTimes.l0 kj5 l0 l1 l2 (([] : List Int)) (l1.length : Int) 0) = some r := by rw [if_neg (show ¬ (false = true) by decide)] at H; exact H
     clear H
     have H := H1
     clear H1
     obtain ⟨y444, hy444⟩ : ∃ y_ : List Int, y_ = (([] : List Int)) := ⟨_, rfl⟩
     replace H : (footlockerlaw03_LinearTimes.l0 kj5 l0 l1 l2 y444 (l1.length : Int) 0) = some r := by first | (rw [hy444]; with_reducible exact H) | (have H2_ := (Option.bind_some _ _).symm.trans H; rw [hy444]; with_reducible exact H2_) | (have H2_ := (Option.bind_some _ _).symm.trans H; with_reducible exact H2_) | with_reducible exact H | (rw [hy444]; exact H) | exact H
     have Ny444 := Aside0.mk hy444
     clear hy444
     have H' := Aside0.mk H
     clear H
     go_wp2_with (first | ((with_reducible refine gate_dst (N := 47) rfl ?_); (try (refine gate_guard (by rfl) ?_; dsimp only)); refine Kd.R_lit (Kd.int .u8) _ 5 ?hg (N := 47) ?hd (xs := ([] : List Int)) (inner := []) (ok := fun _ => True) (okp := fun _ => True) ?hr ?hp (fun _ hk => hk) trivial (Below.refl _ _) (Nat.le_refl _) (by simp) ?_; (case hd => rfl); (case hg => rfl); (case hr => first | (go_simp; done) | (go_simp; rfl)); (case hp => exact (Reps.none _ _)); intro v445 w16 ho17 hb hg_ hnew_; clear hg_ hnew_; (first | rw [← Ny444.out] at ho17 | (simp only [Int.reduceToNat] at ho17; rw [← Ny444.out] at ho17)); have n0_ := Aside0.mk (Kd.R_lower ho17 (below_size (by repeat (first | (with_reducible first | exact HB.out | apply below_alloc | apply pw_below_drewN | apply below_drew1) | exact HB.out)))); have n1_ := Aside0.mk (below_step (by repeat (first | (with_reducible first | exact HB.out | apply below_alloc | apply pw_below_drewN | apply below_drew1) | exact HB.out)) hb); clear HB; have HO446 := n0_; have HB := n1_; clear n0_ n1_; clear hb ho17))
     go_loopg [7, 50] kj5 (fun kq v7 v50 w' => ∃ (x7_2 : List Int) (x50_2 : Int), v50 = .int .i64 x50_2 ∧ Aside0 (footlockerlaw03_LinearTimes.l0 kq l0 l1 l2 x7_2 (l1.length : Int) x50_2 = some r) ∧ Aside0 (kq ≤ kj5) ∧ Aside0 (Kd.R (Kd.int .u8) 5 w' w.heap.size (fun _ => True) v7 x7_2) ∧ Aside0 (Below w.heap.size w w'))
     case atStart => exact ⟨(y444), (0), (by first | rfl | (simp; done) | (simp [*]; done)), H', ⟨Nat.le_refl _⟩, ⟨by (with_reducible repeat (first | apply Kd.R_alloc | apply Kd.R_drewN | apply Kd.R_drew)); exact HO446.out⟩, ⟨by repeat (first | (with_reducible first | exact HB.out | apply below_alloc | apply pw_below_drewN | apply below_drew1) | exact HB.out)⟩⟩
     case round =>
      clear H'
      try clear c1
      try clear c2
      try clear p2
      try clear c4
      try clear p4
      try clear q4
      try clear hx4
      try clear qi4
      try clear c5
      try clear c8
      try clear c9
      try clear c10
      try clear c11
      try clear c12
      try clear c12b0
      try clear c12b1
      try clear c12b2
      try clear c13
      try clear c13b0
      try clear c13b1
      try clear c14
      try clear c14b0
      try clear c14b1
      try clear c14b2
      try clear c15
      try clear hx443_0
      try clear p2
      try clear p4
      try clear p443
      try clear q4
      try clear q443
      obtain ⟨x7_2, x50_2, rfl, HA, HK2, HO_7, HB⟩ := hrel
      cases gk with
      | zero => exact absurd HA.out (by simp [footlockerlaw03_LinearTimes.l0])
      | succ k2 =>
       have H := HA.out
       clear HA
       simp only [footlockerlaw03_LinearTimes.l0] at H
       by_cases c18 : x50_2 < (l1.length : Int)
       ·rw [if_pos c18] at H
        have c18b0 : decide (x50_2 < (l1.length : Int)) = true := decide_eq_true c18
        clear c18
        by_cases c19 : 0 ≤ x50_2
        ·rw [if_pos c19] at H
         have c19b0 : decide (0 ≤ x50_2) = true := decide_eq_true c19
         clear c19
         by_cases c20 : x50_2 < (l1.length : Int)
         ·rw [if_pos c20] at H
          have c20b0 : decide (x50_2 < (l1.length : Int)) = true := decide_eq_true c20
          clear c20
          by_cases c21 : x50_2 < (l2.length : Int)
          ·rw [if_pos c21] at H
           have c21b0 : decide (x50_2 < (l2.length : Int)) = true := decide_eq_true c21
           clear c21
           by_cases c22 : x7_2.length < 140737488355328
           ·rw [if_pos c22] at H
            have LMc22 := Aside0.mk c22
            clear c22
            obtain ⟨y449, hy449⟩ : ∃ y_ : List Int, y_ = (x7_2 ++ [Go.bits .xor .u8 (rd l1 x50_2) (rd l2 x50_2)]) := ⟨_, rfl⟩
            replace H : (if 0 ≤ (l1.length : Int) then (if ((l1.length : Int) : Int).toNat ≤ 281474976710656 then ((some (List.replicate ((l1.length : Int) : Int).toNat 0 : List Int)).bind fun y452 => (if x50_2 < (y452.length : Int) then ((linear_Times.f k2 l0 (y452.set (x50_2 : Int).toNat 1)).bind fun t456 => (footlockerlaw03_LinearTimes.l1 k2 l0 l1 l2 y449 x50_2 t456 (l1.length : Int) x50_2 (l0.length : Int) 0)) else (none))) else (none)) else (none)) = some r := by first | (rw [hy449]; with_reducible exact H) | (have H2_ := (Option.bind_some _ _).symm.trans H; rw [hy449]; with_reducible exact H2_) | (have H2_ := (Option.bind_some _ _).symm.trans H; with_reducible exact H2_) | with_reducible exact H | (rw [hy449]; exact H) | exact H
            have Ny449 := Aside0.mk hy449
            clear hy449
            by_cases c23 : 0 ≤ (l1.length : Int)
            ·rw [if_pos c23] at H
             have c23b0 := eq_true c23
             have c23b1 : decide (0 ≤ (l1.length : Int)) = true := decide_eq_true c23
             clear c23
             by_cases c24 : ((l1.length : Int) : Int).toNat ≤ 281474976710656
             ·rw [if_pos c24] at H
              have c24b0 := eq_true c24
              have c24b1 : decide (((l1.length : Int) : Int).toNat ≤ 281474976710656) = true := decide_eq_true c24
              clear c24
              obtain ⟨y452, hy452⟩ : ∃ y_ : List Int, y_ = (List.replicate ((l1.length : Int) : Int).toNat 0) := ⟨_, rfl⟩
              replace H : (if x50_2 < (y452.length : Int) then ((linear_Times.f k2 l0 (y452.set (x50_2 : Int).toNat 1)).bind fun t456 => (footlockerlaw03_LinearTimes.l1 k2 l0 l1 l2 y449 x50_2 t456 (l1.length : Int) x50_2 (l0.length : Int) 0)) else (none)) = some r := by first | (rw [hy452]; with_reducible exact H) | (have H2_ := (Option.bind_some _ _).symm.trans H; rw [hy452]; with_reducible exact H2_) | (have H2_ := (Option.bind_some _ _).symm.trans H; with_reducible exact H2_) | with_reducible exact H | (rw [hy452]; exact H) | exact H
              have Ny452 := Aside0.mk hy452
              clear hy452
              by_cases c25 : x50_2 < (y452.length : Int)
              ·rw [if_pos c25] at H
               have c25b0 : decide (x50_2 < (y452.length : Int)) = true := decide_eq_true c25
               clear c25
               obtain ⟨y455, hy455⟩ : ∃ y_ : List Int, y_ = (y452.set (x50_2 : Int).toNat 1) := ⟨_, rfl⟩
               replace H : ((linear_Times.f k2 l0 y455).bind fun t456 => (footlockerlaw03_LinearTimes.l1 k2 l0 l1 l2 y449 x50_2 t456 (l1.length : Int) x50_2 (l0.length : Int) 0)) = some r := by first | (rw [hy455]; with_reducible exact H) | (have H2_ := (Option.bind_some _ _).symm.trans H; rw [hy455]; with_reducible exact H2_) | (have H2_ := (Option.bind_some _ _).symm.trans H; with_reducible exact H2_) | with_reducible exact H | (rw [hy455]; exact H) | exact H
               have Ny455 := Aside0.mk hy455
               clear hy455
               replace H := Option.bind_eq_some_iff.mp H
               obtain ⟨t456, A270, H⟩ := H
               replace H : (footlockerlaw03_LinearTimes.l1 k2 l0 l1 l2 y449 x50_2 t456 (l1.length : Int) x50_2 (l0.length : Int) 0) = some r := H
               have A27 := Aside0.mk A270
               clear A270
               have H' := Aside0.mk H
               clear H
               try go_wp2
               have n0_ := Aside0.mk (Kd.R_drew HO_7.out)
               have n1_ := Aside0.mk (below_drew1 HB.out)
               clear HO_7
               clear HB
               have HO_7 := n0_
               have HB := n1_
               clear n0_ n1_
               have p447 : 0 ≤ (x50_2 : Int) := of_decide_eq_true (by first | (with_reducible assumption) | assumption)
               have q447 : x50_2 < (l1.length : Int) := of_decide_eq_true (by first | (with_reducible assumption) | assumption)
               obtain ⟨ad447, e447, hx447_0⟩ := Kd.at_int HR1.out x50_2 p447 q447
               have hw447_0 := hx447_0
               cases e447
               replace hx447_0 := (HB.out.cell (World.block_lt_of_cell? w _ hx447_0)).trans hx447_0
               replace p447 := eq_true p447
               replace q447 := eq_true q447
               have p448 : 0 ≤ (x50_2 : Int) := of_decide_eq_true (by first | (with_reducible assumption) | assumption)
               have q448 : x50_2 < (l2.length : Int) := of_decide_eq_true (by first | (with_reducible assumption) | assumption)
               obtain ⟨ad448, e448, hx448_0⟩ := Kd.at_int HR2.out x50_2 p448 q448
               have hw448_0 := hx448_0
               cases e448
               replace hx448_0 := (HB.out.cell (World.block_lt_of_cell? w _ hx448_0)).trans hx448_0
               replace p448 := eq_true p448
               replace q448 := eq_true q448
               refine start_ (n := 13) (S := fun w' => w'.cell? (ad447.add (x50_2).toNat) = some (.int .u8 (rd l1 x50_2)) ∧ w'.cell? (ad448.add (x50_2).toNat) = some (.int .u8 (rd l2 x50_2))) (ds := []) #[false, false, false, false, false, false, false, false, false, false, false, false, false] (by kernel_rfl) rfl rfl ⟨((HB.out.cell (World.block_lt_of_cell? w _ hw447_0)).trans hw447_0), ((HB.out.cell (World.block_lt_of_cell? w _ hw448_0)).trans hw448_0)⟩ (fun hHeld => ?_); refine with_tabW footlockerlaw03_LinearTimes.tab9 footlockerlaw03_LinearTimes.bits9 (fun HT_ HW_ => ?_)
               generalize wr.drew = w28 at HO_7 HB hx447_0 hx448_0 hHeld ⊢
               refine pure_ (i := 0) (N := some 53) (v := ?_) (a' := ?_) #[true, false, false, false, false, false, false, false, false, false, false, false, false] rfl rfl (any_of HT_.out (by kernel_rfl)) (fun _ _ _ h => h) (Or.inl ⟨by rfl, ?_⟩) ?_ ?_
               rotate_left
               ·intro w'
                go_simp
                with_reducible rfl
               rotate_left
               ·simp only [Act.put, List.setIfInBounds_toArray, List.set_cons_zero, List.set_cons_succ, i64_w, i32_w]
                rfl
               refine pure_ (i := 1) (N := some 54) (v := ?_) (a' := ?_) #[true, true, false, false, false, false, false, false, false, false, false, false, false] rfl rfl (any_of HT_.out (by kernel_rfl)) (fun _ _ _ h => h) (Or.inl ⟨by rfl, ?_⟩) ?_ ?_
               rotate_left
               ·intro w'
                go_simp
                with_reducible rfl
               rotate_left
               ·simp only [Act.put, List.setIfInBounds_toArray, List.set_cons_zero, List.set_cons_succ, i64_w, i32_w]
                rfl
               refine pure_ (i := 2) (N := some 55) (v := ?_) (a' := ?_) #[true, true, true, false, false, false, false, false, false, false, false, false, false] rfl rfl (any_of HT_.out (by kernel_rfl)) (fun _ _ _ h => h) (Or.inl ⟨by rfl, ?_⟩) ?_ ?_
               rotate_left
               ·intro w'
                go_simp
                with_reducible rfl
               rotate_left
               ·simp only [Act.put, List.setIfInBounds_toArray, List.set_cons_zero, List.set_cons_succ, i64_w, i32_w]
                rfl
               refine pure_ (i := 3) (N := some 56) (v := ?_) (a' := ?_) #[true, true, true, true, false, false, false, false, false, false, false, false, false] rfl rfl (any_of HT_.out (by kernel_rfl)) (fun _ _ _ h => h) (Or.inl ⟨by rfl, ?_⟩) ?_ ?_
               rotate_left
               ·intro w'
                go_simp
                with_reducible rfl
               rotate_left
               ·simp only [Act.put, List.setIfInBounds_toArray, List.set_cons_zero, List.set_cons_succ, i64_w, i32_w]
                rfl
               refine pure_ (i := 5) (N := some 58) (v := ?_) (a' := ?_) #[true, true, true, true, false, true, false, false, false, false, false, false, false] rfl rfl (any_of HT_.out (by kernel_rfl)) (fun _ _ _ h => h) (Or.inl ⟨by rfl, ?_⟩) ?_ ?_
               rotate_left
               ·intro w'
                go_simp
                with_reducible rfl
               rotate_left
               ·simp only [Act.put, List.setIfInBounds_toArray, List.set_cons_zero, List.set_cons_succ, i64_w, i32_w]
                rfl
               refine pure_ (i := 6) (N := some 59) (v := ?_) (a' := ?_) #[true, true, true, true, false, true, true, false, false, false, false, false, false] rfl rfl (any_of HT_.out (by kernel_rfl)) (fun _ _ _ h => h) (Or.inl ⟨by rfl, ?_⟩) ?_ ?_
               rotate_left
               ·intro w'
                go_simp
                with_reducible rfl
               rotate_left
               ·simp only [Act.put, List.setIfInBounds_toArray, List.set_cons_zero, List.set_cons_succ, i64_w, i32_w]
                rfl
               refine pure_ (i := 7) (N := some 60) (v := ?_) (a' := ?_) #[true, true, true, true, false, true, true, true, false, false, false, false, false] rfl rfl (any_of HT_.out (by kernel_rfl)) (fun _ _ _ h => h) (Or.inl ⟨by rfl, ?_⟩) ?_ ?_
               rotate_left
               ·intro w'
                go_simp
                with_reducible rfl
               rotate_left
               ·simp only [Act.put, List.setIfInBounds_toArray, List.set_cons_zero, List.set_cons_succ, i64_w, i32_w]
                rfl
               refine take_ (i := 4) (N := some 57) (v := ?_) (a' := ?_) #[true, true, true, true, true, true, true, true, false, false, false, false, false] rfl rfl (take_ofW HT_.out HW_.out (by kernel_rfl)) (fun _ _ _ h => h) (Or.inl ⟨by rfl, ?_⟩) hHeld ?_ ?_
               rotate_left
               ·rintro w' ⟨s0, s1⟩
                go_simp
                with_reducible rfl
               rotate_left
               ·simp only [Act.put, List.setIfInBounds_toArray, List.set_cons_zero, List.set_cons_succ, i64_w, i32_w]
                rfl
               refine take_ (i := 8) (N := some 61) (v := ?_) (a' := ?_) #[true, true, true, true, true, true, true, true, true, false, false, false, false] rfl rfl (take_ofW HT_.out HW_.out (by kernel_rfl)) (fun _ _ _ h => h) (Or.inl ⟨by rfl, ?_⟩) hHeld ?_ ?_
               rotate_left
               ·rintro w' ⟨s0, s1⟩
                go_simp
                with_reducible rfl
               rotate_left
               ·simp only [Act.put, List.setIfInBounds_toArray, List.set_cons_zero, List.set_cons_succ, i64_w, i32_w]
                rfl
               refine pure_ (i := 9) (N := some 62) (v := ?_) (a' := ?_) #[true, true, true, true, true, true, true, true, true, true, false, false, false] rfl rfl (any_of HT_.out (by kernel_rfl)) (fun _ _ _ h => h) (Or.inl ⟨by rfl, ?_⟩) ?_ ?_
               rotate_left
               ·intro w'
                go_simp
                with_reducible rfl
               rotate_left
               ·simp only [Act.put, List.setIfInBounds_toArray, List.set_cons_zero, List.set_cons_succ, i64_w, i32_w]
                rfl
               refine one_ (i := 10) (N := some 63) #[true, true, true, true, true, true, true, true, true, true, true, false, false] rfl rfl (one_of HT_.out (by kernel_rfl)) (by decide) (fun K hK => ?_)
               refine value_ (w1 := ?_) (v := ?_) (by rfl) rfl ?_ ?_
               rotate_left 2
               ·go_simp
                constructor
                ·rfl
                ·rfl
               refine hK.out _ _ ⟨(World.cell?_alloc_lt _ _ _ (World.block_lt_of_cell? _ _ (((HB.out.cell (World.block_lt_of_cell? w _ hw447_0)).trans hw447_0)))).trans (((HB.out.cell (World.block_lt_of_cell? w _ hw447_0)).trans hw447_0)), (World.cell?_alloc_lt _ _ _ (World.block_lt_of_cell? _ _ (((HB.out.cell (World.block_lt_of_cell? w _ hw448_0)).trans hw448_0)))).trans (((HB.out.cell (World.block_lt_of_cell? w _ hw448_0)).trans hw448_0))⟩ (fun hHeld => ?_)
               clear hK K
               refine norm_ (a' := ?_) ?_ ?_
               rotate_left
               ·show Act.put _ (some 63) _ = _
                simp only [Act.put, List.setIfInBounds_toArray, List.set_cons_zero, List.set_cons_succ, i64_w, i32_w]
                rfl
               refine one_ (i := 11) (N := some 64) #[true, true, true, true, true, true, true, true, true, true, true, true, false] rfl rfl (one_of HT_.out (by kernel_rfl)) (by decide) (fun K hK => ?_)
               refine Kd.R_append_step (Kd.int .u8) (w0 := w) w.heap.size (by rfl) (.tmp 53) (.tmp 63) 23 5 (.int .u8 0) 1 rfl Try.underlying23 info5 rfl (by decide) (by omega) u7 x7_2 (Go.bits .xor .u8 (rd l1 x50_2) (rd l2 x50_2)) [.int .u8 (Go.bits .xor .u8 (rd l1 x50_2) (rd l2 x50_2))] (fun _ => True) (fun _ => False) rfl rfl ?aP (fun _ hk => hk.elim) ?aF ?aO ?aB ?aS ?aL ?_
               (case aP => exact rfl)
               (case aB => exact (by repeat (first | (with_reducible first | exact HB.out | apply below_alloc | apply pw_below_drewN | apply below_drew1) | exact HB.out)))
               (case aF => exact (fun _ _ => trivial))
               (case aO => exact (by (with_reducible repeat (first | apply Kd.R_alloc | apply Kd.R_drewN | apply Kd.R_drew)); exact HO_7.out))
               (case aS => exact (below_size (by repeat (first | (with_reducible first | exact HB.out | apply below_alloc | apply pw_below_drewN | apply below_drew1) | exact HB.out))))
               (case aL => have := LMc22.out; omega)
               intro v450 w29 ho hb hg hat
               rw [← Ny449.out] at ho
               have n0_ := Aside0.mk (hb)
               have n1_ := Aside0.mk (ho)
               clear HB
               clear HO_7
               have HB := n0_
               have HO451 := n1_
               clear n0_ n1_
               clear ho hb hg hat
               refine hK.out _ _ ⟨((HB.out.cell (World.block_lt_of_cell? w _ hw447_0)).trans hw447_0), ((HB.out.cell (World.block_lt_of_cell? w _ hw448_0)).trans hw448_0)⟩ (fun hHeld => ?_)
               clear hK K
               refine norm_ (a' := ?_) ?_ ?_
               rotate_left
               ·show Act.put _ (some 64) _ = _
                simp only [Act.put, List.setIfInBounds_toArray, List.set_cons_zero, List.set_cons_succ, i64_w, i32_w]
                rfl
               refine pure_ (i := 12) (N := some 7) (v := ?_) (a' := ?_) #[true, true, true, true, true, true, true, true, true, true, true, true, true] rfl rfl (any_of HT_.out (by kernel_rfl)) (fun _ _ _ h => h) (Or.inl ⟨by rfl, ?_⟩) ?_ ?_
               rotate_left
               ·intro w'
                go_simp
                with_reducible rfl
               rotate_left
               ·simp only [Act.put, List.setIfInBounds_toArray, List.set_cons_zero, List.set_cons_succ, i64_w, i32_w]
                rfl
               refine done_ (done_of HT_.out (by kernel_rfl)) ?_
               try go_wp2_with (first | ((with_reducible refine gate_dst (N := 67) rfl ?_); (try (refine gate_guard (by rfl) ?_; dsimp only)); refine Kd.R_make (Kd.int .u8) _ 5 rfl (N := 67) rfl 23 _ _ rfl (l1.length : Int) rfl rfl Try.underlying23 (.int .u8 0) 1 info5 rfl (by decide) (by omega) 0 (ok := fun _ => True) (okp := fun _ => True) rfl (fun _ hk => hk) trivial (of_decide_eq_true (by first | (with_reducible assumption) | assumption)) (Nat.le_trans (Nat.mul_le_mul_right _ (of_decide_eq_true (by first | (with_reducible assumption) | assumption) : (l1.length : Int).toNat ≤ 281474976710656)) (by omega)) (Below.refl _ _) (Nat.le_refl _) ?_; intro v453 w30 ho31 hb hg_ hnew_; clear hg_ hnew_; (first | rw [← Ny452.out] at ho31 | (simp only [Int.reduceToNat] at ho31; rw [← Ny452.out] at ho31)); have n0_ := Aside0.mk (Kd.R_elder' (by (with_reducible repeat (first | apply Kd.R_alloc | apply Kd.R_drewN | apply Kd.R_drew)); exact HO451.out) (Kd.R_base ho31) hb); have n1_ := Aside0.mk (Kd.R_lower (Kd.R_new' ho31 (Kd.R_lt (by (with_reducible repeat (first | apply Kd.R_alloc | apply Kd.R_drewN | apply Kd.R_drew)); exact HO451.out))) (below_size (by repeat (first | (with_reducible first | exact HB.out | apply below_alloc | apply pw_below_drewN | apply below_drew1) | exact HB.out)))); have n2_ := Aside0.mk (below_step (by repeat (first | (with_reducible first | exact HB.out | apply below_alloc | apply pw_below_drewN | apply below_drew1) | exact HB.out)) hb); clear HO451; clear HB; have HO451 := n0_; have HO454 := n1_; have HB := n2_; clear n0_ n1_ n2_; clear hb ho31; have p26 : 0 ≤ (x50_2 : Int) := of_decide_eq_true (by first | (with_reducible assumption) | assumption); have q26 : (x50_2 : Int) < ((y452.length : Int) : Int) := of_decide_eq_true (by first | (with_reducible assumption) | assumption); obtain ⟨go26, co26, eo26, gb26, gl26, cl26, HG26⟩ := Kd.R_form HO454.out (by omega); (first | cases eo26 | (injection eo26 with ea_ en_ ec_; (first | subst ea_ | (injection ea_ with ea_; subst ea_)); subst ec_; clear en_)); have GB26 := Aside0.mk gb26; have GG26 := Aside0.mk HG26; clear gb26 gl26 HG26; obtain ⟨hx26_0, hf26_0⟩ := Kd.R_celln 0 HO454.out (x50_2 : Int) p26 q26; replace p26 := eq_true p26; replace q26 := eq_true q26; have n_ := Aside0.mk (Kd.R_mono (ok' := (fun k_ => some k_ ≠ (v450 : Value).ownBlock)) HO454.out (fun k_ hk => hk.2)); clear HO454; have HO454 := n_; clear n_; obtain ⟨hy32_, hz32_⟩ := Kd.R_celln 0 HO454.out (x50_2 : Int) (of_decide_eq_true (by first | (with_reducible assumption) | assumption)) (of_decide_eq_true (by first | (with_reducible assumption) | assumption)); have HP32 := Kd.R_putg HO454.out (x50_2 : Int) 1) | ((with_reducible refine gate_store (t := 5) (p := 70) rfl ?_); refine store_event (t := 5) (p := 70) (v := ?vo_w33) (w1 := (w30.setCell ⟨go26, (x50_2 : Int).toNat, none⟩ (.int .u8 1))) ?hg ?ho ?hn ?hr ?_; (case ho => rfl); (case hg => rfl); (case hn => rfl); (case hr => first | (go_simp; done) | (go_simp; rfl)); intro w33 hw; have hg : w30.grownBy w33 (some go26) := (by rw [hw]; exact HP32.2); have hp_ : Kd.R (Kd.int .u8) 5 w33 w.heap.size (fun k_ => some k_ ≠ (v450 : Value).ownBlock) (.slice (some ⟨go26, 0, none⟩) y452.length co26) y455 := (by rw [hw, Ny455.out]; exact HP32.1); clear HP32; have n0_ := Aside0.mk (Kd.R_after (v := (.slice (some ⟨go26, 0, none⟩) y452.length co26)) (v1 := (.slice (some ⟨go26, 0, none⟩) y452.length co26)) (ok := (fun _ => True)) (by (with_reducible repeat (first | apply Kd.R_alloc | apply Kd.R_drewN | apply Kd.R_drew)); exact HO451.out) hg (.inl rfl)); have n1_ := Aside0.mk (hp_); have n2_ := Aside0.mk ((by rw [hw]; exact below_set (HB.out) GB26.out : Below w.heap.size w w33)); clear HO451; clear HO454; clear HB; have HO451 := n0_; have HO454 := n1_; have HB := n2_; clear n0_ n1_ n2_; clear hg hw hp_) | ((with_reducible refine gate_callee (f := 19) rfl ?_); refine goesL_ (some 73) rfl rfl Try.func19 (by kernel_rfl) rfl #[.slice A0 l0.length c0, .slice (some ⟨go26, 0, none⟩) y455.length co26] rfl (by (try simp only [List.map_toArray, List.map_cons, List.map_nil]); first | done | (rw [show y455.length = y452.length from (Kd.R_reads' HO454.out).1.symm] <;> rfl) | rfl | (simp only [List.length_drop, List.length_take]; rfl)) ?_; (with_reducible refine (linear_Times.calls k2 _ _ l0 _ _ y455 t456 _ ?side1 ?side2 ?side3 ?side4 A27.out).mono ?_); (case side1 => repeat (first | exact (Kd.C_below HR0.out HB.out) | (with_reducible refine Kd.C_alloc ?_ _) | (with_reducible refine Kd.C_drewN ?_ _) | (with_reducible refine Kd.C_drew ?_))); (case side2 => exact HC0.out); (case side3 => repeat (first | exact (Kd.R_reads' HO454.out).2.2 | (with_reducible refine Kd.C_alloc ?_ _) | (with_reducible refine Kd.C_drewN ?_ _) | (with_reducible refine Kd.C_drew ?_))); (case side4 => rw [show y455.length = y452.length from (Kd.R_reads' HO454.out).1.symm]; exact (Kd.R_reads' HO454.out).2.1); rintro e w34 ⟨v457, rfl, ho0, hb⟩; refine ⟨_, rfl, ?_⟩; have n0_ := Aside0.mk (Kd.R_elder' (by (with_reducible repeat (first | apply Kd.R_alloc | apply Kd.R_drewN | apply Kd.R_drew)); exact HO451.out) (Kd.R_base ho0) hb); have n1_ := Aside0.mk (Kd.R_elder' (by (with_reducible repeat (first | apply Kd.R_alloc | apply Kd.R_drewN | apply Kd.R_drew)); exact HO454.out) (Kd.R_base ho0) hb); have n2_ := Aside0.mk (Kd.R_lower (Kd.R_new' (Kd.R_new' ho0 (Kd.R_lt (by (with_reducible repeat (first | apply Kd.R_alloc | apply Kd.R_drewN | apply Kd.R_drew)); exact HO451.out))) (Kd.R_lt (by (with_reducible repeat (first | apply Kd.R_alloc | apply Kd.R_drewN | apply Kd.R_drew)); exact HO454.out))) (below_size (by repeat (first | (with_reducible first | exact HB.out | apply below_alloc | apply pw_below_drewN | apply below_drew1) | exact HB.out)))); have n3_ := Aside0.mk (below_step (by repeat (first | (with_reducible first | exact HB.out | apply below_alloc | apply pw_below_drewN | apply below_drew1) | exact HB.out)) hb); clear HO451; clear HO454; clear HB; have HO451 := n0_; have HO454 := n1_; have HO458 := n2_; have HB := n3_; clear n0_ n1_ n2_ n3_; (try clear hb); (try clear hb2); (try clear hk); (try clear hi); (try clear ho0)))
               go_loopg [76] k2 (fun kq v76 w' => ∃ (x76_3 : Int), v76 = .int .i64 x76_3 ∧ Aside0 (footlockerlaw03_LinearTimes.l1 kq l0 l1 l2 y449 x50_2 t456 (l1.length : Int) x50_2 (l0.length : Int) x76_3 = some r) ∧ Aside0 (kq ≤ k2) ∧ Aside0 (Kd.R (Kd.int .u8) 5 w' w.heap.size (fun k_ => some k_ ≠ (v457 : Value).ownBlock) v450 y449) ∧ Aside0 (Kd.R (Kd.int .u8) 5 w' w.heap.size (fun k_ => some k_ ≠ (v450 : Value).ownBlock) v457 t456) ∧ Aside0 (Below w.heap.size w w'))
               case atStart => exact ⟨(0), (by first | rfl | (simp; done) | (simp [*]; done)), H', ⟨Nat.le_refl _⟩, ⟨by (with_reducible repeat (first | apply Kd.R_alloc | apply Kd.R_drewN | apply Kd.R_drew)); exact Kd.R_mono HO451.out (fun _ hk => hk.2)⟩, ⟨by (with_reducible repeat (first | apply Kd.R_alloc | apply Kd.R_drewN | apply Kd.R_drew)); exact Kd.R_mono HO458.out (fun _ hk => hk.1.2)⟩, ⟨by repeat (first | (with_reducible first | exact HB.out | apply below_alloc | apply pw_below_drewN | apply below_drew1) | exact HB.out)⟩⟩
               case round =>
                clear H'
                try clear c1
                try clear c2
                try clear p2
                try clear q2
                try clear hx2
                try clear c4
                try clear p4
                try clear q4
                try clear hx4
                try clear qi4
                try clear c5
                try clear c8
                try clear c9
                try clear c10
                try clear c11
                try clear c12
                try clear c12b0
                try clear c12b1
                try clear c12b2
                try clear c13
                try clear c13b0
                try clear c13b1
                try clear c14
                try clear c14b0
                try clear c14b1
                try clear c14b2
                try clear c15
                try clear c18
                try clear c18b0
                try clear c19
                try clear c19b0
                try clear c20
                try clear c20b0
                try clear c21
                try clear c21b0
                try clear c22
                try clear c23
                try clear c23b0
                try clear c23b1
                try clear c24
                try clear c24b0
                try clear c24b1
                try clear c25
                try clear c25b0
                try clear p26
                try clear q26
                try clear hx26
                try clear hf26
                try clear hx26_0
                try clear hx443_0
                try clear hx447_0
                try clear hx448_0
                try clear p2
                try clear p26
                try clear p4
                try clear p443
                try clear p447
                try clear p448
                try clear q26
                try clear q4
                try clear q443
                try clear q447
                try clear q448
                obtain ⟨x76_3, rfl, HA, HK3, HO_7, HO_10, HB⟩ := hrel
                cases gk with
                | zero => exact absurd HA.out (by simp [footlockerlaw03_LinearTimes.l1])
                | succ k3 =>
                 have H := HA.out
                 clear HA
                 simp only [footlockerlaw03_LinearTimes.l1] at H
                 by_cases c35 : x76_3 < (l0.length : Int)
                 ·rw [if_pos c35] at H
                  have c35b0 : decide (x76_3 < (l0.length : Int)) = true := decide_eq_true c35
                  clear c35
                  by_cases c36 : x76_3 ≥ (t456.length : Int)
                  ·as_aux_lemma =>
                    rw [if_pos c36] at H
                    have c36b0 : decide ((t456.length : Int) ≤ x76_3) = true := decide_eq_true c36
                    clear c36
                    obtain rfl := Option.some.inj H
                    try go_wp2
                    have n0_ := Aside0.mk (Kd.R_drew HO_7.out)
                    have n1_ := Aside0.mk (Kd.R_drew HO_10.out)
                    have n2_ := Aside0.mk (below_drew1 HB.out)
                    clear HO_7
                    clear HO_10
                    clear HB
                    have HO_7 := n0_
                    have HO_10 := n1_
                    have HB := n2_
                    clear n0_ n1_ n2_
                    obtain ⟨Ao38, co38, eo38⟩ := Kd.R_slice HO_10.out
                    (first | subst eo38 | (injection eo38 with f1_ f2_ f3_; have f4_ := f1_.symm; have f5_ := f3_.symm; clear f1_ f2_ f3_; subst f4_; subst f5_))
                    refine start_ (n := 18) (S := fun w' => True) (ds := []) #[false, false, false, false, false, false, false, false, false, false, false, false, false, false, false, false, false, false] (by kernel_rfl) rfl rfl trivial (fun hHeld => ?_); refine with_tabW footlockerlaw03_LinearTimes.tab16 footlockerlaw03_LinearTimes.bits16 (fun HT_ HW_ => ?_)
                    generalize wr.drew = w37 at HO_7 HO_10 HB hHeld ⊢
                    refine pure_ (i := 0) (N := some 79) (v := ?_) (a' := ?_) #[true, false, false, false, false, false, false, false, false, false, false, false, false, false, false, false, false, false] rfl rfl (any_of HT_.out (by kernel_rfl)) (fun _ _ _ h => h) (Or.inl ⟨by rfl, ?_⟩) ?_ ?_
                    rotate_left
                    ·intro w'
                     go_simp
                     with_reducible rfl
                    rotate_left
                    ·simp only [Act.put, List.setIfInBounds_toArray, List.set_cons_zero, List.set_cons_succ, i64_w, i32_w]
                     rfl
                    refine pure_ (i := 1) (N := some 80) (v := ?_) (a' := ?_) #[true, true, false, false, false, false, false, false, false, false, false, false, false, false, false, false, false, false] rfl rfl (any_of HT_.out (by kernel_rfl)) (fun _ _ _ h => h) (Or.inl ⟨by rfl, ?_⟩) ?_ ?_
                    rotate_left
                    ·intro w'
                     go_simp
                     with_reducible rfl
                    rotate_left
                    ·simp only [Act.put, List.setIfInBounds_toArray, List.set_cons_zero, List.set_cons_succ, i64_w, i32_w]
                     rfl
                    refine pure_ (i := 2) (N := some 81) (v := ?_) (a' := ?_) #[true, true, true, false, false, false, false, false, false, false, false, false, false, false, false, false, false, false] rfl rfl (any_of HT_.out (by kernel_rfl)) (fun _ _ _ h => h) (Or.inl ⟨by rfl, ?_⟩) ?_ ?_
                    rotate_left
                    ·intro w'
                     go_simp
                     with_reducible rfl
                    rotate_left
                    ·simp only [Act.put, List.setIfInBounds_toArray, List.set_cons_zero, List.set_cons_succ, i64_w, i32_w]
                     rfl
                    refine pure_ (i := 3) (N := some 82) (v := ?_) (a' := ?_) #[true, true, true, true, false, false, false, false, false, false, false, false, false, false, false, false, false, false] rfl rfl (any_of HT_.out (by kernel_rfl)) (fun _ _ _ h => h) (Or.inl ⟨by rfl, ?_⟩) ?_ ?_
                    rotate_left
                    ·intro w'
                     go_simp
                     with_reducible rfl
                    rotate_left
                    ·simp only [Act.put, List.setIfInBounds_toArray, List.set_cons_zero, List.set_cons_succ, i64_w, i32_w]
                     rfl
                    refine pure_ (i := 4) (N := some 83) (v := ?_) (a' := ?_) #[true, true, true, true, true, false, false, false, false, false, false, false, false, false, false, false, false, false] rfl rfl (any_of HT_.out (by kernel_rfl)) (fun _ _ _ h => h) (Or.inl ⟨by rfl, ?_⟩) ?_ ?_
                    rotate_left
                    ·intro w'
                     go_simp
                     with_reducible rfl
                    rotate_left
                    ·simp only [Act.put, List.setIfInBounds_toArray, List.set_cons_zero, List.set_cons_succ, i64_w, i32_w]
                     rfl
                    refine pure_ (i := 5) (N := some 84) (v := undef) (a' := ?_) #[true, true, true, true, true, true, false, false, false, false, false, false, false, false, false, false, false, false] rfl rfl (any_of HT_.out (by kernel_rfl)) (fun _ _ _ h => h) (Or.inr ⟨by rfl, rfl⟩) ?_ ?_
                    rotate_left
                    ·simp only [Act.put, List.setIfInBounds_toArray, List.set_cons_zero, List.set_cons_succ, i64_w, i32_w]
                     rfl
                    refine pure_ (i := 6) (N := some 85) (v := undef) (a' := ?_) #[true, true, true, true, true, true, true, false, false, false, false, false, false, false, false, false, false, false] rfl rfl (any_of HT_.out (by kernel_rfl)) (fun _ _ _ h => h) (Or.inr ⟨by rfl, rfl⟩) ?_ ?_
                    rotate_left
                    ·simp only [Act.put, List.setIfInBounds_toArray, List.set_cons_zero, List.set_cons_succ, i64_w, i32_w]
                     rfl
                    refine pure_ (i := 7) (N := some 86) (v := undef) (a' := ?_) #[true, true, true, true, true, true, true, true, false, false, false, false, false, false, false, false, false, false] rfl rfl (any_of HT_.out (by kernel_rfl)) (fun _ _ _ h => h) (Or.inr ⟨by rfl, rfl⟩) ?_ ?_
                    rotate_left
                    ·simp only [Act.put, List.setIfInBounds_toArray, List.set_cons_zero, List.set_cons_succ, i64_w, i32_w]
                     rfl
                    refine pure_ (i := 8) (N := some 87) (v := undef) (a' := ?_) #[true, true, true, true, true, true, true, true, true, false, false, false, false, false, false, false, false, false] rfl rfl (any_of HT_.out (by kernel_rfl)) (fun _ _ _ h => h) (Or.inr ⟨by rfl, rfl⟩) ?_ ?_
                    rotate_left
                    ·simp only [Act.put, List.setIfInBounds_toArray, List.set_cons_zero, List.set_cons_succ, i64_w, i32_w]
                     rfl
                    refine pure_ (i := 9) (N := some 88) (v := undef) (a' := ?_) #[true, true, true, true, true, true, true, true, true, true, false, false, false, false, false, false, false, false] rfl rfl (any_of HT_.out (by kernel_rfl)) (fun _ _ _ h => h) (Or.inr ⟨by rfl, rfl⟩) ?_ ?_
                    rotate_left
                    ·simp only [Act.put, List.setIfInBounds_toArray, List.set_cons_zero, List.set_cons_succ, i64_w, i32_w]
                     rfl
                    refine pure_ (i := 10) (N := some 89) (v := undef) (a' := ?_) #[true, true, true, true, true, true, true, true, true, true, true, false, false, false, false, false, false, false] rfl rfl (any_of HT_.out (by kernel_rfl)) (fun _ _ _ h => h) (Or.inr ⟨by rfl, rfl⟩) ?_ ?_
                    rotate_left
                    ·simp only [Act.put, List.setIfInBounds_toArray, List.set_cons_zero, List.set_cons_succ, i64_w, i32_w]
                     rfl
                    refine pure_ (i := 11) (N := some 90) (v := undef) (a' := ?_) #[true, true, true, true, true, true, true, true, true, true, true, true, false, false, false, false, false, false] rfl rfl (any_of HT_.out (by kernel_rfl)) (fun _ _ _ h => h) (Or.inr ⟨by rfl, rfl⟩) ?_ ?_
                    rotate_left
                    ·simp only [Act.put, List.setIfInBounds_toArray, List.set_cons_zero, List.set_cons_succ, i64_w, i32_w]
                     rfl
                    refine pure_ (i := 12) (N := some 91) (v := undef) (a' := ?_) #[true, true, true, true, true, true, true, true, true, true, true, true, true, false, false, false, false, false] rfl rfl (any_of HT_.out (by kernel_rfl)) (fun _ _ _ h => h) (Or.inr ⟨by rfl, rfl⟩) ?_ ?_
                    rotate_left
                    ·simp only [Act.put, List.setIfInBounds_toArray, List.set_cons_zero, List.set_cons_succ, i64_w, i32_w]
                     rfl
                    refine pure_ (i := 13) (N := some 92) (v := undef) (a' := ?_) #[true, true, true, true, true, true, true, true, true, true, true, true, true, true, false, false, false, false] rfl rfl (any_of HT_.out (by kernel_rfl)) (fun _ _ _ h => h) (Or.inr ⟨by rfl, rfl⟩) ?_ ?_
                    rotate_left
                    ·simp only [Act.put, List.setIfInBounds_toArray, List.set_cons_zero, List.set_cons_succ, i64_w, i32_w]
                     rfl
                    refine pure_ (i := 14) (N := some 93) (v := undef) (a' := ?_) #[true, true, true, true, true, true, true, true, true, true, true, true, true, true, true, false, false, false] rfl rfl (any_of HT_.out (by kernel_rfl)) (fun _ _ _ h => h) (Or.inr ⟨by rfl, rfl⟩) ?_ ?_
                    rotate_left
                    ·simp only [Act.put, List.setIfInBounds_toArray, List.set_cons_zero, List.set_cons_succ, i64_w, i32_w]
                     rfl
                    refine pure_ (i := 15) (N := some 94) (v := undef) (a' := ?_) #[true, true, true, true, true, true, true, true, true, true, true, true, true, true, true, true, false, false] rfl rfl (any_of HT_.out (by kernel_rfl)) (fun _ _ _ h => h) (Or.inr ⟨by rfl, rfl⟩) ?_ ?_
                    rotate_left
                    ·simp only [Act.put, List.setIfInBounds_toArray, List.set_cons_zero, List.set_cons_succ, i64_w, i32_w]
                     rfl
                    refine pure_ (i := 16) (N := some 95) (v := undef) (a' := ?_) #[true, true, true, true, true, true, true, true, true, true, true, true, true, true, true, true, true, false] rfl rfl (any_of HT_.out (by kernel_rfl)) (fun _ _ _ h => h) (Or.inr ⟨by rfl, rfl⟩) ?_ ?_
                    rotate_left
                    ·simp only [Act.put, List.setIfInBounds_toArray, List.set_cons_zero, List.set_cons_succ, i64_w, i32_w]
                     rfl
                    refine pure_ (i := 17) (N := some 96) (v := ?_) (a' := ?_) #[true, true, true, true, true, true, true, true, true, true, true, true, true, true, true, true, true, true] rfl rfl (any_of HT_.out (by kernel_rfl)) (fun _ _ _ h => h) (Or.inl ⟨by rfl, ?_⟩) ?_ ?_
                    rotate_left
                    ·intro w'
                     go_simp
                     with_reducible rfl
                    rotate_left
                    ·simp only [Act.put, List.setIfInBounds_toArray, List.set_cons_zero, List.set_cons_succ, i64_w, i32_w]
                     rfl
                    refine done_ (done_of HT_.out (by kernel_rfl)) ?_
                    try go_wp2
                    go_ret
                    exact ⟨by first | rfl | (simp [errW_none, errW_some] <;> rfl) | (simp [*, errW_none, errW_some] <;> rfl), by repeat (first | (with_reducible first | exact HB.out | apply below_alloc | apply pw_below_drewN | apply below_drew1) | exact HB.out)⟩
                  ·as_aux_lemma =>
                    rw [if_neg c36] at H
                    have c36b0 : decide ((t456.length : Int) ≤ x76_3) = false := decide_eq_false c36
                    clear c36
                    by_cases c39 : 0 ≤ x76_3
                    ·rw [if_pos c39] at H
                     have c39b0 : decide (0 ≤ x76_3) = true := decide_eq_true c39
                     clear c39
                     by_cases c40 : x76_3 < (t456.length : Int)
                     ·rw [if_pos c40] at H
                      have c40b0 : decide (x76_3 < (t456.length : Int)) = true := decide_eq_true c40
                      clear c40
                      by_cases c41 : x76_3 < (l0.length : Int)
                      ·rw [if_pos c41] at H
                       have c41b0 : decide (x76_3 < (l0.length : Int)) = true := decide_eq_true c41
                       clear c41
                       by_cases c42 : 0 ≤ x50_2
                       ·rw [if_pos c42] at H
                        have c42b0 : decide (0 ≤ x50_2) = true := decide_eq_true c42
                        clear c42
                        by_cases c43 : x50_2 < ((rd_L1 l0 x76_3).length : Int)
                        ·rw [if_pos c43] at H
                         have c43b0 : decide (x50_2 < ((rd_L1 l0 x76_3).length : Int)) = true := decide_eq_true c43
                         clear c43
                         by_cases c44 : (rd t456 x76_3) = (rd (rd_L1 l0 x76_3) x50_2)
                         ·rw [if_pos c44] at H
                          have c44b0 : ((rd t456 x76_3) == (rd (rd_L1 l0 x76_3) x50_2)) = true := beq_iff_eq.mpr c44
                          have c44b1 : ((rd t456 x76_3) != (rd (rd_L1 l0 x76_3) x50_2)) = false := bne_eq_false_iff_eq.mpr c44
                          clear c44
                          have H' := Aside0.mk H
                          clear H
                          try go_wp2
                          have n0_ := Aside0.mk (Kd.R_drew HO_7.out)
                          have n1_ := Aside0.mk (Kd.R_drew HO_10.out)
                          have n2_ := Aside0.mk (below_drew1 HB.out)
                          clear HO_7
                          clear HO_10
                          clear HB
                          have HO_7 := n0_
                          have HO_10 := n1_
                          have HB := n2_
                          clear n0_ n1_ n2_
                          obtain ⟨Ao46, co46, eo46⟩ := Kd.R_slice HO_10.out
                          (first | subst eo46 | (injection eo46 with f1_ f2_ f3_; have f4_ := f1_.symm; have f5_ := f3_.symm; clear f1_ f2_ f3_; subst f4_; subst f5_))
                          have p459 : 0 ≤ (x76_3 : Int) := of_decide_eq_true (by first | (with_reducible assumption) | assumption)
                          have q459 : x76_3 < (t456.length : Int) := of_decide_eq_true (by first | (with_reducible assumption) | assumption)
                          obtain ⟨ad459, e459, hx459_0⟩ := Kd.at_int (Kd.R_reads' HO_10.out).2.2 x76_3 p459 q459
                          cases e459
                          replace p459 := eq_true p459
                          replace q459 := eq_true q459
                          have p460 : 0 ≤ (x76_3 : Int) := of_decide_eq_true (by first | (with_reducible assumption) | assumption)
                          have q460 : x76_3 < (l0.length : Int) := of_decide_eq_true (by first | (with_reducible assumption) | assumption)
                          obtain ⟨ad460, A460_0, c460_0, e460, hx460_0, hl460_0, hi460_0⟩ := at_L1 HR0.out x76_3 p460 q460
                          have hw460_0 := hx460_0
                          cases e460
                          replace hx460_0 := (HB.out.cell (World.block_lt_of_cell? w _ hx460_0)).trans hx460_0
                          have HR460_0 := Aside0.mk hi460_0
                          have HC460_0 := Aside0.mk hl460_0
                          clear hi460_0 hl460_0
                          replace p460 := eq_true p460
                          replace q460 := eq_true q460
                          have p461 : 0 ≤ (x50_2 : Int) := of_decide_eq_true (by first | (with_reducible assumption) | assumption)
                          have q461 : x50_2 < ((rd_L1 l0 x76_3).length : Int) := of_decide_eq_true (by first | (with_reducible assumption) | assumption)
                          obtain ⟨ad461, e461, hx461_0⟩ := Kd.at_int HR460_0.out x50_2 p461 q461
                          have hw461_0 := hx461_0
                          cases e461
                          replace hx461_0 := (HB.out.cell (World.block_lt_of_cell? w _ hx461_0)).trans hx461_0
                          replace p461 := eq_true p461
                          replace q461 := eq_true q461
                          refine start_ (n := 18) (S := fun w' => w'.cell? (ad459.add (x76_3).toNat) = some (.int .u8 (rd t456 x76_3)) ∧ w'.cell? (ad460.add (x76_3).toNat) = some (.slice (some ad461) (rd_L1 l0 x76_3).length c460_0) ∧ w'.cell? (ad461.add (x50_2).toNat) = some (.int .u8 (rd (rd_L1 l0 x76_3) x50_2))) (ds := []) #[false, false, false, false, false, false, false, false, false, false, false, false, false, false, false, false, false, false] (by kernel_rfl) rfl rfl ⟨hx459_0, ((HB.out.cell (World.block_lt_of_cell? w _ hw460_0)).trans hw460_0), ((HB.out.cell (World.block_lt_of_cell? w _ hw461_0)).trans hw461_0)⟩ (fun hHeld => ?_); refine with_tabW footlockerlaw03_LinearTimes.tab16 footlockerlaw03_LinearTimes.bits16 (fun HT_ HW_ => ?_)
                          generalize wr.drew = w45 at HO_7 HO_10 HB HR460_0 hx459_0 hx460_0 hx461_0 hHeld ⊢
                          refine pure_ (i := 0) (N := some 79) (v := ?_) (a' := ?_) #[true, false, false, false, false, false, false, false, false, false, false, false, false, false, false, false, false, false] rfl rfl (any_of HT_.out (by kernel_rfl)) (fun _ _ _ h => h) (Or.inl ⟨by rfl, ?_⟩) ?_ ?_
                          rotate_left
                          ·intro w'
                           go_simp
                           with_reducible rfl
                          rotate_left
                          ·simp only [Act.put, List.setIfInBounds_toArray, List.set_cons_zero, List.set_cons_succ, i64_w, i32_w]
                           rfl
                          refine pure_ (i := 1) (N := some 80) (v := ?_) (a' := ?_) #[true, true, false, false, false, false, false, false, false, false, false, false, false, false, false, false, false, false] rfl rfl (any_of HT_.out (by kernel_rfl)) (fun _ _ _ h => h) (Or.inl ⟨by rfl, ?_⟩) ?_ ?_
                          rotate_left
                          ·intro w'
                           go_simp
                           with_reducible rfl
                          rotate_left
                          ·simp only [Act.put, List.setIfInBounds_toArray, List.set_cons_zero, List.set_cons_succ, i64_w, i32_w]
                           rfl
                          refine pure_ (i := 2) (N := some 81) (v := ?_) (a' := ?_) #[true, true, true, false, false, false, false, false, false, false, false, false, false, false, false, false, false, false] rfl rfl (any_of HT_.out (by kernel_rfl)) (fun _ _ _ h => h) (Or.inl ⟨by rfl, ?_⟩) ?_ ?_
                          rotate_left
                          ·intro w'
                           go_simp
                           with_reducible rfl
                          rotate_left
                          ·simp only [Act.put, List.setIfInBounds_toArray, List.set_cons_zero, List.set_cons_succ, i64_w, i32_w]
                           rfl
                          refine pure_ (i := 3) (N := some 82) (v := ?_) (a' := ?_) #[true, true, true, true, false, false, false, false, false, false, false, false, false, false, false, false, false, false] rfl rfl (any_of HT_.out (by kernel_rfl)) (fun _ _ _ h => h) (Or.inl ⟨by rfl, ?_⟩) ?_ ?_
                          rotate_left
                          ·intro w'
                           go_simp
                           with_reducible rfl
                          rotate_left
                          ·simp only [Act.put, List.setIfInBounds_toArray, List.set_cons_zero, List.set_cons_succ, i64_w, i32_w]
                           rfl
                          refine pure_ (i := 4) (N := some 83) (v := ?_) (a' := ?_) #[true, true, true, true, true, false, false, false, false, false, false, false, false, false, false, false, false, false] rfl rfl (any_of HT_.out (by kernel_rfl)) (fun _ _ _ h => h) (Or.inl ⟨by rfl, ?_⟩) ?_ ?_
                          rotate_left
                          ·intro w'
                           go_simp
                           with_reducible rfl
                          rotate_left
                          ·simp only [Act.put, List.setIfInBounds_toArray, List.set_cons_zero, List.set_cons_succ, i64_w, i32_w]
                           rfl
                          refine pure_ (i := 5) (N := some 84) (v := ?_) (a' := ?_) #[true, true, true, true, true, true, false, false, false, false, false, false, false, false, false, false, false, false] rfl rfl (any_of HT_.out (by kernel_rfl)) (fun _ _ _ h => h) (Or.inl ⟨by rfl, ?_⟩) ?_ ?_
                          rotate_left
                          ·intro w'
                           go_simp
                           with_reducible rfl
                          rotate_left
                          ·simp only [Act.put, List.setIfInBounds_toArray, List.set_cons_zero, List.set_cons_succ, i64_w, i32_w]
                           rfl
                          refine pure_ (i := 6) (N := some 85) (v := ?_) (a' := ?_) #[true, true, true, true, true, true, true, false, false, false, false, false, false, false, false, false, false, false] rfl rfl (any_of HT_.out (by kernel_rfl)) (fun _ _ _ h => h) (Or.inl ⟨by rfl, ?_⟩) ?_ ?_
                          rotate_left
                          ·intro w'
                           go_simp
                           with_reducible rfl
                          rotate_left
                          ·simp only [Act.put, List.setIfInBounds_toArray, List.set_cons_zero, List.set_cons_succ, i64_w, i32_w]
                           rfl
                          refine pure_ (i := 7) (N := some 86) (v := ?_) (a' := ?_) #[true, true, true, true, true, true, true, true, false, false, false, false, false, false, false, false, false, false] rfl rfl (any_of HT_.out (by kernel_rfl)) (fun _ _ _ h => h) (Or.inl ⟨by rfl, ?_⟩) ?_ ?_
                          rotate_left
                          ·intro w'
                           go_simp
                           with_reducible rfl
                          rotate_left
                          ·simp only [Act.put, List.setIfInBounds_toArray, List.set_cons_zero, List.set_cons_succ, i64_w, i32_w]
                           rfl
                          refine pure_ (i := 9) (N := some 88) (v := ?_) (a' := ?_) #[true, true, true, true, true, true, true, true, false, true, false, false, false, false, false, false, false, false] rfl rfl (any_of HT_.out (by kernel_rfl)) (fun _ _ _ h => h) (Or.inl ⟨by rfl, ?_⟩) ?_ ?_
                          rotate_left
                          ·intro w'
                           go_simp
                           with_reducible rfl
                          rotate_left
                          ·simp only [Act.put, List.setIfInBounds_toArray, List.set_cons_zero, List.set_cons_succ, i64_w, i32_w]
                           rfl
                          refine pure_ (i := 10) (N := some 89) (v := ?_) (a' := ?_) #[true, true, true, true, true, true, true, true, false, true, true, false, false, false, false, false, false, false] rfl rfl (any_of HT_.out (by kernel_rfl)) (fun _ _ _ h => h) (Or.inl ⟨by rfl, ?_⟩) ?_ ?_
                          rotate_left
                          ·intro w'
                           go_simp
                           with_reducible rfl
                          rotate_left
                          ·simp only [Act.put, List.setIfInBounds_toArray, List.set_cons_zero, List.set_cons_succ, i64_w, i32_w]
                           rfl
                          refine pure_ (i := 11) (N := some 90) (v := ?_) (a' := ?_) #[true, true, true, true, true, true, true, true, false, true, true, true, false, false, false, false, false, false] rfl rfl (any_of HT_.out (by kernel_rfl)) (fun _ _ _ h => h) (Or.inl ⟨by rfl, ?_⟩) ?_ ?_
                          rotate_left
                          ·intro w'
                           go_simp
                           with_reducible rfl
                          rotate_left
                          ·simp only [Act.put, List.setIfInBounds_toArray, List.set_cons_zero, List.set_cons_succ, i64_w, i32_w]
                           rfl
                          refine pure_ (i := 13) (N := some 92) (v := ?_) (a' := ?_) #[true, true, true, true, true, true, true, true, false, true, true, true, false, true, false, false, false, false] rfl rfl (any_of HT_.out (by kernel_rfl)) (fun _ _ _ h => h) (Or.inl ⟨by rfl, ?_⟩) ?_ ?_
                          rotate_left
                          ·intro w'
                           go_simp
                           with_reducible rfl
                          rotate_left
                          ·simp only [Act.put, List.setIfInBounds_toArray, List.set_cons_zero, List.set_cons_succ, i64_w, i32_w]
                           rfl
                          refine take_ (i := 8) (N := some 87) (v := ?_) (a' := ?_) #[true, true, true, true, true, true, true, true, true, true, true, true, false, true, false, false, false, false] rfl rfl (take_ofW HT_.out HW_.out (by kernel_rfl)) (fun _ _ _ h => h) (Or.inl ⟨by rfl, ?_⟩) hHeld ?_ ?_
                          rotate_left
                          ·rintro w' ⟨s0, s1, s2⟩
                           go_simp
                           with_reducible rfl
                          rotate_left
                          ·simp only [Act.put, List.setIfInBounds_toArray, List.set_cons_zero, List.set_cons_succ, i64_w, i32_w]
                           rfl
                          refine take_ (i := 12) (N := some 91) (v := ?_) (a' := ?_) #[true, true, true, true, true, true, true, true, true, true, true, true, true, true, false, false, false, false] rfl rfl (take_ofW HT_.out HW_.out (by kernel_rfl)) (fun _ _ _ h => h) (Or.inl ⟨by rfl, ?_⟩) hHeld ?_ ?_
                          rotate_left
                          ·rintro w' ⟨s0, s1, s2⟩
                           go_simp
                           with_reducible rfl
                          rotate_left
                          ·simp only [Act.put, List.setIfInBounds_toArray, List.set_cons_zero, List.set_cons_succ, i64_w, i32_w]
                           rfl
                          refine pure_ (i := 14) (N := some 93) (v := ?_) (a' := ?_) #[true, true, true, true, true, true, true, true, true, true, true, true, true, true, true, false, false, false] rfl rfl (any_of HT_.out (by kernel_rfl)) (fun _ _ _ h => h) (Or.inl ⟨by rfl, ?_⟩) ?_ ?_
                          rotate_left
                          ·intro w'
                           go_simp
                           with_reducible rfl
                          rotate_left
                          ·simp only [Act.put, List.setIfInBounds_toArray, List.set_cons_zero, List.set_cons_succ, i64_w, i32_w]
                           rfl
                          refine take_ (i := 15) (N := some 94) (v := ?_) (a' := ?_) #[true, true, true, true, true, true, true, true, true, true, true, true, true, true, true, true, false, false] rfl rfl (take_ofW HT_.out HW_.out (by kernel_rfl)) (fun _ _ _ h => h) (Or.inl ⟨by rfl, ?_⟩) hHeld ?_ ?_
                          rotate_left
                          ·rintro w' ⟨s0, s1, s2⟩
                           go_simp
                           with_reducible rfl
                          rotate_left
                          ·simp only [Act.put, List.setIfInBounds_toArray, List.set_cons_zero, List.set_cons_succ, i64_w, i32_w]
                           rfl
                          refine pure_ (i := 16) (N := some 95) (v := ?_) (a' := ?_) #[true, true, true, true, true, true, true, true, true, true, true, true, true, true, true, true, true, false] rfl rfl (any_of HT_.out (by kernel_rfl)) (fun _ _ _ h => h) (Or.inl ⟨by rfl, ?_⟩) ?_ ?_
                          rotate_left
                          ·intro w'
                           go_simp
                           with_reducible rfl
                          rotate_left
                          ·simp only [Act.put, List.setIfInBounds_toArray, List.set_cons_zero, List.set_cons_succ, i64_w, i32_w]
                           rfl
                          refine pure_ (i := 17) (N := some 96) (v := ?_) (a' := ?_) #[true, true, true, true, true, true, true, true, true, true, true, true, true, true, true, true, true, true] rfl rfl (any_of HT_.out (by kernel_rfl)) (fun _ _ _ h => h) (Or.inl ⟨by rfl, ?_⟩) ?_ ?_
                          rotate_left
                          ·intro w'
                           go_simp
                           with_reducible rfl
                          rotate_left
                          ·simp only [Act.put, List.setIfInBounds_toArray, List.set_cons_zero, List.set_cons_succ, i64_w, i32_w]
                           rfl
                          refine done_ (done_of HT_.out (by kernel_rfl)) ?_
                          try go_wp2
                          go_roundg k3
                          case measure => have := HJ5.out; have := HK2.out; have := HK3.out; omega
                          case rel => exact ⟨(wrap64 (x76_3 + 1)), (by first | rfl | (simp; done) | (simp [*]; done)), H', ⟨by have := HJ5.out; have := HK2.out; have := HK3.out; omega⟩, ⟨by (with_reducible repeat (first | apply Kd.R_alloc | apply Kd.R_drewN | apply Kd.R_drew)); exact HO_7.out⟩, ⟨by (with_reducible repeat (first | apply Kd.R_alloc | apply Kd.R_drewN | apply Kd.R_drew)); exact HO_10.out⟩, ⟨by repeat (first | (with_reducible first | exact HB.out | apply below_alloc | apply pw_below_drewN | apply below_drew1) | exact HB.out)⟩⟩
                         ·rw [if_neg c44] at H
                          have c44b0 : ((rd t456 x76_3) == (rd (rd_L1 l0 x76_3) x50_2)) = false := beq_eq_false_iff_ne.mpr c44
                          have c44b1 : ((rd t456 x76_3) != (rd (rd_L1 l0 x76_3) x50_2)) = true := bne_iff_ne.mpr c44
                          obtain rfl := Option.some.inj H
                          try go_wp2
                          have n0_ := Aside0.mk (Kd.R_drew HO_7.out)
                          have n1_ := Aside0.mk (Kd.R_drew HO_10.out)
                          have n2_ := Aside0.mk (below_drew1 HB.out)
                          clear HO_7
                          clear HO_10
                          clear HB
                          have HO_7 := n0_
                          have HO_10 := n1_
                          have HB := n2_
                          clear n0_ n1_ n2_
                          obtain ⟨Ao48, co48, eo48⟩ := Kd.R_slice HO_10.out
                          (first | subst eo48 | (injection eo48 with f1_ f2_ f3_; have f4_ := f1_.symm; have f5_ := f3_.symm; clear f1_ f2_ f3_; subst f4_; subst f5_))
                          have p459 : 0 ≤ (x76_3 : Int) := of_decide_eq_true (by first | (with_reducible assumption) | assumption)
                          have q459 : x76_3 < (t456.length : Int) := of_decide_eq_true (by first | (with_reducible assumption) | assumption)
                          obtain ⟨ad459, e459, hx459_0⟩ := Kd.at_int (Kd.R_reads' HO_10.out).2.2 x76_3 p459 q459
                          cases e459
                          replace p459 := eq_true p459
                          replace q459 := eq_true q459
                          have p460 : 0 ≤ (x76_3 : Int) := of_decide_eq_true (by first | (with_reducible assumption) | assumption)
                          have q460 : x76_3 < (l0.length : Int) := of_decide_eq_true (by first | (with_reducible assumption) | assumption)
                          obtain ⟨ad460, A460_0, c460_0, e460, hx460_0, hl460_0, hi460_0⟩ := at_L1 HR0.out x76_3 p460 q460
                          have hw460_0 := hx460_0
                          cases e460
                          replace hx460_0 := (HB.out.cell (World.block_lt_of_cell? w _ hx460_0)).trans hx460_0
                          have HR460_0 := Aside0.mk hi460_0
                          have HC460_0 := Aside0.mk hl460_0
                          clear hi460_0 hl460_0
                          replace p460 := eq_true p460
                          replace q460 := eq_true q460
                          have p461 : 0 ≤ (x50_2 : Int) := of_decide_eq_true (by first | (with_reducible assumption) | assumption)
                          have q461 : x50_2 < ((rd_L1 l0 x76_3).length : Int) := of_decide_eq_true (by first | (with_reducible assumption) | assumption)
                          obtain ⟨ad461, e461, hx461_0⟩ := Kd.at_int HR460_0.out x50_2 p461 q461
                          have hw461_0 := hx461_0
                          cases e461
                          replace hx461_0 := (HB.out.cell (World.block_lt_of_cell? w _ hx461_0)).trans hx461_0
                          replace p461 := eq_true p461
                          replace q461 := eq_true q461
                          refine start_ (n := 18) (S := fun w' => w'.cell? (ad459.add (x76_3).toNat) = some (.int .u8 (rd t456 x76_3)) ∧ w'.cell? (ad460.add (x76_3).toNat) = some (.slice (some ad461) (rd_L1 l0 x76_3).length c460_0) ∧ w'.cell? (ad461.add (x50_2).toNat) = some (.int .u8 (rd (rd_L1 l0 x76_3) x50_2))) (ds := []) #[false, false, false, false, false, false, false, false, false, false, false, false, false, false, false, false, false, false] (by kernel_rfl) rfl rfl ⟨hx459_0, ((HB.out.cell (World.block_lt_of_cell? w _ hw460_0)).trans hw460_0), ((HB.out.cell (World.block_lt_of_cell? w _ hw461_0)).trans hw461_0)⟩ (fun hHeld => ?_); refine with_tabW footlockerlaw03_LinearTimes.tab16 footlockerlaw03_LinearTimes.bits16 (fun HT_ HW_ => ?_)
                          generalize wr.drew = w47 at HO_7 HO_10 HB HR460_0 hx459_0 hx460_0 hx461_0 hHeld ⊢
                          refine pure_ (i := 0) (N := some 79) (v := ?_) (a' := ?_) #[true, false, false, false, false, false, false, false, false, false, false, false, false, false, false, false, false, false] rfl rfl (any_of HT_.out (by kernel_rfl)) (fun _ _ _ h => h) (Or.inl ⟨by rfl, ?_⟩) ?_ ?_
                          rotate_left
                          ·intro w'
                           go_simp
                           with_reducible rfl
                          rotate_left
                          ·simp only [Act.put, List.setIfInBounds_toArray, List.set_cons_zero, List.set_cons_succ, i64_w, i32_w]
                           rfl
                          refine pure_ (i := 1) (N := some 80) (v := ?_) (a' := ?_) #[true, true, false, false, false, false, false, false, false, false, false, false, false, false, false, false, false, false] rfl rfl (any_of HT_.out (by kernel_rfl)) (fun _ _ _ h => h) (Or.inl ⟨by rfl, ?_⟩) ?_ ?_
                          rotate_left
                          ·intro w'
                           go_simp
                           with_reducible rfl
                          rotate_left
                          ·simp only [Act.put, List.setIfInBounds_toArray, List.set_cons_zero, List.set_cons_succ, i64_w, i32_w]
                           rfl
                          refine pure_ (i := 2) (N := some 81) (v := ?_) (a' := ?_) #[true, true, true, false, false, false, false, false, false, false, false, false, false, false, false, false, false, false] rfl rfl (any_of HT_.out (by kernel_rfl)) (fun _ _ _ h => h) (Or.inl ⟨by rfl, ?_⟩) ?_ ?_
                          rotate_left
                          ·intro w'
                           go_simp
                           with_reducible rfl
                          rotate_left
                          ·simp only [Act.put, List.setIfInBounds_toArray, List.set_cons_zero, List.set_cons_succ, i64_w, i32_w]
                           rfl
                          refine pure_ (i := 3) (N := some 82) (v := ?_) (a' := ?_) #[true, true, true, true, false, false, false, false, false, false, false, false, false, false, false, false, false, false] rfl rfl (any_of HT_.out (by kernel_rfl)) (fun _ _ _ h => h) (Or.inl ⟨by rfl, ?_⟩) ?_ ?_
                          rotate_left
                          ·intro w'
                           go_simp
                           with_reducible rfl
                          rotate_left
                          ·simp only [Act.put, List.setIfInBounds_toArray, List.set_cons_zero, List.set_cons_succ, i64_w, i32_w]
                           rfl
                          refine pure_ (i := 4) (N := some 83) (v := ?_) (a' := ?_) #[true, true, true, true, true, false, false, false, false, false, false, false, false, false, false, false, false, false] rfl rfl (any_of HT_.out (by kernel_rfl)) (fun _ _ _ h => h) (Or.inl ⟨by rfl, ?_⟩) ?_ ?_
                          rotate_left
                          ·intro w'
                           go_simp
                           with_reducible rfl
                          rotate_left
                          ·simp only [Act.put, List.setIfInBounds_toArray, List.set_cons_zero, List.set_cons_succ, i64_w, i32_w]
                           rfl
                          refine pure_ (i := 5) (N := some 84) (v := ?_) (a' := ?_) #[true, true, true, true, true, true, false, false, false, false, false, false, false, false, false, false, false, false] rfl rfl (any_of HT_.out (by kernel_rfl)) (fun _ _ _ h => h) (Or.inl ⟨by rfl, ?_⟩) ?_ ?_
                          rotate_left
                          ·intro w'
                           go_simp
                           with_reducible rfl
                          rotate_left
                          ·simp only [Act.put, List.setIfInBounds_toArray, List.set_cons_zero, List.set_cons_succ, i64_w, i32_w]
                           rfl
                          refine pure_ (i := 6) (N := some 85) (v := ?_) (a' := ?_) #[true, true, true, true, true, true, true, false, false, false, false, false, false, false, false, false, false, false] rfl rfl (any_of HT_.out (by kernel_rfl)) (fun _ _ _ h => h) (Or.inl ⟨by rfl, ?_⟩) ?_ ?_
                          rotate_left
                          ·intro w'
                           go_simp
                           with_reducible rfl
                          rotate_left
                          ·simp only [Act.put, List.setIfInBounds_toArray, List.set_cons_zero, List.set_cons_succ, i64_w, i32_w]
                           rfl
                          refine pure_ (i := 7) (N := some 86) (v := ?_) (a' := ?_) #[true, true, true, true, true, true, true, true, false, false, false, false, false, false, false, false, false, false] rfl rfl (any_of HT_.out (by kernel_rfl)) (fun _ _ _ h => h) (Or.inl ⟨by rfl, ?_⟩) ?_ ?_
                          rotate_left
                          ·intro w'
                           go_simp
                           with_reducible rfl
                          rotate_left
                          ·simp only [Act.put, List.setIfInBounds_toArray, List.set_cons_zero, List.set_cons_succ, i64_w, i32_w]
                           rfl
                          refine pure_ (i := 9) (N := some 88) (v := ?_) (a' := ?_) #[true, true, true, true, true, true, true, true, false, true, false, false, false, false, false, false, false, false] rfl rfl (any_of HT_.out (by kernel_rfl)) (fun _ _ _ h => h) (Or.inl ⟨by rfl, ?_⟩) ?_ ?_
                          rotate_left
                          ·intro w'
                           go_simp
                           with_reducible rfl
                          rotate_left
                          ·simp only [Act.put, List.setIfInBounds_toArray, List.set_cons_zero, List.set_cons_succ, i64_w, i32_w]
                           rfl
                          refine pure_ (i := 10) (N := some 89) (v := ?_) (a' := ?_) #[true, true, true, true, true, true, true, true, false, true, true, false, false, false, false, false, false, false] rfl rfl (any_of HT_.out (by kernel_rfl)) (fun _ _ _ h => h) (Or.inl ⟨by rfl, ?_⟩) ?_ ?_
                          rotate_left
                          ·intro w'
                           go_simp
                           with_reducible rfl
                          rotate_left
                          ·simp only [Act.put, List.setIfInBounds_toArray, List.set_cons_zero, List.set_cons_succ, i64_w, i32_w]
                           rfl
                          refine pure_ (i := 11) (N := some 90) (v := ?_) (a' := ?_) #[true, true, true, true, true, true, true, true, false, true, true, true, false, false, false, false, false, false] rfl rfl (any_of HT_.out (by kernel_rfl)) (fun _ _ _ h => h) (Or.inl ⟨by rfl, ?_⟩) ?_ ?_
                          rotate_left
                          ·intro w'
                           go_simp
                           with_reducible rfl
                          rotate_left
                          ·simp only [Act.put, List.setIfInBounds_toArray, List.set_cons_zero, List.set_cons_succ, i64_w, i32_w]
                           rfl
                          refine pure_ (i := 13) (N := some 92) (v := ?_) (a' := ?_) #[true, true, true, true, true, true, true, true, false, true, true, true, false, true, false, false, false, false] rfl rfl (any_of HT_.out (by kernel_rfl)) (fun _ _ _ h => h) (Or.inl ⟨by rfl, ?_⟩) ?_ ?_
                          rotate_left
                          ·intro w'
                           go_simp
                           with_reducible rfl
                          rotate_left
                          ·simp only [Act.put, List.setIfInBounds_toArray, List.set_cons_zero, List.set_cons_succ, i64_w, i32_w]
                           rfl
                          refine take_ (i := 8) (N := some 87) (v := ?_) (a' := ?_) #[true, true, true, true, true, true, true, true, true, true, true, true, false, true, false, false, false, false] rfl rfl (take_ofW HT_.out HW_.out (by kernel_rfl)) (fun _ _ _ h => h) (Or.inl ⟨by rfl, ?_⟩) hHeld ?_ ?_
                          rotate_left
                          ·rintro w' ⟨s0, s1, s2⟩
                           go_simp
                           with_reducible rfl
                          rotate_left
                          ·simp only [Act.put, List.setIfInBounds_toArray, List.set_cons_zero, List.set_cons_succ, i64_w, i32_w]
                           rfl
                          refine take_ (i := 12) (N := some 91) (v := ?_) (a' := ?_) #[true, true, true, true, true, true, true, true, true, true, true, true, true, true, false, false, false, false] rfl rfl (take_ofW HT_.out HW_.out (by kernel_rfl)) (fun _ _ _ h => h) (Or.inl ⟨by rfl, ?_⟩) hHeld ?_ ?_
                          rotate_left
                          ·rintro w' ⟨s0, s1, s2⟩
                           go_simp
                           with_reducible rfl
                          rotate_left
                          ·simp only [Act.put, List.setIfInBounds_toArray, List.set_cons_zero, List.set_cons_succ, i64_w, i32_w]
                           rfl
                          refine pure_ (i := 14) (N := some 93) (v := ?_) (a' := ?_) #[true, true, true, true, true, true, true, true, true, true, true, true, true, true, true, false, false, false] rfl rfl (any_of HT_.out (by kernel_rfl)) (fun _ _ _ h => h) (Or.inl ⟨by rfl, ?_⟩) ?_ ?_
                          rotate_left
                          ·intro w'
                           go_simp
                           with_reducible rfl
                          rotate_left
                          ·simp only [Act.put, List.setIfInBounds_toArray, List.set_cons_zero, List.set_cons_succ, i64_w, i32_w]
                           rfl
                          refine take_ (i := 15) (N := some 94) (v := ?_) (a' := ?_) #[true, true, true, true, true, true, true, true, true, true, true, true, true, true, true, true, false, false] rfl rfl (take_ofW HT_.out HW_.out (by kernel_rfl)) (fun _ _ _ h => h) (Or.inl ⟨by rfl, ?_⟩) hHeld ?_ ?_
                          rotate_left
                          ·rintro w' ⟨s0, s1, s2⟩
                           go_simp
                           with_reducible rfl
                          rotate_left
                          ·simp only [Act.put, List.setIfInBounds_toArray, List.set_cons_zero, List.set_cons_succ, i64_w, i32_w]
                           rfl
                          refine pure_ (i := 16) (N := some 95) (v := ?_) (a' := ?_) #[true, true, true, true, true, true, true, true, true, true, true, true, true, true, true, true, true, false] rfl rfl (any_of HT_.out (by kernel_rfl)) (fun _ _ _ h => h) (Or.inl ⟨by rfl, ?_⟩) ?_ ?_
                          rotate_left
                          ·intro w'
                           go_simp
                           with_reducible rfl
                          rotate_left
                          ·simp only [Act.put, List.setIfInBounds_toArray, List.set_cons_zero, List.set_cons_succ, i64_w, i32_w]
                           rfl
                          refine pure_ (i := 17) (N := some 96) (v := ?_) (a' := ?_) #[true, true, true, true, true, true, true, true, true, true, true, true, true, true, true, true, true, true] rfl rfl (any_of HT_.out (by kernel_rfl)) (fun _ _ _ h => h) (Or.inl ⟨by rfl, ?_⟩) ?_ ?_
                          rotate_left
                          ·intro w'
                           go_simp
                           with_reducible rfl
                          rotate_left
                          ·simp only [Act.put, List.setIfInBounds_toArray, List.set_cons_zero, List.set_cons_succ, i64_w, i32_w]
                           rfl
                          refine done_ (done_of HT_.out (by kernel_rfl)) ?_
                          try go_wp2
                          go_ret
                          exact ⟨by first | rfl | (simp [errW_none, errW_some] <;> rfl) | (simp [*, errW_none, errW_some] <;> rfl), by repeat (first | (with_reducible first | exact HB.out | apply below_alloc | apply pw_below_drewN | apply below_drew1) | exact HB.out)⟩
                        ·rw [if_neg c43] at H
                         exact absurd H (by simp)
                       ·rw [if_neg c42] at H
                        exact absurd H (by simp)
                      ·rw [if_neg c41] at H
                       exact absurd H (by simp)
                     ·rw [if_neg c40] at H
                      exact absurd H (by simp)
                    ·rw [if_neg c39] at H
                     exact absurd H (by simp)
                 ·rw [if_neg c35] at H
                  have c35b0 : decide (x76_3 < (l0.length : Int)) = false := decide_eq_false c35
                  clear c35
                  have H' := Aside0.mk H
                  clear H
                  go_wp2
                  go_roundg k3
                  case measure => have := HJ5.out; have := HK2.out; have := HK3.out; omega
                  case rel => exact ⟨(y449), (wrap64 (x50_2 + 1)), (by first | rfl | (simp; done) | (simp [*]; done)), H', ⟨by have := HJ5.out; have := HK2.out; have := HK3.out; omega⟩, ⟨by (with_reducible repeat (first | apply Kd.R_alloc | apply Kd.R_drewN | apply Kd.R_drew)); exact Kd.R_mono HO_7.out (fun _ hk => trivial)⟩, ⟨by repeat (first | (with_reducible first | exact HB.out | apply below_alloc | apply pw_below_drewN | apply below_drew1) | exact HB.out)⟩⟩
              ·rw [if_neg c25] at H
               exact absurd H (by simp)
             ·rw [if_neg c24] at H
              exact absurd H (by simp)
            ·rw [if_neg c23] at H
             exact absurd H (by simp)
           ·rw [if_neg c22] at H
            exact absurd H (by simp)
          ·rw [if_neg c21] at H
           exact absurd H (by simp)
         ·rw [if_neg c20] at H
          exact absurd H (by simp)
        ·rw [if_neg c19] at H
         exact absurd H (by simp)
       ·rw [if_neg c18] at H
        have c18b0 : decide (x50_2 < (l1.length : Int)) = false := decide_eq_false c18
        clear c18
        replace H := Option.bind_eq_some_iff.mp H
        obtain ⟨t462, A490, H⟩ := H
        replace H : ((linear_Times.f k2 l0 l2).bind fun t465 => ((linear_Times.f k2 l0 x7_2).bind fun t468 => (if (t462.length : Int) = (l0.length : Int) then (if (t465.length : Int) = (l0.length : Int) then (footlockerlaw03_LinearTimes.j3 k2 t462 t465 t468 ((t468.length : Int) != (l0.length : Int))) else (footlockerlaw03_LinearTimes.j3 k2 t462 t465 t468 true)) else (footlockerlaw03_LinearTimes.j3 k2 t462 t465 t468 true)))) = some r := H
        have A49 := Aside0.mk A490
        clear A490
        replace H := Option.bind_eq_some_iff.mp H
        obtain ⟨t465, A500, H⟩ := H
        replace H : ((linear_Times.f k2 l0 x7_2).bind fun t468 => (if (t462.length : Int) = (l0.length : Int) then (if (t465.length : Int) = (l0.length : Int) then (footlockerlaw03_LinearTimes.j3 k2 t462 t465 t468 ((t468.length : Int) != (l0.length : Int))) else (footlockerlaw03_LinearTimes.j3 k2 t462 t465 t468 true)) else (footlockerlaw03_LinearTimes.j3 k2 t462 t465 t468 true))) = some r := H
        have A50 := Aside0.mk A500
        clear A500
        replace H := Option.bind_eq_some_iff.mp H
        obtain ⟨t468, A510, H⟩ := H
        replace H : (if (t462.length : Int) = (l0.length : Int) then (if (t465.length : Int) = (l0.length : Int) then (footlockerlaw03_LinearTimes.j3 k2 t462 t465 t468 ((t468.length : Int) != (l0.length : Int))) else (footlockerlaw03_LinearTimes.j3 k2 t462 t465 t468 true)) else (footlockerlaw03_LinearTimes.j3 k2 t462 t465 t468 true)) = some r := H
        have A51 := Aside0.mk A510
        clear A510
        have HC52 := Aside0.mk H
        clear H
        go_upto_region 21 with (first | ((with_reducible refine gate_callee (f := 19) rfl ?_); refine goesL_ (some 101) rfl rfl Try.func19 (by kernel_rfl) rfl #[.slice A0 l0.length c0, .slice A1 l1.length c1] rfl (by (try simp only [List.map_toArray, List.map_cons, List.map_nil]); first | done | rfl | (simp only [List.length_drop, List.length_take]; rfl)) ?_; (with_reducible refine (linear_Times.calls k2 _ _ l0 _ _ l1 t462 _ ?side1 ?side2 ?side3 ?side4 A49.out).mono ?_); (case side1 => repeat (first | exact (Kd.C_below HR0.out HB.out) | (with_reducible refine Kd.C_alloc ?_ _) | (with_reducible refine Kd.C_drewN ?_ _) | (with_reducible refine Kd.C_drew ?_))); (case side2 => exact HC0.out); (case side3 => repeat (first | exact (Kd.C_below HR1.out HB.out) | (with_reducible refine Kd.C_alloc ?_ _) | (with_reducible refine Kd.C_drewN ?_ _) | (with_reducible refine Kd.C_drew ?_))); (case side4 => exact HC1.out); rintro e w53 ⟨v463, rfl, ho0, hb⟩; refine ⟨_, rfl, ?_⟩; have n0_ := Aside0.mk (Kd.R_elder' (by (with_reducible repeat (first | apply Kd.R_alloc | apply Kd.R_drewN | apply Kd.R_drew)); exact HO_7.out) (Kd.R_base ho0) hb); have n1_ := Aside0.mk (Kd.R_lower (Kd.R_new' ho0 (Kd.R_lt (by (with_reducible repeat (first | apply Kd.R_alloc | apply Kd.R_drewN | apply Kd.R_drew)); exact HO_7.out))) (below_size (by repeat (first | (with_reducible first | exact HB.out | apply below_alloc | apply pw_below_drewN | apply below_drew1) | exact HB.out)))); have n2_ := Aside0.mk (below_step (by repeat (first | (with_reducible first | exact HB.out | apply below_alloc | apply pw_below_drewN | apply below_drew1) | exact HB.out)) hb); clear HO_7; clear HB; have HO_7 := n0_; have HO464 := n1_; have HB := n2_; clear n0_ n1_ n2_; (try clear hb); (try clear hb2); (try clear hk); (try clear hi); (try clear ho0)) | ((with_reducible refine gate_callee (f := 19) rfl ?_); refine goesL_ (some 104) rfl rfl Try.func19 (by kernel_rfl) rfl #[.slice A0 l0.length c0, .slice A2 l2.length c2] rfl (by (try simp only [List.map_toArray, List.map_cons, List.map_nil]); first | done | rfl | (simp only [List.length_drop, List.length_take]; rfl)) ?_; (with_reducible refine (linear_Times.calls k2 _ _ l0 _ _ l2 t465 _ ?side1 ?side2 ?side3 ?side4 A50.out).mono ?_); (case side1 => repeat (first | exact (Kd.C_below HR0.out HB.out) | (with_reducible refine Kd.C_alloc ?_ _) | (with_reducible refine Kd.C_drewN ?_ _) | (with_reducible refine Kd.C_drew ?_))); (case side2 => exact HC0.out); (case side3 => repeat (first | exact (Kd.C_below HR2.out HB.out) | (with_reducible refine Kd.C_alloc ?_ _) | (with_reducible refine Kd.C_drewN ?_ _) | (with_reducible refine Kd.C_drew ?_))); (case side4 => exact HC2.out); rintro e w54 ⟨v466, rfl, ho0, hb⟩; refine ⟨_, rfl, ?_⟩; have n0_ := Aside0.mk (Kd.R_elder' (by (with_reducible repeat (first | apply Kd.R_alloc | apply Kd.R_drewN | apply Kd.R_drew)); exact HO_7.out) (Kd.R_base ho0) hb); have n1_ := Aside0.mk (Kd.R_elder' (by (with_reducible repeat (first | apply Kd.R_alloc | apply Kd.R_drewN | apply Kd.R_drew)); exact HO464.out) (Kd.R_base ho0) hb); have n2_ := Aside0.mk (Kd.R_lower (Kd.R_new' (Kd.R_new' ho0 (Kd.R_lt (by (with_reducible repeat (first | apply Kd.R_alloc | apply Kd.R_drewN | apply Kd.R_drew)); exact HO_7.out))) (Kd.R_lt (by (with_reducible repeat (first | apply Kd.R_alloc | apply Kd.R_drewN | apply Kd.R_drew)); exact HO464.out))) (below_size (by repeat (first | (with_reducible first | exact HB.out | apply below_alloc | apply pw_below_drewN | apply below_drew1) | exact HB.out)))); have n3_ := Aside0.mk (below_step (by repeat (first | (with_reducible first | exact HB.out | apply below_alloc | apply pw_below_drewN | apply below_drew1) | exact HB.out)) hb); clear HO_7; clear HO464; clear HB; have HO_7 := n0_; have HO464 := n1_; have HO467 := n2_; have HB := n3_; clear n0_ n1_ n2_ n3_; (try clear hb); (try clear hb2); (try clear hk); (try clear hi); (try clear ho0); obtain ⟨Ao55, co55, eo55⟩ := Kd.R_slice HO_7.out; subst eo55) | ((with_reducible refine gate_callee (f := 19) rfl ?_); refine goesL_ (some 107) rfl rfl Try.func19 (by kernel_rfl) rfl #[.slice A0 l0.length c0, .slice Ao55 x7_2.length co55] rfl (by (try simp only [List.map_toArray, List.map_cons, List.map_nil]); first | done | rfl | (simp only [List.length_drop, List.length_take]; rfl)) ?_; (with_reducible refine (linear_Times.calls k2 _ _ l0 _ _ x7_2 t468 _ ?side1 ?side2 ?side3 ?side4 A51.out).mono ?_); (case side1 => repeat (first | exact (Kd.C_below HR0.out HB.out) | (with_reducible refine Kd.C_alloc ?_ _) | (with_reducible refine Kd.C_drewN ?_ _) | (with_reducible refine Kd.C_drew ?_))); (case side2 => exact HC0.out); (case side3 => repeat (first | exact (Kd.R_reads' HO_7.out).2.2 | (with_reducible refine Kd.C_alloc ?_ _) | (with_reducible refine Kd.C_drewN ?_ _) | (with_reducible refine Kd.C_drew ?_))); (case side4 => exact (Kd.R_reads' HO_7.out).2.1); rintro e w56 ⟨v469, rfl, ho0, hb⟩; refine ⟨_, rfl, ?_⟩; have n0_ := Aside0.mk (Kd.R_elder' (by (with_reducible repeat (first | apply Kd.R_alloc | apply Kd.R_drewN | apply Kd.R_drew)); exact HO_7.out) (Kd.R_base ho0) hb); have n1_ := Aside0.mk (Kd.R_elder' (by (with_reducible repeat (first | apply Kd.R_alloc | apply Kd.R_drewN | apply Kd.R_drew)); exact HO464.out) (Kd.R_base ho0) hb); have n2_ := Aside0.mk (Kd.R_elder' (by (with_reducible repeat (first | apply Kd.R_alloc | apply Kd.R_drewN | apply Kd.R_drew)); exact HO467.out) (Kd.R_base ho0) hb); have n3_ := Aside0.mk (Kd.R_lower (Kd.R_new' (Kd.R_new' (Kd.R_new' ho0 (Kd.R_lt (by (with_reducible repeat (first | apply Kd.R_alloc | apply Kd.R_drewN | apply Kd.R_drew)); exact HO_7.out))) (Kd.R_lt (by (with_reducible repeat (first | apply Kd.R_alloc | apply Kd.R_drewN | apply Kd.R_drew)); exact HO464.out))) (Kd.R_lt (by (with_reducible repeat (first | apply Kd.R_alloc | apply Kd.R_drewN | apply Kd.R_drew)); exact HO467.out))) (below_size (by repeat (first | (with_reducible first | exact HB.out | apply below_alloc | apply pw_below_drewN | apply below_drew1) | exact HB.out)))); have n4_ := Aside0.mk (below_step (by repeat (first | (with_reducible first | exact HB.out | apply below_alloc | apply pw_below_drewN | apply below_drew1) | exact HB.out)) hb); clear HO_7; clear HO464; clear HO467; clear HB; have HO_7 := n0_; have HO464 := n1_; have HO467 := n2_; have HO470 := n3_; have HB := n4_; clear n0_ n1_ n2_ n3_ n4_; (try clear hb); (try clear hb2); (try clear hk); (try clear hi); (try clear ho0)))
        (try simp only [Act.put, List.setIfInBounds_toArray, List.set_cons_zero, List.set_cons_succ])
        go_cut [126] (fun v126 wc => ∃ (kq : Nat) (x126_51 : Bool), v126 = .bool x126_51 ∧ Aside0 (footlockerlaw03_LinearTimes.j3 kq t462 t465 t468 x126_51 = some r) ∧ Aside0 (kq ≤ k2) ∧ Aside0 (Kd.R (Kd.int .u8) 5 wc w.heap.size (fun k_ => some k_ ≠ (v466 : Value).ownBlock ∧ some k_ ≠ (v469 : Value).ownBlock) v463 t462) ∧ Aside0 (Kd.R (Kd.int .u8) 5 wc w.heap.size (fun k_ => some k_ ≠ (v463 : Value).ownBlock ∧ some k_ ≠ (v469 : Value).ownBlock) v466 t465) ∧ Aside0 (Kd.R (Kd.int .u8) 5 wc w.heap.size (fun k_ => some k_ ≠ (v463 : Value).ownBlock ∧ some k_ ≠ (v466 : Value).ownBlock) v469 t468) ∧ Aside0 (Below w.heap.size w wc))
        case first =>
         have H := HC52.out
         clear HC52
         by_cases c57 : (t462.length : Int) = (l0.length : Int)
         ·rw [if_pos c57] at H
          have c57b0 : ((t462.length : Int) == (l0.length : Int)) = true := beq_iff_eq.mpr c57
          have c57b1 : ((t462.length : Int) != (l0.length : Int)) = false := bne_eq_false_iff_eq.mpr c57
          have c57b2 : (t462.length == l0.length) = true := by first | simpa using c57 | (simp at c57 ⊢; omega)
          clear c57
          (first | rw [c57b0] | (simp only [i64_w, i32_w]; rw [c57b0]) | skip)
          by_cases c58 : (t465.length : Int) = (l0.length : Int)
          ·rw [if_pos c58] at H
           have c58b0 : ((t465.length : Int) == (l0.length : Int)) = true := beq_iff_eq.mpr c58
           have c58b1 : ((t465.length : Int) != (l0.length : Int)) = false := bne_eq_false_iff_eq.mpr c58
           have c58b2 : (t465.length == l0.length) = true := by first | simpa using c58 | (simp at c58 ⊢; omega)
           clear c58
           have H' := Aside0.mk H
           clear H
           obtain ⟨Ao59, co59, eo59⟩ := Kd.R_slice HO464.out
           subst eo59
           obtain ⟨Ao60, co60, eo60⟩ := Kd.R_slice HO467.out
           subst eo60
           obtain ⟨Ao61, co61, eo61⟩ := Kd.R_slice HO470.out
           subst eo61
           go_wp2
           go_meet
           case rel => exact ⟨_, (((t468.length : Int) != (l0.length : Int))), (by first | rfl | (simp; done) | (simp [*]; done)), H', ⟨by have := HJ5.out; have := HK2.out; first | omega | exact Nat.le_refl _⟩, ⟨by (with_reducible repeat (first | apply Kd.R_alloc | apply Kd.R_drewN | apply Kd.R_drew)); exact Kd.R_mono HO464.out (fun _ hk => ⟨hk.1.2, hk.2⟩)⟩, ⟨by (with_reducible repeat (first | apply Kd.R_alloc | apply Kd.R_drewN | apply Kd.R_drew)); exact Kd.R_mono HO467.out (fun _ hk => ⟨hk.1.2, hk.2⟩)⟩, ⟨by (with_reducible repeat (first | apply Kd.R_alloc | apply Kd.R_drewN | apply Kd.R_drew)); exact Kd.R_mono HO470.out (fun _ hk => ⟨hk.1.2, hk.2⟩)⟩, ⟨by repeat (first | (with_reducible first | exact HB.out | apply below_alloc | apply pw_below_drewN | apply below_drew1) | exact HB.out)⟩⟩
          ·rw [if_neg c58] at H
           have c58b0 : ((t465.length : Int) == (l0.length : Int)) = false := beq_eq_false_iff_ne.mpr c58
           have c58b1 : ((t465.length : Int) != (l0.length : Int)) = true := bne_iff_ne.mpr c58
           have c58b2 : (t465.length == l0.length) = false := by first | simpa using c58 | (simp at c58 ⊢; omega)
           have H' := Aside0.mk H
           clear H
           obtain ⟨Ao62, co62, eo62⟩ := Kd.R_slice HO464.out
           subst eo62
           obtain ⟨Ao63, co63, eo63⟩ := Kd.R_slice HO467.out
           subst eo63
           go_wp2
           go_meet
           case rel => exact ⟨_, (true), (by first | rfl | (simp; done) | (simp [*]; done)), H', ⟨by have := HJ5.out; have := HK2.out; first | omega | exact Nat.le_refl _⟩, ⟨by (with_reducible repeat (first | apply Kd.R_alloc | apply Kd.R_drewN | apply Kd.R_drew)); exact Kd.R_mono HO464.out (fun _ hk => ⟨hk.1.2, hk.2⟩)⟩, ⟨by (with_reducible repeat (first | apply Kd.R_alloc | apply Kd.R_drewN | apply Kd.R_drew)); exact Kd.R_mono HO467.out (fun _ hk => ⟨hk.1.2, hk.2⟩)⟩, ⟨by (with_reducible repeat (first | apply Kd.R_alloc | apply Kd.R_drewN | apply Kd.R_drew)); exact Kd.R_mono HO470.out (fun _ hk => ⟨hk.1.2, hk.2⟩)⟩, ⟨by repeat (first | (with_reducible first | exact HB.out | apply below_alloc | apply pw_below_drewN | apply below_drew1) | exact HB.out)⟩⟩
         ·rw [if_neg c57] at H
          have c57b0 : ((t462.length : Int) == (l0.length : Int)) = false := beq_eq_false_iff_ne.mpr c57
          have c57b1 : ((t462.length : Int) != (l0.length : Int)) = true := bne_iff_ne.mpr c57
          have c57b2 : (t462.length == l0.length) = false := by first | simpa using c57 | (simp at c57 ⊢; omega)
          (first | rw [c57b0] | (simp only [i64_w, i32_w]; rw [c57b0]) | skip)
          have H' := Aside0.mk H
          clear H
          obtain ⟨Ao64, co64, eo64⟩ := Kd.R_slice HO464.out
          subst eo64
          go_wp2
          go_meet
          case rel => exact ⟨_, (true), (by first | rfl | (simp; done) | (simp [*]; done)), H', ⟨by have := HJ5.out; have := HK2.out; first | omega | exact Nat.le_refl _⟩, ⟨by (with_reducible repeat (first | apply Kd.R_alloc | apply Kd.R_drewN | apply Kd.R_drew)); exact Kd.R_mono HO464.out (fun _ hk => ⟨hk.1.2, hk.2⟩)⟩, ⟨by (with_reducible repeat (first | apply Kd.R_alloc | apply Kd.R_drewN | apply Kd.R_drew)); exact Kd.R_mono HO467.out (fun _ hk => ⟨hk.1.2, hk.2⟩)⟩, ⟨by (with_reducible repeat (first | apply Kd.R_alloc | apply Kd.R_drewN | apply Kd.R_drew)); exact Kd.R_mono HO470.out (fun _ hk => ⟨hk.1.2, hk.2⟩)⟩, ⟨by repeat (first | (with_reducible first | exact HB.out | apply below_alloc | apply pw_below_drewN | apply below_drew1) | exact HB.out)⟩⟩
        case rest =>
         clear HC52
         try clear c1
         try clear c2
         try clear p2
         try clear c3
         try clear c4
         try clear p4
         try clear q4
         try clear hx4
         try clear c5
         try clear p6
         try clear c18
         try clear c18b0
         try clear c19
         try clear c20
         try clear c21
         try clear c22
         try clear c23
         try clear c24
         try clear c25
         try clear c35
         try clear c35b0
         try clear c36
         try clear c36b0
         try clear c39
         try clear c39b0
         try clear c40
         try clear c40b0
         try clear c41
         try clear c41b0
         try clear c42
         try clear c42b0
         try clear c43
         try clear c43b0
         try clear c44
         try clear c44b0
         try clear c44b1
         try clear p45
         try clear q45
         try clear hx45
         try clear c46
         try clear p46
         try clear q46
         try clear hx46
         try clear c57
         try clear c57b0
         try clear c57b1
         try clear c57b2
         try clear c58
         try clear c58b0
         try clear c58b1
         try clear c58b2
         try clear p64
         try clear hx459_0
         try clear hx460_0
         try clear hx461_0
         try clear p459
         try clear p460
         try clear p461
         try clear q459
         try clear q460
         try clear q461
         obtain ⟨kq, x126_51, rfl, HA, HJ51, HO_12, HO_13, HO_14, HB⟩ := hcut
         cases kq with
         | zero => exact absurd HA.out (by simp [footlockerlaw03_LinearTimes.j3])
         | succ kj51 =>
          have H := HA.out
          clear HA
          simp only [footlockerlaw03_LinearTimes.j3] at H
          by_cases c65 : x126_51 = true
          ·subst c65
           have H1 : (some false) = some r := by rw [if_pos rfl] at H; exact H
           clear H
           have H := H1
           clear H1
           obtain rfl := Option.some.inj H
           go_wp2
           go_ret
           exact ⟨by first | rfl | (simp [errW_none, errW_some] <;> rfl) | (simp [*, errW_none, errW_some] <;> rfl), by repeat (first | (with_reducible first | exact HB.out | apply below_alloc | apply pw_below_drewN | apply below_drew1) | exact HB.out)⟩
          ·as_aux_lemma =>
            replace c65 := Bool.eq_false_iff.mpr c65
            subst c65
            have H1 : (footlockerlaw03_LinearTimes.l2 kj51 t462 t465 t468 (t468.length : Int) 0) = some r := by rw [if_neg (show ¬ (false = true) by decide)] at H; exact H
            clear H
            have H := H1
            clear H1
            have H' := Aside0.mk H
            clear H
            obtain ⟨Ao66, co66, eo66⟩ := Kd.R_slice HO_14.out
            subst eo66
            go_wp2
            go_loopg [129] kj51 (fun kq v129 w' => ∃ (x129_4 : Int), v129 = .int .i64 x129_4 ∧ Aside0 (footlockerlaw03_LinearTimes.l2 kq t462 t465 t468 (t468.length : Int) x129_4 = some r) ∧ Aside0 (kq ≤ kj51) ∧ Aside0 (Kd.R (Kd.int .u8) 5 w' w.heap.size (fun k_ => some k_ ≠ (v466 : Value).ownBlock ∧ some k_ ≠ ((.slice Ao66 t468.length co66) : Value).ownBlock) v463 t462) ∧ Aside0 (Kd.R (Kd.int .u8) 5 w' w.heap.size (fun k_ => some k_ ≠ (v463 : Value).ownBlock ∧ some k_ ≠ ((.slice Ao66 t468.length co66) : Value).ownBlock) v466 t465) ∧ Aside0 (Kd.R (Kd.int .u8) 5 w' w.heap.size (fun k_ => some k_ ≠ (v463 : Value).ownBlock ∧ some k_ ≠ (v466 : Value).ownBlock) (.slice Ao66 t468.length co66) t468) ∧ Aside0 (Below w.heap.size w w'))
            case atStart => exact ⟨(0), (by first | rfl | (simp; done) | (simp [*]; done)), H', ⟨Nat.le_refl _⟩, ⟨by (with_reducible repeat (first | apply Kd.R_alloc | apply Kd.R_drewN | apply Kd.R_drew)); exact HO_12.out⟩, ⟨by (with_reducible repeat (first | apply Kd.R_alloc | apply Kd.R_drewN | apply Kd.R_drew)); exact HO_13.out⟩, ⟨by (with_reducible repeat (first | apply Kd.R_alloc | apply Kd.R_drewN | apply Kd.R_drew)); exact HO_14.out⟩, ⟨by repeat (first | (with_reducible first | exact HB.out | apply below_alloc | apply pw_below_drewN | apply below_drew1) | exact HB.out)⟩⟩
            case round =>
             clear H'
             try clear c1
             try clear c2
             try clear p2
             try clear c3
             try clear c4
             try clear p4
             try clear q4
             try clear hx4
             try clear c5
             try clear c6
             try clear p6
             try clear c18
             try clear c18b0
             try clear c19
             try clear c20
             try clear c21
             try clear c22
             try clear c23
             try clear c24
             try clear c25
             try clear c35
             try clear c35b0
             try clear c36
             try clear c36b0
             try clear c39
             try clear c39b0
             try clear c40
             try clear c40b0
             try clear c41
             try clear c41b0
             try clear c42
             try clear c42b0
             try clear c43
             try clear c43b0
             try clear c44
             try clear c44b0
             try clear c44b1
             try clear p45
             try clear q45
             try clear hx45
             try clear c46
             try clear p46
             try clear q46
             try clear hx46
             try clear c57
             try clear c57b0
             try clear c57b1
             try clear c57b2
             try clear c58
             try clear c58b0
             try clear c58b1
             try clear c58b2
             try clear p64
             try clear c65
             try clear hx459_0
             try clear hx460_0
             try clear hx461_0
             try clear p2
             try clear p4
             try clear p45
             try clear p459
             try clear p46
             try clear p460
             try clear p461
             try clear p6
             try clear p64
             try clear q4
             try clear q45
             try clear q459
             try clear q46
             try clear q460
             try clear q461
             obtain ⟨x129_4, rfl, HA, HK4, HO_12, HO_13, HO_14, HB⟩ := hrel
             cases gk with
             | zero => exact absurd HA.out (by simp [footlockerlaw03_LinearTimes.l2])
             | succ k4 =>
              have H := HA.out
              clear HA
              simp only [footlockerlaw03_LinearTimes.l2] at H
              by_cases c67 : x129_4 < (t468.length : Int)
              ·rw [if_pos c67] at H
               have c67b0 : decide (x129_4 < (t468.length : Int)) = true := decide_eq_true c67
               clear c67
               by_cases c68 : 0 ≤ x129_4
               ·rw [if_pos c68] at H
                have c68b0 : decide (0 ≤ x129_4) = true := decide_eq_true c68
                clear c68
                by_cases c69 : x129_4 < (t468.length : Int)
                ·rw [if_pos c69] at H
                 have c69b0 : decide (x129_4 < (t468.length : Int)) = true := decide_eq_true c69
                 clear c69
                 by_cases c70 : x129_4 < (t462.length : Int)
                 ·rw [if_pos c70] at H
                  have c70b0 : decide (x129_4 < (t462.length : Int)) = true := decide_eq_true c70
                  clear c70
                  by_cases c71 : x129_4 < (t465.length : Int)
                  ·rw [if_pos c71] at H
                   have c71b0 : decide (x129_4 < (t465.length : Int)) = true := decide_eq_true c71
                   clear c71
                   by_cases c72 : (rd t468 x129_4) = (Go.bits .xor .u8 (rd t462 x129_4) (rd t465 x129_4))
                   ·rw [if_pos c72] at H
                    have c72b0 : ((rd t468 x129_4) == (Go.bits .xor .u8 (rd t462 x129_4) (rd t465 x129_4))) = true := beq_iff_eq.mpr c72
                    have c72b1 : ((rd t468 x129_4) != (Go.bits .xor .u8 (rd t462 x129_4) (rd t465 x129_4))) = false := bne_eq_false_iff_eq.mpr c72
                    clear c72
                    have H' := Aside0.mk H
                    clear H
                    try go_wp2
                    have n0_ := Aside0.mk (Kd.R_drew HO_12.out)
                    have n1_ := Aside0.mk (Kd.R_drew HO_13.out)
                    have n2_ := Aside0.mk (Kd.R_drew HO_14.out)
                    have n3_ := Aside0.mk (below_drew1 HB.out)
                    clear HO_12
                    clear HO_13
                    clear HO_14
                    clear HB
                    have HO_12 := n0_
                    have HO_13 := n1_
                    have HO_14 := n2_
                    have HB := n3_
                    clear n0_ n1_ n2_ n3_
                    have p471 : 0 ≤ (x129_4 : Int) := of_decide_eq_true (by first | (with_reducible assumption) | assumption)
                    have q471 : x129_4 < (t468.length : Int) := of_decide_eq_true (by first | (with_reducible assumption) | assumption)
                    obtain ⟨ad471, e471, hx471_0⟩ := Kd.at_int (Kd.R_reads' HO_14.out).2.2 x129_4 p471 q471
                    cases e471
                    replace p471 := eq_true p471
                    replace q471 := eq_true q471
                    obtain ⟨Ao74, co74, eo74⟩ := Kd.R_slice HO_12.out
                    (first | subst eo74 | (injection eo74 with f1_ f2_ f3_; have f4_ := f1_.symm; have f5_ := f3_.symm; clear f1_ f2_ f3_; subst f4_; subst f5_))
                    have p472 : 0 ≤ (x129_4 : Int) := of_decide_eq_true (by first | (with_reducible assumption) | assumption)
                    have q472 : x129_4 < (t462.length : Int) := of_decide_eq_true (by first | (with_reducible assumption) | assumption)
                    obtain ⟨ad472, e472, hx472_0⟩ := Kd.at_int (Kd.R_reads' HO_12.out).2.2 x129_4 p472 q472
                    cases e472
                    replace p472 := eq_true p472
                    replace q472 := eq_true q472
                    obtain ⟨Ao75, co75, eo75⟩ := Kd.R_slice HO_13.out
                    (first | subst eo75 | (injection eo75 with f1_ f2_ f3_; have f4_ := f1_.symm; have f5_ := f3_.symm; clear f1_ f2_ f3_; subst f4_; subst f5_))
                    have p473 : 0 ≤ (x129_4 : Int) := of_decide_eq_true (by first | (with_reducible assumption) | assumption)
                    have q473 : x129_4 < (t465.length : Int) := of_decide_eq_true (by first | (with_reducible assumption) | assumption)
                    obtain ⟨ad473, e473, hx473_0⟩ := Kd.at_int (Kd.R_reads' HO_13.out).2.2 x129_4 p473 q473
                    cases e473
                    replace p473 := eq_true p473
                    replace q473 := eq_true q473
                    refine start_ (n := 14) (S := fun w' => w'.cell? (ad471.add (x129_4).toNat) = some (.int .u8 (rd t468 x129_4)) ∧ w'.cell? (ad472.add (x129_4).toNat) = some (.int .u8 (rd t462 x129_4)) ∧ w'.cell? (ad473.add (x129_4).toNat) = some (.int .u8 (rd t465 x129_4))) (ds := []) #[false, false, false, false, false, false, false, false, false, false, false, false, false, false] (by kernel_rfl) rfl rfl ⟨hx471_0, hx472_0, hx473_0⟩ (fun hHeld => ?_); refine with_tabW footlockerlaw03_LinearTimes.tab26 footlockerlaw03_LinearTimes.bits26 (fun HT_ HW_ => ?_)
                    generalize wr.drew = w73 at HO_12 HO_13 HO_14 HB hx471_0 hx472_0 hx473_0 hHeld ⊢
                    refine pure_ (i := 0) (N := some 132) (v := ?_) (a' := ?_) #[true, false, false, false, false, false, false, false, false, false, false, false, false, false] rfl rfl (any_of HT_.out (by kernel_rfl)) (fun _ _ _ h => h) (Or.inl ⟨by rfl, ?_⟩) ?_ ?_
                    rotate_left
                    ·intro w'
                     go_simp
                     with_reducible rfl
                    rotate_left
                    ·simp only [Act.put, List.setIfInBounds_toArray, List.set_cons_zero, List.set_cons_succ, i64_w, i32_w]
                     rfl
                    refine pure_ (i := 1) (N := some 133) (v := ?_) (a' := ?_) #[true, true, false, false, false, false, false, false, false, false, false, false, false, false] rfl rfl (any_of HT_.out (by kernel_rfl)) (fun _ _ _ h => h) (Or.inl ⟨by rfl, ?_⟩) ?_ ?_
                    rotate_left
                    ·intro w'
                     go_simp
                     with_reducible rfl
                    rotate_left
                    ·simp only [Act.put, List.setIfInBounds_toArray, List.set_cons_zero, List.set_cons_succ, i64_w, i32_w]
                     rfl
                    refine pure_ (i := 2) (N := some 134) (v := ?_) (a' := ?_) #[true, true, true, false, false, false, false, false, false, false, false, false, false, false] rfl rfl (any_of HT_.out (by kernel_rfl)) (fun _ _ _ h => h) (Or.inl ⟨by rfl, ?_⟩) ?_ ?_
                    rotate_left
                    ·intro w'
                     go_simp
                     with_reducible rfl
                    rotate_left
                    ·simp only [Act.put, List.setIfInBounds_toArray, List.set_cons_zero, List.set_cons_succ, i64_w, i32_w]
                     rfl
                    refine pure_ (i := 4) (N := some 136) (v := ?_) (a' := ?_) #[true, true, true, false, true, false, false, false, false, false, false, false, false, false] rfl rfl (any_of HT_.out (by kernel_rfl)) (fun _ _ _ h => h) (Or.inl ⟨by rfl, ?_⟩) ?_ ?_
                    rotate_left
                    ·intro w'
                     go_simp
                     with_reducible rfl
                    rotate_left
                    ·simp only [Act.put, List.setIfInBounds_toArray, List.set_cons_zero, List.set_cons_succ, i64_w, i32_w]
                     rfl
                    refine pure_ (i := 5) (N := some 137) (v := ?_) (a' := ?_) #[true, true, true, false, true, true, false, false, false, false, false, false, false, false] rfl rfl (any_of HT_.out (by kernel_rfl)) (fun _ _ _ h => h) (Or.inl ⟨by rfl, ?_⟩) ?_ ?_
                    rotate_left
                    ·intro w'
                     go_simp
                     with_reducible rfl
                    rotate_left
                    ·simp only [Act.put, List.setIfInBounds_toArray, List.set_cons_zero, List.set_cons_succ, i64_w, i32_w]
                     rfl
                    refine pure_ (i := 6) (N := some 138) (v := ?_) (a' := ?_) #[true, true, true, false, true, true, true, false, false, false, false, false, false, false] rfl rfl (any_of HT_.out (by kernel_rfl)) (fun _ _ _ h => h) (Or.inl ⟨by rfl, ?_⟩) ?_ ?_
                    rotate_left
                    ·intro w'
                     go_simp
                     with_reducible rfl
                    rotate_left
                    ·simp only [Act.put, List.setIfInBounds_toArray, List.set_cons_zero, List.set_cons_succ, i64_w, i32_w]
                     rfl
                    refine pure_ (i := 8) (N := some 140) (v := ?_) (a' := ?_) #[true, true, true, false, true, true, true, false, true, false, false, false, false, false] rfl rfl (any_of HT_.out (by kernel_rfl)) (fun _ _ _ h => h) (Or.inl ⟨by rfl, ?_⟩) ?_ ?_
                    rotate_left
                    ·intro w'
                     go_simp
                     with_reducible rfl
                    rotate_left
                    ·simp only [Act.put, List.setIfInBounds_toArray, List.set_cons_zero, List.set_cons_succ, i64_w, i32_w]
                     rfl
                    refine pure_ (i := 9) (N := some 141) (v := ?_) (a' := ?_) #[true, true, true, false, true, true, true, false, true, true, false, false, false, false] rfl rfl (any_of HT_.out (by kernel_rfl)) (fun _ _ _ h => h) (Or.inl ⟨by rfl, ?_⟩) ?_ ?_
                    rotate_left
                    ·intro w'
                     go_simp
                     with_reducible rfl
                    rotate_left
                    ·simp only [Act.put, List.setIfInBounds_toArray, List.set_cons_zero, List.set_cons_succ, i64_w, i32_w]
                     rfl
                    refine pure_ (i := 10) (N := some 142) (v := ?_) (a' := ?_) #[true, true, true, false, true, true, true, false, true, true, true, false, false, false] rfl rfl (any_of HT_.out (by kernel_rfl)) (fun _ _ _ h => h) (Or.inl ⟨by rfl, ?_⟩) ?_ ?_
                    rotate_left
                    ·intro w'
                     go_simp
                     with_reducible rfl
                    rotate_left
                    ·simp only [Act.put, List.setIfInBounds_toArray, List.set_cons_zero, List.set_cons_succ, i64_w, i32_w]
                     rfl
                    refine take_ (i := 3) (N := some 135) (v := ?_) (a' := ?_) #[true, true, true, true, true, true, true, false, true, true, true, false, false, false] rfl rfl (take_ofW HT_.out HW_.out (by kernel_rfl)) (fun _ _ _ h => h) (Or.inl ⟨by rfl, ?_⟩) hHeld ?_ ?_
                    rotate_left
                    ·rintro w' ⟨s0, s1, s2⟩
                     go_simp
                     with_reducible rfl
                    rotate_left
                    ·simp only [Act.put, List.setIfInBounds_toArray, List.set_cons_zero, List.set_cons_succ, i64_w, i32_w]
                     rfl
                    refine take_ (i := 7) (N := some 139) (v := ?_) (a' := ?_) #[true, true, true, true, true, true, true, true, true, true, true, false, false, false] rfl rfl (take_ofW HT_.out HW_.out (by kernel_rfl)) (fun _ _ _ h => h) (Or.inl ⟨by rfl, ?_⟩) hHeld ?_ ?_
                    rotate_left
                    ·rintro w' ⟨s0, s1, s2⟩
                     go_simp
                     with_reducible rfl
                    rotate_left
                    ·simp only [Act.put, List.setIfInBounds_toArray, List.set_cons_zero, List.set_cons_succ, i64_w, i32_w]
                     rfl
                    refine take_ (i := 11) (N := some 143) (v := ?_) (a' := ?_) #[true, true, true, true, true, true, true, true, true, true, true, true, false, false] rfl rfl (take_ofW HT_.out HW_.out (by kernel_rfl)) (fun _ _ _ h => h) (Or.inl ⟨by rfl, ?_⟩) hHeld ?_ ?_
                    rotate_left
                    ·rintro w' ⟨s0, s1, s2⟩
                     go_simp
                     with_reducible rfl
                    rotate_left
                    ·simp only [Act.put, List.setIfInBounds_toArray, List.set_cons_zero, List.set_cons_succ, i64_w, i32_w]
                     rfl
                    refine pure_ (i := 12) (N := some 144) (v := ?_) (a' := ?_) #[true, true, true, true, true, true, true, true, true, true, true, true, true, false] rfl rfl (any_of HT_.out (by kernel_rfl)) (fun _ _ _ h => h) (Or.inl ⟨by rfl, ?_⟩) ?_ ?_
                    rotate_left
                    ·intro w'
                     go_simp
                     with_reducible rfl
                    rotate_left
                    ·simp only [Act.put, List.setIfInBounds_toArray, List.set_cons_zero, List.set_cons_succ, i64_w, i32_w]
                     rfl
                    refine pure_ (i := 13) (N := some 145) (v := ?_) (a' := ?_) #[true, true, true, true, true, true, true, true, true, true, true, true, true, true] rfl rfl (any_of HT_.out (by kernel_rfl)) (fun _ _ _ h => h) (Or.inl ⟨by rfl, ?_⟩) ?_ ?_
                    rotate_left
                    ·intro w'
                     go_simp
                     with_reducible rfl
                    rotate_left
                    ·simp only [Act.put, List.setIfInBounds_toArray, List.set_cons_zero, List.set_cons_succ, i64_w, i32_w]
                     rfl
                    refine done_ (done_of HT_.out (by kernel_rfl)) ?_
                    try go_wp2
                    go_roundg k4
                    case measure => have := HJ5.out; have := HK2.out; have := HJ51.out; have := HK4.out; omega
                    case rel => exact ⟨(wrap64 (x129_4 + 1)), (by first | rfl | (simp; done) | (simp [*]; done)), H', ⟨by have := HJ5.out; have := HK2.out; have := HJ51.out; have := HK4.out; omega⟩, ⟨by (with_reducible repeat (first | apply Kd.R_alloc | apply Kd.R_drewN | apply Kd.R_drew)); exact HO_12.out⟩, ⟨by (with_reducible repeat (first | apply Kd.R_alloc | apply Kd.R_drewN | apply Kd.R_drew)); exact HO_13.out⟩, ⟨by (with_reducible repeat (first | apply Kd.R_alloc | apply Kd.R_drewN | apply Kd.R_drew)); exact HO_14.out⟩, ⟨by repeat (first | (with_reducible first | exact HB.out | apply below_alloc | apply pw_below_drewN | apply below_drew1) | exact HB.out)⟩⟩
                   ·rw [if_neg c72] at H
                    have c72b0 : ((rd t468 x129_4) == (Go.bits .xor .u8 (rd t462 x129_4) (rd t465 x129_4))) = false := beq_eq_false_iff_ne.mpr c72
                    have c72b1 : ((rd t468 x129_4) != (Go.bits .xor .u8 (rd t462 x129_4) (rd t465 x129_4))) = true := bne_iff_ne.mpr c72
                    obtain rfl := Option.some.inj H
                    try go_wp2
                    have n0_ := Aside0.mk (Kd.R_drew HO_12.out)
                    have n1_ := Aside0.mk (Kd.R_drew HO_13.out)
                    have n2_ := Aside0.mk (Kd.R_drew HO_14.out)
                    have n3_ := Aside0.mk (below_drew1 HB.out)
                    clear HO_12
                    clear HO_13
                    clear HO_14
                    clear HB
                    have HO_12 := n0_
                    have HO_13 := n1_
                    have HO_14 := n2_
                    have HB := n3_
                    clear n0_ n1_ n2_ n3_
                    have p471 : 0 ≤ (x129_4 : Int) := of_decide_eq_true (by first | (with_reducible assumption) | assumption)
                    have q471 : x129_4 < (t468.length : Int) := of_decide_eq_true (by first | (with_reducible assumption) | assumption)
                    obtain ⟨ad471, e471, hx471_0⟩ := Kd.at_int (Kd.R_reads' HO_14.out).2.2 x129_4 p471 q471
                    cases e471
                    replace p471 := eq_true p471
                    replace q471 := eq_true q471
                    obtain ⟨Ao77, co77, eo77⟩ := Kd.R_slice HO_12.out
                    (first | subst eo77 | (injection eo77 with f1_ f2_ f3_; have f4_ := f1_.symm; have f5_ := f3_.symm; clear f1_ f2_ f3_; subst f4_; subst f5_))
                    have p472 : 0 ≤ (x129_4 : Int) := of_decide_eq_true (by first | (with_reducible assumption) | assumption)
                    have q472 : x129_4 < (t462.length : Int) := of_decide_eq_true (by first | (with_reducible assumption) | assumption)
                    obtain ⟨ad472, e472, hx472_0⟩ := Kd.at_int (Kd.R_reads' HO_12.out).2.2 x129_4 p472 q472
                    cases e472
                    replace p472 := eq_true p472
                    replace q472 := eq_true q472
                    obtain ⟨Ao78, co78, eo78⟩ := Kd.R_slice HO_13.out
                    (first | subst eo78 | (injection eo78 with f1_ f2_ f3_; have f4_ := f1_.symm; have f5_ := f3_.symm; clear f1_ f2_ f3_; subst f4_; subst f5_))
                    have p473 : 0 ≤ (x129_4 : Int) := of_decide_eq_true (by first | (with_reducible assumption) | assumption)
                    have q473 : x129_4 < (t465.length : Int) := of_decide_eq_true (by first | (with_reducible assumption) | assumption)
                    obtain ⟨ad473, e473, hx473_0⟩ := Kd.at_int (Kd.R_reads' HO_13.out).2.2 x129_4 p473 q473
                    cases e473
                    replace p473 := eq_true p473
                    replace q473 := eq_true q473
                    refine start_ (n := 14) (S := fun w' => w'.cell? (ad471.add (x129_4).toNat) = some (.int .u8 (rd t468 x129_4)) ∧ w'.cell? (ad472.add (x129_4).toNat) = some (.int .u8 (rd t462 x129_4)) ∧ w'.cell? (ad473.add (x129_4).toNat) = some (.int .u8 (rd t465 x129_4))) (ds := []) #[false, false, false, false, false, false, false, false, false, false, false, false, false, false] (by kernel_rfl) rfl rfl ⟨hx471_0, hx472_0, hx473_0⟩ (fun hHeld => ?_); refine with_tabW footlockerlaw03_LinearTimes.tab26 footlockerlaw03_LinearTimes.bits26 (fun HT_ HW_ => ?_)
                    generalize wr.drew = w76 at HO_12 HO_13 HO_14 HB hx471_0 hx472_0 hx473_0 hHeld ⊢
                    refine pure_ (i := 0) (N := some 132) (v := ?_) (a' := ?_) #[true, false, false, false, false, false, false, false, false, false, false, false, false, false] rfl rfl (any_of HT_.out (by kernel_rfl)) (fun _ _ _ h => h) (Or.inl ⟨by rfl, ?_⟩) ?_ ?_
                    rotate_left
                    ·intro w'
                     go_simp
                     with_reducible rfl
                    rotate_left
                    ·simp only [Act.put, List.setIfInBounds_toArray, List.set_cons_zero, List.set_cons_succ, i64_w, i32_w]
                     rfl
                    refine pure_ (i := 1) (N := some 133) (v := ?_) (a' := ?_) #[true, true, false, false, false, false, false, false, false, false, false, false, false, false] rfl rfl (any_of HT_.out (by kernel_rfl)) (fun _ _ _ h => h) (Or.inl ⟨by rfl, ?_⟩) ?_ ?_
                    rotate_left
                    ·intro w'
                     go_simp
                     with_reducible rfl
                    rotate_left
                    ·simp only [Act.put, List.setIfInBounds_toArray, List.set_cons_zero, List.set_cons_succ, i64_w, i32_w]
                     rfl
                    refine pure_ (i := 2) (N := some 134) (v := ?_) (a' := ?_) #[true, true, true, false, false, false, false, false, false, false, false, false, false, false] rfl rfl (any_of HT_.out (by kernel_rfl)) (fun _ _ _ h => h) (Or.inl ⟨by rfl, ?_⟩) ?_ ?_
                    rotate_left
                    ·intro w'
                     go_simp
                     with_reducible rfl
                    rotate_left
                    ·simp only [Act.put, List.setIfInBounds_toArray, List.set_cons_zero, List.set_cons_succ, i64_w, i32_w]
                     rfl
                    refine pure_ (i := 4) (N := some 136) (v := ?_) (a' := ?_) #[true, true, true, false, true, false, false, false, false, false, false, false, false, false] rfl rfl (any_of HT_.out (by kernel_rfl)) (fun _ _ _ h => h) (Or.inl ⟨by rfl, ?_⟩) ?_ ?_
                    rotate_left
                    ·intro w'
                     go_simp
                     with_reducible rfl
                    rotate_left
                    ·simp only [Act.put, List.setIfInBounds_toArray, List.set_cons_zero, List.set_cons_succ, i64_w, i32_w]
                     rfl
                    refine pure_ (i := 5) (N := some 137) (v := ?_) (a' := ?_) #[true, true, true, false, true, true, false, false, false, false, false, false, false, false] rfl rfl (any_of HT_.out (by kernel_rfl)) (fun _ _ _ h => h) (Or.inl ⟨by rfl, ?_⟩) ?_ ?_
                    rotate_left
                    ·intro w'
                     go_simp
                     with_reducible rfl
                    rotate_left
                    ·simp only [Act.put, List.setIfInBounds_toArray, List.set_cons_zero, List.set_cons_succ, i64_w, i32_w]
                     rfl
                    refine pure_ (i := 6) (N := some 138) (v := ?_) (a' := ?_) #[true, true, true, false, true, true, true, false, false, false, false, false, false, false] rfl rfl (any_of HT_.out (by kernel_rfl)) (fun _ _ _ h => h) (Or.inl ⟨by rfl, ?_⟩) ?_ ?_
                    rotate_left
                    ·intro w'
                     go_simp
                     with_reducible rfl
                    rotate_left
                    ·simp only [Act.put, List.setIfInBounds_toArray, List.set_cons_zero, List.set_cons_succ, i64_w, i32_w]
                     rfl
                    refine pure_ (i := 8) (N := some 140) (v := ?_) (a' := ?_) #[true, true, true, false, true, true, true, false, true, false, false, false, false, false] rfl rfl (any_of HT_.out (by kernel_rfl)) (fun _ _ _ h => h) (Or.inl ⟨by rfl, ?_⟩) ?_ ?_
                    rotate_left
                    ·intro w'
                     go_simp
                     with_reducible rfl
                    rotate_left
                    ·simp only [Act.put, List.setIfInBounds_toArray, List.set_cons_zero, List.set_cons_succ, i64_w, i32_w]
                     rfl
                    refine pure_ (i := 9) (N := some 141) (v := ?_) (a' := ?_) #[true, true, true, false, true, true, true, false, true, true, false, false, false, false] rfl rfl (any_of HT_.out (by kernel_rfl)) (fun _ _ _ h => h) (Or.inl ⟨by rfl, ?_⟩) ?_ ?_
                    rotate_left
                    ·intro w'
                     go_simp
                     with_reducible rfl
                    rotate_left
                    ·simp only [Act.put, List.setIfInBounds_toArray, List.set_cons_zero, List.set_cons_succ, i64_w, i32_w]
                     rfl
                    refine pure_ (i := 10) (N := some 142) (v := ?_) (a' := ?_) #[true, true, true, false, true, true, true, false, true, true, true, false, false, false] rfl rfl (any_of HT_.out (by kernel_rfl)) (fun _ _ _ h => h) (Or.inl ⟨by rfl, ?_⟩) ?_ ?_
                    rotate_left
                    ·intro w'
                     go_simp
                     with_reducible rfl
                    rotate_left
                    ·simp only [Act.put, List.setIfInBounds_toArray, List.set_cons_zero, List.set_cons_succ, i64_w, i32_w]
                     rfl
                    refine take_ (i := 3) (N := some 135) (v := ?_) (a' := ?_) #[true, true, true, true, true, true, true, false, true, true, true, false, false, false] rfl rfl (take_ofW HT_.out HW_.out (by kernel_rfl)) (fun _ _ _ h => h) (Or.inl ⟨by rfl, ?_⟩) hHeld ?_ ?_
                    rotate_left
                    ·rintro w' ⟨s0, s1, s2⟩
                     go_simp
                     with_reducible rfl
                    rotate_left
                    ·simp only [Act.put, List.setIfInBounds_toArray, List.set_cons_zero, List.set_cons_succ, i64_w, i32_w]
                     rfl
                    refine take_ (i := 7) (N := some 139) (v := ?_) (a' := ?_) #[true, true, true, true, true, true, true, true, true, true, true, false, false, false] rfl rfl (take_ofW HT_.out HW_.out (by kernel_rfl)) (fun _ _ _ h => h) (Or.inl ⟨by rfl, ?_⟩) hHeld ?_ ?_
                    rotate_left
                    ·rintro w' ⟨s0, s1, s2⟩
                     go_simp
                     with_reducible rfl
                    rotate_left
                    ·simp only [Act.put, List.setIfInBounds_toArray, List.set_cons_zero, List.set_cons_succ, i64_w, i32_w]
                     rfl
                    refine take_ (i := 11) (N := some 143) (v := ?_) (a' := ?_) #[true, true, true, true, true, true, true, true, true, true, true, true, false, false] rfl rfl (take_ofW HT_.out HW_.out (by kernel_rfl)) (fun _ _ _ h => h) (Or.inl ⟨by rfl, ?_⟩) hHeld ?_ ?_
                    rotate_left
                    ·rintro w' ⟨s0, s1, s2⟩
                     go_simp
                     with_reducible rfl
                    rotate_left
                    ·simp only [Act.put, List.setIfInBounds_toArray, List.set_cons_zero, List.set_cons_succ, i64_w, i32_w]
                     rfl
                    refine pure_ (i := 12) (N := some 144) (v := ?_) (a' := ?_) #[true, true, true, true, true, true, true, true, true, true, true, true, true, false] rfl rfl (any_of HT_.out (by kernel_rfl)) (fun _ _ _ h => h) (Or.inl ⟨by rfl, ?_⟩) ?_ ?_
                    rotate_left
                    ·intro w'
                     go_simp
                     with_reducible rfl
                    rotate_left
                    ·simp only [Act.put, List.setIfInBounds_toArray, List.set_cons_zero, List.set_cons_succ, i64_w, i32_w]
                     rfl
                    refine pure_ (i := 13) (N := some 145) (v := ?_) (a' := ?_) #[true, true, true, true, true, true, true, true, true, true, true, true, true, true] rfl rfl (any_of HT_.out (by kernel_rfl)) (fun _ _ _ h => h) (Or.inl ⟨by rfl, ?_⟩) ?_ ?_
                    rotate_left
                    ·intro w'
                     go_simp
                     with_reducible rfl
                    rotate_left
                    ·simp only [Act.put, List.setIfInBounds_toArray, List.set_cons_zero, List.set_cons_succ, i64_w, i32_w]
                     rfl
                    refine done_ (done_of HT_.out (by kernel_rfl)) ?_
                    try go_wp2
                    go_ret
                    exact ⟨by first | rfl | (simp [errW_none, errW_some] <;> rfl) | (simp [*, errW_none, errW_some] <;> rfl), by repeat (first | (with_reducible first | exact HB.out | apply below_alloc | apply pw_below_drewN | apply below_drew1) | exact HB.out)⟩
                  ·rw [if_neg c71] at H
                   exact absurd H (by simp)
                 ·rw [if_neg c70] at H
                  exact absurd H (by simp)
                ·rw [if_neg c69] at H
                 exact absurd H (by simp)
               ·rw [if_neg c68] at H
                exact absurd H (by simp)
              ·rw [if_neg c67] at H
               have c67b0 : decide (x129_4 < (t468.length : Int)) = false := decide_eq_false c67
               clear c67
               obtain rfl := Option.some.inj H
               go_wp2
               go_ret
               exact ⟨by first | rfl | (simp [errW_none, errW_some] <;> rfl) | (simp [*, errW_none, errW_some] <;> rfl), by repeat (first | (with_reducible first | exact HB.out | apply below_alloc | apply pw_below_drewN | apply below_drew1) | exact HB.out)⟩
 ·replace c5 := Bool.eq_false_iff.mpr c5
  subst c5
  have H1 : (some false) = some r := by rw [if_neg (show ¬ (false = true) by decide)] at H; exact H
  clear H
  have H := H1
  clear H1
  obtain rfl := Option.some.inj H
  go_enter Try.func8, Try.ntmps8
  go_wp2_with (first | ((with_reducible refine gate_callee (f := 9) rfl ?_); refine goesL_ (some 16) rfl rfl Try.func9 (by kernel_rfl) rfl #[] rfl (by (try simp only [List.map_toArray, List.map_cons, List.map_nil]); first | done | rfl | (simp only [List.length_drop, List.length_take]; rfl)) ?_; (with_reducible refine (footlockerlaw03_alive.calls k  false _ A4.out).mono ?_); rintro e w79 ⟨rfl, hb⟩; refine ⟨_, rfl, ?_⟩; have n0_ := Aside0.mk (below_step (by repeat (first | (with_reducible first | exact HB.out | apply below_alloc | apply pw_below_drewN | apply below_drew1) | exact HB.out)) hb); clear HB; have HB := n0_; clear n0_; (try clear hb); (try clear hb2); (try clear hk); (try clear hi)))
  go_ret
  exact ⟨by first | rfl | (simp [errW_none, errW_some] <;> rfl) | (simp [*, errW_none, errW_some] <;> rfl), by repeat (first | (with_reducible first | exact HB.out | apply below_alloc | apply pw_below_drewN | apply below_drew1) | exact HB.out)⟩
def footlockerlaw03_LinearTimes.Pure : Prop := ∀ (l0 : List (List Int)) (l1 : List Int) (l2 : List Int), (l0.length ≤ maxLen ∧ ∀ x2_ ∈ l0, x2_.length ≤ maxLen ∧ ∀ x3_ ∈ x2_, (Lit.int .u8 x3_).wf = true) → (l1.length ≤ maxLen ∧ ∀ x2_ ∈ l1, (Lit.int .u8 x2_).wf = true) → (l2.length ≤ maxLen ∧ ∀ x2_ ∈ l2, (Lit.int .u8 x2_).wf = true) → ∃ k, footlockerlaw03_LinearTimes.f k l0 l1 l2 = some true
theorem footlockerlaw03_LinearTimes.walk (P : footlockerlaw03_LinearTimes.Pure) (A0 : Option Addr) (c0 : Nat) (l0 : List (List Int)) (A1 : Option Addr) (c1 : Nat) (l1 : List Int) (A2 : Option Addr) (c2 : Nat) (l2 : List Int) (w : World) (hr0 : Kd.C (Kd.slice 5 (Kd.int .u8)) w A0 l0.length l0) (hc0 : l0.length ≤ c0) (w0 : l0.length ≤ maxLen ∧ ∀ x2_ ∈ l0, x2_.length ≤ maxLen ∧ ∀ x3_ ∈ x2_, (Lit.int .u8 x3_).wf = true) (hr1 : Kd.C (Kd.int .u8) w A1 l1.length l1) (hc1 : l1.length ≤ c1) (w1 : l1.length ≤ maxLen ∧ ∀ x2_ ∈ l1, (Lit.int .u8 x2_).wf = true) (hr2 : Kd.C (Kd.int .u8) w A2 l2.length l2) (hc2 : l2.length ≤ c2) (w2 : l2.length ≤ maxLen ∧ ∀ x2_ ∈ l2, (Lit.int .u8 x2_).wf = true) :
 Calls Try.prog 8 #[.slice A0 l0.length c0, .slice A1 l1.length c1, .slice A2 l2.length c2] w fun e w' => e = .returned (.bool true) ∧ Below w.heap.size w w' := by
 obtain ⟨k, h⟩ := P l0 l1 l2 w0 w1 w2
 refine (footlockerlaw03_LinearTimes.calls k A0 c0 l0 A1 c1 l1 A2 c2 l2 true w hr0 hc0 hr1 hc1 hr2 hc2 h).mono ?_
 rintro e w' ⟨rfl, hd⟩
 exact ⟨rfl, hd⟩
end Go.Proofs.Ytanknpdibjfmlaa.P
namespace Go.Proofs.Ytanknpdibjfmlaa.Al
open Go Go.Proofs.YtanknpdibjfmlaaW.PrintWords Go.Proofs.YtanknpdibjfmlaaW.PrintMore
structure G where
 v : BitVec 8
theorem G.eq_of {a b : G} (h : a.v = b.v) : a = b := by cases a; cases b; simp_all
instance : DecidableEq G := fun a b => if h : a.v = b.v then .isTrue (G.eq_of h) else .isFalse (fun e => h (by rw [e]))
instance : Zero G := ⟨⟨0#8⟩⟩
instance : Add G := ⟨fun a b => ⟨a.v ^^^ b.v⟩⟩
def xt (a : BitVec 8) : BitVec 8 := (a <<< 1) ^^^ (if a.getLsbD 7 then 0x1D#8 else 0#8)
def cb (c : Bool) (a : BitVec 8) : BitVec 8 := if c then a else 0#8
def gm (a b : BitVec 8) : BitVec 8 :=
 cb (b.getLsbD 0) a ^^^ (cb (b.getLsbD 1) (xt a) ^^^ (cb (b.getLsbD 2) (xt (xt a)) ^^^ (cb (b.getLsbD 3) (xt (xt (xt a))) ^^^ (cb (b.getLsbD 4) (xt (xt (xt (xt a)))) ^^^
  (cb (b.getLsbD 5) (xt (xt (xt (xt (xt a))))) ^^^ (cb (b.getLsbD 6) (xt (xt (xt (xt (xt (xt a)))))) ^^^ cb (b.getLsbD 7) (xt (xt (xt (xt (xt (xt (xt a)))))))))))))
instance : One G := ⟨⟨1#8⟩⟩
instance : Mul G := ⟨fun a b => ⟨gm a.v b.v⟩⟩
theorem zero_v : (0 : G).v = 0#8 := rfl
theorem add_v (a b : G) : (a + b).v = a.v ^^^ b.v := rfl
theorem cb_xor (c d : Bool) (a : BitVec 8) : cb (c ^^ d) a = cb c a ^^^ cb d a := by
 cases c <;> cases d <;> simp [cb]
theorem cb_add (c : Bool) (a b : BitVec 8) : cb c (a ^^^ b) = cb c a ^^^ cb c b := by
 cases c <;> simp [cb]
theorem xt_add (a b : BitVec 8) : xt (a ^^^ b) = xt a ^^^ xt b := by
 unfold xt
 have h : (a ^^^ b).getLsbD 7 = (a.getLsbD 7 ^^ b.getLsbD 7) := by simp
 have e : ∀ c : Bool, (if c then 0x1D#8 else 0#8) = cb c 0x1D#8 := fun _ => rfl
 rw [h, e, e, e, cb_xor, BitVec.shiftLeft_xor_distrib]
 ac_rfl
theorem gm_xor_right (a b c : BitVec 8) : gm a (b ^^^ c) = gm a b ^^^ gm a c := by
 unfold gm
 simp only [BitVec.getLsbD_xor, cb_xor]
 ac_rfl
theorem gm_xor_left (a b c : BitVec 8) : gm (a ^^^ b) c = gm a c ^^^ gm b c := by
 unfold gm
 simp only [xt_add, cb_add]
 ac_rfl
theorem sum_bits : ∀ a : Fin 256, (BitVec.ofFin a : BitVec 8) = cb ((BitVec.ofFin a : BitVec 8).getLsbD 0) 1#8 ^^^ (cb ((BitVec.ofFin a : BitVec 8).getLsbD 1) 2#8 ^^^ (cb ((BitVec.ofFin a : BitVec 8).getLsbD 2) 4#8 ^^^ (cb ((BitVec.ofFin a : BitVec 8).getLsbD 3) 8#8 ^^^ (cb ((BitVec.ofFin a : BitVec 8).getLsbD 4) 16#8 ^^^
 (cb ((BitVec.ofFin a : BitVec 8).getLsbD 5) 32#8 ^^^ (cb ((BitVec.ofFin a : BitVec 8).getLsbD 6) 64#8 ^^^ cb ((BitVec.ofFin a : BitVec 8).getLsbD 7) 128#8)))))) := by decide +kernel
theorem basis_ind (P : BitVec 8 → Prop) (h0 : P 0#8) (ha : ∀ a b, P a → P b → P (a ^^^ b)) (hb : ∀ i : Fin 8, P (1#8 <<< i.val)) (a : BitVec 8) : P a := by
 have hc : ∀ (c : Bool) (x : BitVec 8), P x → P (cb c x) := by
  intro c x hx
  cases c
  ·exact h0
  ·exact hx
 have h := sum_bits a.toFin
 rw [show (BitVec.ofFin a.toFin : BitVec 8) = a from rfl] at h
 rw [h]
 exact ha _ _ (hc _ _ (hb 0)) (ha _ _ (hc _ _ (hb 1)) (ha _ _ (hc _ _ (hb 2)) (ha _ _ (hc _ _ (hb 3)) (ha _ _ (hc _ _ (hb 4)) (ha _ _ (hc _ _ (hb 5)) (ha _ _ (hc _ _ (hb 6)) (hc _ _ (hb 7))))))))
theorem gm_zero_right (a : BitVec 8) : gm a 0#8 = 0#8 := by simp [gm, cb]
theorem gm_zero_left (a : BitVec 8) : gm 0#8 a = 0#8 := by
 have h : xt 0#8 = 0#8 := rfl
 have e : ∀ c, cb c 0#8 = 0#8 := by intro c; cases c <;> rfl
 simp [gm, h, e]
theorem comm_basis : ∀ i j : Fin 8, gm (1#8 <<< i.val) (1#8 <<< j.val) = gm (1#8 <<< j.val) (1#8 <<< i.val) := by decide +kernel
theorem assoc_basis : ∀ i j k : Fin 8, gm (gm (1#8 <<< i.val) (1#8 <<< j.val)) (1#8 <<< k.val) = gm (1#8 <<< i.val) (gm (1#8 <<< j.val) (1#8 <<< k.val)) := by decide +kernel
theorem gm_comm (a b : BitVec 8) : gm a b = gm b a := by
 refine basis_ind (fun a => gm a b = gm b a) ?_ ?_ ?_ a
 ·rw [gm_zero_left, gm_zero_right]
 ·intro x y hx hy
  rw [gm_xor_left, gm_xor_right, hx, hy]
 ·intro i
  refine basis_ind (fun b => gm (1#8 <<< i.val) b = gm b (1#8 <<< i.val)) ?_ ?_ ?_ b
  ·rw [gm_zero_left, gm_zero_right]
  ·intro x y hx hy
   rw [gm_xor_left, gm_xor_right, hx, hy]
  ·exact fun j => comm_basis i j
theorem gm_assoc (a b c : BitVec 8) : gm (gm a b) c = gm a (gm b c) := by
 refine basis_ind (fun a => gm (gm a b) c = gm a (gm b c)) ?_ ?_ ?_ a
 ·simp only [gm_zero_left]
 ·intro x y hx hy
  simp only [gm_xor_left, hx, hy]
 ·intro i
  refine basis_ind (fun b => gm (gm (1#8 <<< i.val) b) c = gm (1#8 <<< i.val) (gm b c)) ?_ ?_ ?_ b
  ·simp only [gm_zero_left, gm_zero_right]
  ·intro x y hx hy
   simp only [gm_xor_left, gm_xor_right, hx, hy]
  ·intro j
   refine basis_ind (fun c => gm (gm (1#8 <<< i.val) (1#8 <<< j.val)) c = gm (1#8 <<< i.val) (gm (1#8 <<< j.val) c)) ?_ ?_ ?_ c
   ·simp only [gm_zero_right]
   ·intro x y hx hy
    simp only [gm_xor_right, hx, hy]
   ·exact fun k => assoc_basis i j k
theorem gm_one (a : BitVec 8) : gm a 1#8 = a := by
 have : ∀ a : Fin 256, gm (BitVec.ofFin a) 1#8 = BitVec.ofFin a := by decide +kernel
 exact this a.toFin
theorem add_comm (a b : G) : a + b = b + a := G.eq_of (BitVec.xor_comm _ _)
theorem add_assoc (a b c : G) : a + b + c = a + (b + c) := G.eq_of (BitVec.xor_assoc _ _ _)
theorem add_zero (a : G) : a + 0 = a := G.eq_of (by simp [add_v, zero_v])
theorem zero_add (a : G) : 0 + a = a := by rw [add_comm, add_zero]
theorem add_self (a : G) : a + a = 0 := G.eq_of (by simp [add_v, zero_v])
theorem mul_comm (a b : G) : a * b = b * a := G.eq_of (gm_comm _ _)
theorem mul_assoc (a b c : G) : a * b * c = a * (b * c) := G.eq_of (gm_assoc _ _ _)
theorem mul_add (a b c : G) : a * (b + c) = a * b + a * c := G.eq_of (gm_xor_right _ _ _)
theorem add_mul (a b c : G) : (a + b) * c = a * c + b * c := G.eq_of (gm_xor_left _ _ _)
theorem mul_zero (a : G) : a * 0 = 0 := G.eq_of (gm_zero_right _)
theorem zero_mul (a : G) : 0 * a = 0 := G.eq_of (gm_zero_left _)
theorem mul_one (a : G) : a * 1 = a := G.eq_of (gm_one _)
theorem one_mul (a : G) : 1 * a = a := by rw [mul_comm, mul_one]
def p254 (a : G) : G :=
 let b := a * a
 let c := b * b
 let d := c * c
 let e := d * d
 let f := e * e
 let g := f * f
 let h := g * g
 b * c * d * e * f * g * h
instance : Std.Commutative (α := G) (· + ·) := ⟨add_comm⟩
instance : Std.Associative (α := G) (· + ·) := ⟨add_assoc⟩
instance : Std.Commutative (α := G) (· * ·) := ⟨mul_comm⟩
instance : Std.Associative (α := G) (· * ·) := ⟨mul_assoc⟩
theorem inv_all : ∀ a : Fin 256, a.val ≠ 0 → (⟨BitVec.ofFin a⟩ : G) * p254 ⟨BitVec.ofFin a⟩ = 1 := by decide +kernel
def inv (a : G) : G := p254 a
theorem mul_inv {a : G} (h : a ≠ 0) : a * inv a = 1 := by
 have := inv_all a.v.toFin (by
  intro e
  apply h
  apply G.eq_of
  exact BitVec.eq_of_toNat_eq e)
 exact this
theorem inv_mul {a : G} (h : a ≠ 0) : inv a * a = 1 := by rw [mul_comm, mul_inv h]
def G.i (a : G) : Int := (a.v.toNat : Int)
def G.of (x : Int) : G := ⟨BitVec.ofInt 8 x⟩
theorem i_of {x : Int} (h0 : 0 ≤ x) (h1 : x < 256) : (G.of x).i = x := by
 simp only [G.of, G.i, BitVec.toNat_ofInt]
 omega
theorem xor_i (a b : G) : Go.bits .xor .u8 a.i b.i = (a + b).i := by
 unfold Go.bits G.i
 simp only [IntKind.wrap_u8]
 show ((BitVec.ofInt 8 (a.v.toNat : Int) ^^^ BitVec.ofInt 8 (b.v.toNat : Int)).toNat : Int) % 256 = ((a.v ^^^ b.v).toNat : Int)
 simp only [BitVec.ofInt_natCast, BitVec.ofNat_toNat, BitVec.setWidth_eq]
 have := (a.v ^^^ b.v).isLt
 omega
end Go.Proofs.Ytanknpdibjfmlaa.Al
namespace Go.Proofs.Ytanknpdibjfmlaa.Al
set_option linter.unusedVariables false
set_option linter.unusedSimpArgs false
def co (p : List G) (i : Nat) : G := p.getD i 0
theorem co_nil (i : Nat) : co [] i = 0 := rfl
theorem co_succ (a : G) (p : List G) (i : Nat) : co (a :: p) (i + 1) = co p i := rfl
theorem co_lt {p : List G} {i : Nat} (h : i < p.length) : co p i = p[i] := by
 simp [co, List.getD_eq_getElem?_getD, List.getElem?_eq_getElem h]
theorem co_ge {p : List G} {i : Nat} (h : p.length ≤ i) : co p i = 0 := by
 simp [co, List.getD_eq_getElem?_getD, List.getElem?_eq_none h]
theorem co_set (p : List G) (n i : Nat) (a : G) (h : n < p.length) : co (p.set n a) i = if i = n then a else co p i := by
 simp only [co, List.getD_eq_getElem?_getD, List.getElem?_set]
 by_cases e : n = i
 ·subst e
  simp [h]
 ·simp [e, Ne.symm e]
theorem co_replicate (n i : Nat) : co (List.replicate n 0) i = 0 := by
 simp only [co, List.getD_eq_getElem?_getD, List.getElem?_replicate]
 split <;> rfl
def tab (n : Nat) (f : Nat → G) : List G := (List.range n).map f
theorem tab_length (n : Nat) (f : Nat → G) : (tab n f).length = n := by simp [tab]
theorem co_tab (n : Nat) (f : Nat → G) (i : Nat) : co (tab n f) i = if i < n then f i else 0 := by
 by_cases h : i < n
 ·rw [if_pos h, co_lt (by rw [tab_length]; exact h)]
  simp [tab]
 ·rw [if_neg h, co_ge (by rw [tab_length]; omega)]
theorem tab_succ (n : Nat) (f : Nat → G) : tab (n + 1) f = tab n f ++ [f n] := by simp [tab, List.range_succ]
def ev : List G → G → G
 | [], _ => 0
 | a :: p, x => a + x * ev p x
def zadd : List G → List G → List G
 | [], q => q
 | p, [] => p
 | a :: p, b :: q => (a + b) :: zadd p q
theorem co_zadd (p q : List G) (i : Nat) : co (zadd p q) i = co p i + co q i := by
 induction p generalizing q i with
 | nil => rw [zadd, co_nil, zero_add]
 | cons a p ih =>
  cases q with
  | nil => rw [zadd, co_nil, add_zero]; intro h; cases h
  | cons b q =>
   cases i with
   | zero => rfl
   | succ i => rw [zadd, co_succ, co_succ, co_succ, ih]
def scale (c : G) (p : List G) : List G := p.map (c * ·)
theorem co_scale (c : G) (p : List G) (i : Nat) : co (scale c p) i = c * co p i := by
 induction p generalizing i with
 | nil => rw [scale, List.map_nil, co_nil, mul_zero]
 | cons a p ih =>
  cases i with
  | zero => rfl
  | succ i => exact ih i
def sum (f : Nat → G) : Nat → G
 | 0 => 0
 | n + 1 => sum f n + f n
theorem sum_zero (f : Nat → G) : sum f 0 = 0 := rfl
theorem sum_succ (f : Nat → G) (n : Nat) : sum f (n + 1) = sum f n + f n := rfl
theorem sum_congr {f g : Nat → G} {n : Nat} (h : ∀ i, i < n → f i = g i) : sum f n = sum g n := by
 induction n with
 | zero => rfl
 | succ n ih => rw [sum_succ, sum_succ, ih (fun i hi => h i (by omega)), h n (by omega)]
theorem sum_add (f g : Nat → G) (n : Nat) : sum (fun i => f i + g i) n = sum f n + sum g n := by
 induction n with
 | zero => rw [sum_zero, sum_zero, sum_zero, add_zero]
 | succ n ih =>
  simp only [sum_succ, ih]
  ac_rfl
theorem sum_eq_zero {f : Nat → G} {n : Nat} (h : ∀ i, i < n → f i = 0) : sum f n = 0 := by
 induction n with
 | zero => rfl
 | succ n ih => rw [sum_succ, ih (fun i hi => h i (by omega)), h n (by omega), add_zero]
theorem sum_single {f : Nat → G} {n k : Nat} (hk : k < n) (h : ∀ i, i < n → i ≠ k → f i = 0) : sum f n = f k := by
 induction n with
 | zero => omega
 | succ n ih =>
  rw [sum_succ]
  by_cases e : k = n
  ·subst e
   rw [sum_eq_zero (fun i hi => h i (by omega) (by omega)), zero_add]
  ·rw [ih (by omega) (fun i hi hne => h i (by omega) hne), h n (by omega) (by omega), add_zero]
end Go.Proofs.Ytanknpdibjfmlaa.Al
namespace Go.Proofs.Ytanknpdibjfmlaa.Al
set_option linter.unusedVariables false
set_option linter.unusedSimpArgs false
def row (M : List (List G)) (i : Nat) : List G := M.getD i []
theorem row_lt {M : List (List G)} {i : Nat} (h : i < M.length) : row M i = M[i] := by
 simp [row, List.getD_eq_getElem?_getD, List.getElem?_eq_getElem h]
theorem row_ge {M : List (List G)} {i : Nat} (h : M.length ≤ i) : row M i = [] := by
 simp [row, List.getD_eq_getElem?_getD, List.getElem?_eq_none h]
def tabR (n : Nat) (f : Nat → List G) : List (List G) := (List.range n).map f
theorem tabR_length (n : Nat) (f : Nat → List G) : (tabR n f).length = n := by simp [tabR]
theorem row_tabR (n : Nat) (f : Nat → List G) (i : Nat) (h : i < n) : row (tabR n f) i = f i := by
 rw [row_lt (by rw [tabR_length]; exact h)]
 simp [tabR]
def Wd (M : List (List G)) (w : Nat) : Prop := ∀ i, i < M.length → (row M i).length = w
def Sp (M : List (List G)) (v : Nat → G) : Prop := ∃ f : Nat → G, ∀ j, v j = sum (fun i => f i * co (row M i) j) M.length
theorem Sp.zero (M : List (List G)) : Sp M (fun _ => 0) := ⟨fun _ => 0, fun j => by rw [sum_eq_zero]; intro i _; rw [zero_mul]⟩
theorem Sp.congr {M : List (List G)} {v w : Nat → G} (hv : Sp M v) (h : ∀ j, v j = w j) : Sp M w := by
 obtain ⟨f, hf⟩ := hv
 exact ⟨f, fun j => by rw [← h, hf]⟩
theorem Sp.add {M : List (List G)} {v w : Nat → G} (hv : Sp M v) (hw : Sp M w) : Sp M (fun j => v j + w j) := by
 obtain ⟨f, hf⟩ := hv
 obtain ⟨g, hg⟩ := hw
 refine ⟨fun i => f i + g i, fun j => ?_⟩
 dsimp only
 rw [hf, hg, ← sum_add]
 apply sum_congr
 intro i _
 rw [add_mul]
theorem Sp.row {M : List (List G)} {i : Nat} (h : i < M.length) : Sp M (co (row M i)) := by
 refine ⟨fun k => if k = i then 1 else 0, fun j => ?_⟩
 rw [sum_single (k := i) h]
 ·dsimp only
  rw [if_pos rfl, one_mul]
 ·intro k _ hk
  dsimp only
  rw [if_neg hk, zero_mul]
def dt (n : Nat) (v x : Nat → G) : G := sum (fun j => v j * x j) n
theorem dt_congr {n : Nat} {v w x y : Nat → G} (h : ∀ j, j < n → v j = w j) (h2 : ∀ j, j < n → x j = y j) : dt n v x = dt n w y :=
 sum_congr (fun j hj => by rw [h j hj, h2 j hj])
theorem dt_add (n : Nat) (v x y : Nat → G) : dt n v (fun j => x j + y j) = dt n v x + dt n v y := by
 unfold dt
 rw [← sum_add]
 exact sum_congr (fun j _ => mul_add _ _ _)
theorem dt_single {n : Nat} {v x : Nat → G} {k : Nat} (hk : k < n) (h : ∀ j, j < n → j ≠ k → v j = 0 ∨ x j = 0) : dt n v x = v k * x k :=
 sum_single hk (fun j hj hne => (h j hj hne).elim (fun e => by rw [e, zero_mul]) (fun e => by rw [e, mul_zero]))
def swp (M : List (List G)) (a u k : Nat) : List G := if k = a then row M u else if k = u then row M a else row M k
def piv (M : List (List G)) (c u : Nat) : List G := scale (inv (co (row M u) c)) (row M u)
def elim (M : List (List G)) (a c u : Nat) : List (List G) := tabR M.length (fun k => if k = a then piv M c u else zadd (swp M a u k) (scale (co (swp M a u k) c) (piv M c u)))
theorem elim_length (M : List (List G)) (a c u : Nat) : (elim M a c u).length = M.length := tabR_length _ _
theorem row_elim {M : List (List G)} {a c u k : Nat} (h : k < M.length) : row (elim M a c u) k = if k = a then piv M c u else zadd (swp M a u k) (scale (co (swp M a u k) c) (piv M c u)) := row_tabR _ _ _ h
theorem co_piv (M : List (List G)) (c u j : Nat) : co (piv M c u) j = inv (co (row M u) c) * co (row M u) j := co_scale _ _ _
theorem co_elim_at {M : List (List G)} {a c u : Nat} (h : a < M.length) (j : Nat) : co (row (elim M a c u) a) j = co (piv M c u) j := by rw [row_elim h, if_pos rfl]
theorem co_elim {M : List (List G)} {a c u k : Nat} (h : k < M.length) (hk : k ≠ a) (j : Nat) : co (row (elim M a c u) k) j = co (swp M a u k) j + co (swp M a u k) c * co (piv M c u) j := by
 rw [row_elim h, if_neg hk, co_zadd, co_scale]
structure RF (M : List (List G)) (ps : List Nat) (c : Nat) : Prop where
 len : ps.length ≤ M.length
 lt : ∀ t, t < ps.length → ps.getD t 0 < c
 asc : ∀ s t, s < t → t < ps.length → ps.getD s 0 < ps.getD t 0
 unit : ∀ i t, i < M.length → t < ps.length → co (row M i) (ps.getD t 0) = if i = t then 1 else 0
 low : ∀ i j, ps.length ≤ i → i < M.length → j < c → co (row M i) j = 0
 lead : ∀ t j, t < ps.length → j < ps.getD t 0 → co (row M t) j = 0
theorem RF.skip {M : List (List G)} {ps : List Nat} {c : Nat} (h : RF M ps c) (hz : ∀ i, ps.length ≤ i → i < M.length → co (row M i) c = 0) : RF M ps (c + 1) where
 len := h.len
 lt := fun t ht => Nat.lt_succ_of_lt (h.lt t ht)
 asc := h.asc
 unit := h.unit
 low := fun i j hi hi2 hj => by
  by_cases e : j = c
  ·rw [e]; exact hz i hi hi2
  ·exact h.low i j hi hi2 (by omega)
 lead := h.lead
theorem getD_snoc (ps : List Nat) (c t : Nat) : (ps ++ [c]).getD t 0 = if t < ps.length then ps.getD t 0 else if t = ps.length then c else 0 := by
 simp only [List.getD_eq_getElem?_getD, List.getElem?_append]
 by_cases h : t < ps.length
 ·rw [if_pos h, if_pos h]
 ·rw [if_neg h, if_neg h]
  by_cases e : t = ps.length
  ·rw [if_pos e, e]; simp
  ·rw [if_neg e, List.getElem?_eq_none (by simp; omega)]; rfl
theorem RF.step {M : List (List G)} {ps : List Nat} {c u : Nat} (h : RF M ps c) (hu : ps.length ≤ u) (hu2 : u < M.length) (hp : co (row M u) c ≠ 0) : RF (elim M ps.length c u) (ps ++ [c]) (c + 1) := by
 have ha : ps.length < M.length := by omega
 have hpz : ∀ j, j < c → co (piv M c u) j = 0 := fun j hj => by rw [co_piv, h.low u j hu hu2 hj, mul_zero]
 have hpc : co (piv M c u) c = 1 := by rw [co_piv, inv_mul hp]
 have hsl : ∀ k, ps.length < k → k < M.length → ∀ j, j < c → co (swp M ps.length u k) j = 0 := by
  intro k hk hk2 j hj
  unfold swp
  rw [if_neg (by omega)]
  split
  ·exact h.low _ j (Nat.le_refl _) ha hj
  ·exact h.low _ j (by omega) hk2 hj
 have hsk : ∀ k, k < ps.length → swp M ps.length u k = row M k := by
  intro k hk
  unfold swp
  rw [if_neg (by omega), if_neg (by omega)]
 have hcol : ∀ i, i < M.length → co (row (elim M ps.length c u) i) c = if i = ps.length then 1 else 0 := by
  intro i hi
  by_cases e : i = ps.length
  ·rw [if_pos e, e, co_elim_at ha, hpc]
  ·rw [if_neg e, co_elim hi e, hpc, mul_one, add_self]
 have hbel : ∀ i j, i < M.length → j < c → co (row (elim M ps.length c u) i) j = if i < ps.length then co (row M i) j else 0 := by
  intro i j hi hj
  by_cases e : i = ps.length
  ·rw [e, co_elim_at ha, hpz j hj, if_neg (Nat.lt_irrefl _)]
  ·rw [co_elim hi e, hpz j hj, mul_zero, add_zero]
   by_cases hlt : i < ps.length
   ·rw [if_pos hlt, hsk i hlt]
   ·rw [if_neg hlt, hsl i (by omega) hi j hj]
 have hget : ∀ t, t < ps.length → (ps ++ [c]).getD t 0 = ps.getD t 0 := fun t ht => by rw [getD_snoc, if_pos ht]
 have hend : (ps ++ [c]).getD ps.length 0 = c := by rw [getD_snoc, if_neg (Nat.lt_irrefl _), if_pos rfl]
 have hl : (ps ++ [c]).length = ps.length + 1 := by simp
 constructor
 ·rw [hl, elim_length]; omega
 ·intro t ht
  rw [hl] at ht
  by_cases e : t = ps.length
  ·rw [e, hend]; omega
  ·rw [hget t (by omega)]
   have := h.lt t (by omega)
   omega
 ·intro s t hst ht
  rw [hl] at ht
  rw [hget s (by omega)]
  by_cases e : t = ps.length
  ·rw [e, hend]
   exact h.lt s (by omega)
  ·rw [hget t (by omega)]
   exact h.asc s t hst (by omega)
 ·intro i t hi ht
  rw [hl] at ht
  rw [elim_length] at hi
  by_cases e : t = ps.length
  ·rw [e, hend, hcol i hi]
  ·rw [hget t (by omega), hbel i _ hi (h.lt t (by omega))]
   by_cases hlt : i < ps.length
   ·rw [if_pos hlt, h.unit i t hi (by omega)]
   ·rw [if_neg hlt, if_neg (by omega)]
 ·intro i j hi hi2 hj
  rw [hl] at hi
  rw [elim_length] at hi2
  by_cases e : j = c
  ·rw [e, hcol i hi2, if_neg (by omega)]
  ·rw [hbel i j hi2 (by omega), if_neg (by omega)]
 ·intro t j ht hj
  rw [hl] at ht
  by_cases e : t = ps.length
  ·rw [e, hend] at hj
   rw [e, hbel _ j ha hj, if_neg (Nat.lt_irrefl _)]
  ·rw [hget t (by omega)] at hj
   have := h.lt t (by omega)
   rw [hbel t j (by omega) (by omega), if_pos (by omega)]
   exact h.lead t j (by omega) hj
def Ld (M : List (List G)) (j : Nat) : Prop := ∃ v, Sp M v ∧ (∀ i, i < j → v i = 0) ∧ v j ≠ 0
theorem Ld.of {M N : List (List G)} (h : ∀ v, Sp M v → Sp N v) {j : Nat} (hl : Ld M j) : Ld N j := by
 obtain ⟨v, h1, h2⟩ := hl
 exact ⟨v, h v h1, h2⟩
end Go.Proofs.Ytanknpdibjfmlaa.Al
namespace Go.Proofs.Ytanknpdibjfmlaa.Al
set_option linter.unusedVariables false
set_option linter.unusedSimpArgs false
def tms (M : List (List G)) (x : List G) : List G := tab M.length (fun i => dt (min (row M i).length x.length) (co (row M i)) (co x))
theorem tms_length (M : List (List G)) (x : List G) : (tms M x).length = M.length := tab_length _ _
theorem co_tms {M : List (List G)} {x : List G} {w i : Nat} (hw : Wd M w) (hx : x.length = w) (hi : i < M.length) : co (tms M x) i = dt w (co (row M i)) (co x) := by
 rw [tms, co_tab, if_pos hi, hw i hi, hx, Nat.min_self]
def one (n : Nat) (x : Nat → G) (j : Nat) : G := if j < n then x j else 1
def unitv (n i : Nat) : List G := (List.replicate n 0).set i 1
theorem unitv_length (n i : Nat) : (unitv n i).length = n := by rw [unitv, List.length_set, List.length_replicate]
theorem co_unitv {n i : Nat} (h : i < n) (j : Nat) : co (unitv n i) j = if j = i then 1 else 0 := by
 rw [unitv, co_set _ _ _ _ (by rw [List.length_replicate]; exact h), co_replicate]
theorem dt_unitv {n i : Nat} (h : i < n) (v : Nat → G) : dt n v (co (unitv n i)) = v i := by
 rw [dt_single h (fun j _ hne => .inr (by rw [co_unitv h, if_neg hne])), co_unitv h, if_pos rfl, mul_one]
end Go.Proofs.Ytanknpdibjfmlaa.Al
namespace Go.Proofs.Ytanknpdibjfmlaa.Al
open Go Go.RowKit Go.Proofs.YtanknpdibjfmlaaW.PrintWords Go.Proofs.YtanknpdibjfmlaaW.PrintMore Go.Proofs.Ytanknpdibjfmlaa.P
set_option linter.unusedVariables false
set_option linter.unusedSimpArgs false
theorem Ev.pos {α : Type} {c : Prop} [Decidable c] {A B : Nat → Option α} {r : α} (h : c) (hA : Ev A r) : Ev (fun k => if c then A k else B k) r := by
 simp only [if_pos h]; exact hA
theorem Ev.neg {α : Type} {c : Prop} [Decidable c] {A B : Nat → Option α} {r : α} (h : ¬ c) (hB : Ev B r) : Ev (fun k => if c then A k else B k) r := by
 simp only [if_neg h]; exact hB
theorem evc {α : Type} {g : Nat → Option α} {r r' : α} (h : Ev g r) (e : r = r') : Ev g r' := e ▸ h
theorem Ev.somef {α β : Type} {f : Nat → α → Option β} {a : α} {r : β} (h : Ev (fun k => f k a) r) : Ev (fun k => (some a).bind (f k)) r := h
theorem wrap_sm {x : Int} (h0 : -9223372036854775808 ≤ x) (h1 : x ≤ 9223372036854775807) : wrap64 x = x := by unfold wrap64; omega
def tm (a : G) : G := ⟨xt a.v⟩
theorem twice_all : ∀ a : Fin 256, gf_twice.f (a.val : Int) = some ((xt (BitVec.ofFin a)).toNat : Int) := by decide +kernel
theorem twice_i (a : G) : gf_twice.f a.i = some (tm a).i := twice_all a.v.toFin
theorem and_one {x : Int} (h0 : 0 ≤ x) (h1 : x < 256) : Go.bits .and .u8 x 1 = x % 2 := bits_mask .u8 8 (by decide) wraps_u8 1 (by decide) x h0 h1
def gmN : Nat → G → Nat → G
 | 0, _, _ => 0
 | n + 1, a, b => (if b % 2 = 1 then a else 0) + gmN n (tm a) (b / 2)
theorem gmN_zero (n : Nat) (a : G) : gmN n a 0 = 0 := by
 induction n generalizing a with
 | zero => rfl
 | succ n ih => rw [gmN, if_neg (by decide), Nat.zero_div, ih, add_zero]
theorem bit_cb (b : BitVec 8) (i : Nat) (a : G) : (if b.toNat / 2 ^ i % 2 = 1 then a else 0) = (⟨cb (b.getLsbD i) a.v⟩ : G) := by
 have h : b.getLsbD i = decide (b.toNat / 2 ^ i % 2 = 1) := by
  rw [BitVec.getLsbD, Nat.testBit_eq_decide_div_mod_eq]
 rw [h]
 by_cases e : b.toNat / 2 ^ i % 2 = 1
 ·rw [if_pos e, decide_eq_true e]; rfl
 ·rw [if_neg e, decide_eq_false e]; rfl
theorem mul_gmN (a b : G) : a * b = gmN 8 a b.v.toNat := by
 simp only [gmN, Nat.div_div_eq_div_mul]
 have h0 := bit_cb b.v 0 a
 simp only [Nat.pow_zero, Nat.div_one] at h0
 rw [h0, bit_cb b.v 1, bit_cb b.v 2, bit_cb b.v 3, bit_cb b.v 4, bit_cb b.v 5, bit_cb b.v 6, bit_cb b.v 7, add_zero]
 rfl
theorem mul_l0 (n : Nat) : ∀ (a : G) (b : Nat) (o : G), b < 2 ^ n → b < 256 → Ev (fun k => gf_Mul.l0 k a.i (b : Int) o.i) (o + gmN n a b).i := by
 induction n with
 | zero =>
  intro a b o h _
  obtain rfl : b = 0 := by omega
  refine Ev.step (fun k => gf_Mul.l0.eq_2 _ _ _ _) (Ev.pos rfl ?_)
  rw [gmN, add_zero]
  exact Ev.now _
 | succ n ih =>
  intro a b o h h1
  refine Ev.step (fun k => gf_Mul.l0.eq_2 _ _ _ _) ?_
  by_cases hb : b = 0
  ·subst hb
   refine Ev.pos rfl ?_
   rw [gmN_zero, add_zero]
   exact Ev.now _
  ·refine Ev.neg (by omega) ?_
   rw [and_one (by omega) (by omega), twice_i]
   have hd : ((b : Int) / 2) = ((b / 2 : Nat) : Int) := by omega
   rw [hd]
   by_cases ho : b % 2 = 1
   ·refine Ev.neg (by omega) ?_
    rw [xor_i]
    refine evc (ih (tm a) (b / 2) (o + a) (by rw [Nat.pow_succ] at h; omega) (by omega)) ?_
    rw [gmN, if_pos ho, add_assoc]
   ·refine Ev.pos (by omega) ?_
    refine evc (ih (tm a) (b / 2) o (by rw [Nat.pow_succ] at h; omega) (by omega)) ?_
    rw [gmN, if_neg ho, zero_add]
theorem mul_ev (a b : G) : Ev (fun k => gf_Mul.f k a.i b.i) (a * b).i := by
 have h := mul_l0 8 a b.v.toNat 0 b.v.isLt b.v.isLt
 rw [zero_add, ← mul_gmN] at h
 exact h
end Go.Proofs.Ytanknpdibjfmlaa.Al
namespace Go.Proofs.Ytanknpdibjfmlaa.Al
open Go Go.RowKit Go.Proofs.YtanknpdibjfmlaaW.PrintWords Go.Proofs.YtanknpdibjfmlaaW.PrintMore Go.Proofs.Ytanknpdibjfmlaa.P
set_option linter.unusedVariables false
set_option linter.unusedSimpArgs false
def bs (p : List G) : List Int := p.map G.i
theorem bs_length (p : List G) : (bs p).length = p.length := List.length_map _
theorem bs_cons (a : G) (p : List G) : bs (a :: p) = a.i :: bs p := rfl
theorem bs_append (p q : List G) : bs (p ++ q) = bs p ++ bs q := List.map_append
theorem bs_set (p : List G) (n : Nat) (a : G) : (bs p).set n a.i = bs (p.set n a) := List.map_set.symm
theorem bs_replicate (n : Nat) : List.replicate n (0 : Int) = bs (List.replicate n 0) := by rw [bs, List.map_replicate]; rfl
theorem rd_bs (p : List G) (n : Nat) : rd (bs p) (n : Int) = (co p n).i := by
 simp only [rd, bs, Int.toNat_natCast, co, List.getD_eq_getElem?_getD, List.getElem?_map]
 cases p[n]? <;> rfl
theorem of_bytes : ∀ l : List Int, (∀ x ∈ l, 0 ≤ x ∧ x < 256) → ∃ p, l = bs p := by
 intro l
 induction l with
 | nil => intro _; exact ⟨[], rfl⟩
 | cons a l ih =>
  intro h
  obtain ⟨p, rfl⟩ := ih (fun x hx => h x (List.mem_cons_of_mem _ hx))
  have ha := h a List.mem_cons_self
  exact ⟨G.of a :: p, by rw [bs_cons, i_of ha.1 ha.2]⟩
theorem wrap_succ {n : Nat} (h : n < 4611686018427387904) : wrap64 ((n : Int) + 1) = ((n + 1 : Nat) : Int) := by
 rw [wrap_sm (by omega) (by omega)]; omega
end Go.Proofs.Ytanknpdibjfmlaa.Al
namespace Go.Proofs.Ytanknpdibjfmlaa.Al
open Go Go.RowKit Go.Proofs.YtanknpdibjfmlaaW.PrintWords Go.Proofs.YtanknpdibjfmlaaW.PrintMore Go.Proofs.Ytanknpdibjfmlaa.P
set_option linter.unusedVariables false
set_option linter.unusedSimpArgs false
theorem wf_u8 {x : Int} (h : (Lit.int .u8 x).wf = true) : 0 ≤ x ∧ x < 256 := by
 simp [Lit.wf, IntKind.min, IntKind.max, IntKind.bits, IntKind.signed] at h
 omega
theorem bytes_in {l : List Int} (h : ∀ x ∈ l, (Lit.int .u8 x).wf = true) : ∃ p, l = bs p := of_bytes l (fun x hx => wf_u8 (h x hx))
end Go.Proofs.Ytanknpdibjfmlaa.Al
namespace Go.Proofs.Ytanknpdibjfmlaa.Al
open Go Go.RowKit Go.Proofs.YtanknpdibjfmlaaW.PrintWords Go.Proofs.YtanknpdibjfmlaaW.PrintMore Go.Proofs.Ytanknpdibjfmlaa.P
set_option linter.unusedVariables false
set_option linter.unusedSimpArgs false
def bss (M : List (List G)) : List (List Int) := M.map bs
theorem bss_length (M : List (List G)) : (bss M).length = M.length := List.length_map _
theorem rd_bss (M : List (List G)) (i : Nat) : rd_L1 (bss M) (i : Int) = bs (row M i) := by
 simp only [rd_L1, bss, Int.toNat_natCast, row, List.getD_eq_getElem?_getD, List.getElem?_map]
 cases M[i]? <;> rfl
theorem rd_bss0 (M : List (List G)) : rd_L1 (bss M) 0 = bs (row M 0) := rd_bss M 0
theorem rows_in : ∀ l : List (List Int), (∀ x ∈ l, ∀ y ∈ x, (Lit.int .u8 y).wf = true) → ∃ M, l = bss M := by
 intro l
 induction l with
 | nil => intro _; exact ⟨[], rfl⟩
 | cons a l ih =>
  intro h
  obtain ⟨M, rfl⟩ := ih (fun x hx => h x (List.mem_cons_of_mem _ hx))
  obtain ⟨p, rfl⟩ := bytes_in (h a List.mem_cons_self)
  exact ⟨p :: M, rfl⟩
def wid (M : List (List G)) : Nat := (row M 0).length
def Rt (M : List (List G)) : Prop := Wd M (wid M)
instance (M : List (List G)) : Decidable (Rt M) := Nat.decidableBallLT M.length (fun i _ => (row M i).length = wid M)
def Fit (M : List (List G)) : Prop := M.length < 1000000 ∧ ∀ i, i < M.length → (row M i).length < 1000000
theorem Fit.of {M : List (List G)} {w : Nat} (h1 : M.length < 1000000) (hw : Wd M w) (h2 : w < 1000000) : Fit M := ⟨h1, fun i hi => by rw [hw i hi]; exact h2⟩
theorem Fit.wid {M : List (List G)} (h : Fit M) : wid M < 1000000 := by
 unfold Al.wid
 by_cases e : 0 < M.length
 ·exact h.2 0 e
 ·rw [row_ge (by omega)]; decide
theorem mn_nat (a b : Nat) : mn (a : Int) (b : Int) = ((min a b : Nat) : Int) := by
 unfold mn
 split <;> omega
theorem dot_l0 (p q : List G) (hp : p.length < 1000000) (d : Nat) : ∀ n : Nat, n + d = min p.length q.length → Ev (fun k => gf_Dot.l0 k (bs p) (bs q) (dt n (co p) (co q)).i ((min p.length q.length : Nat) : Int) (n : Int)) (dt (min p.length q.length) (co p) (co q)).i := by
 induction d with
 | zero =>
  intro n hn
  refine Ev.step (fun k => gf_Dot.l0.eq_2 _ _ _ _ _ _) (Ev.neg (by omega) ?_)
  rw [show n = min p.length q.length by omega]
  exact Ev.now _
 | succ d ih =>
  intro n hn
  refine Ev.step (fun k => gf_Dot.l0.eq_2 _ _ _ _ _ _) (Ev.pos (by omega) (Ev.pos (by omega) (Ev.pos (by rw [bs_length]; omega) (Ev.pos (by rw [bs_length]; omega) ?_))))
  rw [rd_bs, rd_bs]
  refine Ev.bind (mul_ev _ _) ?_
  rw [xor_i, wrap_succ (by omega)]
  exact ih (n + 1) (by omega)
theorem dot_ev (p q : List G) (hp : p.length < 1000000) : Ev (fun k => gf_Dot.f k (bs p) (bs q)) (dt (min p.length q.length) (co p) (co q)).i := by
 refine Ev.congr (fun k => gf_Dot.f.eq_1 _ _ _) ?_
 rw [bs_length, bs_length, mn_nat]
 exact dot_l0 p q hp (min p.length q.length) 0 (by omega)
theorem times_l0 (M : List (List G)) (x : List G) (hM : Fit M) (d : Nat) : ∀ n : Nat, n + d = M.length → Ev (fun k => linear_Times.l0 k (bs x) (bs (tab n (fun i => dt (min (row M i).length x.length) (co (row M i)) (co x)))) (bss M) (M.length : Int) (n : Int)) (bs (tms M x)) := by
 have h1 := hM.1
 induction d with
 | zero =>
  intro n hn
  refine Ev.step (fun k => linear_Times.l0.eq_2 _ _ _ _ _ _) (Ev.neg (by omega) ?_)
  rw [show n = M.length by omega]
  exact Ev.now _
 | succ d ih =>
  intro n hn
  refine Ev.step (fun k => linear_Times.l0.eq_2 _ _ _ _ _ _) (Ev.pos (by omega) (Ev.pos (by omega) (Ev.pos (by rw [bss_length]; omega) ?_)))
  rw [rd_bss]
  refine Ev.bind (dot_ev _ _ (hM.2 n (by omega))) (Ev.pos (by rw [bs_length, tab_length]; omega) ?_)
  have e : bs (tab n (fun i => dt (min (row M i).length x.length) (co (row M i)) (co x))) ++ [(dt (min (row M n).length x.length) (co (row M n)) (co x)).i] = bs (tab (n + 1) (fun i => dt (min (row M i).length x.length) (co (row M i)) (co x))) := by
   rw [tab_succ, bs_append]; rfl
  rw [e, wrap_succ (by omega)]
  exact ih (n + 1) (by omega)
theorem times_ev (M : List (List G)) (x : List G) (hM : Fit M) : Ev (fun k => linear_Times.f k (bss M) (bs x)) (bs (tms M x)) := by
 refine Ev.congr (fun k => linear_Times.f.eq_1 _ _ _) ?_
 rw [bss_length]
 exact times_l0 M x hM M.length 0 (by omega)
end Go.Proofs.Ytanknpdibjfmlaa.Al
namespace Go.Proofs.Ytanknpdibjfmlaa.Al
open Go Go.RowKit Go.Proofs.YtanknpdibjfmlaaW.PrintWords Go.Proofs.YtanknpdibjfmlaaW.PrintMore Go.Proofs.Ytanknpdibjfmlaa.P
set_option linter.unusedVariables false
set_option linter.unusedSimpArgs false
theorem refright_l0 (M : List (List G)) (hM : M.length < 1000000) (d : Nat) : ∀ n : Nat, n + d = M.length → 0 < n → (∀ i, i < n → (row M i).length = wid M) → Ev (fun k => footlockerref03_Right.l0 k (bss M) (n : Int)) (decide (Rt M)) := by
 induction d with
 | zero =>
  intro n hn _ h
  refine Ev.step (fun k => footlockerref03_Right.l0.eq_2 _ _ _) (Ev.neg (by rw [bss_length]; omega) ?_)
  rw [decide_eq_true (show Rt M from fun i hi => h i (by omega))]
  exact Ev.now _
 | succ d ih =>
  intro n hn h0 h
  refine Ev.step (fun k => footlockerref03_Right.l0.eq_2 _ _ _) (Ev.pos (by rw [bss_length]; omega) (Ev.pos (by omega) (Ev.pos (by rw [bss_length]; omega) ?_)))
  rw [rd_bss, rd_bss0, bs_length, bs_length, wrap_succ (by omega)]
  by_cases e : (row M n).length = wid M
  ·refine Ev.pos (by unfold wid at e; omega) (ih (n + 1) (by omega) (by omega) (fun i hi => ?_))
   by_cases e2 : i = n
   ·rw [e2]; exact e
   ·exact h i (by omega)
  ·refine Ev.neg (by unfold wid at e; omega) ?_
   rw [decide_eq_false (fun hr : Rt M => e (hr n (by omega)))]
   exact Ev.now _
theorem refright_ev (M : List (List G)) (hM : M.length < 1000000) : Ev (fun k => footlockerref03_Right.f k (bss M)) (decide (Rt M)) := by
 refine Ev.congr (fun k => footlockerref03_Right.f.eq_1 _ _) ?_
 by_cases h : 0 < M.length
 ·exact refright_l0 M hM (M.length - 1) 1 (by omega) (by omega) (fun i hi => by rw [show i = 0 by omega]; rfl)
 ·refine Ev.step (fun k => footlockerref03_Right.l0.eq_2 _ _ _) (Ev.neg (by rw [bss_length]; omega) ?_)
  rw [decide_eq_true (show Rt M from fun i hi => by omega)]
  exact Ev.now _
end Go.Proofs.Ytanknpdibjfmlaa.Al
namespace Go.Proofs.Ytanknpdibjfmlaa.Al
open Go Go.RowKit Go.Proofs.YtanknpdibjfmlaaW.PrintWords Go.Proofs.YtanknpdibjfmlaaW.PrintMore Go.Proofs.Ytanknpdibjfmlaa.P
set_option linter.unusedVariables false
set_option linter.unusedSimpArgs false
theorem alive_ev : Ev (fun k => footlockerlaw03_alive.f k) true :=
 Ev.of (fun k => footlockerlaw03_alive.mono k) (k := 60) (by decide +kernel)
def Few (M : List (List G)) : Prop := M.length ≤ 20 ∧ ∀ i, i < M.length → (row M i).length ≤ 20
theorem Few.fit {M : List (List G)} (h : Few M) : Fit M := ⟨by have := h.1; omega, fun i hi => by have := h.2 i hi; omega⟩
theorem Few.wid {M : List (List G)} (h : Few M) : wid M ≤ 20 := by
 unfold Al.wid
 by_cases e : 0 < M.length
 ·exact h.2 0 e
 ·rw [row_ge (by omega)]; decide
theorem small_l0 (M : List (List G)) (hM : M.length ≤ 9223372036854775807) (d : Nat) : ∀ n : Nat, n + d = M.length → (∀ i, i < n → (row M i).length ≤ 20) → ∃ b, Ev (fun k => footlockerlaw03_small.l0 k (bss M) (bss M) (M.length : Int) (n : Int)) b ∧ (b = true → Few M) := by
 induction d with
 | zero =>
  intro n hn h
  refine ⟨decide ((M.length : Int) ≤ 20), Ev.step (fun k => footlockerlaw03_small.l0.eq_2 _ _ _ _ _) (Ev.neg (by omega) ?_), fun hb => ⟨by have := of_decide_eq_true hb; omega, fun i hi => h i (by omega)⟩⟩
  rw [bss_length]
  exact Ev.now _
 | succ d ih =>
  intro n hn h
  by_cases e : (row M n).length > 20
  ·refine ⟨false, Ev.step (fun k => footlockerlaw03_small.l0.eq_2 _ _ _ _ _) (Ev.pos (by omega) (Ev.pos (by omega) (Ev.pos (by rw [bss_length]; omega) ?_))), fun hb => by cases hb⟩
   rw [rd_bss]
   exact Ev.pos (by rw [bs_length]; omega) (Ev.now _)
  ·obtain ⟨b, h1, h2⟩ := ih (n + 1) (by omega) (fun i hi => by
    by_cases e2 : i = n
    ·rw [e2]; omega
    ·exact h i (by omega))
   refine ⟨b, Ev.step (fun k => footlockerlaw03_small.l0.eq_2 _ _ _ _ _) (Ev.pos (by omega) (Ev.pos (by omega) (Ev.pos (by rw [bss_length]; omega) ?_))), h2⟩
   have hw : wrap64 ((n : Int) + 1) = ((n + 1 : Nat) : Int) := by rw [Al.wrap_sm (by omega) (by omega)]; omega
   rw [rd_bss, hw]
   exact Ev.neg (by rw [bs_length]; omega) h1
theorem small_ev (M : List (List G)) (hM : M.length ≤ 9223372036854775807) : ∃ b, Ev (fun k => footlockerlaw03_small.f k (bss M)) b ∧ (b = true → Few M) := by
 obtain ⟨b, h1, h2⟩ := small_l0 M hM M.length 0 (Nat.zero_add _) (fun i hi => by omega)
 refine ⟨b, Ev.congr (fun k => footlockerlaw03_small.f.eq_1 _ _) ?_, h2⟩
 rw [bss_length]
 exact h1
theorem len_in {n : Nat} (h : n ≤ maxLen) : n ≤ 9223372036854775807 := by
 unfold maxLen at h
 omega
end Go.Proofs.Ytanknpdibjfmlaa.Al
namespace Go.Proofs.Ytanknpdibjfmlaa.Pure
open Go Go.RowKit Go.Proofs.YtanknpdibjfmlaaW.PrintWords Go.Proofs.YtanknpdibjfmlaaW.PrintMore Go.Proofs.Ytanknpdibjfmlaa.P Go.Proofs.Ytanknpdibjfmlaa.Al
set_option linter.unusedVariables false
set_option linter.unusedSimpArgs false
def both (x y : List G) (n : Nat) : List G := tab n (fun j => co x j + co y j)
theorem both_length (x y : List G) (n : Nat) : (both x y n).length = n := tab_length _ _
theorem both_snoc (x y : List G) (i : Nat) : bs (both x y i) ++ [(co x i + co y i).i] = bs (both x y (i + 1)) := by
 unfold both
 rw [tab_succ, bs_append]
 rfl
theorem times_l2 (a b c : List G) (n : Nat) (ha : a.length = n) (hb : b.length = n) (hc : c.length = n) (hn : n < 1000000) (h : ∀ i, i < n → co c i = co a i + co b i) (d : Nat) : ∀ i : Nat, i + d = n → Ev (fun k => footlockerlaw03_LinearTimes.l2 k (bs a) (bs b) (bs c) (n : Int) (i : Int)) true := by
 induction d with
 | zero =>
  intro i hi
  exact Ev.step (fun k => footlockerlaw03_LinearTimes.l2.eq_2 _ _ _ _ _ _) (Ev.neg (by omega) (Ev.now _))
 | succ d ih =>
  intro i hi
  refine Ev.step (fun k => footlockerlaw03_LinearTimes.l2.eq_2 _ _ _ _ _ _) (Ev.pos (by omega) (Ev.pos (by omega) (Ev.pos (by rw [bs_length]; omega) (Ev.pos (by rw [bs_length]; omega) (Ev.pos (by rw [bs_length]; omega) ?_)))))
  rw [rd_bs, rd_bs, rd_bs, xor_i, wrap_succ (by omega)]
  exact Ev.pos (by rw [h i (by omega)]) (ih (i + 1) (by omega))
theorem times_l0 (M : List (List G)) (x y : List G) (hF : Few M) (hr : Rt M) (hx : x.length = wid M) (hy : y.length = wid M) (d : Nat) : ∀ i : Nat, i + d = x.length → Ev (fun k => footlockerlaw03_LinearTimes.l0 k (bss M) (bs x) (bs y) (bs (both x y i)) (x.length : Int) (i : Int)) true := by
 have hM := hF.fit
 have h1 := hF.1
 have hw := hF.wid
 induction d with
 | zero =>
  intro i hi
  obtain rfl : i = x.length := by omega
  refine Ev.step (fun k => footlockerlaw03_LinearTimes.l0.eq_2 _ _ _ _ _ _ _) (Ev.neg (by omega) (Ev.bind (times_ev M x hM) (Ev.bind (times_ev M y hM) (Ev.bind (times_ev M _ hM) (Ev.pos (by rw [bs_length, bss_length, tms_length]) (Ev.pos (by rw [bs_length, bss_length, tms_length]) ?_))))))
  rw [bs_length, bss_length, tms_length, show ((M.length : Int) != (M.length : Int)) = false by simp]
  refine Ev.step (fun k => footlockerlaw03_LinearTimes.j3.eq_2 _ _ _ _ _) (Ev.neg (by simp) ?_)
  rw [bs_length, tms_length]
  refine times_l2 _ _ _ M.length (tms_length _ _) (tms_length _ _) (tms_length _ _) (by omega) (fun k hk => ?_) M.length 0 (Nat.zero_add _)
  rw [co_tms hr hx hk, co_tms hr hy hk, co_tms hr (by rw [both_length, hx]) hk, ← dt_add]
  exact dt_congr (fun _ _ => rfl) (fun j hj => by rw [both, co_tab, if_pos (by omega)])
 | succ d ih =>
  intro i hi
  refine Ev.step (fun k => footlockerlaw03_LinearTimes.l0.eq_2 _ _ _ _ _ _ _) (Ev.pos (by omega) (Ev.pos (by omega) (Ev.pos (by rw [bs_length]; omega) (Ev.pos (by rw [bs_length]; omega) (Ev.pos (by rw [bs_length, both_length]; omega) (Ev.pos (by omega) (Ev.pos (by rw [bs_length]; omega) (Ev.somef ?_))))))))
  refine Ev.pos (by rw [List.length_replicate, bs_length]; omega) ?_
  have e : (List.replicate (((bs x).length : Int)).toNat (0 : Int)).set ((i : Int)).toNat 1 = bs (unitv x.length i) := by
   rw [Int.toNat_natCast, Int.toNat_natCast, bs_replicate, bs_length]
   exact bs_set _ _ 1
  rw [e, rd_bs, rd_bs, xor_i]
  have e2 : bs (both x y i) ++ [(co x i + co y i).i] = bs (both x y (i + 1)) := both_snoc x y i
  rw [e2]
  refine Ev.bind (times_ev M _ hM) ?_
  rw [bss_length]
  have inner : ∀ (e m : Nat), m + e = M.length → Ev (fun k => footlockerlaw03_LinearTimes.l1 k (bss M) (bs x) (bs y) (bs (both x y (i + 1))) (i : Int) (bs (tms M (unitv x.length i))) (x.length : Int) (i : Int) (M.length : Int) (m : Int)) true := by
   intro e
   induction e with
   | zero =>
    intro m hm
    refine Ev.step (fun k => footlockerlaw03_LinearTimes.l1.eq_2 _ _ _ _ _ _ _ _ _ _ _) (Ev.neg (by omega) ?_)
    rw [wrap_succ (by omega)]
    exact ih (i + 1) (by omega)
   | succ e ihe =>
    intro m hm
    refine Ev.step (fun k => footlockerlaw03_LinearTimes.l1.eq_2 _ _ _ _ _ _ _ _ _ _ _) (Ev.pos (by omega) (Ev.neg (by rw [bs_length, tms_length]; omega) (Ev.pos (by omega) (Ev.pos (by rw [bs_length, tms_length]; omega) (Ev.pos (by rw [bss_length]; omega) (Ev.pos (by omega) ?_))))))
    rw [rd_bss, bs_length, rd_bs, rd_bs, wrap_succ (by omega)]
    have hrow := hr m (by omega)
    refine Ev.pos (by omega) (Ev.pos ?_ (ihe (m + 1) (by omega)))
    rw [co_tms hr (by rw [unitv_length, hx]) (by omega), ← hx, dt_unitv (by omega)]
  exact inner M.length 0 (Nat.zero_add _)
theorem LinearTimes : footlockerlaw03_LinearTimes.Pure := by
 rintro l0 x y ⟨hl, h0⟩ ⟨_, hx⟩ ⟨_, hy⟩
 obtain ⟨M, rfl⟩ := rows_in l0 (fun y hy => (h0 y hy).2)
 obtain ⟨x, rfl⟩ := bytes_in hx
 obtain ⟨y, rfl⟩ := bytes_in hy
 apply Ev.rounds
 obtain ⟨b, hs, hb⟩ := small_ev M (len_in (by rw [bss_length] at hl; exact hl))
 have big : Ev (fun k => footlockerlaw03_LinearTimes.j0 k (bss M) (bs x) (bs y) true) true := Ev.step (fun k => footlockerlaw03_LinearTimes.j0.eq_2 _ _ _ _ _) (Ev.pos rfl (Ev.now _))
 refine Ev.congr (fun k => footlockerlaw03_LinearTimes.f.eq_1 _ _ _ _) (Ev.bind alive_ev (Ev.pos rfl (Ev.bind hs ?_)))
 cases b with
 | false => exact Ev.neg (by simp) big
 | true =>
  have hF := hb rfl
  refine Ev.pos rfl (Ev.bind (refright_ev M hF.fit.1) ?_)
  by_cases hr : Rt M
  ·refine Ev.pos (decide_eq_true hr) ?_
   rw [bss_length, bs_length, bs_length, rd_bss0, bs_length]
   by_cases h0 : (M.length : Int) = 0
   ·exact Ev.pos h0 big
   ·refine Ev.neg h0 (Ev.pos (by omega) ?_)
    by_cases hxl : x.length = wid M
    ·refine Ev.pos (by unfold wid at hxl; omega) ?_
     by_cases hyl : y.length = x.length
     ·rw [show ((y.length : Int) != (x.length : Int)) = false by simp [hyl]]
      refine Ev.step (fun k => footlockerlaw03_LinearTimes.j0.eq_2 _ _ _ _ _) (Ev.neg (by simp) ?_)
      rw [bs_length]
      exact times_l0 M x y hF hr hxl (by omega) x.length 0 (Nat.zero_add _)
     ·rw [show ((y.length : Int) != (x.length : Int)) = true by simp; omega]
      exact big
    ·exact Ev.neg (by unfold wid at hxl; omega) big
  ·exact Ev.neg (by simpa using hr) big
end Go.Proofs.Ytanknpdibjfmlaa.Pure
namespace Go.Proofs.Ytanknpdibjfmlaa.Q
open Go Go.RowKit Go.ChangeShapes Go.WideShapes Go.Proofs.YtanknpdibjfmlaaW.PrintWords
set_option linter.unusedVariables false
set_option linter.unusedSimpArgs false
def Opens {H : Type} (enc : TypeId × Value → H) (P : Program) (W : World) (base : Nat) (t : TypeId) {α : Type} (d : Kd α) (wf : α → Prop) : Prop :=
 ∀ (spare : Nat → Bool) (held : Bool) (fuel : Nat) (cs : List Value) (x : DataW H × List MemPlace), DataW.trod enc P W base spare held fuel t cs = some x → ∃ v : α, d.K W v cs ∧ wf v
section
variable {H : Type} {enc : TypeId × Value → H} {P : Program} {W : World} {base : Nat}
theorem opens_int {t : TypeId} {k : IntKind} (ht : P.underlying t = some (.int k)) : Opens enc P W base t (Kd.int k) (fun n => (Lit.int k n).wf = true) := by
 intro spare held fuel cs x h
 obtain ⟨n, rfl, _, hw⟩ := DataW.trod_int ht h
 exact ⟨n, rfl, hw⟩
theorem mapM_get {β γ : Type} {f : β → Option γ} : ∀ {l : List β} {cs : List γ}, l.mapM f = some cs → cs.length = l.length ∧ ∀ (i : Nat) (b : β), l[i]? = some b → f b = cs[i]? := by
 intro l
 induction l with
 | nil =>
  intro cs h
  simp at h
  subst h
  exact ⟨rfl, fun i b hb => by simp at hb⟩
 | cons a l ih =>
  intro cs h
  rw [List.mapM_cons] at h
  cases hf : f a with
  | none => simp [hf] at h
  | some y =>
   cases hm : l.mapM f with
   | none => simp [hf, hm] at h
   | some ys =>
    simp [hf, hm] at h
    subst h
    obtain ⟨h1, h2⟩ := ih hm
    refine ⟨by simp [h1], fun i b hb => ?_⟩
    cases i with
    | zero =>
     simp at hb
     subst hb
     simpa using hf
    | succ i =>
     simp at hb
     simpa using h2 i b hb
theorem cells_of {a : Addr} {n : Nat} {cs : List Value} (h : W.cells? base a n = some cs) : cs.length = n ∧ ∀ (i : Nat) (u : Value), cs[i]? = some u → W.cell? (a.add i) = some u := by
 unfold World.cells? at h
 split at h
 ·obtain ⟨h1, h2⟩ := mapM_get h
  rw [List.length_range] at h1
  refine ⟨h1, fun i u hu => ?_⟩
  have hi : i < n := by
   have := (List.getElem?_eq_some_iff.1 hu).1
   omega
  rw [h2 i i (by rw [List.getElem?_range hi]), hu]
 ·cases h
theorem opens_slice {t e : TypeId} {α : Type} {d : Kd α} {wf : α → Prop} (ht : P.underlying t = some (.slice e)) (hc : P.cellsOf e = d.sz) (hm : maxLen ≤ 9223372036854775807) (ho : Opens enc P W base e d wf) [Inhabited α] :
 Opens enc P W base t (Kd.slice e d) (fun xs => xs.length ≤ maxLen ∧ ∀ x ∈ xs, wf x) := by
 intro spare held fuel cs x h
 rcases Deep.open_slice ht h with ⟨rfl, _⟩ | ⟨a, len, cap, m, n, D, Pl, rfl, hb, hl, hcm, hmm, rfl, hx⟩
 ·exact ⟨[], ⟨none, 0, rfl, Nat.le_refl _, rfl, Nat.zero_le _, fun h => absurd h (by simp)⟩, Nat.zero_le _, fun x hx => by simp at hx⟩
 ·have hlm : len ≤ m := by rw [hmm]; split <;> omega
  obtain ⟨F, hF⟩ := Deep.choose_lt (α := α) (n := len) (p := fun i v => ∃ cs', d.K W v cs' ∧ cs'.length = d.sz ∧ (∀ j u, cs'[j]? = some u → W.cell? (a.add (i * d.sz + j)) = some u) ∧ wf v) (fun i hi => by
   obtain ⟨cs', h1, h2⟩ := hx i (by omega)
   obtain ⟨v, hv, hw⟩ := ho spare held n cs' _ h2
   rw [hc] at h1
   obtain ⟨h3, h4⟩ := cells_of h1
   refine ⟨v, cs', hv, h3, fun j u hu => ?_, hw⟩
   have := h4 j u hu
   rwa [Deep.add_add] at this)
  refine ⟨(List.range len).map F, ⟨some a, cap, by simp, by simpa using hl, by simp, by simp; omega, fun _ => ⟨a, rfl, fun j p hj => ?_⟩⟩, by simp; omega, fun x hx => ?_⟩
  ·have hjl : j < len := by
    have := (List.getElem?_eq_some_iff.1 hj).1
    simpa using this
   rw [List.getElem?_map, List.getElem?_range hjl] at hj
   simp at hj
   subst hj
   obtain ⟨cs', h1, h2, h3, _⟩ := hF j hjl
   exact ⟨cs', h2, h1, h3⟩
  ·rw [List.mem_map] at hx
   obtain ⟨i, hi, rfl⟩ := hx
   obtain ⟨_, _, _, _, hw⟩ := hF i (List.mem_range.1 hi)
   exact hw
theorem slice_arg {e : TypeId} {α : Type} {d : Kd α} {xs : List α} {a : Option Addr} {len cap : Nat} (h : (Kd.slice e d).K W xs (Value.cells (.slice a len cap)).toList) : len = xs.length ∧ xs.length ≤ cap ∧ d.C W a xs.length xs := by
 obtain ⟨A, c, hcs, hl, hC⟩ := h
 simp [Value.cells] at hcs
 obtain ⟨rfl, rfl, rfl⟩ := hcs
 exact ⟨rfl, hl, hC⟩
end
end Go.Proofs.Ytanknpdibjfmlaa.Q
