/- What the statement's proof uses: lemmas, and the program's functions as Lean functions; each theorem states its own conditions. Joined by a program. -/
import Derived.Test.YtcdmgppjhdpgkaaZStripeColumnsC
namespace Go.Proofs.Ytcdmgppjhdpgkaa.P
open Go.RowKit Go.Proofs.YtcdmgppjhdpgkaaW.PrintWords Go.Proofs.YtcdmgppjhdpgkaaW.PrintLast Go.Proofs.YtcdmgppjhdpgkaaW.PrintMore
set_option linter.unusedVariables false
set_option linter.unusedSimpArgs false
set_option maxHeartbeats 8000000 in
set_option maxRecDepth 100000 in
theorem footlockerlaw23_StripeColumns.calls (k : Nat) (A0 : Option Addr) (c0 : Nat) (l0 : List Int) (a1 : Int) (A2 : Option Addr) (c2 : Nat) (l2 : List Int) (a3_0 : Int) (a3_1 : Int) (a3_2 : Int) (a3_3 : Int) (r : Bool) (w : World) (hr0 : Kd.C (Kd.int .u8) w A0 l0.length l0) (hc0 : l0.length ≤ c0) (hr2 : Kd.C (Kd.int .u8) w A2 l2.length l2) (hc2 : l2.length ≤ c2) (h : footlockerlaw23_StripeColumns.f k l0 a1 l2 a3_0 a3_1 a3_2 a3_3 = some r) :
 Calls Try.prog 3 #[.slice A0 l0.length c0, .int .i64 a1, .slice A2 l2.length c2, .agg #[.int .i64 a3_0, .int .i64 a3_1, .int .i64 a3_2, .int .i64 a3_3]] w fun e w' => e = .returned (.bool r) ∧ Below w.heap.size w w' := by
 have hu24 := Try.underlying24
 have hu34 := Try.underlying34
 have HR0 := Aside0.mk hr0
 have HC0 := Aside0.mk hc0
 clear hr0 hc0
 have HR2 := Aside0.mk hr2
 have HC2 := Aside0.mk hc2
 clear hr2 hc2
 have HB := Aside0.mk (Below.refl w.heap.size w)
 have H : ((footlockerlaw23_alive.f k).bind fun t280 => (if t280 = true then (if (l0.length : Int) > 200 then (footlockerlaw23_StripeColumns.j0 k l0 a1 l2 true a3_0 a3_1 a3_2 a3_3) else (if (l2.length : Int) > 200 then (footlockerlaw23_StripeColumns.j0 k l0 a1 l2 true a3_0 a3_1 a3_2 a3_3) else (if a1 > 300 then (footlockerlaw23_StripeColumns.j0 k l0 a1 l2 (decide (a1 ≤ 16777216)) a3_0 a3_1 a3_2 a3_3) else (footlockerlaw23_StripeColumns.j0 k l0 a1 l2 false a3_0 a3_1 a3_2 a3_3)))) else (some false))) = some r := h
 clear h
 replace H := Option.bind_eq_some_iff.mp H
 obtain ⟨t280, A50, H⟩ := H
 replace H : (if t280 = true then (if (l0.length : Int) > 200 then (footlockerlaw23_StripeColumns.j0 k l0 a1 l2 true a3_0 a3_1 a3_2 a3_3) else (if (l2.length : Int) > 200 then (footlockerlaw23_StripeColumns.j0 k l0 a1 l2 true a3_0 a3_1 a3_2 a3_3) else (if a1 > 300 then (footlockerlaw23_StripeColumns.j0 k l0 a1 l2 (decide (a1 ≤ 16777216)) a3_0 a3_1 a3_2 a3_3) else (footlockerlaw23_StripeColumns.j0 k l0 a1 l2 false a3_0 a3_1 a3_2 a3_3)))) else (some false)) = some r := H
 have A5 := Aside0.mk A50
 clear A50
 by_cases c6 : t280 = true
 ·subst c6
  have H1 : (if (l0.length : Int) > 200 then (footlockerlaw23_StripeColumns.j0 k l0 a1 l2 true a3_0 a3_1 a3_2 a3_3) else (if (l2.length : Int) > 200 then (footlockerlaw23_StripeColumns.j0 k l0 a1 l2 true a3_0 a3_1 a3_2 a3_3) else (if a1 > 300 then (footlockerlaw23_StripeColumns.j0 k l0 a1 l2 (decide (a1 ≤ 16777216)) a3_0 a3_1 a3_2 a3_3) else (footlockerlaw23_StripeColumns.j0 k l0 a1 l2 false a3_0 a3_1 a3_2 a3_3)))) = some r := by rw [if_pos rfl] at H; exact H
  clear H
  have H := H1
  clear H1
  have HC7 := Aside0.mk H
  clear H
  go_enter Try.func3, Try.ntmps3
  go_upto_region 3 with (first | ((with_reducible refine gate_dst (N := 7) rfl ?_); (try (refine gate_guard (by rfl) ?_; dsimp only)); refine box_event ?hg (N := 7) ?hd (cs := #[.int .i64 a3_0, .int .i64 a3_1, .int .i64 a3_2, .int .i64 a3_3]) (t := 24) ?hr ?_; (case hd => rfl); (case hg => rfl); (case hr => first | (go_simp; done) | (go_simp; rfl)); intro gb279 hg w8 hbox hb; have n0_ := Aside0.mk (below_step (by repeat (first | (with_reducible first | exact HB.out | apply below_alloc | apply pw_below_drewN | apply below_drew1) | exact HB.out)) hb); have n1_ := Aside0.mk (hbox); have n2_ := Aside0.mk ((by rw [hg]; exact (below_size (by repeat (first | (with_reducible first | exact HB.out | apply below_alloc | apply pw_below_drewN | apply below_drew1) | exact HB.out))) : w.heap.size ≤ gb279)); have n3_ := Aside0.mk ((by rw [hg]; exact (below_size (by repeat (first | (with_reducible first | exact HB.out | apply below_alloc | apply pw_below_drewN | apply below_drew1) | exact HB.out))) : w.heap.size ≤ gb279)); clear HB; have HB := n0_; have BK279 := n1_; have GW279 := n2_; have GE279 := n3_; clear n0_ n1_ n2_ n3_; clear hb hbox hg) | ((with_reducible refine gate_callee (f := 7) rfl ?_); refine goesL_ (some 18) rfl rfl Try.func7 (by kernel_rfl) rfl #[] rfl (by (try simp only [List.map_toArray, List.map_cons, List.map_nil]); first | done | rfl | (simp only [List.length_drop, List.length_take]; rfl)) ?_; (with_reducible refine (footlockerlaw23_alive.calls k  true _ A5.out).mono ?_); rintro e w9 ⟨rfl, hb⟩; refine ⟨_, rfl, ?_⟩; have n0_ := Aside0.mk (blk_below (g := gb279) (o := .cells #[.int .i64 a3_0, .int .i64 a3_1, .int .i64 a3_2, .int .i64 a3_3] 24 (0, 0)) (by (with_reducible repeat (first | refine blk_drewN ?_ _ | refine blk_drew ?_ | refine blk_alloc ?_ _)); exact BK279.out) hb); have n1_ := Aside0.mk (below_step (by repeat (first | (with_reducible first | exact HB.out | apply below_alloc | apply pw_below_drewN | apply below_drew1 | refine below_set ?_ GE279.out) | exact HB.out)) hb); clear BK279; clear HB; have BK279 := n0_; have HB := n1_; clear n0_ n1_; (try clear hb); (try clear hb2); (try clear hk); (try clear hi)))
  (try simp only [Act.put, List.setIfInBounds_toArray, List.set_cons_zero, List.set_cons_succ])
  go_cut [35] (fun v35 wc => ∃ (kq : Nat) (x35_6 : Bool), v35 = .bool x35_6 ∧ Aside0 (footlockerlaw23_StripeColumns.j0 kq l0 a1 l2 x35_6 a3_0 a3_1 a3_2 a3_3 = some r) ∧ Aside0 (kq ≤ k) ∧ Aside0 (wc.heap[gb279]? = some (.cells #[.int .i64 a3_0, .int .i64 a3_1, .int .i64 a3_2, .int .i64 a3_3] 24 (0, 0))) ∧ Aside0 (Below w.heap.size w wc))
  case first =>
   have H := HC7.out
   clear HC7
   by_cases c10 : (l0.length : Int) > 200
   ·rw [if_pos c10] at H
    have c10b0 : decide (200 < (l0.length : Int)) = true := decide_eq_true c10
    have c10b1 : decide (200 < l0.length) = true := decide_eq_true (by omega)
    clear c10
    (first | rw [c10b0] | (simp only [i64_w, i32_w]; rw [c10b0]) | skip)
    have H' := Aside0.mk H
    clear H
    go_wp2
    go_meet
    case rel => exact ⟨_, (true), (by first | rfl | (simp; done) | (simp [*]; done)), H', ⟨by first | omega | exact Nat.le_refl _⟩, ⟨by (with_reducible repeat (first | refine blk_drewN ?_ _ | refine blk_drew ?_ | refine blk_alloc ?_ _)); exact BK279.out⟩, ⟨by repeat (first | (with_reducible first | exact HB.out | apply below_alloc | apply pw_below_drewN | apply below_drew1 | refine below_set ?_ GE279.out) | exact HB.out)⟩⟩
   ·rw [if_neg c10] at H
    have c10b0 : decide (200 < (l0.length : Int)) = false := decide_eq_false c10
    have c10b1 : decide (200 < l0.length) = false := decide_eq_false (by omega)
    clear c10
    (first | rw [c10b0] | (simp only [i64_w, i32_w]; rw [c10b0]) | skip)
    by_cases c11 : (l2.length : Int) > 200
    ·rw [if_pos c11] at H
     have c11b0 : decide (200 < (l2.length : Int)) = true := decide_eq_true c11
     have c11b1 : decide (200 < l2.length) = true := decide_eq_true (by omega)
     clear c11
     have H' := Aside0.mk H
     clear H
     go_wp2
     go_meet
     case rel => exact ⟨_, (true), (by first | rfl | (simp; done) | (simp [*]; done)), H', ⟨by first | omega | exact Nat.le_refl _⟩, ⟨by (with_reducible repeat (first | refine blk_drewN ?_ _ | refine blk_drew ?_ | refine blk_alloc ?_ _)); exact BK279.out⟩, ⟨by repeat (first | (with_reducible first | exact HB.out | apply below_alloc | apply pw_below_drewN | apply below_drew1 | refine below_set ?_ GE279.out) | exact HB.out)⟩⟩
    ·rw [if_neg c11] at H
     have c11b0 : decide (200 < (l2.length : Int)) = false := decide_eq_false c11
     have c11b1 : decide (200 < l2.length) = false := decide_eq_false (by omega)
     clear c11
     by_cases c12 : a1 > 300
     ·rw [if_pos c12] at H
      have c12b0 : decide (300 < a1) = true := decide_eq_true c12
      clear c12
      have H' := Aside0.mk H
      clear H
      go_wp2
      go_meet
      case rel => exact ⟨_, (decide (a1 ≤ 16777216)), (by first | rfl | (simp; done) | (simp [*]; done)), H', ⟨by first | omega | exact Nat.le_refl _⟩, ⟨by (with_reducible repeat (first | refine blk_drewN ?_ _ | refine blk_drew ?_ | refine blk_alloc ?_ _)); exact BK279.out⟩, ⟨by repeat (first | (with_reducible first | exact HB.out | apply below_alloc | apply pw_below_drewN | apply below_drew1 | refine below_set ?_ GE279.out) | exact HB.out)⟩⟩
     ·rw [if_neg c12] at H
      have c12b0 : decide (300 < a1) = false := decide_eq_false c12
      clear c12
      have H' := Aside0.mk H
      clear H
      go_wp2
      go_meet
      case rel => exact ⟨_, (false), (by first | rfl | (simp; done) | (simp [*]; done)), H', ⟨by first | omega | exact Nat.le_refl _⟩, ⟨by (with_reducible repeat (first | refine blk_drewN ?_ _ | refine blk_drew ?_ | refine blk_alloc ?_ _)); exact BK279.out⟩, ⟨by repeat (first | (with_reducible first | exact HB.out | apply below_alloc | apply pw_below_drewN | apply below_drew1 | refine below_set ?_ GE279.out) | exact HB.out)⟩⟩
  case rest =>
   clear HC7
   try clear c1
   try clear c2
   try clear p2
   try clear c3
   try clear c6
   try clear c7
   try clear c10
   try clear c10b0
   try clear c10b1
   try clear c11
   try clear c11b0
   try clear c11b1
   try clear c12
   try clear c12b0
   obtain ⟨kq, x35_6, rfl, HA, HJ6, BK279, HB⟩ := hcut
   cases kq with
   | zero => exact absurd HA.out (by simp [footlockerlaw23_StripeColumns.j0])
   | succ kj6 =>
    have H := HA.out
    clear HA
    simp only [footlockerlaw23_StripeColumns.j0] at H
    by_cases c13 : x35_6 = true
    ·subst c13
     have H1 : (some true) = some r := by rw [if_pos rfl] at H; exact H
     clear H
     have H := H1
     clear H1
     obtain rfl := Option.some.inj H
     go_wp2
     go_ret
     exact ⟨by first | rfl | (simp [errW_none, errW_some] <;> rfl) | (simp [*, errW_none, errW_some] <;> rfl), by repeat (first | (with_reducible first | exact HB.out | apply below_alloc | apply pw_below_drewN | apply below_drew1 | refine below_set ?_ GE279.out) | exact HB.out)⟩
    ·replace c13 := Bool.eq_false_iff.mpr c13
     subst c13
     have H1 : ((stripe_Column.f kj6 l0 a1).bind fun bt281 => ((footlockerref23_Column.f kj6 l0 a1).bind fun bt285 => ((stripe_Volume.f kj6 l2).bind fun bt289 => ((footlockerref23_Volume.f kj6 l2).bind fun bt293 => (if bt281.2 = bt285.2 then ((footlockerref01_Same.f kj6 bt281.1 bt285.1).bind fun t297 => (if t297 = true then (if bt289.2 = bt293.2 then ((footlockerref01_Same.f kj6 bt289.1 bt293.1).bind fun t298 => (footlockerlaw23_StripeColumns.j1 kj6 (!t298) a3_0 a3_1 a3_2 a3_3)) else (footlockerlaw23_StripeColumns.j1 kj6 true a3_0 a3_1 a3_2 a3_3)) else (footlockerlaw23_StripeColumns.j1 kj6 true a3_0 a3_1 a3_2 a3_3))) else (footlockerlaw23_StripeColumns.j1 kj6 true a3_0 a3_1 a3_2 a3_3)))))) = some r := by rw [if_neg (show ¬ (false = true) by decide)] at H; exact H
     clear H
     have H := H1
     clear H1
     replace H := Option.bind_eq_some_iff.mp H
     obtain ⟨⟨t281, t284⟩, A140, H⟩ := H
     replace H : ((footlockerref23_Column.f kj6 l0 a1).bind fun bt285 => ((stripe_Volume.f kj6 l2).bind fun bt289 => ((footlockerref23_Volume.f kj6 l2).bind fun bt293 => (if t284 = bt285.2 then ((footlockerref01_Same.f kj6 t281 bt285.1).bind fun t297 => (if t297 = true then (if bt289.2 = bt293.2 then ((footlockerref01_Same.f kj6 bt289.1 bt293.1).bind fun t298 => (footlockerlaw23_StripeColumns.j1 kj6 (!t298) a3_0 a3_1 a3_2 a3_3)) else (footlockerlaw23_StripeColumns.j1 kj6 true a3_0 a3_1 a3_2 a3_3)) else (footlockerlaw23_StripeColumns.j1 kj6 true a3_0 a3_1 a3_2 a3_3))) else (footlockerlaw23_StripeColumns.j1 kj6 true a3_0 a3_1 a3_2 a3_3))))) = some r := H
     have A14 := Aside0.mk A140
     clear A140
     replace H := Option.bind_eq_some_iff.mp H
     obtain ⟨⟨t285, t288⟩, A150, H⟩ := H
     replace H : ((stripe_Volume.f kj6 l2).bind fun bt289 => ((footlockerref23_Volume.f kj6 l2).bind fun bt293 => (if t284 = t288 then ((footlockerref01_Same.f kj6 t281 t285).bind fun t297 => (if t297 = true then (if bt289.2 = bt293.2 then ((footlockerref01_Same.f kj6 bt289.1 bt293.1).bind fun t298 => (footlockerlaw23_StripeColumns.j1 kj6 (!t298) a3_0 a3_1 a3_2 a3_3)) else (footlockerlaw23_StripeColumns.j1 kj6 true a3_0 a3_1 a3_2 a3_3)) else (footlockerlaw23_StripeColumns.j1 kj6 true a3_0 a3_1 a3_2 a3_3))) else (footlockerlaw23_StripeColumns.j1 kj6 true a3_0 a3_1 a3_2 a3_3)))) = some r := H
     have A15 := Aside0.mk A150
     clear A150
     replace H := Option.bind_eq_some_iff.mp H
     obtain ⟨⟨t289, t290⟩, A160, H⟩ := H
     replace H : ((footlockerref23_Volume.f kj6 l2).bind fun bt293 => (if t284 = t288 then ((footlockerref01_Same.f kj6 t281 t285).bind fun t297 => (if t297 = true then (if t290 = bt293.2 then ((footlockerref01_Same.f kj6 t289 bt293.1).bind fun t298 => (footlockerlaw23_StripeColumns.j1 kj6 (!t298) a3_0 a3_1 a3_2 a3_3)) else (footlockerlaw23_StripeColumns.j1 kj6 true a3_0 a3_1 a3_2 a3_3)) else (footlockerlaw23_StripeColumns.j1 kj6 true a3_0 a3_1 a3_2 a3_3))) else (footlockerlaw23_StripeColumns.j1 kj6 true a3_0 a3_1 a3_2 a3_3))) = some r := H
     have A16 := Aside0.mk A160
     clear A160
     replace H := Option.bind_eq_some_iff.mp H
     obtain ⟨⟨t293, t296⟩, A170, H⟩ := H
     replace H : (if t284 = t288 then ((footlockerref01_Same.f kj6 t281 t285).bind fun t297 => (if t297 = true then (if t290 = t296 then ((footlockerref01_Same.f kj6 t289 t293).bind fun t298 => (footlockerlaw23_StripeColumns.j1 kj6 (!t298) a3_0 a3_1 a3_2 a3_3)) else (footlockerlaw23_StripeColumns.j1 kj6 true a3_0 a3_1 a3_2 a3_3)) else (footlockerlaw23_StripeColumns.j1 kj6 true a3_0 a3_1 a3_2 a3_3))) else (footlockerlaw23_StripeColumns.j1 kj6 true a3_0 a3_1 a3_2 a3_3)) = some r := H
     have A17 := Aside0.mk A170
     clear A170
     have HC18 := Aside0.mk H
     clear H
     go_upto_region 9 with (first | ((with_reducible refine gate_callee (f := 8) rfl ?_); refine goesL_ (some 39) rfl rfl Try.func8 (by kernel_rfl) rfl #[.slice A0 l0.length c0, .int .i64 a1] rfl (by (try simp only [List.map_toArray, List.map_cons, List.map_nil]); first | done | rfl | (simp only [List.length_drop, List.length_take]; rfl)) ?_; (with_reducible refine (stripe_Column.calls kj6 (fun k_ => k_ < w.heap.size) _ _ l0 a1 t281 t284 _ ?side1 A14.out).mono ?_); (case side1 => exact Kd.V_mk HC0.out (Kd.F_below (Kd.C_F (Kd.heap_int .u8) HR0.out) (by repeat (first | (with_reducible first | exact HB.out | apply below_alloc | apply pw_below_drewN | apply below_drew1 | refine below_set ?_ GE279.out) | exact HB.out)))); rintro e w19 ⟨v282, rfl, ho0, hb⟩; refine ⟨_, rfl, ?_⟩; have n0_ := Aside0.mk (Kd.R_lower (Kd.R_mono (ok' := fun k_ => True) ho0 (fun _ hk_ => trivial)) (below_size (by repeat (first | (with_reducible first | exact HB.out | apply below_alloc | apply pw_below_drewN | apply below_drew1 | refine below_set ?_ GE279.out) | exact HB.out)))); have n1_ := Aside0.mk (blk_below (g := gb279) (o := .cells #[.int .i64 a3_0, .int .i64 a3_1, .int .i64 a3_2, .int .i64 a3_3] 24 (0, 0)) (by (with_reducible repeat (first | refine blk_drewN ?_ _ | refine blk_drew ?_ | refine blk_alloc ?_ _)); exact BK279.out) hb); have n2_ := Aside0.mk (below_step (by repeat (first | (with_reducible first | exact HB.out | apply below_alloc | apply pw_below_drewN | apply below_drew1 | refine below_set ?_ GE279.out) | exact HB.out)) hb); clear BK279; clear HB; have HO283 := n0_; have BK279 := n1_; have HB := n2_; clear n0_ n1_ n2_; (try clear hb); (try clear hb2); (try clear hk); (try clear hi); (try clear ho0)) | ((with_reducible refine gate_callee (f := 9) rfl ?_); refine goesL_ (some 45) rfl rfl Try.func9 (by kernel_rfl) rfl #[.slice A0 l0.length c0, .int .i64 a1] rfl (by (try simp only [List.map_toArray, List.map_cons, List.map_nil]); first | done | rfl | (simp only [List.length_drop, List.length_take]; rfl)) ?_; (with_reducible refine (footlockerref23_Column.calls kj6 (fun k_ => k_ < w.heap.size) _ _ l0 a1 t285 t288 _ ?side1 A15.out).mono ?_); (case side1 => exact Kd.V_mk HC0.out (Kd.F_below (Kd.C_F (Kd.heap_int .u8) HR0.out) (by repeat (first | (with_reducible first | exact HB.out | apply below_alloc | apply pw_below_drewN | apply below_drew1 | refine below_set ?_ GE279.out) | exact HB.out)))); rintro e w20 ⟨v286, rfl, ho0, hb⟩; refine ⟨_, rfl, ?_⟩; have n0_ := Aside0.mk (Kd.R_elder' (by (with_reducible repeat (first | apply Kd.R_alloc | apply Kd.R_drewN | apply Kd.R_drew)); exact HO283.out) (Kd.R_base ho0) hb); have n1_ := Aside0.mk (Kd.R_lower (Kd.R_new' (Kd.R_mono (ok' := fun k_ => True) ho0 (fun _ hk_ => trivial)) (Kd.R_lt (by (with_reducible repeat (first | apply Kd.R_alloc | apply Kd.R_drewN | apply Kd.R_drew)); exact HO283.out))) (below_size (by repeat (first | (with_reducible first | exact HB.out | apply below_alloc | apply pw_below_drewN | apply below_drew1 | refine below_set ?_ GE279.out) | exact HB.out)))); have n2_ := Aside0.mk (blk_below (g := gb279) (o := .cells #[.int .i64 a3_0, .int .i64 a3_1, .int .i64 a3_2, .int .i64 a3_3] 24 (0, 0)) (by (with_reducible repeat (first | refine blk_drewN ?_ _ | refine blk_drew ?_ | refine blk_alloc ?_ _)); exact BK279.out) hb); have n3_ := Aside0.mk (below_step (by repeat (first | (with_reducible first | exact HB.out | apply below_alloc | apply pw_below_drewN | apply below_drew1 | refine below_set ?_ GE279.out) | exact HB.out)) hb); clear HO283; clear BK279; clear HB; have HO283 := n0_; have HO287 := n1_; have BK279 := n2_; have HB := n3_; clear n0_ n1_ n2_ n3_; (try clear hb); (try clear hb2); (try clear hk); (try clear hi); (try clear ho0)) | ((with_reducible refine gate_callee (f := 10) rfl ?_); refine goesL_ (some 50) rfl rfl Try.func10 (by kernel_rfl) rfl #[.slice A2 l2.length c2] rfl (by (try simp only [List.map_toArray, List.map_cons, List.map_nil]); first | done | rfl | (simp only [List.length_drop, List.length_take]; rfl)) ?_; (with_reducible refine (stripe_Volume.calls kj6 _ _ l2 t289 t290 _ ?side1 ?side2 A16.out).mono ?_); (case side1 => repeat (first | exact (Kd.C_below HR2.out HB.out) | (with_reducible refine Kd.C_alloc ?_ _) | (with_reducible refine Kd.C_drewN ?_ _) | (with_reducible refine Kd.C_drew ?_))); (case side2 => exact HC2.out); rintro e w21 ⟨v291, rfl, ho0, hb⟩; refine ⟨_, rfl, ?_⟩; have n0_ := Aside0.mk (Kd.R_elder' (by (with_reducible repeat (first | apply Kd.R_alloc | apply Kd.R_drewN | apply Kd.R_drew)); exact HO283.out) (Kd.R_base ho0) hb); have n1_ := Aside0.mk (Kd.R_elder' (by (with_reducible repeat (first | apply Kd.R_alloc | apply Kd.R_drewN | apply Kd.R_drew)); exact HO287.out) (Kd.R_base ho0) hb); have n2_ := Aside0.mk (Kd.R_lower (Kd.R_new' (Kd.R_new' ho0 (Kd.R_lt (by (with_reducible repeat (first | apply Kd.R_alloc | apply Kd.R_drewN | apply Kd.R_drew)); exact HO283.out))) (Kd.R_lt (by (with_reducible repeat (first | apply Kd.R_alloc | apply Kd.R_drewN | apply Kd.R_drew)); exact HO287.out))) (below_size (by repeat (first | (with_reducible first | exact HB.out | apply below_alloc | apply pw_below_drewN | apply below_drew1 | refine below_set ?_ GE279.out) | exact HB.out)))); have n3_ := Aside0.mk (blk_below (g := gb279) (o := .cells #[.int .i64 a3_0, .int .i64 a3_1, .int .i64 a3_2, .int .i64 a3_3] 24 (0, 0)) (by (with_reducible repeat (first | refine blk_drewN ?_ _ | refine blk_drew ?_ | refine blk_alloc ?_ _)); exact BK279.out) hb); have n4_ := Aside0.mk (below_step (by repeat (first | (with_reducible first | exact HB.out | apply below_alloc | apply pw_below_drewN | apply below_drew1 | refine below_set ?_ GE279.out) | exact HB.out)) hb); clear HO283; clear HO287; clear BK279; clear HB; have HO283 := n0_; have HO287 := n1_; have HO292 := n2_; have BK279 := n3_; have HB := n4_; clear n0_ n1_ n2_ n3_ n4_; (try clear hb); (try clear hb2); (try clear hk); (try clear hi); (try clear ho0)) | ((with_reducible refine gate_callee (f := 11) rfl ?_); refine goesL_ (some 55) rfl rfl Try.func11 (by kernel_rfl) rfl #[.slice A2 l2.length c2] rfl (by (try simp only [List.map_toArray, List.map_cons, List.map_nil]); first | done | rfl | (simp only [List.length_drop, List.length_take]; rfl)) ?_; (with_reducible refine (footlockerref23_Volume.calls kj6 (fun k_ => k_ < w.heap.size) _ _ l2 t293 t296 _ ?side1 A17.out).mono ?_); (case side1 => exact Kd.V_mk HC2.out (Kd.F_below (Kd.C_F (Kd.heap_int .u8) HR2.out) (by repeat (first | (with_reducible first | exact HB.out | apply below_alloc | apply pw_below_drewN | apply below_drew1 | refine below_set ?_ GE279.out) | exact HB.out)))); rintro e w22 ⟨v294, rfl, ho0, hb⟩; refine ⟨_, rfl, ?_⟩; have n0_ := Aside0.mk (Kd.R_below (by (with_reducible repeat (first | apply Kd.R_alloc | apply Kd.R_drewN | apply Kd.R_drew)); exact HO283.out) hb); have n1_ := Aside0.mk (Kd.R_below (by (with_reducible repeat (first | apply Kd.R_alloc | apply Kd.R_drewN | apply Kd.R_drew)); exact HO287.out) hb); have n2_ := Aside0.mk (Kd.R_below (by (with_reducible repeat (first | apply Kd.R_alloc | apply Kd.R_drewN | apply Kd.R_drew)); exact HO292.out) hb); have n3_ := Aside0.mk (Kd.V_lower (Kd.V_mono (ok' := fun k_ => some k_ ≠ (v282 : Value).ownBlock ∧ some k_ ≠ (v286 : Value).ownBlock ∧ some k_ ≠ (v291 : Value).ownBlock ∧ k_ ≠ gb279) ho0 (fun k_ hk_ => ⟨Or.elim hk_ (fun hs_ => fun e_ => Nat.not_le.2 hs_ (Kd.R_base HO283.out k_ e_.symm)) (fun hn_ => (Kd.fresh' (Kd.R_lt (by (with_reducible repeat (first | apply Kd.R_alloc | apply Kd.R_drewN | apply Kd.R_drew)); exact HO283.out)) k_ hn_)), Or.elim hk_ (fun hs_ => fun e_ => Nat.not_le.2 hs_ (Kd.R_base HO287.out k_ e_.symm)) (fun hn_ => (Kd.fresh' (Kd.R_lt (by (with_reducible repeat (first | apply Kd.R_alloc | apply Kd.R_drewN | apply Kd.R_drew)); exact HO287.out)) k_ hn_)), Or.elim hk_ (fun hs_ => fun e_ => Nat.not_le.2 hs_ (Kd.R_base HO292.out k_ e_.symm)) (fun hn_ => (Kd.fresh' (Kd.R_lt (by (with_reducible repeat (first | apply Kd.R_alloc | apply Kd.R_drewN | apply Kd.R_drew)); exact HO292.out)) k_ hn_)), Or.elim hk_ (fun hs_ => fun e_ => Nat.not_le.2 hs_ (by rw [e_]; exact GW279.out)) (fun hn_ => (Kd.freshB (g := gb279) (o := .cells #[.int .i64 a3_0, .int .i64 a3_1, .int .i64 a3_2, .int .i64 a3_3] 24 (0, 0)) (by (with_reducible repeat (first | refine blk_drewN ?_ _ | refine blk_drew ?_ | refine blk_alloc ?_ _)); exact BK279.out) k_ hn_))⟩)) (below_size (by repeat (first | (with_reducible first | exact HB.out | apply below_alloc | apply pw_below_drewN | apply below_drew1 | refine below_set ?_ GE279.out) | exact HB.out)))); have n4_ := Aside0.mk (blk_below (g := gb279) (o := .cells #[.int .i64 a3_0, .int .i64 a3_1, .int .i64 a3_2, .int .i64 a3_3] 24 (0, 0)) (by (with_reducible repeat (first | refine blk_drewN ?_ _ | refine blk_drew ?_ | refine blk_alloc ?_ _)); exact BK279.out) hb); have n5_ := Aside0.mk (below_step (by repeat (first | (with_reducible first | exact HB.out | apply below_alloc | apply pw_below_drewN | apply below_drew1 | refine below_set ?_ GE279.out) | exact HB.out)) hb); clear HO283; clear HO287; clear HO292; clear BK279; clear HB; have HO283 := n0_; have HO287 := n1_; have HO292 := n2_; have HO295 := n3_; have BK279 := n4_; have HB := n5_; clear n0_ n1_ n2_ n3_ n4_ n5_; (try clear hb); (try clear hb2); (try clear hk); (try clear hi); (try clear ho0)))
     (try simp only [Act.put, List.setIfInBounds_toArray, List.set_cons_zero, List.set_cons_succ])
     go_cut [77] (fun v77 wc => ∃ (kq : Nat) (x77_17 : Bool), v77 = .bool x77_17 ∧ Aside0 (footlockerlaw23_StripeColumns.j1 kq x77_17 a3_0 a3_1 a3_2 a3_3 = some r) ∧ Aside0 (kq ≤ kj6) ∧ Aside0 (wc.heap[gb279]? = some (.cells #[.int .i64 a3_0, .int .i64 a3_1, .int .i64 a3_2, .int .i64 a3_3] 24 (0, 0))) ∧ Aside0 (Below w.heap.size w wc))
     case first =>
      have H := HC18.out
      clear HC18
      by_cases c23 : t284 = t288
      ·rw [if_pos c23] at H
       have c23b0 : (t284 == t288) = true := beq_iff_eq.mpr c23
       have c23b1 : (t284 != t288) = false := bne_eq_false_iff_eq.mpr c23
       clear c23
       (first | rw [c23b0] | (simp only [i64_w, i32_w]; rw [c23b0]) | skip)
       replace H := Option.bind_eq_some_iff.mp H
       obtain ⟨t297, A240, H⟩ := H
       replace H : (if t297 = true then (if t290 = t296 then ((footlockerref01_Same.f kj6 t289 t293).bind fun t298 => (footlockerlaw23_StripeColumns.j1 kj6 (!t298) a3_0 a3_1 a3_2 a3_3)) else (footlockerlaw23_StripeColumns.j1 kj6 true a3_0 a3_1 a3_2 a3_3)) else (footlockerlaw23_StripeColumns.j1 kj6 true a3_0 a3_1 a3_2 a3_3)) = some r := H
       have A24 := Aside0.mk A240
       clear A240
       by_cases c25 : t297 = true
       ·subst c25
        have H1 : (if t290 = t296 then ((footlockerref01_Same.f kj6 t289 t293).bind fun t298 => (footlockerlaw23_StripeColumns.j1 kj6 (!t298) a3_0 a3_1 a3_2 a3_3)) else (footlockerlaw23_StripeColumns.j1 kj6 true a3_0 a3_1 a3_2 a3_3)) = some r := by rw [if_pos rfl] at H; exact H
        clear H
        have H := H1
        clear H1
        by_cases c26 : t290 = t296
        ·rw [if_pos c26] at H
         have c26b0 : (t290 == t296) = true := beq_iff_eq.mpr c26
         have c26b1 : (t290 != t296) = false := bne_eq_false_iff_eq.mpr c26
         clear c26
         replace H := Option.bind_eq_some_iff.mp H
         obtain ⟨t298, A270, H⟩ := H
         replace H : (footlockerlaw23_StripeColumns.j1 kj6 (!t298) a3_0 a3_1 a3_2 a3_3) = some r := H
         have A27 := Aside0.mk A270
         clear A270
         have H' := Aside0.mk H
         clear H
         obtain ⟨Ao28, co28, eo28⟩ := Kd.R_slice HO283.out
         subst eo28
         obtain ⟨Ao29, co29, eo29⟩ := Kd.R_slice HO287.out
         subst eo29
         go_wp2_with (first | (go_at_call 12; (with_reducible refine (footlockerref01_Same.calls kj6 _ _ t281 _ _ t285 true _ ?side1 ?side2 ?side3 ?side4 A24.out).mono ?_); (case side1 => repeat (first | exact (Kd.R_reads' HO283.out).2.2 | (with_reducible refine Kd.C_alloc ?_ _) | (with_reducible refine Kd.C_drewN ?_ _) | (with_reducible refine Kd.C_drew ?_))); (case side2 => exact (Kd.R_reads' HO283.out).2.1); (case side3 => repeat (first | exact (Kd.R_reads' HO287.out).2.2 | (with_reducible refine Kd.C_alloc ?_ _) | (with_reducible refine Kd.C_drewN ?_ _) | (with_reducible refine Kd.C_drew ?_))); (case side4 => exact (Kd.R_reads' HO287.out).2.1); rintro e w' ⟨rfl, ⟨nd, rfl⟩⟩; obtain ⟨Ao30, co30, eo30⟩ := Kd.R_slice HO292.out; subst eo30; obtain ⟨Ao31, co31, eo31⟩ := Kd.V_slice HO295.out; subst eo31) | (go_at_call 12; (with_reducible refine (footlockerref01_Same.calls kj6 _ _ t289 _ _ t293 t298 _ ?side1 ?side2 ?side3 ?side4 A27.out).mono ?_); (case side1 => repeat (first | exact (Kd.R_reads' HO292.out).2.2 | (with_reducible refine Kd.C_alloc ?_ _) | (with_reducible refine Kd.C_drewN ?_ _) | (with_reducible refine Kd.C_drew ?_))); (case side2 => exact (Kd.R_reads' HO292.out).2.1); (case side3 => repeat (first | exact (Kd.V_reads' HO295.out).2.2 | (with_reducible refine Kd.C_alloc ?_ _) | (with_reducible refine Kd.C_drewN ?_ _) | (with_reducible refine Kd.C_drew ?_))); (case side4 => exact (Kd.V_reads' HO295.out).2.1); rintro e w' ⟨rfl, ⟨nd, rfl⟩⟩))
         go_meet
         case rel => exact ⟨_, (!t298), (by first | rfl | (simp; done) | (simp [*]; done)), H', ⟨by have := HJ6.out; first | omega | exact Nat.le_refl _⟩, ⟨by (with_reducible repeat (first | refine blk_drewN ?_ _ | refine blk_drew ?_ | refine blk_alloc ?_ _)); exact BK279.out⟩, ⟨by repeat (first | (with_reducible first | exact HB.out | apply below_alloc | apply pw_below_drewN | apply below_drew1 | refine below_set ?_ GE279.out) | exact HB.out)⟩⟩
        ·rw [if_neg c26] at H
         have c26b0 : (t290 == t296) = false := beq_eq_false_iff_ne.mpr c26
         have c26b1 : (t290 != t296) = true := bne_iff_ne.mpr c26
         have H' := Aside0.mk H
         clear H
         obtain ⟨Ao32, co32, eo32⟩ := Kd.R_slice HO283.out
         subst eo32
         obtain ⟨Ao33, co33, eo33⟩ := Kd.R_slice HO287.out
         subst eo33
         go_wp2_with (first | (go_at_call 12; (with_reducible refine (footlockerref01_Same.calls kj6 _ _ t281 _ _ t285 true _ ?side1 ?side2 ?side3 ?side4 A24.out).mono ?_); (case side1 => repeat (first | exact (Kd.R_reads' HO283.out).2.2 | (with_reducible refine Kd.C_alloc ?_ _) | (with_reducible refine Kd.C_drewN ?_ _) | (with_reducible refine Kd.C_drew ?_))); (case side2 => exact (Kd.R_reads' HO283.out).2.1); (case side3 => repeat (first | exact (Kd.R_reads' HO287.out).2.2 | (with_reducible refine Kd.C_alloc ?_ _) | (with_reducible refine Kd.C_drewN ?_ _) | (with_reducible refine Kd.C_drew ?_))); (case side4 => exact (Kd.R_reads' HO287.out).2.1); rintro e w' ⟨rfl, ⟨nd, rfl⟩⟩))
         go_meet
         case rel => exact ⟨_, (true), (by first | rfl | (simp; done) | (simp [*]; done)), H', ⟨by have := HJ6.out; first | omega | exact Nat.le_refl _⟩, ⟨by (with_reducible repeat (first | refine blk_drewN ?_ _ | refine blk_drew ?_ | refine blk_alloc ?_ _)); exact BK279.out⟩, ⟨by repeat (first | (with_reducible first | exact HB.out | apply below_alloc | apply pw_below_drewN | apply below_drew1 | refine below_set ?_ GE279.out) | exact HB.out)⟩⟩
       ·replace c25 := Bool.eq_false_iff.mpr c25
        subst c25
        have H1 : (footlockerlaw23_StripeColumns.j1 kj6 true a3_0 a3_1 a3_2 a3_3) = some r := by rw [if_neg (show ¬ (false = true) by decide)] at H; exact H
        clear H
        have H := H1
        clear H1
        have H' := Aside0.mk H
        clear H
        obtain ⟨Ao34, co34, eo34⟩ := Kd.R_slice HO283.out
        subst eo34
        obtain ⟨Ao35, co35, eo35⟩ := Kd.R_slice HO287.out
        subst eo35
        go_wp2_with (first | (go_at_call 12; (with_reducible refine (footlockerref01_Same.calls kj6 _ _ t281 _ _ t285 false _ ?side1 ?side2 ?side3 ?side4 A24.out).mono ?_); (case side1 => repeat (first | exact (Kd.R_reads' HO283.out).2.2 | (with_reducible refine Kd.C_alloc ?_ _) | (with_reducible refine Kd.C_drewN ?_ _) | (with_reducible refine Kd.C_drew ?_))); (case side2 => exact (Kd.R_reads' HO283.out).2.1); (case side3 => repeat (first | exact (Kd.R_reads' HO287.out).2.2 | (with_reducible refine Kd.C_alloc ?_ _) | (with_reducible refine Kd.C_drewN ?_ _) | (with_reducible refine Kd.C_drew ?_))); (case side4 => exact (Kd.R_reads' HO287.out).2.1); rintro e w' ⟨rfl, ⟨nd, rfl⟩⟩))
        go_meet
        case rel => exact ⟨_, (true), (by first | rfl | (simp; done) | (simp [*]; done)), H', ⟨by have := HJ6.out; first | omega | exact Nat.le_refl _⟩, ⟨by (with_reducible repeat (first | refine blk_drewN ?_ _ | refine blk_drew ?_ | refine blk_alloc ?_ _)); exact BK279.out⟩, ⟨by repeat (first | (with_reducible first | exact HB.out | apply below_alloc | apply pw_below_drewN | apply below_drew1 | refine below_set ?_ GE279.out) | exact HB.out)⟩⟩
      ·rw [if_neg c23] at H
       have c23b0 : (t284 == t288) = false := beq_eq_false_iff_ne.mpr c23
       have c23b1 : (t284 != t288) = true := bne_iff_ne.mpr c23
       (first | rw [c23b0] | (simp only [i64_w, i32_w]; rw [c23b0]) | skip)
       have H' := Aside0.mk H
       clear H
       go_wp2
       go_meet
       case rel => exact ⟨_, (true), (by first | rfl | (simp; done) | (simp [*]; done)), H', ⟨by have := HJ6.out; first | omega | exact Nat.le_refl _⟩, ⟨by (with_reducible repeat (first | refine blk_drewN ?_ _ | refine blk_drew ?_ | refine blk_alloc ?_ _)); exact BK279.out⟩, ⟨by repeat (first | (with_reducible first | exact HB.out | apply below_alloc | apply pw_below_drewN | apply below_drew1 | refine below_set ?_ GE279.out) | exact HB.out)⟩⟩
     case rest =>
      clear HC18
      try clear c1
      try clear c2
      try clear p2
      try clear c3
      try clear c6
      try clear c7
      try clear c8
      try clear c9
      try clear c10
      try clear c10b0
      try clear c10b1
      try clear c11
      try clear c11b0
      try clear c11b1
      try clear c12
      try clear c12b0
      try clear c13
      try clear c23
      try clear c23b0
      try clear c23b1
      try clear c25
      try clear c26
      try clear c26b0
      try clear c26b1
      try clear p2
      obtain ⟨kq, x77_17, rfl, HA, HJ17, BK279, HB⟩ := hcut
      cases kq with
      | zero => exact absurd HA.out (by simp [footlockerlaw23_StripeColumns.j1])
      | succ kj17 =>
       have H := HA.out
       clear HA
       simp only [footlockerlaw23_StripeColumns.j1] at H
       by_cases c36 : x77_17 = true
       ·subst c36
        have H1 : (some false) = some r := by rw [if_pos rfl] at H; exact H
        clear H
        have H := H1
        clear H1
        obtain rfl := Option.some.inj H
        go_wp2
        go_ret
        exact ⟨by first | rfl | (simp [errW_none, errW_some] <;> rfl) | (simp [*, errW_none, errW_some] <;> rfl), by repeat (first | (with_reducible first | exact HB.out | apply below_alloc | apply pw_below_drewN | apply below_drew1 | refine below_set ?_ GE279.out) | exact HB.out)⟩
       ·replace c36 := Bool.eq_false_iff.mpr c36
        subst c36
        have H1 : ((footlockerref23_Right.f a3_0 a3_1 a3_2 a3_3).bind fun t300 => (if t300 = true then ((stripe_Right.f a3_0 a3_1 a3_2 a3_3).bind fun t304 => (if t304 = true then ((stripe_Long.f a3_0 a3_1 a3_2 a3_3).bind fun t305 => (if t305 = (wrap64 (8 + a3_2)) then (if a3_2 > (wrap64 (1000 * a3_3)) then (some true) else ((stripe_Blocks.f a3_0 a3_1 a3_2 a3_3).bind fun t306 => ((footlockerref23_Blocks.f kj17 a3_0 a3_1 a3_2 a3_3).bind fun t307 => (some (t306 == t307))))) else (some false))) else (some false))) else ((stripe_Right.f a3_0 a3_1 a3_2 a3_3).bind fun t301 => (if t301 = true then (some false) else ((stripe_Long.f a3_0 a3_1 a3_2 a3_3).bind fun t302 => (if t302 = 0 then ((stripe_Blocks.f a3_0 a3_1 a3_2 a3_3).bind fun t303 => (some (t303 == 0))) else (some false))))))) = some r := by rw [if_neg (show ¬ (false = true) by decide)] at H; exact H
        clear H
        have H := H1
        clear H1
        replace H := Option.bind_eq_some_iff.mp H
        obtain ⟨t300, A370, H⟩ := H
        replace H : (if t300 = true then ((stripe_Right.f a3_0 a3_1 a3_2 a3_3).bind fun t304 => (if t304 = true then ((stripe_Long.f a3_0 a3_1 a3_2 a3_3).bind fun t305 => (if t305 = (wrap64 (8 + a3_2)) then (if a3_2 > (wrap64 (1000 * a3_3)) then (some true) else ((stripe_Blocks.f a3_0 a3_1 a3_2 a3_3).bind fun t306 => ((footlockerref23_Blocks.f kj17 a3_0 a3_1 a3_2 a3_3).bind fun t307 => (some (t306 == t307))))) else (some false))) else (some false))) else ((stripe_Right.f a3_0 a3_1 a3_2 a3_3).bind fun t301 => (if t301 = true then (some false) else ((stripe_Long.f a3_0 a3_1 a3_2 a3_3).bind fun t302 => (if t302 = 0 then ((stripe_Blocks.f a3_0 a3_1 a3_2 a3_3).bind fun t303 => (some (t303 == 0))) else (some false)))))) = some r := H
        have A37 := Aside0.mk A370
        clear A370
        by_cases c38 : t300 = true
        ·subst c38
         have H1 : ((stripe_Right.f a3_0 a3_1 a3_2 a3_3).bind fun t304 => (if t304 = true then ((stripe_Long.f a3_0 a3_1 a3_2 a3_3).bind fun t305 => (if t305 = (wrap64 (8 + a3_2)) then (if a3_2 > (wrap64 (1000 * a3_3)) then (some true) else ((stripe_Blocks.f a3_0 a3_1 a3_2 a3_3).bind fun t306 => ((footlockerref23_Blocks.f kj17 a3_0 a3_1 a3_2 a3_3).bind fun t307 => (some (t306 == t307))))) else (some false))) else (some false))) = some r := by rw [if_pos rfl] at H; exact H
         clear H
         have H := H1
         clear H1
         replace H := Option.bind_eq_some_iff.mp H
         obtain ⟨t304, A390, H⟩ := H
         replace H : (if t304 = true then ((stripe_Long.f a3_0 a3_1 a3_2 a3_3).bind fun t305 => (if t305 = (wrap64 (8 + a3_2)) then (if a3_2 > (wrap64 (1000 * a3_3)) then (some true) else ((stripe_Blocks.f a3_0 a3_1 a3_2 a3_3).bind fun t306 => ((footlockerref23_Blocks.f kj17 a3_0 a3_1 a3_2 a3_3).bind fun t307 => (some (t306 == t307))))) else (some false))) else (some false)) = some r := H
         have A39 := Aside0.mk A390
         clear A390
         by_cases c40 : t304 = true
         ·subst c40
          have H1 : ((stripe_Long.f a3_0 a3_1 a3_2 a3_3).bind fun t305 => (if t305 = (wrap64 (8 + a3_2)) then (if a3_2 > (wrap64 (1000 * a3_3)) then (some true) else ((stripe_Blocks.f a3_0 a3_1 a3_2 a3_3).bind fun t306 => ((footlockerref23_Blocks.f kj17 a3_0 a3_1 a3_2 a3_3).bind fun t307 => (some (t306 == t307))))) else (some false))) = some r := by rw [if_pos rfl] at H; exact H
          clear H
          have H := H1
          clear H1
          replace H := Option.bind_eq_some_iff.mp H
          obtain ⟨t305, A410, H⟩ := H
          replace H : (if t305 = (wrap64 (8 + a3_2)) then (if a3_2 > (wrap64 (1000 * a3_3)) then (some true) else ((stripe_Blocks.f a3_0 a3_1 a3_2 a3_3).bind fun t306 => ((footlockerref23_Blocks.f kj17 a3_0 a3_1 a3_2 a3_3).bind fun t307 => (some (t306 == t307))))) else (some false)) = some r := H
          have A41 := Aside0.mk A410
          clear A410
          by_cases c42 : t305 = (wrap64 (8 + a3_2))
          ·rw [if_pos c42] at H
           have c42b0 : (t305 == (wrap64 (8 + a3_2))) = true := beq_iff_eq.mpr c42
           have c42b1 : (t305 != (wrap64 (8 + a3_2))) = false := bne_eq_false_iff_eq.mpr c42
           clear c42
           by_cases c43 : a3_2 > (wrap64 (1000 * a3_3))
           ·as_aux_lemma =>
             rw [if_pos c43] at H
             have c43b0 : decide ((wrap64 (1000 * a3_3)) < a3_2) = true := decide_eq_true c43
             clear c43
             obtain rfl := Option.some.inj H
             have hcz44_0 : wc.cell? ⟨gb279, 0, none⟩ = some (.int .i64 a3_0) := (blk_cell BK279.out 0).trans rfl
             have hcz44_1 : wc.cell? ⟨gb279, 1, none⟩ = some (.int .i64 a3_1) := (blk_cell BK279.out 1).trans rfl
             have hcz44_2 : wc.cell? ⟨gb279, 2, none⟩ = some (.int .i64 a3_2) := (blk_cell BK279.out 2).trans rfl
             have hcz44_3 : wc.cell? ⟨gb279, 3, none⟩ = some (.int .i64 a3_3) := (blk_cell BK279.out 3).trans rfl
             have hfz44_0 := blk_frozen BK279.out 0
             have hfz44_1 := blk_frozen BK279.out 1
             have hfz44_2 := blk_frozen BK279.out 2
             have hfz44_3 := blk_frozen BK279.out 3
             try go_wp2_with (first | ((with_reducible refine gate_dst (N := 17) rfl ?_); (try (refine gate_guard (by rfl) ?_; dsimp only)); refine box_event ?hg (N := 17) ?hd (cs := #[.int .i64 0, .int .i64 0, .int .i64 0, .int .i64 0]) (t := 34) ?hr ?_; (case hd => rfl); (case hg => rfl); (case hr => first | (go_simp; done) | (go_simp; rfl)); intro gb299 hg w45 hbox hb; have n0_ := Aside0.mk (blk_below (g := gb279) (o := .cells #[.int .i64 a3_0, .int .i64 a3_1, .int .i64 a3_2, .int .i64 a3_3] 24 (0, 0)) (by (with_reducible repeat (first | refine blk_drewN ?_ _ | refine blk_drew ?_ | refine blk_alloc ?_ _)); exact BK279.out) hb); have n1_ := Aside0.mk (below_step (by repeat (first | (with_reducible first | exact HB.out | apply below_alloc | apply pw_below_drewN | apply below_drew1 | refine below_set ?_ GE279.out) | exact HB.out)) hb); have n2_ := Aside0.mk (hbox); have n3_ := Aside0.mk ((by rw [hg]; exact (below_size (by repeat (first | (with_reducible first | exact HB.out | apply below_alloc | apply pw_below_drewN | apply below_drew1 | refine below_set ?_ GE279.out) | exact HB.out))) : w.heap.size ≤ gb299)); have n4_ := Aside0.mk ((by rw [hg]; exact (below_size (by repeat (first | (with_reducible first | exact HB.out | apply below_alloc | apply pw_below_drewN | apply below_drew1 | refine below_set ?_ GE279.out) | exact HB.out))) : w.heap.size ≤ gb299)); have n5_ := Aside0.mk ((by rw [hg]; exact Nat.ne_of_lt (blk_lt (g := gb279) (o := .cells #[.int .i64 a3_0, .int .i64 a3_1, .int .i64 a3_2, .int .i64 a3_3] 24 (0, 0)) (by (with_reducible repeat (first | refine blk_drewN ?_ _ | refine blk_drew ?_ | refine blk_alloc ?_ _)); exact BK279.out)) : gb279 ≠ gb299)); have n6_ := Aside0.mk ((by rw [hg]; exact Nat.ne_of_gt (blk_lt (g := gb279) (o := .cells #[.int .i64 a3_0, .int .i64 a3_1, .int .i64 a3_2, .int .i64 a3_3] 24 (0, 0)) (by (with_reducible repeat (first | refine blk_drewN ?_ _ | refine blk_drew ?_ | refine blk_alloc ?_ _)); exact BK279.out)) : gb299 ≠ gb279)); clear BK279; clear HB; have BK279 := n0_; have HB := n1_; have BK299 := n2_; have GW299 := n3_; have GE299 := n4_; have NB279_299 := n5_; have NB299_279 := n6_; clear n0_ n1_ n2_ n3_ n4_ n5_ n6_; clear hb hbox hg; have hnb46 := NB299_279.out; have hnc46 := NB279_299.out; have hcz47_0 : w45.cell? ⟨gb299, 0, none⟩ = some (.int .i64 0) := (blk_cell BK299.out 0).trans rfl; have hcz47_1 : w45.cell? ⟨gb299, 1, none⟩ = some (.int .i64 0) := (blk_cell BK299.out 1).trans rfl; have hcz47_2 : w45.cell? ⟨gb299, 2, none⟩ = some (.int .i64 0) := (blk_cell BK299.out 2).trans rfl; have hcz47_3 : w45.cell? ⟨gb299, 3, none⟩ = some (.int .i64 0) := (blk_cell BK299.out 3).trans rfl; have hfz47_0 := blk_frozen BK299.out 0; have hfz47_1 := blk_frozen BK299.out 1; have hfz47_2 := blk_frozen BK299.out 2; have hfz47_3 := blk_frozen BK299.out 3) | ((with_reducible refine gate_callee (f := 13) rfl ?_); refine goesL_ (some 80) rfl rfl Try.func13 (by kernel_rfl) rfl #[.agg #[.int .i64 a3_0, .int .i64 a3_1, .int .i64 a3_2, .int .i64 a3_3]] rfl (by (try simp only [List.map_toArray, List.map_cons, List.map_nil]); first | done | rfl | (simp only [List.length_drop, List.length_take]; rfl)) ?_; (with_reducible refine (footlockerref23_Right.calls a3_0 a3_1 a3_2 a3_3 true _ A37.out).mono ?_); rintro e w48 ⟨rfl, hb⟩; refine ⟨_, rfl, ?_⟩; have n0_ := Aside0.mk (blk_below (g := gb279) (o := .cells #[.int .i64 a3_0, .int .i64 a3_1, .int .i64 a3_2, .int .i64 a3_3] 24 (0, 0)) (by (with_reducible repeat (first | refine blk_drewN ?_ _ | refine blk_drew ?_ | refine blk_alloc ?_ _)); refine blk_far ?_ NB279_299.out _; (with_reducible repeat (first | refine blk_drewN ?_ _ | refine blk_drew ?_ | refine blk_alloc ?_ _)); refine blk_far ?_ NB279_299.out _; (with_reducible repeat (first | refine blk_drewN ?_ _ | refine blk_drew ?_ | refine blk_alloc ?_ _)); refine blk_far ?_ NB279_299.out _; (with_reducible repeat (first | refine blk_drewN ?_ _ | refine blk_drew ?_ | refine blk_alloc ?_ _)); refine blk_far ?_ NB279_299.out _; (with_reducible repeat (first | refine blk_drewN ?_ _ | refine blk_drew ?_ | refine blk_alloc ?_ _)); exact BK279.out) hb); have n1_ := Aside0.mk (blk_below (g := gb299) (o := .cells #[.int .i64 a3_0, .int .i64 a3_1, .int .i64 a3_2, .int .i64 a3_3] 34 (0, 0)) (by (with_reducible repeat (first | refine blk_drewN ?_ _ | refine blk_drew ?_ | refine blk_alloc ?_ _)); refine blk_put (cs := #[.int .i64 a3_0, .int .i64 a3_1, .int .i64 a3_2, .int .i64 0]) ?_ 3 _ rfl; (with_reducible repeat (first | refine blk_drewN ?_ _ | refine blk_drew ?_ | refine blk_alloc ?_ _)); refine blk_put (cs := #[.int .i64 a3_0, .int .i64 a3_1, .int .i64 0, .int .i64 0]) ?_ 2 _ rfl; (with_reducible repeat (first | refine blk_drewN ?_ _ | refine blk_drew ?_ | refine blk_alloc ?_ _)); refine blk_put (cs := #[.int .i64 a3_0, .int .i64 0, .int .i64 0, .int .i64 0]) ?_ 1 _ rfl; (with_reducible repeat (first | refine blk_drewN ?_ _ | refine blk_drew ?_ | refine blk_alloc ?_ _)); refine blk_put (cs := #[.int .i64 0, .int .i64 0, .int .i64 0, .int .i64 0]) ?_ 0 _ rfl; (with_reducible repeat (first | refine blk_drewN ?_ _ | refine blk_drew ?_ | refine blk_alloc ?_ _)); exact BK299.out) hb); have n2_ := Aside0.mk (below_step (by repeat (first | (with_reducible first | exact HB.out | apply below_alloc | apply pw_below_drewN | apply below_drew1 | refine below_set ?_ GE279.out | refine below_set ?_ GE299.out) | exact HB.out)) hb); clear BK279; clear BK299; clear HB; have BK279 := n0_; have BK299 := n1_; have HB := n2_; clear n0_ n1_ n2_; (try clear hb); (try clear hb2); (try clear hk); (try clear hi)))
             have n0_ := Aside0.mk (blk_drew BK279.out)
             have n1_ := Aside0.mk (blk_drew BK299.out)
             have n2_ := Aside0.mk (below_drew1 HB.out)
             clear BK279
             clear BK299
             clear HB
             have BK279 := n0_
             have BK299 := n1_
             have HB := n2_
             clear n0_ n1_ n2_
             refine start_ (n := 26) (S := fun w' => w'.cell? ⟨gb279, 0, none⟩ = some (.int .i64 a3_0) ∧ w'.cell? ⟨gb279, 1, none⟩ = some (.int .i64 a3_1) ∧ w'.cell? ⟨gb279, 2, none⟩ = some (.int .i64 a3_2) ∧ w'.cell? ⟨gb279, 3, none⟩ = some (.int .i64 a3_3)) (ds := []) #[false, false, false, false, false, false, false, false, false, false, false, false, false, false, false, false, false, false, false, false, false, false, false, false, false, false] (by kernel_rfl) rfl rfl ⟨(blk_cell BK279.out 0).trans rfl, (blk_cell BK279.out 1).trans rfl, (blk_cell BK279.out 2).trans rfl, (blk_cell BK279.out 3).trans rfl⟩ (fun hHeld => ?_); refine with_tabW footlockerlaw23_StripeColumns.tab14 footlockerlaw23_StripeColumns.bits14 (fun HT_ HW_ => ?_)
             generalize w48.drew = w49 at BK279 BK299 HB hHeld ⊢
             refine take_ (i := 0) (N := some 95) (v := ?_) (a' := ?_) #[true, false, false, false, false, false, false, false, false, false, false, false, false, false, false, false, false, false, false, false, false, false, false, false, false, false] rfl rfl (take_ofW HT_.out HW_.out (by kernel_rfl)) (fun _ _ _ h => h) (Or.inl ⟨by rfl, ?_⟩) hHeld ?_ ?_
             rotate_left
             ·rintro w' ⟨s0, s1, s2, s3⟩
              go_simp
              with_reducible rfl
             rotate_left
             ·simp only [Act.put, List.setIfInBounds_toArray, List.set_cons_zero, List.set_cons_succ, i64_w, i32_w]
              rfl
             refine one_ (i := 1) (N := some 96) #[true, true, false, false, false, false, false, false, false, false, false, false, false, false, false, false, false, false, false, false, false, false, false, false, false, false] rfl rfl (one_of HT_.out (by kernel_rfl)) (by decide) (fun K hK => ?_)
             refine goes_ Try.func14 (by kernel_rfl) rfl #[.agg #[.int .i64 a3_0, .int .i64 a3_1, .int .i64 a3_2, .int .i64 a3_3]] (by rfl) rfl rfl (by (try simp only [List.map_toArray, List.map_cons, List.map_nil]); first | done | rfl | (simp only [List.length_drop, List.length_take]; rfl)) ?_
             with_reducible refine (stripe_Right.calls a3_0 a3_1 a3_2 a3_3 true _ A39.out).mono ?_
             rintro e w50 ⟨rfl, hb⟩
             refine ⟨_, rfl, ?_⟩
             have n0_ := Aside0.mk (blk_below (g := gb279) (o := .cells #[.int .i64 a3_0, .int .i64 a3_1, .int .i64 a3_2, .int .i64 a3_3] 24 (0, 0)) (by (with_reducible repeat (first | refine blk_drewN ?_ _ | refine blk_drew ?_ | refine blk_alloc ?_ _)); exact BK279.out) hb)
             have n1_ := Aside0.mk (blk_below (g := gb299) (o := .cells #[.int .i64 a3_0, .int .i64 a3_1, .int .i64 a3_2, .int .i64 a3_3] 34 (0, 0)) (by (with_reducible repeat (first | refine blk_drewN ?_ _ | refine blk_drew ?_ | refine blk_alloc ?_ _)); exact BK299.out) hb)
             have n2_ := Aside0.mk (below_step (by repeat (first | (with_reducible first | exact HB.out | apply below_alloc | apply pw_below_drewN | apply below_drew1 | refine below_set ?_ GE279.out | refine below_set ?_ GE299.out) | exact HB.out)) hb)
             clear BK279
             clear BK299
             clear HB
             have BK279 := n0_
             have BK299 := n1_
             have HB := n2_
             clear n0_ n1_ n2_
             (try clear hb)
             (try clear hb2)
             (try clear hk)
             (try clear hi)
             refine hK.out _ _ ⟨(blk_cell BK279.out 0).trans rfl, (blk_cell BK279.out 1).trans rfl, (blk_cell BK279.out 2).trans rfl, (blk_cell BK279.out 3).trans rfl⟩ (fun hHeld => ?_)
             clear hK K
             refine norm_ (a' := ?_) ?_ ?_
             rotate_left
             ·show Act.put _ (some 96) _ = _
              simp only [Act.put, List.setIfInBounds_toArray, List.set_cons_zero, List.set_cons_succ, i64_w, i32_w]
              rfl
             refine pure_ (i := 2) (N := some 97) (v := ?_) (a' := ?_) #[true, true, true, false, false, false, false, false, false, false, false, false, false, false, false, false, false, false, false, false, false, false, false, false, false, false] rfl rfl (any_of HT_.out (by kernel_rfl)) (fun _ _ _ h => h) (Or.inl ⟨by rfl, ?_⟩) ?_ ?_
             rotate_left
             ·intro w'
              go_simp
              with_reducible rfl
             rotate_left
             ·simp only [Act.put, List.setIfInBounds_toArray, List.set_cons_zero, List.set_cons_succ, i64_w, i32_w]
              rfl
             refine pure_ (i := 5) (N := some 100) (v := ?_) (a' := ?_) #[true, true, true, false, false, true, false, false, false, false, false, false, false, false, false, false, false, false, false, false, false, false, false, false, false, false] rfl rfl (any_of HT_.out (by kernel_rfl)) (fun _ _ _ h => h) (Or.inl ⟨by rfl, ?_⟩) ?_ ?_
             rotate_left
             ·intro w'
              go_simp
              with_reducible rfl
             rotate_left
             ·simp only [Act.put, List.setIfInBounds_toArray, List.set_cons_zero, List.set_cons_succ, i64_w, i32_w]
              rfl
             refine take_ (i := 3) (N := some 98) (v := ?_) (a' := ?_) #[true, true, true, true, false, true, false, false, false, false, false, false, false, false, false, false, false, false, false, false, false, false, false, false, false, false] rfl rfl (take_ofW HT_.out HW_.out (by kernel_rfl)) (fun _ _ _ h => h) (Or.inl ⟨by rfl, ?_⟩) hHeld ?_ ?_
             rotate_left
             ·rintro w' ⟨s0, s1, s2, s3⟩
              go_simp
              with_reducible rfl
             rotate_left
             ·simp only [Act.put, List.setIfInBounds_toArray, List.set_cons_zero, List.set_cons_succ, i64_w, i32_w]
              rfl
             refine take_ (i := 6) (N := some 101) (v := ?_) (a' := ?_) #[true, true, true, true, false, true, true, false, false, false, false, false, false, false, false, false, false, false, false, false, false, false, false, false, false, false] rfl rfl (take_ofW HT_.out HW_.out (by kernel_rfl)) (fun _ _ _ h => h) (Or.inl ⟨by rfl, ?_⟩) hHeld ?_ ?_
             rotate_left
             ·rintro w' ⟨s0, s1, s2, s3⟩
              go_simp
              with_reducible rfl
             rotate_left
             ·simp only [Act.put, List.setIfInBounds_toArray, List.set_cons_zero, List.set_cons_succ, i64_w, i32_w]
              rfl
             refine pure_ (i := 7) (N := some 102) (v := ?_) (a' := ?_) #[true, true, true, true, false, true, true, true, false, false, false, false, false, false, false, false, false, false, false, false, false, false, false, false, false, false] rfl rfl (any_of HT_.out (by kernel_rfl)) (fun _ _ _ h => h) (Or.inl ⟨by rfl, ?_⟩) ?_ ?_
             rotate_left
             ·intro w'
              go_simp
              with_reducible rfl
             rotate_left
             ·simp only [Act.put, List.setIfInBounds_toArray, List.set_cons_zero, List.set_cons_succ, i64_w, i32_w]
              rfl
             refine one_ (i := 4) (N := some 99) #[true, true, true, true, true, true, true, true, false, false, false, false, false, false, false, false, false, false, false, false, false, false, false, false, false, false] rfl rfl (one_of HT_.out (by kernel_rfl)) (by decide) (fun K hK => ?_)
             refine goes_ Try.func15 (by kernel_rfl) rfl #[.agg #[.int .i64 a3_0, .int .i64 a3_1, .int .i64 a3_2, .int .i64 a3_3]] (by rfl) rfl rfl (by (try simp only [List.map_toArray, List.map_cons, List.map_nil]); first | done | rfl | (simp only [List.length_drop, List.length_take]; rfl)) ?_
             with_reducible refine (stripe_Long.calls a3_0 a3_1 a3_2 a3_3 t305 _ A41.out).mono ?_
             rintro e w51 ⟨rfl, hb⟩
             refine ⟨_, rfl, ?_⟩
             have n0_ := Aside0.mk (blk_below (g := gb279) (o := .cells #[.int .i64 a3_0, .int .i64 a3_1, .int .i64 a3_2, .int .i64 a3_3] 24 (0, 0)) (by (with_reducible repeat (first | refine blk_drewN ?_ _ | refine blk_drew ?_ | refine blk_alloc ?_ _)); exact BK279.out) hb)
             have n1_ := Aside0.mk (blk_below (g := gb299) (o := .cells #[.int .i64 a3_0, .int .i64 a3_1, .int .i64 a3_2, .int .i64 a3_3] 34 (0, 0)) (by (with_reducible repeat (first | refine blk_drewN ?_ _ | refine blk_drew ?_ | refine blk_alloc ?_ _)); exact BK299.out) hb)
             have n2_ := Aside0.mk (below_step (by repeat (first | (with_reducible first | exact HB.out | apply below_alloc | apply pw_below_drewN | apply below_drew1 | refine below_set ?_ GE279.out | refine below_set ?_ GE299.out) | exact HB.out)) hb)
             clear BK279
             clear BK299
             clear HB
             have BK279 := n0_
             have BK299 := n1_
             have HB := n2_
             clear n0_ n1_ n2_
             (try clear hb)
             (try clear hb2)
             (try clear hk)
             (try clear hi)
             refine hK.out _ _ ⟨(blk_cell BK279.out 0).trans rfl, (blk_cell BK279.out 1).trans rfl, (blk_cell BK279.out 2).trans rfl, (blk_cell BK279.out 3).trans rfl⟩ (fun hHeld => ?_)
             clear hK K
             refine norm_ (a' := ?_) ?_ ?_
             rotate_left
             ·show Act.put _ (some 99) _ = _
              simp only [Act.put, List.setIfInBounds_toArray, List.set_cons_zero, List.set_cons_succ, i64_w, i32_w]
              rfl
             refine pure_ (i := 8) (N := some 103) (v := ?_) (a' := ?_) #[true, true, true, true, true, true, true, true, true, false, false, false, false, false, false, false, false, false, false, false, false, false, false, false, false, false] rfl rfl (any_of HT_.out (by kernel_rfl)) (fun _ _ _ h => h) (Or.inl ⟨by rfl, ?_⟩) ?_ ?_
             rotate_left
             ·intro w'
              go_simp
              with_reducible rfl
             rotate_left
             ·simp only [Act.put, List.setIfInBounds_toArray, List.set_cons_zero, List.set_cons_succ, i64_w, i32_w]
              rfl
             refine pure_ (i := 9) (N := some 104) (v := ?_) (a' := ?_) #[true, true, true, true, true, true, true, true, true, true, false, false, false, false, false, false, false, false, false, false, false, false, false, false, false, false] rfl rfl (any_of HT_.out (by kernel_rfl)) (fun _ _ _ h => h) (Or.inl ⟨by rfl, ?_⟩) ?_ ?_
             rotate_left
             ·intro w'
              go_simp
              with_reducible rfl
             rotate_left
             ·simp only [Act.put, List.setIfInBounds_toArray, List.set_cons_zero, List.set_cons_succ, i64_w, i32_w]
              rfl
             refine pure_ (i := 10) (N := some 105) (v := ?_) (a' := ?_) #[true, true, true, true, true, true, true, true, true, true, true, false, false, false, false, false, false, false, false, false, false, false, false, false, false, false] rfl rfl (any_of HT_.out (by kernel_rfl)) (fun _ _ _ h => h) (Or.inl ⟨by rfl, ?_⟩) ?_ ?_
             rotate_left
             ·intro w'
              go_simp
              with_reducible rfl
             rotate_left
             ·simp only [Act.put, List.setIfInBounds_toArray, List.set_cons_zero, List.set_cons_succ, i64_w, i32_w]
              rfl
             refine pure_ (i := 11) (N := some 106) (v := ?_) (a' := ?_) #[true, true, true, true, true, true, true, true, true, true, true, true, false, false, false, false, false, false, false, false, false, false, false, false, false, false] rfl rfl (any_of HT_.out (by kernel_rfl)) (fun _ _ _ h => h) (Or.inl ⟨by rfl, ?_⟩) ?_ ?_
             rotate_left
             ·intro w'
              go_simp
              with_reducible rfl
             rotate_left
             ·simp only [Act.put, List.setIfInBounds_toArray, List.set_cons_zero, List.set_cons_succ, i64_w, i32_w]
              rfl
             refine pure_ (i := 13) (N := some 108) (v := ?_) (a' := ?_) #[true, true, true, true, true, true, true, true, true, true, true, true, false, true, false, false, false, false, false, false, false, false, false, false, false, false] rfl rfl (any_of HT_.out (by kernel_rfl)) (fun _ _ _ h => h) (Or.inl ⟨by rfl, ?_⟩) ?_ ?_
             rotate_left
             ·intro w'
              go_simp
              with_reducible rfl
             rotate_left
             ·simp only [Act.put, List.setIfInBounds_toArray, List.set_cons_zero, List.set_cons_succ, i64_w, i32_w]
              rfl
             refine take_ (i := 12) (N := some 107) (v := ?_) (a' := ?_) #[true, true, true, true, true, true, true, true, true, true, true, true, true, true, false, false, false, false, false, false, false, false, false, false, false, false] rfl rfl (take_ofW HT_.out HW_.out (by kernel_rfl)) (fun _ _ _ h => h) (Or.inl ⟨by rfl, ?_⟩) hHeld ?_ ?_
             rotate_left
             ·rintro w' ⟨s0, s1, s2, s3⟩
              go_simp
              with_reducible rfl
             rotate_left
             ·simp only [Act.put, List.setIfInBounds_toArray, List.set_cons_zero, List.set_cons_succ, i64_w, i32_w]
              rfl
             refine take_ (i := 14) (N := some 109) (v := ?_) (a' := ?_) #[true, true, true, true, true, true, true, true, true, true, true, true, true, true, true, false, false, false, false, false, false, false, false, false, false, false] rfl rfl (take_ofW HT_.out HW_.out (by kernel_rfl)) (fun _ _ _ h => h) (Or.inl ⟨by rfl, ?_⟩) hHeld ?_ ?_
             rotate_left
             ·rintro w' ⟨s0, s1, s2, s3⟩
              go_simp
              with_reducible rfl
             rotate_left
             ·simp only [Act.put, List.setIfInBounds_toArray, List.set_cons_zero, List.set_cons_succ, i64_w, i32_w]
              rfl
             refine pure_ (i := 15) (N := some 110) (v := ?_) (a' := ?_) #[true, true, true, true, true, true, true, true, true, true, true, true, true, true, true, true, false, false, false, false, false, false, false, false, false, false] rfl rfl (any_of HT_.out (by kernel_rfl)) (fun _ _ _ h => h) (Or.inl ⟨by rfl, ?_⟩) ?_ ?_
             rotate_left
             ·intro w'
              go_simp
              with_reducible rfl
             rotate_left
             ·simp only [Act.put, List.setIfInBounds_toArray, List.set_cons_zero, List.set_cons_succ, i64_w, i32_w]
              rfl
             refine pure_ (i := 16) (N := some 111) (v := ?_) (a' := ?_) #[true, true, true, true, true, true, true, true, true, true, true, true, true, true, true, true, true, false, false, false, false, false, false, false, false, false] rfl rfl (any_of HT_.out (by kernel_rfl)) (fun _ _ _ h => h) (Or.inl ⟨by rfl, ?_⟩) ?_ ?_
             rotate_left
             ·intro w'
              go_simp
              with_reducible rfl
             rotate_left
             ·simp only [Act.put, List.setIfInBounds_toArray, List.set_cons_zero, List.set_cons_succ, i64_w, i32_w]
              rfl
             refine pure_ (i := 17) (N := some 112) (v := ?_) (a' := ?_) #[true, true, true, true, true, true, true, true, true, true, true, true, true, true, true, true, true, true, false, false, false, false, false, false, false, false] rfl rfl (any_of HT_.out (by kernel_rfl)) (fun _ _ _ h => h) (Or.inl ⟨by rfl, ?_⟩) ?_ ?_
             rotate_left
             ·intro w'
              go_simp
              with_reducible rfl
             rotate_left
             ·simp only [Act.put, List.setIfInBounds_toArray, List.set_cons_zero, List.set_cons_succ, i64_w, i32_w]
              rfl
             refine pure_ (i := 18) (N := some 113) (v := undef) (a' := ?_) #[true, true, true, true, true, true, true, true, true, true, true, true, true, true, true, true, true, true, true, false, false, false, false, false, false, false] rfl rfl (any_of HT_.out (by kernel_rfl)) (fun _ _ _ h => h) (Or.inr ⟨by rfl, rfl⟩) ?_ ?_
             rotate_left
             ·simp only [Act.put, List.setIfInBounds_toArray, List.set_cons_zero, List.set_cons_succ, i64_w, i32_w]
              rfl
             refine pure_ (i := 19) (N := some 114) (v := undef) (a' := ?_) #[true, true, true, true, true, true, true, true, true, true, true, true, true, true, true, true, true, true, true, true, false, false, false, false, false, false] rfl rfl (any_of HT_.out (by kernel_rfl)) (fun _ _ _ h => h) (Or.inr ⟨by rfl, rfl⟩) ?_ ?_
             rotate_left
             ·simp only [Act.put, List.setIfInBounds_toArray, List.set_cons_zero, List.set_cons_succ, i64_w, i32_w]
              rfl
             refine pure_ (i := 20) (N := some 115) (v := undef) (a' := ?_) #[true, true, true, true, true, true, true, true, true, true, true, true, true, true, true, true, true, true, true, true, true, false, false, false, false, false] rfl rfl (any_of HT_.out (by kernel_rfl)) (fun _ _ _ h => h) (Or.inr ⟨by rfl, rfl⟩) ?_ ?_
             rotate_left
             ·simp only [Act.put, List.setIfInBounds_toArray, List.set_cons_zero, List.set_cons_succ, i64_w, i32_w]
              rfl
             refine pure_ (i := 21) (N := some 116) (v := undef) (a' := ?_) #[true, true, true, true, true, true, true, true, true, true, true, true, true, true, true, true, true, true, true, true, true, true, false, false, false, false] rfl rfl (any_of HT_.out (by kernel_rfl)) (fun _ _ _ h => h) (Or.inr ⟨by rfl, rfl⟩) ?_ ?_
             rotate_left
             ·simp only [Act.put, List.setIfInBounds_toArray, List.set_cons_zero, List.set_cons_succ, i64_w, i32_w]
              rfl
             refine pure_ (i := 22) (N := some 117) (v := undef) (a' := ?_) #[true, true, true, true, true, true, true, true, true, true, true, true, true, true, true, true, true, true, true, true, true, true, true, false, false, false] rfl rfl (any_of HT_.out (by kernel_rfl)) (fun _ _ _ h => h) (Or.inr ⟨by rfl, rfl⟩) ?_ ?_
             rotate_left
             ·simp only [Act.put, List.setIfInBounds_toArray, List.set_cons_zero, List.set_cons_succ, i64_w, i32_w]
              rfl
             refine pure_ (i := 23) (N := some 118) (v := ?_) (a' := ?_) #[true, true, true, true, true, true, true, true, true, true, true, true, true, true, true, true, true, true, true, true, true, true, true, true, false, false] rfl rfl (any_of HT_.out (by kernel_rfl)) (fun _ _ _ h => h) (Or.inl ⟨by rfl, ?_⟩) ?_ ?_
             rotate_left
             ·intro w'
              go_simp
              with_reducible rfl
             rotate_left
             ·simp only [Act.put, List.setIfInBounds_toArray, List.set_cons_zero, List.set_cons_succ, i64_w, i32_w]
              rfl
             refine pure_ (i := 24) (N := some 119) (v := ?_) (a' := ?_) #[true, true, true, true, true, true, true, true, true, true, true, true, true, true, true, true, true, true, true, true, true, true, true, true, true, false] rfl rfl (any_of HT_.out (by kernel_rfl)) (fun _ _ _ h => h) (Or.inl ⟨by rfl, ?_⟩) ?_ ?_
             rotate_left
             ·intro w'
              go_simp
              with_reducible rfl
             rotate_left
             ·simp only [Act.put, List.setIfInBounds_toArray, List.set_cons_zero, List.set_cons_succ, i64_w, i32_w]
              rfl
             refine pure_ (i := 25) (N := some 8) (v := ?_) (a' := ?_) #[true, true, true, true, true, true, true, true, true, true, true, true, true, true, true, true, true, true, true, true, true, true, true, true, true, true] rfl rfl (any_of HT_.out (by kernel_rfl)) (fun _ _ _ h => h) (Or.inl ⟨by rfl, ?_⟩) ?_ ?_
             rotate_left
             ·intro w'
              go_simp
              with_reducible rfl
             rotate_left
             ·simp only [Act.put, List.setIfInBounds_toArray, List.set_cons_zero, List.set_cons_succ, i64_w, i32_w]
              rfl
             refine done_ (done_of HT_.out (by kernel_rfl)) ?_
             try go_wp2
             go_ret
             exact ⟨by first | rfl | (simp [errW_none, errW_some] <;> rfl) | (simp [*, errW_none, errW_some] <;> rfl), by repeat (first | (with_reducible first | exact HB.out | apply below_alloc | apply pw_below_drewN | apply below_drew1 | refine below_set ?_ GE279.out | refine below_set ?_ GE299.out) | exact HB.out)⟩
           ·as_aux_lemma =>
             rw [if_neg c43] at H
             have c43b0 : decide ((wrap64 (1000 * a3_3)) < a3_2) = false := decide_eq_false c43
             clear c43
             replace H := Option.bind_eq_some_iff.mp H
             obtain ⟨t306, A520, H⟩ := H
             replace H : ((footlockerref23_Blocks.f kj17 a3_0 a3_1 a3_2 a3_3).bind fun t307 => (some (t306 == t307))) = some r := H
             have A52 := Aside0.mk A520
             clear A520
             replace H := Option.bind_eq_some_iff.mp H
             obtain ⟨t307, A530, H⟩ := H
             replace H : (some (t306 == t307)) = some r := H
             have A53 := Aside0.mk A530
             clear A530
             obtain rfl := Option.some.inj H
             have hcz54_0 : wc.cell? ⟨gb279, 0, none⟩ = some (.int .i64 a3_0) := (blk_cell BK279.out 0).trans rfl
             have hcz54_1 : wc.cell? ⟨gb279, 1, none⟩ = some (.int .i64 a3_1) := (blk_cell BK279.out 1).trans rfl
             have hcz54_2 : wc.cell? ⟨gb279, 2, none⟩ = some (.int .i64 a3_2) := (blk_cell BK279.out 2).trans rfl
             have hcz54_3 : wc.cell? ⟨gb279, 3, none⟩ = some (.int .i64 a3_3) := (blk_cell BK279.out 3).trans rfl
             have hfz54_0 := blk_frozen BK279.out 0
             have hfz54_1 := blk_frozen BK279.out 1
             have hfz54_2 := blk_frozen BK279.out 2
             have hfz54_3 := blk_frozen BK279.out 3
             try go_wp2_with (first | ((with_reducible refine gate_dst (N := 17) rfl ?_); (try (refine gate_guard (by rfl) ?_; dsimp only)); refine box_event ?hg (N := 17) ?hd (cs := #[.int .i64 0, .int .i64 0, .int .i64 0, .int .i64 0]) (t := 34) ?hr ?_; (case hd => rfl); (case hg => rfl); (case hr => first | (go_simp; done) | (go_simp; rfl)); intro gb299 hg w55 hbox hb; have n0_ := Aside0.mk (blk_below (g := gb279) (o := .cells #[.int .i64 a3_0, .int .i64 a3_1, .int .i64 a3_2, .int .i64 a3_3] 24 (0, 0)) (by (with_reducible repeat (first | refine blk_drewN ?_ _ | refine blk_drew ?_ | refine blk_alloc ?_ _)); exact BK279.out) hb); have n1_ := Aside0.mk (below_step (by repeat (first | (with_reducible first | exact HB.out | apply below_alloc | apply pw_below_drewN | apply below_drew1 | refine below_set ?_ GE279.out) | exact HB.out)) hb); have n2_ := Aside0.mk (hbox); have n3_ := Aside0.mk ((by rw [hg]; exact (below_size (by repeat (first | (with_reducible first | exact HB.out | apply below_alloc | apply pw_below_drewN | apply below_drew1 | refine below_set ?_ GE279.out) | exact HB.out))) : w.heap.size ≤ gb299)); have n4_ := Aside0.mk ((by rw [hg]; exact (below_size (by repeat (first | (with_reducible first | exact HB.out | apply below_alloc | apply pw_below_drewN | apply below_drew1 | refine below_set ?_ GE279.out) | exact HB.out))) : w.heap.size ≤ gb299)); have n5_ := Aside0.mk ((by rw [hg]; exact Nat.ne_of_lt (blk_lt (g := gb279) (o := .cells #[.int .i64 a3_0, .int .i64 a3_1, .int .i64 a3_2, .int .i64 a3_3] 24 (0, 0)) (by (with_reducible repeat (first | refine blk_drewN ?_ _ | refine blk_drew ?_ | refine blk_alloc ?_ _)); exact BK279.out)) : gb279 ≠ gb299)); have n6_ := Aside0.mk ((by rw [hg]; exact Nat.ne_of_gt (blk_lt (g := gb279) (o := .cells #[.int .i64 a3_0, .int .i64 a3_1, .int .i64 a3_2, .int .i64 a3_3] 24 (0, 0)) (by (with_reducible repeat (first | refine blk_drewN ?_ _ | refine blk_drew ?_ | refine blk_alloc ?_ _)); exact BK279.out)) : gb299 ≠ gb279)); clear BK279; clear HB; have BK279 := n0_; have HB := n1_; have BK299 := n2_; have GW299 := n3_; have GE299 := n4_; have NB279_299 := n5_; have NB299_279 := n6_; clear n0_ n1_ n2_ n3_ n4_ n5_ n6_; clear hb hbox hg; have hnb56 := NB299_279.out; have hnc56 := NB279_299.out; have hcz57_0 : w55.cell? ⟨gb299, 0, none⟩ = some (.int .i64 0) := (blk_cell BK299.out 0).trans rfl; have hcz57_1 : w55.cell? ⟨gb299, 1, none⟩ = some (.int .i64 0) := (blk_cell BK299.out 1).trans rfl; have hcz57_2 : w55.cell? ⟨gb299, 2, none⟩ = some (.int .i64 0) := (blk_cell BK299.out 2).trans rfl; have hcz57_3 : w55.cell? ⟨gb299, 3, none⟩ = some (.int .i64 0) := (blk_cell BK299.out 3).trans rfl; have hfz57_0 := blk_frozen BK299.out 0; have hfz57_1 := blk_frozen BK299.out 1; have hfz57_2 := blk_frozen BK299.out 2; have hfz57_3 := blk_frozen BK299.out 3) | ((with_reducible refine gate_callee (f := 13) rfl ?_); refine goesL_ (some 80) rfl rfl Try.func13 (by kernel_rfl) rfl #[.agg #[.int .i64 a3_0, .int .i64 a3_1, .int .i64 a3_2, .int .i64 a3_3]] rfl (by (try simp only [List.map_toArray, List.map_cons, List.map_nil]); first | done | rfl | (simp only [List.length_drop, List.length_take]; rfl)) ?_; (with_reducible refine (footlockerref23_Right.calls a3_0 a3_1 a3_2 a3_3 true _ A37.out).mono ?_); rintro e w58 ⟨rfl, hb⟩; refine ⟨_, rfl, ?_⟩; have n0_ := Aside0.mk (blk_below (g := gb279) (o := .cells #[.int .i64 a3_0, .int .i64 a3_1, .int .i64 a3_2, .int .i64 a3_3] 24 (0, 0)) (by (with_reducible repeat (first | refine blk_drewN ?_ _ | refine blk_drew ?_ | refine blk_alloc ?_ _)); refine blk_far ?_ NB279_299.out _; (with_reducible repeat (first | refine blk_drewN ?_ _ | refine blk_drew ?_ | refine blk_alloc ?_ _)); refine blk_far ?_ NB279_299.out _; (with_reducible repeat (first | refine blk_drewN ?_ _ | refine blk_drew ?_ | refine blk_alloc ?_ _)); refine blk_far ?_ NB279_299.out _; (with_reducible repeat (first | refine blk_drewN ?_ _ | refine blk_drew ?_ | refine blk_alloc ?_ _)); refine blk_far ?_ NB279_299.out _; (with_reducible repeat (first | refine blk_drewN ?_ _ | refine blk_drew ?_ | refine blk_alloc ?_ _)); exact BK279.out) hb); have n1_ := Aside0.mk (blk_below (g := gb299) (o := .cells #[.int .i64 a3_0, .int .i64 a3_1, .int .i64 a3_2, .int .i64 a3_3] 34 (0, 0)) (by (with_reducible repeat (first | refine blk_drewN ?_ _ | refine blk_drew ?_ | refine blk_alloc ?_ _)); refine blk_put (cs := #[.int .i64 a3_0, .int .i64 a3_1, .int .i64 a3_2, .int .i64 0]) ?_ 3 _ rfl; (with_reducible repeat (first | refine blk_drewN ?_ _ | refine blk_drew ?_ | refine blk_alloc ?_ _)); refine blk_put (cs := #[.int .i64 a3_0, .int .i64 a3_1, .int .i64 0, .int .i64 0]) ?_ 2 _ rfl; (with_reducible repeat (first | refine blk_drewN ?_ _ | refine blk_drew ?_ | refine blk_alloc ?_ _)); refine blk_put (cs := #[.int .i64 a3_0, .int .i64 0, .int .i64 0, .int .i64 0]) ?_ 1 _ rfl; (with_reducible repeat (first | refine blk_drewN ?_ _ | refine blk_drew ?_ | refine blk_alloc ?_ _)); refine blk_put (cs := #[.int .i64 0, .int .i64 0, .int .i64 0, .int .i64 0]) ?_ 0 _ rfl; (with_reducible repeat (first | refine blk_drewN ?_ _ | refine blk_drew ?_ | refine blk_alloc ?_ _)); exact BK299.out) hb); have n2_ := Aside0.mk (below_step (by repeat (first | (with_reducible first | exact HB.out | apply below_alloc | apply pw_below_drewN | apply below_drew1 | refine below_set ?_ GE279.out | refine below_set ?_ GE299.out) | exact HB.out)) hb); clear BK279; clear BK299; clear HB; have BK279 := n0_; have BK299 := n1_; have HB := n2_; clear n0_ n1_ n2_; (try clear hb); (try clear hb2); (try clear hk); (try clear hi)))
             have n0_ := Aside0.mk (blk_drew BK279.out)
             have n1_ := Aside0.mk (blk_drew BK299.out)
             have n2_ := Aside0.mk (below_drew1 HB.out)
             clear BK279
             clear BK299
             clear HB
             have BK279 := n0_
             have BK299 := n1_
             have HB := n2_
             clear n0_ n1_ n2_
             refine start_ (n := 26) (S := fun w' => w'.cell? ⟨gb279, 0, none⟩ = some (.int .i64 a3_0) ∧ w'.cell? ⟨gb279, 1, none⟩ = some (.int .i64 a3_1) ∧ w'.cell? ⟨gb279, 2, none⟩ = some (.int .i64 a3_2) ∧ w'.cell? ⟨gb279, 3, none⟩ = some (.int .i64 a3_3) ∧ w'.cell? ⟨gb299, 0, none⟩ = some (.int .i64 a3_0) ∧ w'.cell? ⟨gb299, 1, none⟩ = some (.int .i64 a3_1) ∧ w'.cell? ⟨gb299, 2, none⟩ = some (.int .i64 a3_2) ∧ w'.cell? ⟨gb299, 3, none⟩ = some (.int .i64 a3_3)) (ds := []) #[false, false, false, false, false, false, false, false, false, false, false, false, false, false, false, false, false, false, false, false, false, false, false, false, false, false] (by kernel_rfl) rfl rfl ⟨(blk_cell BK279.out 0).trans rfl, (blk_cell BK279.out 1).trans rfl, (blk_cell BK279.out 2).trans rfl, (blk_cell BK279.out 3).trans rfl, (blk_cell BK299.out 0).trans rfl, (blk_cell BK299.out 1).trans rfl, (blk_cell BK299.out 2).trans rfl, (blk_cell BK299.out 3).trans rfl⟩ (fun hHeld => ?_); refine with_tabW footlockerlaw23_StripeColumns.tab14 footlockerlaw23_StripeColumns.bits14 (fun HT_ HW_ => ?_)
             generalize w58.drew = w59 at BK279 BK299 HB hHeld ⊢
             refine take_ (i := 0) (N := some 95) (v := ?_) (a' := ?_) #[true, false, false, false, false, false, false, false, false, false, false, false, false, false, false, false, false, false, false, false, false, false, false, false, false, false] rfl rfl (take_ofW HT_.out HW_.out (by kernel_rfl)) (fun _ _ _ h => h) (Or.inl ⟨by rfl, ?_⟩) hHeld ?_ ?_
             rotate_left
             ·rintro w' ⟨s0, s1, s2, s3, s4, s5, s6, s7⟩
              go_simp
              with_reducible rfl
             rotate_left
             ·simp only [Act.put, List.setIfInBounds_toArray, List.set_cons_zero, List.set_cons_succ, i64_w, i32_w]
              rfl
             refine one_ (i := 1) (N := some 96) #[true, true, false, false, false, false, false, false, false, false, false, false, false, false, false, false, false, false, false, false, false, false, false, false, false, false] rfl rfl (one_of HT_.out (by kernel_rfl)) (by decide) (fun K hK => ?_)
             refine goes_ Try.func14 (by kernel_rfl) rfl #[.agg #[.int .i64 a3_0, .int .i64 a3_1, .int .i64 a3_2, .int .i64 a3_3]] (by rfl) rfl rfl (by (try simp only [List.map_toArray, List.map_cons, List.map_nil]); first | done | rfl | (simp only [List.length_drop, List.length_take]; rfl)) ?_
             with_reducible refine (stripe_Right.calls a3_0 a3_1 a3_2 a3_3 true _ A39.out).mono ?_
             rintro e w60 ⟨rfl, hb⟩
             refine ⟨_, rfl, ?_⟩
             have n0_ := Aside0.mk (blk_below (g := gb279) (o := .cells #[.int .i64 a3_0, .int .i64 a3_1, .int .i64 a3_2, .int .i64 a3_3] 24 (0, 0)) (by (with_reducible repeat (first | refine blk_drewN ?_ _ | refine blk_drew ?_ | refine blk_alloc ?_ _)); exact BK279.out) hb)
             have n1_ := Aside0.mk (blk_below (g := gb299) (o := .cells #[.int .i64 a3_0, .int .i64 a3_1, .int .i64 a3_2, .int .i64 a3_3] 34 (0, 0)) (by (with_reducible repeat (first | refine blk_drewN ?_ _ | refine blk_drew ?_ | refine blk_alloc ?_ _)); exact BK299.out) hb)
             have n2_ := Aside0.mk (below_step (by repeat (first | (with_reducible first | exact HB.out | apply below_alloc | apply pw_below_drewN | apply below_drew1 | refine below_set ?_ GE279.out | refine below_set ?_ GE299.out) | exact HB.out)) hb)
             clear BK279
             clear BK299
             clear HB
             have BK279 := n0_
             have BK299 := n1_
             have HB := n2_
             clear n0_ n1_ n2_
             (try clear hb)
             (try clear hb2)
             (try clear hk)
             (try clear hi)
             refine hK.out _ _ ⟨(blk_cell BK279.out 0).trans rfl, (blk_cell BK279.out 1).trans rfl, (blk_cell BK279.out 2).trans rfl, (blk_cell BK279.out 3).trans rfl, (blk_cell BK299.out 0).trans rfl, (blk_cell BK299.out 1).trans rfl, (blk_cell BK299.out 2).trans rfl, (blk_cell BK299.out 3).trans rfl⟩ (fun hHeld => ?_)
             clear hK K
             refine norm_ (a' := ?_) ?_ ?_
             rotate_left
             ·show Act.put _ (some 96) _ = _
              simp only [Act.put, List.setIfInBounds_toArray, List.set_cons_zero, List.set_cons_succ, i64_w, i32_w]
              rfl
             refine pure_ (i := 2) (N := some 97) (v := ?_) (a' := ?_) #[true, true, true, false, false, false, false, false, false, false, false, false, false, false, false, false, false, false, false, false, false, false, false, false, false, false] rfl rfl (any_of HT_.out (by kernel_rfl)) (fun _ _ _ h => h) (Or.inl ⟨by rfl, ?_⟩) ?_ ?_
             rotate_left
             ·intro w'
              go_simp
              with_reducible rfl
             rotate_left
             ·simp only [Act.put, List.setIfInBounds_toArray, List.set_cons_zero, List.set_cons_succ, i64_w, i32_w]
              rfl
             refine pure_ (i := 5) (N := some 100) (v := ?_) (a' := ?_) #[true, true, true, false, false, true, false, false, false, false, false, false, false, false, false, false, false, false, false, false, false, false, false, false, false, false] rfl rfl (any_of HT_.out (by kernel_rfl)) (fun _ _ _ h => h) (Or.inl ⟨by rfl, ?_⟩) ?_ ?_
             rotate_left
             ·intro w'
              go_simp
              with_reducible rfl
             rotate_left
             ·simp only [Act.put, List.setIfInBounds_toArray, List.set_cons_zero, List.set_cons_succ, i64_w, i32_w]
              rfl
             refine take_ (i := 3) (N := some 98) (v := ?_) (a' := ?_) #[true, true, true, true, false, true, false, false, false, false, false, false, false, false, false, false, false, false, false, false, false, false, false, false, false, false] rfl rfl (take_ofW HT_.out HW_.out (by kernel_rfl)) (fun _ _ _ h => h) (Or.inl ⟨by rfl, ?_⟩) hHeld ?_ ?_
             rotate_left
             ·rintro w' ⟨s0, s1, s2, s3, s4, s5, s6, s7⟩
              go_simp
              with_reducible rfl
             rotate_left
             ·simp only [Act.put, List.setIfInBounds_toArray, List.set_cons_zero, List.set_cons_succ, i64_w, i32_w]
              rfl
             refine take_ (i := 6) (N := some 101) (v := ?_) (a' := ?_) #[true, true, true, true, false, true, true, false, false, false, false, false, false, false, false, false, false, false, false, false, false, false, false, false, false, false] rfl rfl (take_ofW HT_.out HW_.out (by kernel_rfl)) (fun _ _ _ h => h) (Or.inl ⟨by rfl, ?_⟩) hHeld ?_ ?_
             rotate_left
             ·rintro w' ⟨s0, s1, s2, s3, s4, s5, s6, s7⟩
              go_simp
              with_reducible rfl
             rotate_left
             ·simp only [Act.put, List.setIfInBounds_toArray, List.set_cons_zero, List.set_cons_succ, i64_w, i32_w]
              rfl
             refine pure_ (i := 7) (N := some 102) (v := ?_) (a' := ?_) #[true, true, true, true, false, true, true, true, false, false, false, false, false, false, false, false, false, false, false, false, false, false, false, false, false, false] rfl rfl (any_of HT_.out (by kernel_rfl)) (fun _ _ _ h => h) (Or.inl ⟨by rfl, ?_⟩) ?_ ?_
             rotate_left
             ·intro w'
              go_simp
              with_reducible rfl
             rotate_left
             ·simp only [Act.put, List.setIfInBounds_toArray, List.set_cons_zero, List.set_cons_succ, i64_w, i32_w]
              rfl
             refine one_ (i := 4) (N := some 99) #[true, true, true, true, true, true, true, true, false, false, false, false, false, false, false, false, false, false, false, false, false, false, false, false, false, false] rfl rfl (one_of HT_.out (by kernel_rfl)) (by decide) (fun K hK => ?_)
             refine goes_ Try.func15 (by kernel_rfl) rfl #[.agg #[.int .i64 a3_0, .int .i64 a3_1, .int .i64 a3_2, .int .i64 a3_3]] (by rfl) rfl rfl (by (try simp only [List.map_toArray, List.map_cons, List.map_nil]); first | done | rfl | (simp only [List.length_drop, List.length_take]; rfl)) ?_
             with_reducible refine (stripe_Long.calls a3_0 a3_1 a3_2 a3_3 t305 _ A41.out).mono ?_
             rintro e w61 ⟨rfl, hb⟩
             refine ⟨_, rfl, ?_⟩
             have n0_ := Aside0.mk (blk_below (g := gb279) (o := .cells #[.int .i64 a3_0, .int .i64 a3_1, .int .i64 a3_2, .int .i64 a3_3] 24 (0, 0)) (by (with_reducible repeat (first | refine blk_drewN ?_ _ | refine blk_drew ?_ | refine blk_alloc ?_ _)); exact BK279.out) hb)
             have n1_ := Aside0.mk (blk_below (g := gb299) (o := .cells #[.int .i64 a3_0, .int .i64 a3_1, .int .i64 a3_2, .int .i64 a3_3] 34 (0, 0)) (by (with_reducible repeat (first | refine blk_drewN ?_ _ | refine blk_drew ?_ | refine blk_alloc ?_ _)); exact BK299.out) hb)
             have n2_ := Aside0.mk (below_step (by repeat (first | (with_reducible first | exact HB.out | apply below_alloc | apply pw_below_drewN | apply below_drew1 | refine below_set ?_ GE279.out | refine below_set ?_ GE299.out) | exact HB.out)) hb)
             clear BK279
             clear BK299
             clear HB
             have BK279 := n0_
             have BK299 := n1_
             have HB := n2_
             clear n0_ n1_ n2_
             (try clear hb)
             (try clear hb2)
             (try clear hk)
             (try clear hi)
             refine hK.out _ _ ⟨(blk_cell BK279.out 0).trans rfl, (blk_cell BK279.out 1).trans rfl, (blk_cell BK279.out 2).trans rfl, (blk_cell BK279.out 3).trans rfl, (blk_cell BK299.out 0).trans rfl, (blk_cell BK299.out 1).trans rfl, (blk_cell BK299.out 2).trans rfl, (blk_cell BK299.out 3).trans rfl⟩ (fun hHeld => ?_)
             clear hK K
             refine norm_ (a' := ?_) ?_ ?_
             rotate_left
             ·show Act.put _ (some 99) _ = _
              simp only [Act.put, List.setIfInBounds_toArray, List.set_cons_zero, List.set_cons_succ, i64_w, i32_w]
              rfl
             refine pure_ (i := 8) (N := some 103) (v := ?_) (a' := ?_) #[true, true, true, true, true, true, true, true, true, false, false, false, false, false, false, false, false, false, false, false, false, false, false, false, false, false] rfl rfl (any_of HT_.out (by kernel_rfl)) (fun _ _ _ h => h) (Or.inl ⟨by rfl, ?_⟩) ?_ ?_
             rotate_left
             ·intro w'
              go_simp
              with_reducible rfl
             rotate_left
             ·simp only [Act.put, List.setIfInBounds_toArray, List.set_cons_zero, List.set_cons_succ, i64_w, i32_w]
              rfl
             refine pure_ (i := 9) (N := some 104) (v := ?_) (a' := ?_) #[true, true, true, true, true, true, true, true, true, true, false, false, false, false, false, false, false, false, false, false, false, false, false, false, false, false] rfl rfl (any_of HT_.out (by kernel_rfl)) (fun _ _ _ h => h) (Or.inl ⟨by rfl, ?_⟩) ?_ ?_
             rotate_left
             ·intro w'
              go_simp
              with_reducible rfl
             rotate_left
             ·simp only [Act.put, List.setIfInBounds_toArray, List.set_cons_zero, List.set_cons_succ, i64_w, i32_w]
              rfl
             refine pure_ (i := 10) (N := some 105) (v := ?_) (a' := ?_) #[true, true, true, true, true, true, true, true, true, true, true, false, false, false, false, false, false, false, false, false, false, false, false, false, false, false] rfl rfl (any_of HT_.out (by kernel_rfl)) (fun _ _ _ h => h) (Or.inl ⟨by rfl, ?_⟩) ?_ ?_
             rotate_left
             ·intro w'
              go_simp
              with_reducible rfl
             rotate_left
             ·simp only [Act.put, List.setIfInBounds_toArray, List.set_cons_zero, List.set_cons_succ, i64_w, i32_w]
              rfl
             refine pure_ (i := 11) (N := some 106) (v := ?_) (a' := ?_) #[true, true, true, true, true, true, true, true, true, true, true, true, false, false, false, false, false, false, false, false, false, false, false, false, false, false] rfl rfl (any_of HT_.out (by kernel_rfl)) (fun _ _ _ h => h) (Or.inl ⟨by rfl, ?_⟩) ?_ ?_
             rotate_left
             ·intro w'
              go_simp
              with_reducible rfl
             rotate_left
             ·simp only [Act.put, List.setIfInBounds_toArray, List.set_cons_zero, List.set_cons_succ, i64_w, i32_w]
              rfl
             refine pure_ (i := 13) (N := some 108) (v := ?_) (a' := ?_) #[true, true, true, true, true, true, true, true, true, true, true, true, false, true, false, false, false, false, false, false, false, false, false, false, false, false] rfl rfl (any_of HT_.out (by kernel_rfl)) (fun _ _ _ h => h) (Or.inl ⟨by rfl, ?_⟩) ?_ ?_
             rotate_left
             ·intro w'
              go_simp
              with_reducible rfl
             rotate_left
             ·simp only [Act.put, List.setIfInBounds_toArray, List.set_cons_zero, List.set_cons_succ, i64_w, i32_w]
              rfl
             refine take_ (i := 12) (N := some 107) (v := ?_) (a' := ?_) #[true, true, true, true, true, true, true, true, true, true, true, true, true, true, false, false, false, false, false, false, false, false, false, false, false, false] rfl rfl (take_ofW HT_.out HW_.out (by kernel_rfl)) (fun _ _ _ h => h) (Or.inl ⟨by rfl, ?_⟩) hHeld ?_ ?_
             rotate_left
             ·rintro w' ⟨s0, s1, s2, s3, s4, s5, s6, s7⟩
              go_simp
              with_reducible rfl
             rotate_left
             ·simp only [Act.put, List.setIfInBounds_toArray, List.set_cons_zero, List.set_cons_succ, i64_w, i32_w]
              rfl
             refine take_ (i := 14) (N := some 109) (v := ?_) (a' := ?_) #[true, true, true, true, true, true, true, true, true, true, true, true, true, true, true, false, false, false, false, false, false, false, false, false, false, false] rfl rfl (take_ofW HT_.out HW_.out (by kernel_rfl)) (fun _ _ _ h => h) (Or.inl ⟨by rfl, ?_⟩) hHeld ?_ ?_
             rotate_left
             ·rintro w' ⟨s0, s1, s2, s3, s4, s5, s6, s7⟩
              go_simp
              with_reducible rfl
             rotate_left
             ·simp only [Act.put, List.setIfInBounds_toArray, List.set_cons_zero, List.set_cons_succ, i64_w, i32_w]
              rfl
             refine pure_ (i := 15) (N := some 110) (v := ?_) (a' := ?_) #[true, true, true, true, true, true, true, true, true, true, true, true, true, true, true, true, false, false, false, false, false, false, false, false, false, false] rfl rfl (any_of HT_.out (by kernel_rfl)) (fun _ _ _ h => h) (Or.inl ⟨by rfl, ?_⟩) ?_ ?_
             rotate_left
             ·intro w'
              go_simp
              with_reducible rfl
             rotate_left
             ·simp only [Act.put, List.setIfInBounds_toArray, List.set_cons_zero, List.set_cons_succ, i64_w, i32_w]
              rfl
             refine pure_ (i := 16) (N := some 111) (v := ?_) (a' := ?_) #[true, true, true, true, true, true, true, true, true, true, true, true, true, true, true, true, true, false, false, false, false, false, false, false, false, false] rfl rfl (any_of HT_.out (by kernel_rfl)) (fun _ _ _ h => h) (Or.inl ⟨by rfl, ?_⟩) ?_ ?_
             rotate_left
             ·intro w'
              go_simp
              with_reducible rfl
             rotate_left
             ·simp only [Act.put, List.setIfInBounds_toArray, List.set_cons_zero, List.set_cons_succ, i64_w, i32_w]
              rfl
             refine pure_ (i := 17) (N := some 112) (v := ?_) (a' := ?_) #[true, true, true, true, true, true, true, true, true, true, true, true, true, true, true, true, true, true, false, false, false, false, false, false, false, false] rfl rfl (any_of HT_.out (by kernel_rfl)) (fun _ _ _ h => h) (Or.inl ⟨by rfl, ?_⟩) ?_ ?_
             rotate_left
             ·intro w'
              go_simp
              with_reducible rfl
             rotate_left
             ·simp only [Act.put, List.setIfInBounds_toArray, List.set_cons_zero, List.set_cons_succ, i64_w, i32_w]
              rfl
             refine take_ (i := 18) (N := some 113) (v := ?_) (a' := ?_) #[true, true, true, true, true, true, true, true, true, true, true, true, true, true, true, true, true, true, true, false, false, false, false, false, false, false] rfl rfl (take_ofW HT_.out HW_.out (by kernel_rfl)) (fun _ _ _ h => h) (Or.inl ⟨by rfl, ?_⟩) hHeld ?_ ?_
             rotate_left
             ·rintro w' ⟨s0, s1, s2, s3, s4, s5, s6, s7⟩
              go_simp
              with_reducible rfl
             rotate_left
             ·simp only [Act.put, List.setIfInBounds_toArray, List.set_cons_zero, List.set_cons_succ, i64_w, i32_w]
              rfl
             refine take_ (i := 20) (N := some 115) (v := ?_) (a' := ?_) #[true, true, true, true, true, true, true, true, true, true, true, true, true, true, true, true, true, true, true, false, true, false, false, false, false, false] rfl rfl (take_ofW HT_.out HW_.out (by kernel_rfl)) (fun _ _ _ h => h) (Or.inl ⟨by rfl, ?_⟩) hHeld ?_ ?_
             rotate_left
             ·rintro w' ⟨s0, s1, s2, s3, s4, s5, s6, s7⟩
              go_simp
              with_reducible rfl
             rotate_left
             ·simp only [Act.put, List.setIfInBounds_toArray, List.set_cons_zero, List.set_cons_succ, i64_w, i32_w]
              rfl
             refine one_ (i := 19) (N := some 114) #[true, true, true, true, true, true, true, true, true, true, true, true, true, true, true, true, true, true, true, true, true, false, false, false, false, false] rfl rfl (one_of HT_.out (by kernel_rfl)) (by decide) (fun K hK => ?_)
             refine goes_ Try.func16 (by kernel_rfl) rfl #[.agg #[.int .i64 a3_0, .int .i64 a3_1, .int .i64 a3_2, .int .i64 a3_3]] (by rfl) rfl rfl (by (try simp only [List.map_toArray, List.map_cons, List.map_nil]); first | done | rfl | (simp only [List.length_drop, List.length_take]; rfl)) ?_
             with_reducible refine (stripe_Blocks.calls a3_0 a3_1 a3_2 a3_3 t306 _ A52.out).mono ?_
             rintro e w62 ⟨rfl, hb⟩
             refine ⟨_, rfl, ?_⟩
             have n0_ := Aside0.mk (blk_below (g := gb279) (o := .cells #[.int .i64 a3_0, .int .i64 a3_1, .int .i64 a3_2, .int .i64 a3_3] 24 (0, 0)) (by (with_reducible repeat (first | refine blk_drewN ?_ _ | refine blk_drew ?_ | refine blk_alloc ?_ _)); exact BK279.out) hb)
             have n1_ := Aside0.mk (blk_below (g := gb299) (o := .cells #[.int .i64 a3_0, .int .i64 a3_1, .int .i64 a3_2, .int .i64 a3_3] 34 (0, 0)) (by (with_reducible repeat (first | refine blk_drewN ?_ _ | refine blk_drew ?_ | refine blk_alloc ?_ _)); exact BK299.out) hb)
             have n2_ := Aside0.mk (below_step (by repeat (first | (with_reducible first | exact HB.out | apply below_alloc | apply pw_below_drewN | apply below_drew1 | refine below_set ?_ GE279.out | refine below_set ?_ GE299.out) | exact HB.out)) hb)
             clear BK279
             clear BK299
             clear HB
             have BK279 := n0_
             have BK299 := n1_
             have HB := n2_
             clear n0_ n1_ n2_
             (try clear hb)
             (try clear hb2)
             (try clear hk)
             (try clear hi)
             refine hK.out _ _ ⟨(blk_cell BK279.out 0).trans rfl, (blk_cell BK279.out 1).trans rfl, (blk_cell BK279.out 2).trans rfl, (blk_cell BK279.out 3).trans rfl, (blk_cell BK299.out 0).trans rfl, (blk_cell BK299.out 1).trans rfl, (blk_cell BK299.out 2).trans rfl, (blk_cell BK299.out 3).trans rfl⟩ (fun hHeld => ?_)
             clear hK K
             refine norm_ (a' := ?_) ?_ ?_
             rotate_left
             ·show Act.put _ (some 114) _ = _
              simp only [Act.put, List.setIfInBounds_toArray, List.set_cons_zero, List.set_cons_succ, i64_w, i32_w]
              rfl
             refine one_ (i := 21) (N := some 116) #[true, true, true, true, true, true, true, true, true, true, true, true, true, true, true, true, true, true, true, true, true, true, false, false, false, false] rfl rfl (one_of HT_.out (by kernel_rfl)) (by decide) (fun K hK => ?_)
             refine goes_ Try.func17 (by kernel_rfl) rfl #[.agg #[.int .i64 a3_0, .int .i64 a3_1, .int .i64 a3_2, .int .i64 a3_3]] (by rfl) rfl rfl (by (try simp only [List.map_toArray, List.map_cons, List.map_nil]); first | done | rfl | (simp only [List.length_drop, List.length_take]; rfl)) ?_
             with_reducible refine (footlockerref23_Blocks.calls kj17 a3_0 a3_1 a3_2 a3_3 t307 _ A53.out).mono ?_
             rintro e w63 ⟨rfl, hb⟩
             refine ⟨_, rfl, ?_⟩
             have n0_ := Aside0.mk (blk_below (g := gb279) (o := .cells #[.int .i64 a3_0, .int .i64 a3_1, .int .i64 a3_2, .int .i64 a3_3] 24 (0, 0)) (by (with_reducible repeat (first | refine blk_drewN ?_ _ | refine blk_drew ?_ | refine blk_alloc ?_ _)); exact BK279.out) hb)
             have n1_ := Aside0.mk (blk_below (g := gb299) (o := .cells #[.int .i64 a3_0, .int .i64 a3_1, .int .i64 a3_2, .int .i64 a3_3] 34 (0, 0)) (by (with_reducible repeat (first | refine blk_drewN ?_ _ | refine blk_drew ?_ | refine blk_alloc ?_ _)); exact BK299.out) hb)
             have n2_ := Aside0.mk (below_step (by repeat (first | (with_reducible first | exact HB.out | apply below_alloc | apply pw_below_drewN | apply below_drew1 | refine below_set ?_ GE279.out | refine below_set ?_ GE299.out) | exact HB.out)) hb)
             clear BK279
             clear BK299
             clear HB
             have BK279 := n0_
             have BK299 := n1_
             have HB := n2_
             clear n0_ n1_ n2_
             (try clear hb)
             (try clear hb2)
             (try clear hk)
             (try clear hi)
             refine hK.out _ _ ⟨(blk_cell BK279.out 0).trans rfl, (blk_cell BK279.out 1).trans rfl, (blk_cell BK279.out 2).trans rfl, (blk_cell BK279.out 3).trans rfl, (blk_cell BK299.out 0).trans rfl, (blk_cell BK299.out 1).trans rfl, (blk_cell BK299.out 2).trans rfl, (blk_cell BK299.out 3).trans rfl⟩ (fun hHeld => ?_)
             clear hK K
             refine norm_ (a' := ?_) ?_ ?_
             rotate_left
             ·show Act.put _ (some 116) _ = _
              simp only [Act.put, List.setIfInBounds_toArray, List.set_cons_zero, List.set_cons_succ, i64_w, i32_w]
              rfl
             refine pure_ (i := 22) (N := some 117) (v := ?_) (a' := ?_) #[true, true, true, true, true, true, true, true, true, true, true, true, true, true, true, true, true, true, true, true, true, true, true, false, false, false] rfl rfl (any_of HT_.out (by kernel_rfl)) (fun _ _ _ h => h) (Or.inl ⟨by rfl, ?_⟩) ?_ ?_
             rotate_left
             ·intro w'
              go_simp
              with_reducible rfl
             rotate_left
             ·simp only [Act.put, List.setIfInBounds_toArray, List.set_cons_zero, List.set_cons_succ, i64_w, i32_w]
              rfl
             refine pure_ (i := 23) (N := some 118) (v := ?_) (a' := ?_) #[true, true, true, true, true, true, true, true, true, true, true, true, true, true, true, true, true, true, true, true, true, true, true, true, false, false] rfl rfl (any_of HT_.out (by kernel_rfl)) (fun _ _ _ h => h) (Or.inl ⟨by rfl, ?_⟩) ?_ ?_
             rotate_left
             ·intro w'
              go_simp
              with_reducible rfl
             rotate_left
             ·simp only [Act.put, List.setIfInBounds_toArray, List.set_cons_zero, List.set_cons_succ, i64_w, i32_w]
              rfl
             refine pure_ (i := 24) (N := some 119) (v := ?_) (a' := ?_) #[true, true, true, true, true, true, true, true, true, true, true, true, true, true, true, true, true, true, true, true, true, true, true, true, true, false] rfl rfl (any_of HT_.out (by kernel_rfl)) (fun _ _ _ h => h) (Or.inl ⟨by rfl, ?_⟩) ?_ ?_
             rotate_left
             ·intro w'
              go_simp
              with_reducible rfl
             rotate_left
             ·simp only [Act.put, List.setIfInBounds_toArray, List.set_cons_zero, List.set_cons_succ, i64_w, i32_w]
              rfl
             refine pure_ (i := 25) (N := some 8) (v := ?_) (a' := ?_) #[true, true, true, true, true, true, true, true, true, true, true, true, true, true, true, true, true, true, true, true, true, true, true, true, true, true] rfl rfl (any_of HT_.out (by kernel_rfl)) (fun _ _ _ h => h) (Or.inl ⟨by rfl, ?_⟩) ?_ ?_
             rotate_left
             ·intro w'
              go_simp
              with_reducible rfl
             rotate_left
             ·simp only [Act.put, List.setIfInBounds_toArray, List.set_cons_zero, List.set_cons_succ, i64_w, i32_w]
              rfl
             refine done_ (done_of HT_.out (by kernel_rfl)) ?_
             try go_wp2
             go_ret
             exact ⟨by first | rfl | (simp [errW_none, errW_some] <;> rfl) | (simp [*, errW_none, errW_some] <;> rfl), by repeat (first | (with_reducible first | exact HB.out | apply below_alloc | apply pw_below_drewN | apply below_drew1 | refine below_set ?_ GE279.out | refine below_set ?_ GE299.out) | exact HB.out)⟩
          ·as_aux_lemma =>
            rw [if_neg c42] at H
            have c42b0 : (t305 == (wrap64 (8 + a3_2))) = false := beq_eq_false_iff_ne.mpr c42
            have c42b1 : (t305 != (wrap64 (8 + a3_2))) = true := bne_iff_ne.mpr c42
            obtain rfl := Option.some.inj H
            have hcz64_0 : wc.cell? ⟨gb279, 0, none⟩ = some (.int .i64 a3_0) := (blk_cell BK279.out 0).trans rfl
            have hcz64_1 : wc.cell? ⟨gb279, 1, none⟩ = some (.int .i64 a3_1) := (blk_cell BK279.out 1).trans rfl
            have hcz64_2 : wc.cell? ⟨gb279, 2, none⟩ = some (.int .i64 a3_2) := (blk_cell BK279.out 2).trans rfl
            have hcz64_3 : wc.cell? ⟨gb279, 3, none⟩ = some (.int .i64 a3_3) := (blk_cell BK279.out 3).trans rfl
            have hfz64_0 := blk_frozen BK279.out 0
            have hfz64_1 := blk_frozen BK279.out 1
            have hfz64_2 := blk_frozen BK279.out 2
            have hfz64_3 := blk_frozen BK279.out 3
            try go_wp2_with (first | ((with_reducible refine gate_dst (N := 17) rfl ?_); (try (refine gate_guard (by rfl) ?_; dsimp only)); refine box_event ?hg (N := 17) ?hd (cs := #[.int .i64 0, .int .i64 0, .int .i64 0, .int .i64 0]) (t := 34) ?hr ?_; (case hd => rfl); (case hg => rfl); (case hr => first | (go_simp; done) | (go_simp; rfl)); intro gb299 hg w65 hbox hb; have n0_ := Aside0.mk (blk_below (g := gb279) (o := .cells #[.int .i64 a3_0, .int .i64 a3_1, .int .i64 a3_2, .int .i64 a3_3] 24 (0, 0)) (by (with_reducible repeat (first | refine blk_drewN ?_ _ | refine blk_drew ?_ | refine blk_alloc ?_ _)); exact BK279.out) hb); have n1_ := Aside0.mk (below_step (by repeat (first | (with_reducible first | exact HB.out | apply below_alloc | apply pw_below_drewN | apply below_drew1 | refine below_set ?_ GE279.out) | exact HB.out)) hb); have n2_ := Aside0.mk (hbox); have n3_ := Aside0.mk ((by rw [hg]; exact (below_size (by repeat (first | (with_reducible first | exact HB.out | apply below_alloc | apply pw_below_drewN | apply below_drew1 | refine below_set ?_ GE279.out) | exact HB.out))) : w.heap.size ≤ gb299)); have n4_ := Aside0.mk ((by rw [hg]; exact (below_size (by repeat (first | (with_reducible first | exact HB.out | apply below_alloc | apply pw_below_drewN | apply below_drew1 | refine below_set ?_ GE279.out) | exact HB.out))) : w.heap.size ≤ gb299)); have n5_ := Aside0.mk ((by rw [hg]; exact Nat.ne_of_lt (blk_lt (g := gb279) (o := .cells #[.int .i64 a3_0, .int .i64 a3_1, .int .i64 a3_2, .int .i64 a3_3] 24 (0, 0)) (by (with_reducible repeat (first | refine blk_drewN ?_ _ | refine blk_drew ?_ | refine blk_alloc ?_ _)); exact BK279.out)) : gb279 ≠ gb299)); have n6_ := Aside0.mk ((by rw [hg]; exact Nat.ne_of_gt (blk_lt (g := gb279) (o := .cells #[.int .i64 a3_0, .int .i64 a3_1, .int .i64 a3_2, .int .i64 a3_3] 24 (0, 0)) (by (with_reducible repeat (first | refine blk_drewN ?_ _ | refine blk_drew ?_ | refine blk_alloc ?_ _)); exact BK279.out)) : gb299 ≠ gb279)); clear BK279; clear HB; have BK279 := n0_; have HB := n1_; have BK299 := n2_; have GW299 := n3_; have GE299 := n4_; have NB279_299 := n5_; have NB299_279 := n6_; clear n0_ n1_ n2_ n3_ n4_ n5_ n6_; clear hb hbox hg; have hnb66 := NB299_279.out; have hnc66 := NB279_299.out; have hcz67_0 : w65.cell? ⟨gb299, 0, none⟩ = some (.int .i64 0) := (blk_cell BK299.out 0).trans rfl; have hcz67_1 : w65.cell? ⟨gb299, 1, none⟩ = some (.int .i64 0) := (blk_cell BK299.out 1).trans rfl; have hcz67_2 : w65.cell? ⟨gb299, 2, none⟩ = some (.int .i64 0) := (blk_cell BK299.out 2).trans rfl; have hcz67_3 : w65.cell? ⟨gb299, 3, none⟩ = some (.int .i64 0) := (blk_cell BK299.out 3).trans rfl; have hfz67_0 := blk_frozen BK299.out 0; have hfz67_1 := blk_frozen BK299.out 1; have hfz67_2 := blk_frozen BK299.out 2; have hfz67_3 := blk_frozen BK299.out 3) | ((with_reducible refine gate_callee (f := 13) rfl ?_); refine goesL_ (some 80) rfl rfl Try.func13 (by kernel_rfl) rfl #[.agg #[.int .i64 a3_0, .int .i64 a3_1, .int .i64 a3_2, .int .i64 a3_3]] rfl (by (try simp only [List.map_toArray, List.map_cons, List.map_nil]); first | done | rfl | (simp only [List.length_drop, List.length_take]; rfl)) ?_; (with_reducible refine (footlockerref23_Right.calls a3_0 a3_1 a3_2 a3_3 true _ A37.out).mono ?_); rintro e w68 ⟨rfl, hb⟩; refine ⟨_, rfl, ?_⟩; have n0_ := Aside0.mk (blk_below (g := gb279) (o := .cells #[.int .i64 a3_0, .int .i64 a3_1, .int .i64 a3_2, .int .i64 a3_3] 24 (0, 0)) (by (with_reducible repeat (first | refine blk_drewN ?_ _ | refine blk_drew ?_ | refine blk_alloc ?_ _)); refine blk_far ?_ NB279_299.out _; (with_reducible repeat (first | refine blk_drewN ?_ _ | refine blk_drew ?_ | refine blk_alloc ?_ _)); refine blk_far ?_ NB279_299.out _; (with_reducible repeat (first | refine blk_drewN ?_ _ | refine blk_drew ?_ | refine blk_alloc ?_ _)); refine blk_far ?_ NB279_299.out _; (with_reducible repeat (first | refine blk_drewN ?_ _ | refine blk_drew ?_ | refine blk_alloc ?_ _)); refine blk_far ?_ NB279_299.out _; (with_reducible repeat (first | refine blk_drewN ?_ _ | refine blk_drew ?_ | refine blk_alloc ?_ _)); exact BK279.out) hb); have n1_ := Aside0.mk (blk_below (g := gb299) (o := .cells #[.int .i64 a3_0, .int .i64 a3_1, .int .i64 a3_2, .int .i64 a3_3] 34 (0, 0)) (by (with_reducible repeat (first | refine blk_drewN ?_ _ | refine blk_drew ?_ | refine blk_alloc ?_ _)); refine blk_put (cs := #[.int .i64 a3_0, .int .i64 a3_1, .int .i64 a3_2, .int .i64 0]) ?_ 3 _ rfl; (with_reducible repeat (first | refine blk_drewN ?_ _ | refine blk_drew ?_ | refine blk_alloc ?_ _)); refine blk_put (cs := #[.int .i64 a3_0, .int .i64 a3_1, .int .i64 0, .int .i64 0]) ?_ 2 _ rfl; (with_reducible repeat (first | refine blk_drewN ?_ _ | refine blk_drew ?_ | refine blk_alloc ?_ _)); refine blk_put (cs := #[.int .i64 a3_0, .int .i64 0, .int .i64 0, .int .i64 0]) ?_ 1 _ rfl; (with_reducible repeat (first | refine blk_drewN ?_ _ | refine blk_drew ?_ | refine blk_alloc ?_ _)); refine blk_put (cs := #[.int .i64 0, .int .i64 0, .int .i64 0, .int .i64 0]) ?_ 0 _ rfl; (with_reducible repeat (first | refine blk_drewN ?_ _ | refine blk_drew ?_ | refine blk_alloc ?_ _)); exact BK299.out) hb); have n2_ := Aside0.mk (below_step (by repeat (first | (with_reducible first | exact HB.out | apply below_alloc | apply pw_below_drewN | apply below_drew1 | refine below_set ?_ GE279.out | refine below_set ?_ GE299.out) | exact HB.out)) hb); clear BK279; clear BK299; clear HB; have BK279 := n0_; have BK299 := n1_; have HB := n2_; clear n0_ n1_ n2_; (try clear hb); (try clear hb2); (try clear hk); (try clear hi)))
            have n0_ := Aside0.mk (blk_drew BK279.out)
            have n1_ := Aside0.mk (blk_drew BK299.out)
            have n2_ := Aside0.mk (below_drew1 HB.out)
            clear BK279
            clear BK299
            clear HB
            have BK279 := n0_
            have BK299 := n1_
            have HB := n2_
            clear n0_ n1_ n2_
            refine start_ (n := 26) (S := fun w' => w'.cell? ⟨gb279, 0, none⟩ = some (.int .i64 a3_0) ∧ w'.cell? ⟨gb279, 1, none⟩ = some (.int .i64 a3_1) ∧ w'.cell? ⟨gb279, 2, none⟩ = some (.int .i64 a3_2) ∧ w'.cell? ⟨gb279, 3, none⟩ = some (.int .i64 a3_3)) (ds := []) #[false, false, false, false, false, false, false, false, false, false, false, false, false, false, false, false, false, false, false, false, false, false, false, false, false, false] (by kernel_rfl) rfl rfl ⟨(blk_cell BK279.out 0).trans rfl, (blk_cell BK279.out 1).trans rfl, (blk_cell BK279.out 2).trans rfl, (blk_cell BK279.out 3).trans rfl⟩ (fun hHeld => ?_); refine with_tabW footlockerlaw23_StripeColumns.tab14 footlockerlaw23_StripeColumns.bits14 (fun HT_ HW_ => ?_)
            generalize w68.drew = w69 at BK279 BK299 HB hHeld ⊢
            refine take_ (i := 0) (N := some 95) (v := ?_) (a' := ?_) #[true, false, false, false, false, false, false, false, false, false, false, false, false, false, false, false, false, false, false, false, false, false, false, false, false, false] rfl rfl (take_ofW HT_.out HW_.out (by kernel_rfl)) (fun _ _ _ h => h) (Or.inl ⟨by rfl, ?_⟩) hHeld ?_ ?_
            rotate_left
            ·rintro w' ⟨s0, s1, s2, s3⟩
             go_simp
             with_reducible rfl
            rotate_left
            ·simp only [Act.put, List.setIfInBounds_toArray, List.set_cons_zero, List.set_cons_succ, i64_w, i32_w]
             rfl
            refine one_ (i := 1) (N := some 96) #[true, true, false, false, false, false, false, false, false, false, false, false, false, false, false, false, false, false, false, false, false, false, false, false, false, false] rfl rfl (one_of HT_.out (by kernel_rfl)) (by decide) (fun K hK => ?_)
            refine goes_ Try.func14 (by kernel_rfl) rfl #[.agg #[.int .i64 a3_0, .int .i64 a3_1, .int .i64 a3_2, .int .i64 a3_3]] (by rfl) rfl rfl (by (try simp only [List.map_toArray, List.map_cons, List.map_nil]); first | done | rfl | (simp only [List.length_drop, List.length_take]; rfl)) ?_
            with_reducible refine (stripe_Right.calls a3_0 a3_1 a3_2 a3_3 true _ A39.out).mono ?_
            rintro e w70 ⟨rfl, hb⟩
            refine ⟨_, rfl, ?_⟩
            have n0_ := Aside0.mk (blk_below (g := gb279) (o := .cells #[.int .i64 a3_0, .int .i64 a3_1, .int .i64 a3_2, .int .i64 a3_3] 24 (0, 0)) (by (with_reducible repeat (first | refine blk_drewN ?_ _ | refine blk_drew ?_ | refine blk_alloc ?_ _)); exact BK279.out) hb)
            have n1_ := Aside0.mk (blk_below (g := gb299) (o := .cells #[.int .i64 a3_0, .int .i64 a3_1, .int .i64 a3_2, .int .i64 a3_3] 34 (0, 0)) (by (with_reducible repeat (first | refine blk_drewN ?_ _ | refine blk_drew ?_ | refine blk_alloc ?_ _)); exact BK299.out) hb)
            have n2_ := Aside0.mk (below_step (by repeat (first | (with_reducible first | exact HB.out | apply below_alloc | apply pw_below_drewN | apply below_drew1 | refine below_set ?_ GE279.out | refine below_set ?_ GE299.out) | exact HB.out)) hb)
            clear BK279
            clear BK299
            clear HB
            have BK279 := n0_
            have BK299 := n1_
            have HB := n2_
            clear n0_ n1_ n2_
            (try clear hb)
            (try clear hb2)
            (try clear hk)
            (try clear hi)
            refine hK.out _ _ ⟨(blk_cell BK279.out 0).trans rfl, (blk_cell BK279.out 1).trans rfl, (blk_cell BK279.out 2).trans rfl, (blk_cell BK279.out 3).trans rfl⟩ (fun hHeld => ?_)
            clear hK K
            refine norm_ (a' := ?_) ?_ ?_
            rotate_left
            ·show Act.put _ (some 96) _ = _
             simp only [Act.put, List.setIfInBounds_toArray, List.set_cons_zero, List.set_cons_succ, i64_w, i32_w]
             rfl
            refine pure_ (i := 2) (N := some 97) (v := ?_) (a' := ?_) #[true, true, true, false, false, false, false, false, false, false, false, false, false, false, false, false, false, false, false, false, false, false, false, false, false, false] rfl rfl (any_of HT_.out (by kernel_rfl)) (fun _ _ _ h => h) (Or.inl ⟨by rfl, ?_⟩) ?_ ?_
            rotate_left
            ·intro w'
             go_simp
             with_reducible rfl
            rotate_left
            ·simp only [Act.put, List.setIfInBounds_toArray, List.set_cons_zero, List.set_cons_succ, i64_w, i32_w]
             rfl
            refine pure_ (i := 5) (N := some 100) (v := ?_) (a' := ?_) #[true, true, true, false, false, true, false, false, false, false, false, false, false, false, false, false, false, false, false, false, false, false, false, false, false, false] rfl rfl (any_of HT_.out (by kernel_rfl)) (fun _ _ _ h => h) (Or.inl ⟨by rfl, ?_⟩) ?_ ?_
            rotate_left
            ·intro w'
             go_simp
             with_reducible rfl
            rotate_left
            ·simp only [Act.put, List.setIfInBounds_toArray, List.set_cons_zero, List.set_cons_succ, i64_w, i32_w]
             rfl
            refine take_ (i := 3) (N := some 98) (v := ?_) (a' := ?_) #[true, true, true, true, false, true, false, false, false, false, false, false, false, false, false, false, false, false, false, false, false, false, false, false, false, false] rfl rfl (take_ofW HT_.out HW_.out (by kernel_rfl)) (fun _ _ _ h => h) (Or.inl ⟨by rfl, ?_⟩) hHeld ?_ ?_
            rotate_left
            ·rintro w' ⟨s0, s1, s2, s3⟩
             go_simp
             with_reducible rfl
            rotate_left
            ·simp only [Act.put, List.setIfInBounds_toArray, List.set_cons_zero, List.set_cons_succ, i64_w, i32_w]
             rfl
            refine take_ (i := 6) (N := some 101) (v := ?_) (a' := ?_) #[true, true, true, true, false, true, true, false, false, false, false, false, false, false, false, false, false, false, false, false, false, false, false, false, false, false] rfl rfl (take_ofW HT_.out HW_.out (by kernel_rfl)) (fun _ _ _ h => h) (Or.inl ⟨by rfl, ?_⟩) hHeld ?_ ?_
            rotate_left
            ·rintro w' ⟨s0, s1, s2, s3⟩
             go_simp
             with_reducible rfl
            rotate_left
            ·simp only [Act.put, List.setIfInBounds_toArray, List.set_cons_zero, List.set_cons_succ, i64_w, i32_w]
             rfl
            refine pure_ (i := 7) (N := some 102) (v := ?_) (a' := ?_) #[true, true, true, true, false, true, true, true, false, false, false, false, false, false, false, false, false, false, false, false, false, false, false, false, false, false] rfl rfl (any_of HT_.out (by kernel_rfl)) (fun _ _ _ h => h) (Or.inl ⟨by rfl, ?_⟩) ?_ ?_
            rotate_left
            ·intro w'
             go_simp
             with_reducible rfl
            rotate_left
            ·simp only [Act.put, List.setIfInBounds_toArray, List.set_cons_zero, List.set_cons_succ, i64_w, i32_w]
             rfl
            refine one_ (i := 4) (N := some 99) #[true, true, true, true, true, true, true, true, false, false, false, false, false, false, false, false, false, false, false, false, false, false, false, false, false, false] rfl rfl (one_of HT_.out (by kernel_rfl)) (by decide) (fun K hK => ?_)
            refine goes_ Try.func15 (by kernel_rfl) rfl #[.agg #[.int .i64 a3_0, .int .i64 a3_1, .int .i64 a3_2, .int .i64 a3_3]] (by rfl) rfl rfl (by (try simp only [List.map_toArray, List.map_cons, List.map_nil]); first | done | rfl | (simp only [List.length_drop, List.length_take]; rfl)) ?_
            with_reducible refine (stripe_Long.calls a3_0 a3_1 a3_2 a3_3 t305 _ A41.out).mono ?_
            rintro e w71 ⟨rfl, hb⟩
            refine ⟨_, rfl, ?_⟩
            have n0_ := Aside0.mk (blk_below (g := gb279) (o := .cells #[.int .i64 a3_0, .int .i64 a3_1, .int .i64 a3_2, .int .i64 a3_3] 24 (0, 0)) (by (with_reducible repeat (first | refine blk_drewN ?_ _ | refine blk_drew ?_ | refine blk_alloc ?_ _)); exact BK279.out) hb)
            have n1_ := Aside0.mk (blk_below (g := gb299) (o := .cells #[.int .i64 a3_0, .int .i64 a3_1, .int .i64 a3_2, .int .i64 a3_3] 34 (0, 0)) (by (with_reducible repeat (first | refine blk_drewN ?_ _ | refine blk_drew ?_ | refine blk_alloc ?_ _)); exact BK299.out) hb)
            have n2_ := Aside0.mk (below_step (by repeat (first | (with_reducible first | exact HB.out | apply below_alloc | apply pw_below_drewN | apply below_drew1 | refine below_set ?_ GE279.out | refine below_set ?_ GE299.out) | exact HB.out)) hb)
            clear BK279
            clear BK299
            clear HB
            have BK279 := n0_
            have BK299 := n1_
            have HB := n2_
            clear n0_ n1_ n2_
            (try clear hb)
            (try clear hb2)
            (try clear hk)
            (try clear hi)
            refine hK.out _ _ ⟨(blk_cell BK279.out 0).trans rfl, (blk_cell BK279.out 1).trans rfl, (blk_cell BK279.out 2).trans rfl, (blk_cell BK279.out 3).trans rfl⟩ (fun hHeld => ?_)
            clear hK K
            refine norm_ (a' := ?_) ?_ ?_
            rotate_left
            ·show Act.put _ (some 99) _ = _
             simp only [Act.put, List.setIfInBounds_toArray, List.set_cons_zero, List.set_cons_succ, i64_w, i32_w]
             rfl
            refine pure_ (i := 8) (N := some 103) (v := ?_) (a' := ?_) #[true, true, true, true, true, true, true, true, true, false, false, false, false, false, false, false, false, false, false, false, false, false, false, false, false, false] rfl rfl (any_of HT_.out (by kernel_rfl)) (fun _ _ _ h => h) (Or.inl ⟨by rfl, ?_⟩) ?_ ?_
            rotate_left
            ·intro w'
             go_simp
             with_reducible rfl
            rotate_left
            ·simp only [Act.put, List.setIfInBounds_toArray, List.set_cons_zero, List.set_cons_succ, i64_w, i32_w]
             rfl
            refine pure_ (i := 9) (N := some 104) (v := ?_) (a' := ?_) #[true, true, true, true, true, true, true, true, true, true, false, false, false, false, false, false, false, false, false, false, false, false, false, false, false, false] rfl rfl (any_of HT_.out (by kernel_rfl)) (fun _ _ _ h => h) (Or.inl ⟨by rfl, ?_⟩) ?_ ?_
            rotate_left
            ·intro w'
             go_simp
             with_reducible rfl
            rotate_left
            ·simp only [Act.put, List.setIfInBounds_toArray, List.set_cons_zero, List.set_cons_succ, i64_w, i32_w]
             rfl
            refine pure_ (i := 10) (N := some 105) (v := ?_) (a' := ?_) #[true, true, true, true, true, true, true, true, true, true, true, false, false, false, false, false, false, false, false, false, false, false, false, false, false, false] rfl rfl (any_of HT_.out (by kernel_rfl)) (fun _ _ _ h => h) (Or.inl ⟨by rfl, ?_⟩) ?_ ?_
            rotate_left
            ·intro w'
             go_simp
             with_reducible rfl
            rotate_left
            ·simp only [Act.put, List.setIfInBounds_toArray, List.set_cons_zero, List.set_cons_succ, i64_w, i32_w]
             rfl
            refine pure_ (i := 11) (N := some 106) (v := undef) (a' := ?_) #[true, true, true, true, true, true, true, true, true, true, true, true, false, false, false, false, false, false, false, false, false, false, false, false, false, false] rfl rfl (any_of HT_.out (by kernel_rfl)) (fun _ _ _ h => h) (Or.inr ⟨by rfl, rfl⟩) ?_ ?_
            rotate_left
            ·simp only [Act.put, List.setIfInBounds_toArray, List.set_cons_zero, List.set_cons_succ, i64_w, i32_w]
             rfl
            refine pure_ (i := 12) (N := some 107) (v := undef) (a' := ?_) #[true, true, true, true, true, true, true, true, true, true, true, true, true, false, false, false, false, false, false, false, false, false, false, false, false, false] rfl rfl (any_of HT_.out (by kernel_rfl)) (fun _ _ _ h => h) (Or.inr ⟨by rfl, rfl⟩) ?_ ?_
            rotate_left
            ·simp only [Act.put, List.setIfInBounds_toArray, List.set_cons_zero, List.set_cons_succ, i64_w, i32_w]
             rfl
            refine pure_ (i := 13) (N := some 108) (v := undef) (a' := ?_) #[true, true, true, true, true, true, true, true, true, true, true, true, true, true, false, false, false, false, false, false, false, false, false, false, false, false] rfl rfl (any_of HT_.out (by kernel_rfl)) (fun _ _ _ h => h) (Or.inr ⟨by rfl, rfl⟩) ?_ ?_
            rotate_left
            ·simp only [Act.put, List.setIfInBounds_toArray, List.set_cons_zero, List.set_cons_succ, i64_w, i32_w]
             rfl
            refine pure_ (i := 14) (N := some 109) (v := undef) (a' := ?_) #[true, true, true, true, true, true, true, true, true, true, true, true, true, true, true, false, false, false, false, false, false, false, false, false, false, false] rfl rfl (any_of HT_.out (by kernel_rfl)) (fun _ _ _ h => h) (Or.inr ⟨by rfl, rfl⟩) ?_ ?_
            rotate_left
            ·simp only [Act.put, List.setIfInBounds_toArray, List.set_cons_zero, List.set_cons_succ, i64_w, i32_w]
             rfl
            refine pure_ (i := 15) (N := some 110) (v := undef) (a' := ?_) #[true, true, true, true, true, true, true, true, true, true, true, true, true, true, true, true, false, false, false, false, false, false, false, false, false, false] rfl rfl (any_of HT_.out (by kernel_rfl)) (fun _ _ _ h => h) (Or.inr ⟨by rfl, rfl⟩) ?_ ?_
            rotate_left
            ·simp only [Act.put, List.setIfInBounds_toArray, List.set_cons_zero, List.set_cons_succ, i64_w, i32_w]
             rfl
            refine pure_ (i := 16) (N := some 111) (v := undef) (a' := ?_) #[true, true, true, true, true, true, true, true, true, true, true, true, true, true, true, true, true, false, false, false, false, false, false, false, false, false] rfl rfl (any_of HT_.out (by kernel_rfl)) (fun _ _ _ h => h) (Or.inr ⟨by rfl, rfl⟩) ?_ ?_
            rotate_left
            ·simp only [Act.put, List.setIfInBounds_toArray, List.set_cons_zero, List.set_cons_succ, i64_w, i32_w]
             rfl
            refine pure_ (i := 17) (N := some 112) (v := undef) (a' := ?_) #[true, true, true, true, true, true, true, true, true, true, true, true, true, true, true, true, true, true, false, false, false, false, false, false, false, false] rfl rfl (any_of HT_.out (by kernel_rfl)) (fun _ _ _ h => h) (Or.inr ⟨by rfl, rfl⟩) ?_ ?_
            rotate_left
            ·simp only [Act.put, List.setIfInBounds_toArray, List.set_cons_zero, List.set_cons_succ, i64_w, i32_w]
             rfl
            refine pure_ (i := 18) (N := some 113) (v := undef) (a' := ?_) #[true, true, true, true, true, true, true, true, true, true, true, true, true, true, true, true, true, true, true, false, false, false, false, false, false, false] rfl rfl (any_of HT_.out (by kernel_rfl)) (fun _ _ _ h => h) (Or.inr ⟨by rfl, rfl⟩) ?_ ?_
            rotate_left
            ·simp only [Act.put, List.setIfInBounds_toArray, List.set_cons_zero, List.set_cons_succ, i64_w, i32_w]
             rfl
            refine pure_ (i := 19) (N := some 114) (v := undef) (a' := ?_) #[true, true, true, true, true, true, true, true, true, true, true, true, true, true, true, true, true, true, true, true, false, false, false, false, false, false] rfl rfl (any_of HT_.out (by kernel_rfl)) (fun _ _ _ h => h) (Or.inr ⟨by rfl, rfl⟩) ?_ ?_
            rotate_left
            ·simp only [Act.put, List.setIfInBounds_toArray, List.set_cons_zero, List.set_cons_succ, i64_w, i32_w]
             rfl
            refine pure_ (i := 20) (N := some 115) (v := undef) (a' := ?_) #[true, true, true, true, true, true, true, true, true, true, true, true, true, true, true, true, true, true, true, true, true, false, false, false, false, false] rfl rfl (any_of HT_.out (by kernel_rfl)) (fun _ _ _ h => h) (Or.inr ⟨by rfl, rfl⟩) ?_ ?_
            rotate_left
            ·simp only [Act.put, List.setIfInBounds_toArray, List.set_cons_zero, List.set_cons_succ, i64_w, i32_w]
             rfl
            refine pure_ (i := 21) (N := some 116) (v := undef) (a' := ?_) #[true, true, true, true, true, true, true, true, true, true, true, true, true, true, true, true, true, true, true, true, true, true, false, false, false, false] rfl rfl (any_of HT_.out (by kernel_rfl)) (fun _ _ _ h => h) (Or.inr ⟨by rfl, rfl⟩) ?_ ?_
            rotate_left
            ·simp only [Act.put, List.setIfInBounds_toArray, List.set_cons_zero, List.set_cons_succ, i64_w, i32_w]
             rfl
            refine pure_ (i := 22) (N := some 117) (v := undef) (a' := ?_) #[true, true, true, true, true, true, true, true, true, true, true, true, true, true, true, true, true, true, true, true, true, true, true, false, false, false] rfl rfl (any_of HT_.out (by kernel_rfl)) (fun _ _ _ h => h) (Or.inr ⟨by rfl, rfl⟩) ?_ ?_
            rotate_left
            ·simp only [Act.put, List.setIfInBounds_toArray, List.set_cons_zero, List.set_cons_succ, i64_w, i32_w]
             rfl
            refine pure_ (i := 23) (N := some 118) (v := undef) (a' := ?_) #[true, true, true, true, true, true, true, true, true, true, true, true, true, true, true, true, true, true, true, true, true, true, true, true, false, false] rfl rfl (any_of HT_.out (by kernel_rfl)) (fun _ _ _ h => h) (Or.inr ⟨by rfl, rfl⟩) ?_ ?_
            rotate_left
            ·simp only [Act.put, List.setIfInBounds_toArray, List.set_cons_zero, List.set_cons_succ, i64_w, i32_w]
             rfl
            refine pure_ (i := 24) (N := some 119) (v := ?_) (a' := ?_) #[true, true, true, true, true, true, true, true, true, true, true, true, true, true, true, true, true, true, true, true, true, true, true, true, true, false] rfl rfl (any_of HT_.out (by kernel_rfl)) (fun _ _ _ h => h) (Or.inl ⟨by rfl, ?_⟩) ?_ ?_
            rotate_left
            ·intro w'
             go_simp
             with_reducible rfl
            rotate_left
            ·simp only [Act.put, List.setIfInBounds_toArray, List.set_cons_zero, List.set_cons_succ, i64_w, i32_w]
             rfl
            refine pure_ (i := 25) (N := some 8) (v := ?_) (a' := ?_) #[true, true, true, true, true, true, true, true, true, true, true, true, true, true, true, true, true, true, true, true, true, true, true, true, true, true] rfl rfl (any_of HT_.out (by kernel_rfl)) (fun _ _ _ h => h) (Or.inl ⟨by rfl, ?_⟩) ?_ ?_
            rotate_left
            ·intro w'
             go_simp
             with_reducible rfl
            rotate_left
            ·simp only [Act.put, List.setIfInBounds_toArray, List.set_cons_zero, List.set_cons_succ, i64_w, i32_w]
             rfl
            refine done_ (done_of HT_.out (by kernel_rfl)) ?_
            try go_wp2
            go_ret
            exact ⟨by first | rfl | (simp [errW_none, errW_some] <;> rfl) | (simp [*, errW_none, errW_some] <;> rfl), by repeat (first | (with_reducible first | exact HB.out | apply below_alloc | apply pw_below_drewN | apply below_drew1 | refine below_set ?_ GE279.out | refine below_set ?_ GE299.out) | exact HB.out)⟩
         ·as_aux_lemma =>
           replace c40 := Bool.eq_false_iff.mpr c40
           subst c40
           have H1 : (some false) = some r := by rw [if_neg (show ¬ (false = true) by decide)] at H; exact H
           clear H
           have H := H1
           clear H1
           obtain rfl := Option.some.inj H
           have hcz72_0 : wc.cell? ⟨gb279, 0, none⟩ = some (.int .i64 a3_0) := (blk_cell BK279.out 0).trans rfl
           have hcz72_1 : wc.cell? ⟨gb279, 1, none⟩ = some (.int .i64 a3_1) := (blk_cell BK279.out 1).trans rfl
           have hcz72_2 : wc.cell? ⟨gb279, 2, none⟩ = some (.int .i64 a3_2) := (blk_cell BK279.out 2).trans rfl
           have hcz72_3 : wc.cell? ⟨gb279, 3, none⟩ = some (.int .i64 a3_3) := (blk_cell BK279.out 3).trans rfl
           have hfz72_0 := blk_frozen BK279.out 0
           have hfz72_1 := blk_frozen BK279.out 1
           have hfz72_2 := blk_frozen BK279.out 2
           have hfz72_3 := blk_frozen BK279.out 3
           try go_wp2_with (first | ((with_reducible refine gate_dst (N := 17) rfl ?_); (try (refine gate_guard (by rfl) ?_; dsimp only)); refine box_event ?hg (N := 17) ?hd (cs := #[.int .i64 0, .int .i64 0, .int .i64 0, .int .i64 0]) (t := 34) ?hr ?_; (case hd => rfl); (case hg => rfl); (case hr => first | (go_simp; done) | (go_simp; rfl)); intro gb299 hg w73 hbox hb; have n0_ := Aside0.mk (blk_below (g := gb279) (o := .cells #[.int .i64 a3_0, .int .i64 a3_1, .int .i64 a3_2, .int .i64 a3_3] 24 (0, 0)) (by (with_reducible repeat (first | refine blk_drewN ?_ _ | refine blk_drew ?_ | refine blk_alloc ?_ _)); exact BK279.out) hb); have n1_ := Aside0.mk (below_step (by repeat (first | (with_reducible first | exact HB.out | apply below_alloc | apply pw_below_drewN | apply below_drew1 | refine below_set ?_ GE279.out) | exact HB.out)) hb); have n2_ := Aside0.mk (hbox); have n3_ := Aside0.mk ((by rw [hg]; exact (below_size (by repeat (first | (with_reducible first | exact HB.out | apply below_alloc | apply pw_below_drewN | apply below_drew1 | refine below_set ?_ GE279.out) | exact HB.out))) : w.heap.size ≤ gb299)); have n4_ := Aside0.mk ((by rw [hg]; exact (below_size (by repeat (first | (with_reducible first | exact HB.out | apply below_alloc | apply pw_below_drewN | apply below_drew1 | refine below_set ?_ GE279.out) | exact HB.out))) : w.heap.size ≤ gb299)); have n5_ := Aside0.mk ((by rw [hg]; exact Nat.ne_of_lt (blk_lt (g := gb279) (o := .cells #[.int .i64 a3_0, .int .i64 a3_1, .int .i64 a3_2, .int .i64 a3_3] 24 (0, 0)) (by (with_reducible repeat (first | refine blk_drewN ?_ _ | refine blk_drew ?_ | refine blk_alloc ?_ _)); exact BK279.out)) : gb279 ≠ gb299)); have n6_ := Aside0.mk ((by rw [hg]; exact Nat.ne_of_gt (blk_lt (g := gb279) (o := .cells #[.int .i64 a3_0, .int .i64 a3_1, .int .i64 a3_2, .int .i64 a3_3] 24 (0, 0)) (by (with_reducible repeat (first | refine blk_drewN ?_ _ | refine blk_drew ?_ | refine blk_alloc ?_ _)); exact BK279.out)) : gb299 ≠ gb279)); clear BK279; clear HB; have BK279 := n0_; have HB := n1_; have BK299 := n2_; have GW299 := n3_; have GE299 := n4_; have NB279_299 := n5_; have NB299_279 := n6_; clear n0_ n1_ n2_ n3_ n4_ n5_ n6_; clear hb hbox hg; have hnb74 := NB299_279.out; have hnc74 := NB279_299.out; have hcz75_0 : w73.cell? ⟨gb299, 0, none⟩ = some (.int .i64 0) := (blk_cell BK299.out 0).trans rfl; have hcz75_1 : w73.cell? ⟨gb299, 1, none⟩ = some (.int .i64 0) := (blk_cell BK299.out 1).trans rfl; have hcz75_2 : w73.cell? ⟨gb299, 2, none⟩ = some (.int .i64 0) := (blk_cell BK299.out 2).trans rfl; have hcz75_3 : w73.cell? ⟨gb299, 3, none⟩ = some (.int .i64 0) := (blk_cell BK299.out 3).trans rfl; have hfz75_0 := blk_frozen BK299.out 0; have hfz75_1 := blk_frozen BK299.out 1; have hfz75_2 := blk_frozen BK299.out 2; have hfz75_3 := blk_frozen BK299.out 3) | ((with_reducible refine gate_callee (f := 13) rfl ?_); refine goesL_ (some 80) rfl rfl Try.func13 (by kernel_rfl) rfl #[.agg #[.int .i64 a3_0, .int .i64 a3_1, .int .i64 a3_2, .int .i64 a3_3]] rfl (by (try simp only [List.map_toArray, List.map_cons, List.map_nil]); first | done | rfl | (simp only [List.length_drop, List.length_take]; rfl)) ?_; (with_reducible refine (footlockerref23_Right.calls a3_0 a3_1 a3_2 a3_3 true _ A37.out).mono ?_); rintro e w76 ⟨rfl, hb⟩; refine ⟨_, rfl, ?_⟩; have n0_ := Aside0.mk (blk_below (g := gb279) (o := .cells #[.int .i64 a3_0, .int .i64 a3_1, .int .i64 a3_2, .int .i64 a3_3] 24 (0, 0)) (by (with_reducible repeat (first | refine blk_drewN ?_ _ | refine blk_drew ?_ | refine blk_alloc ?_ _)); refine blk_far ?_ NB279_299.out _; (with_reducible repeat (first | refine blk_drewN ?_ _ | refine blk_drew ?_ | refine blk_alloc ?_ _)); refine blk_far ?_ NB279_299.out _; (with_reducible repeat (first | refine blk_drewN ?_ _ | refine blk_drew ?_ | refine blk_alloc ?_ _)); refine blk_far ?_ NB279_299.out _; (with_reducible repeat (first | refine blk_drewN ?_ _ | refine blk_drew ?_ | refine blk_alloc ?_ _)); refine blk_far ?_ NB279_299.out _; (with_reducible repeat (first | refine blk_drewN ?_ _ | refine blk_drew ?_ | refine blk_alloc ?_ _)); exact BK279.out) hb); have n1_ := Aside0.mk (blk_below (g := gb299) (o := .cells #[.int .i64 a3_0, .int .i64 a3_1, .int .i64 a3_2, .int .i64 a3_3] 34 (0, 0)) (by (with_reducible repeat (first | refine blk_drewN ?_ _ | refine blk_drew ?_ | refine blk_alloc ?_ _)); refine blk_put (cs := #[.int .i64 a3_0, .int .i64 a3_1, .int .i64 a3_2, .int .i64 0]) ?_ 3 _ rfl; (with_reducible repeat (first | refine blk_drewN ?_ _ | refine blk_drew ?_ | refine blk_alloc ?_ _)); refine blk_put (cs := #[.int .i64 a3_0, .int .i64 a3_1, .int .i64 0, .int .i64 0]) ?_ 2 _ rfl; (with_reducible repeat (first | refine blk_drewN ?_ _ | refine blk_drew ?_ | refine blk_alloc ?_ _)); refine blk_put (cs := #[.int .i64 a3_0, .int .i64 0, .int .i64 0, .int .i64 0]) ?_ 1 _ rfl; (with_reducible repeat (first | refine blk_drewN ?_ _ | refine blk_drew ?_ | refine blk_alloc ?_ _)); refine blk_put (cs := #[.int .i64 0, .int .i64 0, .int .i64 0, .int .i64 0]) ?_ 0 _ rfl; (with_reducible repeat (first | refine blk_drewN ?_ _ | refine blk_drew ?_ | refine blk_alloc ?_ _)); exact BK299.out) hb); have n2_ := Aside0.mk (below_step (by repeat (first | (with_reducible first | exact HB.out | apply below_alloc | apply pw_below_drewN | apply below_drew1 | refine below_set ?_ GE279.out | refine below_set ?_ GE299.out) | exact HB.out)) hb); clear BK279; clear BK299; clear HB; have BK279 := n0_; have BK299 := n1_; have HB := n2_; clear n0_ n1_ n2_; (try clear hb); (try clear hb2); (try clear hk); (try clear hi)))
           have n0_ := Aside0.mk (blk_drew BK279.out)
           have n1_ := Aside0.mk (blk_drew BK299.out)
           have n2_ := Aside0.mk (below_drew1 HB.out)
           clear BK279
           clear BK299
           clear HB
           have BK279 := n0_
           have BK299 := n1_
           have HB := n2_
           clear n0_ n1_ n2_
           refine start_ (n := 26) (S := fun w' => w'.cell? ⟨gb279, 0, none⟩ = some (.int .i64 a3_0) ∧ w'.cell? ⟨gb279, 1, none⟩ = some (.int .i64 a3_1) ∧ w'.cell? ⟨gb279, 2, none⟩ = some (.int .i64 a3_2) ∧ w'.cell? ⟨gb279, 3, none⟩ = some (.int .i64 a3_3)) (ds := []) #[false, false, false, false, false, false, false, false, false, false, false, false, false, false, false, false, false, false, false, false, false, false, false, false, false, false] (by kernel_rfl) rfl rfl ⟨(blk_cell BK279.out 0).trans rfl, (blk_cell BK279.out 1).trans rfl, (blk_cell BK279.out 2).trans rfl, (blk_cell BK279.out 3).trans rfl⟩ (fun hHeld => ?_); refine with_tabW footlockerlaw23_StripeColumns.tab14 footlockerlaw23_StripeColumns.bits14 (fun HT_ HW_ => ?_)
           generalize w76.drew = w77 at BK279 BK299 HB hHeld ⊢
           refine take_ (i := 0) (N := some 95) (v := ?_) (a' := ?_) #[true, false, false, false, false, false, false, false, false, false, false, false, false, false, false, false, false, false, false, false, false, false, false, false, false, false] rfl rfl (take_ofW HT_.out HW_.out (by kernel_rfl)) (fun _ _ _ h => h) (Or.inl ⟨by rfl, ?_⟩) hHeld ?_ ?_
           rotate_left
           ·rintro w' ⟨s0, s1, s2, s3⟩
            go_simp
            with_reducible rfl
           rotate_left
           ·simp only [Act.put, List.setIfInBounds_toArray, List.set_cons_zero, List.set_cons_succ, i64_w, i32_w]
            rfl
           refine one_ (i := 1) (N := some 96) #[true, true, false, false, false, false, false, false, false, false, false, false, false, false, false, false, false, false, false, false, false, false, false, false, false, false] rfl rfl (one_of HT_.out (by kernel_rfl)) (by decide) (fun K hK => ?_)
           refine goes_ Try.func14 (by kernel_rfl) rfl #[.agg #[.int .i64 a3_0, .int .i64 a3_1, .int .i64 a3_2, .int .i64 a3_3]] (by rfl) rfl rfl (by (try simp only [List.map_toArray, List.map_cons, List.map_nil]); first | done | rfl | (simp only [List.length_drop, List.length_take]; rfl)) ?_
           with_reducible refine (stripe_Right.calls a3_0 a3_1 a3_2 a3_3 false _ A39.out).mono ?_
           rintro e w78 ⟨rfl, hb⟩
           refine ⟨_, rfl, ?_⟩
           have n0_ := Aside0.mk (blk_below (g := gb279) (o := .cells #[.int .i64 a3_0, .int .i64 a3_1, .int .i64 a3_2, .int .i64 a3_3] 24 (0, 0)) (by (with_reducible repeat (first | refine blk_drewN ?_ _ | refine blk_drew ?_ | refine blk_alloc ?_ _)); exact BK279.out) hb)
           have n1_ := Aside0.mk (blk_below (g := gb299) (o := .cells #[.int .i64 a3_0, .int .i64 a3_1, .int .i64 a3_2, .int .i64 a3_3] 34 (0, 0)) (by (with_reducible repeat (first | refine blk_drewN ?_ _ | refine blk_drew ?_ | refine blk_alloc ?_ _)); exact BK299.out) hb)
           have n2_ := Aside0.mk (below_step (by repeat (first | (with_reducible first | exact HB.out | apply below_alloc | apply pw_below_drewN | apply below_drew1 | refine below_set ?_ GE279.out | refine below_set ?_ GE299.out) | exact HB.out)) hb)
           clear BK279
           clear BK299
           clear HB
           have BK279 := n0_
           have BK299 := n1_
           have HB := n2_
           clear n0_ n1_ n2_
           (try clear hb)
           (try clear hb2)
           (try clear hk)
           (try clear hi)
           refine hK.out _ _ ⟨(blk_cell BK279.out 0).trans rfl, (blk_cell BK279.out 1).trans rfl, (blk_cell BK279.out 2).trans rfl, (blk_cell BK279.out 3).trans rfl⟩ (fun hHeld => ?_)
           clear hK K
           refine norm_ (a' := ?_) ?_ ?_
           rotate_left
           ·show Act.put _ (some 96) _ = _
            simp only [Act.put, List.setIfInBounds_toArray, List.set_cons_zero, List.set_cons_succ, i64_w, i32_w]
            rfl
           refine pure_ (i := 2) (N := some 97) (v := ?_) (a' := ?_) #[true, true, true, false, false, false, false, false, false, false, false, false, false, false, false, false, false, false, false, false, false, false, false, false, false, false] rfl rfl (any_of HT_.out (by kernel_rfl)) (fun _ _ _ h => h) (Or.inl ⟨by rfl, ?_⟩) ?_ ?_
           rotate_left
           ·intro w'
            go_simp
            with_reducible rfl
           rotate_left
           ·simp only [Act.put, List.setIfInBounds_toArray, List.set_cons_zero, List.set_cons_succ, i64_w, i32_w]
            rfl
           refine pure_ (i := 3) (N := some 98) (v := undef) (a' := ?_) #[true, true, true, true, false, false, false, false, false, false, false, false, false, false, false, false, false, false, false, false, false, false, false, false, false, false] rfl rfl (any_of HT_.out (by kernel_rfl)) (fun _ _ _ h => h) (Or.inr ⟨by rfl, rfl⟩) ?_ ?_
           rotate_left
           ·simp only [Act.put, List.setIfInBounds_toArray, List.set_cons_zero, List.set_cons_succ, i64_w, i32_w]
            rfl
           refine pure_ (i := 4) (N := some 99) (v := undef) (a' := ?_) #[true, true, true, true, true, false, false, false, false, false, false, false, false, false, false, false, false, false, false, false, false, false, false, false, false, false] rfl rfl (any_of HT_.out (by kernel_rfl)) (fun _ _ _ h => h) (Or.inr ⟨by rfl, rfl⟩) ?_ ?_
           rotate_left
           ·simp only [Act.put, List.setIfInBounds_toArray, List.set_cons_zero, List.set_cons_succ, i64_w, i32_w]
            rfl
           refine pure_ (i := 5) (N := some 100) (v := undef) (a' := ?_) #[true, true, true, true, true, true, false, false, false, false, false, false, false, false, false, false, false, false, false, false, false, false, false, false, false, false] rfl rfl (any_of HT_.out (by kernel_rfl)) (fun _ _ _ h => h) (Or.inr ⟨by rfl, rfl⟩) ?_ ?_
           rotate_left
           ·simp only [Act.put, List.setIfInBounds_toArray, List.set_cons_zero, List.set_cons_succ, i64_w, i32_w]
            rfl
           refine pure_ (i := 6) (N := some 101) (v := undef) (a' := ?_) #[true, true, true, true, true, true, true, false, false, false, false, false, false, false, false, false, false, false, false, false, false, false, false, false, false, false] rfl rfl (any_of HT_.out (by kernel_rfl)) (fun _ _ _ h => h) (Or.inr ⟨by rfl, rfl⟩) ?_ ?_
           rotate_left
           ·simp only [Act.put, List.setIfInBounds_toArray, List.set_cons_zero, List.set_cons_succ, i64_w, i32_w]
            rfl
           refine pure_ (i := 7) (N := some 102) (v := undef) (a' := ?_) #[true, true, true, true, true, true, true, true, false, false, false, false, false, false, false, false, false, false, false, false, false, false, false, false, false, false] rfl rfl (any_of HT_.out (by kernel_rfl)) (fun _ _ _ h => h) (Or.inr ⟨by rfl, rfl⟩) ?_ ?_
           rotate_left
           ·simp only [Act.put, List.setIfInBounds_toArray, List.set_cons_zero, List.set_cons_succ, i64_w, i32_w]
            rfl
           refine pure_ (i := 8) (N := some 103) (v := undef) (a' := ?_) #[true, true, true, true, true, true, true, true, true, false, false, false, false, false, false, false, false, false, false, false, false, false, false, false, false, false] rfl rfl (any_of HT_.out (by kernel_rfl)) (fun _ _ _ h => h) (Or.inr ⟨by rfl, rfl⟩) ?_ ?_
           rotate_left
           ·simp only [Act.put, List.setIfInBounds_toArray, List.set_cons_zero, List.set_cons_succ, i64_w, i32_w]
            rfl
           refine pure_ (i := 9) (N := some 104) (v := ?_) (a' := ?_) #[true, true, true, true, true, true, true, true, true, true, false, false, false, false, false, false, false, false, false, false, false, false, false, false, false, false] rfl rfl (any_of HT_.out (by kernel_rfl)) (fun _ _ _ h => h) (Or.inl ⟨by rfl, ?_⟩) ?_ ?_
           rotate_left
           ·intro w'
            go_simp
            with_reducible rfl
           rotate_left
           ·simp only [Act.put, List.setIfInBounds_toArray, List.set_cons_zero, List.set_cons_succ, i64_w, i32_w]
            rfl
           refine pure_ (i := 10) (N := some 105) (v := ?_) (a' := ?_) #[true, true, true, true, true, true, true, true, true, true, true, false, false, false, false, false, false, false, false, false, false, false, false, false, false, false] rfl rfl (any_of HT_.out (by kernel_rfl)) (fun _ _ _ h => h) (Or.inl ⟨by rfl, ?_⟩) ?_ ?_
           rotate_left
           ·intro w'
            go_simp
            with_reducible rfl
           rotate_left
           ·simp only [Act.put, List.setIfInBounds_toArray, List.set_cons_zero, List.set_cons_succ, i64_w, i32_w]
            rfl
           refine pure_ (i := 11) (N := some 106) (v := undef) (a' := ?_) #[true, true, true, true, true, true, true, true, true, true, true, true, false, false, false, false, false, false, false, false, false, false, false, false, false, false] rfl rfl (any_of HT_.out (by kernel_rfl)) (fun _ _ _ h => h) (Or.inr ⟨by rfl, rfl⟩) ?_ ?_
           rotate_left
           ·simp only [Act.put, List.setIfInBounds_toArray, List.set_cons_zero, List.set_cons_succ, i64_w, i32_w]
            rfl
           refine pure_ (i := 12) (N := some 107) (v := undef) (a' := ?_) #[true, true, true, true, true, true, true, true, true, true, true, true, true, false, false, false, false, false, false, false, false, false, false, false, false, false] rfl rfl (any_of HT_.out (by kernel_rfl)) (fun _ _ _ h => h) (Or.inr ⟨by rfl, rfl⟩) ?_ ?_
           rotate_left
           ·simp only [Act.put, List.setIfInBounds_toArray, List.set_cons_zero, List.set_cons_succ, i64_w, i32_w]
            rfl
           refine pure_ (i := 13) (N := some 108) (v := undef) (a' := ?_) #[true, true, true, true, true, true, true, true, true, true, true, true, true, true, false, false, false, false, false, false, false, false, false, false, false, false] rfl rfl (any_of HT_.out (by kernel_rfl)) (fun _ _ _ h => h) (Or.inr ⟨by rfl, rfl⟩) ?_ ?_
           rotate_left
           ·simp only [Act.put, List.setIfInBounds_toArray, List.set_cons_zero, List.set_cons_succ, i64_w, i32_w]
            rfl
           refine pure_ (i := 14) (N := some 109) (v := undef) (a' := ?_) #[true, true, true, true, true, true, true, true, true, true, true, true, true, true, true, false, false, false, false, false, false, false, false, false, false, false] rfl rfl (any_of HT_.out (by kernel_rfl)) (fun _ _ _ h => h) (Or.inr ⟨by rfl, rfl⟩) ?_ ?_
           rotate_left
           ·simp only [Act.put, List.setIfInBounds_toArray, List.set_cons_zero, List.set_cons_succ, i64_w, i32_w]
            rfl
           refine pure_ (i := 15) (N := some 110) (v := undef) (a' := ?_) #[true, true, true, true, true, true, true, true, true, true, true, true, true, true, true, true, false, false, false, false, false, false, false, false, false, false] rfl rfl (any_of HT_.out (by kernel_rfl)) (fun _ _ _ h => h) (Or.inr ⟨by rfl, rfl⟩) ?_ ?_
           rotate_left
           ·simp only [Act.put, List.setIfInBounds_toArray, List.set_cons_zero, List.set_cons_succ, i64_w, i32_w]
            rfl
           refine pure_ (i := 16) (N := some 111) (v := undef) (a' := ?_) #[true, true, true, true, true, true, true, true, true, true, true, true, true, true, true, true, true, false, false, false, false, false, false, false, false, false] rfl rfl (any_of HT_.out (by kernel_rfl)) (fun _ _ _ h => h) (Or.inr ⟨by rfl, rfl⟩) ?_ ?_
           rotate_left
           ·simp only [Act.put, List.setIfInBounds_toArray, List.set_cons_zero, List.set_cons_succ, i64_w, i32_w]
            rfl
           refine pure_ (i := 17) (N := some 112) (v := undef) (a' := ?_) #[true, true, true, true, true, true, true, true, true, true, true, true, true, true, true, true, true, true, false, false, false, false, false, false, false, false] rfl rfl (any_of HT_.out (by kernel_rfl)) (fun _ _ _ h => h) (Or.inr ⟨by rfl, rfl⟩) ?_ ?_
           rotate_left
           ·simp only [Act.put, List.setIfInBounds_toArray, List.set_cons_zero, List.set_cons_succ, i64_w, i32_w]
            rfl
           refine pure_ (i := 18) (N := some 113) (v := undef) (a' := ?_) #[true, true, true, true, true, true, true, true, true, true, true, true, true, true, true, true, true, true, true, false, false, false, false, false, false, false] rfl rfl (any_of HT_.out (by kernel_rfl)) (fun _ _ _ h => h) (Or.inr ⟨by rfl, rfl⟩) ?_ ?_
           rotate_left
           ·simp only [Act.put, List.setIfInBounds_toArray, List.set_cons_zero, List.set_cons_succ, i64_w, i32_w]
            rfl
           refine pure_ (i := 19) (N := some 114) (v := undef) (a' := ?_) #[true, true, true, true, true, true, true, true, true, true, true, true, true, true, true, true, true, true, true, true, false, false, false, false, false, false] rfl rfl (any_of HT_.out (by kernel_rfl)) (fun _ _ _ h => h) (Or.inr ⟨by rfl, rfl⟩) ?_ ?_
           rotate_left
           ·simp only [Act.put, List.setIfInBounds_toArray, List.set_cons_zero, List.set_cons_succ, i64_w, i32_w]
            rfl
           refine pure_ (i := 20) (N := some 115) (v := undef) (a' := ?_) #[true, true, true, true, true, true, true, true, true, true, true, true, true, true, true, true, true, true, true, true, true, false, false, false, false, false] rfl rfl (any_of HT_.out (by kernel_rfl)) (fun _ _ _ h => h) (Or.inr ⟨by rfl, rfl⟩) ?_ ?_
           rotate_left
           ·simp only [Act.put, List.setIfInBounds_toArray, List.set_cons_zero, List.set_cons_succ, i64_w, i32_w]
            rfl
           refine pure_ (i := 21) (N := some 116) (v := undef) (a' := ?_) #[true, true, true, true, true, true, true, true, true, true, true, true, true, true, true, true, true, true, true, true, true, true, false, false, false, false] rfl rfl (any_of HT_.out (by kernel_rfl)) (fun _ _ _ h => h) (Or.inr ⟨by rfl, rfl⟩) ?_ ?_
           rotate_left
           ·simp only [Act.put, List.setIfInBounds_toArray, List.set_cons_zero, List.set_cons_succ, i64_w, i32_w]
            rfl
           refine pure_ (i := 22) (N := some 117) (v := undef) (a' := ?_) #[true, true, true, true, true, true, true, true, true, true, true, true, true, true, true, true, true, true, true, true, true, true, true, false, false, false] rfl rfl (any_of HT_.out (by kernel_rfl)) (fun _ _ _ h => h) (Or.inr ⟨by rfl, rfl⟩) ?_ ?_
           rotate_left
           ·simp only [Act.put, List.setIfInBounds_toArray, List.set_cons_zero, List.set_cons_succ, i64_w, i32_w]
            rfl
           refine pure_ (i := 23) (N := some 118) (v := undef) (a' := ?_) #[true, true, true, true, true, true, true, true, true, true, true, true, true, true, true, true, true, true, true, true, true, true, true, true, false, false] rfl rfl (any_of HT_.out (by kernel_rfl)) (fun _ _ _ h => h) (Or.inr ⟨by rfl, rfl⟩) ?_ ?_
           rotate_left
           ·simp only [Act.put, List.setIfInBounds_toArray, List.set_cons_zero, List.set_cons_succ, i64_w, i32_w]
            rfl
           refine pure_ (i := 24) (N := some 119) (v := ?_) (a' := ?_) #[true, true, true, true, true, true, true, true, true, true, true, true, true, true, true, true, true, true, true, true, true, true, true, true, true, false] rfl rfl (any_of HT_.out (by kernel_rfl)) (fun _ _ _ h => h) (Or.inl ⟨by rfl, ?_⟩) ?_ ?_
           rotate_left
           ·intro w'
            go_simp
            with_reducible rfl
           rotate_left
           ·simp only [Act.put, List.setIfInBounds_toArray, List.set_cons_zero, List.set_cons_succ, i64_w, i32_w]
            rfl
           refine pure_ (i := 25) (N := some 8) (v := ?_) (a' := ?_) #[true, true, true, true, true, true, true, true, true, true, true, true, true, true, true, true, true, true, true, true, true, true, true, true, true, true] rfl rfl (any_of HT_.out (by kernel_rfl)) (fun _ _ _ h => h) (Or.inl ⟨by rfl, ?_⟩) ?_ ?_
           rotate_left
           ·intro w'
            go_simp
            with_reducible rfl
           rotate_left
           ·simp only [Act.put, List.setIfInBounds_toArray, List.set_cons_zero, List.set_cons_succ, i64_w, i32_w]
            rfl
           refine done_ (done_of HT_.out (by kernel_rfl)) ?_
           try go_wp2
           go_ret
           exact ⟨by first | rfl | (simp [errW_none, errW_some] <;> rfl) | (simp [*, errW_none, errW_some] <;> rfl), by repeat (first | (with_reducible first | exact HB.out | apply below_alloc | apply pw_below_drewN | apply below_drew1 | refine below_set ?_ GE279.out | refine below_set ?_ GE299.out) | exact HB.out)⟩
        ·as_aux_lemma =>
          replace c38 := Bool.eq_false_iff.mpr c38
          subst c38
          have H1 : ((stripe_Right.f a3_0 a3_1 a3_2 a3_3).bind fun t301 => (if t301 = true then (some false) else ((stripe_Long.f a3_0 a3_1 a3_2 a3_3).bind fun t302 => (if t302 = 0 then ((stripe_Blocks.f a3_0 a3_1 a3_2 a3_3).bind fun t303 => (some (t303 == 0))) else (some false))))) = some r := by rw [if_neg (show ¬ (false = true) by decide)] at H; exact H
          clear H
          have H := H1
          clear H1
          replace H := Option.bind_eq_some_iff.mp H
          obtain ⟨t301, A790, H⟩ := H
          replace H : (if t301 = true then (some false) else ((stripe_Long.f a3_0 a3_1 a3_2 a3_3).bind fun t302 => (if t302 = 0 then ((stripe_Blocks.f a3_0 a3_1 a3_2 a3_3).bind fun t303 => (some (t303 == 0))) else (some false)))) = some r := H
          have A79 := Aside0.mk A790
          clear A790
          by_cases c80 : t301 = true
          ·subst c80
           have H1 : (some false) = some r := by rw [if_pos rfl] at H; exact H
           clear H
           have H := H1
           clear H1
           obtain rfl := Option.some.inj H
           have hcz81_0 : wc.cell? ⟨gb279, 0, none⟩ = some (.int .i64 a3_0) := (blk_cell BK279.out 0).trans rfl
           have hcz81_1 : wc.cell? ⟨gb279, 1, none⟩ = some (.int .i64 a3_1) := (blk_cell BK279.out 1).trans rfl
           have hcz81_2 : wc.cell? ⟨gb279, 2, none⟩ = some (.int .i64 a3_2) := (blk_cell BK279.out 2).trans rfl
           have hcz81_3 : wc.cell? ⟨gb279, 3, none⟩ = some (.int .i64 a3_3) := (blk_cell BK279.out 3).trans rfl
           have hfz81_0 := blk_frozen BK279.out 0
           have hfz81_1 := blk_frozen BK279.out 1
           have hfz81_2 := blk_frozen BK279.out 2
           have hfz81_3 := blk_frozen BK279.out 3
           go_wp2_with (first | ((with_reducible refine gate_dst (N := 17) rfl ?_); (try (refine gate_guard (by rfl) ?_; dsimp only)); refine box_event ?hg (N := 17) ?hd (cs := #[.int .i64 0, .int .i64 0, .int .i64 0, .int .i64 0]) (t := 34) ?hr ?_; (case hd => rfl); (case hg => rfl); (case hr => first | (go_simp; done) | (go_simp; rfl)); intro gb299 hg w82 hbox hb; have n0_ := Aside0.mk (blk_below (g := gb279) (o := .cells #[.int .i64 a3_0, .int .i64 a3_1, .int .i64 a3_2, .int .i64 a3_3] 24 (0, 0)) (by (with_reducible repeat (first | refine blk_drewN ?_ _ | refine blk_drew ?_ | refine blk_alloc ?_ _)); exact BK279.out) hb); have n1_ := Aside0.mk (below_step (by repeat (first | (with_reducible first | exact HB.out | apply below_alloc | apply pw_below_drewN | apply below_drew1 | refine below_set ?_ GE279.out) | exact HB.out)) hb); have n2_ := Aside0.mk (hbox); have n3_ := Aside0.mk ((by rw [hg]; exact (below_size (by repeat (first | (with_reducible first | exact HB.out | apply below_alloc | apply pw_below_drewN | apply below_drew1 | refine below_set ?_ GE279.out) | exact HB.out))) : w.heap.size ≤ gb299)); have n4_ := Aside0.mk ((by rw [hg]; exact (below_size (by repeat (first | (with_reducible first | exact HB.out | apply below_alloc | apply pw_below_drewN | apply below_drew1 | refine below_set ?_ GE279.out) | exact HB.out))) : w.heap.size ≤ gb299)); have n5_ := Aside0.mk ((by rw [hg]; exact Nat.ne_of_lt (blk_lt (g := gb279) (o := .cells #[.int .i64 a3_0, .int .i64 a3_1, .int .i64 a3_2, .int .i64 a3_3] 24 (0, 0)) (by (with_reducible repeat (first | refine blk_drewN ?_ _ | refine blk_drew ?_ | refine blk_alloc ?_ _)); exact BK279.out)) : gb279 ≠ gb299)); have n6_ := Aside0.mk ((by rw [hg]; exact Nat.ne_of_gt (blk_lt (g := gb279) (o := .cells #[.int .i64 a3_0, .int .i64 a3_1, .int .i64 a3_2, .int .i64 a3_3] 24 (0, 0)) (by (with_reducible repeat (first | refine blk_drewN ?_ _ | refine blk_drew ?_ | refine blk_alloc ?_ _)); exact BK279.out)) : gb299 ≠ gb279)); clear BK279; clear HB; have BK279 := n0_; have HB := n1_; have BK299 := n2_; have GW299 := n3_; have GE299 := n4_; have NB279_299 := n5_; have NB299_279 := n6_; clear n0_ n1_ n2_ n3_ n4_ n5_ n6_; clear hb hbox hg; have hnb83 := NB299_279.out; have hnc83 := NB279_299.out; have hcz84_0 : w82.cell? ⟨gb299, 0, none⟩ = some (.int .i64 0) := (blk_cell BK299.out 0).trans rfl; have hcz84_1 : w82.cell? ⟨gb299, 1, none⟩ = some (.int .i64 0) := (blk_cell BK299.out 1).trans rfl; have hcz84_2 : w82.cell? ⟨gb299, 2, none⟩ = some (.int .i64 0) := (blk_cell BK299.out 2).trans rfl; have hcz84_3 : w82.cell? ⟨gb299, 3, none⟩ = some (.int .i64 0) := (blk_cell BK299.out 3).trans rfl; have hfz84_0 := blk_frozen BK299.out 0; have hfz84_1 := blk_frozen BK299.out 1; have hfz84_2 := blk_frozen BK299.out 2; have hfz84_3 := blk_frozen BK299.out 3) | ((with_reducible refine gate_callee (f := 13) rfl ?_); refine goesL_ (some 80) rfl rfl Try.func13 (by kernel_rfl) rfl #[.agg #[.int .i64 a3_0, .int .i64 a3_1, .int .i64 a3_2, .int .i64 a3_3]] rfl (by (try simp only [List.map_toArray, List.map_cons, List.map_nil]); first | done | rfl | (simp only [List.length_drop, List.length_take]; rfl)) ?_; (with_reducible refine (footlockerref23_Right.calls a3_0 a3_1 a3_2 a3_3 false _ A37.out).mono ?_); rintro e w85 ⟨rfl, hb⟩; refine ⟨_, rfl, ?_⟩; have n0_ := Aside0.mk (blk_below (g := gb279) (o := .cells #[.int .i64 a3_0, .int .i64 a3_1, .int .i64 a3_2, .int .i64 a3_3] 24 (0, 0)) (by (with_reducible repeat (first | refine blk_drewN ?_ _ | refine blk_drew ?_ | refine blk_alloc ?_ _)); refine blk_far ?_ NB279_299.out _; (with_reducible repeat (first | refine blk_drewN ?_ _ | refine blk_drew ?_ | refine blk_alloc ?_ _)); refine blk_far ?_ NB279_299.out _; (with_reducible repeat (first | refine blk_drewN ?_ _ | refine blk_drew ?_ | refine blk_alloc ?_ _)); refine blk_far ?_ NB279_299.out _; (with_reducible repeat (first | refine blk_drewN ?_ _ | refine blk_drew ?_ | refine blk_alloc ?_ _)); refine blk_far ?_ NB279_299.out _; (with_reducible repeat (first | refine blk_drewN ?_ _ | refine blk_drew ?_ | refine blk_alloc ?_ _)); exact BK279.out) hb); have n1_ := Aside0.mk (blk_below (g := gb299) (o := .cells #[.int .i64 a3_0, .int .i64 a3_1, .int .i64 a3_2, .int .i64 a3_3] 34 (0, 0)) (by (with_reducible repeat (first | refine blk_drewN ?_ _ | refine blk_drew ?_ | refine blk_alloc ?_ _)); refine blk_put (cs := #[.int .i64 a3_0, .int .i64 a3_1, .int .i64 a3_2, .int .i64 0]) ?_ 3 _ rfl; (with_reducible repeat (first | refine blk_drewN ?_ _ | refine blk_drew ?_ | refine blk_alloc ?_ _)); refine blk_put (cs := #[.int .i64 a3_0, .int .i64 a3_1, .int .i64 0, .int .i64 0]) ?_ 2 _ rfl; (with_reducible repeat (first | refine blk_drewN ?_ _ | refine blk_drew ?_ | refine blk_alloc ?_ _)); refine blk_put (cs := #[.int .i64 a3_0, .int .i64 0, .int .i64 0, .int .i64 0]) ?_ 1 _ rfl; (with_reducible repeat (first | refine blk_drewN ?_ _ | refine blk_drew ?_ | refine blk_alloc ?_ _)); refine blk_put (cs := #[.int .i64 0, .int .i64 0, .int .i64 0, .int .i64 0]) ?_ 0 _ rfl; (with_reducible repeat (first | refine blk_drewN ?_ _ | refine blk_drew ?_ | refine blk_alloc ?_ _)); exact BK299.out) hb); have n2_ := Aside0.mk (below_step (by repeat (first | (with_reducible first | exact HB.out | apply below_alloc | apply pw_below_drewN | apply below_drew1 | refine below_set ?_ GE279.out | refine below_set ?_ GE299.out) | exact HB.out)) hb); clear BK279; clear BK299; clear HB; have BK279 := n0_; have BK299 := n1_; have HB := n2_; clear n0_ n1_ n2_; (try clear hb); (try clear hb2); (try clear hk); (try clear hi); have hcz86_0 : w85.cell? ⟨gb279, 0, none⟩ = some (.int .i64 a3_0) := (blk_cell BK279.out 0).trans rfl; have hcz86_1 : w85.cell? ⟨gb279, 1, none⟩ = some (.int .i64 a3_1) := (blk_cell BK279.out 1).trans rfl; have hcz86_2 : w85.cell? ⟨gb279, 2, none⟩ = some (.int .i64 a3_2) := (blk_cell BK279.out 2).trans rfl; have hcz86_3 : w85.cell? ⟨gb279, 3, none⟩ = some (.int .i64 a3_3) := (blk_cell BK279.out 3).trans rfl; have hfz86_0 := blk_frozen BK279.out 0; have hfz86_1 := blk_frozen BK279.out 1; have hfz86_2 := blk_frozen BK279.out 2; have hfz86_3 := blk_frozen BK279.out 3) | ((with_reducible refine gate_callee (f := 14) rfl ?_); refine goesL_ (some 83) rfl rfl Try.func14 (by kernel_rfl) rfl #[.agg #[.int .i64 a3_0, .int .i64 a3_1, .int .i64 a3_2, .int .i64 a3_3]] rfl (by (try simp only [List.map_toArray, List.map_cons, List.map_nil]); first | done | rfl | (simp only [List.length_drop, List.length_take]; rfl)) ?_; (with_reducible refine (stripe_Right.calls a3_0 a3_1 a3_2 a3_3 true _ A79.out).mono ?_); rintro e w87 ⟨rfl, hb⟩; refine ⟨_, rfl, ?_⟩; have n0_ := Aside0.mk (blk_below (g := gb279) (o := .cells #[.int .i64 a3_0, .int .i64 a3_1, .int .i64 a3_2, .int .i64 a3_3] 24 (0, 0)) (by (with_reducible repeat (first | refine blk_drewN ?_ _ | refine blk_drew ?_ | refine blk_alloc ?_ _)); exact BK279.out) hb); have n1_ := Aside0.mk (blk_below (g := gb299) (o := .cells #[.int .i64 a3_0, .int .i64 a3_1, .int .i64 a3_2, .int .i64 a3_3] 34 (0, 0)) (by (with_reducible repeat (first | refine blk_drewN ?_ _ | refine blk_drew ?_ | refine blk_alloc ?_ _)); exact BK299.out) hb); have n2_ := Aside0.mk (below_step (by repeat (first | (with_reducible first | exact HB.out | apply below_alloc | apply pw_below_drewN | apply below_drew1 | refine below_set ?_ GE279.out | refine below_set ?_ GE299.out) | exact HB.out)) hb); clear BK279; clear BK299; clear HB; have BK279 := n0_; have BK299 := n1_; have HB := n2_; clear n0_ n1_ n2_; (try clear hb); (try clear hb2); (try clear hk); (try clear hi)))
           go_ret
           exact ⟨by first | rfl | (simp [errW_none, errW_some] <;> rfl) | (simp [*, errW_none, errW_some] <;> rfl), by repeat (first | (with_reducible first | exact HB.out | apply below_alloc | apply pw_below_drewN | apply below_drew1 | refine below_set ?_ GE279.out | refine below_set ?_ GE299.out) | exact HB.out)⟩
          ·replace c80 := Bool.eq_false_iff.mpr c80
           subst c80
           have H1 : ((stripe_Long.f a3_0 a3_1 a3_2 a3_3).bind fun t302 => (if t302 = 0 then ((stripe_Blocks.f a3_0 a3_1 a3_2 a3_3).bind fun t303 => (some (t303 == 0))) else (some false))) = some r := by rw [if_neg (show ¬ (false = true) by decide)] at H; exact H
           clear H
           have H := H1
           clear H1
           replace H := Option.bind_eq_some_iff.mp H
           obtain ⟨t302, A880, H⟩ := H
           replace H : (if t302 = 0 then ((stripe_Blocks.f a3_0 a3_1 a3_2 a3_3).bind fun t303 => (some (t303 == 0))) else (some false)) = some r := H
           have A88 := Aside0.mk A880
           clear A880
           by_cases c89 : t302 = 0
           ·rw [if_pos c89] at H
            have c89b0 : (t302 == 0) = true := beq_iff_eq.mpr c89
            have c89b1 : (t302 != 0) = false := bne_eq_false_iff_eq.mpr c89
            clear c89
            replace H := Option.bind_eq_some_iff.mp H
            obtain ⟨t303, A900, H⟩ := H
            replace H : (some (t303 == 0)) = some r := H
            have A90 := Aside0.mk A900
            clear A900
            obtain rfl := Option.some.inj H
            have hcz91_0 : wc.cell? ⟨gb279, 0, none⟩ = some (.int .i64 a3_0) := (blk_cell BK279.out 0).trans rfl
            have hcz91_1 : wc.cell? ⟨gb279, 1, none⟩ = some (.int .i64 a3_1) := (blk_cell BK279.out 1).trans rfl
            have hcz91_2 : wc.cell? ⟨gb279, 2, none⟩ = some (.int .i64 a3_2) := (blk_cell BK279.out 2).trans rfl
            have hcz91_3 : wc.cell? ⟨gb279, 3, none⟩ = some (.int .i64 a3_3) := (blk_cell BK279.out 3).trans rfl
            have hfz91_0 := blk_frozen BK279.out 0
            have hfz91_1 := blk_frozen BK279.out 1
            have hfz91_2 := blk_frozen BK279.out 2
            have hfz91_3 := blk_frozen BK279.out 3
            go_wp2_with (first | ((with_reducible refine gate_dst (N := 17) rfl ?_); (try (refine gate_guard (by rfl) ?_; dsimp only)); refine box_event ?hg (N := 17) ?hd (cs := #[.int .i64 0, .int .i64 0, .int .i64 0, .int .i64 0]) (t := 34) ?hr ?_; (case hd => rfl); (case hg => rfl); (case hr => first | (go_simp; done) | (go_simp; rfl)); intro gb299 hg w92 hbox hb; have n0_ := Aside0.mk (blk_below (g := gb279) (o := .cells #[.int .i64 a3_0, .int .i64 a3_1, .int .i64 a3_2, .int .i64 a3_3] 24 (0, 0)) (by (with_reducible repeat (first | refine blk_drewN ?_ _ | refine blk_drew ?_ | refine blk_alloc ?_ _)); exact BK279.out) hb); have n1_ := Aside0.mk (below_step (by repeat (first | (with_reducible first | exact HB.out | apply below_alloc | apply pw_below_drewN | apply below_drew1 | refine below_set ?_ GE279.out) | exact HB.out)) hb); have n2_ := Aside0.mk (hbox); have n3_ := Aside0.mk ((by rw [hg]; exact (below_size (by repeat (first | (with_reducible first | exact HB.out | apply below_alloc | apply pw_below_drewN | apply below_drew1 | refine below_set ?_ GE279.out) | exact HB.out))) : w.heap.size ≤ gb299)); have n4_ := Aside0.mk ((by rw [hg]; exact (below_size (by repeat (first | (with_reducible first | exact HB.out | apply below_alloc | apply pw_below_drewN | apply below_drew1 | refine below_set ?_ GE279.out) | exact HB.out))) : w.heap.size ≤ gb299)); have n5_ := Aside0.mk ((by rw [hg]; exact Nat.ne_of_lt (blk_lt (g := gb279) (o := .cells #[.int .i64 a3_0, .int .i64 a3_1, .int .i64 a3_2, .int .i64 a3_3] 24 (0, 0)) (by (with_reducible repeat (first | refine blk_drewN ?_ _ | refine blk_drew ?_ | refine blk_alloc ?_ _)); exact BK279.out)) : gb279 ≠ gb299)); have n6_ := Aside0.mk ((by rw [hg]; exact Nat.ne_of_gt (blk_lt (g := gb279) (o := .cells #[.int .i64 a3_0, .int .i64 a3_1, .int .i64 a3_2, .int .i64 a3_3] 24 (0, 0)) (by (with_reducible repeat (first | refine blk_drewN ?_ _ | refine blk_drew ?_ | refine blk_alloc ?_ _)); exact BK279.out)) : gb299 ≠ gb279)); clear BK279; clear HB; have BK279 := n0_; have HB := n1_; have BK299 := n2_; have GW299 := n3_; have GE299 := n4_; have NB279_299 := n5_; have NB299_279 := n6_; clear n0_ n1_ n2_ n3_ n4_ n5_ n6_; clear hb hbox hg; have hnb93 := NB299_279.out; have hnc93 := NB279_299.out; have hcz94_0 : w92.cell? ⟨gb299, 0, none⟩ = some (.int .i64 0) := (blk_cell BK299.out 0).trans rfl; have hcz94_1 : w92.cell? ⟨gb299, 1, none⟩ = some (.int .i64 0) := (blk_cell BK299.out 1).trans rfl; have hcz94_2 : w92.cell? ⟨gb299, 2, none⟩ = some (.int .i64 0) := (blk_cell BK299.out 2).trans rfl; have hcz94_3 : w92.cell? ⟨gb299, 3, none⟩ = some (.int .i64 0) := (blk_cell BK299.out 3).trans rfl; have hfz94_0 := blk_frozen BK299.out 0; have hfz94_1 := blk_frozen BK299.out 1; have hfz94_2 := blk_frozen BK299.out 2; have hfz94_3 := blk_frozen BK299.out 3) | ((with_reducible refine gate_callee (f := 13) rfl ?_); refine goesL_ (some 80) rfl rfl Try.func13 (by kernel_rfl) rfl #[.agg #[.int .i64 a3_0, .int .i64 a3_1, .int .i64 a3_2, .int .i64 a3_3]] rfl (by (try simp only [List.map_toArray, List.map_cons, List.map_nil]); first | done | rfl | (simp only [List.length_drop, List.length_take]; rfl)) ?_; (with_reducible refine (footlockerref23_Right.calls a3_0 a3_1 a3_2 a3_3 false _ A37.out).mono ?_); rintro e w95 ⟨rfl, hb⟩; refine ⟨_, rfl, ?_⟩; have n0_ := Aside0.mk (blk_below (g := gb279) (o := .cells #[.int .i64 a3_0, .int .i64 a3_1, .int .i64 a3_2, .int .i64 a3_3] 24 (0, 0)) (by (with_reducible repeat (first | refine blk_drewN ?_ _ | refine blk_drew ?_ | refine blk_alloc ?_ _)); refine blk_far ?_ NB279_299.out _; (with_reducible repeat (first | refine blk_drewN ?_ _ | refine blk_drew ?_ | refine blk_alloc ?_ _)); refine blk_far ?_ NB279_299.out _; (with_reducible repeat (first | refine blk_drewN ?_ _ | refine blk_drew ?_ | refine blk_alloc ?_ _)); refine blk_far ?_ NB279_299.out _; (with_reducible repeat (first | refine blk_drewN ?_ _ | refine blk_drew ?_ | refine blk_alloc ?_ _)); refine blk_far ?_ NB279_299.out _; (with_reducible repeat (first | refine blk_drewN ?_ _ | refine blk_drew ?_ | refine blk_alloc ?_ _)); exact BK279.out) hb); have n1_ := Aside0.mk (blk_below (g := gb299) (o := .cells #[.int .i64 a3_0, .int .i64 a3_1, .int .i64 a3_2, .int .i64 a3_3] 34 (0, 0)) (by (with_reducible repeat (first | refine blk_drewN ?_ _ | refine blk_drew ?_ | refine blk_alloc ?_ _)); refine blk_put (cs := #[.int .i64 a3_0, .int .i64 a3_1, .int .i64 a3_2, .int .i64 0]) ?_ 3 _ rfl; (with_reducible repeat (first | refine blk_drewN ?_ _ | refine blk_drew ?_ | refine blk_alloc ?_ _)); refine blk_put (cs := #[.int .i64 a3_0, .int .i64 a3_1, .int .i64 0, .int .i64 0]) ?_ 2 _ rfl; (with_reducible repeat (first | refine blk_drewN ?_ _ | refine blk_drew ?_ | refine blk_alloc ?_ _)); refine blk_put (cs := #[.int .i64 a3_0, .int .i64 0, .int .i64 0, .int .i64 0]) ?_ 1 _ rfl; (with_reducible repeat (first | refine blk_drewN ?_ _ | refine blk_drew ?_ | refine blk_alloc ?_ _)); refine blk_put (cs := #[.int .i64 0, .int .i64 0, .int .i64 0, .int .i64 0]) ?_ 0 _ rfl; (with_reducible repeat (first | refine blk_drewN ?_ _ | refine blk_drew ?_ | refine blk_alloc ?_ _)); exact BK299.out) hb); have n2_ := Aside0.mk (below_step (by repeat (first | (with_reducible first | exact HB.out | apply below_alloc | apply pw_below_drewN | apply below_drew1 | refine below_set ?_ GE279.out | refine below_set ?_ GE299.out) | exact HB.out)) hb); clear BK279; clear BK299; clear HB; have BK279 := n0_; have BK299 := n1_; have HB := n2_; clear n0_ n1_ n2_; (try clear hb); (try clear hb2); (try clear hk); (try clear hi); have hcz96_0 : w95.cell? ⟨gb279, 0, none⟩ = some (.int .i64 a3_0) := (blk_cell BK279.out 0).trans rfl; have hcz96_1 : w95.cell? ⟨gb279, 1, none⟩ = some (.int .i64 a3_1) := (blk_cell BK279.out 1).trans rfl; have hcz96_2 : w95.cell? ⟨gb279, 2, none⟩ = some (.int .i64 a3_2) := (blk_cell BK279.out 2).trans rfl; have hcz96_3 : w95.cell? ⟨gb279, 3, none⟩ = some (.int .i64 a3_3) := (blk_cell BK279.out 3).trans rfl; have hfz96_0 := blk_frozen BK279.out 0; have hfz96_1 := blk_frozen BK279.out 1; have hfz96_2 := blk_frozen BK279.out 2; have hfz96_3 := blk_frozen BK279.out 3) | ((with_reducible refine gate_callee (f := 14) rfl ?_); refine goesL_ (some 83) rfl rfl Try.func14 (by kernel_rfl) rfl #[.agg #[.int .i64 a3_0, .int .i64 a3_1, .int .i64 a3_2, .int .i64 a3_3]] rfl (by (try simp only [List.map_toArray, List.map_cons, List.map_nil]); first | done | rfl | (simp only [List.length_drop, List.length_take]; rfl)) ?_; (with_reducible refine (stripe_Right.calls a3_0 a3_1 a3_2 a3_3 false _ A79.out).mono ?_); rintro e w97 ⟨rfl, hb⟩; refine ⟨_, rfl, ?_⟩; have n0_ := Aside0.mk (blk_below (g := gb279) (o := .cells #[.int .i64 a3_0, .int .i64 a3_1, .int .i64 a3_2, .int .i64 a3_3] 24 (0, 0)) (by (with_reducible repeat (first | refine blk_drewN ?_ _ | refine blk_drew ?_ | refine blk_alloc ?_ _)); exact BK279.out) hb); have n1_ := Aside0.mk (blk_below (g := gb299) (o := .cells #[.int .i64 a3_0, .int .i64 a3_1, .int .i64 a3_2, .int .i64 a3_3] 34 (0, 0)) (by (with_reducible repeat (first | refine blk_drewN ?_ _ | refine blk_drew ?_ | refine blk_alloc ?_ _)); exact BK299.out) hb); have n2_ := Aside0.mk (below_step (by repeat (first | (with_reducible first | exact HB.out | apply below_alloc | apply pw_below_drewN | apply below_drew1 | refine below_set ?_ GE279.out | refine below_set ?_ GE299.out) | exact HB.out)) hb); clear BK279; clear BK299; clear HB; have BK279 := n0_; have BK299 := n1_; have HB := n2_; clear n0_ n1_ n2_; (try clear hb); (try clear hb2); (try clear hk); (try clear hi); have hcz98_0 : w97.cell? ⟨gb279, 0, none⟩ = some (.int .i64 a3_0) := (blk_cell BK279.out 0).trans rfl; have hcz98_1 : w97.cell? ⟨gb279, 1, none⟩ = some (.int .i64 a3_1) := (blk_cell BK279.out 1).trans rfl; have hcz98_2 : w97.cell? ⟨gb279, 2, none⟩ = some (.int .i64 a3_2) := (blk_cell BK279.out 2).trans rfl; have hcz98_3 : w97.cell? ⟨gb279, 3, none⟩ = some (.int .i64 a3_3) := (blk_cell BK279.out 3).trans rfl; have hfz98_0 := blk_frozen BK279.out 0; have hfz98_1 := blk_frozen BK279.out 1; have hfz98_2 := blk_frozen BK279.out 2; have hfz98_3 := blk_frozen BK279.out 3) | (go_at_call 15; (with_reducible refine (stripe_Long.calls a3_0 a3_1 a3_2 a3_3 t302 _ A88.out).mono ?_); rintro e w99 ⟨rfl, hb⟩; have n0_ := Aside0.mk (blk_below (g := gb279) (o := .cells #[.int .i64 a3_0, .int .i64 a3_1, .int .i64 a3_2, .int .i64 a3_3] 24 (0, 0)) (by (with_reducible repeat (first | refine blk_drewN ?_ _ | refine blk_drew ?_ | refine blk_alloc ?_ _)); exact BK279.out) hb); have n1_ := Aside0.mk (blk_below (g := gb299) (o := .cells #[.int .i64 a3_0, .int .i64 a3_1, .int .i64 a3_2, .int .i64 a3_3] 34 (0, 0)) (by (with_reducible repeat (first | refine blk_drewN ?_ _ | refine blk_drew ?_ | refine blk_alloc ?_ _)); exact BK299.out) hb); have n2_ := Aside0.mk (below_step (by repeat (first | (with_reducible first | exact HB.out | apply below_alloc | apply pw_below_drewN | apply below_drew1 | refine below_set ?_ GE279.out | refine below_set ?_ GE299.out) | exact HB.out)) hb); clear BK279; clear BK299; clear HB; have BK279 := n0_; have BK299 := n1_; have HB := n2_; clear n0_ n1_ n2_; (try clear hb); (try clear hb2); (try clear hk); (try clear hi); have hcz100_0 : w99.cell? ⟨gb279, 0, none⟩ = some (.int .i64 a3_0) := (blk_cell BK279.out 0).trans rfl; have hcz100_1 : w99.cell? ⟨gb279, 1, none⟩ = some (.int .i64 a3_1) := (blk_cell BK279.out 1).trans rfl; have hcz100_2 : w99.cell? ⟨gb279, 2, none⟩ = some (.int .i64 a3_2) := (blk_cell BK279.out 2).trans rfl; have hcz100_3 : w99.cell? ⟨gb279, 3, none⟩ = some (.int .i64 a3_3) := (blk_cell BK279.out 3).trans rfl; have hfz100_0 := blk_frozen BK279.out 0; have hfz100_1 := blk_frozen BK279.out 1; have hfz100_2 := blk_frozen BK279.out 2; have hfz100_3 := blk_frozen BK279.out 3) | (go_at_call 16; (with_reducible refine (stripe_Blocks.calls a3_0 a3_1 a3_2 a3_3 t303 _ A90.out).mono ?_); rintro e w101 ⟨rfl, hb⟩; have n0_ := Aside0.mk (blk_below (g := gb279) (o := .cells #[.int .i64 a3_0, .int .i64 a3_1, .int .i64 a3_2, .int .i64 a3_3] 24 (0, 0)) (by (with_reducible repeat (first | refine blk_drewN ?_ _ | refine blk_drew ?_ | refine blk_alloc ?_ _)); exact BK279.out) hb); have n1_ := Aside0.mk (blk_below (g := gb299) (o := .cells #[.int .i64 a3_0, .int .i64 a3_1, .int .i64 a3_2, .int .i64 a3_3] 34 (0, 0)) (by (with_reducible repeat (first | refine blk_drewN ?_ _ | refine blk_drew ?_ | refine blk_alloc ?_ _)); exact BK299.out) hb); have n2_ := Aside0.mk (below_step (by repeat (first | (with_reducible first | exact HB.out | apply below_alloc | apply pw_below_drewN | apply below_drew1 | refine below_set ?_ GE279.out | refine below_set ?_ GE299.out) | exact HB.out)) hb); clear BK279; clear BK299; clear HB; have BK279 := n0_; have BK299 := n1_; have HB := n2_; clear n0_ n1_ n2_; (try clear hb); (try clear hb2); (try clear hk); (try clear hi)))
            go_ret
            exact ⟨by first | rfl | (simp [errW_none, errW_some] <;> rfl) | (simp [*, errW_none, errW_some] <;> rfl), by repeat (first | (with_reducible first | exact HB.out | apply below_alloc | apply pw_below_drewN | apply below_drew1 | refine below_set ?_ GE279.out | refine below_set ?_ GE299.out) | exact HB.out)⟩
           ·rw [if_neg c89] at H
            have c89b0 : (t302 == 0) = false := beq_eq_false_iff_ne.mpr c89
            have c89b1 : (t302 != 0) = true := bne_iff_ne.mpr c89
            obtain rfl := Option.some.inj H
            have hcz102_0 : wc.cell? ⟨gb279, 0, none⟩ = some (.int .i64 a3_0) := (blk_cell BK279.out 0).trans rfl
            have hcz102_1 : wc.cell? ⟨gb279, 1, none⟩ = some (.int .i64 a3_1) := (blk_cell BK279.out 1).trans rfl
            have hcz102_2 : wc.cell? ⟨gb279, 2, none⟩ = some (.int .i64 a3_2) := (blk_cell BK279.out 2).trans rfl
            have hcz102_3 : wc.cell? ⟨gb279, 3, none⟩ = some (.int .i64 a3_3) := (blk_cell BK279.out 3).trans rfl
            have hfz102_0 := blk_frozen BK279.out 0
            have hfz102_1 := blk_frozen BK279.out 1
            have hfz102_2 := blk_frozen BK279.out 2
            have hfz102_3 := blk_frozen BK279.out 3
            go_wp2_with (first | ((with_reducible refine gate_dst (N := 17) rfl ?_); (try (refine gate_guard (by rfl) ?_; dsimp only)); refine box_event ?hg (N := 17) ?hd (cs := #[.int .i64 0, .int .i64 0, .int .i64 0, .int .i64 0]) (t := 34) ?hr ?_; (case hd => rfl); (case hg => rfl); (case hr => first | (go_simp; done) | (go_simp; rfl)); intro gb299 hg w103 hbox hb; have n0_ := Aside0.mk (blk_below (g := gb279) (o := .cells #[.int .i64 a3_0, .int .i64 a3_1, .int .i64 a3_2, .int .i64 a3_3] 24 (0, 0)) (by (with_reducible repeat (first | refine blk_drewN ?_ _ | refine blk_drew ?_ | refine blk_alloc ?_ _)); exact BK279.out) hb); have n1_ := Aside0.mk (below_step (by repeat (first | (with_reducible first | exact HB.out | apply below_alloc | apply pw_below_drewN | apply below_drew1 | refine below_set ?_ GE279.out) | exact HB.out)) hb); have n2_ := Aside0.mk (hbox); have n3_ := Aside0.mk ((by rw [hg]; exact (below_size (by repeat (first | (with_reducible first | exact HB.out | apply below_alloc | apply pw_below_drewN | apply below_drew1 | refine below_set ?_ GE279.out) | exact HB.out))) : w.heap.size ≤ gb299)); have n4_ := Aside0.mk ((by rw [hg]; exact (below_size (by repeat (first | (with_reducible first | exact HB.out | apply below_alloc | apply pw_below_drewN | apply below_drew1 | refine below_set ?_ GE279.out) | exact HB.out))) : w.heap.size ≤ gb299)); have n5_ := Aside0.mk ((by rw [hg]; exact Nat.ne_of_lt (blk_lt (g := gb279) (o := .cells #[.int .i64 a3_0, .int .i64 a3_1, .int .i64 a3_2, .int .i64 a3_3] 24 (0, 0)) (by (with_reducible repeat (first | refine blk_drewN ?_ _ | refine blk_drew ?_ | refine blk_alloc ?_ _)); exact BK279.out)) : gb279 ≠ gb299)); have n6_ := Aside0.mk ((by rw [hg]; exact Nat.ne_of_gt (blk_lt (g := gb279) (o := .cells #[.int .i64 a3_0, .int .i64 a3_1, .int .i64 a3_2, .int .i64 a3_3] 24 (0, 0)) (by (with_reducible repeat (first | refine blk_drewN ?_ _ | refine blk_drew ?_ | refine blk_alloc ?_ _)); exact BK279.out)) : gb299 ≠ gb279)); clear BK279; clear HB; have BK279 := n0_; have HB := n1_; have BK299 := n2_; have GW299 := n3_; have GE299 := n4_; have NB279_299 := n5_; have NB299_279 := n6_; clear n0_ n1_ n2_ n3_ n4_ n5_ n6_; clear hb hbox hg; have hnb104 := NB299_279.out; have hnc104 := NB279_299.out; have hcz105_0 : w103.cell? ⟨gb299, 0, none⟩ = some (.int .i64 0) := (blk_cell BK299.out 0).trans rfl; have hcz105_1 : w103.cell? ⟨gb299, 1, none⟩ = some (.int .i64 0) := (blk_cell BK299.out 1).trans rfl; have hcz105_2 : w103.cell? ⟨gb299, 2, none⟩ = some (.int .i64 0) := (blk_cell BK299.out 2).trans rfl; have hcz105_3 : w103.cell? ⟨gb299, 3, none⟩ = some (.int .i64 0) := (blk_cell BK299.out 3).trans rfl; have hfz105_0 := blk_frozen BK299.out 0; have hfz105_1 := blk_frozen BK299.out 1; have hfz105_2 := blk_frozen BK299.out 2; have hfz105_3 := blk_frozen BK299.out 3) | ((with_reducible refine gate_callee (f := 13) rfl ?_); refine goesL_ (some 80) rfl rfl Try.func13 (by kernel_rfl) rfl #[.agg #[.int .i64 a3_0, .int .i64 a3_1, .int .i64 a3_2, .int .i64 a3_3]] rfl (by (try simp only [List.map_toArray, List.map_cons, List.map_nil]); first | done | rfl | (simp only [List.length_drop, List.length_take]; rfl)) ?_; (with_reducible refine (footlockerref23_Right.calls a3_0 a3_1 a3_2 a3_3 false _ A37.out).mono ?_); rintro e w106 ⟨rfl, hb⟩; refine ⟨_, rfl, ?_⟩; have n0_ := Aside0.mk (blk_below (g := gb279) (o := .cells #[.int .i64 a3_0, .int .i64 a3_1, .int .i64 a3_2, .int .i64 a3_3] 24 (0, 0)) (by (with_reducible repeat (first | refine blk_drewN ?_ _ | refine blk_drew ?_ | refine blk_alloc ?_ _)); refine blk_far ?_ NB279_299.out _; (with_reducible repeat (first | refine blk_drewN ?_ _ | refine blk_drew ?_ | refine blk_alloc ?_ _)); refine blk_far ?_ NB279_299.out _; (with_reducible repeat (first | refine blk_drewN ?_ _ | refine blk_drew ?_ | refine blk_alloc ?_ _)); refine blk_far ?_ NB279_299.out _; (with_reducible repeat (first | refine blk_drewN ?_ _ | refine blk_drew ?_ | refine blk_alloc ?_ _)); refine blk_far ?_ NB279_299.out _; (with_reducible repeat (first | refine blk_drewN ?_ _ | refine blk_drew ?_ | refine blk_alloc ?_ _)); exact BK279.out) hb); have n1_ := Aside0.mk (blk_below (g := gb299) (o := .cells #[.int .i64 a3_0, .int .i64 a3_1, .int .i64 a3_2, .int .i64 a3_3] 34 (0, 0)) (by (with_reducible repeat (first | refine blk_drewN ?_ _ | refine blk_drew ?_ | refine blk_alloc ?_ _)); refine blk_put (cs := #[.int .i64 a3_0, .int .i64 a3_1, .int .i64 a3_2, .int .i64 0]) ?_ 3 _ rfl; (with_reducible repeat (first | refine blk_drewN ?_ _ | refine blk_drew ?_ | refine blk_alloc ?_ _)); refine blk_put (cs := #[.int .i64 a3_0, .int .i64 a3_1, .int .i64 0, .int .i64 0]) ?_ 2 _ rfl; (with_reducible repeat (first | refine blk_drewN ?_ _ | refine blk_drew ?_ | refine blk_alloc ?_ _)); refine blk_put (cs := #[.int .i64 a3_0, .int .i64 0, .int .i64 0, .int .i64 0]) ?_ 1 _ rfl; (with_reducible repeat (first | refine blk_drewN ?_ _ | refine blk_drew ?_ | refine blk_alloc ?_ _)); refine blk_put (cs := #[.int .i64 0, .int .i64 0, .int .i64 0, .int .i64 0]) ?_ 0 _ rfl; (with_reducible repeat (first | refine blk_drewN ?_ _ | refine blk_drew ?_ | refine blk_alloc ?_ _)); exact BK299.out) hb); have n2_ := Aside0.mk (below_step (by repeat (first | (with_reducible first | exact HB.out | apply below_alloc | apply pw_below_drewN | apply below_drew1 | refine below_set ?_ GE279.out | refine below_set ?_ GE299.out) | exact HB.out)) hb); clear BK279; clear BK299; clear HB; have BK279 := n0_; have BK299 := n1_; have HB := n2_; clear n0_ n1_ n2_; (try clear hb); (try clear hb2); (try clear hk); (try clear hi); have hcz107_0 : w106.cell? ⟨gb279, 0, none⟩ = some (.int .i64 a3_0) := (blk_cell BK279.out 0).trans rfl; have hcz107_1 : w106.cell? ⟨gb279, 1, none⟩ = some (.int .i64 a3_1) := (blk_cell BK279.out 1).trans rfl; have hcz107_2 : w106.cell? ⟨gb279, 2, none⟩ = some (.int .i64 a3_2) := (blk_cell BK279.out 2).trans rfl; have hcz107_3 : w106.cell? ⟨gb279, 3, none⟩ = some (.int .i64 a3_3) := (blk_cell BK279.out 3).trans rfl; have hfz107_0 := blk_frozen BK279.out 0; have hfz107_1 := blk_frozen BK279.out 1; have hfz107_2 := blk_frozen BK279.out 2; have hfz107_3 := blk_frozen BK279.out 3) | ((with_reducible refine gate_callee (f := 14) rfl ?_); refine goesL_ (some 83) rfl rfl Try.func14 (by kernel_rfl) rfl #[.agg #[.int .i64 a3_0, .int .i64 a3_1, .int .i64 a3_2, .int .i64 a3_3]] rfl (by (try simp only [List.map_toArray, List.map_cons, List.map_nil]); first | done | rfl | (simp only [List.length_drop, List.length_take]; rfl)) ?_; (with_reducible refine (stripe_Right.calls a3_0 a3_1 a3_2 a3_3 false _ A79.out).mono ?_); rintro e w108 ⟨rfl, hb⟩; refine ⟨_, rfl, ?_⟩; have n0_ := Aside0.mk (blk_below (g := gb279) (o := .cells #[.int .i64 a3_0, .int .i64 a3_1, .int .i64 a3_2, .int .i64 a3_3] 24 (0, 0)) (by (with_reducible repeat (first | refine blk_drewN ?_ _ | refine blk_drew ?_ | refine blk_alloc ?_ _)); exact BK279.out) hb); have n1_ := Aside0.mk (blk_below (g := gb299) (o := .cells #[.int .i64 a3_0, .int .i64 a3_1, .int .i64 a3_2, .int .i64 a3_3] 34 (0, 0)) (by (with_reducible repeat (first | refine blk_drewN ?_ _ | refine blk_drew ?_ | refine blk_alloc ?_ _)); exact BK299.out) hb); have n2_ := Aside0.mk (below_step (by repeat (first | (with_reducible first | exact HB.out | apply below_alloc | apply pw_below_drewN | apply below_drew1 | refine below_set ?_ GE279.out | refine below_set ?_ GE299.out) | exact HB.out)) hb); clear BK279; clear BK299; clear HB; have BK279 := n0_; have BK299 := n1_; have HB := n2_; clear n0_ n1_ n2_; (try clear hb); (try clear hb2); (try clear hk); (try clear hi); have hcz109_0 : w108.cell? ⟨gb279, 0, none⟩ = some (.int .i64 a3_0) := (blk_cell BK279.out 0).trans rfl; have hcz109_1 : w108.cell? ⟨gb279, 1, none⟩ = some (.int .i64 a3_1) := (blk_cell BK279.out 1).trans rfl; have hcz109_2 : w108.cell? ⟨gb279, 2, none⟩ = some (.int .i64 a3_2) := (blk_cell BK279.out 2).trans rfl; have hcz109_3 : w108.cell? ⟨gb279, 3, none⟩ = some (.int .i64 a3_3) := (blk_cell BK279.out 3).trans rfl; have hfz109_0 := blk_frozen BK279.out 0; have hfz109_1 := blk_frozen BK279.out 1; have hfz109_2 := blk_frozen BK279.out 2; have hfz109_3 := blk_frozen BK279.out 3) | (go_at_call 15; (with_reducible refine (stripe_Long.calls a3_0 a3_1 a3_2 a3_3 t302 _ A88.out).mono ?_); rintro e w110 ⟨rfl, hb⟩; have n0_ := Aside0.mk (blk_below (g := gb279) (o := .cells #[.int .i64 a3_0, .int .i64 a3_1, .int .i64 a3_2, .int .i64 a3_3] 24 (0, 0)) (by (with_reducible repeat (first | refine blk_drewN ?_ _ | refine blk_drew ?_ | refine blk_alloc ?_ _)); exact BK279.out) hb); have n1_ := Aside0.mk (blk_below (g := gb299) (o := .cells #[.int .i64 a3_0, .int .i64 a3_1, .int .i64 a3_2, .int .i64 a3_3] 34 (0, 0)) (by (with_reducible repeat (first | refine blk_drewN ?_ _ | refine blk_drew ?_ | refine blk_alloc ?_ _)); exact BK299.out) hb); have n2_ := Aside0.mk (below_step (by repeat (first | (with_reducible first | exact HB.out | apply below_alloc | apply pw_below_drewN | apply below_drew1 | refine below_set ?_ GE279.out | refine below_set ?_ GE299.out) | exact HB.out)) hb); clear BK279; clear BK299; clear HB; have BK279 := n0_; have BK299 := n1_; have HB := n2_; clear n0_ n1_ n2_; (try clear hb); (try clear hb2); (try clear hk); (try clear hi)))
            go_ret
            exact ⟨by first | rfl | (simp [errW_none, errW_some] <;> rfl) | (simp [*, errW_none, errW_some] <;> rfl), by repeat (first | (with_reducible first | exact HB.out | apply below_alloc | apply pw_below_drewN | apply below_drew1 | refine below_set ?_ GE279.out | refine below_set ?_ GE299.out) | exact HB.out)⟩
 ·replace c6 := Bool.eq_false_iff.mpr c6
  subst c6
  have H1 : (some false) = some r := by rw [if_neg (show ¬ (false = true) by decide)] at H; exact H
  clear H
  have H := H1
  clear H1
  obtain rfl := Option.some.inj H
  go_enter Try.func3, Try.ntmps3
  go_wp2_with (first | ((with_reducible refine gate_dst (N := 7) rfl ?_); (try (refine gate_guard (by rfl) ?_; dsimp only)); refine box_event ?hg (N := 7) ?hd (cs := #[.int .i64 a3_0, .int .i64 a3_1, .int .i64 a3_2, .int .i64 a3_3]) (t := 24) ?hr ?_; (case hd => rfl); (case hg => rfl); (case hr => first | (go_simp; done) | (go_simp; rfl)); intro gb279 hg w111 hbox hb; have n0_ := Aside0.mk (below_step (by repeat (first | (with_reducible first | exact HB.out | apply below_alloc | apply pw_below_drewN | apply below_drew1) | exact HB.out)) hb); have n1_ := Aside0.mk (hbox); have n2_ := Aside0.mk ((by rw [hg]; exact (below_size (by repeat (first | (with_reducible first | exact HB.out | apply below_alloc | apply pw_below_drewN | apply below_drew1) | exact HB.out))) : w.heap.size ≤ gb279)); have n3_ := Aside0.mk ((by rw [hg]; exact (below_size (by repeat (first | (with_reducible first | exact HB.out | apply below_alloc | apply pw_below_drewN | apply below_drew1) | exact HB.out))) : w.heap.size ≤ gb279)); clear HB; have HB := n0_; have BK279 := n1_; have GW279 := n2_; have GE279 := n3_; clear n0_ n1_ n2_ n3_; clear hb hbox hg) | ((with_reducible refine gate_callee (f := 7) rfl ?_); refine goesL_ (some 18) rfl rfl Try.func7 (by kernel_rfl) rfl #[] rfl (by (try simp only [List.map_toArray, List.map_cons, List.map_nil]); first | done | rfl | (simp only [List.length_drop, List.length_take]; rfl)) ?_; (with_reducible refine (footlockerlaw23_alive.calls k  false _ A5.out).mono ?_); rintro e w112 ⟨rfl, hb⟩; refine ⟨_, rfl, ?_⟩; have n0_ := Aside0.mk (blk_below (g := gb279) (o := .cells #[.int .i64 a3_0, .int .i64 a3_1, .int .i64 a3_2, .int .i64 a3_3] 24 (0, 0)) (by (with_reducible repeat (first | refine blk_drewN ?_ _ | refine blk_drew ?_ | refine blk_alloc ?_ _)); exact BK279.out) hb); have n1_ := Aside0.mk (below_step (by repeat (first | (with_reducible first | exact HB.out | apply below_alloc | apply pw_below_drewN | apply below_drew1 | refine below_set ?_ GE279.out) | exact HB.out)) hb); clear BK279; clear HB; have BK279 := n0_; have HB := n1_; clear n0_ n1_; (try clear hb); (try clear hb2); (try clear hk); (try clear hi)))
  go_ret
  exact ⟨by first | rfl | (simp [errW_none, errW_some] <;> rfl) | (simp [*, errW_none, errW_some] <;> rfl), by repeat (first | (with_reducible first | exact HB.out | apply below_alloc | apply pw_below_drewN | apply below_drew1 | refine below_set ?_ GE279.out) | exact HB.out)⟩
def footlockerlaw23_StripeColumns.Pure : Prop := ∀ (l0 : List Int) (a1 : Int) (l2 : List Int) (a3_0 : Int) (a3_1 : Int) (a3_2 : Int) (a3_3 : Int), (l0.length ≤ maxLen ∧ ∀ x2_ ∈ l0, (Lit.int .u8 x2_).wf = true) → ((Lit.int .i64 a1).wf = true) → (l2.length ≤ maxLen ∧ ∀ x2_ ∈ l2, (Lit.int .u8 x2_).wf = true) → ((Lit.int .i64 a3_0).wf = true ∧ (Lit.int .i64 a3_1).wf = true ∧ (Lit.int .i64 a3_2).wf = true ∧ (Lit.int .i64 a3_3).wf = true) → ∃ k, footlockerlaw23_StripeColumns.f k l0 a1 l2 a3_0 a3_1 a3_2 a3_3 = some true
theorem footlockerlaw23_StripeColumns.walk (P : footlockerlaw23_StripeColumns.Pure) (A0 : Option Addr) (c0 : Nat) (l0 : List Int) (a1 : Int) (A2 : Option Addr) (c2 : Nat) (l2 : List Int) (a3_0 : Int) (a3_1 : Int) (a3_2 : Int) (a3_3 : Int) (w : World) (hr0 : Kd.C (Kd.int .u8) w A0 l0.length l0) (hc0 : l0.length ≤ c0) (w0 : l0.length ≤ maxLen ∧ ∀ x2_ ∈ l0, (Lit.int .u8 x2_).wf = true) (w1 : (Lit.int .i64 a1).wf = true) (hr2 : Kd.C (Kd.int .u8) w A2 l2.length l2) (hc2 : l2.length ≤ c2) (w2 : l2.length ≤ maxLen ∧ ∀ x2_ ∈ l2, (Lit.int .u8 x2_).wf = true) (w3 : (Lit.int .i64 a3_0).wf = true ∧ (Lit.int .i64 a3_1).wf = true ∧ (Lit.int .i64 a3_2).wf = true ∧ (Lit.int .i64 a3_3).wf = true) :
 Calls Try.prog 3 #[.slice A0 l0.length c0, .int .i64 a1, .slice A2 l2.length c2, .agg #[.int .i64 a3_0, .int .i64 a3_1, .int .i64 a3_2, .int .i64 a3_3]] w fun e w' => e = .returned (.bool true) ∧ Below w.heap.size w w' := by
 obtain ⟨k, h⟩ := P l0 a1 l2 a3_0 a3_1 a3_2 a3_3 w0 w1 w2 w3
 refine (footlockerlaw23_StripeColumns.calls k A0 c0 l0 a1 A2 c2 l2 a3_0 a3_1 a3_2 a3_3 true w hr0 hc0 hr2 hc2 h).mono ?_
 rintro e w' ⟨rfl, hd⟩
 exact ⟨rfl, hd⟩
end Go.Proofs.Ytcdmgppjhdpgkaa.P
namespace Go.Proofs.Ytcdmgppjhdpgkaa.Al
open Go Go.Proofs.YtcdmgppjhdpgkaaW.PrintWords Go.Proofs.YtcdmgppjhdpgkaaW.PrintMore
structure G where
 v : BitVec 8
theorem G.eq_of {a b : G} (h : a.v = b.v) : a = b := by cases a; cases b; simp_all
instance : DecidableEq G := fun a b => if h : a.v = b.v then .isTrue (G.eq_of h) else .isFalse (fun e => h (by rw [e]))
instance : Zero G := ⟨⟨0#8⟩⟩
instance : Add G := ⟨fun a b => ⟨a.v ^^^ b.v⟩⟩
def xt (a : BitVec 8) : BitVec 8 := (a <<< 1) ^^^ (if a.getLsbD 7 then 0x1D#8 else 0#8)
def cb (c : Bool) (a : BitVec 8) : BitVec 8 := if c then a else 0#8
def gm (a b : BitVec 8) : BitVec 8 :=
 cb (b.getLsbD 0) a ^^^ (cb (b.getLsbD 1) (xt a) ^^^ (cb (b.getLsbD 2) (xt (xt a)) ^^^ (cb (b.getLsbD 3) (xt (xt (xt a))) ^^^ (cb (b.getLsbD 4) (xt (xt (xt (xt a)))) ^^^
  (cb (b.getLsbD 5) (xt (xt (xt (xt (xt a))))) ^^^ (cb (b.getLsbD 6) (xt (xt (xt (xt (xt (xt a)))))) ^^^ cb (b.getLsbD 7) (xt (xt (xt (xt (xt (xt (xt a)))))))))))))
instance : One G := ⟨⟨1#8⟩⟩
instance : Mul G := ⟨fun a b => ⟨gm a.v b.v⟩⟩
theorem zero_v : (0 : G).v = 0#8 := rfl
theorem add_v (a b : G) : (a + b).v = a.v ^^^ b.v := rfl
theorem cb_xor (c d : Bool) (a : BitVec 8) : cb (c ^^ d) a = cb c a ^^^ cb d a := by
 cases c <;> cases d <;> simp [cb]
theorem cb_add (c : Bool) (a b : BitVec 8) : cb c (a ^^^ b) = cb c a ^^^ cb c b := by
 cases c <;> simp [cb]
theorem xt_add (a b : BitVec 8) : xt (a ^^^ b) = xt a ^^^ xt b := by
 unfold xt
 have h : (a ^^^ b).getLsbD 7 = (a.getLsbD 7 ^^ b.getLsbD 7) := by simp
 have e : ∀ c : Bool, (if c then 0x1D#8 else 0#8) = cb c 0x1D#8 := fun _ => rfl
 rw [h, e, e, e, cb_xor, BitVec.shiftLeft_xor_distrib]
 ac_rfl
theorem gm_xor_right (a b c : BitVec 8) : gm a (b ^^^ c) = gm a b ^^^ gm a c := by
 unfold gm
 simp only [BitVec.getLsbD_xor, cb_xor]
 ac_rfl
theorem gm_xor_left (a b c : BitVec 8) : gm (a ^^^ b) c = gm a c ^^^ gm b c := by
 unfold gm
 simp only [xt_add, cb_add]
 ac_rfl
theorem sum_bits : ∀ a : Fin 256, (BitVec.ofFin a : BitVec 8) = cb ((BitVec.ofFin a : BitVec 8).getLsbD 0) 1#8 ^^^ (cb ((BitVec.ofFin a : BitVec 8).getLsbD 1) 2#8 ^^^ (cb ((BitVec.ofFin a : BitVec 8).getLsbD 2) 4#8 ^^^ (cb ((BitVec.ofFin a : BitVec 8).getLsbD 3) 8#8 ^^^ (cb ((BitVec.ofFin a : BitVec 8).getLsbD 4) 16#8 ^^^
 (cb ((BitVec.ofFin a : BitVec 8).getLsbD 5) 32#8 ^^^ (cb ((BitVec.ofFin a : BitVec 8).getLsbD 6) 64#8 ^^^ cb ((BitVec.ofFin a : BitVec 8).getLsbD 7) 128#8)))))) := by decide +kernel
theorem basis_ind (P : BitVec 8 → Prop) (h0 : P 0#8) (ha : ∀ a b, P a → P b → P (a ^^^ b)) (hb : ∀ i : Fin 8, P (1#8 <<< i.val)) (a : BitVec 8) : P a := by
 have hc : ∀ (c : Bool) (x : BitVec 8), P x → P (cb c x) := by
  intro c x hx
  cases c
  ·exact h0
  ·exact hx
 have h := sum_bits a.toFin
 rw [show (BitVec.ofFin a.toFin : BitVec 8) = a from rfl] at h
 rw [h]
 exact ha _ _ (hc _ _ (hb 0)) (ha _ _ (hc _ _ (hb 1)) (ha _ _ (hc _ _ (hb 2)) (ha _ _ (hc _ _ (hb 3)) (ha _ _ (hc _ _ (hb 4)) (ha _ _ (hc _ _ (hb 5)) (ha _ _ (hc _ _ (hb 6)) (hc _ _ (hb 7))))))))
theorem gm_zero_right (a : BitVec 8) : gm a 0#8 = 0#8 := by simp [gm, cb]
theorem gm_zero_left (a : BitVec 8) : gm 0#8 a = 0#8 := by
 have h : xt 0#8 = 0#8 := rfl
 have e : ∀ c, cb c 0#8 = 0#8 := by intro c; cases c <;> rfl
 simp [gm, h, e]
theorem comm_basis : ∀ i j : Fin 8, gm (1#8 <<< i.val) (1#8 <<< j.val) = gm (1#8 <<< j.val) (1#8 <<< i.val) := by decide +kernel
theorem assoc_basis : ∀ i j k : Fin 8, gm (gm (1#8 <<< i.val) (1#8 <<< j.val)) (1#8 <<< k.val) = gm (1#8 <<< i.val) (gm (1#8 <<< j.val) (1#8 <<< k.val)) := by decide +kernel
theorem gm_comm (a b : BitVec 8) : gm a b = gm b a := by
 refine basis_ind (fun a => gm a b = gm b a) ?_ ?_ ?_ a
 ·rw [gm_zero_left, gm_zero_right]
 ·intro x y hx hy
  rw [gm_xor_left, gm_xor_right, hx, hy]
 ·intro i
  refine basis_ind (fun b => gm (1#8 <<< i.val) b = gm b (1#8 <<< i.val)) ?_ ?_ ?_ b
  ·rw [gm_zero_left, gm_zero_right]
  ·intro x y hx hy
   rw [gm_xor_left, gm_xor_right, hx, hy]
  ·exact fun j => comm_basis i j
theorem gm_assoc (a b c : BitVec 8) : gm (gm a b) c = gm a (gm b c) := by
 refine basis_ind (fun a => gm (gm a b) c = gm a (gm b c)) ?_ ?_ ?_ a
 ·simp only [gm_zero_left]
 ·intro x y hx hy
  simp only [gm_xor_left, hx, hy]
 ·intro i
  refine basis_ind (fun b => gm (gm (1#8 <<< i.val) b) c = gm (1#8 <<< i.val) (gm b c)) ?_ ?_ ?_ b
  ·simp only [gm_zero_left, gm_zero_right]
  ·intro x y hx hy
   simp only [gm_xor_left, gm_xor_right, hx, hy]
  ·intro j
   refine basis_ind (fun c => gm (gm (1#8 <<< i.val) (1#8 <<< j.val)) c = gm (1#8 <<< i.val) (gm (1#8 <<< j.val) c)) ?_ ?_ ?_ c
   ·simp only [gm_zero_right]
   ·intro x y hx hy
    simp only [gm_xor_right, hx, hy]
   ·exact fun k => assoc_basis i j k
theorem gm_one (a : BitVec 8) : gm a 1#8 = a := by
 have : ∀ a : Fin 256, gm (BitVec.ofFin a) 1#8 = BitVec.ofFin a := by decide +kernel
 exact this a.toFin
theorem add_comm (a b : G) : a + b = b + a := G.eq_of (BitVec.xor_comm _ _)
theorem add_assoc (a b c : G) : a + b + c = a + (b + c) := G.eq_of (BitVec.xor_assoc _ _ _)
theorem add_zero (a : G) : a + 0 = a := G.eq_of (by simp [add_v, zero_v])
theorem zero_add (a : G) : 0 + a = a := by rw [add_comm, add_zero]
theorem add_self (a : G) : a + a = 0 := G.eq_of (by simp [add_v, zero_v])
theorem mul_comm (a b : G) : a * b = b * a := G.eq_of (gm_comm _ _)
theorem mul_assoc (a b c : G) : a * b * c = a * (b * c) := G.eq_of (gm_assoc _ _ _)
theorem mul_add (a b c : G) : a * (b + c) = a * b + a * c := G.eq_of (gm_xor_right _ _ _)
theorem add_mul (a b c : G) : (a + b) * c = a * c + b * c := G.eq_of (gm_xor_left _ _ _)
theorem mul_zero (a : G) : a * 0 = 0 := G.eq_of (gm_zero_right _)
theorem zero_mul (a : G) : 0 * a = 0 := G.eq_of (gm_zero_left _)
theorem mul_one (a : G) : a * 1 = a := G.eq_of (gm_one _)
theorem one_mul (a : G) : 1 * a = a := by rw [mul_comm, mul_one]
def p254 (a : G) : G :=
 let b := a * a
 let c := b * b
 let d := c * c
 let e := d * d
 let f := e * e
 let g := f * f
 let h := g * g
 b * c * d * e * f * g * h
instance : Std.Commutative (α := G) (· + ·) := ⟨add_comm⟩
instance : Std.Associative (α := G) (· + ·) := ⟨add_assoc⟩
instance : Std.Commutative (α := G) (· * ·) := ⟨mul_comm⟩
instance : Std.Associative (α := G) (· * ·) := ⟨mul_assoc⟩
theorem inv_all : ∀ a : Fin 256, a.val ≠ 0 → (⟨BitVec.ofFin a⟩ : G) * p254 ⟨BitVec.ofFin a⟩ = 1 := by decide +kernel
def inv (a : G) : G := p254 a
theorem mul_inv {a : G} (h : a ≠ 0) : a * inv a = 1 := by
 have := inv_all a.v.toFin (by
  intro e
  apply h
  apply G.eq_of
  exact BitVec.eq_of_toNat_eq e)
 exact this
theorem inv_mul {a : G} (h : a ≠ 0) : inv a * a = 1 := by rw [mul_comm, mul_inv h]
theorem mul_eq_zero {a b : G} : a * b = 0 ↔ a = 0 ∨ b = 0 := by
 constructor
 ·intro h
  by_cases ha : a = 0
  ·exact .inl ha
  ·right
   have := congrArg (inv a * ·) h
   simp only [← mul_assoc, inv_mul ha, one_mul, mul_zero] at this
   exact this
 ·rintro (rfl | rfl)
  ·exact zero_mul _
  ·exact mul_zero _
theorem mul_ne_zero {a b : G} (ha : a ≠ 0) (hb : b ≠ 0) : a * b ≠ 0 := fun h => (mul_eq_zero.1 h).elim ha hb
def G.i (a : G) : Int := (a.v.toNat : Int)
def G.of (x : Int) : G := ⟨BitVec.ofInt 8 x⟩
theorem i_nonneg (a : G) : 0 ≤ a.i := by unfold G.i; omega
theorem i_lt (a : G) : a.i < 256 := by unfold G.i; have := a.v.isLt; omega
theorem i_inj {a b : G} : a.i = b.i ↔ a = b := by
 constructor
 ·intro h
  apply G.eq_of
  apply BitVec.eq_of_toNat_eq
  unfold G.i at h
  omega
 ·rintro rfl
  rfl
theorem i_of {x : Int} (h0 : 0 ≤ x) (h1 : x < 256) : (G.of x).i = x := by
 simp only [G.of, G.i, BitVec.toNat_ofInt]
 omega
theorem i_zero : (0 : G).i = 0 := rfl
theorem i_eq_zero {a : G} : a.i = 0 ↔ a = 0 := by rw [← i_zero, i_inj]
end Go.Proofs.Ytcdmgppjhdpgkaa.Al
namespace Go.Proofs.Ytcdmgppjhdpgkaa.Al
set_option linter.unusedVariables false
set_option linter.unusedSimpArgs false
def co (p : List G) (i : Nat) : G := p.getD i 0
theorem co_nil (i : Nat) : co [] i = 0 := rfl
theorem co_zero (a : G) (p : List G) : co (a :: p) 0 = a := rfl
theorem co_succ (a : G) (p : List G) (i : Nat) : co (a :: p) (i + 1) = co p i := rfl
theorem co_lt {p : List G} {i : Nat} (h : i < p.length) : co p i = p[i] := by
 simp [co, List.getD_eq_getElem?_getD, List.getElem?_eq_getElem h]
def tab (n : Nat) (f : Nat → G) : List G := (List.range n).map f
def zadd : List G → List G → List G
 | [], q => q
 | p, [] => p
 | a :: p, b :: q => (a + b) :: zadd p q
theorem co_zadd (p q : List G) (i : Nat) : co (zadd p q) i = co p i + co q i := by
 induction p generalizing q i with
 | nil => rw [zadd, co_nil, zero_add]
 | cons a p ih =>
  cases q with
  | nil => rw [zadd, co_nil, add_zero]; intro h; cases h
  | cons b q =>
   cases i with
   | zero => rfl
   | succ i => rw [zadd, co_succ, co_succ, co_succ, ih]
def scale (c : G) (p : List G) : List G := p.map (c * ·)
theorem co_scale (c : G) (p : List G) (i : Nat) : co (scale c p) i = c * co p i := by
 induction p generalizing i with
 | nil => rw [scale, List.map_nil, co_nil, mul_zero]
 | cons a p ih =>
  cases i with
  | zero => rfl
  | succ i => exact ih i
def sum (f : Nat → G) : Nat → G
 | 0 => 0
 | n + 1 => sum f n + f n
theorem sum_zero (f : Nat → G) : sum f 0 = 0 := rfl
theorem sum_succ (f : Nat → G) (n : Nat) : sum f (n + 1) = sum f n + f n := rfl
theorem sum_congr {f g : Nat → G} {n : Nat} (h : ∀ i, i < n → f i = g i) : sum f n = sum g n := by
 induction n with
 | zero => rfl
 | succ n ih => rw [sum_succ, sum_succ, ih (fun i hi => h i (by omega)), h n (by omega)]
theorem sum_add (f g : Nat → G) (n : Nat) : sum (fun i => f i + g i) n = sum f n + sum g n := by
 induction n with
 | zero => rw [sum_zero, sum_zero, sum_zero, add_zero]
 | succ n ih =>
  simp only [sum_succ, ih]
  ac_rfl
theorem sum_mul (c : G) (f : Nat → G) (n : Nat) : sum (fun i => c * f i) n = c * sum f n := by
 induction n with
 | zero => rw [sum_zero, sum_zero, mul_zero]
 | succ n ih => rw [sum_succ, sum_succ, ih, mul_add]
theorem sum_eq_zero {f : Nat → G} {n : Nat} (h : ∀ i, i < n → f i = 0) : sum f n = 0 := by
 induction n with
 | zero => rfl
 | succ n ih => rw [sum_succ, ih (fun i hi => h i (by omega)), h n (by omega), add_zero]
theorem sum_single {f : Nat → G} {n k : Nat} (hk : k < n) (h : ∀ i, i < n → i ≠ k → f i = 0) : sum f n = f k := by
 induction n with
 | zero => omega
 | succ n ih =>
  rw [sum_succ]
  by_cases e : k = n
  ·subst e
   rw [sum_eq_zero (fun i hi => h i (by omega) (by omega)), zero_add]
  ·rw [ih (by omega) (fun i hi hne => h i (by omega) hne), h n (by omega) (by omega), add_zero]
end Go.Proofs.Ytcdmgppjhdpgkaa.Al
namespace Go.Proofs.Ytcdmgppjhdpgkaa.Al
open Go Go.RowKit Go.Proofs.YtcdmgppjhdpgkaaW.PrintWords Go.Proofs.YtcdmgppjhdpgkaaW.PrintMore Go.Proofs.Ytcdmgppjhdpgkaa.P
set_option linter.unusedVariables false
set_option linter.unusedSimpArgs false
theorem Ev.pos {α : Type} {c : Prop} [Decidable c] {A B : Nat → Option α} {r : α} (h : c) (hA : Ev A r) : Ev (fun k => if c then A k else B k) r := by
 simp only [if_pos h]; exact hA
theorem Ev.neg {α : Type} {c : Prop} [Decidable c] {A B : Nat → Option α} {r : α} (h : ¬ c) (hB : Ev B r) : Ev (fun k => if c then A k else B k) r := by
 simp only [if_neg h]; exact hB
theorem evc {α : Type} {g : Nat → Option α} {r r' : α} (h : Ev g r) (e : r = r') : Ev g r' := e ▸ h
theorem Ev.somef {α β : Type} {f : Nat → α → Option β} {a : α} {r : β} (h : Ev (fun k => f k a) r) : Ev (fun k => (some a).bind (f k)) r := h
theorem wrap_sm {x : Int} (h0 : -9223372036854775808 ≤ x) (h1 : x ≤ 9223372036854775807) : wrap64 x = x := by unfold wrap64; omega
end Go.Proofs.Ytcdmgppjhdpgkaa.Al
namespace Go.Proofs.Ytcdmgppjhdpgkaa.Al
open Go Go.RowKit Go.Proofs.YtcdmgppjhdpgkaaW.PrintWords Go.Proofs.YtcdmgppjhdpgkaaW.PrintMore Go.Proofs.Ytcdmgppjhdpgkaa.P
set_option linter.unusedVariables false
set_option linter.unusedSimpArgs false
def bs (p : List G) : List Int := p.map G.i
theorem bs_length (p : List G) : (bs p).length = p.length := List.length_map _
theorem bs_cons (a : G) (p : List G) : bs (a :: p) = a.i :: bs p := rfl
theorem bs_take (p : List G) (n : Nat) : (bs p).take n = bs (p.take n) := List.map_take.symm
theorem bs_drop (p : List G) (n : Nat) : (bs p).drop n = bs (p.drop n) := List.map_drop.symm
theorem rd_bs (p : List G) (n : Nat) : rd (bs p) (n : Int) = (co p n).i := by
 simp only [rd, bs, Int.toNat_natCast, co, List.getD_eq_getElem?_getD, List.getElem?_map]
 cases p[n]? <;> rfl
theorem of_bytes : ∀ l : List Int, (∀ x ∈ l, 0 ≤ x ∧ x < 256) → ∃ p, l = bs p := by
 intro l
 induction l with
 | nil => intro _; exact ⟨[], rfl⟩
 | cons a l ih =>
  intro h
  obtain ⟨p, rfl⟩ := ih (fun x hx => h x (List.mem_cons_of_mem _ hx))
  have ha := h a List.mem_cons_self
  exact ⟨G.of a :: p, by rw [bs_cons, i_of ha.1 ha.2]⟩
theorem wrap_succ {n : Nat} (h : n < 4611686018427387904) : wrap64 ((n : Int) + 1) = ((n + 1 : Nat) : Int) := by
 rw [wrap_sm (by omega) (by omega)]; omega
theorem clone_some (l : List Int) (h : l.length < 1000000000000) : slices_Clone_byte_byte.f l = some l := by
 unfold slices_Clone_byte_byte.f
 rw [if_pos (by omega)]
end Go.Proofs.Ytcdmgppjhdpgkaa.Al
namespace Go.Proofs.Ytcdmgppjhdpgkaa.Al
open Go Go.RowKit Go.Proofs.YtcdmgppjhdpgkaaW.PrintWords Go.Proofs.YtcdmgppjhdpgkaaW.PrintMore Go.Proofs.Ytcdmgppjhdpgkaa.P
set_option linter.unusedVariables false
set_option linter.unusedSimpArgs false
theorem rd_drop {l : List Int} {n : Nat} (h : n < l.length) : l.drop n = rd l (n : Int) :: l.drop (n + 1) := by
 rw [List.drop_eq_getElem_cons h]
 simp [rd, List.getD_eq_getElem?_getD, List.getElem?_eq_getElem h]
theorem same_l0 (a b : List Int) (hl : a.length = b.length) (ha : a.length < 1000000000000) (d : Nat) : ∀ n : Nat, n + d = a.length → Ev (fun k => footlockerref01_Same.l0 k a b (n : Int)) (decide (a.drop n = b.drop n)) := by
 induction d with
 | zero =>
  intro n hn
  refine Ev.step (fun k => footlockerref01_Same.l0.eq_2 _ _ _ _) (Ev.neg (by omega) ?_)
  rw [List.drop_of_length_le (by omega), List.drop_of_length_le (by omega)]
  exact Ev.now _
 | succ d ih =>
  intro n hn
  refine Ev.step (fun k => footlockerref01_Same.l0.eq_2 _ _ _ _) (Ev.pos (by omega) (Ev.pos (by omega) (Ev.pos (by omega) ?_)))
  rw [rd_drop (show n < a.length by omega), rd_drop (show n < b.length by omega)]
  by_cases e : rd a (n : Int) = rd b (n : Int)
  ·refine Ev.pos e ?_
   rw [wrap_succ (by omega)]
   refine evc (ih (n + 1) (by omega)) ?_
   rw [e]
   simp
  ·refine Ev.neg e ?_
   rw [decide_eq_false (by intro h; exact e (List.cons.inj h).1)]
   exact Ev.now _
theorem same_ev (a b : List Int) (ha : a.length < 1000000000000) : Ev (fun k => footlockerref01_Same.f k a b) (decide (a = b)) := by
 refine Ev.congr (fun k => footlockerref01_Same.f.eq_1 _ _ _) ?_
 by_cases hl : a.length = b.length
 ·refine Ev.pos (by omega) ?_
  have := same_l0 a b hl ha a.length 0 (by omega)
  rw [List.drop_zero, List.drop_zero] at this
  exact this
 ·refine Ev.neg (by omega) ?_
  rw [decide_eq_false (by rintro rfl; exact hl rfl)]
  exact Ev.now _
theorem wf_u8 {x : Int} (h : (Lit.int .u8 x).wf = true) : 0 ≤ x ∧ x < 256 := by
 simp [Lit.wf, IntKind.min, IntKind.max, IntKind.bits, IntKind.signed] at h
 omega
theorem wf_i64 {x : Int} (h : (Lit.int .i64 x).wf = true) : -9223372036854775808 ≤ x ∧ x ≤ 9223372036854775807 := by
 simp [Lit.wf, IntKind.min, IntKind.max, IntKind.bits, IntKind.signed] at h
 omega
theorem bytes_in {l : List Int} (h : ∀ x ∈ l, (Lit.int .u8 x).wf = true) : ∃ p, l = bs p := of_bytes l (fun x hx => wf_u8 (h x hx))
theorem same_true {a b : List Int} (h : a = b) (ha : a.length < 1000000000000) : Ev (fun k => footlockerref01_Same.f k a b) true := by
 have := same_ev a b ha
 rwa [decide_eq_true h] at this
end Go.Proofs.Ytcdmgppjhdpgkaa.Al
namespace Go.Proofs.Ytcdmgppjhdpgkaa.Al
open Go Go.RowKit Go.Proofs.YtcdmgppjhdpgkaaW.PrintWords Go.Proofs.YtcdmgppjhdpgkaaW.PrintMore Go.Proofs.Ytcdmgppjhdpgkaa.P
set_option linter.unusedVariables false
set_option linter.unusedSimpArgs false
def May (w : List G) (n : Int) : Prop := n ≥ 1 ∧ n ≤ w.length ∧ w.length ≤ 255
instance (w : List G) (n : Int) : Decidable (May w n) := inferInstanceAs (Decidable (_ ∧ _ ∧ _))
end Go.Proofs.Ytcdmgppjhdpgkaa.Al
namespace Go.Proofs.Ytcdmgppjhdpgkaa.Al
set_option linter.unusedVariables false
set_option linter.unusedSimpArgs false
def row (M : List (List G)) (i : Nat) : List G := M.getD i []
theorem row_lt {M : List (List G)} {i : Nat} (h : i < M.length) : row M i = M[i] := by
 simp [row, List.getD_eq_getElem?_getD, List.getElem?_eq_getElem h]
theorem row_ge {M : List (List G)} {i : Nat} (h : M.length ≤ i) : row M i = [] := by
 simp [row, List.getD_eq_getElem?_getD, List.getElem?_eq_none h]
def tabR (n : Nat) (f : Nat → List G) : List (List G) := (List.range n).map f
theorem tabR_length (n : Nat) (f : Nat → List G) : (tabR n f).length = n := by simp [tabR]
theorem row_tabR (n : Nat) (f : Nat → List G) (i : Nat) (h : i < n) : row (tabR n f) i = f i := by
 rw [row_lt (by rw [tabR_length]; exact h)]
 simp [tabR]
def Wd (M : List (List G)) (w : Nat) : Prop := ∀ i, i < M.length → (row M i).length = w
def Sp (M : List (List G)) (v : Nat → G) : Prop := ∃ f : Nat → G, ∀ j, v j = sum (fun i => f i * co (row M i) j) M.length
theorem Sp.zero (M : List (List G)) : Sp M (fun _ => 0) := ⟨fun _ => 0, fun j => by rw [sum_eq_zero]; intro i _; rw [zero_mul]⟩
theorem Sp.congr {M : List (List G)} {v w : Nat → G} (hv : Sp M v) (h : ∀ j, v j = w j) : Sp M w := by
 obtain ⟨f, hf⟩ := hv
 exact ⟨f, fun j => by rw [← h, hf]⟩
theorem Sp.add {M : List (List G)} {v w : Nat → G} (hv : Sp M v) (hw : Sp M w) : Sp M (fun j => v j + w j) := by
 obtain ⟨f, hf⟩ := hv
 obtain ⟨g, hg⟩ := hw
 refine ⟨fun i => f i + g i, fun j => ?_⟩
 dsimp only
 rw [hf, hg, ← sum_add]
 apply sum_congr
 intro i _
 rw [add_mul]
theorem Sp.mul {M : List (List G)} {v : Nat → G} (c : G) (hv : Sp M v) : Sp M (fun j => c * v j) := by
 obtain ⟨f, hf⟩ := hv
 refine ⟨fun i => c * f i, fun j => ?_⟩
 dsimp only
 rw [hf, ← sum_mul]
 apply sum_congr
 intro i _
 rw [mul_assoc]
theorem Sp.row {M : List (List G)} {i : Nat} (h : i < M.length) : Sp M (co (row M i)) := by
 refine ⟨fun k => if k = i then 1 else 0, fun j => ?_⟩
 rw [sum_single (k := i) h]
 ·dsimp only
  rw [if_pos rfl, one_mul]
 ·intro k _ hk
  dsimp only
  rw [if_neg hk, zero_mul]
theorem Sp.sums {M : List (List G)} (f : Nat → G) (r : Nat → Nat → G) (n : Nat) (h : ∀ i, i < n → Sp M (r i)) : Sp M (fun j => sum (fun i => f i * r i j) n) := by
 induction n with
 | zero => exact Sp.zero M
 | succ n ih => exact ((ih (fun i hi => h i (by omega))).add ((h n (by omega)).mul (f n))).congr (fun j => rfl)
theorem Sp.le {M N : List (List G)} (h : ∀ i, i < N.length → Sp M (co (Al.row N i))) {v : Nat → G} (hv : Sp N v) : Sp M v := by
 obtain ⟨f, hf⟩ := hv
 exact (Sp.sums f (fun i => co (Al.row N i)) N.length h).congr (fun j => (hf j).symm)
def swp (M : List (List G)) (a u k : Nat) : List G := if k = a then row M u else if k = u then row M a else row M k
def piv (M : List (List G)) (c u : Nat) : List G := scale (inv (co (row M u) c)) (row M u)
def elim (M : List (List G)) (a c u : Nat) : List (List G) := tabR M.length (fun k => if k = a then piv M c u else zadd (swp M a u k) (scale (co (swp M a u k) c) (piv M c u)))
theorem elim_length (M : List (List G)) (a c u : Nat) : (elim M a c u).length = M.length := tabR_length _ _
theorem row_elim {M : List (List G)} {a c u k : Nat} (h : k < M.length) : row (elim M a c u) k = if k = a then piv M c u else zadd (swp M a u k) (scale (co (swp M a u k) c) (piv M c u)) := row_tabR _ _ _ h
theorem co_piv (M : List (List G)) (c u j : Nat) : co (piv M c u) j = inv (co (row M u) c) * co (row M u) j := co_scale _ _ _
theorem co_elim_at {M : List (List G)} {a c u : Nat} (h : a < M.length) (j : Nat) : co (row (elim M a c u) a) j = co (piv M c u) j := by rw [row_elim h, if_pos rfl]
theorem co_elim {M : List (List G)} {a c u k : Nat} (h : k < M.length) (hk : k ≠ a) (j : Nat) : co (row (elim M a c u) k) j = co (swp M a u k) j + co (swp M a u k) c * co (piv M c u) j := by
 rw [row_elim h, if_neg hk, co_zadd, co_scale]
structure RF (M : List (List G)) (ps : List Nat) (c : Nat) : Prop where
 len : ps.length ≤ M.length
 lt : ∀ t, t < ps.length → ps.getD t 0 < c
 asc : ∀ s t, s < t → t < ps.length → ps.getD s 0 < ps.getD t 0
 unit : ∀ i t, i < M.length → t < ps.length → co (row M i) (ps.getD t 0) = if i = t then 1 else 0
 low : ∀ i j, ps.length ≤ i → i < M.length → j < c → co (row M i) j = 0
 lead : ∀ t j, t < ps.length → j < ps.getD t 0 → co (row M t) j = 0
theorem RF.skip {M : List (List G)} {ps : List Nat} {c : Nat} (h : RF M ps c) (hz : ∀ i, ps.length ≤ i → i < M.length → co (row M i) c = 0) : RF M ps (c + 1) where
 len := h.len
 lt := fun t ht => Nat.lt_succ_of_lt (h.lt t ht)
 asc := h.asc
 unit := h.unit
 low := fun i j hi hi2 hj => by
  by_cases e : j = c
  ·rw [e]; exact hz i hi hi2
  ·exact h.low i j hi hi2 (by omega)
 lead := h.lead
theorem getD_snoc (ps : List Nat) (c t : Nat) : (ps ++ [c]).getD t 0 = if t < ps.length then ps.getD t 0 else if t = ps.length then c else 0 := by
 simp only [List.getD_eq_getElem?_getD, List.getElem?_append]
 by_cases h : t < ps.length
 ·rw [if_pos h, if_pos h]
 ·rw [if_neg h, if_neg h]
  by_cases e : t = ps.length
  ·rw [if_pos e, e]; simp
  ·rw [if_neg e, List.getElem?_eq_none (by simp; omega)]; rfl
theorem RF.step {M : List (List G)} {ps : List Nat} {c u : Nat} (h : RF M ps c) (hu : ps.length ≤ u) (hu2 : u < M.length) (hp : co (row M u) c ≠ 0) : RF (elim M ps.length c u) (ps ++ [c]) (c + 1) := by
 have ha : ps.length < M.length := by omega
 have hpz : ∀ j, j < c → co (piv M c u) j = 0 := fun j hj => by rw [co_piv, h.low u j hu hu2 hj, mul_zero]
 have hpc : co (piv M c u) c = 1 := by rw [co_piv, inv_mul hp]
 have hsl : ∀ k, ps.length < k → k < M.length → ∀ j, j < c → co (swp M ps.length u k) j = 0 := by
  intro k hk hk2 j hj
  unfold swp
  rw [if_neg (by omega)]
  split
  ·exact h.low _ j (Nat.le_refl _) ha hj
  ·exact h.low _ j (by omega) hk2 hj
 have hsk : ∀ k, k < ps.length → swp M ps.length u k = row M k := by
  intro k hk
  unfold swp
  rw [if_neg (by omega), if_neg (by omega)]
 have hcol : ∀ i, i < M.length → co (row (elim M ps.length c u) i) c = if i = ps.length then 1 else 0 := by
  intro i hi
  by_cases e : i = ps.length
  ·rw [if_pos e, e, co_elim_at ha, hpc]
  ·rw [if_neg e, co_elim hi e, hpc, mul_one, add_self]
 have hbel : ∀ i j, i < M.length → j < c → co (row (elim M ps.length c u) i) j = if i < ps.length then co (row M i) j else 0 := by
  intro i j hi hj
  by_cases e : i = ps.length
  ·rw [e, co_elim_at ha, hpz j hj, if_neg (Nat.lt_irrefl _)]
  ·rw [co_elim hi e, hpz j hj, mul_zero, add_zero]
   by_cases hlt : i < ps.length
   ·rw [if_pos hlt, hsk i hlt]
   ·rw [if_neg hlt, hsl i (by omega) hi j hj]
 have hget : ∀ t, t < ps.length → (ps ++ [c]).getD t 0 = ps.getD t 0 := fun t ht => by rw [getD_snoc, if_pos ht]
 have hend : (ps ++ [c]).getD ps.length 0 = c := by rw [getD_snoc, if_neg (Nat.lt_irrefl _), if_pos rfl]
 have hl : (ps ++ [c]).length = ps.length + 1 := by simp
 constructor
 ·rw [hl, elim_length]; omega
 ·intro t ht
  rw [hl] at ht
  by_cases e : t = ps.length
  ·rw [e, hend]; omega
  ·rw [hget t (by omega)]
   have := h.lt t (by omega)
   omega
 ·intro s t hst ht
  rw [hl] at ht
  rw [hget s (by omega)]
  by_cases e : t = ps.length
  ·rw [e, hend]
   exact h.lt s (by omega)
  ·rw [hget t (by omega)]
   exact h.asc s t hst (by omega)
 ·intro i t hi ht
  rw [hl] at ht
  rw [elim_length] at hi
  by_cases e : t = ps.length
  ·rw [e, hend, hcol i hi]
  ·rw [hget t (by omega), hbel i _ hi (h.lt t (by omega))]
   by_cases hlt : i < ps.length
   ·rw [if_pos hlt, h.unit i t hi (by omega)]
   ·rw [if_neg hlt, if_neg (by omega)]
 ·intro i j hi hi2 hj
  rw [hl] at hi
  rw [elim_length] at hi2
  by_cases e : j = c
  ·rw [e, hcol i hi2, if_neg (by omega)]
  ·rw [hbel i j hi2 (by omega), if_neg (by omega)]
 ·intro t j ht hj
  rw [hl] at ht
  by_cases e : t = ps.length
  ·rw [e, hend] at hj
   rw [e, hbel _ j ha hj, if_neg (Nat.lt_irrefl _)]
  ·rw [hget t (by omega)] at hj
   have := h.lt t (by omega)
   rw [hbel t j (by omega) (by omega), if_pos (by omega)]
   exact h.lead t j (by omega) hj
def Ld (M : List (List G)) (j : Nat) : Prop := ∃ v, Sp M v ∧ (∀ i, i < j → v i = 0) ∧ v j ≠ 0
theorem Ld.of {M N : List (List G)} (h : ∀ v, Sp M v → Sp N v) {j : Nat} (hl : Ld M j) : Ld N j := by
 obtain ⟨v, h1, h2⟩ := hl
 exact ⟨v, h v h1, h2⟩
theorem asc_ge {ps : List Nat} (hp : ∀ s t, s < t → t < ps.length → ps.getD s 0 < ps.getD t 0) : ∀ t, t < ps.length → t ≤ ps.getD t 0 := by
 intro t
 induction t with
 | zero => intro _; exact Nat.zero_le _
 | succ t ih =>
  intro ht
  have h1 := ih (by omega)
  have h2 := hp t (t + 1) (by omega) ht
  omega
theorem RF.le {R : List (List G)} {ps : List Nat} {c : Nat} (h : RF R ps c) : ps.length ≤ c := by
 rcases Nat.eq_zero_or_pos ps.length with e | e
 ·omega
 ·have h1 := asc_ge h.asc (ps.length - 1) (by omega)
  have h2 := h.lt (ps.length - 1) (by omega)
  omega
end Go.Proofs.Ytcdmgppjhdpgkaa.Al
namespace Go.Proofs.Ytcdmgppjhdpgkaa.Al
set_option linter.unusedVariables false
set_option linter.unusedSimpArgs false
def one (n : Nat) (x : Nat → G) (j : Nat) : G := if j < n then x j else 1
end Go.Proofs.Ytcdmgppjhdpgkaa.Al
namespace Go.Proofs.Ytcdmgppjhdpgkaa.Al
open Go Go.RowKit Go.Proofs.YtcdmgppjhdpgkaaW.PrintWords Go.Proofs.YtcdmgppjhdpgkaaW.PrintMore Go.Proofs.Ytcdmgppjhdpgkaa.P
set_option linter.unusedVariables false
set_option linter.unusedSimpArgs false
def wid (M : List (List G)) : Nat := (row M 0).length
def Rt (M : List (List G)) : Prop := Wd M (wid M)
instance (M : List (List G)) : Decidable (Rt M) := Nat.decidableBallLT M.length (fun i _ => (row M i).length = wid M)
def Fit (M : List (List G)) : Prop := M.length < 1000000 ∧ ∀ i, i < M.length → (row M i).length < 1000000
theorem Fit.of {M : List (List G)} {w : Nat} (h1 : M.length < 1000000) (hw : Wd M w) (h2 : w < 1000000) : Fit M := ⟨h1, fun i hi => by rw [hw i hi]; exact h2⟩
theorem Fit.wid {M : List (List G)} (h : Fit M) : wid M < 1000000 := by
 unfold Al.wid
 by_cases e : 0 < M.length
 ·exact h.2 0 e
 ·rw [row_ge (by omega)]; decide
end Go.Proofs.Ytcdmgppjhdpgkaa.Al
namespace Go.Proofs.Ytcdmgppjhdpgkaa.Al
open Go Go.RowKit Go.Proofs.YtcdmgppjhdpgkaaW.PrintWords Go.Proofs.YtcdmgppjhdpgkaaW.PrintMore Go.Proofs.Ytcdmgppjhdpgkaa.P
set_option linter.unusedVariables false
set_option linter.unusedSimpArgs false
theorem alive_ev : Ev (fun k => footlockerlaw23_alive.f k) true :=
 Ev.of (fun k => footlockerlaw23_alive.mono k) (k := 60) (by decide +kernel)
def sums (A B : List (List G)) (w n : Nat) : List (List G) := tabR n (fun i => tab w (fun j => co (row A i) j + co (row B i) j))
end Go.Proofs.Ytcdmgppjhdpgkaa.Al
namespace Go.Proofs.Ytcdmgppjhdpgkaa.Al
open Go Go.RowKit Go.Proofs.YtcdmgppjhdpgkaaW.PrintWords Go.Proofs.YtcdmgppjhdpgkaaW.PrintMore Go.Proofs.Ytcdmgppjhdpgkaa.P
set_option linter.unusedVariables false
set_option linter.unusedSimpArgs false
theorem put_l0 (d : Nat) : ∀ (i : Nat) (l : List Int), i + d = 8 → l.length < 1000 + i → Ev (fun k => little_Put.l0 k 0 l 8 (i : Int)) (l ++ List.replicate d 0) := by
 induction d with
 | zero =>
  intro i l hi _
  exact Ev.step (fun k => little_Put.l0.eq_2 _ _ _ _ _) (Ev.neg (by omega) (evc (Ev.now _) (by simp)))
 | succ d ih =>
  intro i l hi hl
  refine Ev.step (fun k => little_Put.l0.eq_2 _ _ _ _ _) (Ev.pos (by omega) (Ev.pos (by omega) ?_))
  rw [wrap_succ (by omega)]
  refine evc (ih (i + 1) (l ++ [0 % 256]) (by omega) (by simp only [List.length_append, List.length_singleton]; omega)) ?_
  rw [List.append_assoc, List.replicate_succ]; rfl
theorem put_ev (n : Nat) (h : n < 256) : Ev (fun k => little_Put.f k (n : Int) 8) ((n : Int) :: List.replicate 7 0) := by
 refine Ev.congr (fun k => little_Put.f.eq_1 _ _ _) (Ev.somef (f := fun k t => little_Put.l0 k (n : Int) [] t 0) ?_)
 show Ev (fun k => little_Put.l0 k (n : Int) [] 8 0) _
 refine Ev.step (fun k => little_Put.l0.eq_2 _ _ _ _ _) (Ev.pos (by omega) (Ev.pos (by simp) ?_))
 have e1 : (n : Int) / 256 = 0 := by omega
 have e2 : (n : Int) % 256 = n := by omega
 rw [e1, e2, show wrap64 (0 + 1) = ((1 : Nat) : Int) from (wrap_sm (by omega) (by omega)).trans (by decide)]
 exact put_l0 7 1 [(n : Int)] (by omega) (by simp)
theorem concat_ev (a b c : List Int) (h : a.length + b.length + c.length < 1000000) : Ev (fun k => slices_Concat_byte_byte.f k [a, b, c]) (a ++ b ++ c) := by
 have r0 : rd_L1 [a, b, c] 0 = a := rfl
 have r1 : rd_L1 [a, b, c] 1 = b := rfl
 have r2 : rd_L1 [a, b, c] 2 = c := rfl
 have hl : (([a, b, c] : List (List Int)).length : Int) = 3 := rfl
 have g1 : wrap64 (0 + (a.length : Int)) = (a.length : Int) := by rw [wrap_sm (by omega) (by omega)]; omega
 have g2 : wrap64 ((a.length : Int) + (b.length : Int)) = ((a.length + b.length : Nat) : Int) := by rw [wrap_sm (by omega) (by omega)]; omega
 have g3 : wrap64 (((a.length + b.length : Nat) : Int) + (c.length : Int)) = ((a.length + b.length + c.length : Nat) : Int) := by rw [wrap_sm (by omega) (by omega)]; omega
 have s1 : wrap64 (0 + 1) = 1 := (wrap_sm (by omega) (by omega)).trans (by decide)
 have s2 : wrap64 (1 + 1) = 2 := (wrap_sm (by omega) (by omega)).trans (by decide)
 have s3 : wrap64 (2 + 1) = 3 := (wrap_sm (by omega) (by omega)).trans (by decide)
 refine Ev.congr (fun k => slices_Concat_byte_byte.f.eq_1 _ _) ?_
 rw [hl]
 refine Ev.step (fun k => slices_Concat_byte_byte.l0.eq_2 _ _ _ _ _ _) (Ev.pos (by omega) (Ev.pos (by omega) (Ev.pos (by rw [hl]; omega) ?_)))
 rw [r0, g1, s1]
 refine Ev.neg (by omega) (Ev.step (fun k => slices_Concat_byte_byte.l0.eq_2 _ _ _ _ _ _) (Ev.pos (by omega) (Ev.pos (by omega) (Ev.pos (by rw [hl]; omega) ?_))))
 rw [r1, g2, s2]
 refine Ev.neg (by omega) (Ev.step (fun k => slices_Concat_byte_byte.l0.eq_2 _ _ _ _ _ _) (Ev.pos (by omega) (Ev.pos (by omega) (Ev.pos (by rw [hl]; omega) ?_))))
 rw [r2, g3, s3]
 refine Ev.neg (by omega) (Ev.step (fun k => slices_Concat_byte_byte.l0.eq_2 _ _ _ _ _ _) (Ev.neg (by omega) ?_))
 have hg : slices_Grow_byte_byte.f [] ((a.length + b.length + c.length : Nat) : Int) = some [] := by
  unfold slices_Grow_byte_byte.f
  rw [if_pos ⟨rfl, by omega, by omega⟩]
 rw [hg]
 refine Ev.somef (f := fun k t => slices_Concat_byte_byte.l1 k t [a, b, c] _ 0) ?_
 rw [hl]
 refine Ev.step (fun k => slices_Concat_byte_byte.l1.eq_2 _ _ _ _ _) (Ev.pos (by omega) (Ev.pos (by omega) (Ev.pos (by rw [hl]; omega) ?_)))
 rw [r0, s1, List.nil_append]
 refine Ev.pos (by rw [List.length_nil]; omega) (Ev.step (fun k => slices_Concat_byte_byte.l1.eq_2 _ _ _ _ _) (Ev.pos (by omega) (Ev.pos (by omega) (Ev.pos (by rw [hl]; omega) ?_))))
 rw [r1, s2]
 refine Ev.pos (by omega) (Ev.step (fun k => slices_Concat_byte_byte.l1.eq_2 _ _ _ _ _) (Ev.pos (by omega) (Ev.pos (by omega) (Ev.pos (by rw [hl]; omega) ?_))))
 rw [r2, s3]
 exact Ev.pos (by rw [List.length_append]; omega) (Ev.step (fun k => slices_Concat_byte_byte.l1.eq_2 _ _ _ _ _) (Ev.neg (by omega) (Ev.now _)))
def colI (b : List Int) (m : Nat) : List Int := (((b.length : Nat) : Int) :: List.replicate 7 0) ++ b ++ List.replicate (m - b.length) 0
theorem colI_length (b : List Int) (m : Nat) (h : b.length ≤ m) : (colI b m).length = m + 8 := by
 unfold colI
 simp only [List.length_append, List.length_cons, List.length_replicate]
 omega
theorem column_ev (b : List Int) (m : Nat) (hb : b.length < 256) (h5 : 5 ≤ m) (hm : m ≤ 300) (h : b.length ≤ m) : Ev (fun k => stripe_Column.f k b (m : Int)) (colI b m, 0) := by
 have hs : stripe_sized.f (m : Int) = some true := by
  unfold stripe_sized.f
  rw [if_pos (by omega), decide_eq_true (by omega)]
 have hw : IntKind.u64.wrap ((b.length : Nat) : Int) = ((b.length : Nat) : Int) := by rw [IntKind.wrap_u64]; omega
 have he : wrap64 ((m : Int) - (b.length : Int)) = ((m - b.length : Nat) : Int) := by rw [wrap_sm (by omega) (by omega)]; omega
 refine Ev.congr (fun k => stripe_Column.f.eq_1 _ _ _) ?_
 rw [hs, hw, he, Int.toNat_natCast]
 refine Ev.somef (Ev.pos rfl (Ev.neg (by omega) (Ev.bind (put_ev b.length hb) (Ev.pos (by omega) (Ev.pos (by omega) (Ev.bind (concat_ev _ _ _ ?_) (Ev.now _)))))))
 simp only [List.length_cons, List.length_replicate]
 omega
theorem column_long (b : List Int) (m : Int) (h5 : 5 ≤ m) (hm : m ≤ 300) (h : (b.length : Int) > m) : Ev (fun k => stripe_Column.f k b m) ([], 2) := by
 have hs : stripe_sized.f m = some true := by
  unfold stripe_sized.f
  rw [if_pos (by omega), decide_eq_true (by omega)]
 refine Ev.congr (fun k => stripe_Column.f.eq_1 _ _ _) ?_
 rw [hs]
 exact Ev.somef (Ev.pos rfl (Ev.pos h (Ev.now _)))
end Go.Proofs.Ytcdmgppjhdpgkaa.Al
namespace Go.Proofs.Ytcdmgppjhdpgkaa.Al
open Go Go.RowKit Go.Proofs.YtcdmgppjhdpgkaaW.PrintWords Go.Proofs.YtcdmgppjhdpgkaaW.PrintMore Go.Proofs.Ytcdmgppjhdpgkaa.P
set_option linter.unusedVariables false
set_option linter.unusedSimpArgs false
def le (l : List G) : Nat := match l with
 | [] => 0
 | a :: r => a.i.toNat + 256 * le r
theorem i_nat (a : G) : ((a.i.toNat : Nat) : Int) = a.i := by have := i_nonneg a; omega
theorem le_lt : ∀ l : List G, le l < 256 ^ l.length := by
 intro l
 induction l with
 | nil => decide
 | cons a r ih =>
  have := i_lt a
  have := i_nonneg a
  rw [le, List.length_cons, Nat.pow_succ]
  omega
theorem or_nat (y b : Nat) (h1 : y ||| b = y + b) (h2 : y + b < 18446744073709551616) : Go.bits .or .u64 ((y : Nat) : Int) ((b : Nat) : Int) = ((y + b : Nat) : Int) := by
 have hy : y < 18446744073709551616 := Nat.lt_of_le_of_lt (Nat.le_add_right y b) h2
 have hb : b < 18446744073709551616 := Nat.lt_of_le_of_lt (Nat.le_add_left b y) h2
 have m1 : y % 18446744073709551616 = y := Nat.mod_eq_of_lt hy
 have m2 : b % 18446744073709551616 = b := Nat.mod_eq_of_lt hb
 have w1 : IntKind.u64.wrap (((y + b : Nat) : Int)) = ((y + b : Nat) : Int) := by
  clear h1
  rw [IntKind.wrap_u64]; omega
 unfold Go.bits
 show IntKind.u64.wrap ((BitVec.ofInt 64 ((y : Nat) : Int) ||| BitVec.ofInt 64 ((b : Nat) : Int)).toNat : Int) = _
 simp only [BitVec.ofInt_natCast, BitVec.toNat_or, BitVec.toNat_ofNat]
 rw [show (2 : Nat) ^ 64 = 18446744073709551616 from rfl, m1, m2, h1, w1]
theorem or_add (x b : Nat) (hb : b < 256) (hx : x < 72057594037927936) : Go.bits .or .u64 (((x * 256 : Nat) : Int)) ((b : Nat) : Int) = ((x * 256 + b : Nat) : Int) := by
 have h2 : x * 256 + b < 18446744073709551616 := by omega
 refine or_nat (x * 256) b ?_ h2
 have := Nat.two_pow_add_eq_or_of_lt (i := 8) (b := b) hb x
 rw [show (2 : Nat) ^ 8 = 256 from rfl, Nat.mul_comm] at this
 exact this.symm
theorem le_drop (l : List G) (i : Nat) (h : i < l.length) : le (l.drop i) = (co l i).i.toNat + 256 * le (l.drop (i + 1)) := by
 rw [List.drop_eq_getElem_cons h, le, co_lt h]
theorem pow_le {n : Nat} (h : n ≤ 7) : 256 ^ n ≤ 72057594037927936 := by
 have : 256 ^ n ≤ 256 ^ 7 := Nat.pow_le_pow_right (by decide) h
 simpa using this
theorem lget_l0 (l : List G) (h8 : l.length = 8) (d : Nat) : ∀ i : Nat, i + 1 = d → d ≤ 8 → Ev (fun k => little_Get.l0 k (bs l) ((le (l.drop (i + 1)) : Nat) : Int) (i : Int)) ((le l : Nat) : Int) := by
 induction d with
 | zero => intro i hi; omega
 | succ d ih =>
  intro i hi hd
  have hlt := le_lt (l.drop (i + 1))
  have hp := pow_le (n := (l.drop (i + 1)).length) (by rw [List.length_drop]; omega)
  have hb := i_lt (co l i)
  have hb0 := i_nat (co l i)
  have hw1 : IntKind.u64.wrap (((le (l.drop (i + 1)) : Nat) : Int) * 256) = ((le (l.drop (i + 1)) * 256 : Nat) : Int) := by rw [IntKind.wrap_u64]; omega
  have hw2 : IntKind.u64.wrap ((co l i).i) = (((co l i).i.toNat : Nat) : Int) := by rw [IntKind.wrap_u64]; omega
  refine Ev.step (fun k => little_Get.l0.eq_2 _ _ _ _) (Ev.pos (by omega) (Ev.pos (by omega) (Ev.pos (by rw [bs_length]; omega) ?_)))
  rw [rd_bs, hw1, hw2, or_add _ _ (by omega) (by omega)]
  have e : le (l.drop (i + 1)) * 256 + (co l i).i.toNat = le (l.drop i) := by rw [le_drop l i (by omega)]; omega
  rw [e]
  by_cases hi0 : i = 0
  ·subst hi0
   refine Ev.step (fun k => little_Get.l0.eq_2 _ _ _ _) (Ev.neg (by rw [wrap_sm (by omega) (by omega)]; omega) (evc (Ev.now _) (by rw [List.drop_zero])))
  ·have e2 : wrap64 ((i : Int) - 1) = ((i - 1 : Nat) : Int) := by rw [wrap_sm (by omega) (by omega)]; omega
   have e3 : le (l.drop i) = le (l.drop (i - 1 + 1)) := by congr 2; omega
   rw [e2, e3]
   exact ih (i - 1) (by omega) (by omega)
theorem lget_ev (l : List G) (h8 : l.length = 8) : Ev (fun k => little_Get.f k (bs l)) ((le l : Nat) : Int) := by
 refine Ev.congr (fun k => little_Get.f.eq_1 _ _) ?_
 have e : (mn ((bs l).length : Int) 8) - 1 = ((7 : Nat) : Int) := by rw [bs_length, h8]; rfl
 rw [e]
 have := lget_l0 l h8 8 7 (by omega) (by omega)
 rw [List.drop_eq_nil_of_le (by omega)] at this
 exact this
theorem wu (n : Nat) (h : n < 18446744073709551616) : IntKind.u64.wrap ((n : Nat) : Int) = ((n : Nat) : Int) := by rw [IntKind.wrap_u64]; omega
theorem le_take : ∀ (l : List G) (i : Nat), i < l.length → le (l.take (i + 1)) = le (l.take i) + (co l i).i.toNat * 256 ^ i := by
 intro l
 induction l with
 | nil => intro i h; simp at h
 | cons a r ih =>
  intro i h
  cases i with
  | zero => simp [le, co_zero]
  | succ i =>
   have e : 256 * ((co r i).i.toNat * 256 ^ i) = (co r i).i.toNat * (256 ^ i * 256) := by rw [Nat.mul_comm 256, Nat.mul_assoc]
   rw [List.take_succ_cons, List.take_succ_cons, le, le, co_succ, ih i (by simpa using h), Nat.pow_succ, Nat.mul_add, e, Nat.add_assoc]
theorem pow_le8 {n : Nat} (h : n ≤ 8) : 256 ^ n ≤ 18446744073709551616 := by
 have : 256 ^ n ≤ 256 ^ 8 := Nat.pow_le_pow_right (by decide) h
 simpa using this
theorem rget_end (l : List G) (h8 : l.length = 8) (N x4 : Int) : Ev (fun k => footlockerref07_Get.l0 k (bs l) N x4 8) N :=
 Ev.step (fun k => footlockerref07_Get.l0.eq_2 _ _ _ _ _) (Ev.neg (by rw [bs_length]; omega) (Ev.now _))
theorem rget_l0 (l : List G) (h8 : l.length = 8) (d : Nat) : ∀ i : Nat, i + d = 8 → 0 < d → Ev (fun k => footlockerref07_Get.l0 k (bs l) ((le (l.take i) : Nat) : Int) ((256 ^ i : Nat) : Int) (i : Int)) ((le l : Nat) : Int) := by
 induction d with
 | zero => intro i _ h; omega
 | succ d ih =>
  intro i hi _
  have hs := le_take l i (by omega)
  have hlt := le_lt (l.take (i + 1))
  have hlen : (l.take (i + 1)).length = i + 1 := by rw [List.length_take]; omega
  rw [hlen] at hlt
  have hp := pow_le8 (n := i + 1) (by omega)
  have hb := i_lt (co l i)
  have hb0 := i_nat (co l i)
  obtain ⟨b, hbn⟩ : ∃ b, b = (co l i).i.toNat := ⟨_, rfl⟩
  rw [← hbn] at hs hb0
  have w1 : IntKind.u64.wrap ((co l i).i) = ((b : Nat) : Int) := by rw [← hb0]; exact wu b (by omega)
  have w2 : IntKind.u64.wrap (((b : Nat) : Int) * ((256 ^ i : Nat) : Int)) = ((b * 256 ^ i : Nat) : Int) := by
   rw [← Int.natCast_mul]; exact wu _ (by omega)
  have w3 : IntKind.u64.wrap (((le (l.take i) : Nat) : Int) + ((b * 256 ^ i : Nat) : Int)) = ((le (l.take (i + 1)) : Nat) : Int) := by
   rw [← Int.natCast_add, ← hs]; exact wu _ (by omega)
  refine Ev.step (fun k => footlockerref07_Get.l0.eq_2 _ _ _ _ _) (Ev.pos (by rw [bs_length]; omega) (Ev.pos (by omega) (Ev.pos (by omega) ?_)))
  rw [rd_bs, w1, w2, w3, wrap_succ (by omega)]
  cases d with
  | zero =>
   have hi7 : i = 7 := by omega
   subst hi7
   have e : l.take (7 + 1) = l := List.take_of_length_le (by omega)
   rw [e]
   exact rget_end l h8 _ _
  | succ d =>
   have w4 : IntKind.u64.wrap (((256 ^ i : Nat) : Int) * 256) = ((256 ^ (i + 1) : Nat) : Int) := by
    have hp7 := pow_le (n := i + 1) (by omega)
    rw [show (256 : Int) = ((256 : Nat) : Int) from rfl, ← Int.natCast_mul, ← Nat.pow_succ]; exact wu _ (by omega)
   rw [w4]
   exact ih (i + 1) (by omega) (by omega)
theorem rget_ev (l : List G) (h8 : l.length = 8) : Ev (fun k => footlockerref07_Get.f k (bs l)) ((le l : Nat) : Int) :=
 Ev.congr (fun k => footlockerref07_Get.f.eq_1 _ _) (rget_l0 l h8 8 0 (by omega) (by omega))
def vol (l : List G) : List Int × Int :=
 if l.length < 8 then ([], 20) else if l.length - 8 < le (l.take 8) then ([], 23) else
  if ((l.drop 8).drop (le (l.take 8))).all (fun g => decide (g = 0)) then (bs ((l.drop 8).take (le (l.take 8))), 0) else ([], 21)
theorem fidx_all : ∀ (l : List G) (i : Nat), (fidx (fun x : Int => !(x == 0)) (bs l) i ≥ 0) ↔ ¬ (l.all (fun g => decide (g = 0)) = true) := by
 intro l
 induction l with
 | nil => intro i; simp [bs, fidx]
 | cons a r ih =>
  intro i
  show (fidx _ (a.i :: bs r) i ≥ 0) ↔ _
  by_cases h : a = 0
  ·subst h
   rw [fidx, if_neg (by decide), ih]
   simp
  ·have hne : a.i ≠ 0 := fun e => h (i_eq_zero.1 e)
   rw [fidx, if_pos (by simp [hne])]
   simp [h]
theorem vol_ev (l : List G) (hl : l.length < 1000000) : Ev (fun k => stripe_Volume.f k (bs l)) (vol l) := by
 refine Ev.congr (fun k => stripe_Volume.f.eq_1 _ _) ?_
 rw [bs_length]
 unfold vol
 by_cases h8 : l.length < 8
 ·rw [if_pos h8]
  exact Ev.pos (by omega) (Ev.now _)
 rw [if_neg h8]
 refine Ev.neg (by omega) ?_
 rw [bs_take, bs_drop]
 refine Ev.bind (lget_ev (l.take 8) (by rw [List.length_take]; omega)) (Ev.neg (by omega) ?_)
 by_cases h9 : l.length - 8 < le (l.take 8)
 ·rw [if_pos h9]
  exact Ev.pos (by omega) (Ev.now _)
 rw [if_neg h9]
 refine Ev.neg (by omega) ?_
 rw [Int.toNat_natCast, bs_drop, bs_take]
 by_cases hz : ((l.drop 8).drop (le (l.take 8))).all (fun g => decide (g = 0)) = true
 ·rw [if_pos hz, clone_some _ (by rw [bs_length, List.length_take, List.length_drop]; omega)]
  exact Ev.neg (fun h => (fidx_all _ _).1 h hz) (Ev.somef (f := fun k y => some (y, 0)) (Ev.now _))
 ·rw [if_neg hz]
  exact Ev.pos ((fidx_all _ _).2 hz) (Ev.now _)
theorem rvol_l0 (l : List G) (e : Nat) (he : 8 ≤ e) (hl : e ≤ l.length) (hL : l.length < 1000000) (d : Nat) : ∀ i : Nat, i + d = l.length →
 Ev (fun k => footlockerref23_Volume.l0 k (bs l) (e : Int) (i : Int)) (if (l.drop i).all (fun g => decide (g = 0)) then (bs ((l.take e).drop 8), 0) else ([], 21)) := by
 induction d with
 | zero =>
  intro i hi
  refine Ev.step (fun k => footlockerref23_Volume.l0.eq_2 _ _ _ _) (Ev.neg (by rw [bs_length]; omega) (Ev.pos (by omega) (Ev.pos (by rw [bs_length]; omega) ?_)))
  rw [show l.drop i = [] from List.drop_eq_nil_of_le (by omega), Int.toNat_natCast, bs_take, bs_drop]
  exact Ev.now _
 | succ d ih =>
  intro i hi
  refine Ev.step (fun k => footlockerref23_Volume.l0.eq_2 _ _ _ _) (Ev.pos (by rw [bs_length]; omega) (Ev.pos (by omega) ?_))
  rw [rd_bs, List.drop_eq_getElem_cons (by omega), List.all_cons, ← co_lt (by omega)]
  by_cases h : co l i = 0
  ·refine Ev.pos (by rw [h]; rfl) ?_
   rw [wrap_succ (by omega)]
   refine evc (ih (i + 1) (by omega)) ?_
   rw [decide_eq_true h, Bool.true_and]
  ·refine Ev.neg (fun e => h (i_eq_zero.1 e)) ?_
   rw [decide_eq_false h, Bool.false_and]
   exact Ev.now _
theorem rvol_ev (l : List G) (hl : l.length < 1000000) : Ev (fun k => footlockerref23_Volume.f k (bs l)) (vol l) := by
 refine Ev.congr (fun k => footlockerref23_Volume.f.eq_1 _ _) ?_
 rw [bs_length]
 unfold vol
 by_cases h8 : l.length < 8
 ·rw [if_pos h8]
  exact Ev.pos (by omega) (Ev.now _)
 rw [if_neg h8]
 refine Ev.neg (by omega) ?_
 rw [bs_take]
 refine Ev.bind (rget_ev (l.take 8) (by rw [List.length_take]; omega)) (Ev.neg (by omega) ?_)
 by_cases h9 : l.length - 8 < le (l.take 8)
 ·rw [if_pos h9]
  exact Ev.pos (by omega) (Ev.now _)
 rw [if_neg h9]
 refine Ev.neg (by omega) ?_
 have e : (8 : Int) + ((le (l.take 8) : Nat) : Int) = ((8 + le (l.take 8) : Nat) : Int) := by omega
 rw [e]
 refine evc (rvol_l0 l (8 + le (l.take 8)) (by omega) (by omega) hl (l.length - (8 + le (l.take 8))) (8 + le (l.take 8)) (by omega)) ?_
 rw [List.drop_drop, List.drop_take, show 8 + le (l.take 8) - 8 = le (l.take 8) by omega]
end Go.Proofs.Ytcdmgppjhdpgkaa.Al
namespace Go.Proofs.Ytcdmgppjhdpgkaa.Al
open Go Go.RowKit Go.Proofs.YtcdmgppjhdpgkaaW.PrintWords Go.Proofs.YtcdmgppjhdpgkaaW.PrintMore Go.Proofs.Ytcdmgppjhdpgkaa.P
set_option linter.unusedVariables false
set_option linter.unusedSimpArgs false
theorem rput_l0 (d : Nat) : ∀ (i : Nat) (l : List Int), i + d = 8 → l.length < 1000 + i → Ev (fun k => footlockerref07_Put.l0 k 0 8 l (i : Int)) (l ++ List.replicate d 0) := by
 induction d with
 | zero =>
  intro i l hi _
  exact Ev.step (fun k => footlockerref07_Put.l0.eq_2 _ _ _ _ _) (Ev.neg (by omega) (evc (Ev.now _) (by simp)))
 | succ d ih =>
  intro i l hi hl
  refine Ev.step (fun k => footlockerref07_Put.l0.eq_2 _ _ _ _ _) (Ev.pos (by omega) (Ev.pos (by omega) (Ev.pos (by omega) ?_)))
  have e0 : IntKind.u64.wrap (Int.tdiv 0 256) = 0 := wu 0 (by omega)
  rw [wrap_succ (by omega), e0]
  refine evc (ih (i + 1) (l ++ [(Int.tmod 0 256) % 256]) (by omega) (by simp only [List.length_append, List.length_singleton]; omega)) ?_
  rw [List.append_assoc, List.replicate_succ]; rfl
theorem rput_ev (n : Nat) (h : n < 256) : Ev (fun k => footlockerref07_Put.f k (n : Int) 8) ((n : Int) :: List.replicate 7 0) := by
 refine Ev.congr (fun k => footlockerref07_Put.f.eq_1 _ _ _) ?_
 refine Ev.step (fun k => footlockerref07_Put.l0.eq_2 _ _ _ _ _) (Ev.pos (by omega) (Ev.pos (by omega) (Ev.pos (by simp) ?_)))
 have e1 : Int.tdiv (n : Int) 256 = 0 := by rw [Int.tdiv_eq_ediv_of_nonneg (by omega)]; omega
 have e2 : (Int.tmod (n : Int) 256) % 256 = n := by rw [Int.tmod_eq_emod_of_nonneg (by omega)]; omega
 rw [e1, e2, show IntKind.u64.wrap 0 = 0 from wu 0 (by omega), show wrap64 (0 + 1) = ((1 : Nat) : Int) from (wrap_sm (by omega) (by omega)).trans (by decide)]
 exact rput_l0 7 1 [(n : Int)] (by omega) (by simp)
theorem join_ev (a b c : List Int) (h : a.length + b.length + c.length < 1000000) : Ev (fun k => footlockerref01_Join.f k [a, b, c]) (a ++ b ++ c) := by
 have r0 : rd_L1 [a, b, c] 0 = a := rfl
 have r1 : rd_L1 [a, b, c] 1 = b := rfl
 have r2 : rd_L1 [a, b, c] 2 = c := rfl
 have hl : (([a, b, c] : List (List Int)).length : Int) = 3 := rfl
 have s1 : wrap64 (0 + 1) = 1 := (wrap_sm (by omega) (by omega)).trans (by decide)
 have s2 : wrap64 (1 + 1) = 2 := (wrap_sm (by omega) (by omega)).trans (by decide)
 have s3 : wrap64 (2 + 1) = 3 := (wrap_sm (by omega) (by omega)).trans (by decide)
 refine Ev.congr (fun k => footlockerref01_Join.f.eq_1 _ _) ?_
 refine Ev.step (fun k => footlockerref01_Join.l0.eq_2 _ _ _ _) (Ev.pos (by rw [hl]; omega) (Ev.pos (by omega) ?_))
 rw [r0, s1, List.nil_append]
 refine Ev.pos (by rw [List.length_nil]; omega) (Ev.step (fun k => footlockerref01_Join.l0.eq_2 _ _ _ _) (Ev.pos (by rw [hl]; omega) (Ev.pos (by omega) ?_)))
 rw [r1, s2]
 refine Ev.pos (by omega) (Ev.step (fun k => footlockerref01_Join.l0.eq_2 _ _ _ _) (Ev.pos (by rw [hl]; omega) (Ev.pos (by omega) ?_)))
 rw [r2, s3]
 exact Ev.pos (by rw [List.length_append]; omega) (Ev.step (fun k => footlockerref01_Join.l0.eq_2 _ _ _ _) (Ev.neg (by rw [hl]; omega) (Ev.now _)))
theorem rcolumn_ev (b : List Int) (m : Nat) (hb : b.length < 256) (h5 : 5 ≤ m) (hm : m ≤ 300) (h : b.length ≤ m) : Ev (fun k => footlockerref23_Column.f k b (m : Int)) (colI b m, 0) := by
 have hw : IntKind.u64.wrap ((b.length : Nat) : Int) = ((b.length : Nat) : Int) := wu _ (by omega)
 have he : wrap64 ((m : Int) - (b.length : Int)) = ((m - b.length : Nat) : Int) := by rw [wrap_sm (by omega) (by omega)]; omega
 refine Ev.congr (fun k => footlockerref23_Column.f.eq_1 _ _ _) (Ev.neg (by omega) ?_)
 rw [decide_eq_false (by omega)]
 refine Ev.step (fun k => footlockerref23_Column.j0.eq_2 _ _ _ _) (Ev.neg (by simp) (Ev.neg (by omega) ?_))
 rw [hw, he, Int.toNat_natCast]
 refine Ev.bind (rput_ev b.length hb) (Ev.pos (by omega) (Ev.pos (by omega) (Ev.bind (join_ev _ _ _ ?_) (Ev.now _))))
 simp only [List.length_cons, List.length_replicate]
 omega
theorem rcolumn_no (b : List Int) (m : Int) (h : m < 5 ∨ m > 16777216) : Ev (fun k => footlockerref23_Column.f k b m) ([], 1) := by
 have out : Ev (fun k => footlockerref23_Column.j0 k b m true) ([], 1) := Ev.step (fun k => footlockerref23_Column.j0.eq_2 _ _ _ _) (Ev.pos rfl (Ev.now _))
 refine Ev.congr (fun k => footlockerref23_Column.f.eq_1 _ _ _) ?_
 by_cases h5 : m < 5
 ·exact Ev.pos h5 out
 ·refine Ev.neg h5 ?_
  rw [decide_eq_true (h.resolve_left h5)]
  exact out
theorem rcolumn_long (b : List Int) (m : Int) (h5 : 5 ≤ m) (hm : m ≤ 300) (h : (b.length : Int) > m) : Ev (fun k => footlockerref23_Column.f k b m) ([], 2) := by
 refine Ev.congr (fun k => footlockerref23_Column.f.eq_1 _ _ _) (Ev.neg (by omega) ?_)
 rw [decide_eq_false (by omega)]
 exact Ev.step (fun k => footlockerref23_Column.j0.eq_2 _ _ _ _) (Ev.neg (by simp) (Ev.pos h (Ev.now _)))
theorem column_no2 (b : List Int) (m : Int) (h : m < 5 ∨ m > 16777216) : Ev (fun k => stripe_Column.f k b m) ([], 1) := by
 have hs : stripe_sized.f m = some false := by
  unfold stripe_sized.f
  by_cases h5 : m ≥ 5
  ·rw [if_pos h5, decide_eq_false (by omega)]
  ·rw [if_neg h5]
 refine Ev.congr (fun k => stripe_Column.f.eq_1 _ _ _) ?_
 rw [hs]
 exact Ev.somef (Ev.neg (by simp) (Ev.now _))
def Geo (a b c d : Int) : Prop := 1 ≤ a ∧ a ≤ 255 ∧ 0 ≤ b ∧ b ≤ 255 - a ∧ 5 ≤ c ∧ c ≤ 16777216 ∧ 1 ≤ d ∧ d ≤ 16777216
instance (a b c d : Int) : Decidable (Geo a b c d) := inferInstanceAs (Decidable (_ ∧ _))
theorem geo_some (a b c d : Int) : stripe_Right.f a b c d = some (decide (Geo a b c d)) := by
 unfold stripe_Right.f stripe_sized.f
 have no : ¬ Geo a b c d → some false = some (decide (Geo a b c d)) := fun h => by rw [decide_eq_false h]
 by_cases h1 : a < 1
 ·rw [if_pos h1]; exact no (fun g => by unfold Geo at g; omega)
 rw [if_neg h1]
 by_cases h2 : a > 255
 ·rw [if_pos h2]; exact no (fun g => by unfold Geo at g; omega)
 rw [if_neg h2]
 by_cases h3 : b < 0
 ·rw [if_pos h3]; exact no (fun g => by unfold Geo at g; omega)
 rw [if_neg h3, wrap_sm (by omega) (by omega)]
 by_cases h4 : b > 255 - a
 ·rw [if_pos h4]; exact no (fun g => by unfold Geo at g; omega)
 rw [if_neg h4]
 by_cases h5 : c ≥ 5
 ·rw [if_pos h5]
  show (if decide (c ≤ 16777216) = true then _ else _) = _
  by_cases h6 : c ≤ 16777216
  ·rw [if_pos (decide_eq_true h6)]
   by_cases h7 : d ≥ 1
   ·rw [if_pos h7]
    congr 1
    rw [decide_eq_decide]
    unfold Geo; omega
   ·rw [if_neg h7]; exact no (fun g => by unfold Geo at g; omega)
  ·rw [if_neg (by simpa using h6)]; exact no (fun g => by unfold Geo at g; omega)
 ·rw [if_neg h5]; exact no (fun g => by unfold Geo at g; omega)
theorem rgeo_some (a b c d : Int) : footlockerref23_Right.f a b c d = some (decide (Geo a b c d)) := by
 unfold footlockerref23_Right.f
 have no : ¬ Geo a b c d → some false = some (decide (Geo a b c d)) := fun h => by rw [decide_eq_false h]
 by_cases h1 : a ≥ 1
 ·rw [if_pos h1]
  by_cases h2 : a ≤ 255
  ·rw [if_pos h2]
   by_cases h3 : b ≥ 0
   ·rw [if_pos h3, wrap_sm (by omega) (by omega)]
    by_cases h4 : b ≤ 255 - a
    ·rw [if_pos h4]
     by_cases h5 : c ≥ 5
     ·rw [if_pos h5]
      by_cases h6 : c ≤ 16777216
      ·rw [if_pos h6]
       by_cases h7 : d ≥ 1
       ·rw [if_pos h7]
        congr 1
        rw [decide_eq_decide]
        unfold Geo; omega
       ·rw [if_neg h7]; exact no (fun g => by unfold Geo at g; omega)
      ·rw [if_neg h6]; exact no (fun g => by unfold Geo at g; omega)
     ·rw [if_neg h5]; exact no (fun g => by unfold Geo at g; omega)
    ·rw [if_neg h4]; exact no (fun g => by unfold Geo at g; omega)
   ·rw [if_neg h3]; exact no (fun g => by unfold Geo at g; omega)
  ·rw [if_neg h2]; exact no (fun g => by unfold Geo at g; omega)
 ·rw [if_neg h1]; exact no (fun g => by unfold Geo at g; omega)
theorem long_yes {a b c d : Int} (h : Geo a b c d) : stripe_Long.f a b c d = some (8 + c) := by
 unfold stripe_Long.f
 rw [geo_some, decide_eq_true h]
 show some (wrap64 (8 + c)) = _
 unfold Geo at h
 rw [wrap_sm (by omega) (by omega)]
theorem long_no {a b c d : Int} (h : ¬ Geo a b c d) : stripe_Long.f a b c d = some 0 := by
 unfold stripe_Long.f
 rw [geo_some, decide_eq_false h]; rfl
theorem blocks_no {a b c d : Int} (h : ¬ Geo a b c d) : stripe_Blocks.f a b c d = some 0 := by
 unfold stripe_Blocks.f
 rw [geo_some, decide_eq_false h]; rfl
theorem blocks_yes {a b : Int} {c d : Nat} (h : Geo a b c d) : stripe_Blocks.f a b c d = some (((8 + c + d - 1) / d : Nat) : Int) := by
 unfold stripe_Blocks.f
 rw [geo_some, decide_eq_true h, long_yes h]
 unfold Geo at h
 show (if (d : Int) = 0 then none else some (wrap64 (Int.tdiv (wrap64 ((wrap64 (8 + (c : Int) + d)) - 1)) d))) = _
 rw [if_neg (by omega), wrap_sm (x := 8 + (c : Int) + d) (by omega) (by omega), wrap_sm (x := 8 + (c : Int) + d - 1) (by omega) (by omega)]
 have e : (8 : Int) + c + d - 1 = ((8 + c + d - 1 : Nat) : Int) := by omega
 have hq : (8 + c + d - 1) / d ≤ 8 + c + d - 1 := Nat.div_le_self _ _
 have e2 : Int.tdiv ((8 + c + d - 1 : Nat) : Int) (d : Int) = (((8 + c + d - 1) / d : Nat) : Int) := by
  rw [Int.tdiv_eq_ediv_of_nonneg (by omega)]; rfl
 obtain ⟨q, hq2⟩ : ∃ q, q = (8 + c + d - 1) / d := ⟨_, rfl⟩
 rw [← hq2] at e2 hq ⊢
 rw [e, e2]
 exact congrArg some (wrap_sm (by omega) (by omega))
theorem rblocks_l0 (a b : Int) (c D : Nat) (hc : c ≤ 16777216) (h1 : 1 ≤ D) (hD : D ≤ 16777216) (e : Nat) : ∀ j : Nat, j + e = (8 + c + D - 1) / D →
 Ev (fun k => footlockerref23_Blocks.l0 k (j : Int) ((j * D : Nat) : Int) a b (c : Int) (D : Int)) (((8 + c + D - 1) / D : Nat) : Int) := by
 have hw : wrap64 (8 + (c : Int)) = ((8 + c : Nat) : Int) := by rw [wrap_sm (by omega) (by omega)]; omega
 have key : ∀ j, j < (8 + c + D - 1) / D ↔ j * D < 8 + c := by
  intro j
  have := Nat.le_div_iff_mul_le (x := j + 1) (y := 8 + c + D - 1) (k := D) (by omega)
  rw [Nat.succ_mul] at this
  omega
 have hq : (8 + c + D - 1) / D ≤ 8 + c + D - 1 := Nat.div_le_self _ _
 induction e with
 | zero =>
  intro j hj
  have hk := key j
  refine Ev.step (fun k => footlockerref23_Blocks.l0.eq_2 _ _ _ _ _ _ _) ?_
  rw [hw]
  exact Ev.neg (by omega) (evc (Ev.now _) (by rw [← hj]; simp))
 | succ e ih =>
  intro j hj
  have hk := key j
  refine Ev.step (fun k => footlockerref23_Blocks.l0.eq_2 _ _ _ _ _ _ _) ?_
  rw [hw]
  refine Ev.pos (by omega) ?_
  have e1 : wrap64 (((j * D : Nat) : Int) + (D : Int)) = (((j + 1) * D : Nat) : Int) := by
   have h2 : (j + 1) * D = j * D + D := Nat.succ_mul j D
   rw [h2, wrap_sm (by omega) (by omega)]; omega
  rw [e1, wrap_succ (by omega)]
  exact ih (j + 1) (by omega)
theorem rblocks_ev (a b : Int) (c D : Nat) (hc : c ≤ 16777216) (h1 : 1 ≤ D) (hD : D ≤ 16777216) : Ev (fun k => footlockerref23_Blocks.f k a b (c : Int) (D : Int)) (((8 + c + D - 1) / D : Nat) : Int) := by
 refine Ev.congr (fun k => footlockerref23_Blocks.f.eq_1 _ _ _ _ _) ?_
 have := rblocks_l0 a b c D hc h1 hD ((8 + c + D - 1) / D) 0 (by omega)
 rw [Nat.zero_mul] at this
 exact this
end Go.Proofs.Ytcdmgppjhdpgkaa.Al
namespace Go.Proofs.Ytcdmgppjhdpgkaa.Pure
open Go Go.RowKit Go.Proofs.YtcdmgppjhdpgkaaW.PrintWords Go.Proofs.YtcdmgppjhdpgkaaW.PrintMore Go.Proofs.Ytcdmgppjhdpgkaa.P Go.Proofs.Ytcdmgppjhdpgkaa.Al
set_option linter.unusedVariables false
set_option linter.unusedSimpArgs false
theorem columns_j1 (a b c d : Int) (hc : c ≤ 9223372036854775807) (hd : d ≤ 9223372036854775807) : Ev (fun k => footlockerlaw23_StripeColumns.j1 k false a b c d) true := by
 refine Ev.step (fun k => footlockerlaw23_StripeColumns.j1.eq_2 _ _ _ _ _ _) (Ev.neg (by simp) ?_)
 rw [rgeo_some, geo_some]
 by_cases h : Geo a b c d
 ·have hg := h
  unfold Geo at hg
  rw [decide_eq_true h, long_yes h]
  refine Ev.somef (Ev.pos rfl (Ev.somef (Ev.pos rfl (Ev.somef (Ev.pos (by rw [wrap_sm (by omega) (by omega)]) ?_)))))
  rw [wrap_sm (x := 1000 * d) (by omega) (by omega)]
  by_cases h2 : c > 1000 * d
  ·exact Ev.pos h2 (Ev.now _)
  ·refine Ev.neg h2 ?_
   obtain ⟨c, rfl⟩ : ∃ n : Nat, c = (n : Int) := ⟨c.toNat, by omega⟩
   obtain ⟨d, rfl⟩ : ∃ n : Nat, d = (n : Int) := ⟨d.toNat, by omega⟩
   rw [blocks_yes h]
   exact Ev.somef (Ev.bind (rblocks_ev a b c d (by omega) (by omega) (by omega)) (evc (Ev.now _) (by simp)))
 ·rw [decide_eq_false h, long_no h, blocks_no h]
  exact Ev.somef (Ev.neg (by simp) (Ev.somef (Ev.neg (by simp) (Ev.somef (Ev.pos rfl (Ev.somef (Ev.now _)))))))
theorem columns_j0 (v l : List G) (m a b c d : Int) (hv : v.length ≤ 200) (hl : l.length ≤ 200) (hm : m ≤ 300 ∨ m > 16777216) (hc : c ≤ 9223372036854775807) (hd : d ≤ 9223372036854775807) :
 Ev (fun k => footlockerlaw23_StripeColumns.j0 k (bs v) m (bs l) false a b c d) true := by
 obtain ⟨r, h1, h2, hr⟩ : ∃ r : List Int × Int, Ev (fun k => stripe_Column.f k (bs v) m) r ∧ Ev (fun k => footlockerref23_Column.f k (bs v) m) r ∧ r.1.length < 1000 := by
  by_cases hn : m < 5 ∨ m > 16777216
  ·exact ⟨_, column_no2 _ m hn, rcolumn_no _ m hn, by simp⟩
  ·by_cases hlong : (v.length : Int) > m
   ·exact ⟨_, column_long _ m (by omega) (by omega) (by rw [bs_length]; exact hlong), rcolumn_long _ m (by omega) (by omega) (by rw [bs_length]; exact hlong), by simp⟩
   ·obtain ⟨n, rfl⟩ : ∃ n : Nat, m = (n : Int) := ⟨m.toNat, by omega⟩
    have hb : (bs v).length ≤ n := by rw [bs_length]; omega
    exact ⟨_, column_ev _ n (by rw [bs_length]; omega) (by omega) (by omega) hb, rcolumn_ev _ n (by rw [bs_length]; omega) (by omega) (by omega) hb, by rw [colI_length _ _ hb]; omega⟩
 have hvl : (vol l).1.length < 1000 := by
  unfold vol
  split
  ·simp
  ·split
   ·simp
   ·split
    ·rw [bs_length, List.length_take, List.length_drop]; omega
    ·simp
 refine Ev.step (fun k => footlockerlaw23_StripeColumns.j0.eq_2 _ _ _ _ _ _ _ _ _) (Ev.neg (by simp) ?_)
 refine Ev.bind h1 (Ev.bind h2 (Ev.bind (vol_ev l (by omega)) (Ev.bind (rvol_ev l (by omega)) (Ev.pos rfl (Ev.bind (same_true rfl (by omega)) (Ev.pos rfl (Ev.pos rfl (Ev.bind (same_true rfl (by omega)) ?_))))))))
 exact columns_j1 a b c d hc hd
theorem StripeColumns : footlockerlaw23_StripeColumns.Pure := by
 rintro l0 m l2 a b c d ⟨_, h0⟩ hm ⟨_, h2⟩ ⟨_, _, hc, hd⟩
 obtain ⟨v, rfl⟩ := bytes_in h0
 obtain ⟨l, rfl⟩ := bytes_in h2
 have hc := (wf_i64 hc).2
 have hd := (wf_i64 hd).2
 apply Ev.rounds
 have out : Ev (fun k => footlockerlaw23_StripeColumns.j0 k (bs v) m (bs l) true a b c d) true := Ev.step (fun k => footlockerlaw23_StripeColumns.j0.eq_2 _ _ _ _ _ _ _ _ _) (Ev.pos rfl (Ev.now _))
 refine Ev.congr (fun k => footlockerlaw23_StripeColumns.f.eq_1 _ _ _ _ _ _ _ _) (Ev.bind alive_ev (Ev.pos rfl ?_))
 rw [bs_length, bs_length]
 by_cases c1 : (v.length : Int) > 200
 ·exact Ev.pos c1 out
 refine Ev.neg c1 ?_
 by_cases c2 : (l.length : Int) > 200
 ·exact Ev.pos c2 out
 refine Ev.neg c2 ?_
 by_cases c3 : m > 300
 ·refine Ev.pos c3 ?_
  by_cases c4 : m ≤ 16777216
  ·rw [decide_eq_true c4]; exact out
  ·rw [decide_eq_false c4]; exact columns_j0 v l m a b c d (by omega) (by omega) (.inr (by omega)) hc hd
 ·exact Ev.neg c3 (columns_j0 v l m a b c d (by omega) (by omega) (.inl (by omega)) hc hd)
end Go.Proofs.Ytcdmgppjhdpgkaa.Pure
namespace Go.Proofs.Ytcdmgppjhdpgkaa.Q
open Go Go.RowKit Go.ChangeShapes Go.WideShapes Go.Proofs.YtcdmgppjhdpgkaaW.PrintWords
set_option linter.unusedVariables false
set_option linter.unusedSimpArgs false
def Opens {H : Type} (enc : TypeId × Value → H) (P : Program) (W : World) (base : Nat) (t : TypeId) {α : Type} (d : Kd α) (wf : α → Prop) : Prop :=
 ∀ (spare : Nat → Bool) (held : Bool) (fuel : Nat) (cs : List Value) (x : DataW H × List MemPlace), DataW.trod enc P W base spare held fuel t cs = some x → ∃ v : α, d.K W v cs ∧ wf v
section
variable {H : Type} {enc : TypeId × Value → H} {P : Program} {W : World} {base : Nat}
theorem opens_int {t : TypeId} {k : IntKind} (ht : P.underlying t = some (.int k)) : Opens enc P W base t (Kd.int k) (fun n => (Lit.int k n).wf = true) := by
 intro spare held fuel cs x h
 obtain ⟨n, rfl, _, hw⟩ := DataW.trod_int ht h
 exact ⟨n, rfl, hw⟩
theorem mapM_get {β γ : Type} {f : β → Option γ} : ∀ {l : List β} {cs : List γ}, l.mapM f = some cs → cs.length = l.length ∧ ∀ (i : Nat) (b : β), l[i]? = some b → f b = cs[i]? := by
 intro l
 induction l with
 | nil =>
  intro cs h
  simp at h
  subst h
  exact ⟨rfl, fun i b hb => by simp at hb⟩
 | cons a l ih =>
  intro cs h
  rw [List.mapM_cons] at h
  cases hf : f a with
  | none => simp [hf] at h
  | some y =>
   cases hm : l.mapM f with
   | none => simp [hf, hm] at h
   | some ys =>
    simp [hf, hm] at h
    subst h
    obtain ⟨h1, h2⟩ := ih hm
    refine ⟨by simp [h1], fun i b hb => ?_⟩
    cases i with
    | zero =>
     simp at hb
     subst hb
     simpa using hf
    | succ i =>
     simp at hb
     simpa using h2 i b hb
theorem cells_of {a : Addr} {n : Nat} {cs : List Value} (h : W.cells? base a n = some cs) : cs.length = n ∧ ∀ (i : Nat) (u : Value), cs[i]? = some u → W.cell? (a.add i) = some u := by
 unfold World.cells? at h
 split at h
 ·obtain ⟨h1, h2⟩ := mapM_get h
  rw [List.length_range] at h1
  refine ⟨h1, fun i u hu => ?_⟩
  have hi : i < n := by
   have := (List.getElem?_eq_some_iff.1 hu).1
   omega
  rw [h2 i i (by rw [List.getElem?_range hi]), hu]
 ·cases h
theorem opens_slice {t e : TypeId} {α : Type} {d : Kd α} {wf : α → Prop} (ht : P.underlying t = some (.slice e)) (hc : P.cellsOf e = d.sz) (hm : maxLen ≤ 9223372036854775807) (ho : Opens enc P W base e d wf) [Inhabited α] :
 Opens enc P W base t (Kd.slice e d) (fun xs => xs.length ≤ maxLen ∧ ∀ x ∈ xs, wf x) := by
 intro spare held fuel cs x h
 rcases Deep.open_slice ht h with ⟨rfl, _⟩ | ⟨a, len, cap, m, n, D, Pl, rfl, hb, hl, hcm, hmm, rfl, hx⟩
 ·exact ⟨[], ⟨none, 0, rfl, Nat.le_refl _, rfl, Nat.zero_le _, fun h => absurd h (by simp)⟩, Nat.zero_le _, fun x hx => by simp at hx⟩
 ·have hlm : len ≤ m := by rw [hmm]; split <;> omega
  obtain ⟨F, hF⟩ := Deep.choose_lt (α := α) (n := len) (p := fun i v => ∃ cs', d.K W v cs' ∧ cs'.length = d.sz ∧ (∀ j u, cs'[j]? = some u → W.cell? (a.add (i * d.sz + j)) = some u) ∧ wf v) (fun i hi => by
   obtain ⟨cs', h1, h2⟩ := hx i (by omega)
   obtain ⟨v, hv, hw⟩ := ho spare held n cs' _ h2
   rw [hc] at h1
   obtain ⟨h3, h4⟩ := cells_of h1
   refine ⟨v, cs', hv, h3, fun j u hu => ?_, hw⟩
   have := h4 j u hu
   rwa [Deep.add_add] at this)
  refine ⟨(List.range len).map F, ⟨some a, cap, by simp, by simpa using hl, by simp, by simp; omega, fun _ => ⟨a, rfl, fun j p hj => ?_⟩⟩, by simp; omega, fun x hx => ?_⟩
  ·have hjl : j < len := by
    have := (List.getElem?_eq_some_iff.1 hj).1
    simpa using this
   rw [List.getElem?_map, List.getElem?_range hjl] at hj
   simp at hj
   subst hj
   obtain ⟨cs', h1, h2, h3, _⟩ := hF j hjl
   exact ⟨cs', h2, h1, h3⟩
  ·rw [List.mem_map] at hx
   obtain ⟨i, hi, rfl⟩ := hx
   obtain ⟨_, _, _, _, hw⟩ := hF i (List.mem_range.1 hi)
   exact hw
theorem slice_arg {e : TypeId} {α : Type} {d : Kd α} {xs : List α} {a : Option Addr} {len cap : Nat} (h : (Kd.slice e d).K W xs (Value.cells (.slice a len cap)).toList) : len = xs.length ∧ xs.length ≤ cap ∧ d.C W a xs.length xs := by
 obtain ⟨A, c, hcs, hl, hC⟩ := h
 simp [Value.cells] at hcs
 obtain ⟨rfl, rfl, rfl⟩ := hcs
 exact ⟨rfl, hl, hC⟩
end
end Go.Proofs.Ytcdmgppjhdpgkaa.Q
namespace Go.Proofs.Ytcdmgppjhdpgkaa.Q
open Go Go.RowKit Go.ChangeShapes Go.WideShapes Go.Proofs.YtcdmgppjhdpgkaaW.PrintWords
set_option linter.unusedVariables false
set_option linter.unusedSimpArgs false
section
variable {H : Type} {enc : TypeId × Value → H} {P : Program} {W : World} {base : Nat} {spare : Nat → Bool} {held : Bool} {fuel : Nat} {cs : List Value} {x : DataW H × List MemPlace}
theorem struct_get {t : TypeId} {fs : Array Field} (ht : P.underlying t = some (.struct fs)) (h : DataW.trod enc P W base spare held fuel t cs = some x) :
 cs.length = P.cellsOf t ∧ ∃ m, ∀ (i : Nat) (f : Field), fs.toList[i]? = some f → ∃ y, DataW.trod enc P W base spare held m f.type ((cs.drop f.offset).take (P.cellsOf f.type)) = some y := by
 cases fuel with
 | zero => simp [DataW.trod] at h
 | succ m =>
  unfold DataW.trod at h
  rw [ht] at h
  dsimp only at h
  by_cases hc : cs.length = P.cellsOf t
  ·rw [if_pos hc] at h
   obtain ⟨ys, hy, _⟩ := Option.map_eq_some_iff.1 h
   obtain ⟨h1, h2⟩ := mapM_get hy
   refine ⟨hc, m, fun i f hf => ?_⟩
   have h3 := h2 i f hf
   have hi : i < ys.length := by rw [h1]; exact (List.getElem?_eq_some_iff.1 hf).1
   rw [List.getElem?_eq_getElem hi] at h3
   exact ⟨_, h3⟩
  ·rw [if_neg hc] at h
   cases h
theorem struct_ints4 {t : TypeId} {f0 f1 f2 f3 : Field} {k : IntKind} (ht : P.underlying t = some (.struct #[f0, f1, f2, f3])) (hc : P.cellsOf t = 4)
 (o0 : f0.offset = 0) (o1 : f1.offset = 1) (o2 : f2.offset = 2) (o3 : f3.offset = 3)
 (t0 : P.underlying f0.type = some (.int k)) (t1 : P.underlying f1.type = some (.int k)) (t2 : P.underlying f2.type = some (.int k)) (t3 : P.underlying f3.type = some (.int k))
 (c0 : P.cellsOf f0.type = 1) (c1 : P.cellsOf f1.type = 1) (c2 : P.cellsOf f2.type = 1) (c3 : P.cellsOf f3.type = 1)
 (h : DataW.trod enc P W base spare held fuel t cs = some x) :
 ∃ a b c d : Int, cs = [.int k a, .int k b, .int k c, .int k d] ∧ (Lit.int k a).wf = true ∧ (Lit.int k b).wf = true ∧ (Lit.int k c).wf = true ∧ (Lit.int k d).wf = true := by
 obtain ⟨hl, m, hg⟩ := struct_get ht h
 rw [hc] at hl
 obtain ⟨v0, v1, v2, v3, rfl⟩ : ∃ v0 v1 v2 v3, cs = [v0, v1, v2, v3] := by
  match cs, hl with
  | [v0, v1, v2, v3], _ => exact ⟨v0, v1, v2, v3, rfl⟩
 obtain ⟨y0, h0⟩ := hg 0 f0 rfl
 obtain ⟨y1, h1⟩ := hg 1 f1 rfl
 obtain ⟨y2, h2⟩ := hg 2 f2 rfl
 obtain ⟨y3, h3⟩ := hg 3 f3 rfl
 rw [o0, c0] at h0
 rw [o1, c1] at h1
 rw [o2, c2] at h2
 rw [o3, c3] at h3
 obtain ⟨a, ea, _, wa⟩ := DataW.trod_int t0 h0
 obtain ⟨b, eb, _, wb⟩ := DataW.trod_int t1 h1
 obtain ⟨c, ec, _, wc⟩ := DataW.trod_int t2 h2
 obtain ⟨d, ed, _, wd⟩ := DataW.trod_int t3 h3
 simp at ea eb ec ed
 subst ea eb ec ed
 exact ⟨a, b, c, d, rfl, wa, wb, wc, wd⟩
end
end Go.Proofs.Ytcdmgppjhdpgkaa.Q
