/- Functions of the Go program as Lean functions, each with a proof that the Go code answers just so; each theorem states its own conditions. Written by a program. -/
import Derived.Test.YticcahcfpjghdaaPx0
import Derived.Test.YticcahcfpjghdaaPx1
import Derived.Test.YticcahcfpjghdaaPx2
import Derived.Test.YticcahcfpjghdaaPx4
import Derived.Test.YticcahcfpjghdaaPx5
namespace Go.Proofs.Yticcahcfpjghdaa.P
open Go.RowKit Go.Proofs.YticcahcfpjghdaaW.PrintWords Go.Proofs.YticcahcfpjghdaaW.PrintLast Go.Proofs.YticcahcfpjghdaaW.PrintMore
attribute [local go_sem] max2_int min2_int max_two min_two max_three min_three max_four min_four   -- for this text's walks alone
set_option linter.unusedVariables false
set_option linter.unusedSimpArgs false

/-! ### footlockerlaw02_PolyBack: function 5 -/
mutual
def footlockerlaw02_PolyBack.j0 : Nat → List Int → Int → List Int → Bool → Option (Bool)
  | 0, _, _, _, _ => none
  | k + 1, x0, x1, x2, x26 => if x26 = true then (some true) else (footlockerlaw02_PolyBack.l0 k x0 (wrap64 ((x0.length : Int) + (Go.bits .and .i64 x1 31))) x2 (([] : List Int)) (([] : List Int)) (wrap64 ((x0.length : Int) + (Go.bits .and .i64 x1 31))) 0)
def footlockerlaw02_PolyBack.l0 : Nat → List Int → Int → List Int → List Int → List Int → Int → Int → Option (Bool)
  | 0, _, _, _, _, _, _, _ => none
  | k + 1, x0, x1, x2, x7, x8, x34, x35 => if x35 < x34 then (if x7.length < 140737488355328 then ((poly_Eval.f k x0 ((wrap64 ((wrap64 (7 * x35)) + 3)) % 256)).bind fun t409 => (if x8.length < 140737488355328 then (footlockerlaw02_PolyBack.l0 k x0 x1 x2 (x7 ++ [(wrap64 ((wrap64 (7 * x35)) + 3)) % 256]) (x8 ++ [t409]) x34 (wrap64 (x35 + 1))) else (none))) else (none)) else ((poly_Through.f k x7 x8).bind fun bt413 => (if bt413.2 = 0 then ((poly_Trim.f k x0).bind fun t417 => ((footlockerref01_Same.f k bt413.1 t417).bind fun t420 => (footlockerlaw02_PolyBack.j2 k x1 x2 x7 (!t420)))) else (footlockerlaw02_PolyBack.j2 k x1 x2 x7 true)))
def footlockerlaw02_PolyBack.j2 : Nat → Int → List Int → List Int → Bool → Option (Bool)
  | 0, _, _, _, _ => none
  | k + 1, x1, x2, x7, x67 => if x67 = true then (some false) else (if (x2.length : Int) > x1 then (some true) else (if 0 ≤ (x2.length : Int) then (if (x2.length : Int) ≤ (x7.length : Int) then ((poly_Through.f k (x7.take ((x2.length : Int) : Int).toNat) x2).bind fun bt425 => (footlockerlaw02_PolyBack.l1 k x2 x7 bt425.1 bt425.2 x2 (x2.length : Int) 0)) else (none)) else (none)))
def footlockerlaw02_PolyBack.l1 : Nat → List Int → List Int → List Int → Int → List Int → Int → Int → Option (Bool)
  | 0, _, _, _, _, _, _, _ => none
  | k + 1, x2, x7, x13, x14, x81, x82, x83 => if x83 < x82 then (if 0 ≤ x83 then (if x83 < (x81.length : Int) then (if x83 < (x7.length : Int) then ((poly_Eval.f k x13 (rd x7 x83)).bind fun t431 => (if t431 = (rd x81 x83) then (footlockerlaw02_PolyBack.l1 k x2 x7 x13 x14 x81 x82 (wrap64 (x83 + 1))) else (some false))) else (none)) else (none)) else (none)) else (if x14 = 0 then (some (decide ((x13.length : Int) ≤ (x2.length : Int)))) else (some false))
end
def footlockerlaw02_PolyBack.f (k : Nat) (l0 : List Int) (a1 : Int) (l2 : List Int) : Option (Bool) := (footlockerlaw02_alive.f k).bind fun t399 => (if t399 = true then (if (l0.length : Int) > 30 then (footlockerlaw02_PolyBack.j0 k l0 a1 l2 true) else (footlockerlaw02_PolyBack.j0 k l0 a1 l2 (decide ((l2.length : Int) > 30)))) else (some false))
theorem footlockerlaw02_PolyBack.mono_l : ∀ k, (∀ y0 y1 y2 y3, LeO (footlockerlaw02_PolyBack.j0 k y0 y1 y2 y3) (footlockerlaw02_PolyBack.j0 (k + 1) y0 y1 y2 y3)) ∧ (∀ y0 y1 y2 y3 y4 y5 y6, LeO (footlockerlaw02_PolyBack.l0 k y0 y1 y2 y3 y4 y5 y6) (footlockerlaw02_PolyBack.l0 (k + 1) y0 y1 y2 y3 y4 y5 y6)) ∧ (∀ y0 y1 y2 y3, LeO (footlockerlaw02_PolyBack.j2 k y0 y1 y2 y3) (footlockerlaw02_PolyBack.j2 (k + 1) y0 y1 y2 y3)) ∧ (∀ y0 y1 y2 y3 y4 y5 y6, LeO (footlockerlaw02_PolyBack.l1 k y0 y1 y2 y3 y4 y5 y6) (footlockerlaw02_PolyBack.l1 (k + 1) y0 y1 y2 y3 y4 y5 y6))
  | 0 => ⟨fun _ _ _ _ r h => by simp [footlockerlaw02_PolyBack.j0] at h, fun _ _ _ _ _ _ _ r h => by simp [footlockerlaw02_PolyBack.l0] at h, fun _ _ _ _ r h => by simp [footlockerlaw02_PolyBack.j2] at h, fun _ _ _ _ _ _ _ r h => by simp [footlockerlaw02_PolyBack.l1] at h⟩
  | k + 1 => by
    obtain ⟨ih0, ih1, ih2, ih3⟩ := footlockerlaw02_PolyBack.mono_l k
    refine ⟨?_, ?_, ?_, ?_⟩
    · intro y0 y1 y2 y3
      unfold footlockerlaw02_PolyBack.j0
      repeat' first
      | (with_reducible exact ih0 _ _ _ _)
      | (with_reducible exact ih1 _ _ _ _ _ _ _)
      | (with_reducible exact ih2 _ _ _ _)
      | (with_reducible exact ih3 _ _ _ _ _ _ _)
      | (with_reducible exact footlockerlaw02_alive.mono _)
      | (with_reducible exact footlockerref01_Same.mono _ _ _)
      | (with_reducible exact poly_Eval.mono _ _ _)
      | (with_reducible exact poly_Through.mono _ _ _)
      | (with_reducible exact poly_Trim.mono _ _)
      | (with_reducible exact LeO.refl _)
      | (with_reducible exact LeO.none _)
      | (with_reducible refine LeO.ite ?_ ?_)
      | (with_reducible refine LeO.bind ?_ (fun _ => ?_))
      | exact ih0 _ _ _ _
      | exact ih1 _ _ _ _ _ _ _
      | exact ih2 _ _ _ _
      | exact ih3 _ _ _ _ _ _ _
      | exact footlockerlaw02_alive.mono _
      | exact footlockerref01_Same.mono _ _ _
      | exact poly_Eval.mono _ _ _
      | exact poly_Through.mono _ _ _
      | exact poly_Trim.mono _ _
      | exact LeO.none _
      | refine LeO.ite ?_ ?_
      | refine LeO.bind ?_ (fun _ => ?_)
    · intro y0 y1 y2 y3 y4 y5 y6
      unfold footlockerlaw02_PolyBack.l0
      repeat' first
      | (with_reducible exact ih0 _ _ _ _)
      | (with_reducible exact ih1 _ _ _ _ _ _ _)
      | (with_reducible exact ih2 _ _ _ _)
      | (with_reducible exact ih3 _ _ _ _ _ _ _)
      | (with_reducible exact footlockerlaw02_alive.mono _)
      | (with_reducible exact footlockerref01_Same.mono _ _ _)
      | (with_reducible exact poly_Eval.mono _ _ _)
      | (with_reducible exact poly_Through.mono _ _ _)
      | (with_reducible exact poly_Trim.mono _ _)
      | (with_reducible exact LeO.refl _)
      | (with_reducible exact LeO.none _)
      | (with_reducible refine LeO.ite ?_ ?_)
      | (with_reducible refine LeO.bind ?_ (fun _ => ?_))
      | exact ih0 _ _ _ _
      | exact ih1 _ _ _ _ _ _ _
      | exact ih2 _ _ _ _
      | exact ih3 _ _ _ _ _ _ _
      | exact footlockerlaw02_alive.mono _
      | exact footlockerref01_Same.mono _ _ _
      | exact poly_Eval.mono _ _ _
      | exact poly_Through.mono _ _ _
      | exact poly_Trim.mono _ _
      | exact LeO.none _
      | refine LeO.ite ?_ ?_
      | refine LeO.bind ?_ (fun _ => ?_)
    · intro y0 y1 y2 y3
      unfold footlockerlaw02_PolyBack.j2
      repeat' first
      | (with_reducible exact ih0 _ _ _ _)
      | (with_reducible exact ih1 _ _ _ _ _ _ _)
      | (with_reducible exact ih2 _ _ _ _)
      | (with_reducible exact ih3 _ _ _ _ _ _ _)
      | (with_reducible exact footlockerlaw02_alive.mono _)
      | (with_reducible exact footlockerref01_Same.mono _ _ _)
      | (with_reducible exact poly_Eval.mono _ _ _)
      | (with_reducible exact poly_Through.mono _ _ _)
      | (with_reducible exact poly_Trim.mono _ _)
      | (with_reducible exact LeO.refl _)
      | (with_reducible exact LeO.none _)
      | (with_reducible refine LeO.ite ?_ ?_)
      | (with_reducible refine LeO.bind ?_ (fun _ => ?_))
      | exact ih0 _ _ _ _
      | exact ih1 _ _ _ _ _ _ _
      | exact ih2 _ _ _ _
      | exact ih3 _ _ _ _ _ _ _
      | exact footlockerlaw02_alive.mono _
      | exact footlockerref01_Same.mono _ _ _
      | exact poly_Eval.mono _ _ _
      | exact poly_Through.mono _ _ _
      | exact poly_Trim.mono _ _
      | exact LeO.none _
      | refine LeO.ite ?_ ?_
      | refine LeO.bind ?_ (fun _ => ?_)
    · intro y0 y1 y2 y3 y4 y5 y6
      unfold footlockerlaw02_PolyBack.l1
      repeat' first
      | (with_reducible exact ih0 _ _ _ _)
      | (with_reducible exact ih1 _ _ _ _ _ _ _)
      | (with_reducible exact ih2 _ _ _ _)
      | (with_reducible exact ih3 _ _ _ _ _ _ _)
      | (with_reducible exact footlockerlaw02_alive.mono _)
      | (with_reducible exact footlockerref01_Same.mono _ _ _)
      | (with_reducible exact poly_Eval.mono _ _ _)
      | (with_reducible exact poly_Through.mono _ _ _)
      | (with_reducible exact poly_Trim.mono _ _)
      | (with_reducible exact LeO.refl _)
      | (with_reducible exact LeO.none _)
      | (with_reducible refine LeO.ite ?_ ?_)
      | (with_reducible refine LeO.bind ?_ (fun _ => ?_))
      | exact ih0 _ _ _ _
      | exact ih1 _ _ _ _ _ _ _
      | exact ih2 _ _ _ _
      | exact ih3 _ _ _ _ _ _ _
      | exact footlockerlaw02_alive.mono _
      | exact footlockerref01_Same.mono _ _ _
      | exact poly_Eval.mono _ _ _
      | exact poly_Through.mono _ _ _
      | exact poly_Trim.mono _ _
      | exact LeO.none _
      | refine LeO.ite ?_ ?_
      | refine LeO.bind ?_ (fun _ => ?_)
theorem footlockerlaw02_PolyBack.mono : ∀ a0 a1 a2 k, LeO (footlockerlaw02_PolyBack.f k a0 a1 a2) (footlockerlaw02_PolyBack.f (k + 1) a0 a1 a2) := by
  intro a0 a1 a2 k
  obtain ⟨ih0, ih1, ih2, ih3⟩ := footlockerlaw02_PolyBack.mono_l k
  unfold footlockerlaw02_PolyBack.f
  repeat' first
      | (with_reducible exact ih0 _ _ _ _)
      | (with_reducible exact ih1 _ _ _ _ _ _ _)
      | (with_reducible exact ih2 _ _ _ _)
      | (with_reducible exact ih3 _ _ _ _ _ _ _)
      | (with_reducible exact footlockerlaw02_alive.mono _)
      | (with_reducible exact footlockerref01_Same.mono _ _ _)
      | (with_reducible exact poly_Eval.mono _ _ _)
      | (with_reducible exact poly_Through.mono _ _ _)
      | (with_reducible exact poly_Trim.mono _ _)
      | (with_reducible exact LeO.refl _)
      | (with_reducible exact LeO.none _)
      | (with_reducible refine LeO.ite ?_ ?_)
      | (with_reducible refine LeO.bind ?_ (fun _ => ?_))
      | exact ih0 _ _ _ _
      | exact ih1 _ _ _ _ _ _ _
      | exact ih2 _ _ _ _
      | exact ih3 _ _ _ _ _ _ _
      | exact footlockerlaw02_alive.mono _
      | exact footlockerref01_Same.mono _ _ _
      | exact poly_Eval.mono _ _ _
      | exact poly_Through.mono _ _ _
      | exact poly_Trim.mono _ _
      | exact LeO.none _
      | refine LeO.ite ?_ ?_
      | refine LeO.bind ?_ (fun _ => ?_)
set_option maxHeartbeats 8000000 in
set_option maxRecDepth 100000 in
theorem footlockerlaw02_PolyBack.calls (k : Nat) (A0 : Option Addr) (c0 : Nat) (l0 : List Int) (a1 : Int) (A2 : Option Addr) (c2 : Nat) (l2 : List Int) (r : Bool) (w : World) (hr0 : Kd.C (Kd.int .u8) w A0 l0.length l0) (hc0 : l0.length ≤ c0) (hr2 : Kd.C (Kd.int .u8) w A2 l2.length l2) (hc2 : l2.length ≤ c2) (h : footlockerlaw02_PolyBack.f k l0 a1 l2 = some r) :
    Calls Try.prog 5 #[.slice A0 l0.length c0, .int .i64 a1, .slice A2 l2.length c2] w fun e w' => e = .returned (.bool r) ∧ Below w.heap.size w w' := by
  have HR0 := Aside0.mk hr0
  have HC0 := Aside0.mk hc0
  clear hr0 hc0
  have HR2 := Aside0.mk hr2
  have HC2 := Aside0.mk hc2
  clear hr2 hc2
  have HB := Aside0.mk (Below.refl w.heap.size w)
  have H : ((footlockerlaw02_alive.f k).bind fun t399 => (if t399 = true then (if (l0.length : Int) > 30 then (footlockerlaw02_PolyBack.j0 k l0 a1 l2 true) else (footlockerlaw02_PolyBack.j0 k l0 a1 l2 (decide ((l2.length : Int) > 30)))) else (some false))) = some r := h
  clear h
  replace H := Option.bind_eq_some_iff.mp H
  obtain ⟨t399, A40, H⟩ := H
  replace H : (if t399 = true then (if (l0.length : Int) > 30 then (footlockerlaw02_PolyBack.j0 k l0 a1 l2 true) else (footlockerlaw02_PolyBack.j0 k l0 a1 l2 (decide ((l2.length : Int) > 30)))) else (some false)) = some r := H
  have A4 := Aside0.mk A40
  clear A40
  by_cases c5 : t399 = true
  · subst c5
    have H1 : (if (l0.length : Int) > 30 then (footlockerlaw02_PolyBack.j0 k l0 a1 l2 true) else (footlockerlaw02_PolyBack.j0 k l0 a1 l2 (decide ((l2.length : Int) > 30)))) = some r := by rw [if_pos rfl] at H; exact H
    clear H
    have H := H1
    clear H1
    have HC6 := Aside0.mk H
    clear H
    go_enter Try.func5, Try.ntmps5
    go_upto_region 3 with (first | ((with_reducible refine gate_callee (f := 8) rfl ?_); refine goesL_ (some 17) rfl rfl Try.func8 (by kernel_rfl) rfl #[] rfl (by (try simp only [List.map_toArray, List.map_cons, List.map_nil]); first | done | rfl | (simp only [List.length_drop, List.length_take]; rfl)) ?_; (with_reducible refine (footlockerlaw02_alive.calls k  true _ A4.out).mono ?_); rintro e w7 ⟨rfl, hb⟩; refine ⟨_, rfl, ?_⟩; have n0_ := Aside0.mk (below_step (by repeat (first | (with_reducible first | exact HB.out | apply below_alloc | apply pw_below_drewN | apply below_drew1) | exact HB.out)) hb); clear HB; have HB := n0_; clear n0_; (try clear hb); (try clear hb2); (try clear hk); (try clear hi)))
    (try simp only [Act.put, List.setIfInBounds_toArray, List.set_cons_zero, List.set_cons_succ])
    go_cut [26] (fun v26 wc => ∃ (kq : Nat) (x26_5 : Bool), v26 = .bool x26_5 ∧ Aside0 (footlockerlaw02_PolyBack.j0 kq l0 a1 l2 x26_5 = some r) ∧ Aside0 (kq ≤ k) ∧ Aside0 (Below w.heap.size w wc))
    case first =>
      have H := HC6.out
      clear HC6
      by_cases c8 : (l0.length : Int) > 30
      · rw [if_pos c8] at H
        have c8b0 : decide (30 < (l0.length : Int)) = true := decide_eq_true c8
        have c8b1 : decide (30 < l0.length) = true := decide_eq_true (by omega)
        clear c8
        (first | rw [c8b0] | (simp only [i64_w, i32_w]; rw [c8b0]) | skip)
        have H' := Aside0.mk H
        clear H
        go_wp2
        go_meet
        case rel => exact ⟨_, (true), (by first | rfl | (simp; done) | (simp [*]; done)), H', ⟨by first | omega | exact Nat.le_refl _⟩, ⟨by repeat (first | (with_reducible first | exact HB.out | apply below_alloc | apply pw_below_drewN | apply below_drew1) | exact HB.out)⟩⟩
      · rw [if_neg c8] at H
        have c8b0 : decide (30 < (l0.length : Int)) = false := decide_eq_false c8
        have c8b1 : decide (30 < l0.length) = false := decide_eq_false (by omega)
        clear c8
        (first | rw [c8b0] | (simp only [i64_w, i32_w]; rw [c8b0]) | skip)
        have H' := Aside0.mk H
        clear H
        go_wp2
        go_meet
        case rel => exact ⟨_, (decide ((l2.length : Int) > 30)), (by first | rfl | (simp; done) | (simp [*]; done)), H', ⟨by first | omega | exact Nat.le_refl _⟩, ⟨by repeat (first | (with_reducible first | exact HB.out | apply below_alloc | apply pw_below_drewN | apply below_drew1) | exact HB.out)⟩⟩
    case rest =>
      clear HC6
      try clear c2
      try clear p2
      try clear c5
      try clear c8
      try clear c8b0
      try clear c8b1
      obtain ⟨kq, x26_5, rfl, HA, HJ5, HB⟩ := hcut
      cases kq with
      | zero => exact absurd HA.out (by simp [footlockerlaw02_PolyBack.j0])
      | succ kj5 =>
        have H := HA.out
        clear HA
        simp only [footlockerlaw02_PolyBack.j0] at H
        by_cases c9 : x26_5 = true
        · subst c9
          have H1 : (some true) = some r := by rw [if_pos rfl] at H; exact H
          clear H
          have H := H1
          clear H1
          obtain rfl := Option.some.inj H
          go_wp2
          go_ret
          exact ⟨by first | rfl | (simp [errW_none, errW_some] <;> rfl) | (simp [*, errW_none, errW_some] <;> rfl), by repeat (first | (with_reducible first | exact HB.out | apply below_alloc | apply pw_below_drewN | apply below_drew1) | exact HB.out)⟩
        · replace c9 := Bool.eq_false_iff.mpr c9
          subst c9
          have H1 : (footlockerlaw02_PolyBack.l0 kj5 l0 (wrap64 ((l0.length : Int) + (Go.bits .and .i64 a1 31))) l2 (([] : List Int)) (([] : List Int)) (wrap64 ((l0.length : Int) + (Go.bits .and .i64 a1 31))) 0) = some r := by rw [if_neg (show ¬ (false = true) by decide)] at H; exact H
          clear H
          have H := H1
          clear H1
          obtain ⟨y400, hy400⟩ : ∃ y_ : List Int, y_ = (([] : List Int)) := ⟨_, rfl⟩
          replace H : (footlockerlaw02_PolyBack.l0 kj5 l0 (wrap64 ((l0.length : Int) + (Go.bits .and .i64 a1 31))) l2 y400 (([] : List Int)) (wrap64 ((l0.length : Int) + (Go.bits .and .i64 a1 31))) 0) = some r := by first | (rw [hy400]; with_reducible exact H) | (have H2_ := (Option.bind_some _ _).symm.trans H; rw [hy400]; with_reducible exact H2_) | (have H2_ := (Option.bind_some _ _).symm.trans H; with_reducible exact H2_) | with_reducible exact H | (rw [hy400]; exact H) | exact H
          have Ny400 := Aside0.mk hy400
          clear hy400
          obtain ⟨y403, hy403⟩ : ∃ y_ : List Int, y_ = (([] : List Int)) := ⟨_, rfl⟩
          replace H : (footlockerlaw02_PolyBack.l0 kj5 l0 (wrap64 ((l0.length : Int) + (Go.bits .and .i64 a1 31))) l2 y400 y403 (wrap64 ((l0.length : Int) + (Go.bits .and .i64 a1 31))) 0) = some r := by first | (rw [hy403]; with_reducible exact H) | (have H2_ := (Option.bind_some _ _).symm.trans H; rw [hy403]; with_reducible exact H2_) | (have H2_ := (Option.bind_some _ _).symm.trans H; with_reducible exact H2_) | with_reducible exact H | (rw [hy403]; exact H) | exact H
          have Ny403 := Aside0.mk hy403
          clear hy403
          have H' := Aside0.mk H
          clear H
          go_wp2_with (first | ((with_reducible refine gate_dst (N := 32) rfl ?_); (try (refine gate_guard (by rfl) ?_; dsimp only)); refine Kd.R_lit (Kd.int .u8) _ 5 ?hg (N := 32) ?hd (xs := ([] : List Int)) (inner := []) (ok := fun _ => True) (okp := fun _ => True) ?hr ?hp (fun _ hk => hk) trivial (Below.refl _ _) (Nat.le_refl _) (by simp) ?_; (case hd => rfl); (case hg => rfl); (case hr => first | (go_simp; done) | (go_simp; rfl)); (case hp => exact (Reps.none _ _)); intro v401 w10 ho11 hb hg_ hnew_; clear hg_ hnew_; (first | rw [← Ny400.out] at ho11 | (simp only [Int.reduceToNat] at ho11; rw [← Ny400.out] at ho11)); have n0_ := Aside0.mk (Kd.R_lower ho11 (below_size (by repeat (first | (with_reducible first | exact HB.out | apply below_alloc | apply pw_below_drewN | apply below_drew1) | exact HB.out)))); have n1_ := Aside0.mk (below_step (by repeat (first | (with_reducible first | exact HB.out | apply below_alloc | apply pw_below_drewN | apply below_drew1) | exact HB.out)) hb); clear HB; have HO402 := n0_; have HB := n1_; clear n0_ n1_; clear hb ho11) | ((with_reducible refine gate_dst (N := 33) rfl ?_); (try (refine gate_guard (by rfl) ?_; dsimp only)); refine Kd.R_lit (Kd.int .u8) _ 5 ?hg (N := 33) ?hd (xs := ([] : List Int)) (inner := []) (ok := fun _ => True) (okp := fun _ => True) ?hr ?hp (fun _ hk => hk) trivial (Below.refl _ _) (Nat.le_refl _) (by simp) ?_; (case hd => rfl); (case hg => rfl); (case hr => first | (go_simp; done) | (go_simp; rfl)); (case hp => exact (Reps.none _ _)); intro v404 w12 ho13 hb hg_ hnew_; clear hg_ hnew_; (first | rw [← Ny403.out] at ho13 | (simp only [Int.reduceToNat] at ho13; rw [← Ny403.out] at ho13)); have n0_ := Aside0.mk (Kd.R_elder' (by (with_reducible repeat (first | apply Kd.R_alloc | apply Kd.R_drewN | apply Kd.R_drew)); exact HO402.out) (Kd.R_base ho13) hb); have n1_ := Aside0.mk (Kd.R_lower (Kd.R_new' ho13 (Kd.R_lt (by (with_reducible repeat (first | apply Kd.R_alloc | apply Kd.R_drewN | apply Kd.R_drew)); exact HO402.out))) (below_size (by repeat (first | (with_reducible first | exact HB.out | apply below_alloc | apply pw_below_drewN | apply below_drew1) | exact HB.out)))); have n2_ := Aside0.mk (below_step (by repeat (first | (with_reducible first | exact HB.out | apply below_alloc | apply pw_below_drewN | apply below_drew1) | exact HB.out)) hb); clear HO402; clear HB; have HO402 := n0_; have HO405 := n1_; have HB := n2_; clear n0_ n1_ n2_; clear hb ho13))
          go_loopg [7, 8, 35] kj5 (fun kq v7 v8 v35 w' => ∃ (x7_2 : List Int) (x8_2 : List Int) (x35_2 : Int), v35 = .int .i64 x35_2 ∧ Aside0 (footlockerlaw02_PolyBack.l0 kq l0 (wrap64 ((l0.length : Int) + (Go.bits .and .i64 a1 31))) l2 x7_2 x8_2 (wrap64 ((l0.length : Int) + (Go.bits .and .i64 a1 31))) x35_2 = some r) ∧ Aside0 (kq ≤ kj5) ∧ Aside0 (Kd.R (Kd.int .u8) 5 w' w.heap.size (fun k_ => some k_ ≠ (v8 : Value).ownBlock) v7 x7_2) ∧ Aside0 (Kd.R (Kd.int .u8) 5 w' w.heap.size (fun k_ => some k_ ≠ (v7 : Value).ownBlock) v8 x8_2) ∧ Aside0 (Below w.heap.size w w'))
          case atStart => exact ⟨(y400), (y403), (0), (by first | rfl | (simp; done) | (simp [*]; done)), H', ⟨Nat.le_refl _⟩, ⟨by (with_reducible repeat (first | apply Kd.R_alloc | apply Kd.R_drewN | apply Kd.R_drew)); exact Kd.R_mono HO402.out (fun _ hk => hk.2)⟩, ⟨by (with_reducible repeat (first | apply Kd.R_alloc | apply Kd.R_drewN | apply Kd.R_drew)); exact Kd.R_mono HO405.out (fun _ hk => hk.2)⟩, ⟨by repeat (first | (with_reducible first | exact HB.out | apply below_alloc | apply pw_below_drewN | apply below_drew1) | exact HB.out)⟩⟩
          case round =>
            clear H'
            try clear c2
            try clear p2
            try clear c5
            try clear p6
            try clear c8
            try clear c8b0
            try clear c8b1
            try clear c9
            try clear p2
            obtain ⟨x7_2, x8_2, x35_2, rfl, HA, HK2, HO_7, HO_8, HB⟩ := hrel
            cases gk with
            | zero => exact absurd HA.out (by simp [footlockerlaw02_PolyBack.l0])
            | succ k2 =>
              have H := HA.out
              clear HA
              simp only [footlockerlaw02_PolyBack.l0] at H
              by_cases c14 : x35_2 < (wrap64 ((l0.length : Int) + (Go.bits .and .i64 a1 31)))
              · rw [if_pos c14] at H
                have c14b0 : decide (x35_2 < (wrap64 ((l0.length : Int) + (Go.bits .and .i64 a1 31)))) = true := decide_eq_true c14
                clear c14
                by_cases c15 : x7_2.length < 140737488355328
                · rw [if_pos c15] at H
                  have LMc15 := Aside0.mk c15
                  clear c15
                  obtain ⟨y406, hy406⟩ : ∃ y_ : List Int, y_ = (x7_2 ++ [(wrap64 ((wrap64 (7 * x35_2)) + 3)) % 256]) := ⟨_, rfl⟩
                  replace H : ((poly_Eval.f k2 l0 ((wrap64 ((wrap64 (7 * x35_2)) + 3)) % 256)).bind fun t409 => (if x8_2.length < 140737488355328 then (footlockerlaw02_PolyBack.l0 k2 l0 (wrap64 ((l0.length : Int) + (Go.bits .and .i64 a1 31))) l2 y406 (x8_2 ++ [t409]) (wrap64 ((l0.length : Int) + (Go.bits .and .i64 a1 31))) (wrap64 (x35_2 + 1))) else (none))) = some r := by first | (rw [hy406]; with_reducible exact H) | (have H2_ := (Option.bind_some _ _).symm.trans H; rw [hy406]; with_reducible exact H2_) | (have H2_ := (Option.bind_some _ _).symm.trans H; with_reducible exact H2_) | with_reducible exact H | (rw [hy406]; exact H) | exact H
                  have Ny406 := Aside0.mk hy406
                  clear hy406
                  replace H := Option.bind_eq_some_iff.mp H
                  obtain ⟨t409, A160, H⟩ := H
                  replace H : (if x8_2.length < 140737488355328 then (footlockerlaw02_PolyBack.l0 k2 l0 (wrap64 ((l0.length : Int) + (Go.bits .and .i64 a1 31))) l2 y406 (x8_2 ++ [t409]) (wrap64 ((l0.length : Int) + (Go.bits .and .i64 a1 31))) (wrap64 (x35_2 + 1))) else (none)) = some r := H
                  have A16 := Aside0.mk A160
                  clear A160
                  by_cases c17 : x8_2.length < 140737488355328
                  · rw [if_pos c17] at H
                    have LMc17 := Aside0.mk c17
                    clear c17
                    obtain ⟨y410, hy410⟩ : ∃ y_ : List Int, y_ = (x8_2 ++ [t409]) := ⟨_, rfl⟩
                    replace H : (footlockerlaw02_PolyBack.l0 k2 l0 (wrap64 ((l0.length : Int) + (Go.bits .and .i64 a1 31))) l2 y406 y410 (wrap64 ((l0.length : Int) + (Go.bits .and .i64 a1 31))) (wrap64 (x35_2 + 1))) = some r := by first | (rw [hy410]; with_reducible exact H) | (have H2_ := (Option.bind_some _ _).symm.trans H; rw [hy410]; with_reducible exact H2_) | (have H2_ := (Option.bind_some _ _).symm.trans H; with_reducible exact H2_) | with_reducible exact H | (rw [hy410]; exact H) | exact H
                    have Ny410 := Aside0.mk hy410
                    clear hy410
                    have H' := Aside0.mk H
                    clear H
                    go_wp2_with (first | ((with_reducible refine gate_builtin (b := .append) (xs := #[.tmp 42, .tmp 44]) rfl ?_); (try (refine gate_guard (by rfl) ?_; dsimp only)); at_builtin; refine Kd.R_append (Kd.int .u8) (w0 := w) w.heap.size rfl (.tmp 42) (.tmp 44) 22 5 (.int .u8 0) 1 rfl Try.underlying22 info5 rfl (by decide) (by omega) u7 x7_2 ((wrap64 ((wrap64 (7 * x35_2)) + 3)) % 256) [.int .u8 ((wrap64 ((wrap64 (7 * x35_2)) + 3)) % 256)] (fun k_ => some k_ ≠ (u8 : Value).ownBlock) (fun _ => False) rfl rfl ?aP (fun _ hk => hk.elim) ?aF ?aO ?aB ?aS ?aL ?_; (case aP => exact rfl); (case aB => exact (by repeat (first | (with_reducible first | exact HB.out | apply below_alloc | apply pw_below_drewN | apply below_drew1) | exact HB.out))); (case aF => exact (fun k_ hk => Kd.fresh' (Kd.R_lt (by (with_reducible repeat (first | apply Kd.R_alloc | apply Kd.R_drewN | apply Kd.R_drew)); exact HO_8.out)) k_ hk)); (case aO => exact (by (with_reducible repeat (first | apply Kd.R_alloc | apply Kd.R_drewN | apply Kd.R_drew)); exact HO_7.out)); (case aS => exact (below_size (by repeat (first | (with_reducible first | exact HB.out | apply below_alloc | apply pw_below_drewN | apply below_drew1) | exact HB.out)))); (case aL => have := LMc15.out; omega); intro v407 w18 ho hb hg hat; rw [← Ny406.out] at ho; have n0_ := Aside0.mk (Kd.R_after (ok := (fun _ => True)) (by (with_reducible repeat (first | apply Kd.R_alloc | apply Kd.R_drewN | apply Kd.R_drew)); exact Kd.R_mono HO_8.out (fun _ hk => ⟨trivial, hk⟩)) hg hat); have n1_ := Aside0.mk (hb); have n2_ := Aside0.mk (ho); clear HO_8; clear HB; clear HO_7; have HO_8 := n0_; have HB := n1_; have HO408 := n2_; clear n0_ n1_ n2_; clear ho hb hg hat) | ((with_reducible refine gate_callee (f := 17) rfl ?_); refine goesL_ (some 49) rfl rfl Try.func17 (by kernel_rfl) rfl #[.slice A0 l0.length c0, .int .u8 ((wrap64 ((wrap64 (7 * x35_2)) + 3)) % 256)] rfl (by (try simp only [List.map_toArray, List.map_cons, List.map_nil]); first | done | rfl | (simp only [List.length_drop, List.length_take]; rfl)) ?_; (with_reducible refine (poly_Eval.calls k2 _ _ l0 ((wrap64 ((wrap64 (7 * x35_2)) + 3)) % 256) t409 _ ?side1 ?side2 A16.out).mono ?_); (case side1 => repeat (first | exact (Kd.C_below HR0.out HB.out) | (with_reducible refine Kd.C_alloc ?_ _) | (with_reducible refine Kd.C_drewN ?_ _) | (with_reducible refine Kd.C_drew ?_))); (case side2 => exact HC0.out); rintro e w' ⟨rfl, ⟨nd, rfl⟩⟩; refine ⟨_, rfl, ?_⟩) | ((with_reducible refine gate_builtin (b := .append) (xs := #[.tmp 46, .tmp 50]) rfl ?_); (try (refine gate_guard (by rfl) ?_; dsimp only)); at_builtin; refine Kd.R_append (Kd.int .u8) (w0 := w) w.heap.size rfl (.tmp 46) (.tmp 50) 22 5 (.int .u8 0) 1 rfl Try.underlying22 info5 rfl (by decide) (by omega) u8 x8_2 t409 [.int .u8 t409] (fun k_ => some k_ ≠ (v407 : Value).ownBlock) (fun _ => False) rfl rfl ?aP (fun _ hk => hk.elim) ?aF ?aO ?aB ?aS ?aL ?_; (case aP => exact rfl); (case aB => exact (by repeat (first | (with_reducible first | exact HB.out | apply below_alloc | apply pw_below_drewN | apply below_drew1) | exact HB.out))); (case aF => exact (fun k_ hk => Kd.fresh' (Kd.R_lt (by (with_reducible repeat (first | apply Kd.R_alloc | apply Kd.R_drewN | apply Kd.R_drew)); exact HO408.out)) k_ hk)); (case aO => exact (by (with_reducible repeat (first | apply Kd.R_alloc | apply Kd.R_drewN | apply Kd.R_drew)); exact Kd.R_mono HO_8.out (fun _ hk => hk.2))); (case aS => exact (below_size (by repeat (first | (with_reducible first | exact HB.out | apply below_alloc | apply pw_below_drewN | apply below_drew1) | exact HB.out)))); (case aL => have := LMc17.out; omega); intro v411 w19 ho hb hg hat; rw [← Ny410.out] at ho; have n0_ := Aside0.mk (Kd.R_after (ok := (fun _ => True)) (by (with_reducible repeat (first | apply Kd.R_alloc | apply Kd.R_drewN | apply Kd.R_drew)); exact Kd.R_mono HO408.out (fun _ hk => ⟨trivial, hk⟩)) hg hat); have n1_ := Aside0.mk (hb); have n2_ := Aside0.mk (ho); clear HO408; clear HB; clear HO_8; have HO408 := n0_; have HB := n1_; have HO412 := n2_; clear n0_ n1_ n2_; clear ho hb hg hat))
                    go_roundg k2
                    case measure => have := HJ5.out; have := HK2.out; omega
                    case rel => exact ⟨(y406), (y410), (wrap64 (x35_2 + 1)), (by first | rfl | (simp; done) | (simp [*]; done)), H', ⟨by have := HJ5.out; have := HK2.out; omega⟩, ⟨by (with_reducible repeat (first | apply Kd.R_alloc | apply Kd.R_drewN | apply Kd.R_drew)); exact Kd.R_mono HO408.out (fun _ hk => hk.2)⟩, ⟨by (with_reducible repeat (first | apply Kd.R_alloc | apply Kd.R_drewN | apply Kd.R_drew)); exact HO412.out⟩, ⟨by repeat (first | (with_reducible first | exact HB.out | apply below_alloc | apply pw_below_drewN | apply below_drew1) | exact HB.out)⟩⟩
                  · rw [if_neg c17] at H
                    exact absurd H (by simp)
                · rw [if_neg c15] at H
                  exact absurd H (by simp)
              · rw [if_neg c14] at H
                have c14b0 : decide (x35_2 < (wrap64 ((l0.length : Int) + (Go.bits .and .i64 a1 31)))) = false := decide_eq_false c14
                clear c14
                replace H := Option.bind_eq_some_iff.mp H
                obtain ⟨⟨t413, t414⟩, A200, H⟩ := H
                replace H : (if t414 = 0 then ((poly_Trim.f k2 l0).bind fun t417 => ((footlockerref01_Same.f k2 t413 t417).bind fun t420 => (footlockerlaw02_PolyBack.j2 k2 (wrap64 ((l0.length : Int) + (Go.bits .and .i64 a1 31))) l2 x7_2 (!t420)))) else (footlockerlaw02_PolyBack.j2 k2 (wrap64 ((l0.length : Int) + (Go.bits .and .i64 a1 31))) l2 x7_2 true)) = some r := H
                have A20 := Aside0.mk A200
                clear A200
                have HC21 := Aside0.mk H
                clear H
                obtain ⟨Ao22, co22, eo22⟩ := Kd.R_slice HO_7.out
                subst eo22
                obtain ⟨Ao23, co23, eo23⟩ := Kd.R_slice HO_8.out
                subst eo23
                go_upto_region 14 with (first | ((with_reducible refine gate_callee (f := 20) rfl ?_); refine goesL_ (some 56) rfl rfl Try.func20 (by kernel_rfl) rfl #[.slice Ao22 x7_2.length co22, .slice Ao23 x8_2.length co23] rfl (by (try simp only [List.map_toArray, List.map_cons, List.map_nil]); first | done | rfl | (simp only [List.length_drop, List.length_take]; rfl)) ?_; (with_reducible refine (poly_Through.calls k2 _ _ x7_2 _ _ x8_2 t413 t414 _ ?side1 ?side2 ?side3 ?side4 A20.out).mono ?_); (case side1 => repeat (first | exact (Kd.R_reads' HO_7.out).2.2 | (with_reducible refine Kd.C_alloc ?_ _) | (with_reducible refine Kd.C_drewN ?_ _) | (with_reducible refine Kd.C_drew ?_))); (case side2 => exact (Kd.R_reads' HO_7.out).2.1); (case side3 => repeat (first | exact (Kd.R_reads' HO_8.out).2.2 | (with_reducible refine Kd.C_alloc ?_ _) | (with_reducible refine Kd.C_drewN ?_ _) | (with_reducible refine Kd.C_drew ?_))); (case side4 => exact (Kd.R_reads' HO_8.out).2.1); rintro e w24 ⟨v415, rfl, ho0, hb⟩; refine ⟨_, rfl, ?_⟩; have n0_ := Aside0.mk (Kd.R_elder' (by (with_reducible repeat (first | apply Kd.R_alloc | apply Kd.R_drewN | apply Kd.R_drew)); exact HO_7.out) (Kd.R_base ho0) hb); have n1_ := Aside0.mk (Kd.R_elder' (by (with_reducible repeat (first | apply Kd.R_alloc | apply Kd.R_drewN | apply Kd.R_drew)); exact HO_8.out) (Kd.R_base ho0) hb); have n2_ := Aside0.mk (Kd.R_lower (Kd.R_new' (Kd.R_new' ho0 (Kd.R_lt (by (with_reducible repeat (first | apply Kd.R_alloc | apply Kd.R_drewN | apply Kd.R_drew)); exact HO_7.out))) (Kd.R_lt (by (with_reducible repeat (first | apply Kd.R_alloc | apply Kd.R_drewN | apply Kd.R_drew)); exact HO_8.out))) (below_size (by repeat (first | (with_reducible first | exact HB.out | apply below_alloc | apply pw_below_drewN | apply below_drew1) | exact HB.out)))); have n3_ := Aside0.mk (below_step (by repeat (first | (with_reducible first | exact HB.out | apply below_alloc | apply pw_below_drewN | apply below_drew1) | exact HB.out)) hb); clear HO_7; clear HO_8; clear HB; have HO_7 := n0_; have HO_8 := n1_; have HO416 := n2_; have HB := n3_; clear n0_ n1_ n2_ n3_; (try clear hb); (try clear hb2); (try clear hk); (try clear hi); (try clear ho0)))
                (try simp only [Act.put, List.setIfInBounds_toArray, List.set_cons_zero, List.set_cons_succ])
                go_cut [67] (fun v67 wc => ∃ (kq : Nat) (x67_20 : Bool), v67 = .bool x67_20 ∧ Aside0 (footlockerlaw02_PolyBack.j2 kq (wrap64 ((l0.length : Int) + (Go.bits .and .i64 a1 31))) l2 x7_2 x67_20 = some r) ∧ Aside0 (kq ≤ k2) ∧ Aside0 (Kd.R (Kd.int .u8) 5 wc w.heap.size (fun _ => True) (.slice Ao22 x7_2.length co22) x7_2) ∧ Aside0 (Below w.heap.size w wc))
                case first =>
                  have H := HC21.out
                  clear HC21
                  by_cases c25 : t414 = 0
                  · rw [if_pos c25] at H
                    have c25b0 : (t414 == 0) = true := beq_iff_eq.mpr c25
                    have c25b1 : (t414 != 0) = false := bne_eq_false_iff_eq.mpr c25
                    clear c25
                    (first | rw [c25b0] | (simp only [i64_w, i32_w]; rw [c25b0]) | skip)
                    replace H := Option.bind_eq_some_iff.mp H
                    obtain ⟨t417, A260, H⟩ := H
                    replace H : ((footlockerref01_Same.f k2 t413 t417).bind fun t420 => (footlockerlaw02_PolyBack.j2 k2 (wrap64 ((l0.length : Int) + (Go.bits .and .i64 a1 31))) l2 x7_2 (!t420))) = some r := H
                    have A26 := Aside0.mk A260
                    clear A260
                    replace H := Option.bind_eq_some_iff.mp H
                    obtain ⟨t420, A270, H⟩ := H
                    replace H : (footlockerlaw02_PolyBack.j2 k2 (wrap64 ((l0.length : Int) + (Go.bits .and .i64 a1 31))) l2 x7_2 (!t420)) = some r := H
                    have A27 := Aside0.mk A270
                    clear A270
                    have H' := Aside0.mk H
                    clear H
                    go_wp2_with (first | (go_at_call 11; (with_reducible refine (poly_Trim.calls k2 _ _ l0 t417 _ ?side1 ?side2 A26.out).mono ?_); (case side1 => repeat (first | exact (Kd.C_below HR0.out HB.out) | (with_reducible refine Kd.C_alloc ?_ _) | (with_reducible refine Kd.C_drewN ?_ _) | (with_reducible refine Kd.C_drew ?_))); (case side2 => exact HC0.out); rintro e w28 ⟨v418, rfl, ho0, hb⟩; have n0_ := Aside0.mk (Kd.R_elder' (by (with_reducible repeat (first | apply Kd.R_alloc | apply Kd.R_drewN | apply Kd.R_drew)); exact HO_7.out) (Kd.R_base ho0) hb); have n1_ := Aside0.mk (Kd.R_elder' (by (with_reducible repeat (first | apply Kd.R_alloc | apply Kd.R_drewN | apply Kd.R_drew)); exact HO_8.out) (Kd.R_base ho0) hb); have n2_ := Aside0.mk (Kd.R_elder' (by (with_reducible repeat (first | apply Kd.R_alloc | apply Kd.R_drewN | apply Kd.R_drew)); exact HO416.out) (Kd.R_base ho0) hb); have n3_ := Aside0.mk (Kd.R_lower (Kd.R_new' (Kd.R_new' (Kd.R_new' ho0 (Kd.R_lt (by (with_reducible repeat (first | apply Kd.R_alloc | apply Kd.R_drewN | apply Kd.R_drew)); exact HO_7.out))) (Kd.R_lt (by (with_reducible repeat (first | apply Kd.R_alloc | apply Kd.R_drewN | apply Kd.R_drew)); exact HO_8.out))) (Kd.R_lt (by (with_reducible repeat (first | apply Kd.R_alloc | apply Kd.R_drewN | apply Kd.R_drew)); exact HO416.out))) (below_size (by repeat (first | (with_reducible first | exact HB.out | apply below_alloc | apply pw_below_drewN | apply below_drew1) | exact HB.out)))); have n4_ := Aside0.mk (below_step (by repeat (first | (with_reducible first | exact HB.out | apply below_alloc | apply pw_below_drewN | apply below_drew1) | exact HB.out)) hb); clear HO_7; clear HO_8; clear HO416; clear HB; have HO_7 := n0_; have HO_8 := n1_; have HO416 := n2_; have HO419 := n3_; have HB := n4_; clear n0_ n1_ n2_ n3_ n4_; (try clear hb); (try clear hb2); (try clear hk); (try clear hi); (try clear ho0); obtain ⟨Ao29, co29, eo29⟩ := Kd.R_slice HO416.out; subst eo29; obtain ⟨Ao30, co30, eo30⟩ := Kd.R_slice HO419.out; subst eo30) | (go_at_call 10; (with_reducible refine (footlockerref01_Same.calls k2 _ _ t413 _ _ t417 t420 _ ?side1 ?side2 ?side3 ?side4 A27.out).mono ?_); (case side1 => repeat (first | exact (Kd.R_reads' HO416.out).2.2 | (with_reducible refine Kd.C_alloc ?_ _) | (with_reducible refine Kd.C_drewN ?_ _) | (with_reducible refine Kd.C_drew ?_))); (case side2 => exact (Kd.R_reads' HO416.out).2.1); (case side3 => repeat (first | exact (Kd.R_reads' HO419.out).2.2 | (with_reducible refine Kd.C_alloc ?_ _) | (with_reducible refine Kd.C_drewN ?_ _) | (with_reducible refine Kd.C_drew ?_))); (case side4 => exact (Kd.R_reads' HO419.out).2.1); rintro e w' ⟨rfl, ⟨nd, rfl⟩⟩))
                    go_meet
                    case rel => exact ⟨_, (!t420), (by first | rfl | (simp; done) | (simp [*]; done)), H', ⟨by have := HJ5.out; have := HK2.out; first | omega | exact Nat.le_refl _⟩, ⟨by (with_reducible repeat (first | apply Kd.R_alloc | apply Kd.R_drewN | apply Kd.R_drew)); exact Kd.R_mono HO_7.out (fun _ hk => trivial)⟩, ⟨by repeat (first | (with_reducible first | exact HB.out | apply below_alloc | apply pw_below_drewN | apply below_drew1) | exact HB.out)⟩⟩
                  · rw [if_neg c25] at H
                    have c25b0 : (t414 == 0) = false := beq_eq_false_iff_ne.mpr c25
                    have c25b1 : (t414 != 0) = true := bne_iff_ne.mpr c25
                    (first | rw [c25b0] | (simp only [i64_w, i32_w]; rw [c25b0]) | skip)
                    have H' := Aside0.mk H
                    clear H
                    go_wp2
                    go_meet
                    case rel => exact ⟨_, (true), (by first | rfl | (simp; done) | (simp [*]; done)), H', ⟨by have := HJ5.out; have := HK2.out; first | omega | exact Nat.le_refl _⟩, ⟨by (with_reducible repeat (first | apply Kd.R_alloc | apply Kd.R_drewN | apply Kd.R_drew)); exact Kd.R_mono HO_7.out (fun _ hk => trivial)⟩, ⟨by repeat (first | (with_reducible first | exact HB.out | apply below_alloc | apply pw_below_drewN | apply below_drew1) | exact HB.out)⟩⟩
                case rest =>
                  clear HC21
                  try clear c1
                  try clear c2
                  try clear p2
                  try clear c5
                  try clear p6
                  try clear c8
                  try clear c8b0
                  try clear c8b1
                  try clear c9
                  try clear c14
                  try clear c14b0
                  try clear c15
                  try clear c17
                  try clear c20
                  try clear c25
                  try clear c25b0
                  try clear c25b1
                  try clear p2
                  try clear p6
                  obtain ⟨kq, x67_20, rfl, HA, HJ20, HO_7, HB⟩ := hcut
                  cases kq with
                  | zero => exact absurd HA.out (by simp [footlockerlaw02_PolyBack.j2])
                  | succ kj20 =>
                    have H := HA.out
                    clear HA
                    simp only [footlockerlaw02_PolyBack.j2] at H
                    by_cases c31 : x67_20 = true
                    · subst c31
                      have H1 : (some false) = some r := by rw [if_pos rfl] at H; exact H
                      clear H
                      have H := H1
                      clear H1
                      obtain rfl := Option.some.inj H
                      go_wp2
                      go_ret
                      exact ⟨by first | rfl | (simp [errW_none, errW_some] <;> rfl) | (simp [*, errW_none, errW_some] <;> rfl), by repeat (first | (with_reducible first | exact HB.out | apply below_alloc | apply pw_below_drewN | apply below_drew1) | exact HB.out)⟩
                    · replace c31 := Bool.eq_false_iff.mpr c31
                      subst c31
                      have H1 : (if (l2.length : Int) > (wrap64 ((l0.length : Int) + (Go.bits .and .i64 a1 31))) then (some true) else (if 0 ≤ (l2.length : Int) then (if (l2.length : Int) ≤ (x7_2.length : Int) then ((poly_Through.f kj20 (x7_2.take ((l2.length : Int) : Int).toNat) l2).bind fun bt425 => (footlockerlaw02_PolyBack.l1 kj20 l2 x7_2 bt425.1 bt425.2 l2 (l2.length : Int) 0)) else (none)) else (none))) = some r := by rw [if_neg (show ¬ (false = true) by decide)] at H; exact H
                      clear H
                      have H := H1
                      clear H1
                      by_cases c32 : (l2.length : Int) > (wrap64 ((l0.length : Int) + (Go.bits .and .i64 a1 31)))
                      · rw [if_pos c32] at H
                        have c32b0 : decide ((wrap64 ((l0.length : Int) + (Go.bits .and .i64 a1 31))) < (l2.length : Int)) = true := decide_eq_true c32
                        clear c32
                        obtain rfl := Option.some.inj H
                        go_wp2
                        go_ret
                        exact ⟨by first | rfl | (simp [errW_none, errW_some] <;> rfl) | (simp [*, errW_none, errW_some] <;> rfl), by repeat (first | (with_reducible first | exact HB.out | apply below_alloc | apply pw_below_drewN | apply below_drew1) | exact HB.out)⟩
                      · rw [if_neg c32] at H
                        have c32b0 : decide ((wrap64 ((l0.length : Int) + (Go.bits .and .i64 a1 31))) < (l2.length : Int)) = false := decide_eq_false c32
                        clear c32
                        by_cases c33 : 0 ≤ (l2.length : Int)
                        · rw [if_pos c33] at H
                          have c33b0 := eq_true c33
                          have c33b1 : decide (0 ≤ (l2.length : Int)) = true := decide_eq_true c33
                          clear c33
                          by_cases c34 : (l2.length : Int) ≤ (x7_2.length : Int)
                          · rw [if_pos c34] at H
                            have c34b0 := eq_true c34
                            have c34b1 : decide ((l2.length : Int) ≤ (x7_2.length : Int)) = true := decide_eq_true c34
                            clear c34
                            obtain ⟨y421, hy421⟩ : ∃ y_ : List Int, y_ = (x7_2.take ((l2.length : Int) : Int).toNat) := ⟨_, rfl⟩
                            replace H : ((poly_Through.f kj20 y421 l2).bind fun bt425 => (footlockerlaw02_PolyBack.l1 kj20 l2 x7_2 bt425.1 bt425.2 l2 (l2.length : Int) 0)) = some r := by first | (rw [hy421]; with_reducible exact H) | (have H2_ := (Option.bind_some _ _).symm.trans H; rw [hy421]; with_reducible exact H2_) | (have H2_ := (Option.bind_some _ _).symm.trans H; with_reducible exact H2_) | with_reducible exact H | (rw [hy421]; exact H) | exact H
                            have Ny421 := Aside0.mk hy421
                            clear hy421
                            replace H := Option.bind_eq_some_iff.mp H
                            obtain ⟨⟨t425, t426⟩, A350, H⟩ := H
                            replace H : (footlockerlaw02_PolyBack.l1 kj20 l2 x7_2 t425 t426 l2 (l2.length : Int) 0) = some r := H
                            have A35 := Aside0.mk A350
                            clear A350
                            have H' := Aside0.mk H
                            clear H
                            have q36 : ((l2.length : Int) : Int) ≤ ((x7_2.length : Int) : Int) := of_decide_eq_true (by first | (with_reducible assumption) | assumption)
                            obtain ⟨i036, hi036, _, hsz36, _⟩ := info_parts info5
                            have hroom36 : x7_2.length ≤ co22 := (Kd.R_reads' HO_7.out).2.1
                            have hC36 : Kd.C (Kd.int .u8) _ Ao22 x7_2.length x7_2 := (Kd.R_reads' HO_7.out).2.2
                            have hcut36 := cut_to (P := Try.prog) 22 5 .i64 Try.underlying22 hi036 Ao22 x7_2.length co22 (l2.length : Int) (of_decide_eq_true (by first | (with_reducible assumption) | assumption)) q36 hroom36
                            have hr36 := Kd.C_take (m := ((l2.length : Int) : Int).toNat) hC36 (by omega)
                            have hy36 : y421.length = ((l2.length : Int) : Int).toNat := (by rw [Ny421.out, List.length_take]; omega)
                            rw [← Ny421.out] at hr36
                            rw [← hy36] at hcut36
                            have HR424 := Aside0.mk hr36
                            have HC424 := Aside0.mk (show y421.length ≤ co22 from by omega)
                            clear hr36 hC36 hroom36 hi036 hsz36
                            have KY36 := Aside0.mk hy36
                            clear hy36
                            have KL36 := Aside0.mk (show ((l2.length : Int) : Int).toNat ≤ x7_2.length from by omega)
                            replace q36 := eq_true q36
                            go_wp2_with (first | ((with_reducible refine gate_callee (f := 20) rfl ?_); refine goesL_ (some 78) rfl rfl Try.func20 (by kernel_rfl) rfl #[.slice Ao22 y421.length co22, .slice A2 l2.length c2] rfl (by (try simp only [List.map_toArray, List.map_cons, List.map_nil]); first | done | rfl | (simp only [List.length_drop, List.length_take]; rfl)) ?_; (with_reducible refine (poly_Through.calls kj20 _ _ y421 _ _ l2 t425 t426 _ ?side1 ?side2 ?side3 ?side4 A35.out).mono ?_); (case side1 => repeat (first | exact (by repeat (first | (with_reducible exact HR424.out) | (with_reducible refine Kd.C_alloc ?_ _) | (with_reducible refine Kd.C_drewN ?_ _) | (with_reducible refine Kd.C_drew ?_) | exact HR424.out)) | (with_reducible refine Kd.C_alloc ?_ _) | (with_reducible refine Kd.C_drewN ?_ _) | (with_reducible refine Kd.C_drew ?_))); (case side2 => exact HC424.out); (case side3 => repeat (first | exact (Kd.C_below HR2.out HB.out) | (with_reducible refine Kd.C_alloc ?_ _) | (with_reducible refine Kd.C_drewN ?_ _) | (with_reducible refine Kd.C_drew ?_))); (case side4 => exact HC2.out); rintro e w37 ⟨v427, rfl, ho0, hb⟩; refine ⟨_, rfl, ?_⟩; have n0_ := Aside0.mk (Kd.R_elder' (by (with_reducible repeat (first | apply Kd.R_alloc | apply Kd.R_drewN | apply Kd.R_drew)); exact HO_7.out) (Kd.R_base ho0) hb); have n1_ := Aside0.mk (Kd.R_lower (Kd.R_new' ho0 (Kd.R_lt (by (with_reducible repeat (first | apply Kd.R_alloc | apply Kd.R_drewN | apply Kd.R_drew)); exact HO_7.out))) (below_size (by repeat (first | (with_reducible first | exact HB.out | apply below_alloc | apply pw_below_drewN | apply below_drew1) | exact HB.out)))); have n2_ := Aside0.mk (Kd.C_below (by repeat (first | (with_reducible exact HR424.out) | (with_reducible refine Kd.C_alloc ?_ _) | (with_reducible refine Kd.C_drewN ?_ _) | (with_reducible refine Kd.C_drew ?_) | exact HR424.out)) hb); have n3_ := Aside0.mk (below_step (by repeat (first | (with_reducible first | exact HB.out | apply below_alloc | apply pw_below_drewN | apply below_drew1) | exact HB.out)) hb); clear HO_7; clear HR424; clear HB; have HO_7 := n0_; have HO428 := n1_; have HR424 := n2_; have HB := n3_; clear n0_ n1_ n2_ n3_; (try clear hb); (try clear hb2); (try clear hk); (try clear hi); (try clear ho0)))
                            go_loopg [83] kj20 (fun kq v83 w' => ∃ (x83_4 : Int), v83 = .int .i64 x83_4 ∧ Aside0 (footlockerlaw02_PolyBack.l1 kq l2 x7_2 t425 t426 l2 (l2.length : Int) x83_4 = some r) ∧ Aside0 (kq ≤ kj20) ∧ Aside0 (Kd.R (Kd.int .u8) 5 w' w.heap.size (fun k_ => some k_ ≠ (v427 : Value).ownBlock) (.slice Ao22 x7_2.length co22) x7_2) ∧ Aside0 (Kd.R (Kd.int .u8) 5 w' w.heap.size (fun k_ => some k_ ≠ ((.slice Ao22 x7_2.length co22) : Value).ownBlock) v427 t425) ∧ Aside0 (Kd.C (Kd.int .u8) w' Ao22 y421.length y421) ∧ Aside0 (Below w.heap.size w w'))
                            case atStart => exact ⟨(0), (by first | rfl | (simp; done) | (simp [*]; done)), H', ⟨Nat.le_refl _⟩, ⟨by (with_reducible repeat (first | apply Kd.R_alloc | apply Kd.R_drewN | apply Kd.R_drew)); exact Kd.R_mono HO_7.out (fun _ hk => hk.2)⟩, ⟨by (with_reducible repeat (first | apply Kd.R_alloc | apply Kd.R_drewN | apply Kd.R_drew)); exact Kd.R_mono HO428.out (fun _ hk => hk.2)⟩, ⟨by repeat (first | (with_reducible exact HR424.out) | (with_reducible refine Kd.C_alloc ?_ _) | (with_reducible refine Kd.C_drewN ?_ _) | (with_reducible refine Kd.C_drew ?_) | exact HR424.out)⟩, ⟨by repeat (first | (with_reducible first | exact HB.out | apply below_alloc | apply pw_below_drewN | apply below_drew1) | exact HB.out)⟩⟩
                            case round =>
                              clear H'
                              try clear c1
                              try clear c2
                              try clear p2
                              try clear c3
                              try clear q3
                              try clear c5
                              try clear p6
                              try clear c8
                              try clear c8b0
                              try clear c8b1
                              try clear c9
                              try clear c14
                              try clear c14b0
                              try clear c15
                              try clear c17
                              try clear c20
                              try clear c25
                              try clear c25b0
                              try clear c25b1
                              try clear c31
                              try clear c32
                              try clear c32b0
                              try clear c33
                              try clear c33b0
                              try clear c33b1
                              try clear c34
                              try clear c34b0
                              try clear c34b1
                              try clear q36
                              try clear p2
                              try clear p6
                              try clear q36
                              obtain ⟨x83_4, rfl, HA, HK4, HO_7, HO_13, HR424, HB⟩ := hrel
                              cases gk with
                              | zero => exact absurd HA.out (by simp [footlockerlaw02_PolyBack.l1])
                              | succ k4 =>
                                have H := HA.out
                                clear HA
                                simp only [footlockerlaw02_PolyBack.l1] at H
                                by_cases c38 : x83_4 < (l2.length : Int)
                                · rw [if_pos c38] at H
                                  have c38b0 : decide (x83_4 < (l2.length : Int)) = true := decide_eq_true c38
                                  clear c38
                                  by_cases c39 : 0 ≤ x83_4
                                  · rw [if_pos c39] at H
                                    have c39b0 : decide (0 ≤ x83_4) = true := decide_eq_true c39
                                    clear c39
                                    by_cases c40 : x83_4 < (l2.length : Int)
                                    · rw [if_pos c40] at H
                                      have c40b0 : decide (x83_4 < (l2.length : Int)) = true := decide_eq_true c40
                                      clear c40
                                      by_cases c41 : x83_4 < (x7_2.length : Int)
                                      · rw [if_pos c41] at H
                                        have c41b0 : decide (x83_4 < (x7_2.length : Int)) = true := decide_eq_true c41
                                        clear c41
                                        replace H := Option.bind_eq_some_iff.mp H
                                        obtain ⟨t431, A420, H⟩ := H
                                        replace H : (if t431 = (rd l2 x83_4) then (footlockerlaw02_PolyBack.l1 k4 l2 x7_2 t425 t426 l2 (l2.length : Int) (wrap64 (x83_4 + 1))) else (some false)) = some r := H
                                        have A42 := Aside0.mk A420
                                        clear A420
                                        by_cases c43 : t431 = (rd l2 x83_4)
                                        · rw [if_pos c43] at H
                                          have c43b0 : (t431 == (rd l2 x83_4)) = true := beq_iff_eq.mpr c43
                                          have c43b1 : (t431 != (rd l2 x83_4)) = false := bne_eq_false_iff_eq.mpr c43
                                          clear c43
                                          have H' := Aside0.mk H
                                          clear H
                                          have p429 : 0 ≤ (x83_4 : Int) := of_decide_eq_true (by first | (with_reducible assumption) | assumption)
                                          have q429 : x83_4 < (l2.length : Int) := of_decide_eq_true (by first | (with_reducible assumption) | assumption)
                                          obtain ⟨ad429, e429, hx429_0⟩ := Kd.at_int HR2.out x83_4 p429 q429
                                          cases e429
                                          replace hx429_0 := (HB.out.cell (World.block_lt_of_cell? w _ hx429_0)).trans hx429_0
                                          replace p429 := eq_true p429
                                          replace q429 := eq_true q429
                                          have p430 : 0 ≤ (x83_4 : Int) := of_decide_eq_true (by first | (with_reducible assumption) | assumption)
                                          have q430 : x83_4 < (x7_2.length : Int) := of_decide_eq_true (by first | (with_reducible assumption) | assumption)
                                          obtain ⟨ad430, e430, hx430_0⟩ := Kd.at_int (Kd.R_reads' HO_7.out).2.2 x83_4 p430 q430
                                          cases e430
                                          replace p430 := eq_true p430
                                          replace q430 := eq_true q430
                                          obtain ⟨Ao44, co44, eo44⟩ := Kd.R_slice HO_13.out
                                          subst eo44
                                          go_wp2_with (first | ((with_reducible refine gate_callee (f := 17) rfl ?_); refine goesL_ (some 93) rfl rfl Try.func17 (by kernel_rfl) rfl #[.slice Ao44 t425.length co44, .int .u8 (rd x7_2 x83_4)] rfl (by (try simp only [List.map_toArray, List.map_cons, List.map_nil]); first | done | rfl | (simp only [List.length_drop, List.length_take]; rfl)) ?_; (with_reducible refine (poly_Eval.calls k4 _ _ t425 (rd x7_2 x83_4) t431 _ ?side1 ?side2 A42.out).mono ?_); (case side1 => repeat (first | exact (Kd.R_reads' HO_13.out).2.2 | (with_reducible refine Kd.C_alloc ?_ _) | (with_reducible refine Kd.C_drewN ?_ _) | (with_reducible refine Kd.C_drew ?_))); (case side2 => exact (Kd.R_reads' HO_13.out).2.1); rintro e w' ⟨rfl, ⟨nd, rfl⟩⟩; refine ⟨_, rfl, ?_⟩))
                                          go_roundg k4
                                          case measure => have := HJ5.out; have := HK2.out; have := HJ20.out; have := HK4.out; omega
                                          case rel => exact ⟨(wrap64 (x83_4 + 1)), (by first | rfl | (simp; done) | (simp [*]; done)), H', ⟨by have := HJ5.out; have := HK2.out; have := HJ20.out; have := HK4.out; omega⟩, ⟨by (with_reducible repeat (first | apply Kd.R_alloc | apply Kd.R_drewN | apply Kd.R_drew)); exact HO_7.out⟩, ⟨by (with_reducible repeat (first | apply Kd.R_alloc | apply Kd.R_drewN | apply Kd.R_drew)); exact HO_13.out⟩, ⟨by repeat (first | (with_reducible exact HR424.out) | (with_reducible refine Kd.C_alloc ?_ _) | (with_reducible refine Kd.C_drewN ?_ _) | (with_reducible refine Kd.C_drew ?_) | exact HR424.out)⟩, ⟨by repeat (first | (with_reducible first | exact HB.out | apply below_alloc | apply pw_below_drewN | apply below_drew1) | exact HB.out)⟩⟩
                                        · rw [if_neg c43] at H
                                          have c43b0 : (t431 == (rd l2 x83_4)) = false := beq_eq_false_iff_ne.mpr c43
                                          have c43b1 : (t431 != (rd l2 x83_4)) = true := bne_iff_ne.mpr c43
                                          obtain rfl := Option.some.inj H
                                          have p429 : 0 ≤ (x83_4 : Int) := of_decide_eq_true (by first | (with_reducible assumption) | assumption)
                                          have q429 : x83_4 < (l2.length : Int) := of_decide_eq_true (by first | (with_reducible assumption) | assumption)
                                          obtain ⟨ad429, e429, hx429_0⟩ := Kd.at_int HR2.out x83_4 p429 q429
                                          cases e429
                                          replace hx429_0 := (HB.out.cell (World.block_lt_of_cell? w _ hx429_0)).trans hx429_0
                                          replace p429 := eq_true p429
                                          replace q429 := eq_true q429
                                          have p430 : 0 ≤ (x83_4 : Int) := of_decide_eq_true (by first | (with_reducible assumption) | assumption)
                                          have q430 : x83_4 < (x7_2.length : Int) := of_decide_eq_true (by first | (with_reducible assumption) | assumption)
                                          obtain ⟨ad430, e430, hx430_0⟩ := Kd.at_int (Kd.R_reads' HO_7.out).2.2 x83_4 p430 q430
                                          cases e430
                                          replace p430 := eq_true p430
                                          replace q430 := eq_true q430
                                          obtain ⟨Ao45, co45, eo45⟩ := Kd.R_slice HO_13.out
                                          subst eo45
                                          go_wp2_with (first | ((with_reducible refine gate_callee (f := 17) rfl ?_); refine goesL_ (some 93) rfl rfl Try.func17 (by kernel_rfl) rfl #[.slice Ao45 t425.length co45, .int .u8 (rd x7_2 x83_4)] rfl (by (try simp only [List.map_toArray, List.map_cons, List.map_nil]); first | done | rfl | (simp only [List.length_drop, List.length_take]; rfl)) ?_; (with_reducible refine (poly_Eval.calls k4 _ _ t425 (rd x7_2 x83_4) t431 _ ?side1 ?side2 A42.out).mono ?_); (case side1 => repeat (first | exact (Kd.R_reads' HO_13.out).2.2 | (with_reducible refine Kd.C_alloc ?_ _) | (with_reducible refine Kd.C_drewN ?_ _) | (with_reducible refine Kd.C_drew ?_))); (case side2 => exact (Kd.R_reads' HO_13.out).2.1); rintro e w' ⟨rfl, ⟨nd, rfl⟩⟩; refine ⟨_, rfl, ?_⟩))
                                          go_ret
                                          exact ⟨by first | rfl | (simp [errW_none, errW_some] <;> rfl) | (simp [*, errW_none, errW_some] <;> rfl), by repeat (first | (with_reducible first | exact HB.out | apply below_alloc | apply pw_below_drewN | apply below_drew1) | exact HB.out)⟩
                                      · rw [if_neg c41] at H
                                        exact absurd H (by simp)
                                    · rw [if_neg c40] at H
                                      exact absurd H (by simp)
                                  · rw [if_neg c39] at H
                                    exact absurd H (by simp)
                                · rw [if_neg c38] at H
                                  have c38b0 : decide (x83_4 < (l2.length : Int)) = false := decide_eq_false c38
                                  clear c38
                                  by_cases c46 : t426 = 0
                                  · rw [if_pos c46] at H
                                    have c46b0 : (t426 == 0) = true := beq_iff_eq.mpr c46
                                    have c46b1 : (t426 != 0) = false := bne_eq_false_iff_eq.mpr c46
                                    clear c46
                                    obtain rfl := Option.some.inj H
                                    obtain ⟨Ao47, co47, eo47⟩ := Kd.R_slice HO_13.out
                                    subst eo47
                                    go_wp2
                                    go_ret
                                    exact ⟨by first | rfl | (simp [errW_none, errW_some] <;> rfl) | (simp [*, errW_none, errW_some] <;> rfl), by repeat (first | (with_reducible first | exact HB.out | apply below_alloc | apply pw_below_drewN | apply below_drew1) | exact HB.out)⟩
                                  · rw [if_neg c46] at H
                                    have c46b0 : (t426 == 0) = false := beq_eq_false_iff_ne.mpr c46
                                    have c46b1 : (t426 != 0) = true := bne_iff_ne.mpr c46
                                    obtain rfl := Option.some.inj H
                                    go_wp2
                                    go_ret
                                    exact ⟨by first | rfl | (simp [errW_none, errW_some] <;> rfl) | (simp [*, errW_none, errW_some] <;> rfl), by repeat (first | (with_reducible first | exact HB.out | apply below_alloc | apply pw_below_drewN | apply below_drew1) | exact HB.out)⟩
                          · rw [if_neg c34] at H
                            exact absurd H (by simp)
                        · rw [if_neg c33] at H
                          exact absurd H (by simp)
  · replace c5 := Bool.eq_false_iff.mpr c5
    subst c5
    have H1 : (some false) = some r := by rw [if_neg (show ¬ (false = true) by decide)] at H; exact H
    clear H
    have H := H1
    clear H1
    obtain rfl := Option.some.inj H
    go_enter Try.func5, Try.ntmps5
    go_wp2_with (first | ((with_reducible refine gate_callee (f := 8) rfl ?_); refine goesL_ (some 17) rfl rfl Try.func8 (by kernel_rfl) rfl #[] rfl (by (try simp only [List.map_toArray, List.map_cons, List.map_nil]); first | done | rfl | (simp only [List.length_drop, List.length_take]; rfl)) ?_; (with_reducible refine (footlockerlaw02_alive.calls k  false _ A4.out).mono ?_); rintro e w48 ⟨rfl, hb⟩; refine ⟨_, rfl, ?_⟩; have n0_ := Aside0.mk (below_step (by repeat (first | (with_reducible first | exact HB.out | apply below_alloc | apply pw_below_drewN | apply below_drew1) | exact HB.out)) hb); clear HB; have HB := n0_; clear n0_; (try clear hb); (try clear hb2); (try clear hk); (try clear hi)))
    go_ret
    exact ⟨by first | rfl | (simp [errW_none, errW_some] <;> rfl) | (simp [*, errW_none, errW_some] <;> rfl), by repeat (first | (with_reducible first | exact HB.out | apply below_alloc | apply pw_below_drewN | apply below_drew1) | exact HB.out)⟩

/-- THE ONE PURE STATEMENT of footlockerlaw02_PolyBack: yours. -/
def footlockerlaw02_PolyBack.Pure : Prop := ∀ (l0 : List Int) (a1 : Int) (l2 : List Int), l0.length ≤ maxLen → l0.length * 1 ≤ 140737488351232 → (∀ x ∈ l0, (Lit.int .u8 x).wf = true) → (Lit.int .i64 a1).wf = true → l2.length ≤ maxLen → l2.length * 1 ≤ 140737488351232 → (∀ x ∈ l2, (Lit.int .u8 x).wf = true) → ∃ k, footlockerlaw02_PolyBack.f k l0 a1 l2 = some true
theorem footlockerlaw02_PolyBack.walk (P : footlockerlaw02_PolyBack.Pure) (a0 : Option Addr) (len0 cap0 : Nat) (z0 : List Int) (a1 : Int) (a2 : Option Addr) (len2 cap2 : Nat) (z2 : List Int) (w : World) (w0 : (a0 = none ∧ len0 = 0 ∧ cap0 = 0 ∧ z0 = []) ∨ ∃ x, a0 = some x ∧ len0 ≤ cap0 ∧ cap0 ≤ maxLen ∧ z0.length = cap0 ∧ (∀ i, i < z0.length → w.cell? (x.add i) = some (.int .u8 (z0.getD i 0))) ∧ ∀ n ∈ z0, (Lit.int .u8 n).wf = true) (y0 : len0 * 1 ≤ 140737488351232) (w1 : (Lit.int .i64 a1).wf = true) (w2 : (a2 = none ∧ len2 = 0 ∧ cap2 = 0 ∧ z2 = []) ∨ ∃ x, a2 = some x ∧ len2 ≤ cap2 ∧ cap2 ≤ maxLen ∧ z2.length = cap2 ∧ (∀ i, i < z2.length → w.cell? (x.add i) = some (.int .u8 (z2.getD i 0))) ∧ ∀ n ∈ z2, (Lit.int .u8 n).wf = true) (y2 : len2 * 1 ≤ 140737488351232) :
    Calls Try.prog 5 #[.slice a0 len0 cap0, .int .i64 a1, .slice a2 len2 cap2] w fun e w' => e = .returned (.bool true) ∧ Below w.heap.size w w' := by
  obtain ⟨l0, rfl, hr0, hm0, hw0, hc0⟩ := ReadsInt.ofRowC w0
  obtain ⟨l2, rfl, hr2, hm2, hw2, hc2⟩ := ReadsInt.ofRowC w2
  obtain ⟨k, h⟩ := P l0 a1 l2 hm0 y0 hw0 w1 hm2 y2 hw2
  refine (footlockerlaw02_PolyBack.calls k _ _ l0 a1 _ _ l2 true w (Kd.C_of_reads (d := (0 : Int)) (h1 := fun _ => rfl) hr0) hc0 (Kd.C_of_reads (d := (0 : Int)) (h1 := fun _ => rfl) hr2) hc2 h).mono ?_
  rintro e w' ⟨rfl, hd⟩
  exact ⟨rfl, hd⟩

end Go.Proofs.Yticcahcfpjghdaa.P
