/- Functions of the Go program as Lean functions, each with a proof that the Go code answers just so; each theorem states its own conditions. Written by a program. -/
import Derived.Test.YtanknpdibjfmlaaPx0
import Derived.Test.YtanknpdibjfmlaaPx4
import Derived.Test.YtanknpdibjfmlaaPx5
import Derived.Test.YtanknpdibjfmlaaPx6
import Derived.Test.YtanknpdibjfmlaaPx9
import Derived.Test.YtanknpdibjfmlaaPx11
namespace Go.Proofs.Ytanknpdibjfmlaa.P
open Go.RowKit Go.Proofs.YtanknpdibjfmlaaW.PrintWords Go.Proofs.YtanknpdibjfmlaaW.PrintLast Go.Proofs.YtanknpdibjfmlaaW.PrintMore
attribute [local go_sem] max2_int min2_int max_two min_two max_three min_three max_four min_four   -- for this text's walks alone
set_option linter.unusedVariables false
set_option linter.unusedSimpArgs false

/-! ### footlockerlaw03_LinearSolves: function 4 -/
def footlockerlaw03_LinearSolves.j0 : Nat → List (List Int) → List Int → Bool → Option (Bool)
  | 0, _, _, _ => none
  | k + 1, x0, x1, x18 => if x18 = true then (some true) else ((linear_Solve.f k x0 x1).bind fun bt337 => ((footlockerref03_Solve.f k x0 x1).bind fun bt341 => (if (bt337.2 == bt341.2) = true then ((footlockerref01_Same.f k bt337.1 bt341.1).bind fun t345 => (some t345)) else (some false))))
def footlockerlaw03_LinearSolves.f (k : Nat) (l0 : List (List Int)) (l1 : List Int) : Option (Bool) := (footlockerlaw03_alive.f k).bind fun t335 => (if t335 = true then ((footlockerlaw03_small.f k l0).bind fun t336 => (if t336 = true then (footlockerlaw03_LinearSolves.j0 k l0 l1 (decide ((l1.length : Int) > 30))) else (footlockerlaw03_LinearSolves.j0 k l0 l1 true))) else (some false))
theorem footlockerlaw03_LinearSolves.mono_l : ∀ k, (∀ y0 y1 y2, LeO (footlockerlaw03_LinearSolves.j0 k y0 y1 y2) (footlockerlaw03_LinearSolves.j0 (k + 1) y0 y1 y2))
  | 0 => fun _ _ _ r h => by simp [footlockerlaw03_LinearSolves.j0] at h
  | k + 1 => by
    have ih0 := footlockerlaw03_LinearSolves.mono_l k
    · intro y0 y1 y2
      unfold footlockerlaw03_LinearSolves.j0
      repeat' first
      | (with_reducible exact ih0 _ _ _)
      | (with_reducible exact footlockerlaw03_alive.mono _)
      | (with_reducible exact footlockerlaw03_small.mono _ _)
      | (with_reducible exact footlockerref01_Same.mono _ _ _)
      | (with_reducible exact footlockerref03_Solve.mono _ _ _)
      | (with_reducible exact linear_Solve.mono _ _ _)
      | (with_reducible exact LeO.refl _)
      | (with_reducible exact LeO.none _)
      | (with_reducible refine LeO.ite ?_ ?_)
      | (with_reducible refine LeO.bind ?_ (fun _ => ?_))
      | exact ih0 _ _ _
      | exact footlockerlaw03_alive.mono _
      | exact footlockerlaw03_small.mono _ _
      | exact footlockerref01_Same.mono _ _ _
      | exact footlockerref03_Solve.mono _ _ _
      | exact linear_Solve.mono _ _ _
      | exact LeO.none _
      | refine LeO.ite ?_ ?_
      | refine LeO.bind ?_ (fun _ => ?_)
theorem footlockerlaw03_LinearSolves.mono : ∀ a0 a1 k, LeO (footlockerlaw03_LinearSolves.f k a0 a1) (footlockerlaw03_LinearSolves.f (k + 1) a0 a1) := by
  intro a0 a1 k
  have ih0 := footlockerlaw03_LinearSolves.mono_l k
  unfold footlockerlaw03_LinearSolves.f
  repeat' first
      | (with_reducible exact ih0 _ _ _)
      | (with_reducible exact footlockerlaw03_alive.mono _)
      | (with_reducible exact footlockerlaw03_small.mono _ _)
      | (with_reducible exact footlockerref01_Same.mono _ _ _)
      | (with_reducible exact footlockerref03_Solve.mono _ _ _)
      | (with_reducible exact linear_Solve.mono _ _ _)
      | (with_reducible exact LeO.refl _)
      | (with_reducible exact LeO.none _)
      | (with_reducible refine LeO.ite ?_ ?_)
      | (with_reducible refine LeO.bind ?_ (fun _ => ?_))
      | exact ih0 _ _ _
      | exact footlockerlaw03_alive.mono _
      | exact footlockerlaw03_small.mono _ _
      | exact footlockerref01_Same.mono _ _ _
      | exact footlockerref03_Solve.mono _ _ _
      | exact linear_Solve.mono _ _ _
      | exact LeO.none _
      | refine LeO.ite ?_ ?_
      | refine LeO.bind ?_ (fun _ => ?_)
set_option maxHeartbeats 8000000 in
set_option maxRecDepth 100000 in
theorem footlockerlaw03_LinearSolves.calls (k : Nat) (A0 : Option Addr) (c0 : Nat) (l0 : List (List Int)) (A1 : Option Addr) (c1 : Nat) (l1 : List Int) (r : Bool) (w : World) (hr0 : Kd.C (Kd.slice 5 (Kd.int .u8)) w A0 l0.length l0) (hc0 : l0.length ≤ c0) (hr1 : Kd.C (Kd.int .u8) w A1 l1.length l1) (hc1 : l1.length ≤ c1) (h : footlockerlaw03_LinearSolves.f k l0 l1 = some r) :
    Calls Try.prog 4 #[.slice A0 l0.length c0, .slice A1 l1.length c1] w fun e w' => e = .returned (.bool r) ∧ Below w.heap.size w w' := by
  have HR0 := Aside0.mk hr0
  have HC0 := Aside0.mk hc0
  clear hr0 hc0
  have HR1 := Aside0.mk hr1
  have HC1 := Aside0.mk hc1
  clear hr1 hc1
  have HB := Aside0.mk (Below.refl w.heap.size w)
  have H : ((footlockerlaw03_alive.f k).bind fun t335 => (if t335 = true then ((footlockerlaw03_small.f k l0).bind fun t336 => (if t336 = true then (footlockerlaw03_LinearSolves.j0 k l0 l1 (decide ((l1.length : Int) > 30))) else (footlockerlaw03_LinearSolves.j0 k l0 l1 true))) else (some false))) = some r := h
  clear h
  replace H := Option.bind_eq_some_iff.mp H
  obtain ⟨t335, A30, H⟩ := H
  replace H : (if t335 = true then ((footlockerlaw03_small.f k l0).bind fun t336 => (if t336 = true then (footlockerlaw03_LinearSolves.j0 k l0 l1 (decide ((l1.length : Int) > 30))) else (footlockerlaw03_LinearSolves.j0 k l0 l1 true))) else (some false)) = some r := H
  have A3 := Aside0.mk A30
  clear A30
  by_cases c4 : t335 = true
  · subst c4
    have H1 : ((footlockerlaw03_small.f k l0).bind fun t336 => (if t336 = true then (footlockerlaw03_LinearSolves.j0 k l0 l1 (decide ((l1.length : Int) > 30))) else (footlockerlaw03_LinearSolves.j0 k l0 l1 true))) = some r := by rw [if_pos rfl] at H; exact H
    clear H
    have H := H1
    clear H1
    have HC5 := Aside0.mk H
    clear H
    go_enter Try.func4, Try.ntmps4
    go_upto_region 3 with (first | ((with_reducible refine gate_callee (f := 9) rfl ?_); refine goesL_ (some 9) rfl rfl Try.func9 (by kernel_rfl) rfl #[] rfl (by (try simp only [List.map_toArray, List.map_cons, List.map_nil]); first | done | rfl | (simp only [List.length_drop, List.length_take]; rfl)) ?_; (with_reducible refine (footlockerlaw03_alive.calls k  true _ A3.out).mono ?_); rintro e w6 ⟨rfl, hb⟩; refine ⟨_, rfl, ?_⟩; have n0_ := Aside0.mk (below_step (by repeat (first | (with_reducible first | exact HB.out | apply below_alloc | apply pw_below_drewN | apply below_drew1) | exact HB.out)) hb); clear HB; have HB := n0_; clear n0_; (try clear hb); (try clear hb2); (try clear hk); (try clear hi)))
    (try simp only [Act.put, List.setIfInBounds_toArray, List.set_cons_zero, List.set_cons_succ])
    go_cut [18] (fun v18 wc => ∃ (kq : Nat) (x18_4 : Bool), v18 = .bool x18_4 ∧ Aside0 (footlockerlaw03_LinearSolves.j0 kq l0 l1 x18_4 = some r) ∧ Aside0 (kq ≤ k) ∧ Aside0 (Below w.heap.size w wc))
    case first =>
      have H := HC5.out
      clear HC5
      replace H := Option.bind_eq_some_iff.mp H
      obtain ⟨t336, A70, H⟩ := H
      replace H : (if t336 = true then (footlockerlaw03_LinearSolves.j0 k l0 l1 (decide ((l1.length : Int) > 30))) else (footlockerlaw03_LinearSolves.j0 k l0 l1 true)) = some r := H
      have A7 := Aside0.mk A70
      clear A70
      by_cases c8 : t336 = true
      · subst c8
        have H1 : (footlockerlaw03_LinearSolves.j0 k l0 l1 (decide ((l1.length : Int) > 30))) = some r := by rw [if_pos rfl] at H; exact H
        clear H
        have H := H1
        clear H1
        have H' := Aside0.mk H
        clear H
        go_wp2_with (first | ((with_reducible refine gate_callee (f := 10) rfl ?_); refine goesL_ (some 12) rfl rfl Try.func10 (by kernel_rfl) rfl #[.slice A0 l0.length c0] rfl (by (try simp only [List.map_toArray, List.map_cons, List.map_nil]); first | done | rfl | (simp only [List.length_drop, List.length_take]; rfl)) ?_; (with_reducible refine (footlockerlaw03_small.calls k _ _ l0 true _ ?side1 ?side2 A7.out).mono ?_); (case side1 => repeat (first | exact (Kd.C_below HR0.out HB.out) | (with_reducible refine Kd.C_alloc ?_ _) | (with_reducible refine Kd.C_drewN ?_ _) | (with_reducible refine Kd.C_drew ?_))); (case side2 => exact HC0.out); rintro e w' ⟨rfl, ⟨nd, rfl⟩⟩; refine ⟨_, rfl, ?_⟩))
        go_meet
        case rel => exact ⟨_, (decide ((l1.length : Int) > 30)), (by first | rfl | (simp; done) | (simp [*]; done)), H', ⟨by first | omega | exact Nat.le_refl _⟩, ⟨by repeat (first | (with_reducible first | exact HB.out | apply below_alloc | apply pw_below_drewN | apply below_drew1) | exact HB.out)⟩⟩
      · replace c8 := Bool.eq_false_iff.mpr c8
        subst c8
        have H1 : (footlockerlaw03_LinearSolves.j0 k l0 l1 true) = some r := by rw [if_neg (show ¬ (false = true) by decide)] at H; exact H
        clear H
        have H := H1
        clear H1
        have H' := Aside0.mk H
        clear H
        go_wp2_with (first | ((with_reducible refine gate_callee (f := 10) rfl ?_); refine goesL_ (some 12) rfl rfl Try.func10 (by kernel_rfl) rfl #[.slice A0 l0.length c0] rfl (by (try simp only [List.map_toArray, List.map_cons, List.map_nil]); first | done | rfl | (simp only [List.length_drop, List.length_take]; rfl)) ?_; (with_reducible refine (footlockerlaw03_small.calls k _ _ l0 false _ ?side1 ?side2 A7.out).mono ?_); (case side1 => repeat (first | exact (Kd.C_below HR0.out HB.out) | (with_reducible refine Kd.C_alloc ?_ _) | (with_reducible refine Kd.C_drewN ?_ _) | (with_reducible refine Kd.C_drew ?_))); (case side2 => exact HC0.out); rintro e w' ⟨rfl, ⟨nd, rfl⟩⟩; refine ⟨_, rfl, ?_⟩))
        go_meet
        case rel => exact ⟨_, (true), (by first | rfl | (simp; done) | (simp [*]; done)), H', ⟨by first | omega | exact Nat.le_refl _⟩, ⟨by repeat (first | (with_reducible first | exact HB.out | apply below_alloc | apply pw_below_drewN | apply below_drew1) | exact HB.out)⟩⟩
    case rest =>
      clear HC5
      try clear c1
      try clear p2
      try clear c4
      try clear c8
      obtain ⟨kq, x18_4, rfl, HA, HJ4, HB⟩ := hcut
      cases kq with
      | zero => exact absurd HA.out (by simp [footlockerlaw03_LinearSolves.j0])
      | succ kj4 =>
        have H := HA.out
        clear HA
        simp only [footlockerlaw03_LinearSolves.j0] at H
        by_cases c9 : x18_4 = true
        · subst c9
          have H1 : (some true) = some r := by rw [if_pos rfl] at H; exact H
          clear H
          have H := H1
          clear H1
          obtain rfl := Option.some.inj H
          go_wp2
          go_ret
          exact ⟨by first | rfl | (simp [errW_none, errW_some] <;> rfl) | (simp [*, errW_none, errW_some] <;> rfl), by repeat (first | (with_reducible first | exact HB.out | apply below_alloc | apply pw_below_drewN | apply below_drew1) | exact HB.out)⟩
        · replace c9 := Bool.eq_false_iff.mpr c9
          subst c9
          have H1 : ((linear_Solve.f kj4 l0 l1).bind fun bt337 => ((footlockerref03_Solve.f kj4 l0 l1).bind fun bt341 => (if (bt337.2 == bt341.2) = true then ((footlockerref01_Same.f kj4 bt337.1 bt341.1).bind fun t345 => (some t345)) else (some false)))) = some r := by rw [if_neg (show ¬ (false = true) by decide)] at H; exact H
          clear H
          have H := H1
          clear H1
          replace H := Option.bind_eq_some_iff.mp H
          obtain ⟨⟨t337, t338⟩, A100, H⟩ := H
          replace H : ((footlockerref03_Solve.f kj4 l0 l1).bind fun bt341 => (if (t338 == bt341.2) = true then ((footlockerref01_Same.f kj4 t337 bt341.1).bind fun t345 => (some t345)) else (some false))) = some r := H
          have A10 := Aside0.mk A100
          clear A100
          replace H := Option.bind_eq_some_iff.mp H
          obtain ⟨⟨t341, t344⟩, A110, H⟩ := H
          replace H : (if (t338 == t344) = true then ((footlockerref01_Same.f kj4 t337 t341).bind fun t345 => (some t345)) else (some false)) = some r := H
          have A11 := Aside0.mk A110
          clear A110
          by_cases c12 : (t338 == t344) = true
          · rw [if_pos c12] at H
            have c12b0 : (t338 == t344) = true := c12
            (try (have c12b1 : decide (t338 = t344) = true := by simpa using c12))
            (try (have c12b2 : (t338 == t344) = true := by simpa using c12))
            clear c12
            replace H := Option.bind_eq_some_iff.mp H
            obtain ⟨t345, A130, H⟩ := H
            replace H : (some t345) = some r := H
            have A13 := Aside0.mk A130
            clear A130
            obtain rfl := Option.some.inj H
            go_wp2_with (first | ((with_reducible refine gate_callee (f := 21) rfl ?_); refine goesL_ (some 22) rfl rfl Try.func21 (by kernel_rfl) rfl #[.slice A0 l0.length c0, .slice A1 l1.length c1] rfl (by (try simp only [List.map_toArray, List.map_cons, List.map_nil]); first | done | rfl | (simp only [List.length_drop, List.length_take]; rfl)) ?_; (with_reducible refine (linear_Solve.calls kj4 _ _ l0 _ _ l1 t337 t338 _ ?side1 ?side2 ?side3 ?side4 A10.out).mono ?_); (case side1 => repeat (first | exact (Kd.C_below HR0.out HB.out) | (with_reducible refine Kd.C_alloc ?_ _) | (with_reducible refine Kd.C_drewN ?_ _) | (with_reducible refine Kd.C_drew ?_))); (case side2 => exact HC0.out); (case side3 => repeat (first | exact (Kd.C_below HR1.out HB.out) | (with_reducible refine Kd.C_alloc ?_ _) | (with_reducible refine Kd.C_drewN ?_ _) | (with_reducible refine Kd.C_drew ?_))); (case side4 => exact HC1.out); rintro e w14 ⟨v339, rfl, ho0, hb⟩; refine ⟨_, rfl, ?_⟩; have n0_ := Aside0.mk (Kd.R_lower ho0 (below_size (by repeat (first | (with_reducible first | exact HB.out | apply below_alloc | apply pw_below_drewN | apply below_drew1) | exact HB.out)))); have n1_ := Aside0.mk (below_step (by repeat (first | (with_reducible first | exact HB.out | apply below_alloc | apply pw_below_drewN | apply below_drew1) | exact HB.out)) hb); clear HB; have HO340 := n0_; have HB := n1_; clear n0_ n1_; (try clear hb); (try clear hb2); (try clear hk); (try clear hi); (try clear ho0)) | ((with_reducible refine gate_callee (f := 22) rfl ?_); refine goesL_ (some 28) rfl rfl Try.func22 (by kernel_rfl) rfl #[.slice A0 l0.length c0, .slice A1 l1.length c1] rfl (by (try simp only [List.map_toArray, List.map_cons, List.map_nil]); first | done | rfl | (simp only [List.length_drop, List.length_take]; rfl)) ?_; (with_reducible refine (footlockerref03_Solve.calls kj4 (fun k_ => k_ < w.heap.size) _ _ l0 _ _ l1 t341 t344 _ ?side1 ?side2 ?side3 A11.out).mono ?_); (case side1 => exact Kd.V_mk HC0.out (Kd.F_below (Kd.C_F (Kd.heap_slice 5 (Kd.heap_int .u8)) HR0.out) (by repeat (first | (with_reducible first | exact HB.out | apply below_alloc | apply pw_below_drewN | apply below_drew1) | exact HB.out)))); (case side2 => repeat (first | exact (Kd.C_below HR1.out HB.out) | (with_reducible refine Kd.C_alloc ?_ _) | (with_reducible refine Kd.C_drewN ?_ _) | (with_reducible refine Kd.C_drew ?_))); (case side3 => exact HC1.out); rintro e w15 ⟨v342, rfl, ho0, hb⟩; refine ⟨_, rfl, ?_⟩; have n0_ := Aside0.mk (Kd.R_elder' (by (with_reducible repeat (first | apply Kd.R_alloc | apply Kd.R_drewN | apply Kd.R_drew)); exact HO340.out) (Kd.R_base ho0) hb); have n1_ := Aside0.mk (Kd.R_lower (Kd.R_new' (Kd.R_mono (ok' := fun k_ => True) ho0 (fun _ hk_ => trivial)) (Kd.R_lt (by (with_reducible repeat (first | apply Kd.R_alloc | apply Kd.R_drewN | apply Kd.R_drew)); exact HO340.out))) (below_size (by repeat (first | (with_reducible first | exact HB.out | apply below_alloc | apply pw_below_drewN | apply below_drew1) | exact HB.out)))); have n2_ := Aside0.mk (below_step (by repeat (first | (with_reducible first | exact HB.out | apply below_alloc | apply pw_below_drewN | apply below_drew1) | exact HB.out)) hb); clear HO340; clear HB; have HO340 := n0_; have HO343 := n1_; have HB := n2_; clear n0_ n1_ n2_; (try clear hb); (try clear hb2); (try clear hk); (try clear hi); (try clear ho0); obtain ⟨Ao16, co16, eo16⟩ := Kd.R_slice HO340.out; subst eo16; obtain ⟨Ao17, co17, eo17⟩ := Kd.R_slice HO343.out; subst eo17) | (go_at_call 18; (with_reducible refine (footlockerref01_Same.calls kj4 _ _ t337 _ _ t341 t345 _ ?side1 ?side2 ?side3 ?side4 A13.out).mono ?_); (case side1 => repeat (first | exact (Kd.R_reads' HO340.out).2.2 | (with_reducible refine Kd.C_alloc ?_ _) | (with_reducible refine Kd.C_drewN ?_ _) | (with_reducible refine Kd.C_drew ?_))); (case side2 => exact (Kd.R_reads' HO340.out).2.1); (case side3 => repeat (first | exact (Kd.R_reads' HO343.out).2.2 | (with_reducible refine Kd.C_alloc ?_ _) | (with_reducible refine Kd.C_drewN ?_ _) | (with_reducible refine Kd.C_drew ?_))); (case side4 => exact (Kd.R_reads' HO343.out).2.1); rintro e w' ⟨rfl, ⟨nd, rfl⟩⟩))
            go_ret
            exact ⟨by first | rfl | (simp [errW_none, errW_some] <;> rfl) | (simp [*, errW_none, errW_some] <;> rfl), by repeat (first | (with_reducible first | exact HB.out | apply below_alloc | apply pw_below_drewN | apply below_drew1) | exact HB.out)⟩
          · rw [if_neg c12] at H
            have c12b0 : (t338 == t344) = false := by simpa using c12
            (try (have c12b1 : decide (t338 = t344) = false := by simpa using c12))
            (try (have c12b2 : (t338 == t344) = false := by simpa using c12))
            (try (have c12b3 : ¬ (t338 = t344) := by simpa using c12))
            clear c12
            obtain rfl := Option.some.inj H
            go_wp2_with (first | ((with_reducible refine gate_callee (f := 21) rfl ?_); refine goesL_ (some 22) rfl rfl Try.func21 (by kernel_rfl) rfl #[.slice A0 l0.length c0, .slice A1 l1.length c1] rfl (by (try simp only [List.map_toArray, List.map_cons, List.map_nil]); first | done | rfl | (simp only [List.length_drop, List.length_take]; rfl)) ?_; (with_reducible refine (linear_Solve.calls kj4 _ _ l0 _ _ l1 t337 t338 _ ?side1 ?side2 ?side3 ?side4 A10.out).mono ?_); (case side1 => repeat (first | exact (Kd.C_below HR0.out HB.out) | (with_reducible refine Kd.C_alloc ?_ _) | (with_reducible refine Kd.C_drewN ?_ _) | (with_reducible refine Kd.C_drew ?_))); (case side2 => exact HC0.out); (case side3 => repeat (first | exact (Kd.C_below HR1.out HB.out) | (with_reducible refine Kd.C_alloc ?_ _) | (with_reducible refine Kd.C_drewN ?_ _) | (with_reducible refine Kd.C_drew ?_))); (case side4 => exact HC1.out); rintro e w18 ⟨v339, rfl, ho0, hb⟩; refine ⟨_, rfl, ?_⟩; have n0_ := Aside0.mk (Kd.R_lower ho0 (below_size (by repeat (first | (with_reducible first | exact HB.out | apply below_alloc | apply pw_below_drewN | apply below_drew1) | exact HB.out)))); have n1_ := Aside0.mk (below_step (by repeat (first | (with_reducible first | exact HB.out | apply below_alloc | apply pw_below_drewN | apply below_drew1) | exact HB.out)) hb); clear HB; have HO340 := n0_; have HB := n1_; clear n0_ n1_; (try clear hb); (try clear hb2); (try clear hk); (try clear hi); (try clear ho0)) | ((with_reducible refine gate_callee (f := 22) rfl ?_); refine goesL_ (some 28) rfl rfl Try.func22 (by kernel_rfl) rfl #[.slice A0 l0.length c0, .slice A1 l1.length c1] rfl (by (try simp only [List.map_toArray, List.map_cons, List.map_nil]); first | done | rfl | (simp only [List.length_drop, List.length_take]; rfl)) ?_; (with_reducible refine (footlockerref03_Solve.calls kj4 (fun k_ => k_ < w.heap.size) _ _ l0 _ _ l1 t341 t344 _ ?side1 ?side2 ?side3 A11.out).mono ?_); (case side1 => exact Kd.V_mk HC0.out (Kd.F_below (Kd.C_F (Kd.heap_slice 5 (Kd.heap_int .u8)) HR0.out) (by repeat (first | (with_reducible first | exact HB.out | apply below_alloc | apply pw_below_drewN | apply below_drew1) | exact HB.out)))); (case side2 => repeat (first | exact (Kd.C_below HR1.out HB.out) | (with_reducible refine Kd.C_alloc ?_ _) | (with_reducible refine Kd.C_drewN ?_ _) | (with_reducible refine Kd.C_drew ?_))); (case side3 => exact HC1.out); rintro e w19 ⟨v342, rfl, ho0, hb⟩; refine ⟨_, rfl, ?_⟩; have n0_ := Aside0.mk (Kd.R_elder' (by (with_reducible repeat (first | apply Kd.R_alloc | apply Kd.R_drewN | apply Kd.R_drew)); exact HO340.out) (Kd.R_base ho0) hb); have n1_ := Aside0.mk (Kd.R_lower (Kd.R_new' (Kd.R_mono (ok' := fun k_ => True) ho0 (fun _ hk_ => trivial)) (Kd.R_lt (by (with_reducible repeat (first | apply Kd.R_alloc | apply Kd.R_drewN | apply Kd.R_drew)); exact HO340.out))) (below_size (by repeat (first | (with_reducible first | exact HB.out | apply below_alloc | apply pw_below_drewN | apply below_drew1) | exact HB.out)))); have n2_ := Aside0.mk (below_step (by repeat (first | (with_reducible first | exact HB.out | apply below_alloc | apply pw_below_drewN | apply below_drew1) | exact HB.out)) hb); clear HO340; clear HB; have HO340 := n0_; have HO343 := n1_; have HB := n2_; clear n0_ n1_ n2_; (try clear hb); (try clear hb2); (try clear hk); (try clear hi); (try clear ho0)))
            go_ret
            exact ⟨by first | rfl | (simp [errW_none, errW_some] <;> rfl) | (simp [*, errW_none, errW_some] <;> rfl), by repeat (first | (with_reducible first | exact HB.out | apply below_alloc | apply pw_below_drewN | apply below_drew1) | exact HB.out)⟩
  · replace c4 := Bool.eq_false_iff.mpr c4
    subst c4
    have H1 : (some false) = some r := by rw [if_neg (show ¬ (false = true) by decide)] at H; exact H
    clear H
    have H := H1
    clear H1
    obtain rfl := Option.some.inj H
    go_enter Try.func4, Try.ntmps4
    go_wp2_with (first | ((with_reducible refine gate_callee (f := 9) rfl ?_); refine goesL_ (some 9) rfl rfl Try.func9 (by kernel_rfl) rfl #[] rfl (by (try simp only [List.map_toArray, List.map_cons, List.map_nil]); first | done | rfl | (simp only [List.length_drop, List.length_take]; rfl)) ?_; (with_reducible refine (footlockerlaw03_alive.calls k  false _ A3.out).mono ?_); rintro e w20 ⟨rfl, hb⟩; refine ⟨_, rfl, ?_⟩; have n0_ := Aside0.mk (below_step (by repeat (first | (with_reducible first | exact HB.out | apply below_alloc | apply pw_below_drewN | apply below_drew1) | exact HB.out)) hb); clear HB; have HB := n0_; clear n0_; (try clear hb); (try clear hb2); (try clear hk); (try clear hi)))
    go_ret
    exact ⟨by first | rfl | (simp [errW_none, errW_some] <;> rfl) | (simp [*, errW_none, errW_some] <;> rfl), by repeat (first | (with_reducible first | exact HB.out | apply below_alloc | apply pw_below_drewN | apply below_drew1) | exact HB.out)⟩

/-- THE ONE PURE STATEMENT of footlockerlaw03_LinearSolves. -/
def footlockerlaw03_LinearSolves.Pure : Prop := ∀ (l0 : List (List Int)) (l1 : List Int), (l0.length ≤ maxLen ∧ ∀ x2_ ∈ l0, x2_.length ≤ maxLen ∧ ∀ x3_ ∈ x2_, (Lit.int .u8 x3_).wf = true) → (l1.length ≤ maxLen ∧ ∀ x2_ ∈ l1, (Lit.int .u8 x2_).wf = true) → ∃ k, footlockerlaw03_LinearSolves.f k l0 l1 = some true
theorem footlockerlaw03_LinearSolves.walk (P : footlockerlaw03_LinearSolves.Pure) (A0 : Option Addr) (c0 : Nat) (l0 : List (List Int)) (A1 : Option Addr) (c1 : Nat) (l1 : List Int) (w : World) (hr0 : Kd.C (Kd.slice 5 (Kd.int .u8)) w A0 l0.length l0) (hc0 : l0.length ≤ c0) (w0 : l0.length ≤ maxLen ∧ ∀ x2_ ∈ l0, x2_.length ≤ maxLen ∧ ∀ x3_ ∈ x2_, (Lit.int .u8 x3_).wf = true) (hr1 : Kd.C (Kd.int .u8) w A1 l1.length l1) (hc1 : l1.length ≤ c1) (w1 : l1.length ≤ maxLen ∧ ∀ x2_ ∈ l1, (Lit.int .u8 x2_).wf = true) :
    Calls Try.prog 4 #[.slice A0 l0.length c0, .slice A1 l1.length c1] w fun e w' => e = .returned (.bool true) ∧ Below w.heap.size w w' := by
  obtain ⟨k, h⟩ := P l0 l1 w0 w1
  refine (footlockerlaw03_LinearSolves.calls k A0 c0 l0 A1 c1 l1 true w hr0 hc0 hr1 hc1 h).mono ?_
  rintro e w' ⟨rfl, hd⟩
  exact ⟨rfl, hd⟩

/-! ### footlockerlaw03_LinearFinds: function 5 -/
mutual
def footlockerlaw03_LinearFinds.j0 : Nat → List (List Int) → List Int → List Int → Bool → Option (Bool)
  | 0, _, _, _, _ => none
  | k + 1, x0, x1, x2, x35 => if x35 = true then (some true) else ((linear_Times.f k x0 x1).bind fun t350 => ((linear_Solve.f k x0 t350).bind fun bt353 => (if bt353.2 = true then ((linear_Times.f k x0 bt353.1).bind fun t357 => ((footlockerref01_Same.f k t357 t350).bind fun t360 => (footlockerlaw03_LinearFinds.j1 k x0 x2 t350 (!t360)))) else (footlockerlaw03_LinearFinds.j1 k x0 x2 t350 true))))
def footlockerlaw03_LinearFinds.j1 : Nat → List (List Int) → List Int → List Int → Bool → Option (Bool)
  | 0, _, _, _, _ => none
  | k + 1, x0, x2, x7, x54 => if x54 = true then (some false) else ((linear_Solve.f k x0 x2).bind fun bt361 => (if bt361.2 = true then ((linear_Times.f k x0 bt361.1).bind fun t365 => ((footlockerref01_Same.f k t365 x2).bind fun t368 => (some t368))) else ((footlockerref01_Same.f k x7 x2).bind fun t369 => (some (!t369)))))
end
def footlockerlaw03_LinearFinds.f (k : Nat) (l0 : List (List Int)) (l1 : List Int) (l2 : List Int) : Option (Bool) := (footlockerlaw03_alive.f k).bind fun t346 => (if t346 = true then ((footlockerlaw03_small.f k l0).bind fun t347 => (if t347 = true then ((footlockerref03_Right.f k l0).bind fun t348 => (if t348 = true then (if (l0.length : Int) = 0 then (footlockerlaw03_LinearFinds.j0 k l0 l1 l2 true) else (if 0 < (l0.length : Int) then (footlockerlaw03_LinearFinds.j0 k l0 l1 l2 ((l1.length : Int) != ((rd_L1 l0 0).length : Int))) else (none))) else (footlockerlaw03_LinearFinds.j0 k l0 l1 l2 true))) else (footlockerlaw03_LinearFinds.j0 k l0 l1 l2 true))) else (some false))
theorem footlockerlaw03_LinearFinds.mono_l : ∀ k, (∀ y0 y1 y2 y3, LeO (footlockerlaw03_LinearFinds.j0 k y0 y1 y2 y3) (footlockerlaw03_LinearFinds.j0 (k + 1) y0 y1 y2 y3)) ∧ (∀ y0 y1 y2 y3, LeO (footlockerlaw03_LinearFinds.j1 k y0 y1 y2 y3) (footlockerlaw03_LinearFinds.j1 (k + 1) y0 y1 y2 y3))
  | 0 => ⟨fun _ _ _ _ r h => by simp [footlockerlaw03_LinearFinds.j0] at h, fun _ _ _ _ r h => by simp [footlockerlaw03_LinearFinds.j1] at h⟩
  | k + 1 => by
    obtain ⟨ih0, ih1⟩ := footlockerlaw03_LinearFinds.mono_l k
    refine ⟨?_, ?_⟩
    · intro y0 y1 y2 y3
      unfold footlockerlaw03_LinearFinds.j0
      repeat' first
      | (with_reducible exact ih0 _ _ _ _)
      | (with_reducible exact ih1 _ _ _ _)
      | (with_reducible exact footlockerlaw03_alive.mono _)
      | (with_reducible exact footlockerlaw03_small.mono _ _)
      | (with_reducible exact footlockerref01_Same.mono _ _ _)
      | (with_reducible exact footlockerref03_Right.mono _ _)
      | (with_reducible exact linear_Solve.mono _ _ _)
      | (with_reducible exact linear_Times.mono _ _ _)
      | (with_reducible exact LeO.refl _)
      | (with_reducible exact LeO.none _)
      | (with_reducible refine LeO.ite ?_ ?_)
      | (with_reducible refine LeO.bind ?_ (fun _ => ?_))
      | exact ih0 _ _ _ _
      | exact ih1 _ _ _ _
      | exact footlockerlaw03_alive.mono _
      | exact footlockerlaw03_small.mono _ _
      | exact footlockerref01_Same.mono _ _ _
      | exact footlockerref03_Right.mono _ _
      | exact linear_Solve.mono _ _ _
      | exact linear_Times.mono _ _ _
      | exact LeO.none _
      | refine LeO.ite ?_ ?_
      | refine LeO.bind ?_ (fun _ => ?_)
    · intro y0 y1 y2 y3
      unfold footlockerlaw03_LinearFinds.j1
      repeat' first
      | (with_reducible exact ih0 _ _ _ _)
      | (with_reducible exact ih1 _ _ _ _)
      | (with_reducible exact footlockerlaw03_alive.mono _)
      | (with_reducible exact footlockerlaw03_small.mono _ _)
      | (with_reducible exact footlockerref01_Same.mono _ _ _)
      | (with_reducible exact footlockerref03_Right.mono _ _)
      | (with_reducible exact linear_Solve.mono _ _ _)
      | (with_reducible exact linear_Times.mono _ _ _)
      | (with_reducible exact LeO.refl _)
      | (with_reducible exact LeO.none _)
      | (with_reducible refine LeO.ite ?_ ?_)
      | (with_reducible refine LeO.bind ?_ (fun _ => ?_))
      | exact ih0 _ _ _ _
      | exact ih1 _ _ _ _
      | exact footlockerlaw03_alive.mono _
      | exact footlockerlaw03_small.mono _ _
      | exact footlockerref01_Same.mono _ _ _
      | exact footlockerref03_Right.mono _ _
      | exact linear_Solve.mono _ _ _
      | exact linear_Times.mono _ _ _
      | exact LeO.none _
      | refine LeO.ite ?_ ?_
      | refine LeO.bind ?_ (fun _ => ?_)
theorem footlockerlaw03_LinearFinds.mono : ∀ a0 a1 a2 k, LeO (footlockerlaw03_LinearFinds.f k a0 a1 a2) (footlockerlaw03_LinearFinds.f (k + 1) a0 a1 a2) := by
  intro a0 a1 a2 k
  obtain ⟨ih0, ih1⟩ := footlockerlaw03_LinearFinds.mono_l k
  unfold footlockerlaw03_LinearFinds.f
  repeat' first
      | (with_reducible exact ih0 _ _ _ _)
      | (with_reducible exact ih1 _ _ _ _)
      | (with_reducible exact footlockerlaw03_alive.mono _)
      | (with_reducible exact footlockerlaw03_small.mono _ _)
      | (with_reducible exact footlockerref01_Same.mono _ _ _)
      | (with_reducible exact footlockerref03_Right.mono _ _)
      | (with_reducible exact linear_Solve.mono _ _ _)
      | (with_reducible exact linear_Times.mono _ _ _)
      | (with_reducible exact LeO.refl _)
      | (with_reducible exact LeO.none _)
      | (with_reducible refine LeO.ite ?_ ?_)
      | (with_reducible refine LeO.bind ?_ (fun _ => ?_))
      | exact ih0 _ _ _ _
      | exact ih1 _ _ _ _
      | exact footlockerlaw03_alive.mono _
      | exact footlockerlaw03_small.mono _ _
      | exact footlockerref01_Same.mono _ _ _
      | exact footlockerref03_Right.mono _ _
      | exact linear_Solve.mono _ _ _
      | exact linear_Times.mono _ _ _
      | exact LeO.none _
      | refine LeO.ite ?_ ?_
      | refine LeO.bind ?_ (fun _ => ?_)
set_option maxHeartbeats 8000000 in
set_option maxRecDepth 100000 in
theorem footlockerlaw03_LinearFinds.calls (k : Nat) (A0 : Option Addr) (c0 : Nat) (l0 : List (List Int)) (A1 : Option Addr) (c1 : Nat) (l1 : List Int) (A2 : Option Addr) (c2 : Nat) (l2 : List Int) (r : Bool) (w : World) (hr0 : Kd.C (Kd.slice 5 (Kd.int .u8)) w A0 l0.length l0) (hc0 : l0.length ≤ c0) (hr1 : Kd.C (Kd.int .u8) w A1 l1.length l1) (hc1 : l1.length ≤ c1) (hr2 : Kd.C (Kd.int .u8) w A2 l2.length l2) (hc2 : l2.length ≤ c2) (h : footlockerlaw03_LinearFinds.f k l0 l1 l2 = some r) :
    Calls Try.prog 5 #[.slice A0 l0.length c0, .slice A1 l1.length c1, .slice A2 l2.length c2] w fun e w' => e = .returned (.bool r) ∧ Below w.heap.size w w' := by
  have HR0 := Aside0.mk hr0
  have HC0 := Aside0.mk hc0
  clear hr0 hc0
  have HR1 := Aside0.mk hr1
  have HC1 := Aside0.mk hc1
  clear hr1 hc1
  have HR2 := Aside0.mk hr2
  have HC2 := Aside0.mk hc2
  clear hr2 hc2
  have HB := Aside0.mk (Below.refl w.heap.size w)
  have H : ((footlockerlaw03_alive.f k).bind fun t346 => (if t346 = true then ((footlockerlaw03_small.f k l0).bind fun t347 => (if t347 = true then ((footlockerref03_Right.f k l0).bind fun t348 => (if t348 = true then (if (l0.length : Int) = 0 then (footlockerlaw03_LinearFinds.j0 k l0 l1 l2 true) else (if 0 < (l0.length : Int) then (footlockerlaw03_LinearFinds.j0 k l0 l1 l2 ((l1.length : Int) != ((rd_L1 l0 0).length : Int))) else (none))) else (footlockerlaw03_LinearFinds.j0 k l0 l1 l2 true))) else (footlockerlaw03_LinearFinds.j0 k l0 l1 l2 true))) else (some false))) = some r := h
  clear h
  replace H := Option.bind_eq_some_iff.mp H
  obtain ⟨t346, A40, H⟩ := H
  replace H : (if t346 = true then ((footlockerlaw03_small.f k l0).bind fun t347 => (if t347 = true then ((footlockerref03_Right.f k l0).bind fun t348 => (if t348 = true then (if (l0.length : Int) = 0 then (footlockerlaw03_LinearFinds.j0 k l0 l1 l2 true) else (if 0 < (l0.length : Int) then (footlockerlaw03_LinearFinds.j0 k l0 l1 l2 ((l1.length : Int) != ((rd_L1 l0 0).length : Int))) else (none))) else (footlockerlaw03_LinearFinds.j0 k l0 l1 l2 true))) else (footlockerlaw03_LinearFinds.j0 k l0 l1 l2 true))) else (some false)) = some r := H
  have A4 := Aside0.mk A40
  clear A40
  by_cases c5 : t346 = true
  · subst c5
    have H1 : ((footlockerlaw03_small.f k l0).bind fun t347 => (if t347 = true then ((footlockerref03_Right.f k l0).bind fun t348 => (if t348 = true then (if (l0.length : Int) = 0 then (footlockerlaw03_LinearFinds.j0 k l0 l1 l2 true) else (if 0 < (l0.length : Int) then (footlockerlaw03_LinearFinds.j0 k l0 l1 l2 ((l1.length : Int) != ((rd_L1 l0 0).length : Int))) else (none))) else (footlockerlaw03_LinearFinds.j0 k l0 l1 l2 true))) else (footlockerlaw03_LinearFinds.j0 k l0 l1 l2 true))) = some r := by rw [if_pos rfl] at H; exact H
    clear H
    have H := H1
    clear H1
    have HC6 := Aside0.mk H
    clear H
    go_enter Try.func5, Try.ntmps5
    go_upto_region 3 with (first | ((with_reducible refine gate_callee (f := 9) rfl ?_); refine goesL_ (some 12) rfl rfl Try.func9 (by kernel_rfl) rfl #[] rfl (by (try simp only [List.map_toArray, List.map_cons, List.map_nil]); first | done | rfl | (simp only [List.length_drop, List.length_take]; rfl)) ?_; (with_reducible refine (footlockerlaw03_alive.calls k  true _ A4.out).mono ?_); rintro e w7 ⟨rfl, hb⟩; refine ⟨_, rfl, ?_⟩; have n0_ := Aside0.mk (below_step (by repeat (first | (with_reducible first | exact HB.out | apply below_alloc | apply pw_below_drewN | apply below_drew1) | exact HB.out)) hb); clear HB; have HB := n0_; clear n0_; (try clear hb); (try clear hb2); (try clear hk); (try clear hi)))
    (try simp only [Act.put, List.setIfInBounds_toArray, List.set_cons_zero, List.set_cons_succ])
    go_cut [35] (fun v35 wc => ∃ (kq : Nat) (x35_5 : Bool), v35 = .bool x35_5 ∧ Aside0 (footlockerlaw03_LinearFinds.j0 kq l0 l1 l2 x35_5 = some r) ∧ Aside0 (kq ≤ k) ∧ Aside0 (Below w.heap.size w wc))
    case first =>
      have H := HC6.out
      clear HC6
      replace H := Option.bind_eq_some_iff.mp H
      obtain ⟨t347, A80, H⟩ := H
      replace H : (if t347 = true then ((footlockerref03_Right.f k l0).bind fun t348 => (if t348 = true then (if (l0.length : Int) = 0 then (footlockerlaw03_LinearFinds.j0 k l0 l1 l2 true) else (if 0 < (l0.length : Int) then (footlockerlaw03_LinearFinds.j0 k l0 l1 l2 ((l1.length : Int) != ((rd_L1 l0 0).length : Int))) else (none))) else (footlockerlaw03_LinearFinds.j0 k l0 l1 l2 true))) else (footlockerlaw03_LinearFinds.j0 k l0 l1 l2 true)) = some r := H
      have A8 := Aside0.mk A80
      clear A80
      by_cases c9 : t347 = true
      · subst c9
        have H1 : ((footlockerref03_Right.f k l0).bind fun t348 => (if t348 = true then (if (l0.length : Int) = 0 then (footlockerlaw03_LinearFinds.j0 k l0 l1 l2 true) else (if 0 < (l0.length : Int) then (footlockerlaw03_LinearFinds.j0 k l0 l1 l2 ((l1.length : Int) != ((rd_L1 l0 0).length : Int))) else (none))) else (footlockerlaw03_LinearFinds.j0 k l0 l1 l2 true))) = some r := by rw [if_pos rfl] at H; exact H
        clear H
        have H := H1
        clear H1
        replace H := Option.bind_eq_some_iff.mp H
        obtain ⟨t348, A100, H⟩ := H
        replace H : (if t348 = true then (if (l0.length : Int) = 0 then (footlockerlaw03_LinearFinds.j0 k l0 l1 l2 true) else (if 0 < (l0.length : Int) then (footlockerlaw03_LinearFinds.j0 k l0 l1 l2 ((l1.length : Int) != ((rd_L1 l0 0).length : Int))) else (none))) else (footlockerlaw03_LinearFinds.j0 k l0 l1 l2 true)) = some r := H
        have A10 := Aside0.mk A100
        clear A100
        by_cases c11 : t348 = true
        · subst c11
          have H1 : (if (l0.length : Int) = 0 then (footlockerlaw03_LinearFinds.j0 k l0 l1 l2 true) else (if 0 < (l0.length : Int) then (footlockerlaw03_LinearFinds.j0 k l0 l1 l2 ((l1.length : Int) != ((rd_L1 l0 0).length : Int))) else (none))) = some r := by rw [if_pos rfl] at H; exact H
          clear H
          have H := H1
          clear H1
          by_cases c12 : (l0.length : Int) = 0
          · rw [if_pos c12] at H
            have c12b0 : ((l0.length : Int) == 0) = true := beq_iff_eq.mpr c12
            have c12b1 : ((l0.length : Int) != 0) = false := bne_eq_false_iff_eq.mpr c12
            clear c12
            (first | rw [c12b0] | (simp only [i64_w, i32_w]; rw [c12b0]) | skip)
            have H' := Aside0.mk H
            clear H
            go_wp2_with (first | ((with_reducible refine gate_callee (f := 10) rfl ?_); refine goesL_ (some 15) rfl rfl Try.func10 (by kernel_rfl) rfl #[.slice A0 l0.length c0] rfl (by (try simp only [List.map_toArray, List.map_cons, List.map_nil]); first | done | rfl | (simp only [List.length_drop, List.length_take]; rfl)) ?_; (with_reducible refine (footlockerlaw03_small.calls k _ _ l0 true _ ?side1 ?side2 A8.out).mono ?_); (case side1 => repeat (first | exact (Kd.C_below HR0.out HB.out) | (with_reducible refine Kd.C_alloc ?_ _) | (with_reducible refine Kd.C_drewN ?_ _) | (with_reducible refine Kd.C_drew ?_))); (case side2 => exact HC0.out); rintro e w' ⟨rfl, ⟨nd, rfl⟩⟩; refine ⟨_, rfl, ?_⟩) | (go_at_call 14; (with_reducible refine (footlockerref03_Right.calls k _ _ l0 true _ ?side1 ?side2 A10.out).mono ?_); (case side1 => repeat (first | exact (Kd.C_below HR0.out (by repeat (first | (with_reducible first | exact HB.out | apply below_alloc | apply pw_below_drewN | apply below_drew1) | exact HB.out))) | (with_reducible refine Kd.C_alloc ?_ _) | (with_reducible refine Kd.C_drewN ?_ _) | (with_reducible refine Kd.C_drew ?_))); (case side2 => exact HC0.out); rintro e w' ⟨rfl, ⟨nd, rfl⟩⟩))
            go_meet
            case rel => exact ⟨_, (true), (by first | rfl | (simp; done) | (simp [*]; done)), H', ⟨by first | omega | exact Nat.le_refl _⟩, ⟨by repeat (first | (with_reducible first | exact HB.out | apply below_alloc | apply pw_below_drewN | apply below_drew1) | exact HB.out)⟩⟩
          · rw [if_neg c12] at H
            have c12b0 : ((l0.length : Int) == 0) = false := beq_eq_false_iff_ne.mpr c12
            have c12b1 : ((l0.length : Int) != 0) = true := bne_iff_ne.mpr c12
            have c12b2 : ¬ (l0 = []) := fun h_ => c12 (by rw [h_]; rfl)
            (first | rw [c12b0] | (simp only [i64_w, i32_w]; rw [c12b0]) | skip)
            by_cases c13 : 0 < (l0.length : Int)
            · rw [if_pos c13] at H
              have c13b0 : decide (0 < (l0.length : Int)) = true := decide_eq_true c13
              have c13b1 : decide (0 < l0.length) = true := decide_eq_true (by omega)
              clear c13
              have H' := Aside0.mk H
              clear H
              go_wp2_with (first | ((with_reducible refine gate_callee (f := 10) rfl ?_); refine goesL_ (some 15) rfl rfl Try.func10 (by kernel_rfl) rfl #[.slice A0 l0.length c0] rfl (by (try simp only [List.map_toArray, List.map_cons, List.map_nil]); first | done | rfl | (simp only [List.length_drop, List.length_take]; rfl)) ?_; (with_reducible refine (footlockerlaw03_small.calls k _ _ l0 true _ ?side1 ?side2 A8.out).mono ?_); (case side1 => repeat (first | exact (Kd.C_below HR0.out HB.out) | (with_reducible refine Kd.C_alloc ?_ _) | (with_reducible refine Kd.C_drewN ?_ _) | (with_reducible refine Kd.C_drew ?_))); (case side2 => exact HC0.out); rintro e w' ⟨rfl, ⟨nd, rfl⟩⟩; refine ⟨_, rfl, ?_⟩) | (go_at_call 14; (with_reducible refine (footlockerref03_Right.calls k _ _ l0 true _ ?side1 ?side2 A10.out).mono ?_); (case side1 => repeat (first | exact (Kd.C_below HR0.out (by repeat (first | (with_reducible first | exact HB.out | apply below_alloc | apply pw_below_drewN | apply below_drew1) | exact HB.out))) | (with_reducible refine Kd.C_alloc ?_ _) | (with_reducible refine Kd.C_drewN ?_ _) | (with_reducible refine Kd.C_drew ?_))); (case side2 => exact HC0.out); rintro e w' ⟨rfl, ⟨nd, rfl⟩⟩; have p349 : 0 ≤ (0 : Int) := (by omega); have q349 : 0 < (l0.length : Int) := of_decide_eq_true (by first | (with_reducible assumption) | assumption); obtain ⟨ad349, A349_0, c349_0, e349, hx349_0, hl349_0, hi349_0⟩ := at_L1 HR0.out 0 p349 q349; cases e349; have qi349 : (0 < l0.length) = True := eq_true (by omega); (try rw [show ((0 : Int)).toNat = 0 from rfl] at hx349_0); (try rw [Addr.add_zero'] at hx349_0); replace hx349_0 := (HB.out.cell (World.block_lt_of_cell? w _ hx349_0)).trans hx349_0; have HR349_0 := Aside0.mk hi349_0; have HC349_0 := Aside0.mk hl349_0; clear hi349_0 hl349_0; replace p349 := eq_true p349; replace q349 := eq_true q349))
              go_meet
              case rel => exact ⟨_, (((l1.length : Int) != ((rd_L1 l0 0).length : Int))), (by first | rfl | (simp; done) | (simp [*]; done)), H', ⟨by first | omega | exact Nat.le_refl _⟩, ⟨by repeat (first | (with_reducible first | exact HB.out | apply below_alloc | apply pw_below_drewN | apply below_drew1) | exact HB.out)⟩⟩
            · rw [if_neg c13] at H
              exact absurd H (by simp)
        · replace c11 := Bool.eq_false_iff.mpr c11
          subst c11
          have H1 : (footlockerlaw03_LinearFinds.j0 k l0 l1 l2 true) = some r := by rw [if_neg (show ¬ (false = true) by decide)] at H; exact H
          clear H
          have H := H1
          clear H1
          have H' := Aside0.mk H
          clear H
          go_wp2_with (first | ((with_reducible refine gate_callee (f := 10) rfl ?_); refine goesL_ (some 15) rfl rfl Try.func10 (by kernel_rfl) rfl #[.slice A0 l0.length c0] rfl (by (try simp only [List.map_toArray, List.map_cons, List.map_nil]); first | done | rfl | (simp only [List.length_drop, List.length_take]; rfl)) ?_; (with_reducible refine (footlockerlaw03_small.calls k _ _ l0 true _ ?side1 ?side2 A8.out).mono ?_); (case side1 => repeat (first | exact (Kd.C_below HR0.out HB.out) | (with_reducible refine Kd.C_alloc ?_ _) | (with_reducible refine Kd.C_drewN ?_ _) | (with_reducible refine Kd.C_drew ?_))); (case side2 => exact HC0.out); rintro e w' ⟨rfl, ⟨nd, rfl⟩⟩; refine ⟨_, rfl, ?_⟩) | (go_at_call 14; (with_reducible refine (footlockerref03_Right.calls k _ _ l0 false _ ?side1 ?side2 A10.out).mono ?_); (case side1 => repeat (first | exact (Kd.C_below HR0.out (by repeat (first | (with_reducible first | exact HB.out | apply below_alloc | apply pw_below_drewN | apply below_drew1) | exact HB.out))) | (with_reducible refine Kd.C_alloc ?_ _) | (with_reducible refine Kd.C_drewN ?_ _) | (with_reducible refine Kd.C_drew ?_))); (case side2 => exact HC0.out); rintro e w' ⟨rfl, ⟨nd, rfl⟩⟩))
          go_meet
          case rel => exact ⟨_, (true), (by first | rfl | (simp; done) | (simp [*]; done)), H', ⟨by first | omega | exact Nat.le_refl _⟩, ⟨by repeat (first | (with_reducible first | exact HB.out | apply below_alloc | apply pw_below_drewN | apply below_drew1) | exact HB.out)⟩⟩
      · replace c9 := Bool.eq_false_iff.mpr c9
        subst c9
        have H1 : (footlockerlaw03_LinearFinds.j0 k l0 l1 l2 true) = some r := by rw [if_neg (show ¬ (false = true) by decide)] at H; exact H
        clear H
        have H := H1
        clear H1
        have H' := Aside0.mk H
        clear H
        go_wp2_with (first | ((with_reducible refine gate_callee (f := 10) rfl ?_); refine goesL_ (some 15) rfl rfl Try.func10 (by kernel_rfl) rfl #[.slice A0 l0.length c0] rfl (by (try simp only [List.map_toArray, List.map_cons, List.map_nil]); first | done | rfl | (simp only [List.length_drop, List.length_take]; rfl)) ?_; (with_reducible refine (footlockerlaw03_small.calls k _ _ l0 false _ ?side1 ?side2 A8.out).mono ?_); (case side1 => repeat (first | exact (Kd.C_below HR0.out HB.out) | (with_reducible refine Kd.C_alloc ?_ _) | (with_reducible refine Kd.C_drewN ?_ _) | (with_reducible refine Kd.C_drew ?_))); (case side2 => exact HC0.out); rintro e w' ⟨rfl, ⟨nd, rfl⟩⟩; refine ⟨_, rfl, ?_⟩))
        go_meet
        case rel => exact ⟨_, (true), (by first | rfl | (simp; done) | (simp [*]; done)), H', ⟨by first | omega | exact Nat.le_refl _⟩, ⟨by repeat (first | (with_reducible first | exact HB.out | apply below_alloc | apply pw_below_drewN | apply below_drew1) | exact HB.out)⟩⟩
    case rest =>
      clear HC6
      try clear c1
      try clear c2
      try clear p2
      try clear c3
      try clear p3
      try clear q3
      try clear hx3
      try clear qi3
      try clear c5
      try clear c9
      try clear c10
      try clear c11
      try clear c12
      try clear c12b0
      try clear c12b1
      try clear c12b2
      try clear c13
      try clear c13b0
      try clear c13b1
      try clear hx349_0
      try clear p349
      try clear q349
      obtain ⟨kq, x35_5, rfl, HA, HJ5, HB⟩ := hcut
      cases kq with
      | zero => exact absurd HA.out (by simp [footlockerlaw03_LinearFinds.j0])
      | succ kj5 =>
        have H := HA.out
        clear HA
        simp only [footlockerlaw03_LinearFinds.j0] at H
        by_cases c14 : x35_5 = true
        · subst c14
          have H1 : (some true) = some r := by rw [if_pos rfl] at H; exact H
          clear H
          have H := H1
          clear H1
          obtain rfl := Option.some.inj H
          go_wp2
          go_ret
          exact ⟨by first | rfl | (simp [errW_none, errW_some] <;> rfl) | (simp [*, errW_none, errW_some] <;> rfl), by repeat (first | (with_reducible first | exact HB.out | apply below_alloc | apply pw_below_drewN | apply below_drew1) | exact HB.out)⟩
        · replace c14 := Bool.eq_false_iff.mpr c14
          subst c14
          have H1 : ((linear_Times.f kj5 l0 l1).bind fun t350 => ((linear_Solve.f kj5 l0 t350).bind fun bt353 => (if bt353.2 = true then ((linear_Times.f kj5 l0 bt353.1).bind fun t357 => ((footlockerref01_Same.f kj5 t357 t350).bind fun t360 => (footlockerlaw03_LinearFinds.j1 kj5 l0 l2 t350 (!t360)))) else (footlockerlaw03_LinearFinds.j1 kj5 l0 l2 t350 true)))) = some r := by rw [if_neg (show ¬ (false = true) by decide)] at H; exact H
          clear H
          have H := H1
          clear H1
          replace H := Option.bind_eq_some_iff.mp H
          obtain ⟨t350, A150, H⟩ := H
          replace H : ((linear_Solve.f kj5 l0 t350).bind fun bt353 => (if bt353.2 = true then ((linear_Times.f kj5 l0 bt353.1).bind fun t357 => ((footlockerref01_Same.f kj5 t357 t350).bind fun t360 => (footlockerlaw03_LinearFinds.j1 kj5 l0 l2 t350 (!t360)))) else (footlockerlaw03_LinearFinds.j1 kj5 l0 l2 t350 true))) = some r := H
          have A15 := Aside0.mk A150
          clear A150
          replace H := Option.bind_eq_some_iff.mp H
          obtain ⟨⟨t353, t354⟩, A160, H⟩ := H
          replace H : (if t354 = true then ((linear_Times.f kj5 l0 t353).bind fun t357 => ((footlockerref01_Same.f kj5 t357 t350).bind fun t360 => (footlockerlaw03_LinearFinds.j1 kj5 l0 l2 t350 (!t360)))) else (footlockerlaw03_LinearFinds.j1 kj5 l0 l2 t350 true)) = some r := H
          have A16 := Aside0.mk A160
          clear A160
          have HC17 := Aside0.mk H
          clear H
          go_upto_region 7 with (first | ((with_reducible refine gate_callee (f := 19) rfl ?_); refine goesL_ (some 38) rfl rfl Try.func19 (by kernel_rfl) rfl #[.slice A0 l0.length c0, .slice A1 l1.length c1] rfl (by (try simp only [List.map_toArray, List.map_cons, List.map_nil]); first | done | rfl | (simp only [List.length_drop, List.length_take]; rfl)) ?_; (with_reducible refine (linear_Times.calls kj5 _ _ l0 _ _ l1 t350 _ ?side1 ?side2 ?side3 ?side4 A15.out).mono ?_); (case side1 => repeat (first | exact (Kd.C_below HR0.out HB.out) | (with_reducible refine Kd.C_alloc ?_ _) | (with_reducible refine Kd.C_drewN ?_ _) | (with_reducible refine Kd.C_drew ?_))); (case side2 => exact HC0.out); (case side3 => repeat (first | exact (Kd.C_below HR1.out HB.out) | (with_reducible refine Kd.C_alloc ?_ _) | (with_reducible refine Kd.C_drewN ?_ _) | (with_reducible refine Kd.C_drew ?_))); (case side4 => exact HC1.out); rintro e w18 ⟨v351, rfl, ho0, hb⟩; refine ⟨_, rfl, ?_⟩; have n0_ := Aside0.mk (Kd.R_lower ho0 (below_size (by repeat (first | (with_reducible first | exact HB.out | apply below_alloc | apply pw_below_drewN | apply below_drew1) | exact HB.out)))); have n1_ := Aside0.mk (below_step (by repeat (first | (with_reducible first | exact HB.out | apply below_alloc | apply pw_below_drewN | apply below_drew1) | exact HB.out)) hb); clear HB; have HO352 := n0_; have HB := n1_; clear n0_ n1_; (try clear hb); (try clear hb2); (try clear hk); (try clear hi); (try clear ho0); obtain ⟨Ao19, co19, eo19⟩ := Kd.R_slice HO352.out; subst eo19) | ((with_reducible refine gate_callee (f := 21) rfl ?_); refine goesL_ (some 42) rfl rfl Try.func21 (by kernel_rfl) rfl #[.slice A0 l0.length c0, .slice Ao19 t350.length co19] rfl (by (try simp only [List.map_toArray, List.map_cons, List.map_nil]); first | done | rfl | (simp only [List.length_drop, List.length_take]; rfl)) ?_; (with_reducible refine (linear_Solve.calls kj5 _ _ l0 _ _ t350 t353 t354 _ ?side1 ?side2 ?side3 ?side4 A16.out).mono ?_); (case side1 => repeat (first | exact (Kd.C_below HR0.out HB.out) | (with_reducible refine Kd.C_alloc ?_ _) | (with_reducible refine Kd.C_drewN ?_ _) | (with_reducible refine Kd.C_drew ?_))); (case side2 => exact HC0.out); (case side3 => repeat (first | exact (Kd.R_reads' HO352.out).2.2 | (with_reducible refine Kd.C_alloc ?_ _) | (with_reducible refine Kd.C_drewN ?_ _) | (with_reducible refine Kd.C_drew ?_))); (case side4 => exact (Kd.R_reads' HO352.out).2.1); rintro e w20 ⟨v355, rfl, ho0, hb⟩; refine ⟨_, rfl, ?_⟩; have n0_ := Aside0.mk (Kd.R_elder' (by (with_reducible repeat (first | apply Kd.R_alloc | apply Kd.R_drewN | apply Kd.R_drew)); exact HO352.out) (Kd.R_base ho0) hb); have n1_ := Aside0.mk (Kd.R_lower (Kd.R_new' ho0 (Kd.R_lt (by (with_reducible repeat (first | apply Kd.R_alloc | apply Kd.R_drewN | apply Kd.R_drew)); exact HO352.out))) (below_size (by repeat (first | (with_reducible first | exact HB.out | apply below_alloc | apply pw_below_drewN | apply below_drew1) | exact HB.out)))); have n2_ := Aside0.mk (below_step (by repeat (first | (with_reducible first | exact HB.out | apply below_alloc | apply pw_below_drewN | apply below_drew1) | exact HB.out)) hb); clear HO352; clear HB; have HO352 := n0_; have HO356 := n1_; have HB := n2_; clear n0_ n1_ n2_; (try clear hb); (try clear hb2); (try clear hk); (try clear hi); (try clear ho0)))
          (try simp only [Act.put, List.setIfInBounds_toArray, List.set_cons_zero, List.set_cons_succ])
          go_cut [54] (fun v54 wc => ∃ (kq : Nat) (x54_16 : Bool), v54 = .bool x54_16 ∧ Aside0 (footlockerlaw03_LinearFinds.j1 kq l0 l2 t350 x54_16 = some r) ∧ Aside0 (kq ≤ kj5) ∧ Aside0 (Kd.R (Kd.int .u8) 5 wc w.heap.size (fun _ => True) (.slice Ao19 t350.length co19) t350) ∧ Aside0 (Below w.heap.size w wc))
          case first =>
            have H := HC17.out
            clear HC17
            by_cases c21 : t354 = true
            · subst c21
              have H1 : ((linear_Times.f kj5 l0 t353).bind fun t357 => ((footlockerref01_Same.f kj5 t357 t350).bind fun t360 => (footlockerlaw03_LinearFinds.j1 kj5 l0 l2 t350 (!t360)))) = some r := by rw [if_pos rfl] at H; exact H
              clear H
              have H := H1
              clear H1
              replace H := Option.bind_eq_some_iff.mp H
              obtain ⟨t357, A220, H⟩ := H
              replace H : ((footlockerref01_Same.f kj5 t357 t350).bind fun t360 => (footlockerlaw03_LinearFinds.j1 kj5 l0 l2 t350 (!t360))) = some r := H
              have A22 := Aside0.mk A220
              clear A220
              replace H := Option.bind_eq_some_iff.mp H
              obtain ⟨t360, A230, H⟩ := H
              replace H : (footlockerlaw03_LinearFinds.j1 kj5 l0 l2 t350 (!t360)) = some r := H
              have A23 := Aside0.mk A230
              clear A230
              have H' := Aside0.mk H
              clear H
              obtain ⟨Ao24, co24, eo24⟩ := Kd.R_slice HO356.out
              subst eo24
              go_wp2_with (first | (go_at_call 19; (with_reducible refine (linear_Times.calls kj5 _ _ l0 _ _ t353 t357 _ ?side1 ?side2 ?side3 ?side4 A22.out).mono ?_); (case side1 => repeat (first | exact (Kd.C_below HR0.out HB.out) | (with_reducible refine Kd.C_alloc ?_ _) | (with_reducible refine Kd.C_drewN ?_ _) | (with_reducible refine Kd.C_drew ?_))); (case side2 => exact HC0.out); (case side3 => repeat (first | exact (Kd.R_reads' HO356.out).2.2 | (with_reducible refine Kd.C_alloc ?_ _) | (with_reducible refine Kd.C_drewN ?_ _) | (with_reducible refine Kd.C_drew ?_))); (case side4 => exact (Kd.R_reads' HO356.out).2.1); rintro e w25 ⟨v358, rfl, ho0, hb⟩; have n0_ := Aside0.mk (Kd.R_elder' (by (with_reducible repeat (first | apply Kd.R_alloc | apply Kd.R_drewN | apply Kd.R_drew)); exact HO352.out) (Kd.R_base ho0) hb); have n1_ := Aside0.mk (Kd.R_elder' (by (with_reducible repeat (first | apply Kd.R_alloc | apply Kd.R_drewN | apply Kd.R_drew)); exact HO356.out) (Kd.R_base ho0) hb); have n2_ := Aside0.mk (Kd.R_lower (Kd.R_new' (Kd.R_new' ho0 (Kd.R_lt (by (with_reducible repeat (first | apply Kd.R_alloc | apply Kd.R_drewN | apply Kd.R_drew)); exact HO352.out))) (Kd.R_lt (by (with_reducible repeat (first | apply Kd.R_alloc | apply Kd.R_drewN | apply Kd.R_drew)); exact HO356.out))) (below_size (by repeat (first | (with_reducible first | exact HB.out | apply below_alloc | apply pw_below_drewN | apply below_drew1) | exact HB.out)))); have n3_ := Aside0.mk (below_step (by repeat (first | (with_reducible first | exact HB.out | apply below_alloc | apply pw_below_drewN | apply below_drew1) | exact HB.out)) hb); clear HO352; clear HO356; clear HB; have HO352 := n0_; have HO356 := n1_; have HO359 := n2_; have HB := n3_; clear n0_ n1_ n2_ n3_; (try clear hb); (try clear hb2); (try clear hk); (try clear hi); (try clear ho0); obtain ⟨Ao26, co26, eo26⟩ := Kd.R_slice HO359.out; subst eo26) | (go_at_call 18; (with_reducible refine (footlockerref01_Same.calls kj5 _ _ t357 _ _ t350 t360 _ ?side1 ?side2 ?side3 ?side4 A23.out).mono ?_); (case side1 => repeat (first | exact (Kd.R_reads' HO359.out).2.2 | (with_reducible refine Kd.C_alloc ?_ _) | (with_reducible refine Kd.C_drewN ?_ _) | (with_reducible refine Kd.C_drew ?_))); (case side2 => exact (Kd.R_reads' HO359.out).2.1); (case side3 => repeat (first | exact (Kd.R_reads' HO352.out).2.2 | (with_reducible refine Kd.C_alloc ?_ _) | (with_reducible refine Kd.C_drewN ?_ _) | (with_reducible refine Kd.C_drew ?_))); (case side4 => exact (Kd.R_reads' HO352.out).2.1); rintro e w' ⟨rfl, ⟨nd, rfl⟩⟩))
              go_meet
              case rel => exact ⟨_, (!t360), (by first | rfl | (simp; done) | (simp [*]; done)), H', ⟨by have := HJ5.out; first | omega | exact Nat.le_refl _⟩, ⟨by (with_reducible repeat (first | apply Kd.R_alloc | apply Kd.R_drewN | apply Kd.R_drew)); exact Kd.R_mono HO352.out (fun _ hk => trivial)⟩, ⟨by repeat (first | (with_reducible first | exact HB.out | apply below_alloc | apply pw_below_drewN | apply below_drew1) | exact HB.out)⟩⟩
            · replace c21 := Bool.eq_false_iff.mpr c21
              subst c21
              have H1 : (footlockerlaw03_LinearFinds.j1 kj5 l0 l2 t350 true) = some r := by rw [if_neg (show ¬ (false = true) by decide)] at H; exact H
              clear H
              have H := H1
              clear H1
              have H' := Aside0.mk H
              clear H
              go_wp2
              go_meet
              case rel => exact ⟨_, (true), (by first | rfl | (simp; done) | (simp [*]; done)), H', ⟨by have := HJ5.out; first | omega | exact Nat.le_refl _⟩, ⟨by (with_reducible repeat (first | apply Kd.R_alloc | apply Kd.R_drewN | apply Kd.R_drew)); exact Kd.R_mono HO352.out (fun _ hk => trivial)⟩, ⟨by repeat (first | (with_reducible first | exact HB.out | apply below_alloc | apply pw_below_drewN | apply below_drew1) | exact HB.out)⟩⟩
          case rest =>
            clear HC17
            try clear c1
            try clear c2
            try clear p2
            try clear c3
            try clear p3
            try clear q3
            try clear hx3
            try clear qi3
            try clear c5
            try clear c9
            try clear c10
            try clear c11
            try clear c12
            try clear c12b0
            try clear c12b1
            try clear c12b2
            try clear c13
            try clear c13b0
            try clear c13b1
            try clear c14
            try clear c19
            try clear c21
            try clear hx349_0
            try clear p2
            try clear p3
            try clear p349
            try clear q3
            try clear q349
            obtain ⟨kq, x54_16, rfl, HA, HJ16, HO_7, HB⟩ := hcut
            cases kq with
            | zero => exact absurd HA.out (by simp [footlockerlaw03_LinearFinds.j1])
            | succ kj16 =>
              have H := HA.out
              clear HA
              simp only [footlockerlaw03_LinearFinds.j1] at H
              by_cases c27 : x54_16 = true
              · subst c27
                have H1 : (some false) = some r := by rw [if_pos rfl] at H; exact H
                clear H
                have H := H1
                clear H1
                obtain rfl := Option.some.inj H
                go_wp2
                go_ret
                exact ⟨by first | rfl | (simp [errW_none, errW_some] <;> rfl) | (simp [*, errW_none, errW_some] <;> rfl), by repeat (first | (with_reducible first | exact HB.out | apply below_alloc | apply pw_below_drewN | apply below_drew1) | exact HB.out)⟩
              · replace c27 := Bool.eq_false_iff.mpr c27
                subst c27
                have H1 : ((linear_Solve.f kj16 l0 l2).bind fun bt361 => (if bt361.2 = true then ((linear_Times.f kj16 l0 bt361.1).bind fun t365 => ((footlockerref01_Same.f kj16 t365 l2).bind fun t368 => (some t368))) else ((footlockerref01_Same.f kj16 t350 l2).bind fun t369 => (some (!t369))))) = some r := by rw [if_neg (show ¬ (false = true) by decide)] at H; exact H
                clear H
                have H := H1
                clear H1
                replace H := Option.bind_eq_some_iff.mp H
                obtain ⟨⟨t361, t362⟩, A280, H⟩ := H
                replace H : (if t362 = true then ((linear_Times.f kj16 l0 t361).bind fun t365 => ((footlockerref01_Same.f kj16 t365 l2).bind fun t368 => (some t368))) else ((footlockerref01_Same.f kj16 t350 l2).bind fun t369 => (some (!t369)))) = some r := H
                have A28 := Aside0.mk A280
                clear A280
                by_cases c29 : t362 = true
                · subst c29
                  have H1 : ((linear_Times.f kj16 l0 t361).bind fun t365 => ((footlockerref01_Same.f kj16 t365 l2).bind fun t368 => (some t368))) = some r := by rw [if_pos rfl] at H; exact H
                  clear H
                  have H := H1
                  clear H1
                  replace H := Option.bind_eq_some_iff.mp H
                  obtain ⟨t365, A300, H⟩ := H
                  replace H : ((footlockerref01_Same.f kj16 t365 l2).bind fun t368 => (some t368)) = some r := H
                  have A30 := Aside0.mk A300
                  clear A300
                  replace H := Option.bind_eq_some_iff.mp H
                  obtain ⟨t368, A310, H⟩ := H
                  replace H : (some t368) = some r := H
                  have A31 := Aside0.mk A310
                  clear A310
                  obtain rfl := Option.some.inj H
                  go_wp2_with (first | ((with_reducible refine gate_callee (f := 21) rfl ?_); refine goesL_ (some 58) rfl rfl Try.func21 (by kernel_rfl) rfl #[.slice A0 l0.length c0, .slice A2 l2.length c2] rfl (by (try simp only [List.map_toArray, List.map_cons, List.map_nil]); first | done | rfl | (simp only [List.length_drop, List.length_take]; rfl)) ?_; (with_reducible refine (linear_Solve.calls kj16 _ _ l0 _ _ l2 t361 true _ ?side1 ?side2 ?side3 ?side4 A28.out).mono ?_); (case side1 => repeat (first | exact (Kd.C_below HR0.out HB.out) | (with_reducible refine Kd.C_alloc ?_ _) | (with_reducible refine Kd.C_drewN ?_ _) | (with_reducible refine Kd.C_drew ?_))); (case side2 => exact HC0.out); (case side3 => repeat (first | exact (Kd.C_below HR2.out HB.out) | (with_reducible refine Kd.C_alloc ?_ _) | (with_reducible refine Kd.C_drewN ?_ _) | (with_reducible refine Kd.C_drew ?_))); (case side4 => exact HC2.out); rintro e w32 ⟨v363, rfl, ho0, hb⟩; refine ⟨_, rfl, ?_⟩; have n0_ := Aside0.mk (Kd.R_elder' (by (with_reducible repeat (first | apply Kd.R_alloc | apply Kd.R_drewN | apply Kd.R_drew)); exact HO_7.out) (Kd.R_base ho0) hb); have n1_ := Aside0.mk (Kd.R_lower (Kd.R_new' ho0 (Kd.R_lt (by (with_reducible repeat (first | apply Kd.R_alloc | apply Kd.R_drewN | apply Kd.R_drew)); exact HO_7.out))) (below_size (by repeat (first | (with_reducible first | exact HB.out | apply below_alloc | apply pw_below_drewN | apply below_drew1) | exact HB.out)))); have n2_ := Aside0.mk (below_step (by repeat (first | (with_reducible first | exact HB.out | apply below_alloc | apply pw_below_drewN | apply below_drew1) | exact HB.out)) hb); clear HO_7; clear HB; have HO_7 := n0_; have HO364 := n1_; have HB := n2_; clear n0_ n1_ n2_; (try clear hb); (try clear hb2); (try clear hk); (try clear hi); (try clear ho0); obtain ⟨Ao33, co33, eo33⟩ := Kd.R_slice HO364.out; subst eo33) | ((with_reducible refine gate_callee (f := 19) rfl ?_); refine goesL_ (some 64) rfl rfl Try.func19 (by kernel_rfl) rfl #[.slice A0 l0.length c0, .slice Ao33 t361.length co33] rfl (by (try simp only [List.map_toArray, List.map_cons, List.map_nil]); first | done | rfl | (simp only [List.length_drop, List.length_take]; rfl)) ?_; (with_reducible refine (linear_Times.calls kj16 _ _ l0 _ _ t361 t365 _ ?side1 ?side2 ?side3 ?side4 A30.out).mono ?_); (case side1 => repeat (first | exact (Kd.C_below HR0.out HB.out) | (with_reducible refine Kd.C_alloc ?_ _) | (with_reducible refine Kd.C_drewN ?_ _) | (with_reducible refine Kd.C_drew ?_))); (case side2 => exact HC0.out); (case side3 => repeat (first | exact (Kd.R_reads' HO364.out).2.2 | (with_reducible refine Kd.C_alloc ?_ _) | (with_reducible refine Kd.C_drewN ?_ _) | (with_reducible refine Kd.C_drew ?_))); (case side4 => exact (Kd.R_reads' HO364.out).2.1); rintro e w34 ⟨v366, rfl, ho0, hb⟩; refine ⟨_, rfl, ?_⟩; have n0_ := Aside0.mk (Kd.R_elder' (by (with_reducible repeat (first | apply Kd.R_alloc | apply Kd.R_drewN | apply Kd.R_drew)); exact HO_7.out) (Kd.R_base ho0) hb); have n1_ := Aside0.mk (Kd.R_elder' (by (with_reducible repeat (first | apply Kd.R_alloc | apply Kd.R_drewN | apply Kd.R_drew)); exact HO364.out) (Kd.R_base ho0) hb); have n2_ := Aside0.mk (Kd.R_lower (Kd.R_new' (Kd.R_new' ho0 (Kd.R_lt (by (with_reducible repeat (first | apply Kd.R_alloc | apply Kd.R_drewN | apply Kd.R_drew)); exact HO_7.out))) (Kd.R_lt (by (with_reducible repeat (first | apply Kd.R_alloc | apply Kd.R_drewN | apply Kd.R_drew)); exact HO364.out))) (below_size (by repeat (first | (with_reducible first | exact HB.out | apply below_alloc | apply pw_below_drewN | apply below_drew1) | exact HB.out)))); have n3_ := Aside0.mk (below_step (by repeat (first | (with_reducible first | exact HB.out | apply below_alloc | apply pw_below_drewN | apply below_drew1) | exact HB.out)) hb); clear HO_7; clear HO364; clear HB; have HO_7 := n0_; have HO364 := n1_; have HO367 := n2_; have HB := n3_; clear n0_ n1_ n2_ n3_; (try clear hb); (try clear hb2); (try clear hk); (try clear hi); (try clear ho0); obtain ⟨Ao35, co35, eo35⟩ := Kd.R_slice HO367.out; subst eo35) | ((with_reducible refine gate_callee (f := 18) rfl ?_); refine goesL_ (some 66) rfl rfl Try.func18 (by kernel_rfl) rfl #[.slice Ao35 t365.length co35, .slice A2 l2.length c2] rfl (by (try simp only [List.map_toArray, List.map_cons, List.map_nil]); first | done | rfl | (simp only [List.length_drop, List.length_take]; rfl)) ?_; (with_reducible refine (footlockerref01_Same.calls kj16 _ _ t365 _ _ l2 t368 _ ?side1 ?side2 ?side3 ?side4 A31.out).mono ?_); (case side1 => repeat (first | exact (Kd.R_reads' HO367.out).2.2 | (with_reducible refine Kd.C_alloc ?_ _) | (with_reducible refine Kd.C_drewN ?_ _) | (with_reducible refine Kd.C_drew ?_))); (case side2 => exact (Kd.R_reads' HO367.out).2.1); (case side3 => repeat (first | exact (Kd.C_below HR2.out HB.out) | (with_reducible refine Kd.C_alloc ?_ _) | (with_reducible refine Kd.C_drewN ?_ _) | (with_reducible refine Kd.C_drew ?_))); (case side4 => exact HC2.out); rintro e w' ⟨rfl, ⟨nd, rfl⟩⟩; refine ⟨_, rfl, ?_⟩))
                  go_ret
                  exact ⟨by first | rfl | (simp [errW_none, errW_some] <;> rfl) | (simp [*, errW_none, errW_some] <;> rfl), by repeat (first | (with_reducible first | exact HB.out | apply below_alloc | apply pw_below_drewN | apply below_drew1) | exact HB.out)⟩
                · replace c29 := Bool.eq_false_iff.mpr c29
                  subst c29
                  have H1 : ((footlockerref01_Same.f kj16 t350 l2).bind fun t369 => (some (!t369))) = some r := by rw [if_neg (show ¬ (false = true) by decide)] at H; exact H
                  clear H
                  have H := H1
                  clear H1
                  replace H := Option.bind_eq_some_iff.mp H
                  obtain ⟨t369, A360, H⟩ := H
                  replace H : (some (!t369)) = some r := H
                  have A36 := Aside0.mk A360
                  clear A360
                  obtain rfl := Option.some.inj H
                  go_wp2_with (first | ((with_reducible refine gate_callee (f := 21) rfl ?_); refine goesL_ (some 58) rfl rfl Try.func21 (by kernel_rfl) rfl #[.slice A0 l0.length c0, .slice A2 l2.length c2] rfl (by (try simp only [List.map_toArray, List.map_cons, List.map_nil]); first | done | rfl | (simp only [List.length_drop, List.length_take]; rfl)) ?_; (with_reducible refine (linear_Solve.calls kj16 _ _ l0 _ _ l2 t361 false _ ?side1 ?side2 ?side3 ?side4 A28.out).mono ?_); (case side1 => repeat (first | exact (Kd.C_below HR0.out HB.out) | (with_reducible refine Kd.C_alloc ?_ _) | (with_reducible refine Kd.C_drewN ?_ _) | (with_reducible refine Kd.C_drew ?_))); (case side2 => exact HC0.out); (case side3 => repeat (first | exact (Kd.C_below HR2.out HB.out) | (with_reducible refine Kd.C_alloc ?_ _) | (with_reducible refine Kd.C_drewN ?_ _) | (with_reducible refine Kd.C_drew ?_))); (case side4 => exact HC2.out); rintro e w37 ⟨v363, rfl, ho0, hb⟩; refine ⟨_, rfl, ?_⟩; have n0_ := Aside0.mk (Kd.R_elder' (by (with_reducible repeat (first | apply Kd.R_alloc | apply Kd.R_drewN | apply Kd.R_drew)); exact HO_7.out) (Kd.R_base ho0) hb); have n1_ := Aside0.mk (Kd.R_lower (Kd.R_new' ho0 (Kd.R_lt (by (with_reducible repeat (first | apply Kd.R_alloc | apply Kd.R_drewN | apply Kd.R_drew)); exact HO_7.out))) (below_size (by repeat (first | (with_reducible first | exact HB.out | apply below_alloc | apply pw_below_drewN | apply below_drew1) | exact HB.out)))); have n2_ := Aside0.mk (below_step (by repeat (first | (with_reducible first | exact HB.out | apply below_alloc | apply pw_below_drewN | apply below_drew1) | exact HB.out)) hb); clear HO_7; clear HB; have HO_7 := n0_; have HO364 := n1_; have HB := n2_; clear n0_ n1_ n2_; (try clear hb); (try clear hb2); (try clear hk); (try clear hi); (try clear ho0)) | ((with_reducible refine gate_callee (f := 18) rfl ?_); refine goesL_ (some 69) rfl rfl Try.func18 (by kernel_rfl) rfl #[.slice Ao19 t350.length co19, .slice A2 l2.length c2] rfl (by (try simp only [List.map_toArray, List.map_cons, List.map_nil]); first | done | rfl | (simp only [List.length_drop, List.length_take]; rfl)) ?_; (with_reducible refine (footlockerref01_Same.calls kj16 _ _ t350 _ _ l2 t369 _ ?side1 ?side2 ?side3 ?side4 A36.out).mono ?_); (case side1 => repeat (first | exact (Kd.R_reads' HO_7.out).2.2 | (with_reducible refine Kd.C_alloc ?_ _) | (with_reducible refine Kd.C_drewN ?_ _) | (with_reducible refine Kd.C_drew ?_))); (case side2 => exact (Kd.R_reads' HO_7.out).2.1); (case side3 => repeat (first | exact (Kd.C_below HR2.out HB.out) | (with_reducible refine Kd.C_alloc ?_ _) | (with_reducible refine Kd.C_drewN ?_ _) | (with_reducible refine Kd.C_drew ?_))); (case side4 => exact HC2.out); rintro e w' ⟨rfl, ⟨nd, rfl⟩⟩; refine ⟨_, rfl, ?_⟩))
                  go_ret
                  exact ⟨by first | rfl | (simp [errW_none, errW_some] <;> rfl) | (simp [*, errW_none, errW_some] <;> rfl), by repeat (first | (with_reducible first | exact HB.out | apply below_alloc | apply pw_below_drewN | apply below_drew1) | exact HB.out)⟩
  · replace c5 := Bool.eq_false_iff.mpr c5
    subst c5
    have H1 : (some false) = some r := by rw [if_neg (show ¬ (false = true) by decide)] at H; exact H
    clear H
    have H := H1
    clear H1
    obtain rfl := Option.some.inj H
    go_enter Try.func5, Try.ntmps5
    go_wp2_with (first | ((with_reducible refine gate_callee (f := 9) rfl ?_); refine goesL_ (some 12) rfl rfl Try.func9 (by kernel_rfl) rfl #[] rfl (by (try simp only [List.map_toArray, List.map_cons, List.map_nil]); first | done | rfl | (simp only [List.length_drop, List.length_take]; rfl)) ?_; (with_reducible refine (footlockerlaw03_alive.calls k  false _ A4.out).mono ?_); rintro e w38 ⟨rfl, hb⟩; refine ⟨_, rfl, ?_⟩; have n0_ := Aside0.mk (below_step (by repeat (first | (with_reducible first | exact HB.out | apply below_alloc | apply pw_below_drewN | apply below_drew1) | exact HB.out)) hb); clear HB; have HB := n0_; clear n0_; (try clear hb); (try clear hb2); (try clear hk); (try clear hi)))
    go_ret
    exact ⟨by first | rfl | (simp [errW_none, errW_some] <;> rfl) | (simp [*, errW_none, errW_some] <;> rfl), by repeat (first | (with_reducible first | exact HB.out | apply below_alloc | apply pw_below_drewN | apply below_drew1) | exact HB.out)⟩

/-- THE ONE PURE STATEMENT of footlockerlaw03_LinearFinds. -/
def footlockerlaw03_LinearFinds.Pure : Prop := ∀ (l0 : List (List Int)) (l1 : List Int) (l2 : List Int), (l0.length ≤ maxLen ∧ ∀ x2_ ∈ l0, x2_.length ≤ maxLen ∧ ∀ x3_ ∈ x2_, (Lit.int .u8 x3_).wf = true) → (l1.length ≤ maxLen ∧ ∀ x2_ ∈ l1, (Lit.int .u8 x2_).wf = true) → (l2.length ≤ maxLen ∧ ∀ x2_ ∈ l2, (Lit.int .u8 x2_).wf = true) → ∃ k, footlockerlaw03_LinearFinds.f k l0 l1 l2 = some true
theorem footlockerlaw03_LinearFinds.walk (P : footlockerlaw03_LinearFinds.Pure) (A0 : Option Addr) (c0 : Nat) (l0 : List (List Int)) (A1 : Option Addr) (c1 : Nat) (l1 : List Int) (A2 : Option Addr) (c2 : Nat) (l2 : List Int) (w : World) (hr0 : Kd.C (Kd.slice 5 (Kd.int .u8)) w A0 l0.length l0) (hc0 : l0.length ≤ c0) (w0 : l0.length ≤ maxLen ∧ ∀ x2_ ∈ l0, x2_.length ≤ maxLen ∧ ∀ x3_ ∈ x2_, (Lit.int .u8 x3_).wf = true) (hr1 : Kd.C (Kd.int .u8) w A1 l1.length l1) (hc1 : l1.length ≤ c1) (w1 : l1.length ≤ maxLen ∧ ∀ x2_ ∈ l1, (Lit.int .u8 x2_).wf = true) (hr2 : Kd.C (Kd.int .u8) w A2 l2.length l2) (hc2 : l2.length ≤ c2) (w2 : l2.length ≤ maxLen ∧ ∀ x2_ ∈ l2, (Lit.int .u8 x2_).wf = true) :
    Calls Try.prog 5 #[.slice A0 l0.length c0, .slice A1 l1.length c1, .slice A2 l2.length c2] w fun e w' => e = .returned (.bool true) ∧ Below w.heap.size w w' := by
  obtain ⟨k, h⟩ := P l0 l1 l2 w0 w1 w2
  refine (footlockerlaw03_LinearFinds.calls k A0 c0 l0 A1 c1 l1 A2 c2 l2 true w hr0 hc0 hr1 hc1 hr2 hc2 h).mono ?_
  rintro e w' ⟨rfl, hd⟩
  exact ⟨rfl, hd⟩

end Go.Proofs.Ytanknpdibjfmlaa.P
