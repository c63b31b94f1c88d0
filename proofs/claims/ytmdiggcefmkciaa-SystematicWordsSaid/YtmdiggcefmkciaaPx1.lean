/- Functions of the Go program as Lean functions, each with a proof that the Go code answers just so; each theorem states its own conditions. Written by a program. -/
import Derived.Test.YtmdiggcefmkciaaPx0
namespace Go.Proofs.Ytmdiggcefmkciaa.P
open Go.RowKit Go.Proofs.YtmdiggcefmkciaaW.PrintWords Go.Proofs.YtmdiggcefmkciaaW.PrintLast Go.Proofs.YtmdiggcefmkciaaW.PrintMore
attribute [local go_sem] max2_int min2_int max_two min_two max_three min_three max_four min_four   -- for this text's walks alone
set_option linter.unusedVariables false
set_option linter.unusedSimpArgs false

/-! ### gf_twice: function 33 -/
def gf_twice.f (a0 : Int) : Option (Int) := if (Go.bits .and .u8 a0 128) = 0 then (some ((a0 * 2) % 256)) else (some (Go.bits .xor .u8 ((a0 * 2) % 256) 29))
set_option maxHeartbeats 8000000 in
set_option maxRecDepth 100000 in
theorem gf_twice.calls (a0 : Int) (r : Int) (w : World) (h : gf_twice.f a0 = some r) :
    Calls Try.prog 33 #[.int .u8 a0] w fun e w' => e = .returned (.int .u8 r) ∧ Drawn0 w w' := by
  have H : (if (Go.bits .and .u8 a0 128) = 0 then (some ((a0 * 2) % 256)) else (some (Go.bits .xor .u8 ((a0 * 2) % 256) 29))) = some r := h
  clear h
  by_cases c2 : (Go.bits .and .u8 a0 128) = 0
  · rw [if_pos c2] at H
    have c2b0 : ((Go.bits .and .u8 a0 128) == 0) = true := beq_iff_eq.mpr c2
    have c2b1 : ((Go.bits .and .u8 a0 128) != 0) = false := bne_eq_false_iff_eq.mpr c2
    clear c2
    obtain rfl := Option.some.inj H
    go_enter Try.func33, Try.ntmps33
    go_wp2
    go_ret
    exact ⟨by first | rfl | (simp; done) | (simp [*]; done), by repeat (first | exact Drawn0.refl _ | apply Drawn0.step)⟩
  · rw [if_neg c2] at H
    have c2b0 : ((Go.bits .and .u8 a0 128) == 0) = false := beq_eq_false_iff_ne.mpr c2
    have c2b1 : ((Go.bits .and .u8 a0 128) != 0) = true := bne_iff_ne.mpr c2
    obtain rfl := Option.some.inj H
    go_enter Try.func33, Try.ntmps33
    go_wp2
    go_ret
    exact ⟨by first | rfl | (simp; done) | (simp [*]; done), by repeat (first | exact Drawn0.refl _ | apply Drawn0.step)⟩

/-! ### gf_Mul: function 28 -/
def gf_Mul.l0 : Nat → Int → Int → Int → Option (Int)
  | 0, _, _, _ => none
  | k + 1, x0, x1, x5 => if x1 = 0 then (some x5) else (if (Go.bits .and .u8 x1 1) = 0 then ((gf_twice.f x0).bind fun t101 => (gf_Mul.l0 k t101 (x1 / 2) x5)) else ((gf_twice.f x0).bind fun t102 => (gf_Mul.l0 k t102 (x1 / 2) (Go.bits .xor .u8 x5 x0))))
def gf_Mul.f (k : Nat) (a0 : Int) (a1 : Int) : Option (Int) := gf_Mul.l0 k a0 a1 0
theorem gf_Mul.mono_l : ∀ k, (∀ y0 y1 y2, LeO (gf_Mul.l0 k y0 y1 y2) (gf_Mul.l0 (k + 1) y0 y1 y2))
  | 0 => fun _ _ _ r h => by simp [gf_Mul.l0] at h
  | k + 1 => by
    have ih0 := gf_Mul.mono_l k
    · intro y0 y1 y2
      unfold gf_Mul.l0
      repeat' first
      | (with_reducible exact ih0 _ _ _)
      | (with_reducible exact LeO.refl _)
      | (with_reducible exact LeO.none _)
      | (with_reducible refine LeO.ite ?_ ?_)
      | (with_reducible refine LeO.bind ?_ (fun _ => ?_))
      | exact ih0 _ _ _
      | exact LeO.none _
      | refine LeO.ite ?_ ?_
      | refine LeO.bind ?_ (fun _ => ?_)
theorem gf_Mul.mono : ∀ a0 a1 k, LeO (gf_Mul.f k a0 a1) (gf_Mul.f (k + 1) a0 a1) := by
  intro a0 a1 k
  have ih0 := gf_Mul.mono_l k
  unfold gf_Mul.f
  repeat' first
      | (with_reducible exact ih0 _ _ _)
      | (with_reducible exact LeO.refl _)
      | (with_reducible exact LeO.none _)
      | (with_reducible refine LeO.ite ?_ ?_)
      | (with_reducible refine LeO.bind ?_ (fun _ => ?_))
      | exact ih0 _ _ _
      | exact LeO.none _
      | refine LeO.ite ?_ ?_
      | refine LeO.bind ?_ (fun _ => ?_)
set_option maxHeartbeats 8000000 in
set_option maxRecDepth 100000 in
theorem gf_Mul.calls (k : Nat) (a0 : Int) (a1 : Int) (r : Int) (w : World) (h : gf_Mul.f k a0 a1 = some r) :
    Calls Try.prog 28 #[.int .u8 a0, .int .u8 a1] w fun e w' => e = .returned (.int .u8 r) ∧ Drawn0 w w' := by
  have H : (gf_Mul.l0 k a0 a1 0) = some r := h
  clear h
  have H' := Aside0.mk H
  clear H
  go_enter Try.func28, Try.ntmps28
  go_wp2
  go_loopg [0, 1, 5] k (fun kq v0 v1 v5 w' => ∃ (x0_1 : Int) (x1_1 : Int) (x5_1 : Int), v0 = .int .u8 x0_1 ∧ v1 = .int .u8 x1_1 ∧ v5 = .int .u8 x5_1 ∧ Aside0 (gf_Mul.l0 kq x0_1 x1_1 x5_1 = some r) ∧ Aside0 (kq ≤ k) ∧ Drawn0 w w')
  case atStart => exact ⟨(a0), (a1), (0), (by first | rfl | (simp; done) | (simp [*]; done)), (by first | rfl | (simp; done) | (simp [*]; done)), (by first | rfl | (simp; done) | (simp [*]; done)), H', ⟨Nat.le_refl _⟩, by repeat (first | exact Drawn0.refl _ | apply Drawn0.step)⟩
  case round =>
    clear H'
    try clear c2
    try clear p2
    obtain ⟨x0_1, x1_1, x5_1, rfl, rfl, rfl, HA, HK1, ⟨m1, rfl⟩⟩ := hrel
    cases gk with
    | zero => exact absurd HA.out (by simp [gf_Mul.l0])
    | succ k1 =>
      have H := HA.out
      clear HA
      simp only [gf_Mul.l0] at H
      by_cases c3 : x1_1 = 0
      · rw [if_pos c3] at H
        have c3b0 : (x1_1 == 0) = true := beq_iff_eq.mpr c3
        have c3b1 : (x1_1 != 0) = false := bne_eq_false_iff_eq.mpr c3
        clear c3
        obtain rfl := Option.some.inj H
        go_wp2
        go_ret
        exact ⟨by first | rfl | (simp; done) | (simp [*]; done), by repeat (first | exact Drawn0.refl _ | apply Drawn0.step)⟩
      · rw [if_neg c3] at H
        have c3b0 : (x1_1 == 0) = false := beq_eq_false_iff_ne.mpr c3
        have c3b1 : (x1_1 != 0) = true := bne_iff_ne.mpr c3
        by_cases c4 : (Go.bits .and .u8 x1_1 1) = 0
        · rw [if_pos c4] at H
          have c4b0 : ((Go.bits .and .u8 x1_1 1) == 0) = true := beq_iff_eq.mpr c4
          have c4b1 : ((Go.bits .and .u8 x1_1 1) != 0) = false := bne_eq_false_iff_eq.mpr c4
          clear c4
          replace H := Option.bind_eq_some_iff.mp H
          obtain ⟨t101, A50, H⟩ := H
          replace H : (gf_Mul.l0 k1 t101 (x1_1 / 2) x5_1) = some r := H
          have A5 := Aside0.mk A50
          clear A50
          have H' := Aside0.mk H
          clear H
          go_wp2_with (first | ((with_reducible refine gate_callee (f := 33) rfl ?_); refine goesL_ (some 17) rfl rfl Try.func33 (by kernel_rfl) rfl #[.int .u8 x0_1] rfl (by (try simp only [List.map_toArray, List.map_cons, List.map_nil]); first | done | rfl | (simp only [List.length_drop, List.length_take]; rfl)) ?_; (with_reducible refine (gf_twice.calls x0_1 t101 _ A5.out).mono ?_); rintro e w' ⟨rfl, ⟨nd, rfl⟩⟩; refine ⟨_, rfl, ?_⟩))
          go_roundg k1
          case measure => have := HK1.out; omega
          case rel => exact ⟨(t101), (x1_1 / 2), (x5_1), (by first | rfl | (simp; done) | (simp [*]; done)), (by first | rfl | (simp; done) | (simp [*]; done)), (by first | rfl | (simp; done) | (simp [*]; done)), H', ⟨by have := HK1.out; omega⟩, by repeat (first | exact Drawn0.refl _ | apply Drawn0.step)⟩
        · rw [if_neg c4] at H
          have c4b0 : ((Go.bits .and .u8 x1_1 1) == 0) = false := beq_eq_false_iff_ne.mpr c4
          have c4b1 : ((Go.bits .and .u8 x1_1 1) != 0) = true := bne_iff_ne.mpr c4
          replace H := Option.bind_eq_some_iff.mp H
          obtain ⟨t102, A60, H⟩ := H
          replace H : (gf_Mul.l0 k1 t102 (x1_1 / 2) (Go.bits .xor .u8 x5_1 x0_1)) = some r := H
          have A6 := Aside0.mk A60
          clear A60
          have H' := Aside0.mk H
          clear H
          go_wp2_with (first | ((with_reducible refine gate_callee (f := 33) rfl ?_); refine goesL_ (some 17) rfl rfl Try.func33 (by kernel_rfl) rfl #[.int .u8 x0_1] rfl (by (try simp only [List.map_toArray, List.map_cons, List.map_nil]); first | done | rfl | (simp only [List.length_drop, List.length_take]; rfl)) ?_; (with_reducible refine (gf_twice.calls x0_1 t102 _ A6.out).mono ?_); rintro e w' ⟨rfl, ⟨nd, rfl⟩⟩; refine ⟨_, rfl, ?_⟩))
          go_roundg k1
          case measure => have := HK1.out; omega
          case rel => exact ⟨(t102), (x1_1 / 2), (Go.bits .xor .u8 x5_1 x0_1), (by first | rfl | (simp; done) | (simp [*]; done)), (by first | rfl | (simp; done) | (simp [*]; done)), (by first | rfl | (simp; done) | (simp [*]; done)), H', ⟨by have := HK1.out; omega⟩, by repeat (first | exact Drawn0.refl _ | apply Drawn0.step)⟩

/-! ### poly_Eval: function 19 -/
def poly_Eval.l0 : Nat → List Int → Int → Int → Int → Option (Int)
  | 0, _, _, _, _ => none
  | k + 1, x0, x1, x5, x6 => if x6 ≥ 0 then ((gf_Mul.f k x5 x1).bind fun t103 => (if 0 ≤ x6 then (if x6 < (x0.length : Int) then (poly_Eval.l0 k x0 x1 (Go.bits .xor .u8 t103 (rd x0 x6)) (wrap64 (x6 - 1))) else (none)) else (none))) else (some x5)
def poly_Eval.f (k : Nat) (l0 : List Int) (a1 : Int) : Option (Int) := poly_Eval.l0 k l0 a1 0 (wrap64 ((l0.length : Int) - 1))
theorem poly_Eval.mono_l : ∀ k, (∀ y0 y1 y2 y3, LeO (poly_Eval.l0 k y0 y1 y2 y3) (poly_Eval.l0 (k + 1) y0 y1 y2 y3))
  | 0 => fun _ _ _ _ r h => by simp [poly_Eval.l0] at h
  | k + 1 => by
    have ih0 := poly_Eval.mono_l k
    · intro y0 y1 y2 y3
      unfold poly_Eval.l0
      repeat' first
      | (with_reducible exact ih0 _ _ _ _)
      | (with_reducible exact gf_Mul.mono _ _ _)
      | (with_reducible exact LeO.refl _)
      | (with_reducible exact LeO.none _)
      | (with_reducible refine LeO.ite ?_ ?_)
      | (with_reducible refine LeO.bind ?_ (fun _ => ?_))
      | exact ih0 _ _ _ _
      | exact gf_Mul.mono _ _ _
      | exact LeO.none _
      | refine LeO.ite ?_ ?_
      | refine LeO.bind ?_ (fun _ => ?_)
theorem poly_Eval.mono : ∀ a0 a1 k, LeO (poly_Eval.f k a0 a1) (poly_Eval.f (k + 1) a0 a1) := by
  intro a0 a1 k
  have ih0 := poly_Eval.mono_l k
  unfold poly_Eval.f
  repeat' first
      | (with_reducible exact ih0 _ _ _ _)
      | (with_reducible exact gf_Mul.mono _ _ _)
      | (with_reducible exact LeO.refl _)
      | (with_reducible exact LeO.none _)
      | (with_reducible refine LeO.ite ?_ ?_)
      | (with_reducible refine LeO.bind ?_ (fun _ => ?_))
      | exact ih0 _ _ _ _
      | exact gf_Mul.mono _ _ _
      | exact LeO.none _
      | refine LeO.ite ?_ ?_
      | refine LeO.bind ?_ (fun _ => ?_)
set_option maxHeartbeats 8000000 in
set_option maxRecDepth 100000 in
theorem poly_Eval.calls (k : Nat) (A0 : Option Addr) (c0 : Nat) (l0 : List Int) (a1 : Int) (r : Int) (w : World) (hr0 : Kd.C (Kd.int .u8) w A0 l0.length l0) (hc0 : l0.length ≤ c0) (h : poly_Eval.f k l0 a1 = some r) :
    Calls Try.prog 19 #[.slice A0 l0.length c0, .int .u8 a1] w fun e w' => e = .returned (.int .u8 r) ∧ Drawn0 w w' := by
  have HR0 := Aside0.mk hr0
  have HC0 := Aside0.mk hc0
  clear hr0 hc0
  have H : (poly_Eval.l0 k l0 a1 0 (wrap64 ((l0.length : Int) - 1))) = some r := h
  clear h
  have H' := Aside0.mk H
  clear H
  go_enter Try.func19, Try.ntmps19
  go_wp2
  repeat (go_quiet (fail); try go_wp2)
  go_loopg [5, 6] k (fun kq v5 v6 w' => ∃ (x5_1 : Int) (x6_1 : Int), v5 = .int .u8 x5_1 ∧ v6 = .int .i64 x6_1 ∧ Aside0 (poly_Eval.l0 kq l0 a1 x5_1 x6_1 = some r) ∧ Aside0 (kq ≤ k) ∧ Drawn0 w w')
  case atStart => exact ⟨(0), (wrap64 ((l0.length : Int) - 1)), (by first | rfl | (simp; done) | (simp [*]; done)), (by first | rfl | (simp; done) | (simp [*]; done)), H', ⟨Nat.le_refl _⟩, by repeat (first | exact Drawn0.refl _ | apply Drawn0.step)⟩
  case round =>
    clear H'
    try clear c1
    try clear p2
    obtain ⟨x5_1, x6_1, rfl, rfl, HA, HK1, ⟨m1, rfl⟩⟩ := hrel
    cases gk with
    | zero => exact absurd HA.out (by simp [poly_Eval.l0])
    | succ k1 =>
      have H := HA.out
      clear HA
      simp only [poly_Eval.l0] at H
      by_cases c3 : x6_1 ≥ 0
      · rw [if_pos c3] at H
        have c3b0 : decide (0 ≤ x6_1) = true := decide_eq_true c3
        clear c3
        replace H := Option.bind_eq_some_iff.mp H
        obtain ⟨t103, A40, H⟩ := H
        replace H : (if 0 ≤ x6_1 then (if x6_1 < (l0.length : Int) then (poly_Eval.l0 k1 l0 a1 (Go.bits .xor .u8 t103 (rd l0 x6_1)) (wrap64 (x6_1 - 1))) else (none)) else (none)) = some r := H
        have A4 := Aside0.mk A40
        clear A40
        by_cases c5 : 0 ≤ x6_1
        · rw [if_pos c5] at H
          have c5b0 : decide (0 ≤ x6_1) = true := decide_eq_true c5
          clear c5
          by_cases c6 : x6_1 < (l0.length : Int)
          · rw [if_pos c6] at H
            have c6b0 : decide (x6_1 < (l0.length : Int)) = true := decide_eq_true c6
            clear c6
            have H' := Aside0.mk H
            clear H
            go_wp2_with (first | (go_at_call 28; (with_reducible refine (gf_Mul.calls k1 x5_1 a1 t103 _ A4.out).mono ?_); rintro e w' ⟨rfl, ⟨nd, rfl⟩⟩; (try first | exact ⟨rfl, _, World.drewN_drewN _ _ _⟩ | exact ⟨rfl, _, Eq.trans (World.drewN_drewN _ _ _) (congrArg (World.drewN _) (Nat.add_assoc _ _ _))⟩); have p104 : 0 ≤ (x6_1 : Int) := of_decide_eq_true (by first | (with_reducible assumption) | assumption); have q104 : x6_1 < (l0.length : Int) := of_decide_eq_true (by first | (with_reducible assumption) | assumption); obtain ⟨ad104, e104, hx104_0⟩ := Kd.at_int HR0.out x6_1 p104 q104; cases e104; replace p104 := eq_true p104; replace q104 := eq_true q104))
            repeat (go_quiet (first | (go_at_call 28; (with_reducible refine (gf_Mul.calls k1 x5_1 a1 t103 _ A4.out).mono ?_); rintro e w' ⟨rfl, ⟨nd, rfl⟩⟩; (try first | exact ⟨rfl, _, World.drewN_drewN _ _ _⟩ | exact ⟨rfl, _, Eq.trans (World.drewN_drewN _ _ _) (congrArg (World.drewN _) (Nat.add_assoc _ _ _))⟩); have p104 : 0 ≤ (x6_1 : Int) := of_decide_eq_true (by first | (with_reducible assumption) | assumption); have q104 : x6_1 < (l0.length : Int) := of_decide_eq_true (by first | (with_reducible assumption) | assumption); obtain ⟨ad104, e104, hx104_0⟩ := Kd.at_int HR0.out x6_1 p104 q104; cases e104; replace p104 := eq_true p104; replace q104 := eq_true q104)); try go_wp2_with (first | (go_at_call 28; (with_reducible refine (gf_Mul.calls k1 x5_1 a1 t103 _ A4.out).mono ?_); rintro e w' ⟨rfl, ⟨nd, rfl⟩⟩; (try first | exact ⟨rfl, _, World.drewN_drewN _ _ _⟩ | exact ⟨rfl, _, Eq.trans (World.drewN_drewN _ _ _) (congrArg (World.drewN _) (Nat.add_assoc _ _ _))⟩); have p104 : 0 ≤ (x6_1 : Int) := of_decide_eq_true (by first | (with_reducible assumption) | assumption); have q104 : x6_1 < (l0.length : Int) := of_decide_eq_true (by first | (with_reducible assumption) | assumption); obtain ⟨ad104, e104, hx104_0⟩ := Kd.at_int HR0.out x6_1 p104 q104; cases e104; replace p104 := eq_true p104; replace q104 := eq_true q104)))
            go_roundg k1
            case measure => have := HK1.out; omega
            case rel => exact ⟨(Go.bits .xor .u8 t103 (rd l0 x6_1)), (wrap64 (x6_1 - 1)), (by first | rfl | (simp; done) | (simp [*]; done)), (by first | rfl | (simp; done) | (simp [*]; done)), H', ⟨by have := HK1.out; omega⟩, by repeat (first | exact Drawn0.refl _ | apply Drawn0.step)⟩
          · rw [if_neg c6] at H
            exact absurd H (by simp)
        · rw [if_neg c5] at H
          exact absurd H (by simp)
      · rw [if_neg c3] at H
        have c3b0 : decide (0 ≤ x6_1) = false := decide_eq_false c3
        clear c3
        obtain rfl := Option.some.inj H
        go_wp2
        repeat (go_quiet (fail); try go_wp2)
        go_ret
        exact ⟨by first | rfl | (simp; done) | (simp [*]; done), by repeat (first | exact Drawn0.refl _ | apply Drawn0.step)⟩

/-! ### poly_twice: function 23 -/
def poly_twice.go : List Int → List Int → Option Bool
  | _, [] => some false
  | seen, x :: xs => if 0 ≤ x then (if x < 256 then (if seen.contains x = true then some true else poly_twice.go (x :: seen) xs) else none) else none
def poly_twice.f (l0 : List Int) : Option Bool := poly_twice.go [] l0
theorem poly_twice.zero (w : World) : (zeroValue 51).run Try.prog w = .ok (.agg (List.replicate 256 (Value.bool false)).toArray) w := by kernel_rfl
set_option maxHeartbeats 8000000 in
set_option maxRecDepth 100000 in
theorem poly_twice.calls (A0 : Option Addr) (c0 : Nat) (l0 : List Int) (r : Bool) (w : World) (hr0 : Kd.C (Kd.int .u8) w A0 l0.length l0) (hc0 : l0.length ≤ c0) (h : poly_twice.f l0 = some r) :
    Calls Try.prog 23 #[.slice A0 l0.length c0] w fun e w' => e = .returned (.bool r) ∧ Below w.heap.size w w' := by
  have HL := Aside0.mk (show l0.length ≤ 9223372036854775807 from hr0.2.1)
  have hL := HL.out
  have HR0 := Aside0.mk hr0
  have HC0 := Aside0.mk hc0
  clear hr0 hc0
  have HB := Aside0.mk (Below.refl w.heap.size w)
  have H := Aside0.mk (show poly_twice.go [] (l0.drop 0) = some r from h)
  clear h
  obtain ⟨Z, hZ⟩ : ∃ Z, Z = (List.replicate 256 (Value.bool false)).toArray := ⟨_, rfl⟩
  have hzv : ∀ w, (zeroValue 51).run Try.prog w = .ok (.agg Z) w := fun w => by rw [hZ]; exact poly_twice.zero w
  have HZ := Aside0.mk hZ
  clear hZ
  go_enter Try.func23, Try.ntmps23
  go_wp2
  clear hzv
  go_loopw [8] (fun v8 wr => ∃ (j : Nat) (seen : List Int) (cells : Array Value), v8 = .int .i64 j ∧ j ≤ l0.length ∧ Aside0 (poly_twice.go seen (l0.drop j) = some r) ∧ Aside0 (wr.heap[w.heap.size]? = some (.cells cells 51 (0, 0))) ∧ Aside0 (cells.size = 256) ∧ Aside0 (∀ m, m < 256 → cells[m]? = some (.bool (seen.contains (m : Int)))) ∧ Aside0 (Below w.heap.size w wr)) (fun v8 _ => l0.length - (intOf v8).toNat)
  case atStart =>
    refine ⟨0, [], Z, rfl, Nat.zero_le _, H, ⟨?_⟩, ⟨by rw [HZ.out, List.size_toArray, List.length_replicate]⟩, ⟨fun m hm => by rw [HZ.out, List.getElem?_toArray, List.getElem?_replicate, if_pos hm]; rfl⟩, ⟨below_alloc HB.out _⟩⟩
    simpa using heap_alloc_new w (.cells Z 51)
  case round =>
    obtain ⟨j, seen, cells, rfl, hj, HA, HW, HS, HM, HB1⟩ := hrel
    have hRn : ∀ i, i < 256 → wr.cell? ⟨w.heap.size, i, none⟩ = some (.bool (seen.contains (i : Int))) ∧ wr.frozen? ⟨w.heap.size, i, none⟩ = false := by
      intro i hi
      exact ⟨(blk_cell HW.out i).trans (HM.out i hi), blk_frozen HW.out i⟩
    by_cases hlt : j < l0.length
    · obtain ⟨ad, hA0, hcell⟩ := Kd.at_int HR0.out (j : Int) (by omega) (by omega)
      subst hA0
      rw [Int.toNat_natCast] at hcell
      have hcell := (HB1.out.cell (World.block_lt_of_cell? w _ hcell)).trans hcell
      have hdrop : l0.drop j = rd l0 (j : Int) :: l0.drop (j + 1) := by
        rw [List.drop_eq_getElem_cons hlt]
        simp [rd, List.getD_eq_getElem?_getD, List.getElem?_eq_getElem hlt]
      obtain ⟨x, hx⟩ : ∃ x, rd l0 (j : Int) = x := ⟨_, rfl⟩
      rw [hx] at hcell hdrop
      rw [hdrop] at HA
      clear hx hdrop
      have hA := HA.out
      simp only [poly_twice.go] at hA
      by_cases h0 : 0 ≤ x
      · rw [if_pos h0] at hA
        by_cases h1 : x < 256
        · rw [if_pos h1] at hA
          obtain ⟨hc1, hf1⟩ := hRn x.toNat (by omega)
          rw [show ((x.toNat : Nat) : Int) = x by omega] at hc1
          by_cases hs : seen.contains x = true
          · rw [if_pos hs] at hA
            obtain rfl := Option.some.inj hA
            rw [hs] at hc1
            clear hA HA HM hRn HW
            go_wp2
            go_ret
            exact ⟨rfl, HB1.out⟩
          · rw [if_neg hs] at hA
            have HA' := Aside0.mk hA
            have hs' : seen.contains x = false := by simpa using hs
            rw [hs'] at hc1
            have HN := Aside0.mk hs'
            clear hA HA hs hs' hRn
            go_wp2
            go_roundw
            case rel =>
              refine ⟨j + 1, x :: seen, cells.setIfInBounds x.toNat (.bool true), by go_num, by omega, HA', ⟨blk_set HW.out x.toNat (.bool true)⟩, ⟨by rw [Array.size_setIfInBounds]; exact HS.out⟩, ⟨fun m hm => ?_⟩, ⟨below_set HB1.out (Nat.le_refl _)⟩⟩
              rw [Array.getElem?_setIfInBounds]
              by_cases he : x.toNat = m
              · have hxm : (m : Int) = x := by omega
                rw [if_pos he, if_pos (by rw [HS.out]; omega), hxm]
                simp
              · rw [if_neg he, HM.out m hm]
                have hxm : (m : Int) ≠ x := by omega
                have hb : ((m : Int) == x) = false := by simp [hxm]
                rw [List.contains_cons, hb, Bool.false_or]
            case measure => simp [intOf]; omega
        · rw [if_neg h1] at hA
          exact absurd hA (by simp)
      · rw [if_neg h0] at hA
        exact absurd hA (by simp)
    · obtain rfl : j = l0.length := by omega
      have hA := HA.out
      rw [List.drop_of_length_le (Nat.le_refl _)] at hA
      obtain rfl := Option.some.inj hA
      clear hA HA HM hRn HW
      go_wp2
      go_ret
      exact ⟨rfl, HB1.out⟩

/-! ### gf_power: function 38 -/
def gf_power.l0 : Nat → Int → Int → Int → Option (Int)
  | 0, _, _, _ => none
  | k + 1, x0, x1, x5 => if x1 > 0 then (if (Go.bits .and .i64 x1 1) = 0 then ((gf_Mul.f k x0 x0).bind fun t105 => (gf_power.l0 k t105 (x1 / 2) x5)) else ((gf_Mul.f k x5 x0).bind fun t106 => ((gf_Mul.f k x0 x0).bind fun t107 => (gf_power.l0 k t107 (x1 / 2) t106)))) else (some x5)
def gf_power.f (k : Nat) (a0 : Int) (a1 : Int) : Option (Int) := gf_power.l0 k a0 a1 1
theorem gf_power.mono_l : ∀ k, (∀ y0 y1 y2, LeO (gf_power.l0 k y0 y1 y2) (gf_power.l0 (k + 1) y0 y1 y2))
  | 0 => fun _ _ _ r h => by simp [gf_power.l0] at h
  | k + 1 => by
    have ih0 := gf_power.mono_l k
    · intro y0 y1 y2
      unfold gf_power.l0
      repeat' first
      | (with_reducible exact ih0 _ _ _)
      | (with_reducible exact gf_Mul.mono _ _ _)
      | (with_reducible exact LeO.refl _)
      | (with_reducible exact LeO.none _)
      | (with_reducible refine LeO.ite ?_ ?_)
      | (with_reducible refine LeO.bind ?_ (fun _ => ?_))
      | exact ih0 _ _ _
      | exact gf_Mul.mono _ _ _
      | exact LeO.none _
      | refine LeO.ite ?_ ?_
      | refine LeO.bind ?_ (fun _ => ?_)
theorem gf_power.mono : ∀ a0 a1 k, LeO (gf_power.f k a0 a1) (gf_power.f (k + 1) a0 a1) := by
  intro a0 a1 k
  have ih0 := gf_power.mono_l k
  unfold gf_power.f
  repeat' first
      | (with_reducible exact ih0 _ _ _)
      | (with_reducible exact gf_Mul.mono _ _ _)
      | (with_reducible exact LeO.refl _)
      | (with_reducible exact LeO.none _)
      | (with_reducible refine LeO.ite ?_ ?_)
      | (with_reducible refine LeO.bind ?_ (fun _ => ?_))
      | exact ih0 _ _ _
      | exact gf_Mul.mono _ _ _
      | exact LeO.none _
      | refine LeO.ite ?_ ?_
      | refine LeO.bind ?_ (fun _ => ?_)
set_option maxHeartbeats 8000000 in
set_option maxRecDepth 100000 in
theorem gf_power.calls (k : Nat) (a0 : Int) (a1 : Int) (r : Int) (w : World) (h : gf_power.f k a0 a1 = some r) :
    Calls Try.prog 38 #[.int .u8 a0, .int .i64 a1] w fun e w' => e = .returned (.int .u8 r) ∧ Drawn0 w w' := by
  have H : (gf_power.l0 k a0 a1 1) = some r := h
  clear h
  have H' := Aside0.mk H
  clear H
  go_enter Try.func38, Try.ntmps38
  go_wp2
  go_loopg [0, 1, 5] k (fun kq v0 v1 v5 w' => ∃ (x0_1 : Int) (x1_1 : Int) (x5_1 : Int), v0 = .int .u8 x0_1 ∧ v1 = .int .i64 x1_1 ∧ v5 = .int .u8 x5_1 ∧ Aside0 (gf_power.l0 kq x0_1 x1_1 x5_1 = some r) ∧ Aside0 (kq ≤ k) ∧ Drawn0 w w')
  case atStart => exact ⟨(a0), (a1), (1), (by first | rfl | (simp; done) | (simp [*]; done)), (by first | rfl | (simp; done) | (simp [*]; done)), (by first | rfl | (simp; done) | (simp [*]; done)), H', ⟨Nat.le_refl _⟩, by repeat (first | exact Drawn0.refl _ | apply Drawn0.step)⟩
  case round =>
    clear H'
    try clear p2
    obtain ⟨x0_1, x1_1, x5_1, rfl, rfl, rfl, HA, HK1, ⟨m1, rfl⟩⟩ := hrel
    cases gk with
    | zero => exact absurd HA.out (by simp [gf_power.l0])
    | succ k1 =>
      have H := HA.out
      clear HA
      simp only [gf_power.l0] at H
      by_cases c3 : x1_1 > 0
      · rw [if_pos c3] at H
        have c3b0 : decide (0 < x1_1) = true := decide_eq_true c3
        clear c3
        by_cases c4 : (Go.bits .and .i64 x1_1 1) = 0
        · rw [if_pos c4] at H
          have c4b0 : ((Go.bits .and .i64 x1_1 1) == 0) = true := beq_iff_eq.mpr c4
          have c4b1 : ((Go.bits .and .i64 x1_1 1) != 0) = false := bne_eq_false_iff_eq.mpr c4
          clear c4
          replace H := Option.bind_eq_some_iff.mp H
          obtain ⟨t105, A50, H⟩ := H
          replace H : (gf_power.l0 k1 t105 (x1_1 / 2) x5_1) = some r := H
          have A5 := Aside0.mk A50
          clear A50
          have H' := Aside0.mk H
          clear H
          go_wp2_with (first | ((with_reducible refine gate_callee (f := 28) rfl ?_); refine goesL_ (some 18) rfl rfl Try.func28 (by kernel_rfl) rfl #[.int .u8 x0_1, .int .u8 x0_1] rfl (by (try simp only [List.map_toArray, List.map_cons, List.map_nil]); first | done | rfl | (simp only [List.length_drop, List.length_take]; rfl)) ?_; (with_reducible refine (gf_Mul.calls k1 x0_1 x0_1 t105 _ A5.out).mono ?_); rintro e w' ⟨rfl, ⟨nd, rfl⟩⟩; refine ⟨_, rfl, ?_⟩))
          go_roundg k1
          case measure => have := HK1.out; omega
          case rel => exact ⟨(t105), (x1_1 / 2), (x5_1), (by first | rfl | (simp; done) | (simp [*]; done)), (by first | rfl | (simp; done) | (simp [*]; done)), (by first | rfl | (simp; done) | (simp [*]; done)), H', ⟨by have := HK1.out; omega⟩, by repeat (first | exact Drawn0.refl _ | apply Drawn0.step)⟩
        · rw [if_neg c4] at H
          have c4b0 : ((Go.bits .and .i64 x1_1 1) == 0) = false := beq_eq_false_iff_ne.mpr c4
          have c4b1 : ((Go.bits .and .i64 x1_1 1) != 0) = true := bne_iff_ne.mpr c4
          replace H := Option.bind_eq_some_iff.mp H
          obtain ⟨t106, A60, H⟩ := H
          replace H : ((gf_Mul.f k1 x0_1 x0_1).bind fun t107 => (gf_power.l0 k1 t107 (x1_1 / 2) t106)) = some r := H
          have A6 := Aside0.mk A60
          clear A60
          replace H := Option.bind_eq_some_iff.mp H
          obtain ⟨t107, A70, H⟩ := H
          replace H : (gf_power.l0 k1 t107 (x1_1 / 2) t106) = some r := H
          have A7 := Aside0.mk A70
          clear A70
          have H' := Aside0.mk H
          clear H
          go_wp2_with (first | ((with_reducible refine gate_callee (f := 28) rfl ?_); refine goesL_ (some 15) rfl rfl Try.func28 (by kernel_rfl) rfl #[.int .u8 x5_1, .int .u8 x0_1] rfl (by (try simp only [List.map_toArray, List.map_cons, List.map_nil]); first | done | rfl | (simp only [List.length_drop, List.length_take]; rfl)) ?_; (with_reducible refine (gf_Mul.calls k1 x5_1 x0_1 t106 _ A6.out).mono ?_); rintro e w' ⟨rfl, ⟨nd, rfl⟩⟩; refine ⟨_, rfl, ?_⟩) | ((with_reducible refine gate_callee (f := 28) rfl ?_); refine goesL_ (some 18) rfl rfl Try.func28 (by kernel_rfl) rfl #[.int .u8 x0_1, .int .u8 x0_1] rfl (by (try simp only [List.map_toArray, List.map_cons, List.map_nil]); first | done | rfl | (simp only [List.length_drop, List.length_take]; rfl)) ?_; (with_reducible refine (gf_Mul.calls k1 x0_1 x0_1 t107 _ A7.out).mono ?_); rintro e w' ⟨rfl, ⟨nd, rfl⟩⟩; refine ⟨_, rfl, ?_⟩))
          go_roundg k1
          case measure => have := HK1.out; omega
          case rel => exact ⟨(t107), (x1_1 / 2), (t106), (by first | rfl | (simp; done) | (simp [*]; done)), (by first | rfl | (simp; done) | (simp [*]; done)), (by first | rfl | (simp; done) | (simp [*]; done)), H', ⟨by have := HK1.out; omega⟩, by repeat (first | exact Drawn0.refl _ | apply Drawn0.step)⟩
      · rw [if_neg c3] at H
        have c3b0 : decide (0 < x1_1) = false := decide_eq_false c3
        clear c3
        obtain rfl := Option.some.inj H
        go_wp2
        go_ret
        exact ⟨by first | rfl | (simp; done) | (simp [*]; done), by repeat (first | exact Drawn0.refl _ | apply Drawn0.step)⟩

/-! ### gf_Inv: function 31 -/
def gf_Inv.f (k : Nat) (a0 : Int) : Option (Int) := (gf_power.f k a0 254).bind fun t108 => (some t108)
theorem gf_Inv.mono : ∀ a0 k, LeO (gf_Inv.f k a0) (gf_Inv.f (k + 1) a0) := by
  intro a0 k
  unfold gf_Inv.f
  repeat' first
      | (with_reducible exact gf_power.mono _ _ _)
      | (with_reducible exact LeO.refl _)
      | (with_reducible exact LeO.none _)
      | (with_reducible refine LeO.ite ?_ ?_)
      | (with_reducible refine LeO.bind ?_ (fun _ => ?_))
      | exact gf_power.mono _ _ _
      | exact LeO.none _
      | refine LeO.ite ?_ ?_
      | refine LeO.bind ?_ (fun _ => ?_)
set_option maxHeartbeats 8000000 in
set_option maxRecDepth 100000 in
theorem gf_Inv.calls (k : Nat) (a0 : Int) (r : Int) (w : World) (h : gf_Inv.f k a0 = some r) :
    Calls Try.prog 31 #[.int .u8 a0] w fun e w' => e = .returned (.int .u8 r) ∧ Drawn0 w w' := by
  have H : ((gf_power.f k a0 254).bind fun t108 => (some t108)) = some r := h
  clear h
  replace H := Option.bind_eq_some_iff.mp H
  obtain ⟨t108, A20, H⟩ := H
  replace H : (some t108) = some r := H
  have A2 := Aside0.mk A20
  clear A20
  obtain rfl := Option.some.inj H
  go_enter Try.func31, Try.ntmps31
  go_wp2_with (first | ((with_reducible refine gate_callee (f := 38) rfl ?_); refine goesL_ (some 4) rfl rfl Try.func38 (by kernel_rfl) rfl #[.int .u8 a0, .int .i64 254] rfl (by (try simp only [List.map_toArray, List.map_cons, List.map_nil]); first | done | rfl | (simp only [List.length_drop, List.length_take]; rfl)) ?_; (with_reducible refine (gf_power.calls k a0 254 t108 _ A2.out).mono ?_); rintro e w' ⟨rfl, ⟨nd, rfl⟩⟩; refine ⟨_, rfl, ?_⟩))
  go_ret
  exact ⟨by first | rfl | (simp; done) | (simp [*]; done), by repeat (first | exact Drawn0.refl _ | apply Drawn0.step)⟩

/-! ### gf_Div: function 24 -/
def gf_Div.f (k : Nat) (a0 : Int) (a1 : Int) : Option (Int × Bool) := if a1 = 0 then (some (0, false)) else ((gf_Inv.f k a1).bind fun t109 => ((gf_Mul.f k a0 t109).bind fun t110 => (some (t110, true))))
theorem gf_Div.mono : ∀ a0 a1 k, LeO (gf_Div.f k a0 a1) (gf_Div.f (k + 1) a0 a1) := by
  intro a0 a1 k
  unfold gf_Div.f
  repeat' first
      | (with_reducible exact gf_Inv.mono _ _)
      | (with_reducible exact gf_Mul.mono _ _ _)
      | (with_reducible exact LeO.refl _)
      | (with_reducible exact LeO.none _)
      | (with_reducible refine LeO.ite ?_ ?_)
      | (with_reducible refine LeO.bind ?_ (fun _ => ?_))
      | exact gf_Inv.mono _ _
      | exact gf_Mul.mono _ _ _
      | exact LeO.none _
      | refine LeO.ite ?_ ?_
      | refine LeO.bind ?_ (fun _ => ?_)
set_option maxHeartbeats 8000000 in
set_option maxRecDepth 100000 in
theorem gf_Div.calls (k : Nat) (a0 : Int) (a1 : Int) (r1 : Int) (r2 : Bool) (w : World) (h : gf_Div.f k a0 a1 = some (r1, r2)) :
    Calls Try.prog 24 #[.int .u8 a0, .int .u8 a1] w fun e w' => e = .returned (.tuple #[.int .u8 r1, .bool r2]) ∧ Drawn0 w w' := by
  have H : (if a1 = 0 then (some (0, false)) else ((gf_Inv.f k a1).bind fun t109 => ((gf_Mul.f k a0 t109).bind fun t110 => (some (t110, true))))) = some (r1, r2) := h
  clear h
  by_cases c3 : a1 = 0
  · rw [if_pos c3] at H
    have c3b0 : (a1 == 0) = true := beq_iff_eq.mpr c3
    have c3b1 : (a1 != 0) = false := bne_eq_false_iff_eq.mpr c3
    clear c3
    simp only [Option.some.injEq, Prod.mk.injEq] at H
    obtain ⟨rfl, rfl⟩ := H
    go_enter Try.func24, Try.ntmps24
    go_wp2
    go_ret2
    exact ⟨by first | rfl | (simp; done) | (simp [*]; done), by repeat (first | exact Drawn0.refl _ | apply Drawn0.step)⟩
  · rw [if_neg c3] at H
    have c3b0 : (a1 == 0) = false := beq_eq_false_iff_ne.mpr c3
    have c3b1 : (a1 != 0) = true := bne_iff_ne.mpr c3
    replace H := Option.bind_eq_some_iff.mp H
    obtain ⟨t109, A40, H⟩ := H
    replace H : ((gf_Mul.f k a0 t109).bind fun t110 => (some (t110, true))) = some (r1, r2) := H
    have A4 := Aside0.mk A40
    clear A40
    replace H := Option.bind_eq_some_iff.mp H
    obtain ⟨t110, A50, H⟩ := H
    replace H : (some (t110, true)) = some (r1, r2) := H
    have A5 := Aside0.mk A50
    clear A50
    simp only [Option.some.injEq, Prod.mk.injEq] at H
    obtain ⟨rfl, rfl⟩ := H
    go_enter Try.func24, Try.ntmps24
    go_wp2_with (first | ((with_reducible refine gate_callee (f := 31) rfl ?_); refine goesL_ (some 10) rfl rfl Try.func31 (by kernel_rfl) rfl #[.int .u8 a1] rfl (by (try simp only [List.map_toArray, List.map_cons, List.map_nil]); first | done | rfl | (simp only [List.length_drop, List.length_take]; rfl)) ?_; (with_reducible refine (gf_Inv.calls k a1 t109 _ A4.out).mono ?_); rintro e w' ⟨rfl, ⟨nd, rfl⟩⟩; refine ⟨_, rfl, ?_⟩) | ((with_reducible refine gate_callee (f := 28) rfl ?_); refine goesL_ (some 11) rfl rfl Try.func28 (by kernel_rfl) rfl #[.int .u8 a0, .int .u8 t109] rfl (by (try simp only [List.map_toArray, List.map_cons, List.map_nil]); first | done | rfl | (simp only [List.length_drop, List.length_take]; rfl)) ?_; (with_reducible refine (gf_Mul.calls k a0 t109 t110 _ A5.out).mono ?_); rintro e w' ⟨rfl, ⟨nd, rfl⟩⟩; refine ⟨_, rfl, ?_⟩))
    go_ret2
    exact ⟨by first | rfl | (simp; done) | (simp [*]; done), by repeat (first | exact Drawn0.refl _ | apply Drawn0.step)⟩

/-! ### poly_Degree: function 22 -/
def poly_Degree.l0 : Nat → List Int → Int → Option (Int)
  | 0, _, _ => none
  | k + 1, x0, x3 => if x3 ≥ 0 then (if 0 ≤ x3 then (if x3 < (x0.length : Int) then (if (rd x0 x3) = 0 then (poly_Degree.l0 k x0 (wrap64 (x3 - 1))) else (some x3)) else (none)) else (none)) else (some x3)
def poly_Degree.f (k : Nat) (l0 : List Int) : Option (Int) := poly_Degree.l0 k l0 (wrap64 ((l0.length : Int) - 1))
theorem poly_Degree.mono_l : ∀ k, (∀ y0 y1, LeO (poly_Degree.l0 k y0 y1) (poly_Degree.l0 (k + 1) y0 y1))
  | 0 => fun _ _ r h => by simp [poly_Degree.l0] at h
  | k + 1 => by
    have ih0 := poly_Degree.mono_l k
    · intro y0 y1
      unfold poly_Degree.l0
      repeat' first
      | (with_reducible exact ih0 _ _)
      | (with_reducible exact LeO.refl _)
      | (with_reducible exact LeO.none _)
      | (with_reducible refine LeO.ite ?_ ?_)
      | (with_reducible refine LeO.bind ?_ (fun _ => ?_))
      | exact ih0 _ _
      | exact LeO.none _
      | refine LeO.ite ?_ ?_
      | refine LeO.bind ?_ (fun _ => ?_)
theorem poly_Degree.mono : ∀ a0 k, LeO (poly_Degree.f k a0) (poly_Degree.f (k + 1) a0) := by
  intro a0 k
  have ih0 := poly_Degree.mono_l k
  unfold poly_Degree.f
  repeat' first
      | (with_reducible exact ih0 _ _)
      | (with_reducible exact LeO.refl _)
      | (with_reducible exact LeO.none _)
      | (with_reducible refine LeO.ite ?_ ?_)
      | (with_reducible refine LeO.bind ?_ (fun _ => ?_))
      | exact ih0 _ _
      | exact LeO.none _
      | refine LeO.ite ?_ ?_
      | refine LeO.bind ?_ (fun _ => ?_)
set_option maxHeartbeats 8000000 in
set_option maxRecDepth 100000 in
theorem poly_Degree.calls (k : Nat) (A0 : Option Addr) (c0 : Nat) (l0 : List Int) (r : Int) (w : World) (hr0 : Kd.C (Kd.int .u8) w A0 l0.length l0) (hc0 : l0.length ≤ c0) (h : poly_Degree.f k l0 = some r) :
    Calls Try.prog 22 #[.slice A0 l0.length c0] w fun e w' => e = .returned (.int .i64 r) ∧ Drawn0 w w' := by
  have HR0 := Aside0.mk hr0
  have HC0 := Aside0.mk hc0
  clear hr0 hc0
  have H : (poly_Degree.l0 k l0 (wrap64 ((l0.length : Int) - 1))) = some r := h
  clear h
  have H' := Aside0.mk H
  clear H
  go_enter Try.func22, Try.ntmps22
  go_wp2
  go_loopg [3] k (fun kq v3 w' => ∃ (x3_1 : Int), v3 = .int .i64 x3_1 ∧ Aside0 (poly_Degree.l0 kq l0 x3_1 = some r) ∧ Aside0 (kq ≤ k) ∧ Drawn0 w w')
  case atStart => exact ⟨(wrap64 ((l0.length : Int) - 1)), (by first | rfl | (simp; done) | (simp [*]; done)), H', ⟨Nat.le_refl _⟩, by repeat (first | exact Drawn0.refl _ | apply Drawn0.step)⟩
  case round =>
    clear H'
    obtain ⟨x3_1, rfl, HA, HK1, ⟨m1, rfl⟩⟩ := hrel
    cases gk with
    | zero => exact absurd HA.out (by simp [poly_Degree.l0])
    | succ k1 =>
      have H := HA.out
      clear HA
      simp only [poly_Degree.l0] at H
      by_cases c2 : x3_1 ≥ 0
      · rw [if_pos c2] at H
        have c2b0 : decide (0 ≤ x3_1) = true := decide_eq_true c2
        clear c2
        by_cases c3 : 0 ≤ x3_1
        · rw [if_pos c3] at H
          have c3b0 : decide (0 ≤ x3_1) = true := decide_eq_true c3
          clear c3
          by_cases c4 : x3_1 < (l0.length : Int)
          · rw [if_pos c4] at H
            have c4b0 : decide (x3_1 < (l0.length : Int)) = true := decide_eq_true c4
            clear c4
            by_cases c5 : (rd l0 x3_1) = 0
            · rw [if_pos c5] at H
              have c5b0 : ((rd l0 x3_1) == 0) = true := beq_iff_eq.mpr c5
              have c5b1 : ((rd l0 x3_1) != 0) = false := bne_eq_false_iff_eq.mpr c5
              clear c5
              have H' := Aside0.mk H
              clear H
              have p111 : 0 ≤ (x3_1 : Int) := of_decide_eq_true (by first | (with_reducible assumption) | assumption)
              have q111 : x3_1 < (l0.length : Int) := of_decide_eq_true (by first | (with_reducible assumption) | assumption)
              obtain ⟨ad111, e111, hx111_0⟩ := Kd.at_int HR0.out x3_1 p111 q111
              cases e111
              replace p111 := eq_true p111
              replace q111 := eq_true q111
              go_wp2
              go_roundg k1
              case measure => have := HK1.out; omega
              case rel => exact ⟨(wrap64 (x3_1 - 1)), (by first | rfl | (simp; done) | (simp [*]; done)), H', ⟨by have := HK1.out; omega⟩, by repeat (first | exact Drawn0.refl _ | apply Drawn0.step)⟩
            · rw [if_neg c5] at H
              have c5b0 : ((rd l0 x3_1) == 0) = false := beq_eq_false_iff_ne.mpr c5
              have c5b1 : ((rd l0 x3_1) != 0) = true := bne_iff_ne.mpr c5
              obtain rfl := Option.some.inj H
              have p111 : 0 ≤ (x3_1 : Int) := of_decide_eq_true (by first | (with_reducible assumption) | assumption)
              have q111 : x3_1 < (l0.length : Int) := of_decide_eq_true (by first | (with_reducible assumption) | assumption)
              obtain ⟨ad111, e111, hx111_0⟩ := Kd.at_int HR0.out x3_1 p111 q111
              cases e111
              replace p111 := eq_true p111
              replace q111 := eq_true q111
              go_wp2
              go_ret
              exact ⟨by first | rfl | (simp; done) | (simp [*]; done), by repeat (first | exact Drawn0.refl _ | apply Drawn0.step)⟩
          · rw [if_neg c4] at H
            exact absurd H (by simp)
        · rw [if_neg c3] at H
          exact absurd H (by simp)
      · rw [if_neg c2] at H
        have c2b0 : decide (0 ≤ x3_1) = false := decide_eq_false c2
        clear c2
        obtain rfl := Option.some.inj H
        go_wp2
        go_ret
        exact ⟨by first | rfl | (simp; done) | (simp [*]; done), by repeat (first | exact Drawn0.refl _ | apply Drawn0.step)⟩

/-! ### slices_Clone_byte_byte: function 39 -/
def slices_Clone_byte_byte.f (l0 : List Int) : Option (List Int) := if l0.length < 140737488355328 then some l0 else none
set_option maxHeartbeats 8000000 in
set_option maxRecDepth 100000 in
theorem slices_Clone_byte_byte.calls (A0 : Option Addr) (c0 : Nat) (l0 : List Int) (r : List Int) (w : World) (hr0 : Kd.C (Kd.int .u8) w A0 l0.length l0) (hc0 : l0.length ≤ c0) (h : slices_Clone_byte_byte.f l0 = some r) :
    Calls Try.prog 39 #[.slice A0 l0.length c0] w fun e w' => ∃ v0_ : Value, e = .returned (v0_) ∧ Kd.R (Kd.int .u8) 5 w' w.heap.size (fun _ => True) v0_ r ∧ Below w.heap.size w w' := by
  have HR0 := Aside0.mk hr0
  have HC0 := Aside0.mk hc0
  clear hr0 hc0
  have HB := Aside0.mk (Below.refl w.heap.size w)
  unfold slices_Clone_byte_byte.f at h
  by_cases c2 : l0.length < 140737488355328
  · rw [if_pos c2] at h
    have LMc2 : Aside0 (([] : List Int).length + l0.length < 140737488355328) := ⟨by simpa using c2⟩
    clear c2
    obtain rfl := Option.some.inj h
    clear h
    have heq := fun (w : World) => Lib.run_eql_slice_nil (P := Try.prog) w 22 5 A0 l0.length c0 0 0 Try.underlying22
    cases A0 with
    | none =>
      have h0 : l0 = [] := by
        by_cases hz : 0 < l0.length
        · obtain ⟨ad, he, _⟩ := HR0.out.2.2 hz
          cases he
        · exact List.eq_nil_of_length_eq_zero (by omega)
      subst h0
      simp only [List.length_nil, Option.isNone_none] at heq
      simp only [List.length_nil]
      go_enter Try.func39, Try.ntmps39
      go_wp2
      go_ret
      exact ⟨_, rfl, Kd.R_nil _ _ _ _ _, HB.out⟩
    | some ad0 =>
      simp only [Option.isNone_some] at heq
      obtain ⟨y137, hy137⟩ : ∃ y_ : List Int, y_ = (([] : List Int)) := ⟨_, rfl⟩
      obtain ⟨y140, hy140⟩ : ∃ y_ : List Int, y_ = (y137 ++ l0) := ⟨_, rfl⟩
      have Ny137 := Aside0.mk hy137
      have Ny140 := Aside0.mk hy140
      have Nyl : Aside0 (y140 = l0) := ⟨by rw [hy140, hy137, List.nil_append]⟩
      rw [← hy137] at LMc2
      clear hy137 hy140
      go_enter Try.func39, Try.ntmps39
      go_wp2_with (first | ((with_reducible refine gate_dst (N := 5) rfl ?_); refine Kd.R_lit (Kd.int .u8) _ 5 ?hg (N := 5) ?hd (xs := ([] : List Int)) (inner := []) (ok := fun _ => True) (okp := fun _ => True) ?hr ?hp (fun _ hk => hk) trivial (Below.refl _ _) (Nat.le_refl _) (by simp) ?_; (case hd => rfl); (case hg => rfl); (case hr => first | (go_simp; done) | (go_simp; rfl)); (case hp => exact (Reps.none _ _)); intro v138 w3 ho4 hb hg_ hnew_; clear hg_ hnew_; (first | rw [← Ny137.out] at ho4 | (simp only [Int.reduceToNat] at ho4; rw [← Ny137.out] at ho4)); have n0_ := Aside0.mk (Kd.R_lower ho4 (below_size (by repeat (first | (with_reducible first | exact HB.out | apply below_alloc | apply pw_below_drewN | apply below_drew1) | exact HB.out)))); have n1_ := Aside0.mk (below_step (by repeat (first | (with_reducible first | exact HB.out | apply below_alloc | apply pw_below_drewN | apply below_drew1) | exact HB.out)) hb); clear HB; have HO139 := n0_; have HB := n1_; clear n0_ n1_; clear hb ho4) | ((with_reducible refine gate_builtin (b := .append) (xs := #[.tmp 5, .tmp 6]) rfl ?_); at_builtin; refine Kd.R_append_rows (Kd.int .u8) (w0 := w) w.heap.size rfl (.tmp 5) (.tmp 6) 22 5 (.int .u8 0) 1 rfl Try.underlying22 info5 rfl (by decide) (by omega) v138 y137 l0 _ _ _ (fun _ => True) (fun _ => False) rfl rfl ?aO ?aR (fun _ _ h => h) (fun _ h => h.elim) ?aF ?aB ?aS ?aL ?_; (case aR => repeat (first | exact (Kd.C_below HR0.out HB.out) | (with_reducible refine Kd.C_alloc ?_ _) | (with_reducible refine Kd.C_drewN ?_ _) | (with_reducible refine Kd.C_drew ?_))); (case aB => exact (by repeat (first | (with_reducible first | exact HB.out | apply below_alloc | apply pw_below_drewN | apply below_drew1) | exact HB.out))); (case aF => exact (fun _ _ => trivial)); (case aO => exact (by (with_reducible repeat (first | apply Kd.R_alloc | apply Kd.R_drewN | apply Kd.R_drew)); exact HO139.out)); (case aS => exact (below_size (by repeat (first | (with_reducible first | exact HB.out | apply below_alloc | apply pw_below_drewN | apply below_drew1) | exact HB.out)))); (case aL => have := LMc2.out; omega); intro v141 w5 ho hb hg hat; rw [← Ny140.out] at ho; have n0_ := Aside0.mk (hb); have n1_ := Aside0.mk (ho); clear HB; clear HO139; have HB := n0_; have HO142 := n1_; clear n0_ n1_; clear ho hb hg hat))
      go_ret
      refine ⟨_, rfl, ?_, HB.out⟩
      have := HO142.out
      rw [Nyl.out] at this
      exact this
  · rw [if_neg c2] at h
    exact absurd h (by simp)

/-! ### poly_Trim: function 32 -/
def poly_Trim.f (k : Nat) (l0 : List Int) : Option (List Int) := (poly_Degree.f k l0).bind fun t112 => (if 0 ≤ (wrap64 (t112 + 1)) then (if (wrap64 (t112 + 1)) ≤ (l0.length : Int) then ((slices_Clone_byte_byte.f (l0.take ((wrap64 (t112 + 1)) : Int).toNat)).bind fun t114 => (some t114)) else (none)) else (none))
theorem poly_Trim.mono : ∀ a0 k, LeO (poly_Trim.f k a0) (poly_Trim.f (k + 1) a0) := by
  intro a0 k
  unfold poly_Trim.f
  repeat' first
      | (with_reducible exact poly_Degree.mono _ _)
      | (with_reducible exact LeO.refl _)
      | (with_reducible exact LeO.none _)
      | (with_reducible refine LeO.ite ?_ ?_)
      | (with_reducible refine LeO.bind ?_ (fun _ => ?_))
      | exact poly_Degree.mono _ _
      | exact LeO.none _
      | refine LeO.ite ?_ ?_
      | refine LeO.bind ?_ (fun _ => ?_)
set_option maxHeartbeats 8000000 in
set_option maxRecDepth 100000 in
theorem poly_Trim.calls (k : Nat) (A0 : Option Addr) (c0 : Nat) (l0 : List Int) (r : List Int) (w : World) (hr0 : Kd.C (Kd.int .u8) w A0 l0.length l0) (hc0 : l0.length ≤ c0) (h : poly_Trim.f k l0 = some r) :
    Calls Try.prog 32 #[.slice A0 l0.length c0] w fun e w' => ∃ v0_ : Value, e = .returned (v0_) ∧ Kd.R (Kd.int .u8) 5 w' w.heap.size (fun _ => True) v0_ r ∧ Below w.heap.size w w' := by
  have HR0 := Aside0.mk hr0
  have HC0 := Aside0.mk hc0
  clear hr0 hc0
  have HB := Aside0.mk (Below.refl w.heap.size w)
  have H : ((poly_Degree.f k l0).bind fun t112 => (if 0 ≤ (wrap64 (t112 + 1)) then (if (wrap64 (t112 + 1)) ≤ (l0.length : Int) then ((slices_Clone_byte_byte.f (l0.take ((wrap64 (t112 + 1)) : Int).toNat)).bind fun t114 => (some t114)) else (none)) else (none))) = some r := h
  clear h
  replace H := Option.bind_eq_some_iff.mp H
  obtain ⟨t112, A20, H⟩ := H
  replace H : (if 0 ≤ (wrap64 (t112 + 1)) then (if (wrap64 (t112 + 1)) ≤ (l0.length : Int) then ((slices_Clone_byte_byte.f (l0.take ((wrap64 (t112 + 1)) : Int).toNat)).bind fun t114 => (some t114)) else (none)) else (none)) = some r := H
  have A2 := Aside0.mk A20
  clear A20
  obtain ⟨ji3, hji3⟩ : ∃ j_ : Int, (wrap64 (t112 + 1)) = j_ := ⟨_, rfl⟩
  replace H : (if 0 ≤ (ji3) then (if (ji3) ≤ (l0.length : Int) then ((slices_Clone_byte_byte.f (l0.take ((ji3) : Int).toNat)).bind fun t114 => (some t114)) else (none)) else (none)) = some r := by first | (rw [hji3] at H; exact H) | (simp only [hji3] at H ⊢; exact H)
  (try rw [hji3] at A2)
  have hji3w : (IntKind.i64.wrap (t112 + 1)) = ji3 := (i64_w _).trans hji3
  by_cases c4 : 0 ≤ (ji3)
  · rw [if_pos c4] at H
    have c4b0 := eq_true c4
    have c4b1 : decide (0 ≤ (ji3)) = true := decide_eq_true c4
    clear c4
    by_cases c5 : (ji3) ≤ (l0.length : Int)
    · rw [if_pos c5] at H
      have c5b0 := eq_true c5
      have c5b1 : decide ((ji3) ≤ (l0.length : Int)) = true := decide_eq_true c5
      clear c5
      replace H := Option.bind_eq_some_iff.mp H
      obtain ⟨t114, A60, H⟩ := H
      replace H : (some t114) = some r := H
      have A6 := Aside0.mk A60
      clear A60
      obtain rfl := Option.some.inj H
      go_enter Try.func32, Try.ntmps32
      go_wp2_with (first | ((with_reducible refine gate_callee (f := 22) rfl ?_); refine goesL_ (some 5) rfl rfl Try.func22 (by kernel_rfl) rfl #[.slice A0 l0.length c0] rfl (by (try simp only [List.map_toArray, List.map_cons, List.map_nil]); first | done | rfl | (simp only [List.length_drop, List.length_take]; rfl)) ?_; (with_reducible refine (poly_Degree.calls k _ _ l0 t112 _ ?side1 ?side2 A2.out).mono ?_); (case side1 => repeat (first | exact HR0.out | (with_reducible refine Kd.C_alloc ?_ _) | (with_reducible refine Kd.C_drewN ?_ _) | (with_reducible refine Kd.C_drew ?_))); (case side2 => exact HC0.out); rintro e w' ⟨rfl, ⟨nd, rfl⟩⟩; refine ⟨_, rfl, ?_⟩; obtain ⟨i07, hi07, _, hsz7, _⟩ := info_parts info5; obtain ⟨hcut7, hA7, hC7⟩ := print_take_of (P := Try.prog) (Value.int .u8) 0 22 5 .i64 Try.underlying22 hi07 hsz7 A0 c0 l0 (ji3) (of_decide_eq_true (by first | (with_reducible assumption) | assumption)) (of_decide_eq_true (by first | (with_reducible assumption) | assumption)) HC0.out; have HR113 := Aside0.mk (Kd.C_of_reads (h1 := fun _ => rfl) (hA7 _ (Kd.reads_of_C HR0.out))); have HC113 := Aside0.mk hC7; clear hA7 hC7 hi07 hsz7) | ((with_reducible refine gate_callee (f := 39) rfl ?_); refine goesL_ (some 8) rfl rfl Try.func39 (by kernel_rfl) rfl #[.slice A0 (l0.take ((ji3) : Int).toNat).length c0] rfl (by (try simp only [List.map_toArray, List.map_cons, List.map_nil]); first | done | (rw [show (l0.take ((ji3) : Int).toNat).length = (ji3).toNat from (by rw [List.length_take]; have h_ : ((ji3) : Int) ≤ (l0.length : Int) := of_decide_eq_true (by first | (with_reducible assumption) | assumption); omega)] <;> rfl) | (simp only [hji3]; rfl) | rfl | (simp only [List.length_drop, List.length_take]; rfl)) ?_; (with_reducible refine (slices_Clone_byte_byte.calls _ _ (l0.take ((ji3) : Int).toNat) t114 _ ?side1 ?side2 A6.out).mono ?_); (case side1 => repeat (first | exact HR113.out | (with_reducible refine Kd.C_alloc ?_ _) | (with_reducible refine Kd.C_drewN ?_ _) | (with_reducible refine Kd.C_drew ?_))); (case side2 => exact HC113.out); rintro e w8 ⟨v115, rfl, ho0, hb⟩; refine ⟨_, rfl, ?_⟩; have n0_ := Aside0.mk (Kd.R_lower ho0 (below_size (by repeat (first | (with_reducible first | exact HB.out | apply below_alloc | apply pw_below_drewN | apply below_drew1) | exact HB.out)))); have n1_ := Aside0.mk (below_step (by repeat (first | (with_reducible first | exact HB.out | apply below_alloc | apply pw_below_drewN | apply below_drew1) | exact HB.out)) hb); clear HB; have HO116 := n0_; have HB := n1_; clear n0_ n1_; (try clear hb); (try clear hb2); (try clear hk); (try clear hi); (try clear ho0)))
      go_ret
      exact ⟨_, by first | rfl | (simp [errW_none, errW_some] <;> rfl) | (simp only [← hji3]; first | rfl | (simp [errW_none, errW_some] <;> rfl)) | (simp [*, errW_none, errW_some] <;> rfl), by (with_reducible repeat (first | apply Kd.R_alloc | apply Kd.R_drewN | apply Kd.R_drew)); exact HO116.out, by repeat (first | (with_reducible first | exact HB.out | apply below_alloc | apply pw_below_drewN | apply below_drew1) | exact HB.out)⟩
    · rw [if_neg c5] at H
      exact absurd H (by simp)
  · rw [if_neg c4] at H
    exact absurd H (by simp)

end Go.Proofs.Ytmdiggcefmkciaa.P
