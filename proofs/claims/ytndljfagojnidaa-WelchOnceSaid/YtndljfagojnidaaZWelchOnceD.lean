/- What the statement's proof uses: lemmas, and the program's functions as Lean functions; each theorem states its own conditions. Joined by a program. -/
import Derived.Test.YtndljfagojnidaaZWelchOnceC
namespace Go.Proofs.Ytndljfagojnidaa.P
open Go.RowKit Go.Proofs.YtndljfagojnidaaW.PrintWords Go.Proofs.YtndljfagojnidaaW.PrintLast Go.Proofs.YtndljfagojnidaaW.PrintMore
set_option linter.unusedVariables false
set_option linter.unusedSimpArgs false
set_option maxHeartbeats 8000000 in
set_option maxRecDepth 100000 in
theorem footlockerref02_Through.calls (k : Nat) (A0 : Option Addr) (c0 : Nat) (l0 : List Int) (A1 : Option Addr) (c1 : Nat) (l1 : List Int) (r : List Int) (w : World) (hr0 : Kd.C (Kd.int .u8) w A0 l0.length l0) (hc0 : l0.length ≤ c0) (hr1 : Kd.C (Kd.int .u8) w A1 l1.length l1) (hc1 : l1.length ≤ c1) (h : footlockerref02_Through.f k l0 l1 = some r) :
 Calls Try.prog 29 #[.slice A0 l0.length c0, .slice A1 l1.length c1] w fun e w' => ∃ v0_ : Value, e = .returned (v0_) ∧ Kd.R (Kd.int .u8) 5 w' w.heap.size (fun _ => True) v0_ r ∧ Below w.heap.size w w' := by
 have HR0 := Aside0.mk hr0
 have HC0 := Aside0.mk hc0
 clear hr0 hc0
 have HR1 := Aside0.mk hr1
 have HC1 := Aside0.mk hc1
 clear hr1 hc1
 have HB := Aside0.mk (Below.refl w.heap.size w)
 have H : (footlockerref02_Through.l0 k l0 l1 (([] : List Int)) 0) = some r := h
 clear h
 obtain ⟨y317, hy317⟩ : ∃ y_ : List Int, y_ = (([] : List Int)) := ⟨_, rfl⟩
 replace H : (footlockerref02_Through.l0 k l0 l1 y317 0) = some r := by first | (rw [hy317]; with_reducible exact H) | (have H2_ := (Option.bind_some _ _).symm.trans H; rw [hy317]; with_reducible exact H2_) | (have H2_ := (Option.bind_some _ _).symm.trans H; with_reducible exact H2_) | with_reducible exact H | (rw [hy317]; exact H) | exact H
 have Ny317 := Aside0.mk hy317
 clear hy317
 have H' := Aside0.mk H
 clear H
 go_enter Try.func29, Try.ntmps29
 go_wp2_with (first | ((with_reducible refine gate_dst (N := 11) rfl ?_); refine Kd.R_lit (Kd.int .u8) _ 5 ?hg (N := 11) ?hd (xs := ([] : List Int)) (inner := []) (ok := fun _ => True) (okp := fun _ => True) ?hr ?hp (fun _ hk => hk) trivial (Below.refl _ _) (Nat.le_refl _) (by simp) ?_; (case hd => rfl); (case hg => rfl); (case hr => first | (go_simp; done) | (go_simp; rfl)); (case hp => exact (Reps.none _ _)); intro v318 w3 ho4 hb hg_ hnew_; clear hg_ hnew_; (first | rw [← Ny317.out] at ho4 | (simp only [Int.reduceToNat] at ho4; rw [← Ny317.out] at ho4)); have n0_ := Aside0.mk (Kd.R_lower ho4 (below_size (by repeat (first | (with_reducible first | exact HB.out | apply below_alloc | apply pw_below_drewN | apply below_drew1) | exact HB.out)))); have n1_ := Aside0.mk (below_step (by repeat (first | (with_reducible first | exact HB.out | apply below_alloc | apply pw_below_drewN | apply below_drew1) | exact HB.out)) hb); clear HB; have HO319 := n0_; have HB := n1_; clear n0_ n1_; clear hb ho4))
 repeat (go_quiet (first | ((with_reducible refine gate_dst (N := 11) rfl ?_); refine Kd.R_lit (Kd.int .u8) _ 5 ?hg (N := 11) ?hd (xs := ([] : List Int)) (inner := []) (ok := fun _ => True) (okp := fun _ => True) ?hr ?hp (fun _ hk => hk) trivial (Below.refl _ _) (Nat.le_refl _) (by simp) ?_; (case hd => rfl); (case hg => rfl); (case hr => first | (go_simp; done) | (go_simp; rfl)); (case hp => exact (Reps.none _ _)); intro v318 w3 ho4 hb hg_ hnew_; clear hg_ hnew_; (first | rw [← Ny317.out] at ho4 | (simp only [Int.reduceToNat] at ho4; rw [← Ny317.out] at ho4)); have n0_ := Aside0.mk (Kd.R_lower ho4 (below_size (by repeat (first | (with_reducible first | exact HB.out | apply below_alloc | apply pw_below_drewN | apply below_drew1) | exact HB.out)))); have n1_ := Aside0.mk (below_step (by repeat (first | (with_reducible first | exact HB.out | apply below_alloc | apply pw_below_drewN | apply below_drew1) | exact HB.out)) hb); clear HB; have HO319 := n0_; have HB := n1_; clear n0_ n1_; clear hb ho4)); try go_wp2_with (first | ((with_reducible refine gate_dst (N := 11) rfl ?_); refine Kd.R_lit (Kd.int .u8) _ 5 ?hg (N := 11) ?hd (xs := ([] : List Int)) (inner := []) (ok := fun _ => True) (okp := fun _ => True) ?hr ?hp (fun _ hk => hk) trivial (Below.refl _ _) (Nat.le_refl _) (by simp) ?_; (case hd => rfl); (case hg => rfl); (case hr => first | (go_simp; done) | (go_simp; rfl)); (case hp => exact (Reps.none _ _)); intro v318 w3 ho4 hb hg_ hnew_; clear hg_ hnew_; (first | rw [← Ny317.out] at ho4 | (simp only [Int.reduceToNat] at ho4; rw [← Ny317.out] at ho4)); have n0_ := Aside0.mk (Kd.R_lower ho4 (below_size (by repeat (first | (with_reducible first | exact HB.out | apply below_alloc | apply pw_below_drewN | apply below_drew1) | exact HB.out)))); have n1_ := Aside0.mk (below_step (by repeat (first | (with_reducible first | exact HB.out | apply below_alloc | apply pw_below_drewN | apply below_drew1) | exact HB.out)) hb); clear HB; have HO319 := n0_; have HB := n1_; clear n0_ n1_; clear hb ho4)))
 go_loopg [5, 6] k (fun kq v5 v6 w' => ∃ (x5_1 : List Int) (x6_1 : Int), v6 = .int .i64 x6_1 ∧ Aside0 (footlockerref02_Through.l0 kq l0 l1 x5_1 x6_1 = some r) ∧ Aside0 (kq ≤ k) ∧ Aside0 (Kd.R (Kd.int .u8) 5 w' w.heap.size (fun _ => True) v5 x5_1) ∧ Aside0 (Below w.heap.size w w'))
 case atStart => exact ⟨(y317), (0), (by first | rfl | (simp; done) | (simp [*]; done)), H', ⟨Nat.le_refl _⟩, ⟨by (with_reducible repeat (first | apply Kd.R_alloc | apply Kd.R_drewN | apply Kd.R_drew)); exact HO319.out⟩, ⟨by repeat (first | (with_reducible first | exact HB.out | apply below_alloc | apply pw_below_drewN | apply below_drew1) | exact HB.out)⟩⟩
 case round =>
  clear H'
  try clear c1
  try clear c2
  try clear p2
  obtain ⟨x5_1, x6_1, rfl, HA, HK1, HO_5, HB⟩ := hrel
  cases gk with
  | zero => exact absurd HA.out (by simp [footlockerref02_Through.l0])
  | succ k1 =>
   have H := HA.out
   clear HA
   simp only [footlockerref02_Through.l0] at H
   by_cases c5 : x6_1 < (l0.length : Int)
   ·rw [if_pos c5] at H
    have c5b0 : decide (x6_1 < (l0.length : Int)) = true := decide_eq_true c5
    clear c5
    obtain ⟨y320, hy320⟩ : ∃ y_ : List Int, y_ = (([1] : List Int)) := ⟨_, rfl⟩
    replace H : (footlockerref02_Through.l1 k1 l0 l1 x5_1 x6_1 y320 1 0) = some r := by first | (rw [hy320]; with_reducible exact H) | (have H2_ := (Option.bind_some _ _).symm.trans H; rw [hy320]; with_reducible exact H2_) | (have H2_ := (Option.bind_some _ _).symm.trans H; with_reducible exact H2_) | with_reducible exact H | (rw [hy320]; exact H) | exact H
    have Ny320 := Aside0.mk hy320
    clear hy320
    have H' := Aside0.mk H
    clear H
    go_wp2_with (first | ((with_reducible refine gate_dst (N := 18) rfl ?_); refine Kd.R_lit (Kd.int .u8) _ 5 ?hg (N := 18) ?hd (xs := ([1] : List Int)) (inner := [.int .u8 1]) (ok := fun _ => True) (okp := fun _ => True) ?hr ?hp (fun _ hk => hk) trivial (Below.refl _ _) (Nat.le_refl _) (by simp) ?_; (case hd => rfl); (case hg => rfl); (case hr => first | (go_simp; done) | (go_simp; rfl)); (case hp => exact (Reps.one (show Kd.M (Kd.int .u8) _ _ _ 1 [.int .u8 1] from rfl) (Reps.none _ _))); intro v321 w6 ho7 hb hg_ hnew_; clear hg_ hnew_; (first | rw [← Ny320.out] at ho7 | (simp only [Int.reduceToNat] at ho7; rw [← Ny320.out] at ho7)); have n0_ := Aside0.mk (Kd.R_elder' (by (with_reducible repeat (first | apply Kd.R_alloc | apply Kd.R_drewN | apply Kd.R_drew)); exact HO_5.out) (Kd.R_base ho7) hb); have n1_ := Aside0.mk (Kd.R_lower (Kd.R_new' ho7 (Kd.R_lt (by (with_reducible repeat (first | apply Kd.R_alloc | apply Kd.R_drewN | apply Kd.R_drew)); exact HO_5.out))) (below_size (by repeat (first | (with_reducible first | exact HB.out | apply below_alloc | apply pw_below_drewN | apply below_drew1) | exact HB.out)))); have n2_ := Aside0.mk (below_step (by repeat (first | (with_reducible first | exact HB.out | apply below_alloc | apply pw_below_drewN | apply below_drew1) | exact HB.out)) hb); clear HO_5; clear HB; have HO_5 := n0_; have HO322 := n1_; have HB := n2_; clear n0_ n1_ n2_; clear hb ho7))
    repeat (go_quiet (first | ((with_reducible refine gate_dst (N := 18) rfl ?_); refine Kd.R_lit (Kd.int .u8) _ 5 ?hg (N := 18) ?hd (xs := ([1] : List Int)) (inner := [.int .u8 1]) (ok := fun _ => True) (okp := fun _ => True) ?hr ?hp (fun _ hk => hk) trivial (Below.refl _ _) (Nat.le_refl _) (by simp) ?_; (case hd => rfl); (case hg => rfl); (case hr => first | (go_simp; done) | (go_simp; rfl)); (case hp => exact (Reps.one (show Kd.M (Kd.int .u8) _ _ _ 1 [.int .u8 1] from rfl) (Reps.none _ _))); intro v321 w6 ho7 hb hg_ hnew_; clear hg_ hnew_; (first | rw [← Ny320.out] at ho7 | (simp only [Int.reduceToNat] at ho7; rw [← Ny320.out] at ho7)); have n0_ := Aside0.mk (Kd.R_elder' (by (with_reducible repeat (first | apply Kd.R_alloc | apply Kd.R_drewN | apply Kd.R_drew)); exact HO_5.out) (Kd.R_base ho7) hb); have n1_ := Aside0.mk (Kd.R_lower (Kd.R_new' ho7 (Kd.R_lt (by (with_reducible repeat (first | apply Kd.R_alloc | apply Kd.R_drewN | apply Kd.R_drew)); exact HO_5.out))) (below_size (by repeat (first | (with_reducible first | exact HB.out | apply below_alloc | apply pw_below_drewN | apply below_drew1) | exact HB.out)))); have n2_ := Aside0.mk (below_step (by repeat (first | (with_reducible first | exact HB.out | apply below_alloc | apply pw_below_drewN | apply below_drew1) | exact HB.out)) hb); clear HO_5; clear HB; have HO_5 := n0_; have HO322 := n1_; have HB := n2_; clear n0_ n1_ n2_; clear hb ho7)); try go_wp2_with (first | ((with_reducible refine gate_dst (N := 18) rfl ?_); refine Kd.R_lit (Kd.int .u8) _ 5 ?hg (N := 18) ?hd (xs := ([1] : List Int)) (inner := [.int .u8 1]) (ok := fun _ => True) (okp := fun _ => True) ?hr ?hp (fun _ hk => hk) trivial (Below.refl _ _) (Nat.le_refl _) (by simp) ?_; (case hd => rfl); (case hg => rfl); (case hr => first | (go_simp; done) | (go_simp; rfl)); (case hp => exact (Reps.one (show Kd.M (Kd.int .u8) _ _ _ 1 [.int .u8 1] from rfl) (Reps.none _ _))); intro v321 w6 ho7 hb hg_ hnew_; clear hg_ hnew_; (first | rw [← Ny320.out] at ho7 | (simp only [Int.reduceToNat] at ho7; rw [← Ny320.out] at ho7)); have n0_ := Aside0.mk (Kd.R_elder' (by (with_reducible repeat (first | apply Kd.R_alloc | apply Kd.R_drewN | apply Kd.R_drew)); exact HO_5.out) (Kd.R_base ho7) hb); have n1_ := Aside0.mk (Kd.R_lower (Kd.R_new' ho7 (Kd.R_lt (by (with_reducible repeat (first | apply Kd.R_alloc | apply Kd.R_drewN | apply Kd.R_drew)); exact HO_5.out))) (below_size (by repeat (first | (with_reducible first | exact HB.out | apply below_alloc | apply pw_below_drewN | apply below_drew1) | exact HB.out)))); have n2_ := Aside0.mk (below_step (by repeat (first | (with_reducible first | exact HB.out | apply below_alloc | apply pw_below_drewN | apply below_drew1) | exact HB.out)) hb); clear HO_5; clear HB; have HO_5 := n0_; have HO322 := n1_; have HB := n2_; clear n0_ n1_ n2_; clear hb ho7)))
    go_loopg [7, 8, 9] k1 (fun kq v7 v8 v9 w' => ∃ (x7_2 : List Int) (x8_2 : Int) (x9_2 : Int), v8 = .int .u8 x8_2 ∧ v9 = .int .i64 x9_2 ∧ Aside0 (footlockerref02_Through.l1 kq l0 l1 x5_1 x6_1 x7_2 x8_2 x9_2 = some r) ∧ Aside0 (kq ≤ k1) ∧ Aside0 (Kd.R (Kd.int .u8) 5 w' w.heap.size (fun k_ => some k_ ≠ (v7 : Value).ownBlock) u5 x5_1) ∧ Aside0 (Kd.R (Kd.int .u8) 5 w' w.heap.size (fun k_ => some k_ ≠ (u5 : Value).ownBlock) v7 x7_2) ∧ Aside0 (Below w.heap.size w w'))
    case atStart => exact ⟨(y320), (1), (0), (by first | rfl | (simp; done) | (simp [*]; done)), (by first | rfl | (simp; done) | (simp [*]; done)), H', ⟨Nat.le_refl _⟩, ⟨by (with_reducible repeat (first | apply Kd.R_alloc | apply Kd.R_drewN | apply Kd.R_drew)); exact Kd.R_mono HO_5.out (fun _ hk => hk.2)⟩, ⟨by (with_reducible repeat (first | apply Kd.R_alloc | apply Kd.R_drewN | apply Kd.R_drew)); exact Kd.R_mono HO322.out (fun _ hk => hk.2)⟩, ⟨by repeat (first | (with_reducible first | exact HB.out | apply below_alloc | apply pw_below_drewN | apply below_drew1) | exact HB.out)⟩⟩
    case round =>
     clear H'
     try clear c1
     try clear c2
     try clear p2
     try clear c5
     try clear c5b0
     try clear p2
     obtain ⟨x7_2, x8_2, x9_2, rfl, rfl, HA, HK2, HO_5, HO_7, HB⟩ := hrel
     cases gk with
     | zero => exact absurd HA.out (by simp [footlockerref02_Through.l1])
     | succ k2 =>
      have H := HA.out
      clear HA
      simp only [footlockerref02_Through.l1] at H
      by_cases c8 : x9_2 < (l0.length : Int)
      ·rw [if_pos c8] at H
       have c8b0 : decide (x9_2 < (l0.length : Int)) = true := decide_eq_true c8
       clear c8
       by_cases c9 : x9_2 = x6_1
       ·rw [if_pos c9] at H
        have c9b0 : (x9_2 == x6_1) = true := beq_iff_eq.mpr c9
        have c9b1 : (x9_2 != x6_1) = false := bne_eq_false_iff_eq.mpr c9
        clear c9
        have H' := Aside0.mk H
        clear H
        go_wp2
        repeat (go_quiet (fail); try go_wp2)
        go_roundg k2
        case measure => have := HK1.out; have := HK2.out; omega
        case rel => exact ⟨(x7_2), (x8_2), (wrap64 (x9_2 + 1)), (by first | rfl | (simp; done) | (simp [*]; done)), (by first | rfl | (simp; done) | (simp [*]; done)), H', ⟨by have := HK1.out; have := HK2.out; omega⟩, ⟨by (with_reducible repeat (first | apply Kd.R_alloc | apply Kd.R_drewN | apply Kd.R_drew)); exact HO_5.out⟩, ⟨by (with_reducible repeat (first | apply Kd.R_alloc | apply Kd.R_drewN | apply Kd.R_drew)); exact HO_7.out⟩, ⟨by repeat (first | (with_reducible first | exact HB.out | apply below_alloc | apply pw_below_drewN | apply below_drew1) | exact HB.out)⟩⟩
       ·rw [if_neg c9] at H
        have c9b0 : (x9_2 == x6_1) = false := beq_eq_false_iff_ne.mpr c9
        have c9b1 : (x9_2 != x6_1) = true := bne_iff_ne.mpr c9
        by_cases c10 : 0 ≤ x9_2
        ·rw [if_pos c10] at H
         have c10b0 : decide (0 ≤ x9_2) = true := decide_eq_true c10
         clear c10
         obtain ⟨y324, hy324⟩ : ∃ y_ : List Int, y_ = (([rd l0 x9_2, 1] : List Int)) := ⟨_, rfl⟩
         replace H : ((footlockerref02_Mul.f k2 x7_2 y324).bind fun t327 => (if 0 ≤ x6_1 then (if x6_1 < (l0.length : Int) then ((footlockerref01_Mul.f k2 x8_2 (Go.bits .xor .u8 (rd l0 x6_1) (rd l0 x9_2))).bind fun t332 => (footlockerref02_Through.l1 k2 l0 l1 x5_1 x6_1 t327 t332 (wrap64 (x9_2 + 1)))) else (none)) else (none))) = some r := by first | (rw [hy324]; with_reducible exact H) | (have H2_ := (Option.bind_some _ _).symm.trans H; rw [hy324]; with_reducible exact H2_) | (have H2_ := (Option.bind_some _ _).symm.trans H; with_reducible exact H2_) | with_reducible exact H | (rw [hy324]; exact H) | exact H
         have Ny324 := Aside0.mk hy324
         clear hy324
         replace H := Option.bind_eq_some_iff.mp H
         obtain ⟨t327, A110, H⟩ := H
         replace H : (if 0 ≤ x6_1 then (if x6_1 < (l0.length : Int) then ((footlockerref01_Mul.f k2 x8_2 (Go.bits .xor .u8 (rd l0 x6_1) (rd l0 x9_2))).bind fun t332 => (footlockerref02_Through.l1 k2 l0 l1 x5_1 x6_1 t327 t332 (wrap64 (x9_2 + 1)))) else (none)) else (none)) = some r := H
         have A11 := Aside0.mk A110
         clear A110
         by_cases c12 : 0 ≤ x6_1
         ·rw [if_pos c12] at H
          have c12b0 : decide (0 ≤ x6_1) = true := decide_eq_true c12
          clear c12
          by_cases c13 : x6_1 < (l0.length : Int)
          ·rw [if_pos c13] at H
           have c13b0 : decide (x6_1 < (l0.length : Int)) = true := decide_eq_true c13
           clear c13
           replace H := Option.bind_eq_some_iff.mp H
           obtain ⟨t332, A140, H⟩ := H
           replace H : (footlockerref02_Through.l1 k2 l0 l1 x5_1 x6_1 t327 t332 (wrap64 (x9_2 + 1))) = some r := H
           have A14 := Aside0.mk A140
           clear A140
           have H' := Aside0.mk H
           clear H
           have p323 : 0 ≤ (x9_2 : Int) := of_decide_eq_true (by first | (with_reducible assumption) | assumption)
           have q323 : x9_2 < (l0.length : Int) := of_decide_eq_true (by first | (with_reducible assumption) | assumption)
           obtain ⟨ad323, e323, hx323_0⟩ := Kd.at_int HR0.out x9_2 p323 q323
           cases e323
           replace hx323_0 := (HB.out.cell (World.block_lt_of_cell? w _ hx323_0)).trans hx323_0
           replace p323 := eq_true p323
           replace q323 := eq_true q323
           go_wp2_with (first | ((with_reducible refine gate_dst (N := 33) rfl ?_); refine Kd.R_lit (Kd.int .u8) _ 5 ?hg (N := 33) ?hd (xs := ([rd l0 x9_2, 1] : List Int)) (inner := [.int .u8 (rd l0 x9_2), .int .u8 1]) (ok := fun _ => True) (okp := fun _ => True) ?hr ?hp (fun _ hk => hk) trivial (Below.refl _ _) (Nat.le_refl _) (by simp) ?_; (case hd => rfl); (case hg => rfl); (case hr => first | (go_simp; done) | (go_simp; rfl)); (case hp => exact (Reps.one (show Kd.M (Kd.int .u8) _ _ _ (rd l0 x9_2) [.int .u8 (rd l0 x9_2)] from rfl) (Reps.one (show Kd.M (Kd.int .u8) _ _ _ 1 [.int .u8 1] from rfl) (Reps.none _ _)))); intro v325 w15 ho16 hb hg_ hnew_; clear hg_ hnew_; (first | rw [← Ny324.out] at ho16 | (simp only [Int.reduceToNat] at ho16; rw [← Ny324.out] at ho16)); have n0_ := Aside0.mk (Kd.R_elder' (by (with_reducible repeat (first | apply Kd.R_alloc | apply Kd.R_drewN | apply Kd.R_drew)); exact HO_5.out) (Kd.R_base ho16) hb); have n1_ := Aside0.mk (Kd.R_elder' (by (with_reducible repeat (first | apply Kd.R_alloc | apply Kd.R_drewN | apply Kd.R_drew)); exact HO_7.out) (Kd.R_base ho16) hb); have n2_ := Aside0.mk (Kd.R_lower (Kd.R_new' (Kd.R_new' ho16 (Kd.R_lt (by (with_reducible repeat (first | apply Kd.R_alloc | apply Kd.R_drewN | apply Kd.R_drew)); exact HO_5.out))) (Kd.R_lt (by (with_reducible repeat (first | apply Kd.R_alloc | apply Kd.R_drewN | apply Kd.R_drew)); exact HO_7.out))) (below_size (by repeat (first | (with_reducible first | exact HB.out | apply below_alloc | apply pw_below_drewN | apply below_drew1) | exact HB.out)))); have n3_ := Aside0.mk (below_step (by repeat (first | (with_reducible first | exact HB.out | apply below_alloc | apply pw_below_drewN | apply below_drew1) | exact HB.out)) hb); clear HO_5; clear HO_7; clear HB; have HO_5 := n0_; have HO_7 := n1_; have HO326 := n2_; have HB := n3_; clear n0_ n1_ n2_ n3_; clear hb ho16; obtain ⟨Ao17, co17, eo17⟩ := Kd.R_slice HO_7.out; subst eo17; obtain ⟨Ao18, co18, eo18⟩ := Kd.R_slice HO326.out; subst eo18) | (go_at_call 41; (with_reducible refine (footlockerref02_Mul.calls k2 _ _ x7_2 _ _ y324 t327 _ ?side1 ?side2 ?side3 ?side4 A11.out).mono ?_); (case side1 => repeat (first | exact (Kd.R_reads' HO_7.out).2.2 | (with_reducible refine Kd.C_alloc ?_ _) | (with_reducible refine Kd.C_drewN ?_ _) | (with_reducible refine Kd.C_drew ?_))); (case side2 => exact (Kd.R_reads' HO_7.out).2.1); (case side3 => repeat (first | exact (Kd.R_reads' HO326.out).2.2 | (with_reducible refine Kd.C_alloc ?_ _) | (with_reducible refine Kd.C_drewN ?_ _) | (with_reducible refine Kd.C_drew ?_))); (case side4 => exact (Kd.R_reads' HO326.out).2.1); rintro e w19 ⟨v328, rfl, ho0, hb⟩; have n0_ := Aside0.mk (Kd.R_elder' (by (with_reducible repeat (first | apply Kd.R_alloc | apply Kd.R_drewN | apply Kd.R_drew)); exact HO_5.out) (Kd.R_base ho0) hb); have n1_ := Aside0.mk (Kd.R_elder' (by (with_reducible repeat (first | apply Kd.R_alloc | apply Kd.R_drewN | apply Kd.R_drew)); exact HO_7.out) (Kd.R_base ho0) hb); have n2_ := Aside0.mk (Kd.R_elder' (by (with_reducible repeat (first | apply Kd.R_alloc | apply Kd.R_drewN | apply Kd.R_drew)); exact HO326.out) (Kd.R_base ho0) hb); have n3_ := Aside0.mk (Kd.R_lower (Kd.R_new' (Kd.R_new' (Kd.R_new' ho0 (Kd.R_lt (by (with_reducible repeat (first | apply Kd.R_alloc | apply Kd.R_drewN | apply Kd.R_drew)); exact HO_5.out))) (Kd.R_lt (by (with_reducible repeat (first | apply Kd.R_alloc | apply Kd.R_drewN | apply Kd.R_drew)); exact HO_7.out))) (Kd.R_lt (by (with_reducible repeat (first | apply Kd.R_alloc | apply Kd.R_drewN | apply Kd.R_drew)); exact HO326.out))) (below_size (by repeat (first | (with_reducible first | exact HB.out | apply below_alloc | apply pw_below_drewN | apply below_drew1) | exact HB.out)))); have n4_ := Aside0.mk (below_step (by repeat (first | (with_reducible first | exact HB.out | apply below_alloc | apply pw_below_drewN | apply below_drew1) | exact HB.out)) hb); clear HO_5; clear HO_7; clear HO326; clear HB; have HO_5 := n0_; have HO_7 := n1_; have HO326 := n2_; have HO329 := n3_; have HB := n4_; clear n0_ n1_ n2_ n3_ n4_; (try clear hb); (try clear hb2); (try clear hk); (try clear hi); (try clear ho0); have p330 : 0 ≤ (x6_1 : Int) := of_decide_eq_true (by first | (with_reducible assumption) | assumption); have q330 : x6_1 < (l0.length : Int) := of_decide_eq_true (by first | (with_reducible assumption) | assumption); obtain ⟨ad330, e330, hx330_0⟩ := Kd.at_int HR0.out x6_1 p330 q330; obtain rfl : ad323 = ad330 := (by injection e330); replace hx330_0 := (HB.out.cell (World.block_lt_of_cell? w _ hx330_0)).trans hx330_0; replace p330 := eq_true p330; replace q330 := eq_true q330; have p331 : 0 ≤ (x9_2 : Int) := of_decide_eq_true (by first | (with_reducible assumption) | assumption); have q331 : x9_2 < (l0.length : Int) := of_decide_eq_true (by first | (with_reducible assumption) | assumption); obtain ⟨ad331, e331, hx331_0⟩ := Kd.at_int HR0.out x9_2 p331 q331; obtain rfl : ad323 = ad331 := (by injection e331); replace hx331_0 := (HB.out.cell (World.block_lt_of_cell? w _ hx331_0)).trans hx331_0; replace p331 := eq_true p331; replace q331 := eq_true q331) | (go_at_call 42; (with_reducible refine (footlockerref01_Mul.calls k2 x8_2 (Go.bits .xor .u8 (rd l0 x6_1) (rd l0 x9_2)) t332 _ A14.out).mono ?_); rintro e w' ⟨rfl, ⟨nd, rfl⟩⟩; (try first | exact ⟨rfl, _, World.drewN_drewN _ _ _⟩ | exact ⟨rfl, _, Eq.trans (World.drewN_drewN _ _ _) (congrArg (World.drewN _) (Nat.add_assoc _ _ _))⟩)))
           repeat (go_quiet (first | ((with_reducible refine gate_dst (N := 33) rfl ?_); refine Kd.R_lit (Kd.int .u8) _ 5 ?hg (N := 33) ?hd (xs := ([rd l0 x9_2, 1] : List Int)) (inner := [.int .u8 (rd l0 x9_2), .int .u8 1]) (ok := fun _ => True) (okp := fun _ => True) ?hr ?hp (fun _ hk => hk) trivial (Below.refl _ _) (Nat.le_refl _) (by simp) ?_; (case hd => rfl); (case hg => rfl); (case hr => first | (go_simp; done) | (go_simp; rfl)); (case hp => exact (Reps.one (show Kd.M (Kd.int .u8) _ _ _ (rd l0 x9_2) [.int .u8 (rd l0 x9_2)] from rfl) (Reps.one (show Kd.M (Kd.int .u8) _ _ _ 1 [.int .u8 1] from rfl) (Reps.none _ _)))); intro v325 w15 ho16 hb hg_ hnew_; clear hg_ hnew_; (first | rw [← Ny324.out] at ho16 | (simp only [Int.reduceToNat] at ho16; rw [← Ny324.out] at ho16)); have n0_ := Aside0.mk (Kd.R_elder' (by (with_reducible repeat (first | apply Kd.R_alloc | apply Kd.R_drewN | apply Kd.R_drew)); exact HO_5.out) (Kd.R_base ho16) hb); have n1_ := Aside0.mk (Kd.R_elder' (by (with_reducible repeat (first | apply Kd.R_alloc | apply Kd.R_drewN | apply Kd.R_drew)); exact HO_7.out) (Kd.R_base ho16) hb); have n2_ := Aside0.mk (Kd.R_lower (Kd.R_new' (Kd.R_new' ho16 (Kd.R_lt (by (with_reducible repeat (first | apply Kd.R_alloc | apply Kd.R_drewN | apply Kd.R_drew)); exact HO_5.out))) (Kd.R_lt (by (with_reducible repeat (first | apply Kd.R_alloc | apply Kd.R_drewN | apply Kd.R_drew)); exact HO_7.out))) (below_size (by repeat (first | (with_reducible first | exact HB.out | apply below_alloc | apply pw_below_drewN | apply below_drew1) | exact HB.out)))); have n3_ := Aside0.mk (below_step (by repeat (first | (with_reducible first | exact HB.out | apply below_alloc | apply pw_below_drewN | apply below_drew1) | exact HB.out)) hb); clear HO_5; clear HO_7; clear HB; have HO_5 := n0_; have HO_7 := n1_; have HO326 := n2_; have HB := n3_; clear n0_ n1_ n2_ n3_; clear hb ho16; obtain ⟨Ao17, co17, eo17⟩ := Kd.R_slice HO_7.out; subst eo17; obtain ⟨Ao18, co18, eo18⟩ := Kd.R_slice HO326.out; subst eo18) | (go_at_call 41; (with_reducible refine (footlockerref02_Mul.calls k2 _ _ x7_2 _ _ y324 t327 _ ?side1 ?side2 ?side3 ?side4 A11.out).mono ?_); (case side1 => repeat (first | exact (Kd.R_reads' HO_7.out).2.2 | (with_reducible refine Kd.C_alloc ?_ _) | (with_reducible refine Kd.C_drewN ?_ _) | (with_reducible refine Kd.C_drew ?_))); (case side2 => exact (Kd.R_reads' HO_7.out).2.1); (case side3 => repeat (first | exact (Kd.R_reads' HO326.out).2.2 | (with_reducible refine Kd.C_alloc ?_ _) | (with_reducible refine Kd.C_drewN ?_ _) | (with_reducible refine Kd.C_drew ?_))); (case side4 => exact (Kd.R_reads' HO326.out).2.1); rintro e w19 ⟨v328, rfl, ho0, hb⟩; have n0_ := Aside0.mk (Kd.R_elder' (by (with_reducible repeat (first | apply Kd.R_alloc | apply Kd.R_drewN | apply Kd.R_drew)); exact HO_5.out) (Kd.R_base ho0) hb); have n1_ := Aside0.mk (Kd.R_elder' (by (with_reducible repeat (first | apply Kd.R_alloc | apply Kd.R_drewN | apply Kd.R_drew)); exact HO_7.out) (Kd.R_base ho0) hb); have n2_ := Aside0.mk (Kd.R_elder' (by (with_reducible repeat (first | apply Kd.R_alloc | apply Kd.R_drewN | apply Kd.R_drew)); exact HO326.out) (Kd.R_base ho0) hb); have n3_ := Aside0.mk (Kd.R_lower (Kd.R_new' (Kd.R_new' (Kd.R_new' ho0 (Kd.R_lt (by (with_reducible repeat (first | apply Kd.R_alloc | apply Kd.R_drewN | apply Kd.R_drew)); exact HO_5.out))) (Kd.R_lt (by (with_reducible repeat (first | apply Kd.R_alloc | apply Kd.R_drewN | apply Kd.R_drew)); exact HO_7.out))) (Kd.R_lt (by (with_reducible repeat (first | apply Kd.R_alloc | apply Kd.R_drewN | apply Kd.R_drew)); exact HO326.out))) (below_size (by repeat (first | (with_reducible first | exact HB.out | apply below_alloc | apply pw_below_drewN | apply below_drew1) | exact HB.out)))); have n4_ := Aside0.mk (below_step (by repeat (first | (with_reducible first | exact HB.out | apply below_alloc | apply pw_below_drewN | apply below_drew1) | exact HB.out)) hb); clear HO_5; clear HO_7; clear HO326; clear HB; have HO_5 := n0_; have HO_7 := n1_; have HO326 := n2_; have HO329 := n3_; have HB := n4_; clear n0_ n1_ n2_ n3_ n4_; (try clear hb); (try clear hb2); (try clear hk); (try clear hi); (try clear ho0); have p330 : 0 ≤ (x6_1 : Int) := of_decide_eq_true (by first | (with_reducible assumption) | assumption); have q330 : x6_1 < (l0.length : Int) := of_decide_eq_true (by first | (with_reducible assumption) | assumption); obtain ⟨ad330, e330, hx330_0⟩ := Kd.at_int HR0.out x6_1 p330 q330; obtain rfl : ad323 = ad330 := (by injection e330); replace hx330_0 := (HB.out.cell (World.block_lt_of_cell? w _ hx330_0)).trans hx330_0; replace p330 := eq_true p330; replace q330 := eq_true q330; have p331 : 0 ≤ (x9_2 : Int) := of_decide_eq_true (by first | (with_reducible assumption) | assumption); have q331 : x9_2 < (l0.length : Int) := of_decide_eq_true (by first | (with_reducible assumption) | assumption); obtain ⟨ad331, e331, hx331_0⟩ := Kd.at_int HR0.out x9_2 p331 q331; obtain rfl : ad323 = ad331 := (by injection e331); replace hx331_0 := (HB.out.cell (World.block_lt_of_cell? w _ hx331_0)).trans hx331_0; replace p331 := eq_true p331; replace q331 := eq_true q331) | (go_at_call 42; (with_reducible refine (footlockerref01_Mul.calls k2 x8_2 (Go.bits .xor .u8 (rd l0 x6_1) (rd l0 x9_2)) t332 _ A14.out).mono ?_); rintro e w' ⟨rfl, ⟨nd, rfl⟩⟩; (try first | exact ⟨rfl, _, World.drewN_drewN _ _ _⟩ | exact ⟨rfl, _, Eq.trans (World.drewN_drewN _ _ _) (congrArg (World.drewN _) (Nat.add_assoc _ _ _))⟩))); try go_wp2_with (first | ((with_reducible refine gate_dst (N := 33) rfl ?_); refine Kd.R_lit (Kd.int .u8) _ 5 ?hg (N := 33) ?hd (xs := ([rd l0 x9_2, 1] : List Int)) (inner := [.int .u8 (rd l0 x9_2), .int .u8 1]) (ok := fun _ => True) (okp := fun _ => True) ?hr ?hp (fun _ hk => hk) trivial (Below.refl _ _) (Nat.le_refl _) (by simp) ?_; (case hd => rfl); (case hg => rfl); (case hr => first | (go_simp; done) | (go_simp; rfl)); (case hp => exact (Reps.one (show Kd.M (Kd.int .u8) _ _ _ (rd l0 x9_2) [.int .u8 (rd l0 x9_2)] from rfl) (Reps.one (show Kd.M (Kd.int .u8) _ _ _ 1 [.int .u8 1] from rfl) (Reps.none _ _)))); intro v325 w15 ho16 hb hg_ hnew_; clear hg_ hnew_; (first | rw [← Ny324.out] at ho16 | (simp only [Int.reduceToNat] at ho16; rw [← Ny324.out] at ho16)); have n0_ := Aside0.mk (Kd.R_elder' (by (with_reducible repeat (first | apply Kd.R_alloc | apply Kd.R_drewN | apply Kd.R_drew)); exact HO_5.out) (Kd.R_base ho16) hb); have n1_ := Aside0.mk (Kd.R_elder' (by (with_reducible repeat (first | apply Kd.R_alloc | apply Kd.R_drewN | apply Kd.R_drew)); exact HO_7.out) (Kd.R_base ho16) hb); have n2_ := Aside0.mk (Kd.R_lower (Kd.R_new' (Kd.R_new' ho16 (Kd.R_lt (by (with_reducible repeat (first | apply Kd.R_alloc | apply Kd.R_drewN | apply Kd.R_drew)); exact HO_5.out))) (Kd.R_lt (by (with_reducible repeat (first | apply Kd.R_alloc | apply Kd.R_drewN | apply Kd.R_drew)); exact HO_7.out))) (below_size (by repeat (first | (with_reducible first | exact HB.out | apply below_alloc | apply pw_below_drewN | apply below_drew1) | exact HB.out)))); have n3_ := Aside0.mk (below_step (by repeat (first | (with_reducible first | exact HB.out | apply below_alloc | apply pw_below_drewN | apply below_drew1) | exact HB.out)) hb); clear HO_5; clear HO_7; clear HB; have HO_5 := n0_; have HO_7 := n1_; have HO326 := n2_; have HB := n3_; clear n0_ n1_ n2_ n3_; clear hb ho16; obtain ⟨Ao17, co17, eo17⟩ := Kd.R_slice HO_7.out; subst eo17; obtain ⟨Ao18, co18, eo18⟩ := Kd.R_slice HO326.out; subst eo18) | (go_at_call 41; (with_reducible refine (footlockerref02_Mul.calls k2 _ _ x7_2 _ _ y324 t327 _ ?side1 ?side2 ?side3 ?side4 A11.out).mono ?_); (case side1 => repeat (first | exact (Kd.R_reads' HO_7.out).2.2 | (with_reducible refine Kd.C_alloc ?_ _) | (with_reducible refine Kd.C_drewN ?_ _) | (with_reducible refine Kd.C_drew ?_))); (case side2 => exact (Kd.R_reads' HO_7.out).2.1); (case side3 => repeat (first | exact (Kd.R_reads' HO326.out).2.2 | (with_reducible refine Kd.C_alloc ?_ _) | (with_reducible refine Kd.C_drewN ?_ _) | (with_reducible refine Kd.C_drew ?_))); (case side4 => exact (Kd.R_reads' HO326.out).2.1); rintro e w19 ⟨v328, rfl, ho0, hb⟩; have n0_ := Aside0.mk (Kd.R_elder' (by (with_reducible repeat (first | apply Kd.R_alloc | apply Kd.R_drewN | apply Kd.R_drew)); exact HO_5.out) (Kd.R_base ho0) hb); have n1_ := Aside0.mk (Kd.R_elder' (by (with_reducible repeat (first | apply Kd.R_alloc | apply Kd.R_drewN | apply Kd.R_drew)); exact HO_7.out) (Kd.R_base ho0) hb); have n2_ := Aside0.mk (Kd.R_elder' (by (with_reducible repeat (first | apply Kd.R_alloc | apply Kd.R_drewN | apply Kd.R_drew)); exact HO326.out) (Kd.R_base ho0) hb); have n3_ := Aside0.mk (Kd.R_lower (Kd.R_new' (Kd.R_new' (Kd.R_new' ho0 (Kd.R_lt (by (with_reducible repeat (first | apply Kd.R_alloc | apply Kd.R_drewN | apply Kd.R_drew)); exact HO_5.out))) (Kd.R_lt (by (with_reducible repeat (first | apply Kd.R_alloc | apply Kd.R_drewN | apply Kd.R_drew)); exact HO_7.out))) (Kd.R_lt (by (with_reducible repeat (first | apply Kd.R_alloc | apply Kd.R_drewN | apply Kd.R_drew)); exact HO326.out))) (below_size (by repeat (first | (with_reducible first | exact HB.out | apply below_alloc | apply pw_below_drewN | apply below_drew1) | exact HB.out)))); have n4_ := Aside0.mk (below_step (by repeat (first | (with_reducible first | exact HB.out | apply below_alloc | apply pw_below_drewN | apply below_drew1) | exact HB.out)) hb); clear HO_5; clear HO_7; clear HO326; clear HB; have HO_5 := n0_; have HO_7 := n1_; have HO326 := n2_; have HO329 := n3_; have HB := n4_; clear n0_ n1_ n2_ n3_ n4_; (try clear hb); (try clear hb2); (try clear hk); (try clear hi); (try clear ho0); have p330 : 0 ≤ (x6_1 : Int) := of_decide_eq_true (by first | (with_reducible assumption) | assumption); have q330 : x6_1 < (l0.length : Int) := of_decide_eq_true (by first | (with_reducible assumption) | assumption); obtain ⟨ad330, e330, hx330_0⟩ := Kd.at_int HR0.out x6_1 p330 q330; obtain rfl : ad323 = ad330 := (by injection e330); replace hx330_0 := (HB.out.cell (World.block_lt_of_cell? w _ hx330_0)).trans hx330_0; replace p330 := eq_true p330; replace q330 := eq_true q330; have p331 : 0 ≤ (x9_2 : Int) := of_decide_eq_true (by first | (with_reducible assumption) | assumption); have q331 : x9_2 < (l0.length : Int) := of_decide_eq_true (by first | (with_reducible assumption) | assumption); obtain ⟨ad331, e331, hx331_0⟩ := Kd.at_int HR0.out x9_2 p331 q331; obtain rfl : ad323 = ad331 := (by injection e331); replace hx331_0 := (HB.out.cell (World.block_lt_of_cell? w _ hx331_0)).trans hx331_0; replace p331 := eq_true p331; replace q331 := eq_true q331) | (go_at_call 42; (with_reducible refine (footlockerref01_Mul.calls k2 x8_2 (Go.bits .xor .u8 (rd l0 x6_1) (rd l0 x9_2)) t332 _ A14.out).mono ?_); rintro e w' ⟨rfl, ⟨nd, rfl⟩⟩; (try first | exact ⟨rfl, _, World.drewN_drewN _ _ _⟩ | exact ⟨rfl, _, Eq.trans (World.drewN_drewN _ _ _) (congrArg (World.drewN _) (Nat.add_assoc _ _ _))⟩))))
           go_roundg k2
           case measure => have := HK1.out; have := HK2.out; omega
           case rel => exact ⟨(t327), (t332), (wrap64 (x9_2 + 1)), (by first | rfl | (simp; done) | (simp [*]; done)), (by first | rfl | (simp; done) | (simp [*]; done)), H', ⟨by have := HK1.out; have := HK2.out; omega⟩, ⟨by (with_reducible repeat (first | apply Kd.R_alloc | apply Kd.R_drewN | apply Kd.R_drew)); exact Kd.R_mono HO_5.out (fun _ hk => hk.2)⟩, ⟨by (with_reducible repeat (first | apply Kd.R_alloc | apply Kd.R_drewN | apply Kd.R_drew)); exact Kd.R_mono HO329.out (fun _ hk => hk.1.1.2)⟩, ⟨by repeat (first | (with_reducible first | exact HB.out | apply below_alloc | apply pw_below_drewN | apply below_drew1) | exact HB.out)⟩⟩
          ·rw [if_neg c13] at H
           exact absurd H (by simp)
         ·rw [if_neg c12] at H
          exact absurd H (by simp)
        ·rw [if_neg c10] at H
         exact absurd H (by simp)
      ·rw [if_neg c8] at H
       have c8b0 : decide (x9_2 < (l0.length : Int)) = false := decide_eq_false c8
       clear c8
       by_cases c20 : 0 ≤ x6_1
       ·rw [if_pos c20] at H
        have c20b0 : decide (0 ≤ x6_1) = true := decide_eq_true c20
        clear c20
        by_cases c21 : x6_1 < (l1.length : Int)
        ·rw [if_pos c21] at H
         have c21b0 : decide (x6_1 < (l1.length : Int)) = true := decide_eq_true c21
         clear c21
         replace H := Option.bind_eq_some_iff.mp H
         obtain ⟨t334, A220, H⟩ := H
         replace H : ((footlockerref01_Mul.f k2 (rd l1 x6_1) t334).bind fun t335 => ((footlockerref02_Mul.f k2 x7_2 (([t335] : List Int))).bind fun t339 => ((footlockerref02_Add.f k2 x5_1 t339).bind fun t342 => (footlockerref02_Through.l0 k2 l0 l1 t342 (wrap64 (x6_1 + 1)))))) = some r := H
         have A22 := Aside0.mk A220
         clear A220
         replace H := Option.bind_eq_some_iff.mp H
         obtain ⟨t335, A230, H⟩ := H
         replace H : ((footlockerref02_Mul.f k2 x7_2 (([t335] : List Int))).bind fun t339 => ((footlockerref02_Add.f k2 x5_1 t339).bind fun t342 => (footlockerref02_Through.l0 k2 l0 l1 t342 (wrap64 (x6_1 + 1))))) = some r := H
         have A23 := Aside0.mk A230
         clear A230
         obtain ⟨y336, hy336⟩ : ∃ y_ : List Int, y_ = (([t335] : List Int)) := ⟨_, rfl⟩
         replace H : ((footlockerref02_Mul.f k2 x7_2 y336).bind fun t339 => ((footlockerref02_Add.f k2 x5_1 t339).bind fun t342 => (footlockerref02_Through.l0 k2 l0 l1 t342 (wrap64 (x6_1 + 1))))) = some r := by first | (rw [hy336]; with_reducible exact H) | (have H2_ := (Option.bind_some _ _).symm.trans H; rw [hy336]; with_reducible exact H2_) | (have H2_ := (Option.bind_some _ _).symm.trans H; with_reducible exact H2_) | with_reducible exact H | (rw [hy336]; exact H) | exact H
         have Ny336 := Aside0.mk hy336
         clear hy336
         replace H := Option.bind_eq_some_iff.mp H
         obtain ⟨t339, A240, H⟩ := H
         replace H : ((footlockerref02_Add.f k2 x5_1 t339).bind fun t342 => (footlockerref02_Through.l0 k2 l0 l1 t342 (wrap64 (x6_1 + 1)))) = some r := H
         have A24 := Aside0.mk A240
         clear A240
         replace H := Option.bind_eq_some_iff.mp H
         obtain ⟨t342, A250, H⟩ := H
         replace H : (footlockerref02_Through.l0 k2 l0 l1 t342 (wrap64 (x6_1 + 1))) = some r := H
         have A25 := Aside0.mk A250
         clear A250
         have H' := Aside0.mk H
         clear H
         have p333 : 0 ≤ (x6_1 : Int) := of_decide_eq_true (by first | (with_reducible assumption) | assumption)
         have q333 : x6_1 < (l1.length : Int) := of_decide_eq_true (by first | (with_reducible assumption) | assumption)
         obtain ⟨ad333, e333, hx333_0⟩ := Kd.at_int HR1.out x6_1 p333 q333
         cases e333
         replace hx333_0 := (HB.out.cell (World.block_lt_of_cell? w _ hx333_0)).trans hx333_0
         replace p333 := eq_true p333
         replace q333 := eq_true q333
         go_wp2_with (first | (go_at_call 43; (with_reducible refine (footlockerref01_Inv.calls k2 x8_2 t334 _ A22.out).mono ?_); rintro e w' ⟨rfl, ⟨nd, rfl⟩⟩; (try first | exact ⟨rfl, _, World.drewN_drewN _ _ _⟩ | exact ⟨rfl, _, Eq.trans (World.drewN_drewN _ _ _) (congrArg (World.drewN _) (Nat.add_assoc _ _ _))⟩)) | (go_at_call 42; (with_reducible refine (footlockerref01_Mul.calls k2 (rd l1 x6_1) t334 t335 _ A23.out).mono ?_); rintro e w' ⟨rfl, ⟨nd, rfl⟩⟩; (try first | exact ⟨rfl, _, World.drewN_drewN _ _ _⟩ | exact ⟨rfl, _, Eq.trans (World.drewN_drewN _ _ _) (congrArg (World.drewN _) (Nat.add_assoc _ _ _))⟩)) | ((with_reducible refine gate_dst (N := 56) rfl ?_); refine Kd.R_lit (Kd.int .u8) _ 5 ?hg (N := 56) ?hd (xs := ([t335] : List Int)) (inner := [.int .u8 t335]) (ok := fun _ => True) (okp := fun _ => True) ?hr ?hp (fun _ hk => hk) trivial (Below.refl _ _) (Nat.le_refl _) (by simp) ?_; (case hd => rfl); (case hg => rfl); (case hr => first | (go_simp; done) | (go_simp; rfl)); (case hp => exact (Reps.one (show Kd.M (Kd.int .u8) _ _ _ t335 [.int .u8 t335] from rfl) (Reps.none _ _))); intro v337 w26 ho27 hb hg_ hnew_; clear hg_ hnew_; (first | rw [← Ny336.out] at ho27 | (simp only [Int.reduceToNat] at ho27; rw [← Ny336.out] at ho27)); have n0_ := Aside0.mk (Kd.R_elder' (by (with_reducible repeat (first | apply Kd.R_alloc | apply Kd.R_drewN | apply Kd.R_drew)); exact HO_5.out) (Kd.R_base ho27) hb); have n1_ := Aside0.mk (Kd.R_elder' (by (with_reducible repeat (first | apply Kd.R_alloc | apply Kd.R_drewN | apply Kd.R_drew)); exact HO_7.out) (Kd.R_base ho27) hb); have n2_ := Aside0.mk (Kd.R_lower (Kd.R_new' (Kd.R_new' ho27 (Kd.R_lt (by (with_reducible repeat (first | apply Kd.R_alloc | apply Kd.R_drewN | apply Kd.R_drew)); exact HO_5.out))) (Kd.R_lt (by (with_reducible repeat (first | apply Kd.R_alloc | apply Kd.R_drewN | apply Kd.R_drew)); exact HO_7.out))) (below_size (by repeat (first | (with_reducible first | exact HB.out | apply below_alloc | apply pw_below_drewN | apply below_drew1) | exact HB.out)))); have n3_ := Aside0.mk (below_step (by repeat (first | (with_reducible first | exact HB.out | apply below_alloc | apply pw_below_drewN | apply below_drew1) | exact HB.out)) hb); clear HO_5; clear HO_7; clear HB; have HO_5 := n0_; have HO_7 := n1_; have HO338 := n2_; have HB := n3_; clear n0_ n1_ n2_ n3_; clear hb ho27; obtain ⟨Ao28, co28, eo28⟩ := Kd.R_slice HO_7.out; subst eo28; obtain ⟨Ao29, co29, eo29⟩ := Kd.R_slice HO338.out; subst eo29) | (go_at_call 41; (with_reducible refine (footlockerref02_Mul.calls k2 _ _ x7_2 _ _ y336 t339 _ ?side1 ?side2 ?side3 ?side4 A24.out).mono ?_); (case side1 => repeat (first | exact (Kd.R_reads' HO_7.out).2.2 | (with_reducible refine Kd.C_alloc ?_ _) | (with_reducible refine Kd.C_drewN ?_ _) | (with_reducible refine Kd.C_drew ?_))); (case side2 => exact (Kd.R_reads' HO_7.out).2.1); (case side3 => repeat (first | exact (Kd.R_reads' HO338.out).2.2 | (with_reducible refine Kd.C_alloc ?_ _) | (with_reducible refine Kd.C_drewN ?_ _) | (with_reducible refine Kd.C_drew ?_))); (case side4 => exact (Kd.R_reads' HO338.out).2.1); rintro e w30 ⟨v340, rfl, ho0, hb⟩; have n0_ := Aside0.mk (Kd.R_elder' (by (with_reducible repeat (first | apply Kd.R_alloc | apply Kd.R_drewN | apply Kd.R_drew)); exact HO_5.out) (Kd.R_base ho0) hb); have n1_ := Aside0.mk (Kd.R_elder' (by (with_reducible repeat (first | apply Kd.R_alloc | apply Kd.R_drewN | apply Kd.R_drew)); exact HO_7.out) (Kd.R_base ho0) hb); have n2_ := Aside0.mk (Kd.R_elder' (by (with_reducible repeat (first | apply Kd.R_alloc | apply Kd.R_drewN | apply Kd.R_drew)); exact HO338.out) (Kd.R_base ho0) hb); have n3_ := Aside0.mk (Kd.R_lower (Kd.R_new' (Kd.R_new' (Kd.R_new' ho0 (Kd.R_lt (by (with_reducible repeat (first | apply Kd.R_alloc | apply Kd.R_drewN | apply Kd.R_drew)); exact HO_5.out))) (Kd.R_lt (by (with_reducible repeat (first | apply Kd.R_alloc | apply Kd.R_drewN | apply Kd.R_drew)); exact HO_7.out))) (Kd.R_lt (by (with_reducible repeat (first | apply Kd.R_alloc | apply Kd.R_drewN | apply Kd.R_drew)); exact HO338.out))) (below_size (by repeat (first | (with_reducible first | exact HB.out | apply below_alloc | apply pw_below_drewN | apply below_drew1) | exact HB.out)))); have n4_ := Aside0.mk (below_step (by repeat (first | (with_reducible first | exact HB.out | apply below_alloc | apply pw_below_drewN | apply below_drew1) | exact HB.out)) hb); clear HO_5; clear HO_7; clear HO338; clear HB; have HO_5 := n0_; have HO_7 := n1_; have HO338 := n2_; have HO341 := n3_; have HB := n4_; clear n0_ n1_ n2_ n3_ n4_; (try clear hb); (try clear hb2); (try clear hk); (try clear hi); (try clear ho0); obtain ⟨Ao31, co31, eo31⟩ := Kd.R_slice HO_5.out; subst eo31; obtain ⟨Ao32, co32, eo32⟩ := Kd.R_slice HO341.out; subst eo32) | (go_at_call 44; (with_reducible refine (footlockerref02_Add.calls k2 _ _ x5_1 _ _ t339 t342 _ ?side1 ?side2 ?side3 ?side4 A25.out).mono ?_); (case side1 => repeat (first | exact (Kd.R_reads' HO_5.out).2.2 | (with_reducible refine Kd.C_alloc ?_ _) | (with_reducible refine Kd.C_drewN ?_ _) | (with_reducible refine Kd.C_drew ?_))); (case side2 => exact (Kd.R_reads' HO_5.out).2.1); (case side3 => repeat (first | exact (Kd.R_reads' HO341.out).2.2 | (with_reducible refine Kd.C_alloc ?_ _) | (with_reducible refine Kd.C_drewN ?_ _) | (with_reducible refine Kd.C_drew ?_))); (case side4 => exact (Kd.R_reads' HO341.out).2.1); rintro e w33 ⟨v343, rfl, ho0, hb⟩; have n0_ := Aside0.mk (Kd.R_elder' (by (with_reducible repeat (first | apply Kd.R_alloc | apply Kd.R_drewN | apply Kd.R_drew)); exact HO_5.out) (Kd.R_base ho0) hb); have n1_ := Aside0.mk (Kd.R_elder' (by (with_reducible repeat (first | apply Kd.R_alloc | apply Kd.R_drewN | apply Kd.R_drew)); exact HO_7.out) (Kd.R_base ho0) hb); have n2_ := Aside0.mk (Kd.R_elder' (by (with_reducible repeat (first | apply Kd.R_alloc | apply Kd.R_drewN | apply Kd.R_drew)); exact HO338.out) (Kd.R_base ho0) hb); have n3_ := Aside0.mk (Kd.R_elder' (by (with_reducible repeat (first | apply Kd.R_alloc | apply Kd.R_drewN | apply Kd.R_drew)); exact HO341.out) (Kd.R_base ho0) hb); have n4_ := Aside0.mk (Kd.R_lower (Kd.R_new' (Kd.R_new' (Kd.R_new' (Kd.R_new' ho0 (Kd.R_lt (by (with_reducible repeat (first | apply Kd.R_alloc | apply Kd.R_drewN | apply Kd.R_drew)); exact HO_5.out))) (Kd.R_lt (by (with_reducible repeat (first | apply Kd.R_alloc | apply Kd.R_drewN | apply Kd.R_drew)); exact HO_7.out))) (Kd.R_lt (by (with_reducible repeat (first | apply Kd.R_alloc | apply Kd.R_drewN | apply Kd.R_drew)); exact HO338.out))) (Kd.R_lt (by (with_reducible repeat (first | apply Kd.R_alloc | apply Kd.R_drewN | apply Kd.R_drew)); exact HO341.out))) (below_size (by repeat (first | (with_reducible first | exact HB.out | apply below_alloc | apply pw_below_drewN | apply below_drew1) | exact HB.out)))); have n5_ := Aside0.mk (below_step (by repeat (first | (with_reducible first | exact HB.out | apply below_alloc | apply pw_below_drewN | apply below_drew1) | exact HB.out)) hb); clear HO_5; clear HO_7; clear HO338; clear HO341; clear HB; have HO_5 := n0_; have HO_7 := n1_; have HO338 := n2_; have HO341 := n3_; have HO344 := n4_; have HB := n5_; clear n0_ n1_ n2_ n3_ n4_ n5_; (try clear hb); (try clear hb2); (try clear hk); (try clear hi); (try clear ho0)))
         repeat (go_quiet (first | (go_at_call 43; (with_reducible refine (footlockerref01_Inv.calls k2 x8_2 t334 _ A22.out).mono ?_); rintro e w' ⟨rfl, ⟨nd, rfl⟩⟩; (try first | exact ⟨rfl, _, World.drewN_drewN _ _ _⟩ | exact ⟨rfl, _, Eq.trans (World.drewN_drewN _ _ _) (congrArg (World.drewN _) (Nat.add_assoc _ _ _))⟩)) | (go_at_call 42; (with_reducible refine (footlockerref01_Mul.calls k2 (rd l1 x6_1) t334 t335 _ A23.out).mono ?_); rintro e w' ⟨rfl, ⟨nd, rfl⟩⟩; (try first | exact ⟨rfl, _, World.drewN_drewN _ _ _⟩ | exact ⟨rfl, _, Eq.trans (World.drewN_drewN _ _ _) (congrArg (World.drewN _) (Nat.add_assoc _ _ _))⟩)) | ((with_reducible refine gate_dst (N := 56) rfl ?_); refine Kd.R_lit (Kd.int .u8) _ 5 ?hg (N := 56) ?hd (xs := ([t335] : List Int)) (inner := [.int .u8 t335]) (ok := fun _ => True) (okp := fun _ => True) ?hr ?hp (fun _ hk => hk) trivial (Below.refl _ _) (Nat.le_refl _) (by simp) ?_; (case hd => rfl); (case hg => rfl); (case hr => first | (go_simp; done) | (go_simp; rfl)); (case hp => exact (Reps.one (show Kd.M (Kd.int .u8) _ _ _ t335 [.int .u8 t335] from rfl) (Reps.none _ _))); intro v337 w26 ho27 hb hg_ hnew_; clear hg_ hnew_; (first | rw [← Ny336.out] at ho27 | (simp only [Int.reduceToNat] at ho27; rw [← Ny336.out] at ho27)); have n0_ := Aside0.mk (Kd.R_elder' (by (with_reducible repeat (first | apply Kd.R_alloc | apply Kd.R_drewN | apply Kd.R_drew)); exact HO_5.out) (Kd.R_base ho27) hb); have n1_ := Aside0.mk (Kd.R_elder' (by (with_reducible repeat (first | apply Kd.R_alloc | apply Kd.R_drewN | apply Kd.R_drew)); exact HO_7.out) (Kd.R_base ho27) hb); have n2_ := Aside0.mk (Kd.R_lower (Kd.R_new' (Kd.R_new' ho27 (Kd.R_lt (by (with_reducible repeat (first | apply Kd.R_alloc | apply Kd.R_drewN | apply Kd.R_drew)); exact HO_5.out))) (Kd.R_lt (by (with_reducible repeat (first | apply Kd.R_alloc | apply Kd.R_drewN | apply Kd.R_drew)); exact HO_7.out))) (below_size (by repeat (first | (with_reducible first | exact HB.out | apply below_alloc | apply pw_below_drewN | apply below_drew1) | exact HB.out)))); have n3_ := Aside0.mk (below_step (by repeat (first | (with_reducible first | exact HB.out | apply below_alloc | apply pw_below_drewN | apply below_drew1) | exact HB.out)) hb); clear HO_5; clear HO_7; clear HB; have HO_5 := n0_; have HO_7 := n1_; have HO338 := n2_; have HB := n3_; clear n0_ n1_ n2_ n3_; clear hb ho27; obtain ⟨Ao28, co28, eo28⟩ := Kd.R_slice HO_7.out; subst eo28; obtain ⟨Ao29, co29, eo29⟩ := Kd.R_slice HO338.out; subst eo29) | (go_at_call 41; (with_reducible refine (footlockerref02_Mul.calls k2 _ _ x7_2 _ _ y336 t339 _ ?side1 ?side2 ?side3 ?side4 A24.out).mono ?_); (case side1 => repeat (first | exact (Kd.R_reads' HO_7.out).2.2 | (with_reducible refine Kd.C_alloc ?_ _) | (with_reducible refine Kd.C_drewN ?_ _) | (with_reducible refine Kd.C_drew ?_))); (case side2 => exact (Kd.R_reads' HO_7.out).2.1); (case side3 => repeat (first | exact (Kd.R_reads' HO338.out).2.2 | (with_reducible refine Kd.C_alloc ?_ _) | (with_reducible refine Kd.C_drewN ?_ _) | (with_reducible refine Kd.C_drew ?_))); (case side4 => exact (Kd.R_reads' HO338.out).2.1); rintro e w30 ⟨v340, rfl, ho0, hb⟩; have n0_ := Aside0.mk (Kd.R_elder' (by (with_reducible repeat (first | apply Kd.R_alloc | apply Kd.R_drewN | apply Kd.R_drew)); exact HO_5.out) (Kd.R_base ho0) hb); have n1_ := Aside0.mk (Kd.R_elder' (by (with_reducible repeat (first | apply Kd.R_alloc | apply Kd.R_drewN | apply Kd.R_drew)); exact HO_7.out) (Kd.R_base ho0) hb); have n2_ := Aside0.mk (Kd.R_elder' (by (with_reducible repeat (first | apply Kd.R_alloc | apply Kd.R_drewN | apply Kd.R_drew)); exact HO338.out) (Kd.R_base ho0) hb); have n3_ := Aside0.mk (Kd.R_lower (Kd.R_new' (Kd.R_new' (Kd.R_new' ho0 (Kd.R_lt (by (with_reducible repeat (first | apply Kd.R_alloc | apply Kd.R_drewN | apply Kd.R_drew)); exact HO_5.out))) (Kd.R_lt (by (with_reducible repeat (first | apply Kd.R_alloc | apply Kd.R_drewN | apply Kd.R_drew)); exact HO_7.out))) (Kd.R_lt (by (with_reducible repeat (first | apply Kd.R_alloc | apply Kd.R_drewN | apply Kd.R_drew)); exact HO338.out))) (below_size (by repeat (first | (with_reducible first | exact HB.out | apply below_alloc | apply pw_below_drewN | apply below_drew1) | exact HB.out)))); have n4_ := Aside0.mk (below_step (by repeat (first | (with_reducible first | exact HB.out | apply below_alloc | apply pw_below_drewN | apply below_drew1) | exact HB.out)) hb); clear HO_5; clear HO_7; clear HO338; clear HB; have HO_5 := n0_; have HO_7 := n1_; have HO338 := n2_; have HO341 := n3_; have HB := n4_; clear n0_ n1_ n2_ n3_ n4_; (try clear hb); (try clear hb2); (try clear hk); (try clear hi); (try clear ho0); obtain ⟨Ao31, co31, eo31⟩ := Kd.R_slice HO_5.out; subst eo31; obtain ⟨Ao32, co32, eo32⟩ := Kd.R_slice HO341.out; subst eo32) | (go_at_call 44; (with_reducible refine (footlockerref02_Add.calls k2 _ _ x5_1 _ _ t339 t342 _ ?side1 ?side2 ?side3 ?side4 A25.out).mono ?_); (case side1 => repeat (first | exact (Kd.R_reads' HO_5.out).2.2 | (with_reducible refine Kd.C_alloc ?_ _) | (with_reducible refine Kd.C_drewN ?_ _) | (with_reducible refine Kd.C_drew ?_))); (case side2 => exact (Kd.R_reads' HO_5.out).2.1); (case side3 => repeat (first | exact (Kd.R_reads' HO341.out).2.2 | (with_reducible refine Kd.C_alloc ?_ _) | (with_reducible refine Kd.C_drewN ?_ _) | (with_reducible refine Kd.C_drew ?_))); (case side4 => exact (Kd.R_reads' HO341.out).2.1); rintro e w33 ⟨v343, rfl, ho0, hb⟩; have n0_ := Aside0.mk (Kd.R_elder' (by (with_reducible repeat (first | apply Kd.R_alloc | apply Kd.R_drewN | apply Kd.R_drew)); exact HO_5.out) (Kd.R_base ho0) hb); have n1_ := Aside0.mk (Kd.R_elder' (by (with_reducible repeat (first | apply Kd.R_alloc | apply Kd.R_drewN | apply Kd.R_drew)); exact HO_7.out) (Kd.R_base ho0) hb); have n2_ := Aside0.mk (Kd.R_elder' (by (with_reducible repeat (first | apply Kd.R_alloc | apply Kd.R_drewN | apply Kd.R_drew)); exact HO338.out) (Kd.R_base ho0) hb); have n3_ := Aside0.mk (Kd.R_elder' (by (with_reducible repeat (first | apply Kd.R_alloc | apply Kd.R_drewN | apply Kd.R_drew)); exact HO341.out) (Kd.R_base ho0) hb); have n4_ := Aside0.mk (Kd.R_lower (Kd.R_new' (Kd.R_new' (Kd.R_new' (Kd.R_new' ho0 (Kd.R_lt (by (with_reducible repeat (first | apply Kd.R_alloc | apply Kd.R_drewN | apply Kd.R_drew)); exact HO_5.out))) (Kd.R_lt (by (with_reducible repeat (first | apply Kd.R_alloc | apply Kd.R_drewN | apply Kd.R_drew)); exact HO_7.out))) (Kd.R_lt (by (with_reducible repeat (first | apply Kd.R_alloc | apply Kd.R_drewN | apply Kd.R_drew)); exact HO338.out))) (Kd.R_lt (by (with_reducible repeat (first | apply Kd.R_alloc | apply Kd.R_drewN | apply Kd.R_drew)); exact HO341.out))) (below_size (by repeat (first | (with_reducible first | exact HB.out | apply below_alloc | apply pw_below_drewN | apply below_drew1) | exact HB.out)))); have n5_ := Aside0.mk (below_step (by repeat (first | (with_reducible first | exact HB.out | apply below_alloc | apply pw_below_drewN | apply below_drew1) | exact HB.out)) hb); clear HO_5; clear HO_7; clear HO338; clear HO341; clear HB; have HO_5 := n0_; have HO_7 := n1_; have HO338 := n2_; have HO341 := n3_; have HO344 := n4_; have HB := n5_; clear n0_ n1_ n2_ n3_ n4_ n5_; (try clear hb); (try clear hb2); (try clear hk); (try clear hi); (try clear ho0))); try go_wp2_with (first | (go_at_call 43; (with_reducible refine (footlockerref01_Inv.calls k2 x8_2 t334 _ A22.out).mono ?_); rintro e w' ⟨rfl, ⟨nd, rfl⟩⟩; (try first | exact ⟨rfl, _, World.drewN_drewN _ _ _⟩ | exact ⟨rfl, _, Eq.trans (World.drewN_drewN _ _ _) (congrArg (World.drewN _) (Nat.add_assoc _ _ _))⟩)) | (go_at_call 42; (with_reducible refine (footlockerref01_Mul.calls k2 (rd l1 x6_1) t334 t335 _ A23.out).mono ?_); rintro e w' ⟨rfl, ⟨nd, rfl⟩⟩; (try first | exact ⟨rfl, _, World.drewN_drewN _ _ _⟩ | exact ⟨rfl, _, Eq.trans (World.drewN_drewN _ _ _) (congrArg (World.drewN _) (Nat.add_assoc _ _ _))⟩)) | ((with_reducible refine gate_dst (N := 56) rfl ?_); refine Kd.R_lit (Kd.int .u8) _ 5 ?hg (N := 56) ?hd (xs := ([t335] : List Int)) (inner := [.int .u8 t335]) (ok := fun _ => True) (okp := fun _ => True) ?hr ?hp (fun _ hk => hk) trivial (Below.refl _ _) (Nat.le_refl _) (by simp) ?_; (case hd => rfl); (case hg => rfl); (case hr => first | (go_simp; done) | (go_simp; rfl)); (case hp => exact (Reps.one (show Kd.M (Kd.int .u8) _ _ _ t335 [.int .u8 t335] from rfl) (Reps.none _ _))); intro v337 w26 ho27 hb hg_ hnew_; clear hg_ hnew_; (first | rw [← Ny336.out] at ho27 | (simp only [Int.reduceToNat] at ho27; rw [← Ny336.out] at ho27)); have n0_ := Aside0.mk (Kd.R_elder' (by (with_reducible repeat (first | apply Kd.R_alloc | apply Kd.R_drewN | apply Kd.R_drew)); exact HO_5.out) (Kd.R_base ho27) hb); have n1_ := Aside0.mk (Kd.R_elder' (by (with_reducible repeat (first | apply Kd.R_alloc | apply Kd.R_drewN | apply Kd.R_drew)); exact HO_7.out) (Kd.R_base ho27) hb); have n2_ := Aside0.mk (Kd.R_lower (Kd.R_new' (Kd.R_new' ho27 (Kd.R_lt (by (with_reducible repeat (first | apply Kd.R_alloc | apply Kd.R_drewN | apply Kd.R_drew)); exact HO_5.out))) (Kd.R_lt (by (with_reducible repeat (first | apply Kd.R_alloc | apply Kd.R_drewN | apply Kd.R_drew)); exact HO_7.out))) (below_size (by repeat (first | (with_reducible first | exact HB.out | apply below_alloc | apply pw_below_drewN | apply below_drew1) | exact HB.out)))); have n3_ := Aside0.mk (below_step (by repeat (first | (with_reducible first | exact HB.out | apply below_alloc | apply pw_below_drewN | apply below_drew1) | exact HB.out)) hb); clear HO_5; clear HO_7; clear HB; have HO_5 := n0_; have HO_7 := n1_; have HO338 := n2_; have HB := n3_; clear n0_ n1_ n2_ n3_; clear hb ho27; obtain ⟨Ao28, co28, eo28⟩ := Kd.R_slice HO_7.out; subst eo28; obtain ⟨Ao29, co29, eo29⟩ := Kd.R_slice HO338.out; subst eo29) | (go_at_call 41; (with_reducible refine (footlockerref02_Mul.calls k2 _ _ x7_2 _ _ y336 t339 _ ?side1 ?side2 ?side3 ?side4 A24.out).mono ?_); (case side1 => repeat (first | exact (Kd.R_reads' HO_7.out).2.2 | (with_reducible refine Kd.C_alloc ?_ _) | (with_reducible refine Kd.C_drewN ?_ _) | (with_reducible refine Kd.C_drew ?_))); (case side2 => exact (Kd.R_reads' HO_7.out).2.1); (case side3 => repeat (first | exact (Kd.R_reads' HO338.out).2.2 | (with_reducible refine Kd.C_alloc ?_ _) | (with_reducible refine Kd.C_drewN ?_ _) | (with_reducible refine Kd.C_drew ?_))); (case side4 => exact (Kd.R_reads' HO338.out).2.1); rintro e w30 ⟨v340, rfl, ho0, hb⟩; have n0_ := Aside0.mk (Kd.R_elder' (by (with_reducible repeat (first | apply Kd.R_alloc | apply Kd.R_drewN | apply Kd.R_drew)); exact HO_5.out) (Kd.R_base ho0) hb); have n1_ := Aside0.mk (Kd.R_elder' (by (with_reducible repeat (first | apply Kd.R_alloc | apply Kd.R_drewN | apply Kd.R_drew)); exact HO_7.out) (Kd.R_base ho0) hb); have n2_ := Aside0.mk (Kd.R_elder' (by (with_reducible repeat (first | apply Kd.R_alloc | apply Kd.R_drewN | apply Kd.R_drew)); exact HO338.out) (Kd.R_base ho0) hb); have n3_ := Aside0.mk (Kd.R_lower (Kd.R_new' (Kd.R_new' (Kd.R_new' ho0 (Kd.R_lt (by (with_reducible repeat (first | apply Kd.R_alloc | apply Kd.R_drewN | apply Kd.R_drew)); exact HO_5.out))) (Kd.R_lt (by (with_reducible repeat (first | apply Kd.R_alloc | apply Kd.R_drewN | apply Kd.R_drew)); exact HO_7.out))) (Kd.R_lt (by (with_reducible repeat (first | apply Kd.R_alloc | apply Kd.R_drewN | apply Kd.R_drew)); exact HO338.out))) (below_size (by repeat (first | (with_reducible first | exact HB.out | apply below_alloc | apply pw_below_drewN | apply below_drew1) | exact HB.out)))); have n4_ := Aside0.mk (below_step (by repeat (first | (with_reducible first | exact HB.out | apply below_alloc | apply pw_below_drewN | apply below_drew1) | exact HB.out)) hb); clear HO_5; clear HO_7; clear HO338; clear HB; have HO_5 := n0_; have HO_7 := n1_; have HO338 := n2_; have HO341 := n3_; have HB := n4_; clear n0_ n1_ n2_ n3_ n4_; (try clear hb); (try clear hb2); (try clear hk); (try clear hi); (try clear ho0); obtain ⟨Ao31, co31, eo31⟩ := Kd.R_slice HO_5.out; subst eo31; obtain ⟨Ao32, co32, eo32⟩ := Kd.R_slice HO341.out; subst eo32) | (go_at_call 44; (with_reducible refine (footlockerref02_Add.calls k2 _ _ x5_1 _ _ t339 t342 _ ?side1 ?side2 ?side3 ?side4 A25.out).mono ?_); (case side1 => repeat (first | exact (Kd.R_reads' HO_5.out).2.2 | (with_reducible refine Kd.C_alloc ?_ _) | (with_reducible refine Kd.C_drewN ?_ _) | (with_reducible refine Kd.C_drew ?_))); (case side2 => exact (Kd.R_reads' HO_5.out).2.1); (case side3 => repeat (first | exact (Kd.R_reads' HO341.out).2.2 | (with_reducible refine Kd.C_alloc ?_ _) | (with_reducible refine Kd.C_drewN ?_ _) | (with_reducible refine Kd.C_drew ?_))); (case side4 => exact (Kd.R_reads' HO341.out).2.1); rintro e w33 ⟨v343, rfl, ho0, hb⟩; have n0_ := Aside0.mk (Kd.R_elder' (by (with_reducible repeat (first | apply Kd.R_alloc | apply Kd.R_drewN | apply Kd.R_drew)); exact HO_5.out) (Kd.R_base ho0) hb); have n1_ := Aside0.mk (Kd.R_elder' (by (with_reducible repeat (first | apply Kd.R_alloc | apply Kd.R_drewN | apply Kd.R_drew)); exact HO_7.out) (Kd.R_base ho0) hb); have n2_ := Aside0.mk (Kd.R_elder' (by (with_reducible repeat (first | apply Kd.R_alloc | apply Kd.R_drewN | apply Kd.R_drew)); exact HO338.out) (Kd.R_base ho0) hb); have n3_ := Aside0.mk (Kd.R_elder' (by (with_reducible repeat (first | apply Kd.R_alloc | apply Kd.R_drewN | apply Kd.R_drew)); exact HO341.out) (Kd.R_base ho0) hb); have n4_ := Aside0.mk (Kd.R_lower (Kd.R_new' (Kd.R_new' (Kd.R_new' (Kd.R_new' ho0 (Kd.R_lt (by (with_reducible repeat (first | apply Kd.R_alloc | apply Kd.R_drewN | apply Kd.R_drew)); exact HO_5.out))) (Kd.R_lt (by (with_reducible repeat (first | apply Kd.R_alloc | apply Kd.R_drewN | apply Kd.R_drew)); exact HO_7.out))) (Kd.R_lt (by (with_reducible repeat (first | apply Kd.R_alloc | apply Kd.R_drewN | apply Kd.R_drew)); exact HO338.out))) (Kd.R_lt (by (with_reducible repeat (first | apply Kd.R_alloc | apply Kd.R_drewN | apply Kd.R_drew)); exact HO341.out))) (below_size (by repeat (first | (with_reducible first | exact HB.out | apply below_alloc | apply pw_below_drewN | apply below_drew1) | exact HB.out)))); have n5_ := Aside0.mk (below_step (by repeat (first | (with_reducible first | exact HB.out | apply below_alloc | apply pw_below_drewN | apply below_drew1) | exact HB.out)) hb); clear HO_5; clear HO_7; clear HO338; clear HO341; clear HB; have HO_5 := n0_; have HO_7 := n1_; have HO338 := n2_; have HO341 := n3_; have HO344 := n4_; have HB := n5_; clear n0_ n1_ n2_ n3_ n4_ n5_; (try clear hb); (try clear hb2); (try clear hk); (try clear hi); (try clear ho0))))
         go_roundg k2
         case measure => have := HK1.out; have := HK2.out; omega
         case rel => exact ⟨(t342), (wrap64 (x6_1 + 1)), (by first | rfl | (simp; done) | (simp [*]; done)), H', ⟨by have := HK1.out; have := HK2.out; omega⟩, ⟨by (with_reducible repeat (first | apply Kd.R_alloc | apply Kd.R_drewN | apply Kd.R_drew)); exact Kd.R_mono HO344.out (fun _ hk => trivial)⟩, ⟨by repeat (first | (with_reducible first | exact HB.out | apply below_alloc | apply pw_below_drewN | apply below_drew1) | exact HB.out)⟩⟩
        ·rw [if_neg c21] at H
         exact absurd H (by simp)
       ·rw [if_neg c20] at H
        exact absurd H (by simp)
   ·rw [if_neg c5] at H
    have c5b0 : decide (x6_1 < (l0.length : Int)) = false := decide_eq_false c5
    clear c5
    obtain rfl := Option.some.inj H
    go_wp2
    repeat (go_quiet (fail); try go_wp2)
    go_ret
    exact ⟨_, by first | rfl | (simp [errW_none, errW_some] <;> rfl) | (simp [*, errW_none, errW_some] <;> rfl), by (with_reducible repeat (first | apply Kd.R_alloc | apply Kd.R_drewN | apply Kd.R_drew)); exact HO_5.out, by repeat (first | (with_reducible first | exact HB.out | apply below_alloc | apply pw_below_drewN | apply below_drew1) | exact HB.out)⟩
def footlockerref02_Eval.l0 : Nat → List Int → Int → Int → Int → Int → Option (Int)
 | 0, _, _, _, _, _ => none
 | k + 1, x0, x1, x5, x6, x7 => if x7 < (x0.length : Int) then (if 0 ≤ x7 then ((footlockerref01_Mul.f k (rd x0 x7) x6).bind fun t346 => ((footlockerref01_Mul.f k x6 x1).bind fun t347 => (footlockerref02_Eval.l0 k x0 x1 (Go.bits .xor .u8 x5 t346) t347 (wrap64 (x7 + 1))))) else (none)) else (some x5)
def footlockerref02_Eval.f (k : Nat) (l0 : List Int) (a1 : Int) : Option (Int) := footlockerref02_Eval.l0 k l0 a1 0 1 0
theorem footlockerref02_Eval.mono_l : ∀ k, (∀ y0 y1 y2 y3 y4, LeO (footlockerref02_Eval.l0 k y0 y1 y2 y3 y4) (footlockerref02_Eval.l0 (k + 1) y0 y1 y2 y3 y4))
 | 0 => fun _ _ _ _ _ r h => by simp [footlockerref02_Eval.l0] at h
 | k + 1 => by
  have ih0 := footlockerref02_Eval.mono_l k
  ·intro y0 y1 y2 y3 y4
   unfold footlockerref02_Eval.l0
   repeat' first
   | (with_reducible exact ih0 _ _ _ _ _)
   | (with_reducible exact footlockerref01_Mul.mono _ _ _)
   | (with_reducible exact LeO.refl _)
   | (with_reducible exact LeO.none _)
   | (with_reducible refine LeO.ite ?_ ?_)
   | (with_reducible refine LeO.bind ?_ (fun _ => ?_))
   | exact ih0 _ _ _ _ _
   | exact footlockerref01_Mul.mono _ _ _
   | exact LeO.none _
   | refine LeO.ite ?_ ?_
   | refine LeO.bind ?_ (fun _ => ?_)
theorem footlockerref02_Eval.mono : ∀ a0 a1 k, LeO (footlockerref02_Eval.f k a0 a1) (footlockerref02_Eval.f (k + 1) a0 a1) := by
 intro a0 a1 k
 have ih0 := footlockerref02_Eval.mono_l k
 unfold footlockerref02_Eval.f
 repeat' first
  | (with_reducible exact ih0 _ _ _ _ _)
  | (with_reducible exact footlockerref01_Mul.mono _ _ _)
  | (with_reducible exact LeO.refl _)
  | (with_reducible exact LeO.none _)
  | (with_reducible refine LeO.ite ?_ ?_)
  | (with_reducible refine LeO.bind ?_ (fun _ => ?_))
  | exact ih0 _ _ _ _ _
  | exact footlockerref01_Mul.mono _ _ _
  | exact LeO.none _
  | refine LeO.ite ?_ ?_
  | refine LeO.bind ?_ (fun _ => ?_)
set_option maxHeartbeats 8000000 in
set_option maxRecDepth 100000 in
theorem footlockerref02_Eval.calls (k : Nat) (A0 : Option Addr) (c0 : Nat) (l0 : List Int) (a1 : Int) (r : Int) (w : World) (hr0 : Kd.C (Kd.int .u8) w A0 l0.length l0) (hc0 : l0.length ≤ c0) (h : footlockerref02_Eval.f k l0 a1 = some r) :
 Calls Try.prog 30 #[.slice A0 l0.length c0, .int .u8 a1] w fun e w' => e = .returned (.int .u8 r) ∧ Drawn0 w w' := by
 have HR0 := Aside0.mk hr0
 have HC0 := Aside0.mk hc0
 clear hr0 hc0
 have H : (footlockerref02_Eval.l0 k l0 a1 0 1 0) = some r := h
 clear h
 have H' := Aside0.mk H
 clear H
 go_enter Try.func30, Try.ntmps30
 go_wp2
 go_loopg [5, 6, 7] k (fun kq v5 v6 v7 w' => ∃ (x5_1 : Int) (x6_1 : Int) (x7_1 : Int), v5 = .int .u8 x5_1 ∧ v6 = .int .u8 x6_1 ∧ v7 = .int .i64 x7_1 ∧ Aside0 (footlockerref02_Eval.l0 kq l0 a1 x5_1 x6_1 x7_1 = some r) ∧ Aside0 (kq ≤ k) ∧ Drawn0 w w')
 case atStart => exact ⟨(0), (1), (0), (by first | rfl | (simp; done) | (simp [*]; done)), (by first | rfl | (simp; done) | (simp [*]; done)), (by first | rfl | (simp; done) | (simp [*]; done)), H', ⟨Nat.le_refl _⟩, by repeat (first | exact Drawn0.refl _ | apply Drawn0.step)⟩
 case round =>
  clear H'
  try clear p2
  obtain ⟨x5_1, x6_1, x7_1, rfl, rfl, rfl, HA, HK1, ⟨m1, rfl⟩⟩ := hrel
  cases gk with
  | zero => exact absurd HA.out (by simp [footlockerref02_Eval.l0])
  | succ k1 =>
   have H := HA.out
   clear HA
   simp only [footlockerref02_Eval.l0] at H
   by_cases c3 : x7_1 < (l0.length : Int)
   ·rw [if_pos c3] at H
    have c3b0 : decide (x7_1 < (l0.length : Int)) = true := decide_eq_true c3
    clear c3
    by_cases c4 : 0 ≤ x7_1
    ·rw [if_pos c4] at H
     have c4b0 : decide (0 ≤ x7_1) = true := decide_eq_true c4
     clear c4
     replace H := Option.bind_eq_some_iff.mp H
     obtain ⟨t346, A50, H⟩ := H
     replace H : ((footlockerref01_Mul.f k1 x6_1 a1).bind fun t347 => (footlockerref02_Eval.l0 k1 l0 a1 (Go.bits .xor .u8 x5_1 t346) t347 (wrap64 (x7_1 + 1)))) = some r := H
     have A5 := Aside0.mk A50
     clear A50
     replace H := Option.bind_eq_some_iff.mp H
     obtain ⟨t347, A60, H⟩ := H
     replace H : (footlockerref02_Eval.l0 k1 l0 a1 (Go.bits .xor .u8 x5_1 t346) t347 (wrap64 (x7_1 + 1))) = some r := H
     have A6 := Aside0.mk A60
     clear A60
     have H' := Aside0.mk H
     clear H
     have p345 : 0 ≤ (x7_1 : Int) := of_decide_eq_true (by first | (with_reducible assumption) | assumption)
     have q345 : x7_1 < (l0.length : Int) := of_decide_eq_true (by first | (with_reducible assumption) | assumption)
     obtain ⟨ad345, e345, hx345_0⟩ := Kd.at_int HR0.out x7_1 p345 q345
     cases e345
     replace p345 := eq_true p345
     replace q345 := eq_true q345
     go_wp2_with (first | ((with_reducible refine gate_callee (f := 42) rfl ?_); refine goesL_ (some 20) rfl rfl Try.func42 (by kernel_rfl) rfl #[.int .u8 (rd l0 x7_1), .int .u8 x6_1] rfl (by (try simp only [List.map_toArray, List.map_cons, List.map_nil]); first | done | rfl | (simp only [List.length_drop, List.length_take]; rfl)) ?_; (with_reducible refine (footlockerref01_Mul.calls k1 (rd l0 x7_1) x6_1 t346 _ A5.out).mono ?_); rintro e w' ⟨rfl, ⟨nd, rfl⟩⟩; refine ⟨_, rfl, ?_⟩) | ((with_reducible refine gate_callee (f := 42) rfl ?_); refine goesL_ (some 24) rfl rfl Try.func42 (by kernel_rfl) rfl #[.int .u8 x6_1, .int .u8 a1] rfl (by (try simp only [List.map_toArray, List.map_cons, List.map_nil]); first | done | rfl | (simp only [List.length_drop, List.length_take]; rfl)) ?_; (with_reducible refine (footlockerref01_Mul.calls k1 x6_1 a1 t347 _ A6.out).mono ?_); rintro e w' ⟨rfl, ⟨nd, rfl⟩⟩; refine ⟨_, rfl, ?_⟩))
     go_roundg k1
     case measure => have := HK1.out; omega
     case rel => exact ⟨(Go.bits .xor .u8 x5_1 t346), (t347), (wrap64 (x7_1 + 1)), (by first | rfl | (simp; done) | (simp [*]; done)), (by first | rfl | (simp; done) | (simp [*]; done)), (by first | rfl | (simp; done) | (simp [*]; done)), H', ⟨by have := HK1.out; omega⟩, by repeat (first | exact Drawn0.refl _ | apply Drawn0.step)⟩
    ·rw [if_neg c4] at H
     exact absurd H (by simp)
   ·rw [if_neg c3] at H
    have c3b0 : decide (x7_1 < (l0.length : Int)) = false := decide_eq_false c3
    clear c3
    obtain rfl := Option.some.inj H
    go_wp2
    go_ret
    exact ⟨by first | rfl | (simp; done) | (simp [*]; done), by repeat (first | exact Drawn0.refl _ | apply Drawn0.step)⟩
def footlockerref04_Word.l0 : Nat → Int → List Int → List Int → Int → Option (List Int)
 | 0, _, _, _, _ => none
 | k + 1, x2, x7, x8, x9 => if x9 < x2 then ((footlockerref02_Eval.f k x7 ((x9) % 256)).bind fun t354 => (if x8.length < 140737488355328 then (footlockerref04_Word.l0 k x2 x7 (x8 ++ [t354]) (wrap64 (x9 + 1))) else (none))) else (some x8)
def footlockerref04_Word.f (k : Nat) (l0 : List Int) (l1 : List Int) (a2 : Int) : Option (List Int) := (footlockerref02_Through.f k l0 l1).bind fun t348 => (footlockerref04_Word.l0 k a2 t348 (([] : List Int)) 0)
theorem footlockerref04_Word.mono_l : ∀ k, (∀ y0 y1 y2 y3, LeO (footlockerref04_Word.l0 k y0 y1 y2 y3) (footlockerref04_Word.l0 (k + 1) y0 y1 y2 y3))
 | 0 => fun _ _ _ _ r h => by simp [footlockerref04_Word.l0] at h
 | k + 1 => by
  have ih0 := footlockerref04_Word.mono_l k
  ·intro y0 y1 y2 y3
   unfold footlockerref04_Word.l0
   repeat' first
   | (with_reducible exact ih0 _ _ _ _)
   | (with_reducible exact footlockerref02_Eval.mono _ _ _)
   | (with_reducible exact footlockerref02_Through.mono _ _ _)
   | (with_reducible exact LeO.refl _)
   | (with_reducible exact LeO.none _)
   | (with_reducible refine LeO.ite ?_ ?_)
   | (with_reducible refine LeO.bind ?_ (fun _ => ?_))
   | exact ih0 _ _ _ _
   | exact footlockerref02_Eval.mono _ _ _
   | exact footlockerref02_Through.mono _ _ _
   | exact LeO.none _
   | refine LeO.ite ?_ ?_
   | refine LeO.bind ?_ (fun _ => ?_)
theorem footlockerref04_Word.mono : ∀ a0 a1 a2 k, LeO (footlockerref04_Word.f k a0 a1 a2) (footlockerref04_Word.f (k + 1) a0 a1 a2) := by
 intro a0 a1 a2 k
 have ih0 := footlockerref04_Word.mono_l k
 unfold footlockerref04_Word.f
 repeat' first
  | (with_reducible exact ih0 _ _ _ _)
  | (with_reducible exact footlockerref02_Eval.mono _ _ _)
  | (with_reducible exact footlockerref02_Through.mono _ _ _)
  | (with_reducible exact LeO.refl _)
  | (with_reducible exact LeO.none _)
  | (with_reducible refine LeO.ite ?_ ?_)
  | (with_reducible refine LeO.bind ?_ (fun _ => ?_))
  | exact ih0 _ _ _ _
  | exact footlockerref02_Eval.mono _ _ _
  | exact footlockerref02_Through.mono _ _ _
  | exact LeO.none _
  | refine LeO.ite ?_ ?_
  | refine LeO.bind ?_ (fun _ => ?_)
set_option maxHeartbeats 8000000 in
set_option maxRecDepth 100000 in
theorem footlockerref04_Word.calls (k : Nat) (A0 : Option Addr) (c0 : Nat) (l0 : List Int) (A1 : Option Addr) (c1 : Nat) (l1 : List Int) (a2 : Int) (r : List Int) (w : World) (hr0 : Kd.C (Kd.int .u8) w A0 l0.length l0) (hc0 : l0.length ≤ c0) (hr1 : Kd.C (Kd.int .u8) w A1 l1.length l1) (hc1 : l1.length ≤ c1) (h : footlockerref04_Word.f k l0 l1 a2 = some r) :
 Calls Try.prog 23 #[.slice A0 l0.length c0, .slice A1 l1.length c1, .int .i64 a2] w fun e w' => ∃ v0_ : Value, e = .returned (v0_) ∧ Kd.R (Kd.int .u8) 5 w' w.heap.size (fun _ => True) v0_ r ∧ Below w.heap.size w w' := by
 have HR0 := Aside0.mk hr0
 have HC0 := Aside0.mk hc0
 clear hr0 hc0
 have HR1 := Aside0.mk hr1
 have HC1 := Aside0.mk hc1
 clear hr1 hc1
 have HB := Aside0.mk (Below.refl w.heap.size w)
 have H : ((footlockerref02_Through.f k l0 l1).bind fun t348 => (footlockerref04_Word.l0 k a2 t348 (([] : List Int)) 0)) = some r := h
 clear h
 replace H := Option.bind_eq_some_iff.mp H
 obtain ⟨t348, A40, H⟩ := H
 replace H : (footlockerref04_Word.l0 k a2 t348 (([] : List Int)) 0) = some r := H
 have A4 := Aside0.mk A40
 clear A40
 obtain ⟨y351, hy351⟩ : ∃ y_ : List Int, y_ = (([] : List Int)) := ⟨_, rfl⟩
 replace H : (footlockerref04_Word.l0 k a2 t348 y351 0) = some r := by first | (rw [hy351]; with_reducible exact H) | (have H2_ := (Option.bind_some _ _).symm.trans H; rw [hy351]; with_reducible exact H2_) | (have H2_ := (Option.bind_some _ _).symm.trans H; with_reducible exact H2_) | with_reducible exact H | (rw [hy351]; exact H) | exact H
 have Ny351 := Aside0.mk hy351
 clear hy351
 have H' := Aside0.mk H
 clear H
 go_enter Try.func23, Try.ntmps23
 go_wp2_with (first | ((with_reducible refine gate_callee (f := 29) rfl ?_); refine goesL_ (some 12) rfl rfl Try.func29 (by kernel_rfl) rfl #[.slice A0 l0.length c0, .slice A1 l1.length c1] rfl (by (try simp only [List.map_toArray, List.map_cons, List.map_nil]); first | done | rfl | (simp only [List.length_drop, List.length_take]; rfl)) ?_; (with_reducible refine (footlockerref02_Through.calls k _ _ l0 _ _ l1 t348 _ ?side1 ?side2 ?side3 ?side4 A4.out).mono ?_); (case side1 => repeat (first | exact HR0.out | (with_reducible refine Kd.C_alloc ?_ _) | (with_reducible refine Kd.C_drewN ?_ _) | (with_reducible refine Kd.C_drew ?_))); (case side2 => exact HC0.out); (case side3 => repeat (first | exact HR1.out | (with_reducible refine Kd.C_alloc ?_ _) | (with_reducible refine Kd.C_drewN ?_ _) | (with_reducible refine Kd.C_drew ?_))); (case side4 => exact HC1.out); rintro e w5 ⟨v349, rfl, ho0, hb⟩; refine ⟨_, rfl, ?_⟩; have n0_ := Aside0.mk (Kd.R_lower ho0 (below_size (by repeat (first | (with_reducible first | exact HB.out | apply below_alloc | apply pw_below_drewN | apply below_drew1) | exact HB.out)))); have n1_ := Aside0.mk (below_step (by repeat (first | (with_reducible first | exact HB.out | apply below_alloc | apply pw_below_drewN | apply below_drew1) | exact HB.out)) hb); clear HB; have HO350 := n0_; have HB := n1_; clear n0_ n1_; (try clear hb); (try clear hb2); (try clear hk); (try clear hi); (try clear ho0)) | ((with_reducible refine gate_dst (N := 13) rfl ?_); refine Kd.R_lit (Kd.int .u8) _ 5 ?hg (N := 13) ?hd (xs := ([] : List Int)) (inner := []) (ok := fun _ => True) (okp := fun _ => True) ?hr ?hp (fun _ hk => hk) trivial (Below.refl _ _) (Nat.le_refl _) (by simp) ?_; (case hd => rfl); (case hg => rfl); (case hr => first | (go_simp; done) | (go_simp; rfl)); (case hp => exact (Reps.none _ _)); intro v352 w6 ho7 hb hg_ hnew_; clear hg_ hnew_; (first | rw [← Ny351.out] at ho7 | (simp only [Int.reduceToNat] at ho7; rw [← Ny351.out] at ho7)); have n0_ := Aside0.mk (Kd.R_elder' (by (with_reducible repeat (first | apply Kd.R_alloc | apply Kd.R_drewN | apply Kd.R_drew)); exact HO350.out) (Kd.R_base ho7) hb); have n1_ := Aside0.mk (Kd.R_lower (Kd.R_new' ho7 (Kd.R_lt (by (with_reducible repeat (first | apply Kd.R_alloc | apply Kd.R_drewN | apply Kd.R_drew)); exact HO350.out))) (below_size (by repeat (first | (with_reducible first | exact HB.out | apply below_alloc | apply pw_below_drewN | apply below_drew1) | exact HB.out)))); have n2_ := Aside0.mk (below_step (by repeat (first | (with_reducible first | exact HB.out | apply below_alloc | apply pw_below_drewN | apply below_drew1) | exact HB.out)) hb); clear HO350; clear HB; have HO350 := n0_; have HO353 := n1_; have HB := n2_; clear n0_ n1_ n2_; clear hb ho7))
 go_loopg [8, 9] k (fun kq v8 v9 w' => ∃ (x8_1 : List Int) (x9_1 : Int), v9 = .int .i64 x9_1 ∧ Aside0 (footlockerref04_Word.l0 kq a2 t348 x8_1 x9_1 = some r) ∧ Aside0 (kq ≤ k) ∧ Aside0 (Kd.R (Kd.int .u8) 5 w' w.heap.size (fun k_ => some k_ ≠ (v8 : Value).ownBlock) v349 t348) ∧ Aside0 (Kd.R (Kd.int .u8) 5 w' w.heap.size (fun k_ => some k_ ≠ (v349 : Value).ownBlock) v8 x8_1) ∧ Aside0 (Below w.heap.size w w'))
 case atStart => exact ⟨(y351), (0), (by first | rfl | (simp; done) | (simp [*]; done)), H', ⟨Nat.le_refl _⟩, ⟨by (with_reducible repeat (first | apply Kd.R_alloc | apply Kd.R_drewN | apply Kd.R_drew)); exact Kd.R_mono HO350.out (fun _ hk => hk.2)⟩, ⟨by (with_reducible repeat (first | apply Kd.R_alloc | apply Kd.R_drewN | apply Kd.R_drew)); exact Kd.R_mono HO353.out (fun _ hk => hk.2)⟩, ⟨by repeat (first | (with_reducible first | exact HB.out | apply below_alloc | apply pw_below_drewN | apply below_drew1) | exact HB.out)⟩⟩
 case round =>
  clear H'
  try clear c1
  try clear c2
  try clear p2
  obtain ⟨x8_1, x9_1, rfl, HA, HK1, HO_7, HO_8, HB⟩ := hrel
  cases gk with
  | zero => exact absurd HA.out (by simp [footlockerref04_Word.l0])
  | succ k1 =>
   have H := HA.out
   clear HA
   simp only [footlockerref04_Word.l0] at H
   by_cases c8 : x9_1 < a2
   ·rw [if_pos c8] at H
    have c8b0 : decide (x9_1 < a2) = true := decide_eq_true c8
    clear c8
    replace H := Option.bind_eq_some_iff.mp H
    obtain ⟨t354, A90, H⟩ := H
    replace H : (if x8_1.length < 140737488355328 then (footlockerref04_Word.l0 k1 a2 t348 (x8_1 ++ [t354]) (wrap64 (x9_1 + 1))) else (none)) = some r := H
    have A9 := Aside0.mk A90
    clear A90
    by_cases c10 : x8_1.length < 140737488355328
    ·rw [if_pos c10] at H
     have LMc10 := Aside0.mk c10
     clear c10
     obtain ⟨y355, hy355⟩ : ∃ y_ : List Int, y_ = (x8_1 ++ [t354]) := ⟨_, rfl⟩
     replace H : (footlockerref04_Word.l0 k1 a2 t348 y355 (wrap64 (x9_1 + 1))) = some r := by first | (rw [hy355]; with_reducible exact H) | (have H2_ := (Option.bind_some _ _).symm.trans H; rw [hy355]; with_reducible exact H2_) | (have H2_ := (Option.bind_some _ _).symm.trans H; with_reducible exact H2_) | with_reducible exact H | (rw [hy355]; exact H) | exact H
     have Ny355 := Aside0.mk hy355
     clear hy355
     have H' := Aside0.mk H
     clear H
     obtain ⟨Ao11, co11, eo11⟩ := Kd.R_slice HO_7.out
     subst eo11
     go_wp2_with (first | ((with_reducible refine gate_callee (f := 30) rfl ?_); refine goesL_ (some 23) rfl rfl Try.func30 (by kernel_rfl) rfl #[.slice Ao11 t348.length co11, .int .u8 ((x9_1) % 256)] rfl (by (try simp only [List.map_toArray, List.map_cons, List.map_nil]); first | done | rfl | (simp only [List.length_drop, List.length_take]; rfl)) ?_; (with_reducible refine (footlockerref02_Eval.calls k1 _ _ t348 ((x9_1) % 256) t354 _ ?side1 ?side2 A9.out).mono ?_); (case side1 => repeat (first | exact (Kd.R_reads' HO_7.out).2.2 | (with_reducible refine Kd.C_alloc ?_ _) | (with_reducible refine Kd.C_drewN ?_ _) | (with_reducible refine Kd.C_drew ?_))); (case side2 => exact (Kd.R_reads' HO_7.out).2.1); rintro e w' ⟨rfl, ⟨nd, rfl⟩⟩; refine ⟨_, rfl, ?_⟩) | ((with_reducible refine gate_builtin (b := .append) (xs := #[.tmp 19, .tmp 24]) rfl ?_); at_builtin; refine Kd.R_append (Kd.int .u8) (w0 := w) w.heap.size rfl (.tmp 19) (.tmp 24) 22 5 (.int .u8 0) 1 rfl Try.underlying22 info5 rfl (by decide) (by omega) u8 x8_1 t354 [.int .u8 t354] (fun k_ => some k_ ≠ (.slice Ao11 t348.length co11 : Value).ownBlock) (fun _ => False) rfl rfl ?aP (fun _ hk => hk.elim) ?aF ?aO ?aB ?aS ?aL ?_; (case aP => exact rfl); (case aB => exact (by repeat (first | (with_reducible first | exact HB.out | apply below_alloc | apply pw_below_drewN | apply below_drew1) | exact HB.out))); (case aF => exact (fun k_ hk => Kd.fresh' (Kd.R_lt (by (with_reducible repeat (first | apply Kd.R_alloc | apply Kd.R_drewN | apply Kd.R_drew)); exact HO_7.out)) k_ hk)); (case aO => exact (by (with_reducible repeat (first | apply Kd.R_alloc | apply Kd.R_drewN | apply Kd.R_drew)); exact HO_8.out)); (case aS => exact (below_size (by repeat (first | (with_reducible first | exact HB.out | apply below_alloc | apply pw_below_drewN | apply below_drew1) | exact HB.out)))); (case aL => have := LMc10.out; omega); intro v356 w12 ho hb hg hat; rw [← Ny355.out] at ho; have n0_ := Aside0.mk (Kd.R_after (ok := (fun _ => True)) (by (with_reducible repeat (first | apply Kd.R_alloc | apply Kd.R_drewN | apply Kd.R_drew)); exact Kd.R_mono HO_7.out (fun _ hk => ⟨trivial, hk⟩)) hg hat); have n1_ := Aside0.mk (hb); have n2_ := Aside0.mk (ho); clear HO_7; clear HB; clear HO_8; have HO_7 := n0_; have HB := n1_; have HO357 := n2_; clear n0_ n1_ n2_; clear ho hb hg hat))
     go_roundg k1
     case measure => have := HK1.out; omega
     case rel => exact ⟨(y355), (wrap64 (x9_1 + 1)), (by first | rfl | (simp; done) | (simp [*]; done)), H', ⟨by have := HK1.out; omega⟩, ⟨by (with_reducible repeat (first | apply Kd.R_alloc | apply Kd.R_drewN | apply Kd.R_drew)); exact Kd.R_mono HO_7.out (fun _ hk => hk.2)⟩, ⟨by (with_reducible repeat (first | apply Kd.R_alloc | apply Kd.R_drewN | apply Kd.R_drew)); exact HO357.out⟩, ⟨by repeat (first | (with_reducible first | exact HB.out | apply below_alloc | apply pw_below_drewN | apply below_drew1) | exact HB.out)⟩⟩
    ·rw [if_neg c10] at H
     exact absurd H (by simp)
   ·rw [if_neg c8] at H
    have c8b0 : decide (x9_1 < a2) = false := decide_eq_false c8
    clear c8
    obtain rfl := Option.some.inj H
    go_wp2
    go_ret
    exact ⟨_, by first | rfl | (simp [errW_none, errW_some] <;> rfl) | (simp [*, errW_none, errW_some] <;> rfl), by (with_reducible repeat (first | apply Kd.R_alloc | apply Kd.R_drewN | apply Kd.R_drew)); exact Kd.R_mono HO_8.out (fun _ hk => trivial), by repeat (first | (with_reducible first | exact HB.out | apply below_alloc | apply pw_below_drewN | apply below_drew1) | exact HB.out)⟩
def footlockerref01_Join.l0 : Nat → List (List Int) → List Int → Int → Option (List Int)
 | 0, _, _, _ => none
 | k + 1, x0, x3, x4 => if x4 < (x0.length : Int) then (if 0 ≤ x4 then (if x3.length + (rd_L2 x0 x4).length < 140737488355328 then (footlockerref01_Join.l0 k x0 (x3 ++ (rd_L2 x0 x4)) (wrap64 (x4 + 1))) else (none)) else (none)) else (some x3)
def footlockerref01_Join.f (k : Nat) (l0 : List (List Int)) : Option (List Int) := footlockerref01_Join.l0 k l0 (([] : List Int)) 0
theorem footlockerref01_Join.mono_l : ∀ k, (∀ y0 y1 y2, LeO (footlockerref01_Join.l0 k y0 y1 y2) (footlockerref01_Join.l0 (k + 1) y0 y1 y2))
 | 0 => fun _ _ _ r h => by simp [footlockerref01_Join.l0] at h
 | k + 1 => by
  have ih0 := footlockerref01_Join.mono_l k
  ·intro y0 y1 y2
   unfold footlockerref01_Join.l0
   repeat' first
   | (with_reducible exact ih0 _ _ _)
   | (with_reducible exact LeO.refl _)
   | (with_reducible exact LeO.none _)
   | (with_reducible refine LeO.ite ?_ ?_)
   | (with_reducible refine LeO.bind ?_ (fun _ => ?_))
   | exact ih0 _ _ _
   | exact LeO.none _
   | refine LeO.ite ?_ ?_
   | refine LeO.bind ?_ (fun _ => ?_)
theorem footlockerref01_Join.mono : ∀ a0 k, LeO (footlockerref01_Join.f k a0) (footlockerref01_Join.f (k + 1) a0) := by
 intro a0 k
 have ih0 := footlockerref01_Join.mono_l k
 unfold footlockerref01_Join.f
 repeat' first
  | (with_reducible exact ih0 _ _ _)
  | (with_reducible exact LeO.refl _)
  | (with_reducible exact LeO.none _)
  | (with_reducible refine LeO.ite ?_ ?_)
  | (with_reducible refine LeO.bind ?_ (fun _ => ?_))
  | exact ih0 _ _ _
  | exact LeO.none _
  | refine LeO.ite ?_ ?_
  | refine LeO.bind ?_ (fun _ => ?_)
set_option maxHeartbeats 8000000 in
set_option maxRecDepth 100000 in
theorem footlockerref01_Join.calls (k : Nat) (A0 : Option Addr) (c0 : Nat) (l0 : List (List Int)) (r : List Int) (w : World) (hr0 : Kd.C (Kd.slice 5 (Kd.int .u8)) w A0 l0.length l0) (hc0 : l0.length ≤ c0) (h : footlockerref01_Join.f k l0 = some r) :
 Calls Try.prog 28 #[.slice A0 l0.length c0] w fun e w' => ∃ v0_ : Value, e = .returned (v0_) ∧ Kd.R (Kd.int .u8) 5 w' w.heap.size (fun _ => True) v0_ r ∧ Below w.heap.size w w' := by
 have HR0 := Aside0.mk hr0
 have HC0 := Aside0.mk hc0
 clear hr0 hc0
 have HB := Aside0.mk (Below.refl w.heap.size w)
 have H : (footlockerref01_Join.l0 k l0 (([] : List Int)) 0) = some r := h
 clear h
 obtain ⟨y358, hy358⟩ : ∃ y_ : List Int, y_ = (([] : List Int)) := ⟨_, rfl⟩
 replace H : (footlockerref01_Join.l0 k l0 y358 0) = some r := by first | (rw [hy358]; with_reducible exact H) | (have H2_ := (Option.bind_some _ _).symm.trans H; rw [hy358]; with_reducible exact H2_) | (have H2_ := (Option.bind_some _ _).symm.trans H; with_reducible exact H2_) | with_reducible exact H | (rw [hy358]; exact H) | exact H
 have Ny358 := Aside0.mk hy358
 clear hy358
 have H' := Aside0.mk H
 clear H
 go_enter Try.func28, Try.ntmps28
 go_wp2_with (first | ((with_reducible refine gate_dst (N := 5) rfl ?_); refine Kd.R_lit (Kd.int .u8) _ 5 ?hg (N := 5) ?hd (xs := ([] : List Int)) (inner := []) (ok := fun _ => True) (okp := fun _ => True) ?hr ?hp (fun _ hk => hk) trivial (Below.refl _ _) (Nat.le_refl _) (by simp) ?_; (case hd => rfl); (case hg => rfl); (case hr => first | (go_simp; done) | (go_simp; rfl)); (case hp => exact (Reps.none _ _)); intro v359 w2 ho3 hb hg_ hnew_; clear hg_ hnew_; (first | rw [← Ny358.out] at ho3 | (simp only [Int.reduceToNat] at ho3; rw [← Ny358.out] at ho3)); have n0_ := Aside0.mk (Kd.R_lower ho3 (below_size (by repeat (first | (with_reducible first | exact HB.out | apply below_alloc | apply pw_below_drewN | apply below_drew1) | exact HB.out)))); have n1_ := Aside0.mk (below_step (by repeat (first | (with_reducible first | exact HB.out | apply below_alloc | apply pw_below_drewN | apply below_drew1) | exact HB.out)) hb); clear HB; have HO360 := n0_; have HB := n1_; clear n0_ n1_; clear hb ho3))
 go_loopg [3, 4] k (fun kq v3 v4 w' => ∃ (x3_1 : List Int) (x4_1 : Int), v4 = .int .i64 x4_1 ∧ Aside0 (footlockerref01_Join.l0 kq l0 x3_1 x4_1 = some r) ∧ Aside0 (kq ≤ k) ∧ Aside0 (Kd.R (Kd.int .u8) 5 w' w.heap.size (fun _ => True) v3 x3_1) ∧ Aside0 (Below w.heap.size w w'))
 case atStart => exact ⟨(y358), (0), (by first | rfl | (simp; done) | (simp [*]; done)), H', ⟨Nat.le_refl _⟩, ⟨by (with_reducible repeat (first | apply Kd.R_alloc | apply Kd.R_drewN | apply Kd.R_drew)); exact HO360.out⟩, ⟨by repeat (first | (with_reducible first | exact HB.out | apply below_alloc | apply pw_below_drewN | apply below_drew1) | exact HB.out)⟩⟩
 case round =>
  clear H'
  try clear c2
  try clear p2
  obtain ⟨x3_1, x4_1, rfl, HA, HK1, HO_3, HB⟩ := hrel
  cases gk with
  | zero => exact absurd HA.out (by simp [footlockerref01_Join.l0])
  | succ k1 =>
   have H := HA.out
   clear HA
   simp only [footlockerref01_Join.l0] at H
   by_cases c4 : x4_1 < (l0.length : Int)
   ·rw [if_pos c4] at H
    have c4b0 : decide (x4_1 < (l0.length : Int)) = true := decide_eq_true c4
    clear c4
    by_cases c5 : 0 ≤ x4_1
    ·rw [if_pos c5] at H
     have c5b0 : decide (0 ≤ x4_1) = true := decide_eq_true c5
     clear c5
     by_cases c6 : x3_1.length + (rd_L2 l0 x4_1).length < 140737488355328
     ·rw [if_pos c6] at H
      have LMc6 := Aside0.mk c6
      clear c6
      obtain ⟨y362, hy362⟩ : ∃ y_ : List Int, y_ = (x3_1 ++ (rd_L2 l0 x4_1)) := ⟨_, rfl⟩
      replace H : (footlockerref01_Join.l0 k1 l0 y362 (wrap64 (x4_1 + 1))) = some r := by first | (rw [hy362]; with_reducible exact H) | (have H2_ := (Option.bind_some _ _).symm.trans H; rw [hy362]; with_reducible exact H2_) | (have H2_ := (Option.bind_some _ _).symm.trans H; with_reducible exact H2_) | with_reducible exact H | (rw [hy362]; exact H) | exact H
      have Ny362 := Aside0.mk hy362
      clear hy362
      have H' := Aside0.mk H
      clear H
      have p361 : 0 ≤ (x4_1 : Int) := of_decide_eq_true (by first | (with_reducible assumption) | assumption)
      have q361 : x4_1 < (l0.length : Int) := of_decide_eq_true (by first | (with_reducible assumption) | assumption)
      obtain ⟨ad361, A361_0, c361_0, e361, hx361_0, hl361_0, hi361_0⟩ := at_L2 HR0.out x4_1 p361 q361
      cases e361
      replace hx361_0 := (HB.out.cell (World.block_lt_of_cell? w _ hx361_0)).trans hx361_0
      have HR361_0 := Aside0.mk hi361_0
      have HC361_0 := Aside0.mk hl361_0
      clear hi361_0 hl361_0
      replace p361 := eq_true p361
      replace q361 := eq_true q361
      go_wp2_with (first | ((with_reducible refine gate_builtin (b := .append) (xs := #[.tmp 12, .tmp 16]) rfl ?_); at_builtin; refine Kd.R_append_rows (Kd.int .u8) (w0 := w) w.heap.size rfl (.tmp 12) (.tmp 16) 22 5 (.int .u8 0) 1 rfl Try.underlying22 info5 rfl (by decide) (by omega) u3 x3_1 (rd_L2 l0 x4_1) _ _ _ (fun _ => True) (fun _ => False) rfl rfl ?aO ?aR (fun _ _ h => h) (fun _ h => h.elim) ?aF ?aB ?aS ?aL ?_; (case aR => repeat (first | exact (Kd.C_below HR361_0.out HB.out) | (with_reducible refine Kd.C_alloc ?_ _) | (with_reducible refine Kd.C_drewN ?_ _) | (with_reducible refine Kd.C_drew ?_))); (case aB => exact (by repeat (first | (with_reducible first | exact HB.out | apply below_alloc | apply pw_below_drewN | apply below_drew1) | exact HB.out))); (case aF => exact (fun _ _ => trivial)); (case aO => exact (by (with_reducible repeat (first | apply Kd.R_alloc | apply Kd.R_drewN | apply Kd.R_drew)); exact HO_3.out)); (case aS => exact (below_size (by repeat (first | (with_reducible first | exact HB.out | apply below_alloc | apply pw_below_drewN | apply below_drew1) | exact HB.out)))); (case aL => have := LMc6.out; omega); intro v363 w7 ho hb hg hat; rw [← Ny362.out] at ho; have n0_ := Aside0.mk (hb); have n1_ := Aside0.mk (ho); clear HB; clear HO_3; have HB := n0_; have HO364 := n1_; clear n0_ n1_; clear ho hb hg hat))
      go_roundg k1
      case measure => have := HK1.out; omega
      case rel => exact ⟨(y362), (wrap64 (x4_1 + 1)), (by first | rfl | (simp; done) | (simp [*]; done)), H', ⟨by have := HK1.out; omega⟩, ⟨by (with_reducible repeat (first | apply Kd.R_alloc | apply Kd.R_drewN | apply Kd.R_drew)); exact HO364.out⟩, ⟨by repeat (first | (with_reducible first | exact HB.out | apply below_alloc | apply pw_below_drewN | apply below_drew1) | exact HB.out)⟩⟩
     ·rw [if_neg c6] at H
      exact absurd H (by simp)
    ·rw [if_neg c5] at H
     exact absurd H (by simp)
   ·rw [if_neg c4] at H
    have c4b0 : decide (x4_1 < (l0.length : Int)) = false := decide_eq_false c4
    clear c4
    obtain rfl := Option.some.inj H
    go_wp2
    go_ret
    exact ⟨_, by first | rfl | (simp [errW_none, errW_some] <;> rfl) | (simp [*, errW_none, errW_some] <;> rfl), by (with_reducible repeat (first | apply Kd.R_alloc | apply Kd.R_drewN | apply Kd.R_drew)); exact HO_3.out, by repeat (first | (with_reducible first | exact HB.out | apply below_alloc | apply pw_below_drewN | apply below_drew1) | exact HB.out)⟩
end Go.Proofs.Ytndljfagojnidaa.P
namespace Go.Proofs.Ytndljfagojnidaa.P
open Go.RowKit Go.Proofs.YtndljfagojnidaaW.PrintWords Go.Proofs.YtndljfagojnidaaW.PrintLast Go.Proofs.YtndljfagojnidaaW.PrintMore
attribute [local go_sem] max2_int min2_int max_two min_two max_three min_three max_four min_four
set_option linter.unusedVariables false
set_option linter.unusedSimpArgs false
mutual
def footlockerref05_search.l0 : Nat → List Int → List Bool → Int → List Int → List Int → Int → Int → Option (List Int × Bool)
 | 0, _, _, _, _, _, _, _ => none
 | k + 1, x0, x1, x2, x4, x5, x6, x17 => if x17 < (x0.length : Int) then (if 0 ≤ x17 then (if x17 < (x1.length : Int) then (if rdOf false x1 x17 = true then ((footlockerref01_Join.f k (([x4, (([(x17) % 256] : List Int))] : List (List Int)))).bind fun t378 => ((footlockerref01_Join.f k (([x5, (([rd x0 x17] : List Int))] : List (List Int)))).bind fun t388 => ((footlockerref05_search.f k x0 x1 x2 (wrap64 (x17 + 1)) t378 t388 x6).bind fun bt391 => (if bt391.2 = true then (some (bt391.1, true)) else (footlockerref05_search.l0 k x0 x1 x2 x4 x5 x6 (wrap64 (x17 + 1))))))) else (footlockerref05_search.l0 k x0 x1 x2 x4 x5 x6 (wrap64 (x17 + 1)))) else (none)) else (none)) else (some (([] : List Int), false))
def footlockerref05_search.f : Nat → List Int → List Bool → Int → Int → List Int → List Int → Int → Option (List Int × Bool)
 | 0, _, _, _, _, _, _, _ => none
 | k + 1, l0, l1, a2, a3, l4, l5, a6 => if (l4.length : Int) = a2 then ((footlockerref04_Word.f k l4 l5 (l0.length : Int)).bind fun t365 => ((footlockerref05_Wrong.f k l0 t365 l1).bind fun t368 => (some (t365, decide ((t368.length : Int) ≤ a6))))) else (footlockerref05_search.l0 k l0 l1 a2 l4 l5 a6 a3)
end
theorem footlockerref05_search.mono_l : ∀ k, (∀ y0 y1 y2 y3 y4 y5 y6, LeO (footlockerref05_search.f k y0 y1 y2 y3 y4 y5 y6) (footlockerref05_search.f (k + 1) y0 y1 y2 y3 y4 y5 y6)) ∧ (∀ y0 y1 y2 y3 y4 y5 y6, LeO (footlockerref05_search.l0 k y0 y1 y2 y3 y4 y5 y6) (footlockerref05_search.l0 (k + 1) y0 y1 y2 y3 y4 y5 y6))
 | 0 => ⟨fun _ _ _ _ _ _ _ r h => by simp [footlockerref05_search.f] at h, fun _ _ _ _ _ _ _ r h => by simp [footlockerref05_search.l0] at h⟩
 | k + 1 => by
  obtain ⟨ih0, ih1⟩ := footlockerref05_search.mono_l k
  refine ⟨?_, ?_⟩
  ·intro y0 y1 y2 y3 y4 y5 y6
   unfold footlockerref05_search.f
   repeat' first
   | (with_reducible exact ih0 _ _ _ _ _ _ _)
   | (with_reducible exact ih1 _ _ _ _ _ _ _)
   | (with_reducible exact footlockerref01_Join.mono _ _)
   | (with_reducible exact footlockerref04_Word.mono _ _ _ _)
   | (with_reducible exact footlockerref05_Wrong.mono _ _ _ _)
   | (with_reducible exact LeO.refl _)
   | (with_reducible exact LeO.none _)
   | (with_reducible refine LeO.ite ?_ ?_)
   | (with_reducible refine LeO.bind ?_ (fun _ => ?_))
   | exact ih0 _ _ _ _ _ _ _
   | exact ih1 _ _ _ _ _ _ _
   | exact footlockerref01_Join.mono _ _
   | exact footlockerref04_Word.mono _ _ _ _
   | exact footlockerref05_Wrong.mono _ _ _ _
   | exact LeO.none _
   | refine LeO.ite ?_ ?_
   | refine LeO.bind ?_ (fun _ => ?_)
  ·intro y0 y1 y2 y3 y4 y5 y6
   unfold footlockerref05_search.l0
   repeat' first
   | (with_reducible exact ih0 _ _ _ _ _ _ _)
   | (with_reducible exact ih1 _ _ _ _ _ _ _)
   | (with_reducible exact footlockerref01_Join.mono _ _)
   | (with_reducible exact footlockerref04_Word.mono _ _ _ _)
   | (with_reducible exact footlockerref05_Wrong.mono _ _ _ _)
   | (with_reducible exact LeO.refl _)
   | (with_reducible exact LeO.none _)
   | (with_reducible refine LeO.ite ?_ ?_)
   | (with_reducible refine LeO.bind ?_ (fun _ => ?_))
   | exact ih0 _ _ _ _ _ _ _
   | exact ih1 _ _ _ _ _ _ _
   | exact footlockerref01_Join.mono _ _
   | exact footlockerref04_Word.mono _ _ _ _
   | exact footlockerref05_Wrong.mono _ _ _ _
   | exact LeO.none _
   | refine LeO.ite ?_ ?_
   | refine LeO.bind ?_ (fun _ => ?_)
theorem footlockerref05_search.mono : ∀ a0 a1 a2 a3 a4 a5 a6 k, LeO (footlockerref05_search.f k a0 a1 a2 a3 a4 a5 a6) (footlockerref05_search.f (k + 1) a0 a1 a2 a3 a4 a5 a6) := by
 intro a0 a1 a2 a3 a4 a5 a6 k
 obtain ⟨ih0, ih1⟩ := footlockerref05_search.mono_l k
 exact ih0 a0 a1 a2 a3 a4 a5 a6
set_option maxHeartbeats 8000000 in
set_option maxRecDepth 100000 in
theorem footlockerref05_search.calls (k : Nat) : ∀ (A0 : Option Addr) (c0 : Nat) (l0 : List Int) (A1 : Option Addr) (c1 : Nat) (l1 : List Bool) (a2 : Int) (a3 : Int) (P4_ : Nat → Prop) (A4 : Option Addr) (c4 : Nat) (l4 : List Int) (P5_ : Nat → Prop) (A5 : Option Addr) (c5 : Nat) (l5 : List Int) (a6 : Int) (r1 : List Int) (r2 : Bool) (w : World) (hr0 : Kd.C (Kd.int .u8) w A0 l0.length l0) (hc0 : l0.length ≤ c0) (hr1 : Kd.C Kd.bool w A1 l1.length l1) (hc1 : l1.length ≤ c1) (hs4 : Kd.V (Kd.int .u8) 5 w w.heap.size (fun k_ => P4_ k_) (.slice A4 l4.length c4) l4) (hs5 : Kd.V (Kd.int .u8) 5 w w.heap.size (fun k_ => P5_ k_) (.slice A5 l5.length c5) l5) (h : footlockerref05_search.f k l0 l1 a2 a3 l4 l5 a6 = some (r1, r2)),
 Calls Try.prog 21 #[.slice A0 l0.length c0, .slice A1 l1.length c1, .int .i64 a2, .int .i64 a3, .slice A4 l4.length c4, .slice A5 l5.length c5, .int .i64 a6] w fun e w' => ∃ v0_ : Value, e = .returned (.tuple #[v0_, .bool r2]) ∧ Kd.R (Kd.int .u8) 5 w' w.heap.size (fun k_ => (w.heap.size ≤ k_)) v0_ r1 ∧ Below w.heap.size w w' := by
 induction k using Nat.strongRecOn with
 | _ k ih =>
 intro A0 c0 l0 A1 c1 l1 a2 a3 P4_ A4 c4 l4 P5_ A5 c5 l5 a6 r1 r2 w hr0 hc0 hr1 hc1 hs4 hs5 h
 cases k with
 | zero => exact absurd h (by simp [footlockerref05_search.f])
 | succ k =>
 simp only [footlockerref05_search.f] at h
 have HR0 := Aside0.mk hr0
 have HC0 := Aside0.mk hc0
 clear hr0 hc0
 have HR1 := Aside0.mk hr1
 have HC1 := Aside0.mk hc1
 clear hr1 hc1
 have HO4 := Aside0.mk (show Kd.V (Kd.int .u8) 5 w w.heap.size (fun k_ => ((P4_ k_ ∨ P5_ k_) ∨ w.heap.size ≤ k_)) (.slice A4 l4.length c4) l4 from Kd.V_mono hs4 (fun k_ hk => .inl (.inl hk)))
 have HO5 := Aside0.mk (show Kd.V (Kd.int .u8) 5 w w.heap.size (fun k_ => ((P4_ k_ ∨ P5_ k_) ∨ w.heap.size ≤ k_)) (.slice A5 l5.length c5) l5 from Kd.V_mono hs5 (fun k_ hk => .inl (.inr hk)))
 have HB := Aside0.mk (Below.refl w.heap.size w)
 have H : (if (l4.length : Int) = a2 then ((footlockerref04_Word.f k l4 l5 (l0.length : Int)).bind fun t365 => ((footlockerref05_Wrong.f k l0 t365 l1).bind fun t368 => (some (t365, decide ((t368.length : Int) ≤ a6))))) else (footlockerref05_search.l0 k l0 l1 a2 l4 l5 a6 a3)) = some (r1, r2) := h
 clear h
 by_cases c8 : (l4.length : Int) = a2
 ·rw [if_pos c8] at H
  have c8b0 : ((l4.length : Int) == a2) = true := beq_iff_eq.mpr c8
  have c8b1 : ((l4.length : Int) != a2) = false := bne_eq_false_iff_eq.mpr c8
  clear c8
  replace H := Option.bind_eq_some_iff.mp H
  obtain ⟨t365, A90, H⟩ := H
  replace H : ((footlockerref05_Wrong.f k l0 t365 l1).bind fun t368 => (some (t365, decide ((t368.length : Int) ≤ a6)))) = some (r1, r2) := H
  have A9 := Aside0.mk A90
  clear A90
  replace H := Option.bind_eq_some_iff.mp H
  obtain ⟨t368, A100, H⟩ := H
  replace H : (some (t365, decide ((t368.length : Int) ≤ a6))) = some (r1, r2) := H
  have A10 := Aside0.mk A100
  clear A100
  simp only [Option.some.injEq, Prod.mk.injEq] at H
  obtain ⟨rfl, rfl⟩ := H
  go_enter Try.func21, Try.ntmps21
  go_wp2_with (first | ((with_reducible refine gate_callee (f := 23) rfl ?_); refine goesL_ (some 30) rfl rfl Try.func23 (by kernel_rfl) rfl #[.slice A4 l4.length c4, .slice A5 l5.length c5, .int .i64 (l0.length : Int)] rfl (by (try simp only [List.map_toArray, List.map_cons, List.map_nil]); first | done | rfl | (simp only [List.length_drop, List.length_take]; rfl)) ?_; (with_reducible refine (footlockerref04_Word.calls k _ _ l4 _ _ l5 (l0.length : Int) t365 _ ?side1 ?side2 ?side3 ?side4 A9.out).mono ?_); (case side1 => repeat (first | exact (Kd.V_reads' HO4.out).2.2 | (with_reducible refine Kd.C_alloc ?_ _) | (with_reducible refine Kd.C_drewN ?_ _) | (with_reducible refine Kd.C_drew ?_))); (case side2 => exact (Kd.V_reads' HO4.out).2.1); (case side3 => repeat (first | exact (Kd.V_reads' HO5.out).2.2 | (with_reducible refine Kd.C_alloc ?_ _) | (with_reducible refine Kd.C_drewN ?_ _) | (with_reducible refine Kd.C_drew ?_))); (case side4 => exact (Kd.V_reads' HO5.out).2.1); rintro e w11 ⟨v366, rfl, ho0, hb⟩; refine ⟨_, rfl, ?_⟩; have n0_ := Aside0.mk (Kd.V_elder' (by (with_reducible repeat (first | apply Kd.V_alloc | apply Kd.V_drewN | apply Kd.V_drew)); exact HO4.out) (Kd.R_base ho0) hb); have n1_ := Aside0.mk (Kd.V_elder' (by (with_reducible repeat (first | apply Kd.V_alloc | apply Kd.V_drewN | apply Kd.V_drew)); exact HO5.out) (Kd.R_base ho0) hb); have n2_ := Aside0.mk (Kd.R_lower (Kd.R_newM (M := fun k_ => (w.heap.size ≤ k_)) ho0 (below_size (by repeat (first | (with_reducible first | exact HB.out | apply below_alloc | apply pw_below_drewN | apply below_drew1) | exact HB.out))) (fun k_ h_ => h_)) (below_size (by repeat (first | (with_reducible first | exact HB.out | apply below_alloc | apply pw_below_drewN | apply below_drew1) | exact HB.out)))); have n3_ := Aside0.mk (below_step (by repeat (first | (with_reducible first | exact HB.out | apply below_alloc | apply pw_below_drewN | apply below_drew1) | exact HB.out)) hb); clear HO4; clear HO5; clear HB; have HO4 := n0_; have HO5 := n1_; have HO367 := n2_; have HB := n3_; clear n0_ n1_ n2_ n3_; (try clear hb); (try clear hb2); (try clear hk); (try clear hi); (try clear ho0); obtain ⟨Ao12, co12, eo12⟩ := Kd.R_slice HO367.out; subst eo12) | ((with_reducible refine gate_callee (f := 15) rfl ?_); refine goesL_ (some 35) rfl rfl Try.func15 (by kernel_rfl) rfl #[.slice A0 l0.length c0, .slice Ao12 t365.length co12, .slice A1 l1.length c1] rfl (by (try simp only [List.map_toArray, List.map_cons, List.map_nil]); first | done | rfl | (simp only [List.length_drop, List.length_take]; rfl)) ?_; (with_reducible refine (footlockerref05_Wrong.calls k _ _ l0 _ _ t365 _ _ l1 t368 _ ?side1 ?side2 ?side3 ?side4 ?side5 ?side6 A10.out).mono ?_); (case side1 => repeat (first | exact (Kd.C_below HR0.out HB.out) | (with_reducible refine Kd.C_alloc ?_ _) | (with_reducible refine Kd.C_drewN ?_ _) | (with_reducible refine Kd.C_drew ?_))); (case side2 => exact HC0.out); (case side3 => repeat (first | exact (Kd.R_reads' HO367.out).2.2 | (with_reducible refine Kd.C_alloc ?_ _) | (with_reducible refine Kd.C_drewN ?_ _) | (with_reducible refine Kd.C_drew ?_))); (case side4 => exact (Kd.R_reads' HO367.out).2.1); (case side5 => repeat (first | exact (Kd.C_below HR1.out HB.out) | (with_reducible refine Kd.C_alloc ?_ _) | (with_reducible refine Kd.C_drewN ?_ _) | (with_reducible refine Kd.C_drew ?_))); (case side6 => exact HC1.out); rintro e w13 ⟨v369, rfl, ho0, hb⟩; refine ⟨_, rfl, ?_⟩; have n0_ := Aside0.mk (Kd.V_elder' (by (with_reducible repeat (first | apply Kd.V_alloc | apply Kd.V_drewN | apply Kd.V_drew)); exact HO4.out) (Kd.R_base ho0) hb); have n1_ := Aside0.mk (Kd.V_elder' (by (with_reducible repeat (first | apply Kd.V_alloc | apply Kd.V_drewN | apply Kd.V_drew)); exact HO5.out) (Kd.R_base ho0) hb); have n2_ := Aside0.mk (Kd.R_below (by (with_reducible repeat (first | apply Kd.R_alloc | apply Kd.R_drewN | apply Kd.R_drew)); exact HO367.out) hb); have n3_ := Aside0.mk (Kd.R_lower (Kd.R_newM (M := fun k_ => (w.heap.size ≤ k_)) ho0 (below_size (by repeat (first | (with_reducible first | exact HB.out | apply below_alloc | apply pw_below_drewN | apply below_drew1) | exact HB.out))) (fun k_ h_ => h_)) (below_size (by repeat (first | (with_reducible first | exact HB.out | apply below_alloc | apply pw_below_drewN | apply below_drew1) | exact HB.out)))); have n4_ := Aside0.mk (below_step (by repeat (first | (with_reducible first | exact HB.out | apply below_alloc | apply pw_below_drewN | apply below_drew1) | exact HB.out)) hb); clear HO4; clear HO5; clear HO367; clear HB; have HO4 := n0_; have HO5 := n1_; have HO367 := n2_; have HO370 := n3_; have HB := n4_; clear n0_ n1_ n2_ n3_ n4_; (try clear hb); (try clear hb2); (try clear hk); (try clear hi); (try clear ho0); obtain ⟨Ao14, co14, eo14⟩ := Kd.R_slice HO370.out; subst eo14))
  go_ret2
  exact ⟨_, by first | rfl | (simp [errW_none, errW_some] <;> rfl) | (simp [*, errW_none, errW_some] <;> rfl), by (with_reducible repeat (first | apply Kd.R_alloc | apply Kd.R_drewN | apply Kd.R_drew)); exact Kd.R_mono HO367.out (fun _ hk => hk.1), by repeat (first | (with_reducible first | exact HB.out | apply below_alloc | apply pw_below_drewN | apply below_drew1) | exact HB.out)⟩
 ·rw [if_neg c8] at H
  have c8b0 : ((l4.length : Int) == a2) = false := beq_eq_false_iff_ne.mpr c8
  have c8b1 : ((l4.length : Int) != a2) = true := bne_iff_ne.mpr c8
  have H' := Aside0.mk H
  clear H
  go_enter Try.func21, Try.ntmps21
  go_wp2
  go_loopg [17] k (fun kq v17 w' => ∃ (x17_1 : Int), v17 = .int .i64 x17_1 ∧ Aside0 (footlockerref05_search.l0 kq l0 l1 a2 l4 l5 a6 x17_1 = some (r1, r2)) ∧ Aside0 (kq ≤ k) ∧ Aside0 (Kd.V (Kd.int .u8) 5 w' w.heap.size (fun k_ => ((P4_ k_ ∨ P5_ k_) ∨ w.heap.size ≤ k_)) (.slice A4 l4.length c4) l4) ∧ Aside0 (Kd.V (Kd.int .u8) 5 w' w.heap.size (fun k_ => ((P4_ k_ ∨ P5_ k_) ∨ w.heap.size ≤ k_)) (.slice A5 l5.length c5) l5) ∧ Aside0 (Below w.heap.size w w'))
  case atStart => exact ⟨(a3), (by first | rfl | (simp; done) | (simp [*]; done)), H', ⟨Nat.le_refl _⟩, ⟨by (with_reducible repeat (first | apply Kd.V_alloc | apply Kd.V_drewN | apply Kd.V_drew)); exact HO4.out⟩, ⟨by (with_reducible repeat (first | apply Kd.V_alloc | apply Kd.V_drewN | apply Kd.V_drew)); exact HO5.out⟩, ⟨by repeat (first | (with_reducible first | exact HB.out | apply below_alloc | apply pw_below_drewN | apply below_drew1) | exact HB.out)⟩⟩
  case round =>
   clear H'
   try clear c1
   try clear c2
   try clear p2
   try clear c4
   try clear c5
   try clear c8
   try clear c8b0
   try clear c8b1
   obtain ⟨x17_1, rfl, HA, HK1, HO_4, HO_5, HB⟩ := hrel
   cases gk with
   | zero => exact absurd HA.out (by simp [footlockerref05_search.l0])
   | succ k1 =>
    have H := HA.out
    clear HA
    simp only [footlockerref05_search.l0] at H
    by_cases c15 : x17_1 < (l0.length : Int)
    ·rw [if_pos c15] at H
     have c15b0 : decide (x17_1 < (l0.length : Int)) = true := decide_eq_true c15
     clear c15
     by_cases c16 : 0 ≤ x17_1
     ·rw [if_pos c16] at H
      have c16b0 : decide (0 ≤ x17_1) = true := decide_eq_true c16
      clear c16
      by_cases c17 : x17_1 < (l1.length : Int)
      ·rw [if_pos c17] at H
       have c17b0 : decide (x17_1 < (l1.length : Int)) = true := decide_eq_true c17
       clear c17
       obtain ⟨bq18, hbq18⟩ : ∃ b_ : Bool, b_ = (rdOf false l1 x17_1) := ⟨_, rfl⟩
       replace H : (if bq18 = true then ((footlockerref01_Join.f k1 (([l4, (([(x17_1) % 256] : List Int))] : List (List Int)))).bind fun t378 => ((footlockerref01_Join.f k1 (([l5, (([rd l0 x17_1] : List Int))] : List (List Int)))).bind fun t388 => ((footlockerref05_search.f k1 l0 l1 a2 (wrap64 (x17_1 + 1)) t378 t388 a6).bind fun bt391 => (if bt391.2 = true then (some (bt391.1, true)) else (footlockerref05_search.l0 k1 l0 l1 a2 l4 l5 a6 (wrap64 (x17_1 + 1))))))) else (footlockerref05_search.l0 k1 l0 l1 a2 l4 l5 a6 (wrap64 (x17_1 + 1)))) = some (r1, r2) := by rw [← hbq18] at H; exact H
       have Nbq18 := Aside0.mk hbq18
       clear hbq18
       by_cases c19 : bq18 = true
       ·subst c19
        have H1 : ((footlockerref01_Join.f k1 (([l4, (([(x17_1) % 256] : List Int))] : List (List Int)))).bind fun t378 => ((footlockerref01_Join.f k1 (([l5, (([rd l0 x17_1] : List Int))] : List (List Int)))).bind fun t388 => ((footlockerref05_search.f k1 l0 l1 a2 (wrap64 (x17_1 + 1)) t378 t388 a6).bind fun bt391 => (if bt391.2 = true then (some (bt391.1, true)) else (footlockerref05_search.l0 k1 l0 l1 a2 l4 l5 a6 (wrap64 (x17_1 + 1))))))) = some (r1, r2) := by rw [if_pos rfl] at H; exact H
        clear H
        have H := H1
        clear H1
        obtain ⟨y372, hy372⟩ : ∃ y_ : List Int, y_ = (([(x17_1) % 256] : List Int)) := ⟨_, rfl⟩
        replace H : ((footlockerref01_Join.f k1 (([l4, y372] : List (List Int)))).bind fun t378 => ((footlockerref01_Join.f k1 (([l5, (([rd l0 x17_1] : List Int))] : List (List Int)))).bind fun t388 => ((footlockerref05_search.f k1 l0 l1 a2 (wrap64 (x17_1 + 1)) t378 t388 a6).bind fun bt391 => (if bt391.2 = true then (some (bt391.1, true)) else (footlockerref05_search.l0 k1 l0 l1 a2 l4 l5 a6 (wrap64 (x17_1 + 1))))))) = some (r1, r2) := by first | (rw [hy372]; with_reducible exact H) | (have H2_ := (Option.bind_some _ _).symm.trans H; rw [hy372]; with_reducible exact H2_) | (have H2_ := (Option.bind_some _ _).symm.trans H; with_reducible exact H2_) | with_reducible exact H | (rw [hy372]; exact H) | exact H
        have Ny372 := Aside0.mk hy372
        clear hy372
        obtain ⟨y375, hy375⟩ : ∃ y_ : List (List Int), y_ = (([l4, y372] : List (List Int))) := ⟨_, rfl⟩
        replace H : ((footlockerref01_Join.f k1 y375).bind fun t378 => ((footlockerref01_Join.f k1 (([l5, (([rd l0 x17_1] : List Int))] : List (List Int)))).bind fun t388 => ((footlockerref05_search.f k1 l0 l1 a2 (wrap64 (x17_1 + 1)) t378 t388 a6).bind fun bt391 => (if bt391.2 = true then (some (bt391.1, true)) else (footlockerref05_search.l0 k1 l0 l1 a2 l4 l5 a6 (wrap64 (x17_1 + 1))))))) = some (r1, r2) := by first | (rw [hy375]; with_reducible exact H) | (have H2_ := (Option.bind_some _ _).symm.trans H; rw [hy375]; with_reducible exact H2_) | (have H2_ := (Option.bind_some _ _).symm.trans H; with_reducible exact H2_) | with_reducible exact H | (rw [hy375]; exact H) | exact H
        have Ny375 := Aside0.mk hy375
        clear hy375
        replace H := Option.bind_eq_some_iff.mp H
        obtain ⟨t378, A200, H⟩ := H
        replace H : ((footlockerref01_Join.f k1 (([l5, (([rd l0 x17_1] : List Int))] : List (List Int)))).bind fun t388 => ((footlockerref05_search.f k1 l0 l1 a2 (wrap64 (x17_1 + 1)) t378 t388 a6).bind fun bt391 => (if bt391.2 = true then (some (bt391.1, true)) else (footlockerref05_search.l0 k1 l0 l1 a2 l4 l5 a6 (wrap64 (x17_1 + 1)))))) = some (r1, r2) := H
        have A20 := Aside0.mk A200
        clear A200
        obtain ⟨y382, hy382⟩ : ∃ y_ : List Int, y_ = (([rd l0 x17_1] : List Int)) := ⟨_, rfl⟩
        replace H : ((footlockerref01_Join.f k1 (([l5, y382] : List (List Int)))).bind fun t388 => ((footlockerref05_search.f k1 l0 l1 a2 (wrap64 (x17_1 + 1)) t378 t388 a6).bind fun bt391 => (if bt391.2 = true then (some (bt391.1, true)) else (footlockerref05_search.l0 k1 l0 l1 a2 l4 l5 a6 (wrap64 (x17_1 + 1)))))) = some (r1, r2) := by first | (rw [hy382]; with_reducible exact H) | (have H2_ := (Option.bind_some _ _).symm.trans H; rw [hy382]; with_reducible exact H2_) | (have H2_ := (Option.bind_some _ _).symm.trans H; with_reducible exact H2_) | with_reducible exact H | (rw [hy382]; exact H) | exact H
        have Ny382 := Aside0.mk hy382
        clear hy382
        obtain ⟨y385, hy385⟩ : ∃ y_ : List (List Int), y_ = (([l5, y382] : List (List Int))) := ⟨_, rfl⟩
        replace H : ((footlockerref01_Join.f k1 y385).bind fun t388 => ((footlockerref05_search.f k1 l0 l1 a2 (wrap64 (x17_1 + 1)) t378 t388 a6).bind fun bt391 => (if bt391.2 = true then (some (bt391.1, true)) else (footlockerref05_search.l0 k1 l0 l1 a2 l4 l5 a6 (wrap64 (x17_1 + 1)))))) = some (r1, r2) := by first | (rw [hy385]; with_reducible exact H) | (have H2_ := (Option.bind_some _ _).symm.trans H; rw [hy385]; with_reducible exact H2_) | (have H2_ := (Option.bind_some _ _).symm.trans H; with_reducible exact H2_) | with_reducible exact H | (rw [hy385]; exact H) | exact H
        have Ny385 := Aside0.mk hy385
        clear hy385
        replace H := Option.bind_eq_some_iff.mp H
        obtain ⟨t388, A210, H⟩ := H
        replace H : ((footlockerref05_search.f k1 l0 l1 a2 (wrap64 (x17_1 + 1)) t378 t388 a6).bind fun bt391 => (if bt391.2 = true then (some (bt391.1, true)) else (footlockerref05_search.l0 k1 l0 l1 a2 l4 l5 a6 (wrap64 (x17_1 + 1))))) = some (r1, r2) := H
        have A21 := Aside0.mk A210
        clear A210
        replace H := Option.bind_eq_some_iff.mp H
        obtain ⟨⟨t391, t394⟩, A220, H⟩ := H
        replace H : (if t394 = true then (some (t391, true)) else (footlockerref05_search.l0 k1 l0 l1 a2 l4 l5 a6 (wrap64 (x17_1 + 1)))) = some (r1, r2) := H
        have A22 := Aside0.mk A220
        clear A220
        by_cases c23 : t394 = true
        ·subst c23
         have H1 : (some (t391, true)) = some (r1, r2) := by rw [if_pos rfl] at H; exact H
         clear H
         have H := H1
         clear H1
         simp only [Option.some.injEq, Prod.mk.injEq] at H
         obtain ⟨rfl, rfl⟩ := H
         have p371 : 0 ≤ (x17_1 : Int) := of_decide_eq_true (by first | (with_reducible assumption) | assumption)
         have q371 : x17_1 < (l1.length : Int) := of_decide_eq_true (by first | (with_reducible assumption) | assumption)
         obtain ⟨ad371, e371, hx371_0⟩ := Kd.at_bool HR1.out x17_1 p371 q371
         (try rw [← Nbq18.out] at hx371_0)
         cases e371
         replace hx371_0 := (HB.out.cell (World.block_lt_of_cell? w _ hx371_0)).trans hx371_0
         replace p371 := eq_true p371
         replace q371 := eq_true q371
         go_wp2_with (first | ((with_reducible refine gate_dst (N := 54) rfl ?_); refine Kd.R_lit (Kd.int .u8) _ 5 ?hg (N := 54) ?hd (xs := ([(x17_1) % 256] : List Int)) (inner := [.int .u8 ((x17_1) % 256)]) (ok := fun _ => True) (okp := fun _ => True) ?hr ?hp (fun _ hk => hk) trivial (Below.refl _ _) (Nat.le_refl _) (by simp) ?_; (case hd => rfl); (case hg => rfl); (case hr => first | (go_simp; done) | (go_simp; rfl)); (case hp => exact (Reps.one (show Kd.M (Kd.int .u8) _ _ _ ((x17_1) % 256) [.int .u8 ((x17_1) % 256)] from rfl) (Reps.none _ _))); intro v373 w24 ho25 hb hg_ hnew_; clear hg_ hnew_; (first | rw [← Ny372.out] at ho25 | (simp only [Int.reduceToNat] at ho25; rw [← Ny372.out] at ho25)); have n0_ := Aside0.mk (Kd.V_elder' (by (with_reducible repeat (first | apply Kd.V_alloc | apply Kd.V_drewN | apply Kd.V_drew)); exact HO_4.out) (Kd.R_base ho25) hb); have n1_ := Aside0.mk (Kd.V_elder' (by (with_reducible repeat (first | apply Kd.V_alloc | apply Kd.V_drewN | apply Kd.V_drew)); exact HO_5.out) (Kd.R_base ho25) hb); have n2_ := Aside0.mk (Kd.R_lower (Kd.R_newM (M := fun k_ => (w.heap.size ≤ k_)) ho25 (below_size (by repeat (first | (with_reducible first | exact HB.out | apply below_alloc | apply pw_below_drewN | apply below_drew1) | exact HB.out))) (fun k_ h_ => h_)) (below_size (by repeat (first | (with_reducible first | exact HB.out | apply below_alloc | apply pw_below_drewN | apply below_drew1) | exact HB.out)))); have n3_ := Aside0.mk (below_step (by repeat (first | (with_reducible first | exact HB.out | apply below_alloc | apply pw_below_drewN | apply below_drew1) | exact HB.out)) hb); clear HO_4; clear HO_5; clear HB; have HO_4 := n0_; have HO_5 := n1_; have HO374 := n2_; have HB := n3_; clear n0_ n1_ n2_ n3_; clear hb ho25; obtain ⟨Ao26, co26, eo26⟩ := Kd.R_slice HO374.out; subst eo26) | ((with_reducible refine gate_dst (N := 55) rfl ?_); refine Kd.N_lit (Kd.slice 5 (Kd.int .u8)) _ 22 ?hg (N' := 55) ?hd (xs := ([l4, y372] : List (List Int))) (inner := [.slice A4 l4.length c4, .slice Ao26 y372.length co26]) (ok := (fun k_ => ((P4_ k_ ∨ P5_ k_) ∨ w.heap.size ≤ k_))) (okp := (fun k_ => ((P4_ k_ ∨ P5_ k_) ∨ w.heap.size ≤ k_))) ?hr ?hp (fun _ hk => hk) ((show ∀ k_, w24.heap.size ≤ k_ → (fun k_ => ((P4_ k_ ∨ P5_ k_) ∨ w.heap.size ≤ k_)) k_ from fun k_ hk => (.inr (Nat.le_trans (below_size (by repeat (first | (with_reducible first | exact HB.out | apply below_alloc | apply pw_below_drewN | apply below_drew1) | exact HB.out))) hk))) _ (Nat.le_refl _)) (Below.refl _ _) (Nat.le_refl _) (by simp) ?_; (case hd => rfl); (case hg => rfl); (case hr => first | (go_simp; done) | (go_simp; rfl)); (case hp => exact (Reps.one (show Kd.FK (Kd.slice 5 (Kd.int .u8)) _ _ l4 [.slice A4 l4.length c4] from (Kd.FK_slice_mk (Kd.V_reads' (Kd.V_mono (ok' := (fun k_ => ((P4_ k_ ∨ P5_ k_) ∨ w.heap.size ≤ k_))) (HO_4.out) (fun k_ hk => hk.1))).2.1 (Kd.V_F (Kd.V_mono (ok' := (fun k_ => ((P4_ k_ ∨ P5_ k_) ∨ w.heap.size ≤ k_))) (HO_4.out) (fun k_ hk => hk.1))))) (Reps.one (show Kd.FK (Kd.slice 5 (Kd.int .u8)) _ _ y372 [.slice Ao26 y372.length co26] from (Kd.FK_slice_mk (Kd.R_reads' (Kd.R_mono (ok' := (fun k_ => ((P4_ k_ ∨ P5_ k_) ∨ w.heap.size ≤ k_))) (HO374.out) (fun k_ hk => (.inr (hk.1))))).2.1 (Kd.R_F (Kd.R_mono (ok' := (fun k_ => ((P4_ k_ ∨ P5_ k_) ∨ w.heap.size ≤ k_))) (HO374.out) (fun k_ hk => (.inr (hk.1))))))) (Reps.none _ _)))); intro v376 w27 ho28 hb hg_ hnew_; clear hg_ hnew_; (first | rw [← Ny375.out] at ho28 | (simp only [Int.reduceToNat] at ho28; rw [← Ny375.out] at ho28)); have n0_ := Aside0.mk (Kd.V_elder' (by (with_reducible repeat (first | apply Kd.V_alloc | apply Kd.V_drewN | apply Kd.V_drew)); exact HO_4.out) (by first | exact Kd.N_base ho28 | exact Kd.S_base ho28) hb); have n1_ := Aside0.mk (Kd.V_elder' (by (with_reducible repeat (first | apply Kd.V_alloc | apply Kd.V_drewN | apply Kd.V_drew)); exact HO_5.out) (by first | exact Kd.N_base ho28 | exact Kd.S_base ho28) hb); have n2_ := Aside0.mk (Kd.N_lower ho28 (below_size (by repeat (first | (with_reducible first | exact HB.out | apply below_alloc | apply pw_below_drewN | apply below_drew1) | exact HB.out)))); have n3_ := Aside0.mk (below_step (by repeat (first | (with_reducible first | exact HB.out | apply below_alloc | apply pw_below_drewN | apply below_drew1) | exact HB.out)) hb); clear HO_4; clear HO_5; clear HB; clear HO374; have HO_4 := n0_; have HO_5 := n1_; have HO377 := n2_; have HB := n3_; clear n0_ n1_ n2_ n3_; clear hb ho28; obtain ⟨Ao29, co29, eo29⟩ := Kd.N_slice HO377.out; subst eo29) | ((with_reducible refine gate_callee (f := 28) rfl ?_); refine goesL_ (some 56) rfl rfl Try.func28 (by kernel_rfl) rfl #[.slice Ao29 y375.length co29] rfl (by (try simp only [List.map_toArray, List.map_cons, List.map_nil]); first | done | rfl | (simp only [List.length_drop, List.length_take]; rfl)) ?_; (with_reducible refine (footlockerref01_Join.calls k1 _ _ y375 t378 _ ?side1 ?side2 A20.out).mono ?_); (case side1 => repeat (first | exact (Kd.N_reads' HO377.out).2.2 | (with_reducible refine Kd.C_alloc ?_ _) | (with_reducible refine Kd.C_drewN ?_ _) | (with_reducible refine Kd.C_drew ?_))); (case side2 => exact (Kd.N_reads' HO377.out).2.1); rintro e w30 ⟨v379, rfl, ho0, hb⟩; refine ⟨_, rfl, ?_⟩; have n0_ := Aside0.mk (Kd.V_elder' (by (with_reducible repeat (first | apply Kd.V_alloc | apply Kd.V_drewN | apply Kd.V_drew)); exact HO_4.out) (Kd.R_base ho0) hb); have n1_ := Aside0.mk (Kd.V_elder' (by (with_reducible repeat (first | apply Kd.V_alloc | apply Kd.V_drewN | apply Kd.V_drew)); exact HO_5.out) (Kd.R_base ho0) hb); have n2_ := Aside0.mk (Kd.N_elder' (by (with_reducible repeat (first | apply Kd.N_alloc | apply Kd.N_drewN | apply Kd.N_drew)); exact HO377.out) (Kd.R_base ho0) hb); have n3_ := Aside0.mk (Kd.R_lower (Kd.R_newM (M := fun k_ => (w.heap.size ≤ k_)) ho0 (below_size (by repeat (first | (with_reducible first | exact HB.out | apply below_alloc | apply pw_below_drewN | apply below_drew1) | exact HB.out))) (fun k_ h_ => h_)) (below_size (by repeat (first | (with_reducible first | exact HB.out | apply below_alloc | apply pw_below_drewN | apply below_drew1) | exact HB.out)))); have n4_ := Aside0.mk (below_step (by repeat (first | (with_reducible first | exact HB.out | apply below_alloc | apply pw_below_drewN | apply below_drew1) | exact HB.out)) hb); clear HO_4; clear HO_5; clear HO377; clear HB; have HO_4 := n0_; have HO_5 := n1_; have HO377 := n2_; have HO380 := n3_; have HB := n4_; clear n0_ n1_ n2_ n3_ n4_; (try clear hb); (try clear hb2); (try clear hk); (try clear hi); (try clear ho0); have p381 : 0 ≤ (x17_1 : Int) := of_decide_eq_true (by first | (with_reducible assumption) | assumption); have q381 : x17_1 < (l0.length : Int) := of_decide_eq_true (by first | (with_reducible assumption) | assumption); obtain ⟨ad381, e381, hx381_0⟩ := Kd.at_int HR0.out x17_1 p381 q381; cases e381; replace hx381_0 := (HB.out.cell (World.block_lt_of_cell? w _ hx381_0)).trans hx381_0; replace p381 := eq_true p381; replace q381 := eq_true q381) | ((with_reducible refine gate_dst (N := 62) rfl ?_); refine Kd.R_lit (Kd.int .u8) _ 5 ?hg (N := 62) ?hd (xs := ([rd l0 x17_1] : List Int)) (inner := [.int .u8 (rd l0 x17_1)]) (ok := fun _ => True) (okp := fun _ => True) ?hr ?hp (fun _ hk => hk) trivial (Below.refl _ _) (Nat.le_refl _) (by simp) ?_; (case hd => rfl); (case hg => rfl); (case hr => first | (go_simp; done) | (go_simp; rfl)); (case hp => exact (Reps.one (show Kd.M (Kd.int .u8) _ _ _ (rd l0 x17_1) [.int .u8 (rd l0 x17_1)] from rfl) (Reps.none _ _))); intro v383 w31 ho32 hb hg_ hnew_; clear hg_ hnew_; (first | rw [← Ny382.out] at ho32 | (simp only [Int.reduceToNat] at ho32; rw [← Ny382.out] at ho32)); have n0_ := Aside0.mk (Kd.V_elder' (by (with_reducible repeat (first | apply Kd.V_alloc | apply Kd.V_drewN | apply Kd.V_drew)); exact HO_4.out) (Kd.R_base ho32) hb); have n1_ := Aside0.mk (Kd.V_elder' (by (with_reducible repeat (first | apply Kd.V_alloc | apply Kd.V_drewN | apply Kd.V_drew)); exact HO_5.out) (Kd.R_base ho32) hb); have n2_ := Aside0.mk (Kd.N_elder' (by (with_reducible repeat (first | apply Kd.N_alloc | apply Kd.N_drewN | apply Kd.N_drew)); exact HO377.out) (Kd.R_base ho32) hb); have n3_ := Aside0.mk (Kd.R_elder' (by (with_reducible repeat (first | apply Kd.R_alloc | apply Kd.R_drewN | apply Kd.R_drew)); exact HO380.out) (Kd.R_base ho32) hb); have n4_ := Aside0.mk (Kd.R_lower (Kd.R_new' (Kd.R_newM (M := fun k_ => (w.heap.size ≤ k_)) ho32 (below_size (by repeat (first | (with_reducible first | exact HB.out | apply below_alloc | apply pw_below_drewN | apply below_drew1) | exact HB.out))) (fun k_ h_ => h_)) (Kd.R_lt (by (with_reducible repeat (first | apply Kd.R_alloc | apply Kd.R_drewN | apply Kd.R_drew)); exact HO380.out))) (below_size (by repeat (first | (with_reducible first | exact HB.out | apply below_alloc | apply pw_below_drewN | apply below_drew1) | exact HB.out)))); have n5_ := Aside0.mk (below_step (by repeat (first | (with_reducible first | exact HB.out | apply below_alloc | apply pw_below_drewN | apply below_drew1) | exact HB.out)) hb); clear HO_4; clear HO_5; clear HO377; clear HO380; clear HB; have HO_4 := n0_; have HO_5 := n1_; have HO377 := n2_; have HO380 := n3_; have HO384 := n4_; have HB := n5_; clear n0_ n1_ n2_ n3_ n4_ n5_; clear hb ho32; obtain ⟨Ao33, co33, eo33⟩ := Kd.R_slice HO384.out; subst eo33) | ((with_reducible refine gate_dst (N := 63) rfl ?_); refine Kd.N_lit (Kd.slice 5 (Kd.int .u8)) _ 22 ?hg (N' := 63) ?hd (xs := ([l5, y382] : List (List Int))) (inner := [.slice A5 l5.length c5, .slice Ao33 y382.length co33]) (ok := (fun k_ => ((P4_ k_ ∨ P5_ k_) ∨ w.heap.size ≤ k_) ∧ some k_ ≠ (.slice Ao29 y375.length co29 : Value).ownBlock ∧ some k_ ≠ (v379 : Value).ownBlock)) (okp := (fun k_ => ((P4_ k_ ∨ P5_ k_) ∨ w.heap.size ≤ k_) ∧ some k_ ≠ (.slice Ao29 y375.length co29 : Value).ownBlock ∧ some k_ ≠ (v379 : Value).ownBlock)) ?hr ?hp (fun _ hk => hk) ((show ∀ k_, w31.heap.size ≤ k_ → (fun k_ => ((P4_ k_ ∨ P5_ k_) ∨ w.heap.size ≤ k_) ∧ some k_ ≠ (.slice Ao29 y375.length co29 : Value).ownBlock ∧ some k_ ≠ (v379 : Value).ownBlock) k_ from fun k_ hk => ⟨(.inr (Nat.le_trans (below_size (by repeat (first | (with_reducible first | exact HB.out | apply below_alloc | apply pw_below_drewN | apply below_drew1) | exact HB.out))) hk)), Kd.fresh' (Kd.N_lt (by (with_reducible repeat (first | apply Kd.N_alloc | apply Kd.N_drewN | apply Kd.N_drew)); exact HO377.out)) k_ hk, Kd.fresh' (Kd.R_lt (by (with_reducible repeat (first | apply Kd.R_alloc | apply Kd.R_drewN | apply Kd.R_drew)); exact HO380.out)) k_ hk⟩) _ (Nat.le_refl _)) (Below.refl _ _) (Nat.le_refl _) (by simp) ?_; (case hd => rfl); (case hg => rfl); (case hr => first | (go_simp; done) | (go_simp; rfl)); (case hp => exact (Reps.one (show Kd.FK (Kd.slice 5 (Kd.int .u8)) _ _ l5 [.slice A5 l5.length c5] from (Kd.FK_slice_mk (Kd.V_reads' (Kd.V_mono (ok' := (fun k_ => ((P4_ k_ ∨ P5_ k_) ∨ w.heap.size ≤ k_) ∧ some k_ ≠ (.slice Ao29 y375.length co29 : Value).ownBlock ∧ some k_ ≠ (v379 : Value).ownBlock)) (HO_5.out) (fun k_ hk => ⟨hk.1.1.1.1, ⟨hk.1.1.2, hk.1.2⟩⟩))).2.1 (Kd.V_F (Kd.V_mono (ok' := (fun k_ => ((P4_ k_ ∨ P5_ k_) ∨ w.heap.size ≤ k_) ∧ some k_ ≠ (.slice Ao29 y375.length co29 : Value).ownBlock ∧ some k_ ≠ (v379 : Value).ownBlock)) (HO_5.out) (fun k_ hk => ⟨hk.1.1.1.1, ⟨hk.1.1.2, hk.1.2⟩⟩))))) (Reps.one (show Kd.FK (Kd.slice 5 (Kd.int .u8)) _ _ y382 [.slice Ao33 y382.length co33] from (Kd.FK_slice_mk (Kd.R_reads' (Kd.R_mono (ok' := (fun k_ => ((P4_ k_ ∨ P5_ k_) ∨ w.heap.size ≤ k_) ∧ some k_ ≠ (.slice Ao29 y375.length co29 : Value).ownBlock ∧ some k_ ≠ (v379 : Value).ownBlock)) (Kd.R_apart' (HO384.out) (Kd.N_typed HO377.out) (by decide)) (fun k_ hk => ⟨(.inr (hk.1.1.1)), ⟨hk.2, hk.1.2⟩⟩))).2.1 (Kd.R_F (Kd.R_mono (ok' := (fun k_ => ((P4_ k_ ∨ P5_ k_) ∨ w.heap.size ≤ k_) ∧ some k_ ≠ (.slice Ao29 y375.length co29 : Value).ownBlock ∧ some k_ ≠ (v379 : Value).ownBlock)) (Kd.R_apart' (HO384.out) (Kd.N_typed HO377.out) (by decide)) (fun k_ hk => ⟨(.inr (hk.1.1.1)), ⟨hk.2, hk.1.2⟩⟩))))) (Reps.none _ _)))); intro v386 w34 ho35 hb hg_ hnew_; clear hg_ hnew_; (first | rw [← Ny385.out] at ho35 | (simp only [Int.reduceToNat] at ho35; rw [← Ny385.out] at ho35)); have n0_ := Aside0.mk (Kd.V_elder' (by (with_reducible repeat (first | apply Kd.V_alloc | apply Kd.V_drewN | apply Kd.V_drew)); exact HO_4.out) (by first | exact Kd.N_base ho35 | exact Kd.S_base ho35) hb); have n1_ := Aside0.mk (Kd.V_elder' (by (with_reducible repeat (first | apply Kd.V_alloc | apply Kd.V_drewN | apply Kd.V_drew)); exact HO_5.out) (by first | exact Kd.N_base ho35 | exact Kd.S_base ho35) hb); have n2_ := Aside0.mk (Kd.N_elder' (by (with_reducible repeat (first | apply Kd.N_alloc | apply Kd.N_drewN | apply Kd.N_drew)); exact HO377.out) (by first | exact Kd.N_base ho35 | exact Kd.S_base ho35) hb); have n3_ := Aside0.mk (Kd.R_below (by (with_reducible repeat (first | apply Kd.R_alloc | apply Kd.R_drewN | apply Kd.R_drew)); exact HO380.out) hb); have n4_ := Aside0.mk (Kd.N_lower ho35 (below_size (by repeat (first | (with_reducible first | exact HB.out | apply below_alloc | apply pw_below_drewN | apply below_drew1) | exact HB.out)))); have n5_ := Aside0.mk (below_step (by repeat (first | (with_reducible first | exact HB.out | apply below_alloc | apply pw_below_drewN | apply below_drew1) | exact HB.out)) hb); clear HO_4; clear HO_5; clear HO377; clear HO380; clear HB; clear HO384; have HO_4 := n0_; have HO_5 := n1_; have HO377 := n2_; have HO380 := n3_; have HO387 := n4_; have HB := n5_; clear n0_ n1_ n2_ n3_ n4_ n5_; clear hb ho35; obtain ⟨Ao36, co36, eo36⟩ := Kd.N_slice HO387.out; subst eo36) | ((with_reducible refine gate_callee (f := 28) rfl ?_); refine goesL_ (some 64) rfl rfl Try.func28 (by kernel_rfl) rfl #[.slice Ao36 y385.length co36] rfl (by (try simp only [List.map_toArray, List.map_cons, List.map_nil]); first | done | rfl | (simp only [List.length_drop, List.length_take]; rfl)) ?_; (with_reducible refine (footlockerref01_Join.calls k1 _ _ y385 t388 _ ?side1 ?side2 A21.out).mono ?_); (case side1 => repeat (first | exact (Kd.N_reads' HO387.out).2.2 | (with_reducible refine Kd.C_alloc ?_ _) | (with_reducible refine Kd.C_drewN ?_ _) | (with_reducible refine Kd.C_drew ?_))); (case side2 => exact (Kd.N_reads' HO387.out).2.1); rintro e w37 ⟨v389, rfl, ho0, hb⟩; refine ⟨_, rfl, ?_⟩; have n0_ := Aside0.mk (Kd.V_elder' (by (with_reducible repeat (first | apply Kd.V_alloc | apply Kd.V_drewN | apply Kd.V_drew)); exact HO_4.out) (Kd.R_base ho0) hb); have n1_ := Aside0.mk (Kd.V_elder' (by (with_reducible repeat (first | apply Kd.V_alloc | apply Kd.V_drewN | apply Kd.V_drew)); exact HO_5.out) (Kd.R_base ho0) hb); have n2_ := Aside0.mk (Kd.N_elder' (by (with_reducible repeat (first | apply Kd.N_alloc | apply Kd.N_drewN | apply Kd.N_drew)); exact HO377.out) (Kd.R_base ho0) hb); have n3_ := Aside0.mk (Kd.R_elder' (by (with_reducible repeat (first | apply Kd.R_alloc | apply Kd.R_drewN | apply Kd.R_drew)); exact HO380.out) (Kd.R_base ho0) hb); have n4_ := Aside0.mk (Kd.N_elder' (by (with_reducible repeat (first | apply Kd.N_alloc | apply Kd.N_drewN | apply Kd.N_drew)); exact HO387.out) (Kd.R_base ho0) hb); have n5_ := Aside0.mk (Kd.R_lower (Kd.R_new' (Kd.R_newM (M := fun k_ => (w.heap.size ≤ k_)) ho0 (below_size (by repeat (first | (with_reducible first | exact HB.out | apply below_alloc | apply pw_below_drewN | apply below_drew1) | exact HB.out))) (fun k_ h_ => h_)) (Kd.R_lt (by (with_reducible repeat (first | apply Kd.R_alloc | apply Kd.R_drewN | apply Kd.R_drew)); exact HO380.out))) (below_size (by repeat (first | (with_reducible first | exact HB.out | apply below_alloc | apply pw_below_drewN | apply below_drew1) | exact HB.out)))); have n6_ := Aside0.mk (below_step (by repeat (first | (with_reducible first | exact HB.out | apply below_alloc | apply pw_below_drewN | apply below_drew1) | exact HB.out)) hb); clear HO_4; clear HO_5; clear HO377; clear HO380; clear HO387; clear HB; have HO_4 := n0_; have HO_5 := n1_; have HO377 := n2_; have HO380 := n3_; have HO387 := n4_; have HO390 := n5_; have HB := n6_; clear n0_ n1_ n2_ n3_ n4_ n5_ n6_; (try clear hb); (try clear hb2); (try clear hk); (try clear hi); (try clear ho0); obtain ⟨Ao38, co38, eo38⟩ := Kd.R_slice HO380.out; subst eo38; obtain ⟨Ao39, co39, eo39⟩ := Kd.R_slice HO390.out; subst eo39) | ((with_reducible refine gate_callee (f := 21) rfl ?_); refine goesL_ (some 74) rfl rfl Try.func21 (by kernel_rfl) rfl #[.slice (some ad381) l0.length c0, .slice (some ad371) l1.length c1, .int .i64 a2, .int .i64 (wrap64 (x17_1 + 1)), .slice Ao38 t378.length co38, .slice Ao39 t388.length co39, .int .i64 a6] rfl (by (try simp only [List.map_toArray, List.map_cons, List.map_nil]); first | done | rfl | (simp only [List.length_drop, List.length_take]; rfl)) ?_; (with_reducible refine (ih k1 (by have := HK1.out; omega) _ _ l0 _ _ l1 a2 (wrap64 (x17_1 + 1)) (fun k_ => some k_ = (.slice Ao38 t378.length co38 : Value).ownBlock) _ _ t378 (fun k_ => some k_ = (.slice Ao39 t388.length co39 : Value).ownBlock) _ _ t388 a6 t391 true _ ?side1 ?side2 ?side3 ?side4 ?side5 ?side6 A22.out).mono ?_); (case side1 => repeat (first | exact (Kd.C_below HR0.out HB.out) | (with_reducible refine Kd.C_alloc ?_ _) | (with_reducible refine Kd.C_drewN ?_ _) | (with_reducible refine Kd.C_drew ?_))); (case side2 => exact HC0.out); (case side3 => repeat (first | exact (Kd.C_below HR1.out HB.out) | (with_reducible refine Kd.C_alloc ?_ _) | (with_reducible refine Kd.C_drewN ?_ _) | (with_reducible refine Kd.C_drew ?_))); (case side4 => exact HC1.out); (case side5 => exact Kd.R_V (Kd.R_tight rfl (Kd.R_apart' (Kd.R_apart' (HO380.out) (Kd.N_typed HO377.out) (by decide)) (Kd.N_typed HO387.out) (by decide)))); (case side6 => exact Kd.R_V (Kd.R_tight rfl (Kd.R_apart' (Kd.R_apart' (HO390.out) (Kd.N_typed HO377.out) (by decide)) (Kd.N_typed HO387.out) (by decide)))); rintro e w40 ⟨v392, rfl, ho0, hb⟩; refine ⟨_, rfl, ?_⟩; have n0_ := Aside0.mk (Kd.V_elder' (by (with_reducible repeat (first | apply Kd.V_alloc | apply Kd.V_drewN | apply Kd.V_drew)); exact HO_4.out) (Kd.R_base ho0) hb); have n1_ := Aside0.mk (Kd.V_elder' (by (with_reducible repeat (first | apply Kd.V_alloc | apply Kd.V_drewN | apply Kd.V_drew)); exact HO_5.out) (Kd.R_base ho0) hb); have n2_ := Aside0.mk (Kd.N_elder' (by (with_reducible repeat (first | apply Kd.N_alloc | apply Kd.N_drewN | apply Kd.N_drew)); exact HO377.out) (Kd.R_base ho0) hb); have n3_ := Aside0.mk (Kd.R_elder' (by (with_reducible repeat (first | apply Kd.R_alloc | apply Kd.R_drewN | apply Kd.R_drew)); exact HO380.out) (Kd.R_base ho0) hb); have n4_ := Aside0.mk (Kd.N_elder' (by (with_reducible repeat (first | apply Kd.N_alloc | apply Kd.N_drewN | apply Kd.N_drew)); exact HO387.out) (Kd.R_base ho0) hb); have n5_ := Aside0.mk (Kd.R_elder' (by (with_reducible repeat (first | apply Kd.R_alloc | apply Kd.R_drewN | apply Kd.R_drew)); exact HO390.out) (Kd.R_base ho0) hb); have n6_ := Aside0.mk (Kd.R_lower (Kd.R_new' (Kd.R_new' (Kd.R_newM (M := fun k_ => (w.heap.size ≤ k_)) (Kd.R_mono (ok' := fun k_ => True) ho0 (fun _ hk_ => trivial)) (below_size (by repeat (first | (with_reducible first | exact HB.out | apply below_alloc | apply pw_below_drewN | apply below_drew1) | exact HB.out))) (fun k_ h_ => h_)) (Kd.R_lt (by (with_reducible repeat (first | apply Kd.R_alloc | apply Kd.R_drewN | apply Kd.R_drew)); exact HO380.out))) (Kd.R_lt (by (with_reducible repeat (first | apply Kd.R_alloc | apply Kd.R_drewN | apply Kd.R_drew)); exact HO390.out))) (below_size (by repeat (first | (with_reducible first | exact HB.out | apply below_alloc | apply pw_below_drewN | apply below_drew1) | exact HB.out)))); have n7_ := Aside0.mk (below_step (by repeat (first | (with_reducible first | exact HB.out | apply below_alloc | apply pw_below_drewN | apply below_drew1) | exact HB.out)) hb); clear HO_4; clear HO_5; clear HO377; clear HO380; clear HO387; clear HO390; clear HB; have HO_4 := n0_; have HO_5 := n1_; have HO377 := n2_; have HO380 := n3_; have HO387 := n4_; have HO390 := n5_; have HO393 := n6_; have HB := n7_; clear n0_ n1_ n2_ n3_ n4_ n5_ n6_ n7_; (try clear hb); (try clear hb2); (try clear hk); (try clear hi); (try clear ho0)))
         go_ret2
         exact ⟨_, by first | rfl | (simp [errW_none, errW_some] <;> rfl) | (simp [*, errW_none, errW_some] <;> rfl), by (with_reducible repeat (first | apply Kd.R_alloc | apply Kd.R_drewN | apply Kd.R_drew)); exact Kd.R_mono HO393.out (fun _ hk => hk.1.1.1), by repeat (first | (with_reducible first | exact HB.out | apply below_alloc | apply pw_below_drewN | apply below_drew1) | exact HB.out)⟩
        ·replace c23 := Bool.eq_false_iff.mpr c23
         subst c23
         have H1 : (footlockerref05_search.l0 k1 l0 l1 a2 l4 l5 a6 (wrap64 (x17_1 + 1))) = some (r1, r2) := by rw [if_neg (show ¬ (false = true) by decide)] at H; exact H
         clear H
         have H := H1
         clear H1
         have H' := Aside0.mk H
         clear H
         have p371 : 0 ≤ (x17_1 : Int) := of_decide_eq_true (by first | (with_reducible assumption) | assumption)
         have q371 : x17_1 < (l1.length : Int) := of_decide_eq_true (by first | (with_reducible assumption) | assumption)
         obtain ⟨ad371, e371, hx371_0⟩ := Kd.at_bool HR1.out x17_1 p371 q371
         (try rw [← Nbq18.out] at hx371_0)
         cases e371
         replace hx371_0 := (HB.out.cell (World.block_lt_of_cell? w _ hx371_0)).trans hx371_0
         replace p371 := eq_true p371
         replace q371 := eq_true q371
         go_wp2_with (first | ((with_reducible refine gate_dst (N := 54) rfl ?_); refine Kd.R_lit (Kd.int .u8) _ 5 ?hg (N := 54) ?hd (xs := ([(x17_1) % 256] : List Int)) (inner := [.int .u8 ((x17_1) % 256)]) (ok := fun _ => True) (okp := fun _ => True) ?hr ?hp (fun _ hk => hk) trivial (Below.refl _ _) (Nat.le_refl _) (by simp) ?_; (case hd => rfl); (case hg => rfl); (case hr => first | (go_simp; done) | (go_simp; rfl)); (case hp => exact (Reps.one (show Kd.M (Kd.int .u8) _ _ _ ((x17_1) % 256) [.int .u8 ((x17_1) % 256)] from rfl) (Reps.none _ _))); intro v373 w41 ho42 hb hg_ hnew_; clear hg_ hnew_; (first | rw [← Ny372.out] at ho42 | (simp only [Int.reduceToNat] at ho42; rw [← Ny372.out] at ho42)); have n0_ := Aside0.mk (Kd.V_elder' (by (with_reducible repeat (first | apply Kd.V_alloc | apply Kd.V_drewN | apply Kd.V_drew)); exact HO_4.out) (Kd.R_base ho42) hb); have n1_ := Aside0.mk (Kd.V_elder' (by (with_reducible repeat (first | apply Kd.V_alloc | apply Kd.V_drewN | apply Kd.V_drew)); exact HO_5.out) (Kd.R_base ho42) hb); have n2_ := Aside0.mk (Kd.R_lower (Kd.R_newM (M := fun k_ => (w.heap.size ≤ k_)) ho42 (below_size (by repeat (first | (with_reducible first | exact HB.out | apply below_alloc | apply pw_below_drewN | apply below_drew1) | exact HB.out))) (fun k_ h_ => h_)) (below_size (by repeat (first | (with_reducible first | exact HB.out | apply below_alloc | apply pw_below_drewN | apply below_drew1) | exact HB.out)))); have n3_ := Aside0.mk (below_step (by repeat (first | (with_reducible first | exact HB.out | apply below_alloc | apply pw_below_drewN | apply below_drew1) | exact HB.out)) hb); clear HO_4; clear HO_5; clear HB; have HO_4 := n0_; have HO_5 := n1_; have HO374 := n2_; have HB := n3_; clear n0_ n1_ n2_ n3_; clear hb ho42; obtain ⟨Ao43, co43, eo43⟩ := Kd.R_slice HO374.out; subst eo43) | ((with_reducible refine gate_dst (N := 55) rfl ?_); refine Kd.N_lit (Kd.slice 5 (Kd.int .u8)) _ 22 ?hg (N' := 55) ?hd (xs := ([l4, y372] : List (List Int))) (inner := [.slice A4 l4.length c4, .slice Ao43 y372.length co43]) (ok := (fun k_ => ((P4_ k_ ∨ P5_ k_) ∨ w.heap.size ≤ k_))) (okp := (fun k_ => ((P4_ k_ ∨ P5_ k_) ∨ w.heap.size ≤ k_))) ?hr ?hp (fun _ hk => hk) ((show ∀ k_, w41.heap.size ≤ k_ → (fun k_ => ((P4_ k_ ∨ P5_ k_) ∨ w.heap.size ≤ k_)) k_ from fun k_ hk => (.inr (Nat.le_trans (below_size (by repeat (first | (with_reducible first | exact HB.out | apply below_alloc | apply pw_below_drewN | apply below_drew1) | exact HB.out))) hk))) _ (Nat.le_refl _)) (Below.refl _ _) (Nat.le_refl _) (by simp) ?_; (case hd => rfl); (case hg => rfl); (case hr => first | (go_simp; done) | (go_simp; rfl)); (case hp => exact (Reps.one (show Kd.FK (Kd.slice 5 (Kd.int .u8)) _ _ l4 [.slice A4 l4.length c4] from (Kd.FK_slice_mk (Kd.V_reads' (Kd.V_mono (ok' := (fun k_ => ((P4_ k_ ∨ P5_ k_) ∨ w.heap.size ≤ k_))) (HO_4.out) (fun k_ hk => hk.1))).2.1 (Kd.V_F (Kd.V_mono (ok' := (fun k_ => ((P4_ k_ ∨ P5_ k_) ∨ w.heap.size ≤ k_))) (HO_4.out) (fun k_ hk => hk.1))))) (Reps.one (show Kd.FK (Kd.slice 5 (Kd.int .u8)) _ _ y372 [.slice Ao43 y372.length co43] from (Kd.FK_slice_mk (Kd.R_reads' (Kd.R_mono (ok' := (fun k_ => ((P4_ k_ ∨ P5_ k_) ∨ w.heap.size ≤ k_))) (HO374.out) (fun k_ hk => (.inr (hk.1))))).2.1 (Kd.R_F (Kd.R_mono (ok' := (fun k_ => ((P4_ k_ ∨ P5_ k_) ∨ w.heap.size ≤ k_))) (HO374.out) (fun k_ hk => (.inr (hk.1))))))) (Reps.none _ _)))); intro v376 w44 ho45 hb hg_ hnew_; clear hg_ hnew_; (first | rw [← Ny375.out] at ho45 | (simp only [Int.reduceToNat] at ho45; rw [← Ny375.out] at ho45)); have n0_ := Aside0.mk (Kd.V_elder' (by (with_reducible repeat (first | apply Kd.V_alloc | apply Kd.V_drewN | apply Kd.V_drew)); exact HO_4.out) (by first | exact Kd.N_base ho45 | exact Kd.S_base ho45) hb); have n1_ := Aside0.mk (Kd.V_elder' (by (with_reducible repeat (first | apply Kd.V_alloc | apply Kd.V_drewN | apply Kd.V_drew)); exact HO_5.out) (by first | exact Kd.N_base ho45 | exact Kd.S_base ho45) hb); have n2_ := Aside0.mk (Kd.N_lower ho45 (below_size (by repeat (first | (with_reducible first | exact HB.out | apply below_alloc | apply pw_below_drewN | apply below_drew1) | exact HB.out)))); have n3_ := Aside0.mk (below_step (by repeat (first | (with_reducible first | exact HB.out | apply below_alloc | apply pw_below_drewN | apply below_drew1) | exact HB.out)) hb); clear HO_4; clear HO_5; clear HB; clear HO374; have HO_4 := n0_; have HO_5 := n1_; have HO377 := n2_; have HB := n3_; clear n0_ n1_ n2_ n3_; clear hb ho45; obtain ⟨Ao46, co46, eo46⟩ := Kd.N_slice HO377.out; subst eo46) | ((with_reducible refine gate_callee (f := 28) rfl ?_); refine goesL_ (some 56) rfl rfl Try.func28 (by kernel_rfl) rfl #[.slice Ao46 y375.length co46] rfl (by (try simp only [List.map_toArray, List.map_cons, List.map_nil]); first | done | rfl | (simp only [List.length_drop, List.length_take]; rfl)) ?_; (with_reducible refine (footlockerref01_Join.calls k1 _ _ y375 t378 _ ?side1 ?side2 A20.out).mono ?_); (case side1 => repeat (first | exact (Kd.N_reads' HO377.out).2.2 | (with_reducible refine Kd.C_alloc ?_ _) | (with_reducible refine Kd.C_drewN ?_ _) | (with_reducible refine Kd.C_drew ?_))); (case side2 => exact (Kd.N_reads' HO377.out).2.1); rintro e w47 ⟨v379, rfl, ho0, hb⟩; refine ⟨_, rfl, ?_⟩; have n0_ := Aside0.mk (Kd.V_elder' (by (with_reducible repeat (first | apply Kd.V_alloc | apply Kd.V_drewN | apply Kd.V_drew)); exact HO_4.out) (Kd.R_base ho0) hb); have n1_ := Aside0.mk (Kd.V_elder' (by (with_reducible repeat (first | apply Kd.V_alloc | apply Kd.V_drewN | apply Kd.V_drew)); exact HO_5.out) (Kd.R_base ho0) hb); have n2_ := Aside0.mk (Kd.N_elder' (by (with_reducible repeat (first | apply Kd.N_alloc | apply Kd.N_drewN | apply Kd.N_drew)); exact HO377.out) (Kd.R_base ho0) hb); have n3_ := Aside0.mk (Kd.R_lower (Kd.R_newM (M := fun k_ => (w.heap.size ≤ k_)) ho0 (below_size (by repeat (first | (with_reducible first | exact HB.out | apply below_alloc | apply pw_below_drewN | apply below_drew1) | exact HB.out))) (fun k_ h_ => h_)) (below_size (by repeat (first | (with_reducible first | exact HB.out | apply below_alloc | apply pw_below_drewN | apply below_drew1) | exact HB.out)))); have n4_ := Aside0.mk (below_step (by repeat (first | (with_reducible first | exact HB.out | apply below_alloc | apply pw_below_drewN | apply below_drew1) | exact HB.out)) hb); clear HO_4; clear HO_5; clear HO377; clear HB; have HO_4 := n0_; have HO_5 := n1_; have HO377 := n2_; have HO380 := n3_; have HB := n4_; clear n0_ n1_ n2_ n3_ n4_; (try clear hb); (try clear hb2); (try clear hk); (try clear hi); (try clear ho0); have p381 : 0 ≤ (x17_1 : Int) := of_decide_eq_true (by first | (with_reducible assumption) | assumption); have q381 : x17_1 < (l0.length : Int) := of_decide_eq_true (by first | (with_reducible assumption) | assumption); obtain ⟨ad381, e381, hx381_0⟩ := Kd.at_int HR0.out x17_1 p381 q381; cases e381; replace hx381_0 := (HB.out.cell (World.block_lt_of_cell? w _ hx381_0)).trans hx381_0; replace p381 := eq_true p381; replace q381 := eq_true q381) | ((with_reducible refine gate_dst (N := 62) rfl ?_); refine Kd.R_lit (Kd.int .u8) _ 5 ?hg (N := 62) ?hd (xs := ([rd l0 x17_1] : List Int)) (inner := [.int .u8 (rd l0 x17_1)]) (ok := fun _ => True) (okp := fun _ => True) ?hr ?hp (fun _ hk => hk) trivial (Below.refl _ _) (Nat.le_refl _) (by simp) ?_; (case hd => rfl); (case hg => rfl); (case hr => first | (go_simp; done) | (go_simp; rfl)); (case hp => exact (Reps.one (show Kd.M (Kd.int .u8) _ _ _ (rd l0 x17_1) [.int .u8 (rd l0 x17_1)] from rfl) (Reps.none _ _))); intro v383 w48 ho49 hb hg_ hnew_; clear hg_ hnew_; (first | rw [← Ny382.out] at ho49 | (simp only [Int.reduceToNat] at ho49; rw [← Ny382.out] at ho49)); have n0_ := Aside0.mk (Kd.V_elder' (by (with_reducible repeat (first | apply Kd.V_alloc | apply Kd.V_drewN | apply Kd.V_drew)); exact HO_4.out) (Kd.R_base ho49) hb); have n1_ := Aside0.mk (Kd.V_elder' (by (with_reducible repeat (first | apply Kd.V_alloc | apply Kd.V_drewN | apply Kd.V_drew)); exact HO_5.out) (Kd.R_base ho49) hb); have n2_ := Aside0.mk (Kd.N_elder' (by (with_reducible repeat (first | apply Kd.N_alloc | apply Kd.N_drewN | apply Kd.N_drew)); exact HO377.out) (Kd.R_base ho49) hb); have n3_ := Aside0.mk (Kd.R_elder' (by (with_reducible repeat (first | apply Kd.R_alloc | apply Kd.R_drewN | apply Kd.R_drew)); exact HO380.out) (Kd.R_base ho49) hb); have n4_ := Aside0.mk (Kd.R_lower (Kd.R_new' (Kd.R_newM (M := fun k_ => (w.heap.size ≤ k_)) ho49 (below_size (by repeat (first | (with_reducible first | exact HB.out | apply below_alloc | apply pw_below_drewN | apply below_drew1) | exact HB.out))) (fun k_ h_ => h_)) (Kd.R_lt (by (with_reducible repeat (first | apply Kd.R_alloc | apply Kd.R_drewN | apply Kd.R_drew)); exact HO380.out))) (below_size (by repeat (first | (with_reducible first | exact HB.out | apply below_alloc | apply pw_below_drewN | apply below_drew1) | exact HB.out)))); have n5_ := Aside0.mk (below_step (by repeat (first | (with_reducible first | exact HB.out | apply below_alloc | apply pw_below_drewN | apply below_drew1) | exact HB.out)) hb); clear HO_4; clear HO_5; clear HO377; clear HO380; clear HB; have HO_4 := n0_; have HO_5 := n1_; have HO377 := n2_; have HO380 := n3_; have HO384 := n4_; have HB := n5_; clear n0_ n1_ n2_ n3_ n4_ n5_; clear hb ho49; obtain ⟨Ao50, co50, eo50⟩ := Kd.R_slice HO384.out; subst eo50) | ((with_reducible refine gate_dst (N := 63) rfl ?_); refine Kd.N_lit (Kd.slice 5 (Kd.int .u8)) _ 22 ?hg (N' := 63) ?hd (xs := ([l5, y382] : List (List Int))) (inner := [.slice A5 l5.length c5, .slice Ao50 y382.length co50]) (ok := (fun k_ => ((P4_ k_ ∨ P5_ k_) ∨ w.heap.size ≤ k_) ∧ some k_ ≠ (.slice Ao46 y375.length co46 : Value).ownBlock ∧ some k_ ≠ (v379 : Value).ownBlock)) (okp := (fun k_ => ((P4_ k_ ∨ P5_ k_) ∨ w.heap.size ≤ k_) ∧ some k_ ≠ (.slice Ao46 y375.length co46 : Value).ownBlock ∧ some k_ ≠ (v379 : Value).ownBlock)) ?hr ?hp (fun _ hk => hk) ((show ∀ k_, w48.heap.size ≤ k_ → (fun k_ => ((P4_ k_ ∨ P5_ k_) ∨ w.heap.size ≤ k_) ∧ some k_ ≠ (.slice Ao46 y375.length co46 : Value).ownBlock ∧ some k_ ≠ (v379 : Value).ownBlock) k_ from fun k_ hk => ⟨(.inr (Nat.le_trans (below_size (by repeat (first | (with_reducible first | exact HB.out | apply below_alloc | apply pw_below_drewN | apply below_drew1) | exact HB.out))) hk)), Kd.fresh' (Kd.N_lt (by (with_reducible repeat (first | apply Kd.N_alloc | apply Kd.N_drewN | apply Kd.N_drew)); exact HO377.out)) k_ hk, Kd.fresh' (Kd.R_lt (by (with_reducible repeat (first | apply Kd.R_alloc | apply Kd.R_drewN | apply Kd.R_drew)); exact HO380.out)) k_ hk⟩) _ (Nat.le_refl _)) (Below.refl _ _) (Nat.le_refl _) (by simp) ?_; (case hd => rfl); (case hg => rfl); (case hr => first | (go_simp; done) | (go_simp; rfl)); (case hp => exact (Reps.one (show Kd.FK (Kd.slice 5 (Kd.int .u8)) _ _ l5 [.slice A5 l5.length c5] from (Kd.FK_slice_mk (Kd.V_reads' (Kd.V_mono (ok' := (fun k_ => ((P4_ k_ ∨ P5_ k_) ∨ w.heap.size ≤ k_) ∧ some k_ ≠ (.slice Ao46 y375.length co46 : Value).ownBlock ∧ some k_ ≠ (v379 : Value).ownBlock)) (HO_5.out) (fun k_ hk => ⟨hk.1.1.1.1, ⟨hk.1.1.2, hk.1.2⟩⟩))).2.1 (Kd.V_F (Kd.V_mono (ok' := (fun k_ => ((P4_ k_ ∨ P5_ k_) ∨ w.heap.size ≤ k_) ∧ some k_ ≠ (.slice Ao46 y375.length co46 : Value).ownBlock ∧ some k_ ≠ (v379 : Value).ownBlock)) (HO_5.out) (fun k_ hk => ⟨hk.1.1.1.1, ⟨hk.1.1.2, hk.1.2⟩⟩))))) (Reps.one (show Kd.FK (Kd.slice 5 (Kd.int .u8)) _ _ y382 [.slice Ao50 y382.length co50] from (Kd.FK_slice_mk (Kd.R_reads' (Kd.R_mono (ok' := (fun k_ => ((P4_ k_ ∨ P5_ k_) ∨ w.heap.size ≤ k_) ∧ some k_ ≠ (.slice Ao46 y375.length co46 : Value).ownBlock ∧ some k_ ≠ (v379 : Value).ownBlock)) (Kd.R_apart' (HO384.out) (Kd.N_typed HO377.out) (by decide)) (fun k_ hk => ⟨(.inr (hk.1.1.1)), ⟨hk.2, hk.1.2⟩⟩))).2.1 (Kd.R_F (Kd.R_mono (ok' := (fun k_ => ((P4_ k_ ∨ P5_ k_) ∨ w.heap.size ≤ k_) ∧ some k_ ≠ (.slice Ao46 y375.length co46 : Value).ownBlock ∧ some k_ ≠ (v379 : Value).ownBlock)) (Kd.R_apart' (HO384.out) (Kd.N_typed HO377.out) (by decide)) (fun k_ hk => ⟨(.inr (hk.1.1.1)), ⟨hk.2, hk.1.2⟩⟩))))) (Reps.none _ _)))); intro v386 w51 ho52 hb hg_ hnew_; clear hg_ hnew_; (first | rw [← Ny385.out] at ho52 | (simp only [Int.reduceToNat] at ho52; rw [← Ny385.out] at ho52)); have n0_ := Aside0.mk (Kd.V_elder' (by (with_reducible repeat (first | apply Kd.V_alloc | apply Kd.V_drewN | apply Kd.V_drew)); exact HO_4.out) (by first | exact Kd.N_base ho52 | exact Kd.S_base ho52) hb); have n1_ := Aside0.mk (Kd.V_elder' (by (with_reducible repeat (first | apply Kd.V_alloc | apply Kd.V_drewN | apply Kd.V_drew)); exact HO_5.out) (by first | exact Kd.N_base ho52 | exact Kd.S_base ho52) hb); have n2_ := Aside0.mk (Kd.N_elder' (by (with_reducible repeat (first | apply Kd.N_alloc | apply Kd.N_drewN | apply Kd.N_drew)); exact HO377.out) (by first | exact Kd.N_base ho52 | exact Kd.S_base ho52) hb); have n3_ := Aside0.mk (Kd.R_below (by (with_reducible repeat (first | apply Kd.R_alloc | apply Kd.R_drewN | apply Kd.R_drew)); exact HO380.out) hb); have n4_ := Aside0.mk (Kd.N_lower ho52 (below_size (by repeat (first | (with_reducible first | exact HB.out | apply below_alloc | apply pw_below_drewN | apply below_drew1) | exact HB.out)))); have n5_ := Aside0.mk (below_step (by repeat (first | (with_reducible first | exact HB.out | apply below_alloc | apply pw_below_drewN | apply below_drew1) | exact HB.out)) hb); clear HO_4; clear HO_5; clear HO377; clear HO380; clear HB; clear HO384; have HO_4 := n0_; have HO_5 := n1_; have HO377 := n2_; have HO380 := n3_; have HO387 := n4_; have HB := n5_; clear n0_ n1_ n2_ n3_ n4_ n5_; clear hb ho52; obtain ⟨Ao53, co53, eo53⟩ := Kd.N_slice HO387.out; subst eo53) | ((with_reducible refine gate_callee (f := 28) rfl ?_); refine goesL_ (some 64) rfl rfl Try.func28 (by kernel_rfl) rfl #[.slice Ao53 y385.length co53] rfl (by (try simp only [List.map_toArray, List.map_cons, List.map_nil]); first | done | rfl | (simp only [List.length_drop, List.length_take]; rfl)) ?_; (with_reducible refine (footlockerref01_Join.calls k1 _ _ y385 t388 _ ?side1 ?side2 A21.out).mono ?_); (case side1 => repeat (first | exact (Kd.N_reads' HO387.out).2.2 | (with_reducible refine Kd.C_alloc ?_ _) | (with_reducible refine Kd.C_drewN ?_ _) | (with_reducible refine Kd.C_drew ?_))); (case side2 => exact (Kd.N_reads' HO387.out).2.1); rintro e w54 ⟨v389, rfl, ho0, hb⟩; refine ⟨_, rfl, ?_⟩; have n0_ := Aside0.mk (Kd.V_elder' (by (with_reducible repeat (first | apply Kd.V_alloc | apply Kd.V_drewN | apply Kd.V_drew)); exact HO_4.out) (Kd.R_base ho0) hb); have n1_ := Aside0.mk (Kd.V_elder' (by (with_reducible repeat (first | apply Kd.V_alloc | apply Kd.V_drewN | apply Kd.V_drew)); exact HO_5.out) (Kd.R_base ho0) hb); have n2_ := Aside0.mk (Kd.N_elder' (by (with_reducible repeat (first | apply Kd.N_alloc | apply Kd.N_drewN | apply Kd.N_drew)); exact HO377.out) (Kd.R_base ho0) hb); have n3_ := Aside0.mk (Kd.R_elder' (by (with_reducible repeat (first | apply Kd.R_alloc | apply Kd.R_drewN | apply Kd.R_drew)); exact HO380.out) (Kd.R_base ho0) hb); have n4_ := Aside0.mk (Kd.N_elder' (by (with_reducible repeat (first | apply Kd.N_alloc | apply Kd.N_drewN | apply Kd.N_drew)); exact HO387.out) (Kd.R_base ho0) hb); have n5_ := Aside0.mk (Kd.R_lower (Kd.R_new' (Kd.R_newM (M := fun k_ => (w.heap.size ≤ k_)) ho0 (below_size (by repeat (first | (with_reducible first | exact HB.out | apply below_alloc | apply pw_below_drewN | apply below_drew1) | exact HB.out))) (fun k_ h_ => h_)) (Kd.R_lt (by (with_reducible repeat (first | apply Kd.R_alloc | apply Kd.R_drewN | apply Kd.R_drew)); exact HO380.out))) (below_size (by repeat (first | (with_reducible first | exact HB.out | apply below_alloc | apply pw_below_drewN | apply below_drew1) | exact HB.out)))); have n6_ := Aside0.mk (below_step (by repeat (first | (with_reducible first | exact HB.out | apply below_alloc | apply pw_below_drewN | apply below_drew1) | exact HB.out)) hb); clear HO_4; clear HO_5; clear HO377; clear HO380; clear HO387; clear HB; have HO_4 := n0_; have HO_5 := n1_; have HO377 := n2_; have HO380 := n3_; have HO387 := n4_; have HO390 := n5_; have HB := n6_; clear n0_ n1_ n2_ n3_ n4_ n5_ n6_; (try clear hb); (try clear hb2); (try clear hk); (try clear hi); (try clear ho0); obtain ⟨Ao55, co55, eo55⟩ := Kd.R_slice HO380.out; subst eo55; obtain ⟨Ao56, co56, eo56⟩ := Kd.R_slice HO390.out; subst eo56) | ((with_reducible refine gate_callee (f := 21) rfl ?_); refine goesL_ (some 74) rfl rfl Try.func21 (by kernel_rfl) rfl #[.slice (some ad381) l0.length c0, .slice (some ad371) l1.length c1, .int .i64 a2, .int .i64 (wrap64 (x17_1 + 1)), .slice Ao55 t378.length co55, .slice Ao56 t388.length co56, .int .i64 a6] rfl (by (try simp only [List.map_toArray, List.map_cons, List.map_nil]); first | done | rfl | (simp only [List.length_drop, List.length_take]; rfl)) ?_; (with_reducible refine (ih k1 (by have := HK1.out; omega) _ _ l0 _ _ l1 a2 (wrap64 (x17_1 + 1)) (fun k_ => some k_ = (.slice Ao55 t378.length co55 : Value).ownBlock) _ _ t378 (fun k_ => some k_ = (.slice Ao56 t388.length co56 : Value).ownBlock) _ _ t388 a6 t391 false _ ?side1 ?side2 ?side3 ?side4 ?side5 ?side6 A22.out).mono ?_); (case side1 => repeat (first | exact (Kd.C_below HR0.out HB.out) | (with_reducible refine Kd.C_alloc ?_ _) | (with_reducible refine Kd.C_drewN ?_ _) | (with_reducible refine Kd.C_drew ?_))); (case side2 => exact HC0.out); (case side3 => repeat (first | exact (Kd.C_below HR1.out HB.out) | (with_reducible refine Kd.C_alloc ?_ _) | (with_reducible refine Kd.C_drewN ?_ _) | (with_reducible refine Kd.C_drew ?_))); (case side4 => exact HC1.out); (case side5 => exact Kd.R_V (Kd.R_tight rfl (Kd.R_apart' (Kd.R_apart' (HO380.out) (Kd.N_typed HO377.out) (by decide)) (Kd.N_typed HO387.out) (by decide)))); (case side6 => exact Kd.R_V (Kd.R_tight rfl (Kd.R_apart' (Kd.R_apart' (HO390.out) (Kd.N_typed HO377.out) (by decide)) (Kd.N_typed HO387.out) (by decide)))); rintro e w57 ⟨v392, rfl, ho0, hb⟩; refine ⟨_, rfl, ?_⟩; have n0_ := Aside0.mk (Kd.V_elder' (by (with_reducible repeat (first | apply Kd.V_alloc | apply Kd.V_drewN | apply Kd.V_drew)); exact HO_4.out) (Kd.R_base ho0) hb); have n1_ := Aside0.mk (Kd.V_elder' (by (with_reducible repeat (first | apply Kd.V_alloc | apply Kd.V_drewN | apply Kd.V_drew)); exact HO_5.out) (Kd.R_base ho0) hb); have n2_ := Aside0.mk (Kd.N_elder' (by (with_reducible repeat (first | apply Kd.N_alloc | apply Kd.N_drewN | apply Kd.N_drew)); exact HO377.out) (Kd.R_base ho0) hb); have n3_ := Aside0.mk (Kd.R_elder' (by (with_reducible repeat (first | apply Kd.R_alloc | apply Kd.R_drewN | apply Kd.R_drew)); exact HO380.out) (Kd.R_base ho0) hb); have n4_ := Aside0.mk (Kd.N_elder' (by (with_reducible repeat (first | apply Kd.N_alloc | apply Kd.N_drewN | apply Kd.N_drew)); exact HO387.out) (Kd.R_base ho0) hb); have n5_ := Aside0.mk (Kd.R_elder' (by (with_reducible repeat (first | apply Kd.R_alloc | apply Kd.R_drewN | apply Kd.R_drew)); exact HO390.out) (Kd.R_base ho0) hb); have n6_ := Aside0.mk (Kd.R_lower (Kd.R_new' (Kd.R_new' (Kd.R_newM (M := fun k_ => (w.heap.size ≤ k_)) (Kd.R_mono (ok' := fun k_ => True) ho0 (fun _ hk_ => trivial)) (below_size (by repeat (first | (with_reducible first | exact HB.out | apply below_alloc | apply pw_below_drewN | apply below_drew1) | exact HB.out))) (fun k_ h_ => h_)) (Kd.R_lt (by (with_reducible repeat (first | apply Kd.R_alloc | apply Kd.R_drewN | apply Kd.R_drew)); exact HO380.out))) (Kd.R_lt (by (with_reducible repeat (first | apply Kd.R_alloc | apply Kd.R_drewN | apply Kd.R_drew)); exact HO390.out))) (below_size (by repeat (first | (with_reducible first | exact HB.out | apply below_alloc | apply pw_below_drewN | apply below_drew1) | exact HB.out)))); have n7_ := Aside0.mk (below_step (by repeat (first | (with_reducible first | exact HB.out | apply below_alloc | apply pw_below_drewN | apply below_drew1) | exact HB.out)) hb); clear HO_4; clear HO_5; clear HO377; clear HO380; clear HO387; clear HO390; clear HB; have HO_4 := n0_; have HO_5 := n1_; have HO377 := n2_; have HO380 := n3_; have HO387 := n4_; have HO390 := n5_; have HO393 := n6_; have HB := n7_; clear n0_ n1_ n2_ n3_ n4_ n5_ n6_ n7_; (try clear hb); (try clear hb2); (try clear hk); (try clear hi); (try clear ho0)))
         go_roundg k1
         case measure => have := HK1.out; omega
         case rel => exact ⟨(wrap64 (x17_1 + 1)), (by first | rfl | (simp; done) | (simp [*]; done)), H', ⟨by have := HK1.out; omega⟩, ⟨by (with_reducible repeat (first | apply Kd.V_alloc | apply Kd.V_drewN | apply Kd.V_drew)); exact Kd.V_mono HO_4.out (fun _ hk => hk.1.1.1.1.1.1.1)⟩, ⟨by (with_reducible repeat (first | apply Kd.V_alloc | apply Kd.V_drewN | apply Kd.V_drew)); exact Kd.V_mono HO_5.out (fun _ hk => hk.1.1.1.1.1.1.1)⟩, ⟨by repeat (first | (with_reducible first | exact HB.out | apply below_alloc | apply pw_below_drewN | apply below_drew1) | exact HB.out)⟩⟩
       ·replace c19 := Bool.eq_false_iff.mpr c19
        subst c19
        have H1 : (footlockerref05_search.l0 k1 l0 l1 a2 l4 l5 a6 (wrap64 (x17_1 + 1))) = some (r1, r2) := by rw [if_neg (show ¬ (false = true) by decide)] at H; exact H
        clear H
        have H := H1
        clear H1
        have H' := Aside0.mk H
        clear H
        have p371 : 0 ≤ (x17_1 : Int) := of_decide_eq_true (by first | (with_reducible assumption) | assumption)
        have q371 : x17_1 < (l1.length : Int) := of_decide_eq_true (by first | (with_reducible assumption) | assumption)
        obtain ⟨ad371, e371, hx371_0⟩ := Kd.at_bool HR1.out x17_1 p371 q371
        (try rw [← Nbq18.out] at hx371_0)
        cases e371
        replace hx371_0 := (HB.out.cell (World.block_lt_of_cell? w _ hx371_0)).trans hx371_0
        replace p371 := eq_true p371
        replace q371 := eq_true q371
        go_wp2
        go_roundg k1
        case measure => have := HK1.out; omega
        case rel => exact ⟨(wrap64 (x17_1 + 1)), (by first | rfl | (simp; done) | (simp [*]; done)), H', ⟨by have := HK1.out; omega⟩, ⟨by (with_reducible repeat (first | apply Kd.V_alloc | apply Kd.V_drewN | apply Kd.V_drew)); exact HO_4.out⟩, ⟨by (with_reducible repeat (first | apply Kd.V_alloc | apply Kd.V_drewN | apply Kd.V_drew)); exact HO_5.out⟩, ⟨by repeat (first | (with_reducible first | exact HB.out | apply below_alloc | apply pw_below_drewN | apply below_drew1) | exact HB.out)⟩⟩
      ·rw [if_neg c17] at H
       exact absurd H (by simp)
     ·rw [if_neg c16] at H
      exact absurd H (by simp)
    ·rw [if_neg c15] at H
     have c15b0 : decide (x17_1 < (l0.length : Int)) = false := decide_eq_false c15
     clear c15
     simp only [Option.some.injEq, Prod.mk.injEq] at H
     obtain ⟨rfl, rfl⟩ := H
     go_wp2
     go_ret2
     exact ⟨_, by first | rfl | (simp [errW_none, errW_some] <;> rfl) | (simp [*, errW_none, errW_some] <;> rfl), by first | exact Kd.R_nil _ _ _ _ _ | exact Kd.N_nil _ _ _ _ _ | exact Kd.V_nil _ _ _ _ _ | exact Kd.Q_nil _ _ _ _ _ | exact Kd.S_nil _ _ _ _ _, by repeat (first | (with_reducible first | exact HB.out | apply below_alloc | apply pw_below_drewN | apply below_drew1) | exact HB.out)⟩
def footlockerref01_Same.l0 : Nat → List Int → List Int → Int → Option (Bool)
 | 0, _, _, _ => none
 | k + 1, x0, x1, x5 => if x5 < (x0.length : Int) then (if 0 ≤ x5 then (if x5 < (x1.length : Int) then (if (rd x0 x5) = (rd x1 x5) then (footlockerref01_Same.l0 k x0 x1 (wrap64 (x5 + 1))) else (some false)) else (none)) else (none)) else (some true)
def footlockerref01_Same.f (k : Nat) (l0 : List Int) (l1 : List Int) : Option (Bool) := if (l0.length : Int) = (l1.length : Int) then (footlockerref01_Same.l0 k l0 l1 0) else (some false)
set_option maxHeartbeats 8000000 in
set_option maxRecDepth 100000 in
theorem footlockerref01_Same.calls (k : Nat) (A0 : Option Addr) (c0 : Nat) (l0 : List Int) (A1 : Option Addr) (c1 : Nat) (l1 : List Int) (r : Bool) (w : World) (hr0 : Kd.C (Kd.int .u8) w A0 l0.length l0) (hc0 : l0.length ≤ c0) (hr1 : Kd.C (Kd.int .u8) w A1 l1.length l1) (hc1 : l1.length ≤ c1) (h : footlockerref01_Same.f k l0 l1 = some r) :
 Calls Try.prog 10 #[.slice A0 l0.length c0, .slice A1 l1.length c1] w fun e w' => e = .returned (.bool r) ∧ Drawn0 w w' := by
 have HR0 := Aside0.mk hr0
 have HC0 := Aside0.mk hc0
 clear hr0 hc0
 have HR1 := Aside0.mk hr1
 have HC1 := Aside0.mk hc1
 clear hr1 hc1
 have H : (if (l0.length : Int) = (l1.length : Int) then (footlockerref01_Same.l0 k l0 l1 0) else (some false)) = some r := h
 clear h
 by_cases c3 : (l0.length : Int) = (l1.length : Int)
 ·rw [if_pos c3] at H
  have c3b0 : ((l0.length : Int) == (l1.length : Int)) = true := beq_iff_eq.mpr c3
  have c3b1 : ((l0.length : Int) != (l1.length : Int)) = false := bne_eq_false_iff_eq.mpr c3
  have c3b2 : (l0.length == l1.length) = true := by first | simpa using c3 | (simp at c3 ⊢; omega)
  clear c3
  have H' := Aside0.mk H
  clear H
  go_enter Try.func10, Try.ntmps10
  go_wp2
  repeat (go_quiet (fail); try go_wp2)
  go_loopg [5] k (fun kq v5 w' => ∃ (x5_1 : Int), v5 = .int .i64 x5_1 ∧ Aside0 (footlockerref01_Same.l0 kq l0 l1 x5_1 = some r) ∧ Aside0 (kq ≤ k) ∧ Drawn0 w w')
  case atStart => exact ⟨(0), (by first | rfl | (simp; done) | (simp [*]; done)), H', ⟨Nat.le_refl _⟩, by repeat (first | exact Drawn0.refl _ | apply Drawn0.step)⟩
  case round =>
   clear H'
   try clear c1
   try clear p2
   try clear c3
   try clear c3b0
   try clear c3b1
   try clear c3b2
   obtain ⟨x5_1, rfl, HA, HK1, ⟨m1, rfl⟩⟩ := hrel
   cases gk with
   | zero => exact absurd HA.out (by simp [footlockerref01_Same.l0])
   | succ k1 =>
    have H := HA.out
    clear HA
    simp only [footlockerref01_Same.l0] at H
    by_cases c4 : x5_1 < (l0.length : Int)
    ·rw [if_pos c4] at H
     have c4b0 : decide (x5_1 < (l0.length : Int)) = true := decide_eq_true c4
     clear c4
     by_cases c5 : 0 ≤ x5_1
     ·rw [if_pos c5] at H
      have c5b0 : decide (0 ≤ x5_1) = true := decide_eq_true c5
      clear c5
      by_cases c6 : x5_1 < (l1.length : Int)
      ·rw [if_pos c6] at H
       have c6b0 : decide (x5_1 < (l1.length : Int)) = true := decide_eq_true c6
       clear c6
       by_cases c7 : (rd l0 x5_1) = (rd l1 x5_1)
       ·rw [if_pos c7] at H
        have c7b0 : ((rd l0 x5_1) == (rd l1 x5_1)) = true := beq_iff_eq.mpr c7
        have c7b1 : ((rd l0 x5_1) != (rd l1 x5_1)) = false := bne_eq_false_iff_eq.mpr c7
        clear c7
        have H' := Aside0.mk H
        clear H
        have p404 : 0 ≤ (x5_1 : Int) := of_decide_eq_true (by first | (with_reducible assumption) | assumption)
        have q404 : x5_1 < (l0.length : Int) := of_decide_eq_true (by first | (with_reducible assumption) | assumption)
        obtain ⟨ad404, e404, hx404_0⟩ := Kd.at_int HR0.out x5_1 p404 q404
        cases e404
        replace p404 := eq_true p404
        replace q404 := eq_true q404
        have p405 : 0 ≤ (x5_1 : Int) := of_decide_eq_true (by first | (with_reducible assumption) | assumption)
        have q405 : x5_1 < (l1.length : Int) := of_decide_eq_true (by first | (with_reducible assumption) | assumption)
        obtain ⟨ad405, e405, hx405_0⟩ := Kd.at_int HR1.out x5_1 p405 q405
        cases e405
        replace p405 := eq_true p405
        replace q405 := eq_true q405
        go_wp2
        repeat (go_quiet (fail); try go_wp2)
        go_roundg k1
        case measure => have := HK1.out; omega
        case rel => exact ⟨(wrap64 (x5_1 + 1)), (by first | rfl | (simp; done) | (simp [*]; done)), H', ⟨by have := HK1.out; omega⟩, by repeat (first | exact Drawn0.refl _ | apply Drawn0.step)⟩
       ·rw [if_neg c7] at H
        have c7b0 : ((rd l0 x5_1) == (rd l1 x5_1)) = false := beq_eq_false_iff_ne.mpr c7
        have c7b1 : ((rd l0 x5_1) != (rd l1 x5_1)) = true := bne_iff_ne.mpr c7
        obtain rfl := Option.some.inj H
        have p404 : 0 ≤ (x5_1 : Int) := of_decide_eq_true (by first | (with_reducible assumption) | assumption)
        have q404 : x5_1 < (l0.length : Int) := of_decide_eq_true (by first | (with_reducible assumption) | assumption)
        obtain ⟨ad404, e404, hx404_0⟩ := Kd.at_int HR0.out x5_1 p404 q404
        cases e404
        replace p404 := eq_true p404
        replace q404 := eq_true q404
        have p405 : 0 ≤ (x5_1 : Int) := of_decide_eq_true (by first | (with_reducible assumption) | assumption)
        have q405 : x5_1 < (l1.length : Int) := of_decide_eq_true (by first | (with_reducible assumption) | assumption)
        obtain ⟨ad405, e405, hx405_0⟩ := Kd.at_int HR1.out x5_1 p405 q405
        cases e405
        replace p405 := eq_true p405
        replace q405 := eq_true q405
        go_wp2
        repeat (go_quiet (fail); try go_wp2)
        go_ret
        exact ⟨by first | rfl | (simp; done) | (simp [*]; done), by repeat (first | exact Drawn0.refl _ | apply Drawn0.step)⟩
      ·rw [if_neg c6] at H
       exact absurd H (by simp)
     ·rw [if_neg c5] at H
      exact absurd H (by simp)
    ·rw [if_neg c4] at H
     have c4b0 : decide (x5_1 < (l0.length : Int)) = false := decide_eq_false c4
     clear c4
     obtain rfl := Option.some.inj H
     go_wp2
     repeat (go_quiet (fail); try go_wp2)
     go_ret
     exact ⟨by first | rfl | (simp; done) | (simp [*]; done), by repeat (first | exact Drawn0.refl _ | apply Drawn0.step)⟩
 ·rw [if_neg c3] at H
  have c3b0 : ((l0.length : Int) == (l1.length : Int)) = false := beq_eq_false_iff_ne.mpr c3
  have c3b1 : ((l0.length : Int) != (l1.length : Int)) = true := bne_iff_ne.mpr c3
  have c3b2 : (l0.length == l1.length) = false := by first | simpa using c3 | (simp at c3 ⊢; omega)
  obtain rfl := Option.some.inj H
  go_enter Try.func10, Try.ntmps10
  go_wp2
  repeat (go_quiet (fail); try go_wp2)
  go_ret
  exact ⟨by first | rfl | (simp; done) | (simp [*]; done), by repeat (first | exact Drawn0.refl _ | apply Drawn0.step)⟩
end Go.Proofs.Ytndljfagojnidaa.P
namespace Go.Proofs.Ytndljfagojnidaa.P
open Go.RowKit Go.Proofs.YtndljfagojnidaaW.PrintWords Go.Proofs.YtndljfagojnidaaW.PrintLast Go.Proofs.YtndljfagojnidaaW.PrintMore
attribute [local go_sem] max2_int min2_int max_two min_two max_three min_three max_four min_four
set_option linter.unusedVariables false
set_option linter.unusedSimpArgs false
def footlockerlaw05_WelchOnce.l0 : Nat → List Bool → Int → Int → List Int → Int → List Int → Int → Int → Option (Bool)
 | 0, _, _, _, _, _, _, _, _ => none
 | k + 1, x1, x2, x3, x9, x10, x12, x45, x46 => if x46 < x45 then (if 0 ≤ x46 then (if x46 < (x1.length : Int) then (if rdOf false x1 x46 = true then (footlockerlaw05_WelchOnce.l0 k x1 x2 x3 x9 x10 x12 x45 (wrap64 (x46 + 1))) else (if x46 < (x12.length : Int) then (footlockerlaw05_WelchOnce.l0 k x1 x2 x3 x9 x10 (x12.set (x46 : Int).toNat (Go.bits .xor .u8 (rd x12 x46) x3)) x45 (wrap64 (x46 + 1))) else (none))) else (none)) else (none)) else ((welch_Decode.f k x12 x1 x2).bind fun bt479 => ((welch_Decode.f k x9 x1 x2).bind fun bt484 => (if bt479.2.2 = 0 then (if bt479.2.1 = x10 then ((footlockerref01_Same.f k bt479.1 x9).bind fun t489 => (if t489 = true then (if bt484.2.2 = 0 then (if bt484.2.1 = 0 then ((footlockerref01_Same.f k bt484.1 x9).bind fun t490 => (if t490 = true then ((welch_Most.f k x1 x2).bind fun t491 => (some (decide (x10 ≤ t491)))) else (some false))) else (some false)) else (some false)) else (some false))) else (some false)) else (some false))))
def footlockerlaw05_WelchOnce.f (k : Nat) (l0 : List Int) (l1 : List Bool) (a2 : Int) (a3 : Int) : Option (Bool) := (footlockerlaw05_alive.f k).bind fun t467 => (if t467 = true then (if (l0.length : Int) > 24 then (some true) else ((welch_Decode.f k l0 l1 a2).bind fun bt468 => (if bt468.2.2 = 0 then ((footlockerref01_Copy.f l0).bind fun t473 => (footlockerlaw05_WelchOnce.l0 k l1 a2 a3 bt468.1 bt468.2.1 t473 (t473.length : Int) 0)) else (if (bt468.1.length : Int) = 0 then (some (bt468.2.1 == 0)) else (some false))))) else (some false))
set_option maxHeartbeats 8000000 in
set_option maxRecDepth 100000 in
theorem footlockerlaw05_WelchOnce.calls (k : Nat) (A0 : Option Addr) (c0 : Nat) (l0 : List Int) (A1 : Option Addr) (c1 : Nat) (l1 : List Bool) (a2 : Int) (a3 : Int) (r : Bool) (w : World) (hr0 : Kd.C (Kd.int .u8) w A0 l0.length l0) (hc0 : l0.length ≤ c0) (hr1 : Kd.C Kd.bool w A1 l1.length l1) (hc1 : l1.length ≤ c1) (h : footlockerlaw05_WelchOnce.f k l0 l1 a2 a3 = some r) :
 Calls Try.prog 5 #[.slice A0 l0.length c0, .slice A1 l1.length c1, .int .i64 a2, .int .u8 a3] w fun e w' => e = .returned (.bool r) ∧ Below w.heap.size w w' := by
 have HR0 := Aside0.mk hr0
 have HC0 := Aside0.mk hc0
 clear hr0 hc0
 have HR1 := Aside0.mk hr1
 have HC1 := Aside0.mk hc1
 clear hr1 hc1
 have HB := Aside0.mk (Below.refl w.heap.size w)
 have H : ((footlockerlaw05_alive.f k).bind fun t467 => (if t467 = true then (if (l0.length : Int) > 24 then (some true) else ((welch_Decode.f k l0 l1 a2).bind fun bt468 => (if bt468.2.2 = 0 then ((footlockerref01_Copy.f l0).bind fun t473 => (footlockerlaw05_WelchOnce.l0 k l1 a2 a3 bt468.1 bt468.2.1 t473 (t473.length : Int) 0)) else (if (bt468.1.length : Int) = 0 then (some (bt468.2.1 == 0)) else (some false))))) else (some false))) = some r := h
 clear h
 replace H := Option.bind_eq_some_iff.mp H
 obtain ⟨t467, A50, H⟩ := H
 replace H : (if t467 = true then (if (l0.length : Int) > 24 then (some true) else ((welch_Decode.f k l0 l1 a2).bind fun bt468 => (if bt468.2.2 = 0 then ((footlockerref01_Copy.f l0).bind fun t473 => (footlockerlaw05_WelchOnce.l0 k l1 a2 a3 bt468.1 bt468.2.1 t473 (t473.length : Int) 0)) else (if (bt468.1.length : Int) = 0 then (some (bt468.2.1 == 0)) else (some false))))) else (some false)) = some r := H
 have A5 := Aside0.mk A50
 clear A50
 by_cases c6 : t467 = true
 ·subst c6
  have H1 : (if (l0.length : Int) > 24 then (some true) else ((welch_Decode.f k l0 l1 a2).bind fun bt468 => (if bt468.2.2 = 0 then ((footlockerref01_Copy.f l0).bind fun t473 => (footlockerlaw05_WelchOnce.l0 k l1 a2 a3 bt468.1 bt468.2.1 t473 (t473.length : Int) 0)) else (if (bt468.1.length : Int) = 0 then (some (bt468.2.1 == 0)) else (some false))))) = some r := by rw [if_pos rfl] at H; exact H
  clear H
  have H := H1
  clear H1
  by_cases c7 : (l0.length : Int) > 24
  ·rw [if_pos c7] at H
   have c7b0 : decide (24 < (l0.length : Int)) = true := decide_eq_true c7
   have c7b1 : decide (24 < l0.length) = true := decide_eq_true (by omega)
   clear c7
   obtain rfl := Option.some.inj H
   go_enter Try.func5, Try.ntmps5
   go_wp2_with (first | ((with_reducible refine gate_callee (f := 7) rfl ?_); refine goesL_ (some 20) rfl rfl Try.func7 (by kernel_rfl) rfl #[] rfl (by (try simp only [List.map_toArray, List.map_cons, List.map_nil]); first | done | rfl | (simp only [List.length_drop, List.length_take]; rfl)) ?_; (with_reducible refine (footlockerlaw05_alive.calls k  true _ A5.out).mono ?_); rintro e w8 ⟨rfl, hb⟩; refine ⟨_, rfl, ?_⟩; have n0_ := Aside0.mk (below_step (by repeat (first | (with_reducible first | exact HB.out | apply below_alloc | apply pw_below_drewN | apply below_drew1) | exact HB.out)) hb); clear HB; have HB := n0_; clear n0_; (try clear hb); (try clear hb2); (try clear hk); (try clear hi)))
   go_ret
   exact ⟨by first | rfl | (simp [errW_none, errW_some] <;> rfl) | (simp [*, errW_none, errW_some] <;> rfl), by repeat (first | (with_reducible first | exact HB.out | apply below_alloc | apply pw_below_drewN | apply below_drew1) | exact HB.out)⟩
  ·rw [if_neg c7] at H
   have c7b0 : decide (24 < (l0.length : Int)) = false := decide_eq_false c7
   have c7b1 : decide (24 < l0.length) = false := decide_eq_false (by omega)
   clear c7
   replace H := Option.bind_eq_some_iff.mp H
   obtain ⟨⟨t468, t469, t470⟩, A90, H⟩ := H
   replace H : (if t470 = 0 then ((footlockerref01_Copy.f l0).bind fun t473 => (footlockerlaw05_WelchOnce.l0 k l1 a2 a3 t468 t469 t473 (t473.length : Int) 0)) else (if (t468.length : Int) = 0 then (some (t469 == 0)) else (some false))) = some r := H
   have A9 := Aside0.mk A90
   clear A90
   by_cases c10 : t470 = 0
   ·rw [if_pos c10] at H
    have c10b0 : (t470 == 0) = true := beq_iff_eq.mpr c10
    have c10b1 : (t470 != 0) = false := bne_eq_false_iff_eq.mpr c10
    clear c10
    replace H := Option.bind_eq_some_iff.mp H
    obtain ⟨t473, A110, H⟩ := H
    replace H : (footlockerlaw05_WelchOnce.l0 k l1 a2 a3 t468 t469 t473 (t473.length : Int) 0) = some r := H
    have A11 := Aside0.mk A110
    clear A110
    have H' := Aside0.mk H
    clear H
    go_enter Try.func5, Try.ntmps5
    go_wp2_with (first | ((with_reducible refine gate_callee (f := 7) rfl ?_); refine goesL_ (some 20) rfl rfl Try.func7 (by kernel_rfl) rfl #[] rfl (by (try simp only [List.map_toArray, List.map_cons, List.map_nil]); first | done | rfl | (simp only [List.length_drop, List.length_take]; rfl)) ?_; (with_reducible refine (footlockerlaw05_alive.calls k  true _ A5.out).mono ?_); rintro e w12 ⟨rfl, hb⟩; refine ⟨_, rfl, ?_⟩; have n0_ := Aside0.mk (below_step (by repeat (first | (with_reducible first | exact HB.out | apply below_alloc | apply pw_below_drewN | apply below_drew1) | exact HB.out)) hb); clear HB; have HB := n0_; clear n0_; (try clear hb); (try clear hb2); (try clear hk); (try clear hi)) | ((with_reducible refine gate_callee (f := 8) rfl ?_); refine goesL_ (some 29) rfl rfl Try.func8 (by kernel_rfl) rfl #[.slice A0 l0.length c0, .slice A1 l1.length c1, .int .i64 a2] rfl (by (try simp only [List.map_toArray, List.map_cons, List.map_nil]); first | done | rfl | (simp only [List.length_drop, List.length_take]; rfl)) ?_; (with_reducible refine (welch_Decode.calls k _ _ l0 _ _ l1 a2 t468 t469 t470 _ ?side1 ?side2 ?side3 ?side4 A9.out).mono ?_); (case side1 => repeat (first | exact (Kd.C_below HR0.out HB.out) | (with_reducible refine Kd.C_alloc ?_ _) | (with_reducible refine Kd.C_drewN ?_ _) | (with_reducible refine Kd.C_drew ?_))); (case side2 => exact HC0.out); (case side3 => repeat (first | exact (Kd.C_below HR1.out HB.out) | (with_reducible refine Kd.C_alloc ?_ _) | (with_reducible refine Kd.C_drewN ?_ _) | (with_reducible refine Kd.C_drew ?_))); (case side4 => exact HC1.out); rintro e w13 ⟨v471, rfl, ho0, hb⟩; refine ⟨_, rfl, ?_⟩; have n0_ := Aside0.mk (Kd.R_lower ho0 (below_size (by repeat (first | (with_reducible first | exact HB.out | apply below_alloc | apply pw_below_drewN | apply below_drew1) | exact HB.out)))); have n1_ := Aside0.mk (below_step (by repeat (first | (with_reducible first | exact HB.out | apply below_alloc | apply pw_below_drewN | apply below_drew1) | exact HB.out)) hb); clear HB; have HO472 := n0_; have HB := n1_; clear n0_ n1_; (try clear hb); (try clear hb2); (try clear hk); (try clear hi); (try clear ho0)) | ((with_reducible refine gate_callee (f := 17) rfl ?_); refine goesL_ (some 43) rfl rfl Try.func17 (by kernel_rfl) rfl #[.slice A0 l0.length c0] rfl (by (try simp only [List.map_toArray, List.map_cons, List.map_nil]); first | done | rfl | (simp only [List.length_drop, List.length_take]; rfl)) ?_; (with_reducible refine (footlockerref01_Copy.calls _ _ l0 t473 _ ?side1 ?side2 A11.out).mono ?_); (case side1 => repeat (first | exact (Kd.C_below HR0.out HB.out) | (with_reducible refine Kd.C_alloc ?_ _) | (with_reducible refine Kd.C_drewN ?_ _) | (with_reducible refine Kd.C_drew ?_))); (case side2 => exact HC0.out); rintro e w14 ⟨v474, rfl, ho0, hb⟩; refine ⟨_, rfl, ?_⟩; have n0_ := Aside0.mk (Kd.R_elder' (by (with_reducible repeat (first | apply Kd.R_alloc | apply Kd.R_drewN | apply Kd.R_drew)); exact HO472.out) (Kd.R_base ho0) hb); have n1_ := Aside0.mk (Kd.R_lower (Kd.R_new' ho0 (Kd.R_lt (by (with_reducible repeat (first | apply Kd.R_alloc | apply Kd.R_drewN | apply Kd.R_drew)); exact HO472.out))) (below_size (by repeat (first | (with_reducible first | exact HB.out | apply below_alloc | apply pw_below_drewN | apply below_drew1) | exact HB.out)))); have n2_ := Aside0.mk (below_step (by repeat (first | (with_reducible first | exact HB.out | apply below_alloc | apply pw_below_drewN | apply below_drew1) | exact HB.out)) hb); clear HO472; clear HB; have HO472 := n0_; have HO475 := n1_; have HB := n2_; clear n0_ n1_ n2_; (try clear hb); (try clear hb2); (try clear hk); (try clear hi); (try clear ho0); obtain ⟨Ao15, co15, eo15⟩ := Kd.R_slice HO475.out; subst eo15))
    go_loopg [46] k (fun kq v46 w' => ∃ (x12_1 : List Int) (x46_1 : Int), v46 = .int .i64 x46_1 ∧ Aside0 (footlockerlaw05_WelchOnce.l0 kq l1 a2 a3 t468 t469 x12_1 (t473.length : Int) x46_1 = some r) ∧ Aside0 (kq ≤ k) ∧ Aside0 (Kd.R (Kd.int .u8) 5 w' w.heap.size (fun k_ => some k_ ≠ ((.slice Ao15 t473.length co15) : Value).ownBlock) v471 t468) ∧ Aside0 (Kd.R (Kd.int .u8) 5 w' w.heap.size (fun k_ => some k_ ≠ (v471 : Value).ownBlock) (.slice Ao15 t473.length co15) x12_1) ∧ Aside0 (Below w.heap.size w w'))
    case atStart => exact ⟨(t473), (0), (by first | rfl | (simp; done) | (simp [*]; done)), H', ⟨Nat.le_refl _⟩, ⟨by (with_reducible repeat (first | apply Kd.R_alloc | apply Kd.R_drewN | apply Kd.R_drew)); exact Kd.R_mono HO472.out (fun _ hk => hk.2)⟩, ⟨by (with_reducible repeat (first | apply Kd.R_alloc | apply Kd.R_drewN | apply Kd.R_drew)); exact Kd.R_mono HO475.out (fun _ hk => hk.2)⟩, ⟨by repeat (first | (with_reducible first | exact HB.out | apply below_alloc | apply pw_below_drewN | apply below_drew1) | exact HB.out)⟩⟩
    case round =>
     clear H'
     try clear c1
     try clear p2
     try clear c5
     try clear c6
     try clear c7
     try clear c7b0
     try clear c7b1
     try clear c8
     try clear c10
     try clear c10b0
     try clear c10b1
     obtain ⟨x12_1, x46_1, rfl, HA, HK1, HO_9, HO_12, HB⟩ := hrel
     have hl12_1 := (Kd.R_reads' HO_12.out).1
     rw [hl12_1] at HO_12
     (try simp only [hl12_1])
     (try simp only [hl12_1] at HO_9)
     cases gk with
     | zero => exact absurd HA.out (by simp [footlockerlaw05_WelchOnce.l0])
     | succ k1 =>
      have H := HA.out
      clear HA
      simp only [footlockerlaw05_WelchOnce.l0] at H
      by_cases c16 : x46_1 < (t473.length : Int)
      ·rw [if_pos c16] at H
       have c16b0 : decide (x46_1 < (t473.length : Int)) = true := decide_eq_true c16
       have c16b0r := c16b0; (try simp only [hl12_1] at c16b0r)
       clear c16
       by_cases c17 : 0 ≤ x46_1
       ·rw [if_pos c17] at H
        have c17b0 : decide (0 ≤ x46_1) = true := decide_eq_true c17
        clear c17
        by_cases c18 : x46_1 < (l1.length : Int)
        ·rw [if_pos c18] at H
         have c18b0 : decide (x46_1 < (l1.length : Int)) = true := decide_eq_true c18
         have c18b0r := c18b0; (try simp only [hl12_1] at c18b0r)
         clear c18
         obtain ⟨bq19, hbq19⟩ : ∃ b_ : Bool, b_ = (rdOf false l1 x46_1) := ⟨_, rfl⟩
         replace H : (if bq19 = true then (footlockerlaw05_WelchOnce.l0 k1 l1 a2 a3 t468 t469 x12_1 (t473.length : Int) (wrap64 (x46_1 + 1))) else (if x46_1 < (x12_1.length : Int) then (footlockerlaw05_WelchOnce.l0 k1 l1 a2 a3 t468 t469 (x12_1.set (x46_1 : Int).toNat (Go.bits .xor .u8 (rd x12_1 x46_1) a3)) (t473.length : Int) (wrap64 (x46_1 + 1))) else (none))) = some r := by rw [← hbq19] at H; exact H
         have Nbq19 := Aside0.mk hbq19
         clear hbq19
         by_cases c20 : bq19 = true
         ·subst c20
          have H1 : (footlockerlaw05_WelchOnce.l0 k1 l1 a2 a3 t468 t469 x12_1 (t473.length : Int) (wrap64 (x46_1 + 1))) = some r := by rw [if_pos rfl] at H; exact H
          clear H
          have H := H1
          clear H1
          have H' := Aside0.mk H
          clear H
          have p476 : 0 ≤ (x46_1 : Int) := of_decide_eq_true (by first | (with_reducible assumption) | assumption)
          have q476 : x46_1 < (l1.length : Int) := of_decide_eq_true (by first | (with_reducible assumption) | assumption)
          obtain ⟨ad476, e476, hx476_0⟩ := Kd.at_bool HR1.out x46_1 p476 q476
          (try rw [← Nbq19.out] at hx476_0)
          cases e476
          replace hx476_0 := (HB.out.cell (World.block_lt_of_cell? w _ hx476_0)).trans hx476_0
          replace p476 := eq_true p476
          replace q476 := eq_true q476
          go_wp2
          (try simp only [← hl12_1])
          go_roundg k1
          case measure => have := HK1.out; omega
          case rel => exact ⟨(x12_1), (wrap64 (x46_1 + 1)), (by first | rfl | (simp; done) | (simp [*]; done)), H', ⟨by have := HK1.out; omega⟩, ⟨by (try simp only [hl12_1]); (with_reducible repeat (first | apply Kd.R_alloc | apply Kd.R_drewN | apply Kd.R_drew)); exact HO_9.out⟩, ⟨by (try simp only [hl12_1]); (with_reducible repeat (first | apply Kd.R_alloc | apply Kd.R_drewN | apply Kd.R_drew)); exact HO_12.out⟩, ⟨by repeat (first | (with_reducible first | exact HB.out | apply below_alloc | apply pw_below_drewN | apply below_drew1) | exact HB.out)⟩⟩
         ·replace c20 := Bool.eq_false_iff.mpr c20
          subst c20
          have H1 : (if x46_1 < (x12_1.length : Int) then (footlockerlaw05_WelchOnce.l0 k1 l1 a2 a3 t468 t469 (x12_1.set (x46_1 : Int).toNat (Go.bits .xor .u8 (rd x12_1 x46_1) a3)) (t473.length : Int) (wrap64 (x46_1 + 1))) else (none)) = some r := by rw [if_neg (show ¬ (false = true) by decide)] at H; exact H
          clear H
          have H := H1
          clear H1
          by_cases c21 : x46_1 < (x12_1.length : Int)
          ·rw [if_pos c21] at H
           have c21b0 : decide (x46_1 < (x12_1.length : Int)) = true := decide_eq_true c21
           have c21b0r := c21b0; (try simp only [hl12_1] at c21b0r)
           clear c21
           obtain ⟨y478, hy478⟩ : ∃ y_ : List Int, y_ = (x12_1.set (x46_1 : Int).toNat (Go.bits .xor .u8 (rd x12_1 x46_1) a3)) := ⟨_, rfl⟩
           replace H : (footlockerlaw05_WelchOnce.l0 k1 l1 a2 a3 t468 t469 y478 (t473.length : Int) (wrap64 (x46_1 + 1))) = some r := by first | (rw [hy478]; with_reducible exact H) | (have H2_ := (Option.bind_some _ _).symm.trans H; rw [hy478]; with_reducible exact H2_) | (have H2_ := (Option.bind_some _ _).symm.trans H; with_reducible exact H2_) | with_reducible exact H | (rw [hy478]; exact H) | exact H
           have Ny478 := Aside0.mk hy478
           clear hy478
           have H' := Aside0.mk H
           clear H
           have p476 : 0 ≤ (x46_1 : Int) := of_decide_eq_true (by first | (with_reducible assumption) | assumption)
           have q476 : x46_1 < (l1.length : Int) := of_decide_eq_true (by first | (with_reducible assumption) | assumption)
           obtain ⟨ad476, e476, hx476_0⟩ := Kd.at_bool HR1.out x46_1 p476 q476
           (try rw [← Nbq19.out] at hx476_0)
           cases e476
           replace hx476_0 := (HB.out.cell (World.block_lt_of_cell? w _ hx476_0)).trans hx476_0
           replace p476 := eq_true p476
           replace q476 := eq_true q476
           have p477 : 0 ≤ (x46_1 : Int) := of_decide_eq_true (by first | (with_reducible assumption) | assumption)
           have q477 : x46_1 < (x12_1.length : Int) := of_decide_eq_true (by first | (with_reducible assumption) | assumption)
           obtain ⟨ad477, e477, hx477_0⟩ := Kd.at_int (Kd.R_reads' HO_12.out).2.2 x46_1 p477 q477
           cases e477
           replace p477 := eq_true p477
           replace q477 := eq_true q477
           have p22 : 0 ≤ (x46_1 : Int) := of_decide_eq_true (by first | (with_reducible assumption) | assumption)
           have q22 : (x46_1 : Int) < ((x12_1.length : Int) : Int) := of_decide_eq_true (by first | (with_reducible assumption) | assumption)
           obtain ⟨go22, co22, eo22, gb22, gl22, cl22, HG22⟩ := Kd.R_form HO_12.out (by omega)
           (first | cases eo22 | (injection eo22 with ea_ en_ ec_; (first | subst ea_ | (injection ea_ with ea_; subst ea_)); subst ec_; clear en_))
           have GB22 := Aside0.mk gb22
           have GG22 := Aside0.mk HG22
           clear gb22 gl22 HG22
           (first | simp only [add_plain] at hx477_0 | skip)
           obtain ⟨hx22_0, hf22_0⟩ := Kd.R_celln 0 HO_12.out (x46_1 : Int) p22 q22
           replace p22 := eq_true p22
           replace q22 := eq_true q22
           have HP23 := Kd.R_putg HO_12.out (x46_1 : Int) (Go.bits .xor .u8 (rd x12_1 x46_1) a3)
           go_wp2_with (first | ((with_reducible refine gate_store (t := 5) (p := 60) rfl ?_); refine store_event (t := 5) (p := 60) (v := ?vo_w24) (w1 := (wr.setCell ⟨go22, (x46_1 : Int).toNat, none⟩ (.int .u8 (Go.bits .xor .u8 (rd x12_1 x46_1) a3)))) ?hg ?ho ?hn ?hr ?_; (case ho => rfl); (case hg => rfl); (case hn => rfl); (case hr => first | (go_simp; done) | (go_simp; rfl)); intro w24 hw; have hg : wr.grownBy w24 (some go22) := (by rw [hw]; exact HP23.2); have hp_ : Kd.R (Kd.int .u8) 5 w24 w.heap.size (fun k_ => some k_ ≠ (v471 : Value).ownBlock) (.slice (some ⟨go22, 0, none⟩) x12_1.length co15) y478 := (by rw [hw, Ny478.out]; exact HP23.1); clear HP23; have n0_ := Aside0.mk (Kd.R_after (v := (.slice (some ⟨go22, 0, none⟩) x12_1.length co15)) (v1 := (.slice (some ⟨go22, 0, none⟩) x12_1.length co15)) (ok := (fun _ => True)) (by (with_reducible repeat (first | apply Kd.R_alloc | apply Kd.R_drewN | apply Kd.R_drew)); exact Kd.R_mono HO_9.out (fun _ hk => ⟨trivial, hk⟩)) hg (.inl rfl)); have n1_ := Aside0.mk (hp_); have n2_ := Aside0.mk ((by rw [hw]; exact below_set (HB.out) GB22.out : Below w.heap.size w w24)); clear HO_9; clear HO_12; clear HB; have HO_9 := n0_; have HO_12 := n1_; have HB := n2_; clear n0_ n1_ n2_; clear hg hw hp_))
           (try simp only [← hl12_1])
           go_roundg k1
           case measure => have := HK1.out; omega
           case rel => exact ⟨(y478), (wrap64 (x46_1 + 1)), (by first | rfl | (simp; done) | (simp [*]; done)), H', ⟨by have := HK1.out; omega⟩, ⟨by (try simp only [hl12_1]); (with_reducible repeat (first | apply Kd.R_alloc | apply Kd.R_drewN | apply Kd.R_drew)); exact Kd.R_mono HO_9.out (fun _ hk => hk.2)⟩, ⟨by (try simp only [hl12_1]); (with_reducible repeat (first | apply Kd.R_alloc | apply Kd.R_drewN | apply Kd.R_drew)); exact HO_12.out⟩, ⟨by repeat (first | (with_reducible first | exact HB.out | apply below_alloc | apply pw_below_drewN | apply below_drew1) | exact HB.out)⟩⟩
          ·rw [if_neg c21] at H
           exact absurd H (by simp)
        ·rw [if_neg c18] at H
         exact absurd H (by simp)
       ·rw [if_neg c17] at H
        exact absurd H (by simp)
      ·rw [if_neg c16] at H
       have c16b0 : decide (x46_1 < (t473.length : Int)) = false := decide_eq_false c16
       have c16b0r := c16b0; (try simp only [hl12_1] at c16b0r)
       clear c16
       replace H := Option.bind_eq_some_iff.mp H
       obtain ⟨⟨t479, t480, t481⟩, A250, H⟩ := H
       replace H : ((welch_Decode.f k1 t468 l1 a2).bind fun bt484 => (if t481 = 0 then (if t480 = t469 then ((footlockerref01_Same.f k1 t479 t468).bind fun t489 => (if t489 = true then (if bt484.2.2 = 0 then (if bt484.2.1 = 0 then ((footlockerref01_Same.f k1 bt484.1 t468).bind fun t490 => (if t490 = true then ((welch_Most.f k1 l1 a2).bind fun t491 => (some (decide (t469 ≤ t491)))) else (some false))) else (some false)) else (some false)) else (some false))) else (some false)) else (some false))) = some r := H
       have A25 := Aside0.mk A250
       clear A250
       replace H := Option.bind_eq_some_iff.mp H
       obtain ⟨⟨t484, t485, t486⟩, A260, H⟩ := H
       replace H : (if t481 = 0 then (if t480 = t469 then ((footlockerref01_Same.f k1 t479 t468).bind fun t489 => (if t489 = true then (if t486 = 0 then (if t485 = 0 then ((footlockerref01_Same.f k1 t484 t468).bind fun t490 => (if t490 = true then ((welch_Most.f k1 l1 a2).bind fun t491 => (some (decide (t469 ≤ t491)))) else (some false))) else (some false)) else (some false)) else (some false))) else (some false)) else (some false)) = some r := H
       have A26 := Aside0.mk A260
       clear A260
       by_cases c27 : t481 = 0
       ·rw [if_pos c27] at H
        have c27b0 : (t481 == 0) = true := beq_iff_eq.mpr c27
        have c27b1 : (t481 != 0) = false := bne_eq_false_iff_eq.mpr c27
        clear c27
        by_cases c28 : t480 = t469
        ·rw [if_pos c28] at H
         have c28b0 : (t480 == t469) = true := beq_iff_eq.mpr c28
         have c28b1 : (t480 != t469) = false := bne_eq_false_iff_eq.mpr c28
         clear c28
         replace H := Option.bind_eq_some_iff.mp H
         obtain ⟨t489, A290, H⟩ := H
         replace H : (if t489 = true then (if t486 = 0 then (if t485 = 0 then ((footlockerref01_Same.f k1 t484 t468).bind fun t490 => (if t490 = true then ((welch_Most.f k1 l1 a2).bind fun t491 => (some (decide (t469 ≤ t491)))) else (some false))) else (some false)) else (some false)) else (some false)) = some r := H
         have A29 := Aside0.mk A290
         clear A290
         by_cases c30 : t489 = true
         ·subst c30
          have H1 : (if t486 = 0 then (if t485 = 0 then ((footlockerref01_Same.f k1 t484 t468).bind fun t490 => (if t490 = true then ((welch_Most.f k1 l1 a2).bind fun t491 => (some (decide (t469 ≤ t491)))) else (some false))) else (some false)) else (some false)) = some r := by rw [if_pos rfl] at H; exact H
          clear H
          have H := H1
          clear H1
          by_cases c31 : t486 = 0
          ·rw [if_pos c31] at H
           have c31b0 : (t486 == 0) = true := beq_iff_eq.mpr c31
           have c31b1 : (t486 != 0) = false := bne_eq_false_iff_eq.mpr c31
           clear c31
           by_cases c32 : t485 = 0
           ·rw [if_pos c32] at H
            have c32b0 : (t485 == 0) = true := beq_iff_eq.mpr c32
            have c32b1 : (t485 != 0) = false := bne_eq_false_iff_eq.mpr c32
            clear c32
            replace H := Option.bind_eq_some_iff.mp H
            obtain ⟨t490, A330, H⟩ := H
            replace H : (if t490 = true then ((welch_Most.f k1 l1 a2).bind fun t491 => (some (decide (t469 ≤ t491)))) else (some false)) = some r := H
            have A33 := Aside0.mk A330
            clear A330
            by_cases c34 : t490 = true
            ·subst c34
             have H1 : ((welch_Most.f k1 l1 a2).bind fun t491 => (some (decide (t469 ≤ t491)))) = some r := by rw [if_pos rfl] at H; exact H
             clear H
             have H := H1
             clear H1
             replace H := Option.bind_eq_some_iff.mp H
             obtain ⟨t491, A350, H⟩ := H
             replace H : (some (decide (t469 ≤ t491))) = some r := H
             have A35 := Aside0.mk A350
             clear A350
             obtain rfl := Option.some.inj H
             go_wp2_with (first | ((with_reducible refine gate_callee (f := 8) rfl ?_); refine goesL_ (some 66) rfl rfl Try.func8 (by kernel_rfl) rfl #[.slice Ao15 x12_1.length co15, .slice A1 l1.length c1, .int .i64 a2] rfl (by (try simp only [List.map_toArray, List.map_cons, List.map_nil]); first | done | rfl | (simp only [List.length_drop, List.length_take]; rfl)) ?_; (with_reducible refine (welch_Decode.calls k1 _ _ x12_1 _ _ l1 a2 t479 t480 t481 _ ?side1 ?side2 ?side3 ?side4 A25.out).mono ?_); (case side1 => repeat (first | exact (Kd.R_reads' HO_12.out).2.2 | (with_reducible refine Kd.C_alloc ?_ _) | (with_reducible refine Kd.C_drewN ?_ _) | (with_reducible refine Kd.C_drew ?_))); (case side2 => exact (Kd.R_reads' HO_12.out).2.1); (case side3 => repeat (first | exact (Kd.C_below HR1.out HB.out) | (with_reducible refine Kd.C_alloc ?_ _) | (with_reducible refine Kd.C_drewN ?_ _) | (with_reducible refine Kd.C_drew ?_))); (case side4 => exact HC1.out); rintro e w36 ⟨v482, rfl, ho0, hb⟩; refine ⟨_, rfl, ?_⟩; have n0_ := Aside0.mk (Kd.R_elder' (by (with_reducible repeat (first | apply Kd.R_alloc | apply Kd.R_drewN | apply Kd.R_drew)); exact HO_9.out) (Kd.R_base ho0) hb); have n1_ := Aside0.mk (Kd.R_elder' (by (with_reducible repeat (first | apply Kd.R_alloc | apply Kd.R_drewN | apply Kd.R_drew)); exact HO_12.out) (Kd.R_base ho0) hb); have n2_ := Aside0.mk (Kd.R_lower (Kd.R_new' (Kd.R_new' ho0 (Kd.R_lt (by (with_reducible repeat (first | apply Kd.R_alloc | apply Kd.R_drewN | apply Kd.R_drew)); exact HO_9.out))) (Kd.R_lt (by (with_reducible repeat (first | apply Kd.R_alloc | apply Kd.R_drewN | apply Kd.R_drew)); exact HO_12.out))) (below_size (by repeat (first | (with_reducible first | exact HB.out | apply below_alloc | apply pw_below_drewN | apply below_drew1) | exact HB.out)))); have n3_ := Aside0.mk (below_step (by repeat (first | (with_reducible first | exact HB.out | apply below_alloc | apply pw_below_drewN | apply below_drew1) | exact HB.out)) hb); clear HO_9; clear HO_12; clear HB; have HO_9 := n0_; have HO_12 := n1_; have HO483 := n2_; have HB := n3_; clear n0_ n1_ n2_ n3_; (try clear hb); (try clear hb2); (try clear hk); (try clear hi); (try clear ho0); obtain ⟨Ao37, co37, eo37⟩ := Kd.R_slice HO_9.out; subst eo37) | ((with_reducible refine gate_callee (f := 8) rfl ?_); refine goesL_ (some 74) rfl rfl Try.func8 (by kernel_rfl) rfl #[.slice Ao37 t468.length co37, .slice A1 l1.length c1, .int .i64 a2] rfl (by (try simp only [List.map_toArray, List.map_cons, List.map_nil]); first | done | rfl | (simp only [List.length_drop, List.length_take]; rfl)) ?_; (with_reducible refine (welch_Decode.calls k1 _ _ t468 _ _ l1 a2 t484 t485 t486 _ ?side1 ?side2 ?side3 ?side4 A26.out).mono ?_); (case side1 => repeat (first | exact (Kd.R_reads' HO_9.out).2.2 | (with_reducible refine Kd.C_alloc ?_ _) | (with_reducible refine Kd.C_drewN ?_ _) | (with_reducible refine Kd.C_drew ?_))); (case side2 => exact (Kd.R_reads' HO_9.out).2.1); (case side3 => repeat (first | exact (Kd.C_below HR1.out HB.out) | (with_reducible refine Kd.C_alloc ?_ _) | (with_reducible refine Kd.C_drewN ?_ _) | (with_reducible refine Kd.C_drew ?_))); (case side4 => exact HC1.out); rintro e w38 ⟨v487, rfl, ho0, hb⟩; refine ⟨_, rfl, ?_⟩; have n0_ := Aside0.mk (Kd.R_elder' (by (with_reducible repeat (first | apply Kd.R_alloc | apply Kd.R_drewN | apply Kd.R_drew)); exact HO_9.out) (Kd.R_base ho0) hb); have n1_ := Aside0.mk (Kd.R_elder' (by (with_reducible repeat (first | apply Kd.R_alloc | apply Kd.R_drewN | apply Kd.R_drew)); exact HO_12.out) (Kd.R_base ho0) hb); have n2_ := Aside0.mk (Kd.R_elder' (by (with_reducible repeat (first | apply Kd.R_alloc | apply Kd.R_drewN | apply Kd.R_drew)); exact HO483.out) (Kd.R_base ho0) hb); have n3_ := Aside0.mk (Kd.R_lower (Kd.R_new' (Kd.R_new' (Kd.R_new' ho0 (Kd.R_lt (by (with_reducible repeat (first | apply Kd.R_alloc | apply Kd.R_drewN | apply Kd.R_drew)); exact HO_9.out))) (Kd.R_lt (by (with_reducible repeat (first | apply Kd.R_alloc | apply Kd.R_drewN | apply Kd.R_drew)); exact HO_12.out))) (Kd.R_lt (by (with_reducible repeat (first | apply Kd.R_alloc | apply Kd.R_drewN | apply Kd.R_drew)); exact HO483.out))) (below_size (by repeat (first | (with_reducible first | exact HB.out | apply below_alloc | apply pw_below_drewN | apply below_drew1) | exact HB.out)))); have n4_ := Aside0.mk (below_step (by repeat (first | (with_reducible first | exact HB.out | apply below_alloc | apply pw_below_drewN | apply below_drew1) | exact HB.out)) hb); clear HO_9; clear HO_12; clear HO483; clear HB; have HO_9 := n0_; have HO_12 := n1_; have HO483 := n2_; have HO488 := n3_; have HB := n4_; clear n0_ n1_ n2_ n3_ n4_; (try clear hb); (try clear hb2); (try clear hk); (try clear hi); (try clear ho0); obtain ⟨Ao39, co39, eo39⟩ := Kd.R_slice HO483.out; subst eo39) | (go_at_call 10; (with_reducible refine (footlockerref01_Same.calls k1 _ _ t479 _ _ t468 true _ ?side1 ?side2 ?side3 ?side4 A29.out).mono ?_); (case side1 => repeat (first | exact (Kd.R_reads' HO483.out).2.2 | (with_reducible refine Kd.C_alloc ?_ _) | (with_reducible refine Kd.C_drewN ?_ _) | (with_reducible refine Kd.C_drew ?_))); (case side2 => exact (Kd.R_reads' HO483.out).2.1); (case side3 => repeat (first | exact (Kd.R_reads' HO_9.out).2.2 | (with_reducible refine Kd.C_alloc ?_ _) | (with_reducible refine Kd.C_drewN ?_ _) | (with_reducible refine Kd.C_drew ?_))); (case side4 => exact (Kd.R_reads' HO_9.out).2.1); rintro e w' ⟨rfl, ⟨nd, rfl⟩⟩; obtain ⟨Ao40, co40, eo40⟩ := Kd.R_slice HO488.out; subst eo40) | (go_at_call 10; (with_reducible refine (footlockerref01_Same.calls k1 _ _ t484 _ _ t468 true _ ?side1 ?side2 ?side3 ?side4 A33.out).mono ?_); (case side1 => repeat (first | exact (Kd.R_reads' HO488.out).2.2 | (with_reducible refine Kd.C_alloc ?_ _) | (with_reducible refine Kd.C_drewN ?_ _) | (with_reducible refine Kd.C_drew ?_))); (case side2 => exact (Kd.R_reads' HO488.out).2.1); (case side3 => repeat (first | exact (Kd.R_reads' HO_9.out).2.2 | (with_reducible refine Kd.C_alloc ?_ _) | (with_reducible refine Kd.C_drewN ?_ _) | (with_reducible refine Kd.C_drew ?_))); (case side4 => exact (Kd.R_reads' HO_9.out).2.1); rintro e w' ⟨rfl, ⟨nd, rfl⟩⟩) | (go_at_call 11; (with_reducible refine (welch_Most.calls k1 _ _ l1 a2 t491 _ ?side1 ?side2 A35.out).mono ?_); (case side1 => repeat (first | exact (Kd.C_below HR1.out (by repeat (first | (with_reducible first | exact HB.out | apply below_alloc | apply pw_below_drewN | apply below_drew1) | exact HB.out))) | (with_reducible refine Kd.C_alloc ?_ _) | (with_reducible refine Kd.C_drewN ?_ _) | (with_reducible refine Kd.C_drew ?_))); (case side2 => exact HC1.out); rintro e w' ⟨rfl, ⟨nd, rfl⟩⟩))
             go_ret
             exact ⟨by first | rfl | (simp [errW_none, errW_some] <;> rfl) | (simp [*, errW_none, errW_some] <;> rfl), by repeat (first | (with_reducible first | exact HB.out | apply below_alloc | apply pw_below_drewN | apply below_drew1) | exact HB.out)⟩
            ·replace c34 := Bool.eq_false_iff.mpr c34
             subst c34
             have H1 : (some false) = some r := by rw [if_neg (show ¬ (false = true) by decide)] at H; exact H
             clear H
             have H := H1
             clear H1
             obtain rfl := Option.some.inj H
             go_wp2_with (first | ((with_reducible refine gate_callee (f := 8) rfl ?_); refine goesL_ (some 66) rfl rfl Try.func8 (by kernel_rfl) rfl #[.slice Ao15 x12_1.length co15, .slice A1 l1.length c1, .int .i64 a2] rfl (by (try simp only [List.map_toArray, List.map_cons, List.map_nil]); first | done | rfl | (simp only [List.length_drop, List.length_take]; rfl)) ?_; (with_reducible refine (welch_Decode.calls k1 _ _ x12_1 _ _ l1 a2 t479 t480 t481 _ ?side1 ?side2 ?side3 ?side4 A25.out).mono ?_); (case side1 => repeat (first | exact (Kd.R_reads' HO_12.out).2.2 | (with_reducible refine Kd.C_alloc ?_ _) | (with_reducible refine Kd.C_drewN ?_ _) | (with_reducible refine Kd.C_drew ?_))); (case side2 => exact (Kd.R_reads' HO_12.out).2.1); (case side3 => repeat (first | exact (Kd.C_below HR1.out HB.out) | (with_reducible refine Kd.C_alloc ?_ _) | (with_reducible refine Kd.C_drewN ?_ _) | (with_reducible refine Kd.C_drew ?_))); (case side4 => exact HC1.out); rintro e w41 ⟨v482, rfl, ho0, hb⟩; refine ⟨_, rfl, ?_⟩; have n0_ := Aside0.mk (Kd.R_elder' (by (with_reducible repeat (first | apply Kd.R_alloc | apply Kd.R_drewN | apply Kd.R_drew)); exact HO_9.out) (Kd.R_base ho0) hb); have n1_ := Aside0.mk (Kd.R_elder' (by (with_reducible repeat (first | apply Kd.R_alloc | apply Kd.R_drewN | apply Kd.R_drew)); exact HO_12.out) (Kd.R_base ho0) hb); have n2_ := Aside0.mk (Kd.R_lower (Kd.R_new' (Kd.R_new' ho0 (Kd.R_lt (by (with_reducible repeat (first | apply Kd.R_alloc | apply Kd.R_drewN | apply Kd.R_drew)); exact HO_9.out))) (Kd.R_lt (by (with_reducible repeat (first | apply Kd.R_alloc | apply Kd.R_drewN | apply Kd.R_drew)); exact HO_12.out))) (below_size (by repeat (first | (with_reducible first | exact HB.out | apply below_alloc | apply pw_below_drewN | apply below_drew1) | exact HB.out)))); have n3_ := Aside0.mk (below_step (by repeat (first | (with_reducible first | exact HB.out | apply below_alloc | apply pw_below_drewN | apply below_drew1) | exact HB.out)) hb); clear HO_9; clear HO_12; clear HB; have HO_9 := n0_; have HO_12 := n1_; have HO483 := n2_; have HB := n3_; clear n0_ n1_ n2_ n3_; (try clear hb); (try clear hb2); (try clear hk); (try clear hi); (try clear ho0); obtain ⟨Ao42, co42, eo42⟩ := Kd.R_slice HO_9.out; subst eo42) | ((with_reducible refine gate_callee (f := 8) rfl ?_); refine goesL_ (some 74) rfl rfl Try.func8 (by kernel_rfl) rfl #[.slice Ao42 t468.length co42, .slice A1 l1.length c1, .int .i64 a2] rfl (by (try simp only [List.map_toArray, List.map_cons, List.map_nil]); first | done | rfl | (simp only [List.length_drop, List.length_take]; rfl)) ?_; (with_reducible refine (welch_Decode.calls k1 _ _ t468 _ _ l1 a2 t484 t485 t486 _ ?side1 ?side2 ?side3 ?side4 A26.out).mono ?_); (case side1 => repeat (first | exact (Kd.R_reads' HO_9.out).2.2 | (with_reducible refine Kd.C_alloc ?_ _) | (with_reducible refine Kd.C_drewN ?_ _) | (with_reducible refine Kd.C_drew ?_))); (case side2 => exact (Kd.R_reads' HO_9.out).2.1); (case side3 => repeat (first | exact (Kd.C_below HR1.out HB.out) | (with_reducible refine Kd.C_alloc ?_ _) | (with_reducible refine Kd.C_drewN ?_ _) | (with_reducible refine Kd.C_drew ?_))); (case side4 => exact HC1.out); rintro e w43 ⟨v487, rfl, ho0, hb⟩; refine ⟨_, rfl, ?_⟩; have n0_ := Aside0.mk (Kd.R_elder' (by (with_reducible repeat (first | apply Kd.R_alloc | apply Kd.R_drewN | apply Kd.R_drew)); exact HO_9.out) (Kd.R_base ho0) hb); have n1_ := Aside0.mk (Kd.R_elder' (by (with_reducible repeat (first | apply Kd.R_alloc | apply Kd.R_drewN | apply Kd.R_drew)); exact HO_12.out) (Kd.R_base ho0) hb); have n2_ := Aside0.mk (Kd.R_elder' (by (with_reducible repeat (first | apply Kd.R_alloc | apply Kd.R_drewN | apply Kd.R_drew)); exact HO483.out) (Kd.R_base ho0) hb); have n3_ := Aside0.mk (Kd.R_lower (Kd.R_new' (Kd.R_new' (Kd.R_new' ho0 (Kd.R_lt (by (with_reducible repeat (first | apply Kd.R_alloc | apply Kd.R_drewN | apply Kd.R_drew)); exact HO_9.out))) (Kd.R_lt (by (with_reducible repeat (first | apply Kd.R_alloc | apply Kd.R_drewN | apply Kd.R_drew)); exact HO_12.out))) (Kd.R_lt (by (with_reducible repeat (first | apply Kd.R_alloc | apply Kd.R_drewN | apply Kd.R_drew)); exact HO483.out))) (below_size (by repeat (first | (with_reducible first | exact HB.out | apply below_alloc | apply pw_below_drewN | apply below_drew1) | exact HB.out)))); have n4_ := Aside0.mk (below_step (by repeat (first | (with_reducible first | exact HB.out | apply below_alloc | apply pw_below_drewN | apply below_drew1) | exact HB.out)) hb); clear HO_9; clear HO_12; clear HO483; clear HB; have HO_9 := n0_; have HO_12 := n1_; have HO483 := n2_; have HO488 := n3_; have HB := n4_; clear n0_ n1_ n2_ n3_ n4_; (try clear hb); (try clear hb2); (try clear hk); (try clear hi); (try clear ho0); obtain ⟨Ao44, co44, eo44⟩ := Kd.R_slice HO483.out; subst eo44) | (go_at_call 10; (with_reducible refine (footlockerref01_Same.calls k1 _ _ t479 _ _ t468 true _ ?side1 ?side2 ?side3 ?side4 A29.out).mono ?_); (case side1 => repeat (first | exact (Kd.R_reads' HO483.out).2.2 | (with_reducible refine Kd.C_alloc ?_ _) | (with_reducible refine Kd.C_drewN ?_ _) | (with_reducible refine Kd.C_drew ?_))); (case side2 => exact (Kd.R_reads' HO483.out).2.1); (case side3 => repeat (first | exact (Kd.R_reads' HO_9.out).2.2 | (with_reducible refine Kd.C_alloc ?_ _) | (with_reducible refine Kd.C_drewN ?_ _) | (with_reducible refine Kd.C_drew ?_))); (case side4 => exact (Kd.R_reads' HO_9.out).2.1); rintro e w' ⟨rfl, ⟨nd, rfl⟩⟩; obtain ⟨Ao45, co45, eo45⟩ := Kd.R_slice HO488.out; subst eo45) | (go_at_call 10; (with_reducible refine (footlockerref01_Same.calls k1 _ _ t484 _ _ t468 false _ ?side1 ?side2 ?side3 ?side4 A33.out).mono ?_); (case side1 => repeat (first | exact (Kd.R_reads' HO488.out).2.2 | (with_reducible refine Kd.C_alloc ?_ _) | (with_reducible refine Kd.C_drewN ?_ _) | (with_reducible refine Kd.C_drew ?_))); (case side2 => exact (Kd.R_reads' HO488.out).2.1); (case side3 => repeat (first | exact (Kd.R_reads' HO_9.out).2.2 | (with_reducible refine Kd.C_alloc ?_ _) | (with_reducible refine Kd.C_drewN ?_ _) | (with_reducible refine Kd.C_drew ?_))); (case side4 => exact (Kd.R_reads' HO_9.out).2.1); rintro e w' ⟨rfl, ⟨nd, rfl⟩⟩))
             go_ret
             exact ⟨by first | rfl | (simp [errW_none, errW_some] <;> rfl) | (simp [*, errW_none, errW_some] <;> rfl), by repeat (first | (with_reducible first | exact HB.out | apply below_alloc | apply pw_below_drewN | apply below_drew1) | exact HB.out)⟩
           ·rw [if_neg c32] at H
            have c32b0 : (t485 == 0) = false := beq_eq_false_iff_ne.mpr c32
            have c32b1 : (t485 != 0) = true := bne_iff_ne.mpr c32
            obtain rfl := Option.some.inj H
            go_wp2_with (first | ((with_reducible refine gate_callee (f := 8) rfl ?_); refine goesL_ (some 66) rfl rfl Try.func8 (by kernel_rfl) rfl #[.slice Ao15 x12_1.length co15, .slice A1 l1.length c1, .int .i64 a2] rfl (by (try simp only [List.map_toArray, List.map_cons, List.map_nil]); first | done | rfl | (simp only [List.length_drop, List.length_take]; rfl)) ?_; (with_reducible refine (welch_Decode.calls k1 _ _ x12_1 _ _ l1 a2 t479 t480 t481 _ ?side1 ?side2 ?side3 ?side4 A25.out).mono ?_); (case side1 => repeat (first | exact (Kd.R_reads' HO_12.out).2.2 | (with_reducible refine Kd.C_alloc ?_ _) | (with_reducible refine Kd.C_drewN ?_ _) | (with_reducible refine Kd.C_drew ?_))); (case side2 => exact (Kd.R_reads' HO_12.out).2.1); (case side3 => repeat (first | exact (Kd.C_below HR1.out HB.out) | (with_reducible refine Kd.C_alloc ?_ _) | (with_reducible refine Kd.C_drewN ?_ _) | (with_reducible refine Kd.C_drew ?_))); (case side4 => exact HC1.out); rintro e w46 ⟨v482, rfl, ho0, hb⟩; refine ⟨_, rfl, ?_⟩; have n0_ := Aside0.mk (Kd.R_elder' (by (with_reducible repeat (first | apply Kd.R_alloc | apply Kd.R_drewN | apply Kd.R_drew)); exact HO_9.out) (Kd.R_base ho0) hb); have n1_ := Aside0.mk (Kd.R_elder' (by (with_reducible repeat (first | apply Kd.R_alloc | apply Kd.R_drewN | apply Kd.R_drew)); exact HO_12.out) (Kd.R_base ho0) hb); have n2_ := Aside0.mk (Kd.R_lower (Kd.R_new' (Kd.R_new' ho0 (Kd.R_lt (by (with_reducible repeat (first | apply Kd.R_alloc | apply Kd.R_drewN | apply Kd.R_drew)); exact HO_9.out))) (Kd.R_lt (by (with_reducible repeat (first | apply Kd.R_alloc | apply Kd.R_drewN | apply Kd.R_drew)); exact HO_12.out))) (below_size (by repeat (first | (with_reducible first | exact HB.out | apply below_alloc | apply pw_below_drewN | apply below_drew1) | exact HB.out)))); have n3_ := Aside0.mk (below_step (by repeat (first | (with_reducible first | exact HB.out | apply below_alloc | apply pw_below_drewN | apply below_drew1) | exact HB.out)) hb); clear HO_9; clear HO_12; clear HB; have HO_9 := n0_; have HO_12 := n1_; have HO483 := n2_; have HB := n3_; clear n0_ n1_ n2_ n3_; (try clear hb); (try clear hb2); (try clear hk); (try clear hi); (try clear ho0); obtain ⟨Ao47, co47, eo47⟩ := Kd.R_slice HO_9.out; subst eo47) | ((with_reducible refine gate_callee (f := 8) rfl ?_); refine goesL_ (some 74) rfl rfl Try.func8 (by kernel_rfl) rfl #[.slice Ao47 t468.length co47, .slice A1 l1.length c1, .int .i64 a2] rfl (by (try simp only [List.map_toArray, List.map_cons, List.map_nil]); first | done | rfl | (simp only [List.length_drop, List.length_take]; rfl)) ?_; (with_reducible refine (welch_Decode.calls k1 _ _ t468 _ _ l1 a2 t484 t485 t486 _ ?side1 ?side2 ?side3 ?side4 A26.out).mono ?_); (case side1 => repeat (first | exact (Kd.R_reads' HO_9.out).2.2 | (with_reducible refine Kd.C_alloc ?_ _) | (with_reducible refine Kd.C_drewN ?_ _) | (with_reducible refine Kd.C_drew ?_))); (case side2 => exact (Kd.R_reads' HO_9.out).2.1); (case side3 => repeat (first | exact (Kd.C_below HR1.out HB.out) | (with_reducible refine Kd.C_alloc ?_ _) | (with_reducible refine Kd.C_drewN ?_ _) | (with_reducible refine Kd.C_drew ?_))); (case side4 => exact HC1.out); rintro e w48 ⟨v487, rfl, ho0, hb⟩; refine ⟨_, rfl, ?_⟩; have n0_ := Aside0.mk (Kd.R_elder' (by (with_reducible repeat (first | apply Kd.R_alloc | apply Kd.R_drewN | apply Kd.R_drew)); exact HO_9.out) (Kd.R_base ho0) hb); have n1_ := Aside0.mk (Kd.R_elder' (by (with_reducible repeat (first | apply Kd.R_alloc | apply Kd.R_drewN | apply Kd.R_drew)); exact HO_12.out) (Kd.R_base ho0) hb); have n2_ := Aside0.mk (Kd.R_elder' (by (with_reducible repeat (first | apply Kd.R_alloc | apply Kd.R_drewN | apply Kd.R_drew)); exact HO483.out) (Kd.R_base ho0) hb); have n3_ := Aside0.mk (Kd.R_lower (Kd.R_new' (Kd.R_new' (Kd.R_new' ho0 (Kd.R_lt (by (with_reducible repeat (first | apply Kd.R_alloc | apply Kd.R_drewN | apply Kd.R_drew)); exact HO_9.out))) (Kd.R_lt (by (with_reducible repeat (first | apply Kd.R_alloc | apply Kd.R_drewN | apply Kd.R_drew)); exact HO_12.out))) (Kd.R_lt (by (with_reducible repeat (first | apply Kd.R_alloc | apply Kd.R_drewN | apply Kd.R_drew)); exact HO483.out))) (below_size (by repeat (first | (with_reducible first | exact HB.out | apply below_alloc | apply pw_below_drewN | apply below_drew1) | exact HB.out)))); have n4_ := Aside0.mk (below_step (by repeat (first | (with_reducible first | exact HB.out | apply below_alloc | apply pw_below_drewN | apply below_drew1) | exact HB.out)) hb); clear HO_9; clear HO_12; clear HO483; clear HB; have HO_9 := n0_; have HO_12 := n1_; have HO483 := n2_; have HO488 := n3_; have HB := n4_; clear n0_ n1_ n2_ n3_ n4_; (try clear hb); (try clear hb2); (try clear hk); (try clear hi); (try clear ho0); obtain ⟨Ao49, co49, eo49⟩ := Kd.R_slice HO483.out; subst eo49) | (go_at_call 10; (with_reducible refine (footlockerref01_Same.calls k1 _ _ t479 _ _ t468 true _ ?side1 ?side2 ?side3 ?side4 A29.out).mono ?_); (case side1 => repeat (first | exact (Kd.R_reads' HO483.out).2.2 | (with_reducible refine Kd.C_alloc ?_ _) | (with_reducible refine Kd.C_drewN ?_ _) | (with_reducible refine Kd.C_drew ?_))); (case side2 => exact (Kd.R_reads' HO483.out).2.1); (case side3 => repeat (first | exact (Kd.R_reads' HO_9.out).2.2 | (with_reducible refine Kd.C_alloc ?_ _) | (with_reducible refine Kd.C_drewN ?_ _) | (with_reducible refine Kd.C_drew ?_))); (case side4 => exact (Kd.R_reads' HO_9.out).2.1); rintro e w' ⟨rfl, ⟨nd, rfl⟩⟩))
            go_ret
            exact ⟨by first | rfl | (simp [errW_none, errW_some] <;> rfl) | (simp [*, errW_none, errW_some] <;> rfl), by repeat (first | (with_reducible first | exact HB.out | apply below_alloc | apply pw_below_drewN | apply below_drew1) | exact HB.out)⟩
          ·rw [if_neg c31] at H
           have c31b0 : (t486 == 0) = false := beq_eq_false_iff_ne.mpr c31
           have c31b1 : (t486 != 0) = true := bne_iff_ne.mpr c31
           obtain rfl := Option.some.inj H
           go_wp2_with (first | ((with_reducible refine gate_callee (f := 8) rfl ?_); refine goesL_ (some 66) rfl rfl Try.func8 (by kernel_rfl) rfl #[.slice Ao15 x12_1.length co15, .slice A1 l1.length c1, .int .i64 a2] rfl (by (try simp only [List.map_toArray, List.map_cons, List.map_nil]); first | done | rfl | (simp only [List.length_drop, List.length_take]; rfl)) ?_; (with_reducible refine (welch_Decode.calls k1 _ _ x12_1 _ _ l1 a2 t479 t480 t481 _ ?side1 ?side2 ?side3 ?side4 A25.out).mono ?_); (case side1 => repeat (first | exact (Kd.R_reads' HO_12.out).2.2 | (with_reducible refine Kd.C_alloc ?_ _) | (with_reducible refine Kd.C_drewN ?_ _) | (with_reducible refine Kd.C_drew ?_))); (case side2 => exact (Kd.R_reads' HO_12.out).2.1); (case side3 => repeat (first | exact (Kd.C_below HR1.out HB.out) | (with_reducible refine Kd.C_alloc ?_ _) | (with_reducible refine Kd.C_drewN ?_ _) | (with_reducible refine Kd.C_drew ?_))); (case side4 => exact HC1.out); rintro e w50 ⟨v482, rfl, ho0, hb⟩; refine ⟨_, rfl, ?_⟩; have n0_ := Aside0.mk (Kd.R_elder' (by (with_reducible repeat (first | apply Kd.R_alloc | apply Kd.R_drewN | apply Kd.R_drew)); exact HO_9.out) (Kd.R_base ho0) hb); have n1_ := Aside0.mk (Kd.R_elder' (by (with_reducible repeat (first | apply Kd.R_alloc | apply Kd.R_drewN | apply Kd.R_drew)); exact HO_12.out) (Kd.R_base ho0) hb); have n2_ := Aside0.mk (Kd.R_lower (Kd.R_new' (Kd.R_new' ho0 (Kd.R_lt (by (with_reducible repeat (first | apply Kd.R_alloc | apply Kd.R_drewN | apply Kd.R_drew)); exact HO_9.out))) (Kd.R_lt (by (with_reducible repeat (first | apply Kd.R_alloc | apply Kd.R_drewN | apply Kd.R_drew)); exact HO_12.out))) (below_size (by repeat (first | (with_reducible first | exact HB.out | apply below_alloc | apply pw_below_drewN | apply below_drew1) | exact HB.out)))); have n3_ := Aside0.mk (below_step (by repeat (first | (with_reducible first | exact HB.out | apply below_alloc | apply pw_below_drewN | apply below_drew1) | exact HB.out)) hb); clear HO_9; clear HO_12; clear HB; have HO_9 := n0_; have HO_12 := n1_; have HO483 := n2_; have HB := n3_; clear n0_ n1_ n2_ n3_; (try clear hb); (try clear hb2); (try clear hk); (try clear hi); (try clear ho0); obtain ⟨Ao51, co51, eo51⟩ := Kd.R_slice HO_9.out; subst eo51) | ((with_reducible refine gate_callee (f := 8) rfl ?_); refine goesL_ (some 74) rfl rfl Try.func8 (by kernel_rfl) rfl #[.slice Ao51 t468.length co51, .slice A1 l1.length c1, .int .i64 a2] rfl (by (try simp only [List.map_toArray, List.map_cons, List.map_nil]); first | done | rfl | (simp only [List.length_drop, List.length_take]; rfl)) ?_; (with_reducible refine (welch_Decode.calls k1 _ _ t468 _ _ l1 a2 t484 t485 t486 _ ?side1 ?side2 ?side3 ?side4 A26.out).mono ?_); (case side1 => repeat (first | exact (Kd.R_reads' HO_9.out).2.2 | (with_reducible refine Kd.C_alloc ?_ _) | (with_reducible refine Kd.C_drewN ?_ _) | (with_reducible refine Kd.C_drew ?_))); (case side2 => exact (Kd.R_reads' HO_9.out).2.1); (case side3 => repeat (first | exact (Kd.C_below HR1.out HB.out) | (with_reducible refine Kd.C_alloc ?_ _) | (with_reducible refine Kd.C_drewN ?_ _) | (with_reducible refine Kd.C_drew ?_))); (case side4 => exact HC1.out); rintro e w52 ⟨v487, rfl, ho0, hb⟩; refine ⟨_, rfl, ?_⟩; have n0_ := Aside0.mk (Kd.R_elder' (by (with_reducible repeat (first | apply Kd.R_alloc | apply Kd.R_drewN | apply Kd.R_drew)); exact HO_9.out) (Kd.R_base ho0) hb); have n1_ := Aside0.mk (Kd.R_elder' (by (with_reducible repeat (first | apply Kd.R_alloc | apply Kd.R_drewN | apply Kd.R_drew)); exact HO_12.out) (Kd.R_base ho0) hb); have n2_ := Aside0.mk (Kd.R_elder' (by (with_reducible repeat (first | apply Kd.R_alloc | apply Kd.R_drewN | apply Kd.R_drew)); exact HO483.out) (Kd.R_base ho0) hb); have n3_ := Aside0.mk (Kd.R_lower (Kd.R_new' (Kd.R_new' (Kd.R_new' ho0 (Kd.R_lt (by (with_reducible repeat (first | apply Kd.R_alloc | apply Kd.R_drewN | apply Kd.R_drew)); exact HO_9.out))) (Kd.R_lt (by (with_reducible repeat (first | apply Kd.R_alloc | apply Kd.R_drewN | apply Kd.R_drew)); exact HO_12.out))) (Kd.R_lt (by (with_reducible repeat (first | apply Kd.R_alloc | apply Kd.R_drewN | apply Kd.R_drew)); exact HO483.out))) (below_size (by repeat (first | (with_reducible first | exact HB.out | apply below_alloc | apply pw_below_drewN | apply below_drew1) | exact HB.out)))); have n4_ := Aside0.mk (below_step (by repeat (first | (with_reducible first | exact HB.out | apply below_alloc | apply pw_below_drewN | apply below_drew1) | exact HB.out)) hb); clear HO_9; clear HO_12; clear HO483; clear HB; have HO_9 := n0_; have HO_12 := n1_; have HO483 := n2_; have HO488 := n3_; have HB := n4_; clear n0_ n1_ n2_ n3_ n4_; (try clear hb); (try clear hb2); (try clear hk); (try clear hi); (try clear ho0); obtain ⟨Ao53, co53, eo53⟩ := Kd.R_slice HO483.out; subst eo53) | (go_at_call 10; (with_reducible refine (footlockerref01_Same.calls k1 _ _ t479 _ _ t468 true _ ?side1 ?side2 ?side3 ?side4 A29.out).mono ?_); (case side1 => repeat (first | exact (Kd.R_reads' HO483.out).2.2 | (with_reducible refine Kd.C_alloc ?_ _) | (with_reducible refine Kd.C_drewN ?_ _) | (with_reducible refine Kd.C_drew ?_))); (case side2 => exact (Kd.R_reads' HO483.out).2.1); (case side3 => repeat (first | exact (Kd.R_reads' HO_9.out).2.2 | (with_reducible refine Kd.C_alloc ?_ _) | (with_reducible refine Kd.C_drewN ?_ _) | (with_reducible refine Kd.C_drew ?_))); (case side4 => exact (Kd.R_reads' HO_9.out).2.1); rintro e w' ⟨rfl, ⟨nd, rfl⟩⟩))
           go_ret
           exact ⟨by first | rfl | (simp [errW_none, errW_some] <;> rfl) | (simp [*, errW_none, errW_some] <;> rfl), by repeat (first | (with_reducible first | exact HB.out | apply below_alloc | apply pw_below_drewN | apply below_drew1) | exact HB.out)⟩
         ·replace c30 := Bool.eq_false_iff.mpr c30
          subst c30
          have H1 : (some false) = some r := by rw [if_neg (show ¬ (false = true) by decide)] at H; exact H
          clear H
          have H := H1
          clear H1
          obtain rfl := Option.some.inj H
          go_wp2_with (first | ((with_reducible refine gate_callee (f := 8) rfl ?_); refine goesL_ (some 66) rfl rfl Try.func8 (by kernel_rfl) rfl #[.slice Ao15 x12_1.length co15, .slice A1 l1.length c1, .int .i64 a2] rfl (by (try simp only [List.map_toArray, List.map_cons, List.map_nil]); first | done | rfl | (simp only [List.length_drop, List.length_take]; rfl)) ?_; (with_reducible refine (welch_Decode.calls k1 _ _ x12_1 _ _ l1 a2 t479 t480 t481 _ ?side1 ?side2 ?side3 ?side4 A25.out).mono ?_); (case side1 => repeat (first | exact (Kd.R_reads' HO_12.out).2.2 | (with_reducible refine Kd.C_alloc ?_ _) | (with_reducible refine Kd.C_drewN ?_ _) | (with_reducible refine Kd.C_drew ?_))); (case side2 => exact (Kd.R_reads' HO_12.out).2.1); (case side3 => repeat (first | exact (Kd.C_below HR1.out HB.out) | (with_reducible refine Kd.C_alloc ?_ _) | (with_reducible refine Kd.C_drewN ?_ _) | (with_reducible refine Kd.C_drew ?_))); (case side4 => exact HC1.out); rintro e w54 ⟨v482, rfl, ho0, hb⟩; refine ⟨_, rfl, ?_⟩; have n0_ := Aside0.mk (Kd.R_elder' (by (with_reducible repeat (first | apply Kd.R_alloc | apply Kd.R_drewN | apply Kd.R_drew)); exact HO_9.out) (Kd.R_base ho0) hb); have n1_ := Aside0.mk (Kd.R_elder' (by (with_reducible repeat (first | apply Kd.R_alloc | apply Kd.R_drewN | apply Kd.R_drew)); exact HO_12.out) (Kd.R_base ho0) hb); have n2_ := Aside0.mk (Kd.R_lower (Kd.R_new' (Kd.R_new' ho0 (Kd.R_lt (by (with_reducible repeat (first | apply Kd.R_alloc | apply Kd.R_drewN | apply Kd.R_drew)); exact HO_9.out))) (Kd.R_lt (by (with_reducible repeat (first | apply Kd.R_alloc | apply Kd.R_drewN | apply Kd.R_drew)); exact HO_12.out))) (below_size (by repeat (first | (with_reducible first | exact HB.out | apply below_alloc | apply pw_below_drewN | apply below_drew1) | exact HB.out)))); have n3_ := Aside0.mk (below_step (by repeat (first | (with_reducible first | exact HB.out | apply below_alloc | apply pw_below_drewN | apply below_drew1) | exact HB.out)) hb); clear HO_9; clear HO_12; clear HB; have HO_9 := n0_; have HO_12 := n1_; have HO483 := n2_; have HB := n3_; clear n0_ n1_ n2_ n3_; (try clear hb); (try clear hb2); (try clear hk); (try clear hi); (try clear ho0); obtain ⟨Ao55, co55, eo55⟩ := Kd.R_slice HO_9.out; subst eo55) | ((with_reducible refine gate_callee (f := 8) rfl ?_); refine goesL_ (some 74) rfl rfl Try.func8 (by kernel_rfl) rfl #[.slice Ao55 t468.length co55, .slice A1 l1.length c1, .int .i64 a2] rfl (by (try simp only [List.map_toArray, List.map_cons, List.map_nil]); first | done | rfl | (simp only [List.length_drop, List.length_take]; rfl)) ?_; (with_reducible refine (welch_Decode.calls k1 _ _ t468 _ _ l1 a2 t484 t485 t486 _ ?side1 ?side2 ?side3 ?side4 A26.out).mono ?_); (case side1 => repeat (first | exact (Kd.R_reads' HO_9.out).2.2 | (with_reducible refine Kd.C_alloc ?_ _) | (with_reducible refine Kd.C_drewN ?_ _) | (with_reducible refine Kd.C_drew ?_))); (case side2 => exact (Kd.R_reads' HO_9.out).2.1); (case side3 => repeat (first | exact (Kd.C_below HR1.out HB.out) | (with_reducible refine Kd.C_alloc ?_ _) | (with_reducible refine Kd.C_drewN ?_ _) | (with_reducible refine Kd.C_drew ?_))); (case side4 => exact HC1.out); rintro e w56 ⟨v487, rfl, ho0, hb⟩; refine ⟨_, rfl, ?_⟩; have n0_ := Aside0.mk (Kd.R_elder' (by (with_reducible repeat (first | apply Kd.R_alloc | apply Kd.R_drewN | apply Kd.R_drew)); exact HO_9.out) (Kd.R_base ho0) hb); have n1_ := Aside0.mk (Kd.R_elder' (by (with_reducible repeat (first | apply Kd.R_alloc | apply Kd.R_drewN | apply Kd.R_drew)); exact HO_12.out) (Kd.R_base ho0) hb); have n2_ := Aside0.mk (Kd.R_elder' (by (with_reducible repeat (first | apply Kd.R_alloc | apply Kd.R_drewN | apply Kd.R_drew)); exact HO483.out) (Kd.R_base ho0) hb); have n3_ := Aside0.mk (Kd.R_lower (Kd.R_new' (Kd.R_new' (Kd.R_new' ho0 (Kd.R_lt (by (with_reducible repeat (first | apply Kd.R_alloc | apply Kd.R_drewN | apply Kd.R_drew)); exact HO_9.out))) (Kd.R_lt (by (with_reducible repeat (first | apply Kd.R_alloc | apply Kd.R_drewN | apply Kd.R_drew)); exact HO_12.out))) (Kd.R_lt (by (with_reducible repeat (first | apply Kd.R_alloc | apply Kd.R_drewN | apply Kd.R_drew)); exact HO483.out))) (below_size (by repeat (first | (with_reducible first | exact HB.out | apply below_alloc | apply pw_below_drewN | apply below_drew1) | exact HB.out)))); have n4_ := Aside0.mk (below_step (by repeat (first | (with_reducible first | exact HB.out | apply below_alloc | apply pw_below_drewN | apply below_drew1) | exact HB.out)) hb); clear HO_9; clear HO_12; clear HO483; clear HB; have HO_9 := n0_; have HO_12 := n1_; have HO483 := n2_; have HO488 := n3_; have HB := n4_; clear n0_ n1_ n2_ n3_ n4_; (try clear hb); (try clear hb2); (try clear hk); (try clear hi); (try clear ho0); obtain ⟨Ao57, co57, eo57⟩ := Kd.R_slice HO483.out; subst eo57) | (go_at_call 10; (with_reducible refine (footlockerref01_Same.calls k1 _ _ t479 _ _ t468 false _ ?side1 ?side2 ?side3 ?side4 A29.out).mono ?_); (case side1 => repeat (first | exact (Kd.R_reads' HO483.out).2.2 | (with_reducible refine Kd.C_alloc ?_ _) | (with_reducible refine Kd.C_drewN ?_ _) | (with_reducible refine Kd.C_drew ?_))); (case side2 => exact (Kd.R_reads' HO483.out).2.1); (case side3 => repeat (first | exact (Kd.R_reads' HO_9.out).2.2 | (with_reducible refine Kd.C_alloc ?_ _) | (with_reducible refine Kd.C_drewN ?_ _) | (with_reducible refine Kd.C_drew ?_))); (case side4 => exact (Kd.R_reads' HO_9.out).2.1); rintro e w' ⟨rfl, ⟨nd, rfl⟩⟩))
          go_ret
          exact ⟨by first | rfl | (simp [errW_none, errW_some] <;> rfl) | (simp [*, errW_none, errW_some] <;> rfl), by repeat (first | (with_reducible first | exact HB.out | apply below_alloc | apply pw_below_drewN | apply below_drew1) | exact HB.out)⟩
        ·rw [if_neg c28] at H
         have c28b0 : (t480 == t469) = false := beq_eq_false_iff_ne.mpr c28
         have c28b1 : (t480 != t469) = true := bne_iff_ne.mpr c28
         obtain rfl := Option.some.inj H
         go_wp2_with (first | ((with_reducible refine gate_callee (f := 8) rfl ?_); refine goesL_ (some 66) rfl rfl Try.func8 (by kernel_rfl) rfl #[.slice Ao15 x12_1.length co15, .slice A1 l1.length c1, .int .i64 a2] rfl (by (try simp only [List.map_toArray, List.map_cons, List.map_nil]); first | done | rfl | (simp only [List.length_drop, List.length_take]; rfl)) ?_; (with_reducible refine (welch_Decode.calls k1 _ _ x12_1 _ _ l1 a2 t479 t480 t481 _ ?side1 ?side2 ?side3 ?side4 A25.out).mono ?_); (case side1 => repeat (first | exact (Kd.R_reads' HO_12.out).2.2 | (with_reducible refine Kd.C_alloc ?_ _) | (with_reducible refine Kd.C_drewN ?_ _) | (with_reducible refine Kd.C_drew ?_))); (case side2 => exact (Kd.R_reads' HO_12.out).2.1); (case side3 => repeat (first | exact (Kd.C_below HR1.out HB.out) | (with_reducible refine Kd.C_alloc ?_ _) | (with_reducible refine Kd.C_drewN ?_ _) | (with_reducible refine Kd.C_drew ?_))); (case side4 => exact HC1.out); rintro e w58 ⟨v482, rfl, ho0, hb⟩; refine ⟨_, rfl, ?_⟩; have n0_ := Aside0.mk (Kd.R_elder' (by (with_reducible repeat (first | apply Kd.R_alloc | apply Kd.R_drewN | apply Kd.R_drew)); exact HO_9.out) (Kd.R_base ho0) hb); have n1_ := Aside0.mk (Kd.R_elder' (by (with_reducible repeat (first | apply Kd.R_alloc | apply Kd.R_drewN | apply Kd.R_drew)); exact HO_12.out) (Kd.R_base ho0) hb); have n2_ := Aside0.mk (Kd.R_lower (Kd.R_new' (Kd.R_new' ho0 (Kd.R_lt (by (with_reducible repeat (first | apply Kd.R_alloc | apply Kd.R_drewN | apply Kd.R_drew)); exact HO_9.out))) (Kd.R_lt (by (with_reducible repeat (first | apply Kd.R_alloc | apply Kd.R_drewN | apply Kd.R_drew)); exact HO_12.out))) (below_size (by repeat (first | (with_reducible first | exact HB.out | apply below_alloc | apply pw_below_drewN | apply below_drew1) | exact HB.out)))); have n3_ := Aside0.mk (below_step (by repeat (first | (with_reducible first | exact HB.out | apply below_alloc | apply pw_below_drewN | apply below_drew1) | exact HB.out)) hb); clear HO_9; clear HO_12; clear HB; have HO_9 := n0_; have HO_12 := n1_; have HO483 := n2_; have HB := n3_; clear n0_ n1_ n2_ n3_; (try clear hb); (try clear hb2); (try clear hk); (try clear hi); (try clear ho0); obtain ⟨Ao59, co59, eo59⟩ := Kd.R_slice HO_9.out; subst eo59) | ((with_reducible refine gate_callee (f := 8) rfl ?_); refine goesL_ (some 74) rfl rfl Try.func8 (by kernel_rfl) rfl #[.slice Ao59 t468.length co59, .slice A1 l1.length c1, .int .i64 a2] rfl (by (try simp only [List.map_toArray, List.map_cons, List.map_nil]); first | done | rfl | (simp only [List.length_drop, List.length_take]; rfl)) ?_; (with_reducible refine (welch_Decode.calls k1 _ _ t468 _ _ l1 a2 t484 t485 t486 _ ?side1 ?side2 ?side3 ?side4 A26.out).mono ?_); (case side1 => repeat (first | exact (Kd.R_reads' HO_9.out).2.2 | (with_reducible refine Kd.C_alloc ?_ _) | (with_reducible refine Kd.C_drewN ?_ _) | (with_reducible refine Kd.C_drew ?_))); (case side2 => exact (Kd.R_reads' HO_9.out).2.1); (case side3 => repeat (first | exact (Kd.C_below HR1.out HB.out) | (with_reducible refine Kd.C_alloc ?_ _) | (with_reducible refine Kd.C_drewN ?_ _) | (with_reducible refine Kd.C_drew ?_))); (case side4 => exact HC1.out); rintro e w60 ⟨v487, rfl, ho0, hb⟩; refine ⟨_, rfl, ?_⟩; have n0_ := Aside0.mk (Kd.R_elder' (by (with_reducible repeat (first | apply Kd.R_alloc | apply Kd.R_drewN | apply Kd.R_drew)); exact HO_9.out) (Kd.R_base ho0) hb); have n1_ := Aside0.mk (Kd.R_elder' (by (with_reducible repeat (first | apply Kd.R_alloc | apply Kd.R_drewN | apply Kd.R_drew)); exact HO_12.out) (Kd.R_base ho0) hb); have n2_ := Aside0.mk (Kd.R_elder' (by (with_reducible repeat (first | apply Kd.R_alloc | apply Kd.R_drewN | apply Kd.R_drew)); exact HO483.out) (Kd.R_base ho0) hb); have n3_ := Aside0.mk (Kd.R_lower (Kd.R_new' (Kd.R_new' (Kd.R_new' ho0 (Kd.R_lt (by (with_reducible repeat (first | apply Kd.R_alloc | apply Kd.R_drewN | apply Kd.R_drew)); exact HO_9.out))) (Kd.R_lt (by (with_reducible repeat (first | apply Kd.R_alloc | apply Kd.R_drewN | apply Kd.R_drew)); exact HO_12.out))) (Kd.R_lt (by (with_reducible repeat (first | apply Kd.R_alloc | apply Kd.R_drewN | apply Kd.R_drew)); exact HO483.out))) (below_size (by repeat (first | (with_reducible first | exact HB.out | apply below_alloc | apply pw_below_drewN | apply below_drew1) | exact HB.out)))); have n4_ := Aside0.mk (below_step (by repeat (first | (with_reducible first | exact HB.out | apply below_alloc | apply pw_below_drewN | apply below_drew1) | exact HB.out)) hb); clear HO_9; clear HO_12; clear HO483; clear HB; have HO_9 := n0_; have HO_12 := n1_; have HO483 := n2_; have HO488 := n3_; have HB := n4_; clear n0_ n1_ n2_ n3_ n4_; (try clear hb); (try clear hb2); (try clear hk); (try clear hi); (try clear ho0)))
         go_ret
         exact ⟨by first | rfl | (simp [errW_none, errW_some] <;> rfl) | (simp [*, errW_none, errW_some] <;> rfl), by repeat (first | (with_reducible first | exact HB.out | apply below_alloc | apply pw_below_drewN | apply below_drew1) | exact HB.out)⟩
       ·rw [if_neg c27] at H
        have c27b0 : (t481 == 0) = false := beq_eq_false_iff_ne.mpr c27
        have c27b1 : (t481 != 0) = true := bne_iff_ne.mpr c27
        obtain rfl := Option.some.inj H
        go_wp2_with (first | ((with_reducible refine gate_callee (f := 8) rfl ?_); refine goesL_ (some 66) rfl rfl Try.func8 (by kernel_rfl) rfl #[.slice Ao15 x12_1.length co15, .slice A1 l1.length c1, .int .i64 a2] rfl (by (try simp only [List.map_toArray, List.map_cons, List.map_nil]); first | done | rfl | (simp only [List.length_drop, List.length_take]; rfl)) ?_; (with_reducible refine (welch_Decode.calls k1 _ _ x12_1 _ _ l1 a2 t479 t480 t481 _ ?side1 ?side2 ?side3 ?side4 A25.out).mono ?_); (case side1 => repeat (first | exact (Kd.R_reads' HO_12.out).2.2 | (with_reducible refine Kd.C_alloc ?_ _) | (with_reducible refine Kd.C_drewN ?_ _) | (with_reducible refine Kd.C_drew ?_))); (case side2 => exact (Kd.R_reads' HO_12.out).2.1); (case side3 => repeat (first | exact (Kd.C_below HR1.out HB.out) | (with_reducible refine Kd.C_alloc ?_ _) | (with_reducible refine Kd.C_drewN ?_ _) | (with_reducible refine Kd.C_drew ?_))); (case side4 => exact HC1.out); rintro e w61 ⟨v482, rfl, ho0, hb⟩; refine ⟨_, rfl, ?_⟩; have n0_ := Aside0.mk (Kd.R_elder' (by (with_reducible repeat (first | apply Kd.R_alloc | apply Kd.R_drewN | apply Kd.R_drew)); exact HO_9.out) (Kd.R_base ho0) hb); have n1_ := Aside0.mk (Kd.R_elder' (by (with_reducible repeat (first | apply Kd.R_alloc | apply Kd.R_drewN | apply Kd.R_drew)); exact HO_12.out) (Kd.R_base ho0) hb); have n2_ := Aside0.mk (Kd.R_lower (Kd.R_new' (Kd.R_new' ho0 (Kd.R_lt (by (with_reducible repeat (first | apply Kd.R_alloc | apply Kd.R_drewN | apply Kd.R_drew)); exact HO_9.out))) (Kd.R_lt (by (with_reducible repeat (first | apply Kd.R_alloc | apply Kd.R_drewN | apply Kd.R_drew)); exact HO_12.out))) (below_size (by repeat (first | (with_reducible first | exact HB.out | apply below_alloc | apply pw_below_drewN | apply below_drew1) | exact HB.out)))); have n3_ := Aside0.mk (below_step (by repeat (first | (with_reducible first | exact HB.out | apply below_alloc | apply pw_below_drewN | apply below_drew1) | exact HB.out)) hb); clear HO_9; clear HO_12; clear HB; have HO_9 := n0_; have HO_12 := n1_; have HO483 := n2_; have HB := n3_; clear n0_ n1_ n2_ n3_; (try clear hb); (try clear hb2); (try clear hk); (try clear hi); (try clear ho0); obtain ⟨Ao62, co62, eo62⟩ := Kd.R_slice HO_9.out; subst eo62) | ((with_reducible refine gate_callee (f := 8) rfl ?_); refine goesL_ (some 74) rfl rfl Try.func8 (by kernel_rfl) rfl #[.slice Ao62 t468.length co62, .slice A1 l1.length c1, .int .i64 a2] rfl (by (try simp only [List.map_toArray, List.map_cons, List.map_nil]); first | done | rfl | (simp only [List.length_drop, List.length_take]; rfl)) ?_; (with_reducible refine (welch_Decode.calls k1 _ _ t468 _ _ l1 a2 t484 t485 t486 _ ?side1 ?side2 ?side3 ?side4 A26.out).mono ?_); (case side1 => repeat (first | exact (Kd.R_reads' HO_9.out).2.2 | (with_reducible refine Kd.C_alloc ?_ _) | (with_reducible refine Kd.C_drewN ?_ _) | (with_reducible refine Kd.C_drew ?_))); (case side2 => exact (Kd.R_reads' HO_9.out).2.1); (case side3 => repeat (first | exact (Kd.C_below HR1.out HB.out) | (with_reducible refine Kd.C_alloc ?_ _) | (with_reducible refine Kd.C_drewN ?_ _) | (with_reducible refine Kd.C_drew ?_))); (case side4 => exact HC1.out); rintro e w63 ⟨v487, rfl, ho0, hb⟩; refine ⟨_, rfl, ?_⟩; have n0_ := Aside0.mk (Kd.R_elder' (by (with_reducible repeat (first | apply Kd.R_alloc | apply Kd.R_drewN | apply Kd.R_drew)); exact HO_9.out) (Kd.R_base ho0) hb); have n1_ := Aside0.mk (Kd.R_elder' (by (with_reducible repeat (first | apply Kd.R_alloc | apply Kd.R_drewN | apply Kd.R_drew)); exact HO_12.out) (Kd.R_base ho0) hb); have n2_ := Aside0.mk (Kd.R_elder' (by (with_reducible repeat (first | apply Kd.R_alloc | apply Kd.R_drewN | apply Kd.R_drew)); exact HO483.out) (Kd.R_base ho0) hb); have n3_ := Aside0.mk (Kd.R_lower (Kd.R_new' (Kd.R_new' (Kd.R_new' ho0 (Kd.R_lt (by (with_reducible repeat (first | apply Kd.R_alloc | apply Kd.R_drewN | apply Kd.R_drew)); exact HO_9.out))) (Kd.R_lt (by (with_reducible repeat (first | apply Kd.R_alloc | apply Kd.R_drewN | apply Kd.R_drew)); exact HO_12.out))) (Kd.R_lt (by (with_reducible repeat (first | apply Kd.R_alloc | apply Kd.R_drewN | apply Kd.R_drew)); exact HO483.out))) (below_size (by repeat (first | (with_reducible first | exact HB.out | apply below_alloc | apply pw_below_drewN | apply below_drew1) | exact HB.out)))); have n4_ := Aside0.mk (below_step (by repeat (first | (with_reducible first | exact HB.out | apply below_alloc | apply pw_below_drewN | apply below_drew1) | exact HB.out)) hb); clear HO_9; clear HO_12; clear HO483; clear HB; have HO_9 := n0_; have HO_12 := n1_; have HO483 := n2_; have HO488 := n3_; have HB := n4_; clear n0_ n1_ n2_ n3_ n4_; (try clear hb); (try clear hb2); (try clear hk); (try clear hi); (try clear ho0)))
        go_ret
        exact ⟨by first | rfl | (simp [errW_none, errW_some] <;> rfl) | (simp [*, errW_none, errW_some] <;> rfl), by repeat (first | (with_reducible first | exact HB.out | apply below_alloc | apply pw_below_drewN | apply below_drew1) | exact HB.out)⟩
   ·rw [if_neg c10] at H
    have c10b0 : (t470 == 0) = false := beq_eq_false_iff_ne.mpr c10
    have c10b1 : (t470 != 0) = true := bne_iff_ne.mpr c10
    by_cases c64 : (t468.length : Int) = 0
    ·rw [if_pos c64] at H
     have c64b0 : ((t468.length : Int) == 0) = true := beq_iff_eq.mpr c64
     have c64b1 : ((t468.length : Int) != 0) = false := bne_eq_false_iff_eq.mpr c64
     clear c64
     obtain rfl := Option.some.inj H
     go_enter Try.func5, Try.ntmps5
     go_wp2_with (first | ((with_reducible refine gate_callee (f := 7) rfl ?_); refine goesL_ (some 20) rfl rfl Try.func7 (by kernel_rfl) rfl #[] rfl (by (try simp only [List.map_toArray, List.map_cons, List.map_nil]); first | done | rfl | (simp only [List.length_drop, List.length_take]; rfl)) ?_; (with_reducible refine (footlockerlaw05_alive.calls k  true _ A5.out).mono ?_); rintro e w65 ⟨rfl, hb⟩; refine ⟨_, rfl, ?_⟩; have n0_ := Aside0.mk (below_step (by repeat (first | (with_reducible first | exact HB.out | apply below_alloc | apply pw_below_drewN | apply below_drew1) | exact HB.out)) hb); clear HB; have HB := n0_; clear n0_; (try clear hb); (try clear hb2); (try clear hk); (try clear hi)) | ((with_reducible refine gate_callee (f := 8) rfl ?_); refine goesL_ (some 29) rfl rfl Try.func8 (by kernel_rfl) rfl #[.slice A0 l0.length c0, .slice A1 l1.length c1, .int .i64 a2] rfl (by (try simp only [List.map_toArray, List.map_cons, List.map_nil]); first | done | rfl | (simp only [List.length_drop, List.length_take]; rfl)) ?_; (with_reducible refine (welch_Decode.calls k _ _ l0 _ _ l1 a2 t468 t469 t470 _ ?side1 ?side2 ?side3 ?side4 A9.out).mono ?_); (case side1 => repeat (first | exact (Kd.C_below HR0.out HB.out) | (with_reducible refine Kd.C_alloc ?_ _) | (with_reducible refine Kd.C_drewN ?_ _) | (with_reducible refine Kd.C_drew ?_))); (case side2 => exact HC0.out); (case side3 => repeat (first | exact (Kd.C_below HR1.out HB.out) | (with_reducible refine Kd.C_alloc ?_ _) | (with_reducible refine Kd.C_drewN ?_ _) | (with_reducible refine Kd.C_drew ?_))); (case side4 => exact HC1.out); rintro e w66 ⟨v471, rfl, ho0, hb⟩; refine ⟨_, rfl, ?_⟩; have n0_ := Aside0.mk (Kd.R_lower ho0 (below_size (by repeat (first | (with_reducible first | exact HB.out | apply below_alloc | apply pw_below_drewN | apply below_drew1) | exact HB.out)))); have n1_ := Aside0.mk (below_step (by repeat (first | (with_reducible first | exact HB.out | apply below_alloc | apply pw_below_drewN | apply below_drew1) | exact HB.out)) hb); clear HB; have HO472 := n0_; have HB := n1_; clear n0_ n1_; (try clear hb); (try clear hb2); (try clear hk); (try clear hi); (try clear ho0); obtain ⟨Ao67, co67, eo67⟩ := Kd.R_slice HO472.out; subst eo67))
     go_ret
     exact ⟨by first | rfl | (simp [errW_none, errW_some] <;> rfl) | (simp [*, errW_none, errW_some] <;> rfl), by repeat (first | (with_reducible first | exact HB.out | apply below_alloc | apply pw_below_drewN | apply below_drew1) | exact HB.out)⟩
    ·rw [if_neg c64] at H
     have c64b0 : ((t468.length : Int) == 0) = false := beq_eq_false_iff_ne.mpr c64
     have c64b1 : ((t468.length : Int) != 0) = true := bne_iff_ne.mpr c64
     have c64b2 : ¬ (t468 = []) := fun h_ => c64 (by rw [h_]; rfl)
     obtain rfl := Option.some.inj H
     go_enter Try.func5, Try.ntmps5
     go_wp2_with (first | ((with_reducible refine gate_callee (f := 7) rfl ?_); refine goesL_ (some 20) rfl rfl Try.func7 (by kernel_rfl) rfl #[] rfl (by (try simp only [List.map_toArray, List.map_cons, List.map_nil]); first | done | rfl | (simp only [List.length_drop, List.length_take]; rfl)) ?_; (with_reducible refine (footlockerlaw05_alive.calls k  true _ A5.out).mono ?_); rintro e w68 ⟨rfl, hb⟩; refine ⟨_, rfl, ?_⟩; have n0_ := Aside0.mk (below_step (by repeat (first | (with_reducible first | exact HB.out | apply below_alloc | apply pw_below_drewN | apply below_drew1) | exact HB.out)) hb); clear HB; have HB := n0_; clear n0_; (try clear hb); (try clear hb2); (try clear hk); (try clear hi)) | ((with_reducible refine gate_callee (f := 8) rfl ?_); refine goesL_ (some 29) rfl rfl Try.func8 (by kernel_rfl) rfl #[.slice A0 l0.length c0, .slice A1 l1.length c1, .int .i64 a2] rfl (by (try simp only [List.map_toArray, List.map_cons, List.map_nil]); first | done | rfl | (simp only [List.length_drop, List.length_take]; rfl)) ?_; (with_reducible refine (welch_Decode.calls k _ _ l0 _ _ l1 a2 t468 t469 t470 _ ?side1 ?side2 ?side3 ?side4 A9.out).mono ?_); (case side1 => repeat (first | exact (Kd.C_below HR0.out HB.out) | (with_reducible refine Kd.C_alloc ?_ _) | (with_reducible refine Kd.C_drewN ?_ _) | (with_reducible refine Kd.C_drew ?_))); (case side2 => exact HC0.out); (case side3 => repeat (first | exact (Kd.C_below HR1.out HB.out) | (with_reducible refine Kd.C_alloc ?_ _) | (with_reducible refine Kd.C_drewN ?_ _) | (with_reducible refine Kd.C_drew ?_))); (case side4 => exact HC1.out); rintro e w69 ⟨v471, rfl, ho0, hb⟩; refine ⟨_, rfl, ?_⟩; have n0_ := Aside0.mk (Kd.R_lower ho0 (below_size (by repeat (first | (with_reducible first | exact HB.out | apply below_alloc | apply pw_below_drewN | apply below_drew1) | exact HB.out)))); have n1_ := Aside0.mk (below_step (by repeat (first | (with_reducible first | exact HB.out | apply below_alloc | apply pw_below_drewN | apply below_drew1) | exact HB.out)) hb); clear HB; have HO472 := n0_; have HB := n1_; clear n0_ n1_; (try clear hb); (try clear hb2); (try clear hk); (try clear hi); (try clear ho0); obtain ⟨Ao70, co70, eo70⟩ := Kd.R_slice HO472.out; subst eo70))
     go_ret
     exact ⟨by first | rfl | (simp [errW_none, errW_some] <;> rfl) | (simp [*, errW_none, errW_some] <;> rfl), by repeat (first | (with_reducible first | exact HB.out | apply below_alloc | apply pw_below_drewN | apply below_drew1) | exact HB.out)⟩
 ·replace c6 := Bool.eq_false_iff.mpr c6
  subst c6
  have H1 : (some false) = some r := by rw [if_neg (show ¬ (false = true) by decide)] at H; exact H
  clear H
  have H := H1
  clear H1
  obtain rfl := Option.some.inj H
  go_enter Try.func5, Try.ntmps5
  go_wp2_with (first | ((with_reducible refine gate_callee (f := 7) rfl ?_); refine goesL_ (some 20) rfl rfl Try.func7 (by kernel_rfl) rfl #[] rfl (by (try simp only [List.map_toArray, List.map_cons, List.map_nil]); first | done | rfl | (simp only [List.length_drop, List.length_take]; rfl)) ?_; (with_reducible refine (footlockerlaw05_alive.calls k  false _ A5.out).mono ?_); rintro e w71 ⟨rfl, hb⟩; refine ⟨_, rfl, ?_⟩; have n0_ := Aside0.mk (below_step (by repeat (first | (with_reducible first | exact HB.out | apply below_alloc | apply pw_below_drewN | apply below_drew1) | exact HB.out)) hb); clear HB; have HB := n0_; clear n0_; (try clear hb); (try clear hb2); (try clear hk); (try clear hi)))
  go_ret
  exact ⟨by first | rfl | (simp [errW_none, errW_some] <;> rfl) | (simp [*, errW_none, errW_some] <;> rfl), by repeat (first | (with_reducible first | exact HB.out | apply below_alloc | apply pw_below_drewN | apply below_drew1) | exact HB.out)⟩
def footlockerlaw05_WelchOnce.Pure : Prop := ∀ (l0 : List Int) (l1 : List Bool) (a2 : Int) (a3 : Int), (l0.length ≤ maxLen ∧ ∀ x2_ ∈ l0, (Lit.int .u8 x2_).wf = true) → (l1.length ≤ maxLen ∧ ∀ x2_ ∈ l1, True) → ((Lit.int .i64 a2).wf = true) → ((Lit.int .u8 a3).wf = true) → ∃ k, footlockerlaw05_WelchOnce.f k l0 l1 a2 a3 = some true
theorem footlockerlaw05_WelchOnce.walk (P : footlockerlaw05_WelchOnce.Pure) (A0 : Option Addr) (c0 : Nat) (l0 : List Int) (A1 : Option Addr) (c1 : Nat) (l1 : List Bool) (a2 : Int) (a3 : Int) (w : World) (hr0 : Kd.C (Kd.int .u8) w A0 l0.length l0) (hc0 : l0.length ≤ c0) (w0 : l0.length ≤ maxLen ∧ ∀ x2_ ∈ l0, (Lit.int .u8 x2_).wf = true) (hr1 : Kd.C Kd.bool w A1 l1.length l1) (hc1 : l1.length ≤ c1) (w1 : l1.length ≤ maxLen ∧ ∀ x2_ ∈ l1, True) (w2 : (Lit.int .i64 a2).wf = true) (w3 : (Lit.int .u8 a3).wf = true) :
 Calls Try.prog 5 #[.slice A0 l0.length c0, .slice A1 l1.length c1, .int .i64 a2, .int .u8 a3] w fun e w' => e = .returned (.bool true) ∧ Below w.heap.size w w' := by
 obtain ⟨k, h⟩ := P l0 l1 a2 a3 w0 w1 w2 w3
 refine (footlockerlaw05_WelchOnce.calls k A0 c0 l0 A1 c1 l1 a2 a3 true w hr0 hc0 hr1 hc1 h).mono ?_
 rintro e w' ⟨rfl, hd⟩
 exact ⟨rfl, hd⟩
end Go.Proofs.Ytndljfagojnidaa.P
namespace Go.Proofs.Ytndljfagojnidaa.Al
open Go Go.Proofs.YtndljfagojnidaaW.PrintWords Go.Proofs.YtndljfagojnidaaW.PrintMore
structure G where
 v : BitVec 8
theorem G.eq_of {a b : G} (h : a.v = b.v) : a = b := by cases a; cases b; simp_all
instance : DecidableEq G := fun a b => if h : a.v = b.v then .isTrue (G.eq_of h) else .isFalse (fun e => h (by rw [e]))
instance : Zero G := ⟨⟨0#8⟩⟩
instance : Add G := ⟨fun a b => ⟨a.v ^^^ b.v⟩⟩
def xt (a : BitVec 8) : BitVec 8 := (a <<< 1) ^^^ (if a.getLsbD 7 then 0x1D#8 else 0#8)
def cb (c : Bool) (a : BitVec 8) : BitVec 8 := if c then a else 0#8
def gm (a b : BitVec 8) : BitVec 8 :=
 cb (b.getLsbD 0) a ^^^ (cb (b.getLsbD 1) (xt a) ^^^ (cb (b.getLsbD 2) (xt (xt a)) ^^^ (cb (b.getLsbD 3) (xt (xt (xt a))) ^^^ (cb (b.getLsbD 4) (xt (xt (xt (xt a)))) ^^^
  (cb (b.getLsbD 5) (xt (xt (xt (xt (xt a))))) ^^^ (cb (b.getLsbD 6) (xt (xt (xt (xt (xt (xt a)))))) ^^^ cb (b.getLsbD 7) (xt (xt (xt (xt (xt (xt (xt a)))))))))))))
instance : One G := ⟨⟨1#8⟩⟩
instance : Mul G := ⟨fun a b => ⟨gm a.v b.v⟩⟩
theorem zero_v : (0 : G).v = 0#8 := rfl
theorem add_v (a b : G) : (a + b).v = a.v ^^^ b.v := rfl
theorem cb_xor (c d : Bool) (a : BitVec 8) : cb (c ^^ d) a = cb c a ^^^ cb d a := by
 cases c <;> cases d <;> simp [cb]
theorem cb_add (c : Bool) (a b : BitVec 8) : cb c (a ^^^ b) = cb c a ^^^ cb c b := by
 cases c <;> simp [cb]
theorem xt_add (a b : BitVec 8) : xt (a ^^^ b) = xt a ^^^ xt b := by
 unfold xt
 have h : (a ^^^ b).getLsbD 7 = (a.getLsbD 7 ^^ b.getLsbD 7) := by simp
 have e : ∀ c : Bool, (if c then 0x1D#8 else 0#8) = cb c 0x1D#8 := fun _ => rfl
 rw [h, e, e, e, cb_xor, BitVec.shiftLeft_xor_distrib]
 ac_rfl
theorem gm_xor_right (a b c : BitVec 8) : gm a (b ^^^ c) = gm a b ^^^ gm a c := by
 unfold gm
 simp only [BitVec.getLsbD_xor, cb_xor]
 ac_rfl
theorem gm_xor_left (a b c : BitVec 8) : gm (a ^^^ b) c = gm a c ^^^ gm b c := by
 unfold gm
 simp only [xt_add, cb_add]
 ac_rfl
theorem sum_bits : ∀ a : Fin 256, (BitVec.ofFin a : BitVec 8) = cb ((BitVec.ofFin a : BitVec 8).getLsbD 0) 1#8 ^^^ (cb ((BitVec.ofFin a : BitVec 8).getLsbD 1) 2#8 ^^^ (cb ((BitVec.ofFin a : BitVec 8).getLsbD 2) 4#8 ^^^ (cb ((BitVec.ofFin a : BitVec 8).getLsbD 3) 8#8 ^^^ (cb ((BitVec.ofFin a : BitVec 8).getLsbD 4) 16#8 ^^^
 (cb ((BitVec.ofFin a : BitVec 8).getLsbD 5) 32#8 ^^^ (cb ((BitVec.ofFin a : BitVec 8).getLsbD 6) 64#8 ^^^ cb ((BitVec.ofFin a : BitVec 8).getLsbD 7) 128#8)))))) := by decide +kernel
theorem basis_ind (P : BitVec 8 → Prop) (h0 : P 0#8) (ha : ∀ a b, P a → P b → P (a ^^^ b)) (hb : ∀ i : Fin 8, P (1#8 <<< i.val)) (a : BitVec 8) : P a := by
 have hc : ∀ (c : Bool) (x : BitVec 8), P x → P (cb c x) := by
  intro c x hx
  cases c
  ·exact h0
  ·exact hx
 have h := sum_bits a.toFin
 rw [show (BitVec.ofFin a.toFin : BitVec 8) = a from rfl] at h
 rw [h]
 exact ha _ _ (hc _ _ (hb 0)) (ha _ _ (hc _ _ (hb 1)) (ha _ _ (hc _ _ (hb 2)) (ha _ _ (hc _ _ (hb 3)) (ha _ _ (hc _ _ (hb 4)) (ha _ _ (hc _ _ (hb 5)) (ha _ _ (hc _ _ (hb 6)) (hc _ _ (hb 7))))))))
theorem gm_zero_right (a : BitVec 8) : gm a 0#8 = 0#8 := by simp [gm, cb]
theorem gm_zero_left (a : BitVec 8) : gm 0#8 a = 0#8 := by
 have h : xt 0#8 = 0#8 := rfl
 have e : ∀ c, cb c 0#8 = 0#8 := by intro c; cases c <;> rfl
 simp [gm, h, e]
theorem comm_basis : ∀ i j : Fin 8, gm (1#8 <<< i.val) (1#8 <<< j.val) = gm (1#8 <<< j.val) (1#8 <<< i.val) := by decide +kernel
theorem assoc_basis : ∀ i j k : Fin 8, gm (gm (1#8 <<< i.val) (1#8 <<< j.val)) (1#8 <<< k.val) = gm (1#8 <<< i.val) (gm (1#8 <<< j.val) (1#8 <<< k.val)) := by decide +kernel
theorem gm_comm (a b : BitVec 8) : gm a b = gm b a := by
 refine basis_ind (fun a => gm a b = gm b a) ?_ ?_ ?_ a
 ·rw [gm_zero_left, gm_zero_right]
 ·intro x y hx hy
  rw [gm_xor_left, gm_xor_right, hx, hy]
 ·intro i
  refine basis_ind (fun b => gm (1#8 <<< i.val) b = gm b (1#8 <<< i.val)) ?_ ?_ ?_ b
  ·rw [gm_zero_left, gm_zero_right]
  ·intro x y hx hy
   rw [gm_xor_left, gm_xor_right, hx, hy]
  ·exact fun j => comm_basis i j
theorem gm_assoc (a b c : BitVec 8) : gm (gm a b) c = gm a (gm b c) := by
 refine basis_ind (fun a => gm (gm a b) c = gm a (gm b c)) ?_ ?_ ?_ a
 ·simp only [gm_zero_left]
 ·intro x y hx hy
  simp only [gm_xor_left, hx, hy]
 ·intro i
  refine basis_ind (fun b => gm (gm (1#8 <<< i.val) b) c = gm (1#8 <<< i.val) (gm b c)) ?_ ?_ ?_ b
  ·simp only [gm_zero_left, gm_zero_right]
  ·intro x y hx hy
   simp only [gm_xor_left, gm_xor_right, hx, hy]
  ·intro j
   refine basis_ind (fun c => gm (gm (1#8 <<< i.val) (1#8 <<< j.val)) c = gm (1#8 <<< i.val) (gm (1#8 <<< j.val) c)) ?_ ?_ ?_ c
   ·simp only [gm_zero_right]
   ·intro x y hx hy
    simp only [gm_xor_right, hx, hy]
   ·exact fun k => assoc_basis i j k
theorem gm_one (a : BitVec 8) : gm a 1#8 = a := by
 have : ∀ a : Fin 256, gm (BitVec.ofFin a) 1#8 = BitVec.ofFin a := by decide +kernel
 exact this a.toFin
theorem add_comm (a b : G) : a + b = b + a := G.eq_of (BitVec.xor_comm _ _)
theorem add_assoc (a b c : G) : a + b + c = a + (b + c) := G.eq_of (BitVec.xor_assoc _ _ _)
theorem add_left_comm (a b c : G) : a + (b + c) = b + (a + c) := by rw [← add_assoc, add_comm a b, add_assoc]
theorem add_zero (a : G) : a + 0 = a := G.eq_of (by simp [add_v, zero_v])
theorem zero_add (a : G) : 0 + a = a := by rw [add_comm, add_zero]
theorem add_self (a : G) : a + a = 0 := G.eq_of (by simp [add_v, zero_v])
theorem add_add_self (a b : G) : a + (a + b) = b := by rw [← add_assoc, add_self, zero_add]
theorem add_eq_zero {a b : G} : a + b = 0 ↔ a = b := by
 constructor
 ·intro h
  have := add_add_self a b
  rw [h, add_zero] at this
  exact this
 ·rintro rfl
  exact add_self a
theorem mul_comm (a b : G) : a * b = b * a := G.eq_of (gm_comm _ _)
theorem mul_assoc (a b c : G) : a * b * c = a * (b * c) := G.eq_of (gm_assoc _ _ _)
theorem mul_left_comm (a b c : G) : a * (b * c) = b * (a * c) := by rw [← mul_assoc, mul_comm a b, mul_assoc]
theorem mul_add (a b c : G) : a * (b + c) = a * b + a * c := G.eq_of (gm_xor_right _ _ _)
theorem add_mul (a b c : G) : (a + b) * c = a * c + b * c := G.eq_of (gm_xor_left _ _ _)
theorem mul_zero (a : G) : a * 0 = 0 := G.eq_of (gm_zero_right _)
theorem zero_mul (a : G) : 0 * a = 0 := G.eq_of (gm_zero_left _)
theorem mul_one (a : G) : a * 1 = a := G.eq_of (gm_one _)
theorem one_mul (a : G) : 1 * a = a := by rw [mul_comm, mul_one]
theorem one_ne_zero : (1 : G) ≠ 0 := by decide
def p254 (a : G) : G :=
 let b := a * a
 let c := b * b
 let d := c * c
 let e := d * d
 let f := e * e
 let g := f * f
 let h := g * g
 b * c * d * e * f * g * h
instance : Std.Commutative (α := G) (· + ·) := ⟨add_comm⟩
instance : Std.Associative (α := G) (· + ·) := ⟨add_assoc⟩
instance : Std.Commutative (α := G) (· * ·) := ⟨mul_comm⟩
instance : Std.Associative (α := G) (· * ·) := ⟨mul_assoc⟩
theorem inv_all : ∀ a : Fin 256, a.val ≠ 0 → (⟨BitVec.ofFin a⟩ : G) * p254 ⟨BitVec.ofFin a⟩ = 1 := by decide +kernel
def inv (a : G) : G := p254 a
theorem mul_inv {a : G} (h : a ≠ 0) : a * inv a = 1 := by
 have := inv_all a.v.toFin (by
  intro e
  apply h
  apply G.eq_of
  exact BitVec.eq_of_toNat_eq e)
 exact this
theorem inv_zero : inv 0 = 0 := by decide +kernel
theorem inv_mul {a : G} (h : a ≠ 0) : inv a * a = 1 := by rw [mul_comm, mul_inv h]
theorem mul_eq_zero {a b : G} : a * b = 0 ↔ a = 0 ∨ b = 0 := by
 constructor
 ·intro h
  by_cases ha : a = 0
  ·exact .inl ha
  ·right
   have := congrArg (inv a * ·) h
   simp only [← mul_assoc, inv_mul ha, one_mul, mul_zero] at this
   exact this
 ·rintro (rfl | rfl)
  ·exact zero_mul _
  ·exact mul_zero _
theorem mul_ne_zero {a b : G} (ha : a ≠ 0) (hb : b ≠ 0) : a * b ≠ 0 := fun h => (mul_eq_zero.1 h).elim ha hb
theorem mul_left_inj {a b c : G} (ha : a ≠ 0) (h : a * b = a * c) : b = c := by
 have := congrArg (inv a * ·) h
 simpa only [← mul_assoc, inv_mul ha, one_mul] using this
theorem inv_unique {a b : G} (h : a * b = 1) : b = inv a := by
 have ha : a ≠ 0 := by
  rintro rfl
  rw [zero_mul] at h
  exact one_ne_zero h.symm
 exact mul_left_inj ha (h.trans (mul_inv ha).symm)
def G.i (a : G) : Int := (a.v.toNat : Int)
def G.of (x : Int) : G := ⟨BitVec.ofInt 8 x⟩
theorem i_nonneg (a : G) : 0 ≤ a.i := by unfold G.i; omega
theorem i_lt (a : G) : a.i < 256 := by unfold G.i; have := a.v.isLt; omega
theorem i_le (a : G) : a.i ≤ 255 := by have := i_lt a; omega
theorem i_inj {a b : G} : a.i = b.i ↔ a = b := by
 constructor
 ·intro h
  apply G.eq_of
  apply BitVec.eq_of_toNat_eq
  unfold G.i at h
  omega
 ·rintro rfl
  rfl
theorem of_i (a : G) : G.of a.i = a := by
 apply G.eq_of
 simp [G.of, G.i]
theorem i_of {x : Int} (h0 : 0 ≤ x) (h1 : x < 256) : (G.of x).i = x := by
 simp only [G.of, G.i, BitVec.toNat_ofInt]
 omega
theorem i_zero : (0 : G).i = 0 := rfl
theorem i_one : (1 : G).i = 1 := rfl
theorem i_eq_zero {a : G} : a.i = 0 ↔ a = 0 := by rw [← i_zero, i_inj]
theorem xor_i (a b : G) : Go.bits .xor .u8 a.i b.i = (a + b).i := by
 unfold Go.bits G.i
 simp only [IntKind.wrap_u8]
 show ((BitVec.ofInt 8 (a.v.toNat : Int) ^^^ BitVec.ofInt 8 (b.v.toNat : Int)).toNat : Int) % 256 = ((a.v ^^^ b.v).toNat : Int)
 simp only [BitVec.ofInt_natCast, BitVec.ofNat_toNat, BitVec.setWidth_eq]
 have := (a.v ^^^ b.v).isLt
 omega
end Go.Proofs.Ytndljfagojnidaa.Al
namespace Go.Proofs.Ytndljfagojnidaa.Al
set_option linter.unusedVariables false
set_option linter.unusedSimpArgs false
def co (p : List G) (i : Nat) : G := p.getD i 0
theorem co_nil (i : Nat) : co [] i = 0 := rfl
theorem co_succ (a : G) (p : List G) (i : Nat) : co (a :: p) (i + 1) = co p i := rfl
theorem co_lt {p : List G} {i : Nat} (h : i < p.length) : co p i = p[i] := by
 simp [co, List.getD_eq_getElem?_getD, List.getElem?_eq_getElem h]
theorem co_ge {p : List G} {i : Nat} (h : p.length ≤ i) : co p i = 0 := by
 simp [co, List.getD_eq_getElem?_getD, List.getElem?_eq_none h]
theorem co_take (p : List G) (n i : Nat) : co (p.take n) i = if i < n then co p i else 0 := by
 simp only [co, List.getD_eq_getElem?_getD, List.getElem?_take]
 split <;> rfl
theorem co_drop (p : List G) (n i : Nat) : co (p.drop n) i = co p (n + i) := by
 simp only [co, List.getD_eq_getElem?_getD, List.getElem?_drop]
theorem co_append (p q : List G) (i : Nat) : co (p ++ q) i = if i < p.length then co p i else co q (i - p.length) := by
 simp only [co, List.getD_eq_getElem?_getD, List.getElem?_append]
 split <;> rfl
theorem co_set (p : List G) (n i : Nat) (a : G) (h : n < p.length) : co (p.set n a) i = if i = n then a else co p i := by
 simp only [co, List.getD_eq_getElem?_getD, List.getElem?_set]
 by_cases e : n = i
 ·subst e
  simp [h]
 ·simp [e, Ne.symm e]
theorem co_replicate (n i : Nat) : co (List.replicate n 0) i = 0 := by
 simp only [co, List.getD_eq_getElem?_getD, List.getElem?_replicate]
 split <;> rfl
theorem ext_co {p q : List G} (hl : p.length = q.length) (h : ∀ i, i < p.length → co p i = co q i) : p = q := by
 apply List.ext_getElem hl
 intro i h1 h2
 have := h i h1
 rwa [co_lt h1, co_lt h2] at this
def tab (n : Nat) (f : Nat → G) : List G := (List.range n).map f
theorem tab_length (n : Nat) (f : Nat → G) : (tab n f).length = n := by simp [tab]
theorem co_tab (n : Nat) (f : Nat → G) (i : Nat) : co (tab n f) i = if i < n then f i else 0 := by
 by_cases h : i < n
 ·rw [if_pos h, co_lt (by rw [tab_length]; exact h)]
  simp [tab]
 ·rw [if_neg h, co_ge (by rw [tab_length]; omega)]
theorem tab_succ (n : Nat) (f : Nat → G) : tab (n + 1) f = tab n f ++ [f n] := by simp [tab, List.range_succ]
theorem tab_zero (f : Nat → G) : tab 0 f = [] := rfl
def trim : List G → List G
 | [] => []
 | a :: p => if trim p = [] ∧ a = 0 then [] else a :: trim p
theorem co_trim (p : List G) : ∀ i, co (trim p) i = co p i := by
 induction p with
 | nil => intro i; rfl
 | cons a p ih =>
  intro i
  unfold trim
  by_cases h : trim p = [] ∧ a = 0
  ·rw [if_pos h]
   obtain ⟨h1, rfl⟩ := h
   cases i with
   | zero => rfl
   | succ i => rw [co_succ, ← ih, h1, co_nil, co_nil]
  ·rw [if_neg h]
   cases i with
   | zero => rfl
   | succ i => rw [co_succ, co_succ, ih]
theorem trim_eq_nil {p : List G} (h : ∀ i, co p i = 0) : trim p = [] := by
 induction p with
 | nil => rfl
 | cons a p ih =>
  unfold trim
  rw [if_pos ⟨ih (fun i => h (i + 1)), h 0⟩]
theorem of_trim_nil {p : List G} (h : trim p = []) (i : Nat) : co p i = 0 := by
 rw [← co_trim, h, co_nil]
theorem trim_congr {p q : List G} (h : ∀ i, co p i = co q i) : trim p = trim q := by
 induction p generalizing q with
 | nil => rw [trim_eq_nil (p := q) (fun i => (h i).symm.trans (co_nil i))]; rfl
 | cons a p ih =>
  cases q with
  | nil => rw [trim_eq_nil (p := a :: p) (fun i => (h i).trans (co_nil i))]; rfl
  | cons b q =>
   have h0 : a = b := h 0
   have h1 : trim p = trim q := ih (fun i => h (i + 1))
   unfold trim
   rw [h0, h1]
theorem trim_trim (p : List G) : trim (trim p) = trim p := trim_congr (co_trim p)
theorem trim_length_le (p : List G) : (trim p).length ≤ p.length := by
 induction p with
 | nil => exact Nat.le_refl _
 | cons a p ih =>
  unfold trim
  split
  ·exact Nat.zero_le _
  ·simp only [List.length_cons]; omega
theorem trim_last {p : List G} {n : Nat} (h : (trim p).length = n + 1) : co p n ≠ 0 := by
 induction p generalizing n with
 | nil => cases h
 | cons a p ih =>
  unfold trim at h
  by_cases hc : trim p = [] ∧ a = 0
  ·rw [if_pos hc] at h
   cases h
  ·rw [if_neg hc, List.length_cons] at h
   cases n with
   | zero =>
    have h1 : trim p = [] := List.eq_nil_of_length_eq_zero (by omega)
    intro e
    exact hc ⟨h1, e⟩
   | succ n => exact ih (by omega)
theorem trim_ge {p : List G} {i : Nat} (h : (trim p).length ≤ i) : co p i = 0 := by rw [← co_trim, co_ge h]
theorem trim_length_of {p : List G} {m : Nat} (h0 : ∀ j, m ≤ j → co p j = 0) (h1 : m = 0 ∨ co p (m - 1) ≠ 0) : (trim p).length = m := by
 rcases Nat.lt_trichotomy (trim p).length m with h | h | h
 ·exfalso
  rcases h1 with h1 | h1
  ·omega
  ·exact h1 (trim_ge (by omega))
 ·exact h
 ·exfalso
  obtain ⟨n, hn⟩ : ∃ n, (trim p).length = n + 1 := ⟨(trim p).length - 1, by omega⟩
  exact trim_last hn (h0 n (by omega))
theorem trim_eq_take (p : List G) : trim p = p.take (trim p).length := by
 have hle := trim_length_le p
 apply ext_co
 ·rw [List.length_take]; omega
 ·intro i hi
  rw [co_trim, co_take, if_pos hi]
theorem trim_len_le_of {p : List G} {m : Nat} (h : ∀ j, m ≤ j → co p j = 0) : (trim p).length ≤ m := by
 rcases Nat.lt_or_ge m (trim p).length with hlt | hge
 ·exfalso
  obtain ⟨n, hn⟩ : ∃ n, (trim p).length = n + 1 := ⟨(trim p).length - 1, by omega⟩
  exact trim_last hn (h n (by omega))
 ·exact hge
def ev : List G → G → G
 | [], _ => 0
 | a :: p, x => a + x * ev p x
theorem ev_nil (x : G) : ev [] x = 0 := rfl
theorem ev_cons (a : G) (p : List G) (x : G) : ev (a :: p) x = a + x * ev p x := rfl
theorem ev_trim (p : List G) (x : G) : ev (trim p) x = ev p x := by
 induction p with
 | nil => rfl
 | cons a p ih =>
  unfold trim
  by_cases h : trim p = [] ∧ a = 0
  ·rw [if_pos h]
   obtain ⟨h1, rfl⟩ := h
   rw [ev_cons, ← ih, h1, ev_nil, mul_zero, add_zero]
  ·rw [if_neg h, ev_cons, ev_cons, ih]
theorem ev_congr {p q : List G} (h : ∀ i, co p i = co q i) (x : G) : ev p x = ev q x := by
 rw [← ev_trim p, ← ev_trim q, trim_congr h]
def zadd : List G → List G → List G
 | [], q => q
 | p, [] => p
 | a :: p, b :: q => (a + b) :: zadd p q
theorem co_zadd (p q : List G) (i : Nat) : co (zadd p q) i = co p i + co q i := by
 induction p generalizing q i with
 | nil => rw [zadd, co_nil, zero_add]
 | cons a p ih =>
  cases q with
  | nil => rw [zadd, co_nil, add_zero]; intro h; cases h
  | cons b q =>
   cases i with
   | zero => rfl
   | succ i => rw [zadd, co_succ, co_succ, co_succ, ih]
theorem ev_zadd (p q : List G) (x : G) : ev (zadd p q) x = ev p x + ev q x := by
 induction p generalizing q with
 | nil => rw [zadd, ev_nil, zero_add]
 | cons a p ih =>
  cases q with
  | nil => rw [zadd, ev_nil, add_zero]; intro h; cases h
  | cons b q =>
   rw [zadd, ev_cons, ev_cons, ev_cons, ih, mul_add]
   ac_rfl
theorem zadd_length (p q : List G) : (zadd p q).length = max p.length q.length := by
 induction p generalizing q with
 | nil => rw [zadd, List.length_nil]; omega
 | cons a p ih =>
  cases q with
  | nil => rw [zadd, List.length_nil]; omega; intro h; cases h
  | cons b q => rw [zadd, List.length_cons, List.length_cons, List.length_cons, ih]; omega
theorem zadd_tab (p q : List G) : zadd p q = tab (max p.length q.length) (fun i => co p i + co q i) := by
 apply ext_co
 ·rw [zadd_length, tab_length]
 ·intro i hi
  rw [zadd_length] at hi
  rw [co_zadd, co_tab, if_pos hi]
def padd (p q : List G) : List G := trim (zadd p q)
theorem ev_padd (p q : List G) (x : G) : ev (padd p q) x = ev p x + ev q x := by rw [padd, ev_trim, ev_zadd]
theorem padd_length_le (p q : List G) : (padd p q).length ≤ max p.length q.length := by
 have := trim_length_le (zadd p q)
 rw [zadd_length] at this
 exact this
theorem trim_padd (p q : List G) : trim (padd p q) = padd p q := trim_trim _
def scale (c : G) (p : List G) : List G := p.map (c * ·)
theorem co_scale (c : G) (p : List G) (i : Nat) : co (scale c p) i = c * co p i := by
 induction p generalizing i with
 | nil => rw [scale, List.map_nil, co_nil, mul_zero]
 | cons a p ih =>
  cases i with
  | zero => rfl
  | succ i => exact ih i
theorem ev_scale (c : G) (p : List G) (x : G) : ev (scale c p) x = c * ev p x := by
 induction p with
 | nil => rw [scale, List.map_nil, ev_nil, mul_zero]
 | cons a p ih =>
  show c * a + x * ev (scale c p) x = _
  rw [ih, ev_cons, mul_add, mul_left_comm]
theorem scale_length (c : G) (p : List G) : (scale c p).length = p.length := List.length_map _
def sum (f : Nat → G) : Nat → G
 | 0 => 0
 | n + 1 => sum f n + f n
theorem sum_zero (f : Nat → G) : sum f 0 = 0 := rfl
theorem sum_succ (f : Nat → G) (n : Nat) : sum f (n + 1) = sum f n + f n := rfl
theorem sum_congr {f g : Nat → G} {n : Nat} (h : ∀ i, i < n → f i = g i) : sum f n = sum g n := by
 induction n with
 | zero => rfl
 | succ n ih => rw [sum_succ, sum_succ, ih (fun i hi => h i (by omega)), h n (by omega)]
theorem sum_add (f g : Nat → G) (n : Nat) : sum (fun i => f i + g i) n = sum f n + sum g n := by
 induction n with
 | zero => rw [sum_zero, sum_zero, sum_zero, add_zero]
 | succ n ih =>
  simp only [sum_succ, ih]
  ac_rfl
theorem sum_mul (c : G) (f : Nat → G) (n : Nat) : sum (fun i => c * f i) n = c * sum f n := by
 induction n with
 | zero => rw [sum_zero, sum_zero, mul_zero]
 | succ n ih => rw [sum_succ, sum_succ, ih, mul_add]
theorem sum_eq_zero {f : Nat → G} {n : Nat} (h : ∀ i, i < n → f i = 0) : sum f n = 0 := by
 induction n with
 | zero => rfl
 | succ n ih => rw [sum_succ, ih (fun i hi => h i (by omega)), h n (by omega), add_zero]
theorem sum_front (f : Nat → G) (n : Nat) : sum f (n + 1) = f 0 + sum (fun i => f (i + 1)) n := by
 induction n with
 | zero => rw [sum_succ, sum_zero, sum_zero, add_comm]
 | succ n ih => rw [sum_succ, ih, sum_succ, add_assoc]
theorem sum_extend {f : Nat → G} {n m : Nat} (hnm : n ≤ m) (h : ∀ i, n ≤ i → i < m → f i = 0) : sum f m = sum f n := by
 induction m with
 | zero => rw [show n = 0 by omega]
 | succ m ih =>
  by_cases e : n = m + 1
  ·rw [e]
  ·rw [sum_succ, ih (by omega) (fun i h1 h2 => h i h1 (by omega)), h m (by omega) (by omega), add_zero]
theorem sum_single {f : Nat → G} {n k : Nat} (hk : k < n) (h : ∀ i, i < n → i ≠ k → f i = 0) : sum f n = f k := by
 induction n with
 | zero => omega
 | succ n ih =>
  rw [sum_succ]
  by_cases e : k = n
  ·subst e
   rw [sum_eq_zero (fun i hi => h i (by omega) (by omega)), zero_add]
  ·rw [ih (by omega) (fun i hi hne => h i (by omega) hne), h n (by omega) (by omega), add_zero]
def rmul : List G → List G → List G
 | [], _ => []
 | a :: p, q => zadd (scale a q) (0 :: rmul p q)
theorem ev_rmul (p q : List G) (x : G) : ev (rmul p q) x = ev p x * ev q x := by
 induction p with
 | nil => rw [rmul, ev_nil, zero_mul]
 | cons a p ih => rw [rmul, ev_zadd, ev_scale, ev_cons, ih, ev_cons, add_mul, zero_add, mul_assoc]
theorem co_rmul (p q : List G) (m : Nat) : co (rmul p q) m = sum (fun j => co p j * co q (m - j)) (m + 1) := by
 induction p generalizing m with
 | nil =>
  rw [rmul, co_nil, sum_eq_zero]
  intro i _
  rw [co_nil, zero_mul]
 | cons a p ih =>
  rw [rmul, co_zadd, co_scale, sum_front]
  congr 1
  cases m with
  | zero => rfl
  | succ m =>
   rw [co_succ, ih]
   apply sum_congr
   intro i hi
   rw [co_succ, show m + 1 - (i + 1) = m - i by omega]
def pmul (p q : List G) : List G := trim (rmul p q)
theorem ev_pmul (p q : List G) (x : G) : ev (pmul p q) x = ev p x * ev q x := by rw [pmul, ev_trim, ev_rmul]
theorem co_pmul (p q : List G) (m : Nat) : co (pmul p q) m = sum (fun j => co p j * co q (m - j)) (m + 1) := by rw [pmul, co_trim, co_rmul]
theorem trim_pmul (p q : List G) : trim (pmul p q) = pmul p q := trim_trim _
theorem co_pmul_ge {p q : List G} {m a b : Nat} (ha : ∀ i, a ≤ i → co p i = 0) (hb : ∀ i, b ≤ i → co q i = 0) (hm : a + b ≤ m + 1) : co (pmul p q) m = 0 := by
 rw [co_pmul]
 apply sum_eq_zero
 intro i hi
 by_cases h : a ≤ i
 ·rw [ha i h, zero_mul]
 ·rw [hb (m - i) (by omega), mul_zero]
theorem co_pmul_top {p q : List G} {a b : Nat} (ha : ∀ i, a < i → co p i = 0) (hb : ∀ i, b < i → co q i = 0) : co (pmul p q) (a + b) = co p a * co q b := by
 rw [co_pmul, sum_single (k := a) (by omega)]
 ·rw [show a + b - a = b by omega]
 ·intro i hi hne
  rcases Nat.lt_or_ge a i with h | h
  ·rw [ha i h, zero_mul]
  ·rw [hb (a + b - i) (by omega), mul_zero]
def quo (a : G) : List G → List G
 | [] => []
 | c :: p => if p = [] then [] else ev p a :: quo a p
theorem ev_quo (a x : G) (p : List G) : ev p x + ev p a = (x + a) * ev (quo a p) x := by
 induction p with
 | nil => rw [ev_nil, ev_nil, add_self, quo, ev_nil, mul_zero]
 | cons c p ih =>
  unfold quo
  by_cases h : p = []
  ·subst h
   rw [if_pos rfl, ev_cons, ev_nil, ev_cons, ev_nil, mul_zero, mul_zero, add_self, mul_zero]
  ·rw [if_neg h, ev_cons, ev_cons, ev_cons, mul_add, mul_left_comm, ← ih]
   have : c + x * ev p x + (c + a * ev p a) = x * ev p x + a * ev p a := by
    rw [add_assoc, add_left_comm (x * ev p x) c, add_add_self]
   rw [this, mul_add, add_mul]
   have e2 : x * ev p a + a * ev p a + (x * ev p x + x * ev p a) = x * ev p x + a * ev p a + (x * ev p a + x * ev p a) := by ac_rfl
   rw [e2, add_self, add_zero]
theorem quo_length (a : G) (p : List G) : (quo a p).length = p.length - 1 := by
 induction p with
 | nil => rfl
 | cons c p ih =>
  unfold quo
  by_cases h : p = []
  ·subst h
   rfl
  ·rw [if_neg h, List.length_cons, ih, List.length_cons]
   have : 0 < p.length := List.length_pos_iff.2 h
   omega
theorem of_quo {a : G} {p : List G} (h : ∀ i, co (quo a p) i = 0) (h0 : ev p a = 0) (i : Nat) : co p i = 0 := by
 induction p generalizing i with
 | nil => rfl
 | cons c p ih =>
  by_cases hp : p = []
  ·subst hp
   rw [ev_cons, ev_nil, mul_zero, add_zero] at h0
   cases i with
   | zero => exact h0
   | succ i => rfl
  ·unfold quo at h
   rw [if_neg hp] at h
   have h1 : ev p a = 0 := h 0
   have h2 : ∀ i, co (quo a p) i = 0 := fun i => h (i + 1)
   rw [ev_cons, h1, mul_zero, add_zero] at h0
   cases i with
   | zero => exact h0
   | succ i => exact ih h2 h1 i
theorem roots_zero : ∀ (xs : List G) (p : List G), xs.Nodup → p.length ≤ xs.length → (∀ x ∈ xs, ev p x = 0) → ∀ i, co p i = 0 := by
 intro xs
 induction xs with
 | nil =>
  intro p _ hl _ i
  rw [List.eq_nil_of_length_eq_zero (show p.length = 0 by simpa using hl), co_nil]
 | cons a xs ih =>
  intro p hd hl hr
  have ha : ev p a = 0 := hr a List.mem_cons_self
  apply of_quo (a := a) _ ha
  apply ih _ (List.nodup_cons.1 hd).2
  ·rw [quo_length]
   simp only [List.length_cons] at hl
   omega
  ·intro x hx
   have h1 := ev_quo a x p
   rw [hr x (List.mem_cons_of_mem _ hx), ha, add_zero] at h1
   have hne : x + a ≠ 0 := by
    intro e
    have := add_eq_zero.1 e
    subst this
    exact (List.nodup_cons.1 hd).1 hx
   exact (mul_eq_zero.1 h1.symm).resolve_left hne
theorem same_of_values {xs p q : List G} (hd : xs.Nodup) (hp : p.length ≤ xs.length) (hq : q.length ≤ xs.length) (h : ∀ x ∈ xs, ev p x = ev q x) (i : Nat) : co p i = co q i := by
 have := roots_zero xs (zadd p q) hd (by rw [zadd_length]; omega) (fun x hx => by rw [ev_zadd, h x hx, add_self]) i
 rw [co_zadd] at this
 exact add_eq_zero.1 this
end Go.Proofs.Ytndljfagojnidaa.Al
namespace Go.Proofs.Ytndljfagojnidaa.Al
open Go Go.RowKit Go.Proofs.YtndljfagojnidaaW.PrintWords Go.Proofs.YtndljfagojnidaaW.PrintMore Go.Proofs.Ytndljfagojnidaa.P
set_option linter.unusedVariables false
set_option linter.unusedSimpArgs false
theorem Ev.pos {α : Type} {c : Prop} [Decidable c] {A B : Nat → Option α} {r : α} (h : c) (hA : Ev A r) : Ev (fun k => if c then A k else B k) r := by
 simp only [if_pos h]; exact hA
theorem Ev.neg {α : Type} {c : Prop} [Decidable c] {A B : Nat → Option α} {r : α} (h : ¬ c) (hB : Ev B r) : Ev (fun k => if c then A k else B k) r := by
 simp only [if_neg h]; exact hB
theorem evc {α : Type} {g : Nat → Option α} {r r' : α} (h : Ev g r) (e : r = r') : Ev g r' := e ▸ h
theorem Ev.somef {α β : Type} {f : Nat → α → Option β} {a : α} {r : β} (h : Ev (fun k => f k a) r) : Ev (fun k => (some a).bind (f k)) r := h
theorem wrap_sm {x : Int} (h0 : -9223372036854775808 ≤ x) (h1 : x ≤ 9223372036854775807) : wrap64 x = x := by unfold wrap64; omega
def tm (a : G) : G := ⟨xt a.v⟩
theorem twice_all : ∀ a : Fin 256, gf_twice.f (a.val : Int) = some ((xt (BitVec.ofFin a)).toNat : Int) := by decide +kernel
theorem twice_i (a : G) : gf_twice.f a.i = some (tm a).i := twice_all a.v.toFin
theorem and_one {x : Int} (h0 : 0 ≤ x) (h1 : x < 256) : Go.bits .and .u8 x 1 = x % 2 := bits_mask .u8 8 (by decide) wraps_u8 1 (by decide) x h0 h1
def gmN : Nat → G → Nat → G
 | 0, _, _ => 0
 | n + 1, a, b => (if b % 2 = 1 then a else 0) + gmN n (tm a) (b / 2)
theorem gmN_zero (n : Nat) (a : G) : gmN n a 0 = 0 := by
 induction n generalizing a with
 | zero => rfl
 | succ n ih => rw [gmN, if_neg (by decide), Nat.zero_div, ih, add_zero]
theorem bit_cb (b : BitVec 8) (i : Nat) (a : G) : (if b.toNat / 2 ^ i % 2 = 1 then a else 0) = (⟨cb (b.getLsbD i) a.v⟩ : G) := by
 have h : b.getLsbD i = decide (b.toNat / 2 ^ i % 2 = 1) := by
  rw [BitVec.getLsbD, Nat.testBit_eq_decide_div_mod_eq]
 rw [h]
 by_cases e : b.toNat / 2 ^ i % 2 = 1
 ·rw [if_pos e, decide_eq_true e]; rfl
 ·rw [if_neg e, decide_eq_false e]; rfl
theorem mul_gmN (a b : G) : a * b = gmN 8 a b.v.toNat := by
 simp only [gmN, Nat.div_div_eq_div_mul]
 have h0 := bit_cb b.v 0 a
 simp only [Nat.pow_zero, Nat.div_one] at h0
 rw [h0, bit_cb b.v 1, bit_cb b.v 2, bit_cb b.v 3, bit_cb b.v 4, bit_cb b.v 5, bit_cb b.v 6, bit_cb b.v 7, add_zero]
 rfl
theorem mul_l0 (n : Nat) : ∀ (a : G) (b : Nat) (o : G), b < 2 ^ n → b < 256 → Ev (fun k => gf_Mul.l0 k a.i (b : Int) o.i) (o + gmN n a b).i := by
 induction n with
 | zero =>
  intro a b o h _
  obtain rfl : b = 0 := by omega
  refine Ev.step (fun k => gf_Mul.l0.eq_2 _ _ _ _) (Ev.pos rfl ?_)
  rw [gmN, add_zero]
  exact Ev.now _
 | succ n ih =>
  intro a b o h h1
  refine Ev.step (fun k => gf_Mul.l0.eq_2 _ _ _ _) ?_
  by_cases hb : b = 0
  ·subst hb
   refine Ev.pos rfl ?_
   rw [gmN_zero, add_zero]
   exact Ev.now _
  ·refine Ev.neg (by omega) ?_
   rw [and_one (by omega) (by omega), twice_i]
   have hd : ((b : Int) / 2) = ((b / 2 : Nat) : Int) := by omega
   rw [hd]
   by_cases ho : b % 2 = 1
   ·refine Ev.neg (by omega) ?_
    rw [xor_i]
    refine evc (ih (tm a) (b / 2) (o + a) (by rw [Nat.pow_succ] at h; omega) (by omega)) ?_
    rw [gmN, if_pos ho, add_assoc]
   ·refine Ev.pos (by omega) ?_
    refine evc (ih (tm a) (b / 2) o (by rw [Nat.pow_succ] at h; omega) (by omega)) ?_
    rw [gmN, if_neg ho, zero_add]
theorem mul_ev (a b : G) : Ev (fun k => gf_Mul.f k a.i b.i) (a * b).i := by
 have h := mul_l0 8 a b.v.toNat 0 b.v.isLt b.v.isLt
 rw [zero_add, ← mul_gmN] at h
 exact h
def X : Nat → G
 | 0 => 1
 | n + 1 => tm (X n)
def phi (P : Nat) : G := sum (fun i => if P.testBit i then X i else 0) 15
theorem phi_xor (P Q : Nat) : phi (P ^^^ Q) = phi P + phi Q := by
 unfold phi
 rw [← sum_add]
 apply sum_congr
 intro i _
 rw [Nat.testBit_xor]
 cases P.testBit i <;> cases Q.testBit i <;> simp [add_self, add_zero, zero_add]
theorem phi_mod : ∀ j : Fin 7, phi (285 * 2 ^ j.val) = 0 := by decide +kernel
theorem phi_small : ∀ a : Fin 256, phi a.val = ⟨BitVec.ofFin a⟩ := by decide +kernel
theorem phi_shift : ∀ (i : Fin 8) (a : Fin 256), phi (a.val * 2 ^ i.val) = ⟨BitVec.ofFin a⟩ * ⟨1#8 <<< i.val⟩ := by decide +kernel
def part (a : G) (b n : Nat) : G := sum (fun i => if b / 2 ^ i % 2 = 1 then a * ⟨1#8 <<< i⟩ else 0) n
theorem part_all (a b : G) : part a b.v.toNat 8 = a * b := by
 have h := sum_bits b.v.toFin
 rw [show (BitVec.ofFin b.v.toFin : BitVec 8) = b.v from rfl] at h
 have hb : b = (⟨cb (b.v.getLsbD 0) 1#8⟩ : G) + ((⟨cb (b.v.getLsbD 1) 2#8⟩ : G) + ((⟨cb (b.v.getLsbD 2) 4#8⟩ : G) + ((⟨cb (b.v.getLsbD 3) 8#8⟩ : G) + ((⟨cb (b.v.getLsbD 4) 16#8⟩ : G) + ((⟨cb (b.v.getLsbD 5) 32#8⟩ : G) + ((⟨cb (b.v.getLsbD 6) 64#8⟩ : G) + (⟨cb (b.v.getLsbD 7) 128#8⟩ : G))))))) := G.eq_of h
 have hi : ∀ i, (if b.v.toNat / 2 ^ i % 2 = 1 then a * ⟨1#8 <<< i⟩ else 0) = a * (⟨cb (b.v.getLsbD i) (1#8 <<< i)⟩ : G) := by
  intro i
  have := bit_cb b.v i (⟨1#8 <<< i⟩ : G)
  rw [← this]
  split
  ·rfl
  ·rw [mul_zero]
 have hs : part a b.v.toNat 8 = sum (fun i => a * (⟨cb (b.v.getLsbD i) (1#8 <<< i)⟩ : G)) 8 := sum_congr (fun i _ => hi i)
 rw [hs, sum_mul]
 congr 1
 conv => rhs; rw [hb]
 simp only [sum_succ, sum_zero, zero_add]
 show _ + (⟨cb (b.v.getLsbD 7) 128#8⟩ : G) = _
 simp only [add_assoc]
 rfl
theorem xor_nat {a b : Nat} (ha : a < 32768) (hb : b < 32768) : Go.bits .xor .i64 (a : Int) (b : Int) = ((a ^^^ b : Nat) : Int) := by
 unfold Go.bits
 have hx : a ^^^ b < 2 ^ 15 := Nat.xor_lt_two_pow ha hb
 show IntKind.i64.wrap ((BitVec.ofInt 64 (a : Int) ^^^ BitVec.ofInt 64 (b : Int)).toNat : Int) = _
 simp only [BitVec.ofInt_natCast, BitVec.toNat_xor, BitVec.toNat_ofNat]
 rw [Nat.mod_eq_of_lt (by omega), Nat.mod_eq_of_lt (by omega), IntKind.wrap_i64]
 omega
theorem xor_top {P i : Nat} (hi : 8 ≤ i) (h0 : 2 ^ i ≤ P) (h1 : P < 2 ^ (i + 1)) : P ^^^ (285 * 2 ^ (i - 8)) < 2 ^ i := by
 apply Nat.lt_pow_two_of_testBit
 intro j hj
 have hq : 285 * 2 ^ (i - 8) < 2 ^ (i + 1) := by
  have : 2 ^ (i + 1) = 512 * 2 ^ (i - 8) := by
   rw [show (512 : Nat) = 2 ^ 9 from rfl, ← Nat.pow_add]
   congr 1; omega
  rw [this]
  have := Nat.two_pow_pos (i - 8)
  omega
 have hq0 : 2 ^ i ≤ 285 * 2 ^ (i - 8) := by
  have : 2 ^ i = 256 * 2 ^ (i - 8) := by
   rw [show (256 : Nat) = 2 ^ 8 from rfl, ← Nat.pow_add]
   congr 1; omega
  rw [this]
  have := Nat.two_pow_pos (i - 8)
  omega
 rw [Nat.testBit_xor]
 by_cases e : j = i
 ·subst e
  have h2 : ∀ Q, 2 ^ j ≤ Q → Q < 2 ^ (j + 1) → Q.testBit j = true := by
   intro Q h2 h3
   rw [Nat.testBit_eq_decide_div_mod_eq]
   have : Q / 2 ^ j = 1 := by
    apply Nat.div_eq_of_lt_le
    ·rw [Nat.one_mul]; exact h2
    ·rw [Nat.pow_succ] at h3; omega
   rw [this]
   rfl
  rw [h2 _ h0 h1, h2 _ hq0 hq]
  rfl
 ·have hle : 2 ^ (i + 1) ≤ 2 ^ j := Nat.pow_le_pow_right (by decide) (by omega)
  rw [Nat.testBit_lt_two_pow (by omega), Nat.testBit_lt_two_pow (by omega)]
  rfl
theorem ref_l1 (n : Nat) : ∀ (P : Nat), P < 2 ^ (8 + n) → n ≤ 7 → Ev (fun k => footlockerref01_Mul.l1 k (P : Int) ((7 + n : Nat) : Int)) (phi P).i := by
 induction n with
 | zero =>
  intro P h _
  refine Ev.step (fun k => footlockerref01_Mul.l1.eq_2 _ _ _) (Ev.neg (by omega) ?_)
  have hs := phi_small ⟨P, h⟩
  have : (phi P).i = (P : Int) % 256 := by
   rw [hs]
   show (P : Int) = _
   omega
  rw [this]
  exact Ev.now _
 | succ n ih =>
  intro P h hn
  have hb : P < 32768 := Nat.lt_of_lt_of_le h (show 2 ^ (8 + (n + 1)) ≤ 2 ^ 15 from Nat.pow_le_pow_right (by decide) (by omega))
  refine Ev.step (fun k => footlockerref01_Mul.l1.eq_2 _ _ _) (Ev.pos (by omega) (Ev.pos (by omega) ?_))
  have hw1 : wrap64 (((7 + (n + 1) : Nat) : Int) - 8) = (n : Int) := by rw [wrap_sm (by omega) (by omega)]; omega
  have hw2 : wrap64 (((7 + (n + 1) : Nat) : Int) - 1) = ((7 + n : Nat) : Int) := by rw [wrap_sm (by omega) (by omega)]; omega
  rw [hw1, hw2]
  have hsh : shr .i64 (P : Int) ((7 + (n + 1) : Nat) : Int) = ((P / 2 ^ (8 + n) : Nat) : Int) := by
   unfold shr
   rw [show min (((7 + (n + 1) : Nat) : Int)).toNat (IntKind.bits .i64) = 8 + n by
    rw [Int.toNat_natCast]; show min (7 + (n + 1)) 64 = _; omega]
   norm_cast
  rw [hsh]
  have hlt : P / 2 ^ (8 + n) < 2 := by
   rw [Nat.div_lt_iff_lt_mul (Nat.two_pow_pos _), Nat.mul_comm, ← Nat.pow_succ]
   exact h
  by_cases hp : 2 ^ (8 + n) ≤ P
  ·have h1 : P / 2 ^ (8 + n) = 1 := by
    have := Nat.div_pos hp (Nat.two_pow_pos _)
    omega
   rw [h1]
   refine Ev.pos (by decide) (Ev.pos (by omega) ?_)
   have hshl : shl .i64 285 (n : Int) = ((285 * 2 ^ n : Nat) : Int) := by
    unfold shl
    rw [show min ((n : Int)).toNat (IntKind.bits .i64) = n by rw [Int.toNat_natCast]; show min n 64 = _; omega]
    have hle : (2 : Nat) ^ n ≤ 64 := Nat.pow_le_pow_right (n := 2) (by decide) (show n ≤ 6 by omega)
    have : (285 * 2 ^ n : Int) = ((285 * 2 ^ n : Nat) : Int) := by rw [Int.natCast_mul, Int.natCast_pow]; rfl
    rw [this, IntKind.wrap_i64]
    omega
   have hle : 285 * 2 ^ n < 32768 := by
    have hle : (2 : Nat) ^ n ≤ 64 := Nat.pow_le_pow_right (n := 2) (by decide) (show n ≤ 6 by omega)
    omega
   rw [hshl, xor_nat hb hle]
   have ht := xor_top (i := 8 + n) (by omega) hp h
   rw [show 8 + n - 8 = n by omega] at ht
   refine evc (ih _ ht (by omega)) ?_
   rw [phi_xor, phi_mod ⟨n, by omega⟩, add_zero]
  ·rw [Nat.div_eq_of_lt (by omega)]
   exact Ev.neg (by decide) (ih P (by omega) (by omega))
theorem ref_l0 (n : Nat) (a b : G) : ∀ (i P : Nat), i + n = 8 → P < 32768 → phi P = part a b.v.toNat i → Ev (fun k => footlockerref01_Mul.l0 k a.i b.i (P : Int) (i : Int)) (a * b).i := by
 induction n with
 | zero =>
  intro i P hi hP hs
  obtain rfl : i = 8 := by omega
  refine Ev.step (fun k => footlockerref01_Mul.l0.eq_2 _ _ _ _ _) (Ev.neg (by omega) ?_)
  rw [part_all] at hs
  rw [← hs]
  exact ref_l1 7 P hP (by omega)
 | succ n ih =>
  intro i P hi hP hs
  refine Ev.step (fun k => footlockerref01_Mul.l0.eq_2 _ _ _ _ _) (Ev.pos (by omega) (Ev.pos (by omega) ?_))
  have hw : wrap64 ((i : Int) + 1) = ((i + 1 : Nat) : Int) := by rw [wrap_sm (by omega) (by omega)]; omega
  rw [hw]
  have hsh : shr .u8 b.i (i : Int) = ((b.v.toNat / 2 ^ i : Nat) : Int) := by
   unfold shr G.i
   rw [show min ((i : Int)).toNat (IntKind.bits .u8) = i by rw [Int.toNat_natCast]; show min i 8 = _; omega]
   norm_cast
  rw [hsh]
  have htm : Int.tmod ((b.v.toNat / 2 ^ i : Nat) : Int) 2 = ((b.v.toNat / 2 ^ i % 2 : Nat) : Int) := by
   rw [Int.tmod_eq_emod_of_nonneg (Int.natCast_nonneg _)]
   rfl
  rw [htm]
  have hs1 : part a b.v.toNat (i + 1) = part a b.v.toNat i + (if b.v.toNat / 2 ^ i % 2 = 1 then a * ⟨1#8 <<< i⟩ else 0) := rfl
  by_cases ho : b.v.toNat / 2 ^ i % 2 = 1
  ·refine Ev.pos (by omega) ?_
   have hwa : wrap64 a.i = a.i := wrap_sm (by have := i_nonneg a; omega) (by have := i_le a; omega)
   have hle : (2 : Nat) ^ i ≤ 128 := Nat.pow_le_pow_right (n := 2) (by decide) (show i ≤ 7 by omega)
   have hal := a.v.isLt
   have hmul : a.v.toNat * 2 ^ i ≤ 255 * 128 := Nat.mul_le_mul (by omega) hle
   have hps : phi (a.v.toNat * 2 ^ i) = a * ⟨1#8 <<< i⟩ := phi_shift ⟨i, by omega⟩ a.v.toFin
   have hcast : ((a.v.toNat : Int) * 2 ^ i : Int) = ((a.v.toNat * 2 ^ i : Nat) : Int) := by rw [Int.natCast_mul, Int.natCast_pow]; rfl
   have hshl : shl .i64 (wrap64 a.i) (i : Int) = IntKind.i64.wrap ((a.v.toNat * 2 ^ i : Nat) : Int) := by
    rw [hwa]
    unfold shl G.i
    rw [show min ((i : Int)).toNat (IntKind.bits .i64) = i by rw [Int.toNat_natCast]; show min i 64 = _; omega]
    rw [hcast]
   rw [hshl]
   clear hshl hcast hle
   generalize a.v.toNat * 2 ^ i = M at hmul hps
   have hM : M < 32768 := by omega
   have hwM : IntKind.i64.wrap (M : Int) = (M : Int) := by rw [IntKind.wrap_i64]; omega
   rw [hwM, xor_nat hP hM]
   refine ih (i + 1) _ (by omega) (Nat.xor_lt_two_pow (n := 15) hP hM) ?_
   rw [phi_xor, hs, hs1, if_pos ho, hps]
  ·refine Ev.neg (by omega) ?_
   exact ih (i + 1) P (by omega) hP (by rw [hs, hs1, if_neg ho, add_zero])
theorem refmul_ev (a b : G) : Ev (fun k => footlockerref01_Mul.f k a.i b.i) (a * b).i :=
 ref_l0 8 a b 0 0 rfl (by decide) (by
  have : phi 0 = 0 := phi_small 0
  rw [this]; rfl)
end Go.Proofs.Ytndljfagojnidaa.Al
namespace Go.Proofs.Ytndljfagojnidaa.Al
open Go Go.RowKit Go.Proofs.YtndljfagojnidaaW.PrintWords Go.Proofs.YtndljfagojnidaaW.PrintMore Go.Proofs.Ytndljfagojnidaa.P
set_option linter.unusedVariables false
set_option linter.unusedSimpArgs false
def bs (p : List G) : List Int := p.map G.i
theorem bs_length (p : List G) : (bs p).length = p.length := List.length_map _
theorem bs_cons (a : G) (p : List G) : bs (a :: p) = a.i :: bs p := rfl
theorem bs_append (p q : List G) : bs (p ++ q) = bs p ++ bs q := List.map_append
theorem bs_take (p : List G) (n : Nat) : (bs p).take n = bs (p.take n) := List.map_take.symm
theorem bs_drop (p : List G) (n : Nat) : (bs p).drop n = bs (p.drop n) := List.map_drop.symm
theorem bs_set (p : List G) (n : Nat) (a : G) : (bs p).set n a.i = bs (p.set n a) := List.map_set.symm
theorem bs_replicate (n : Nat) : List.replicate n (0 : Int) = bs (List.replicate n 0) := by rw [bs, List.map_replicate]; rfl
theorem bs_inj {p q : List G} : bs p = bs q ↔ p = q := by
 constructor
 ·intro h
  exact List.map_inj_right (fun a b => i_inj.1) |>.1 h
 ·rintro rfl; rfl
theorem rd_bs (p : List G) (n : Nat) : rd (bs p) (n : Int) = (co p n).i := by
 simp only [rd, bs, Int.toNat_natCast, co, List.getD_eq_getElem?_getD, List.getElem?_map]
 cases p[n]? <;> rfl
theorem of_bytes : ∀ l : List Int, (∀ x ∈ l, 0 ≤ x ∧ x < 256) → ∃ p, l = bs p := by
 intro l
 induction l with
 | nil => intro _; exact ⟨[], rfl⟩
 | cons a l ih =>
  intro h
  obtain ⟨p, rfl⟩ := ih (fun x hx => h x (List.mem_cons_of_mem _ hx))
  have ha := h a List.mem_cons_self
  exact ⟨G.of a :: p, by rw [bs_cons, i_of ha.1 ha.2]⟩
theorem wrap_succ {n : Nat} (h : n < 4611686018427387904) : wrap64 ((n : Int) + 1) = ((n + 1 : Nat) : Int) := by
 rw [wrap_sm (by omega) (by omega)]; omega
theorem wrap_pred (n : Nat) (h : n < 4611686018427387904) : wrap64 (((n + 1 : Nat) : Int) - 1) = (n : Int) := by
 rw [wrap_sm (by omega) (by omega)]; omega
theorem drop_co {p : List G} {n : Nat} (h : n < p.length) : p.drop n = co p n :: p.drop (n + 1) := by rw [List.drop_eq_getElem_cons h, co_lt h]
theorem clone_some (l : List Int) (h : l.length < 1000000000000) : slices_Clone_byte_byte.f l = some l := by
 unfold slices_Clone_byte_byte.f
 rw [if_pos (by omega)]
theorem and_one64 {x : Int} (h0 : 0 ≤ x) (h1 : x < 256) : Go.bits .and .i64 x 1 = x % 2 :=
 bits_mask .i64 8 (by decide) (fun n a b => by rw [IntKind.wrap_i64]; omega) 1 (by decide) x h0 h1
theorem power_odd {a o : G} {x : Int} {r : Int} (h0 : 0 < x) (h1 : x < 256) (ho : x % 2 = 1) (h : Ev (fun k => gf_power.l0 k (a * a).i (x / 2) (o * a).i) r) : Ev (fun k => gf_power.l0 k a.i x o.i) r := by
 refine Ev.step (fun k => gf_power.l0.eq_2 _ _ _ _) (Ev.pos h0 ?_)
 rw [and_one64 (by omega) h1]
 exact Ev.neg (by omega) (Ev.bind (mul_ev _ _) (Ev.bind (mul_ev _ _) h))
theorem power_even {a o : G} {x : Int} {r : Int} (h0 : 0 < x) (h1 : x < 256) (ho : x % 2 = 0) (h : Ev (fun k => gf_power.l0 k (a * a).i (x / 2) o.i) r) : Ev (fun k => gf_power.l0 k a.i x o.i) r := by
 refine Ev.step (fun k => gf_power.l0.eq_2 _ _ _ _) (Ev.pos h0 ?_)
 rw [and_one64 (by omega) h1]
 exact Ev.pos (by omega) (Ev.bind (mul_ev _ _) h)
theorem power_end (a o : G) : Ev (fun k => gf_power.l0 k a.i 0 o.i) o.i :=
 Ev.step (fun k => gf_power.l0.eq_2 _ _ _ _) (Ev.neg (by omega) (Ev.now _))
theorem inv_ev (a : G) : Ev (fun k => gf_Inv.f k a.i) (inv a).i := by
 refine Ev.congr (fun k => gf_Inv.f.eq_1 _ _) (Ev.bind (a := (inv a).i) ?_ (Ev.now _))
 refine Ev.congr (fun k => gf_power.f.eq_1 _ _ _) ?_
 have : Ev (fun k => gf_power.l0 k a.i 254 (1 : G).i) (inv a).i := by
  refine power_even (by omega) (by omega) (by decide) ?_
  refine power_odd (by omega) (by omega) (by decide) ?_
  refine power_odd (by omega) (by omega) (by decide) ?_
  refine power_odd (by omega) (by omega) (by decide) ?_
  refine power_odd (by omega) (by omega) (by decide) ?_
  refine power_odd (by omega) (by omega) (by decide) ?_
  refine power_odd (by omega) (by omega) (by decide) ?_
  refine power_odd (by omega) (by omega) (by decide) ?_
  refine evc (power_end _ _) ?_
  rw [one_mul]
  rfl
 exact this
end Go.Proofs.Ytndljfagojnidaa.Al
namespace Go.Proofs.Ytndljfagojnidaa.Al
open Go Go.RowKit Go.Proofs.YtndljfagojnidaaW.PrintWords Go.Proofs.YtndljfagojnidaaW.PrintMore Go.Proofs.Ytndljfagojnidaa.P
set_option linter.unusedVariables false
set_option linter.unusedSimpArgs false
theorem degree_l0 (p : List G) (hp : p.length < 1000000000000) : ∀ m, m ≤ p.length → (∀ j, m ≤ j → co p j = 0) → Ev (fun k => poly_Degree.l0 k (bs p) ((m : Int) - 1)) (((trim p).length : Int) - 1) := by
 intro m
 induction m with
 | zero =>
  intro _ h
  refine Ev.step (fun k => poly_Degree.l0.eq_2 _ _ _) (Ev.neg (by omega) ?_)
  rw [trim_eq_nil (fun i => h i (Nat.zero_le _))]
  exact Ev.now _
 | succ m ih =>
  intro hm h
  have e : (((m + 1 : Nat) : Int) - 1) = (m : Int) := by omega
  rw [e]
  refine Ev.step (fun k => poly_Degree.l0.eq_2 _ _ _) (Ev.pos (by omega) (Ev.pos (by omega) (Ev.pos (by rw [bs_length]; omega) ?_)))
  rw [rd_bs]
  by_cases hz : co p m = 0
  ·refine Ev.pos (by rw [hz]; rfl) ?_
   rw [wrap_sm (by omega) (by omega)]
   refine ih (by omega) (fun j hj => ?_)
   by_cases ej : j = m
   ·rw [ej, hz]
   ·exact h j (by omega)
  ·refine Ev.neg (by rw [i_eq_zero]; exact hz) ?_
   rw [trim_length_of h (.inr (by simpa using hz))]
   rw [e]
   exact Ev.now _
theorem degree_ev (p : List G) (hp : p.length < 1000000000000) : Ev (fun k => poly_Degree.f k (bs p)) (((trim p).length : Int) - 1) := by
 have h := degree_l0 p hp p.length (Nat.le_refl _) (fun j hj => co_ge hj)
 have e : wrap64 (((bs p).length : Int) - 1) = (p.length : Int) - 1 := by rw [bs_length, wrap_sm (by omega) (by omega)]
 refine Ev.congr (fun k => ?_) h
 rw [poly_Degree.f, e]
theorem trim_ev (p : List G) (hp : p.length < 1000000000000) : Ev (fun k => poly_Trim.f k (bs p)) (bs (trim p)) := by
 have hl := trim_length_le p
 refine Ev.congr (fun k => poly_Trim.f.eq_1 _ _) (Ev.bind (degree_ev p hp) ?_)
 have e : wrap64 (((trim p).length : Int) - 1 + 1) = ((trim p).length : Int) := by rw [wrap_sm (by omega) (by omega)]; omega
 rw [e]
 refine Ev.pos (by omega) (Ev.pos (by rw [bs_length]; omega) ?_)
 rw [Int.toNat_natCast, bs_take, ← trim_eq_take, clone_some _ (by rw [bs_length]; omega)]
 exact Ev.now _
theorem eval_l0 (p : List G) (x : G) (hp : p.length < 100000000000) : ∀ m, m ≤ p.length → Ev (fun k => poly_Eval.l0 k (bs p) x.i (ev (p.drop m) x).i ((m : Int) - 1)) (ev p x).i := by
 intro m
 induction m with
 | zero =>
  intro _
  exact Ev.step (fun k => poly_Eval.l0.eq_2 _ _ _ _ _) (Ev.neg (by omega) (Ev.now _))
 | succ m ih =>
  intro hm
  have e : (((m + 1 : Nat) : Int) - 1) = (m : Int) := by omega
  rw [e]
  refine Ev.step (fun k => poly_Eval.l0.eq_2 _ _ _ _ _) (Ev.pos (by omega) (Ev.bind (mul_ev _ _) (Ev.pos (by omega) (Ev.pos (by rw [bs_length]; omega) ?_))))
  rw [rd_bs, xor_i, wrap_sm (by omega) (by omega)]
  have h := ih (by omega)
  rw [drop_co (show m < p.length by omega), ev_cons, add_comm, mul_comm] at h
  exact h
theorem eval_ev (p : List G) (x : G) (hp : p.length < 100000000000) : Ev (fun k => poly_Eval.f k (bs p) x.i) (ev p x).i := by
 have h := eval_l0 p x hp p.length (Nat.le_refl _)
 rw [List.drop_length] at h
 refine Ev.congr (fun k => poly_Eval.f.eq_1 _ _ _) ?_
 rw [bs_length, wrap_sm (by omega) (by omega)]
 exact h
theorem div_ev (a b : G) (hb : b ≠ 0) : Ev (fun k => gf_Div.f k a.i b.i) ((a * inv b).i, true) :=
 Ev.congr (fun k => gf_Div.f.eq_1 _ _ _) (Ev.neg (by rw [i_eq_zero]; exact hb) (Ev.bind (inv_ev b) (Ev.bind (mul_ev _ _) (Ev.now _))))
end Go.Proofs.Ytndljfagojnidaa.Al
namespace Go.Proofs.Ytndljfagojnidaa.Al
open Go Go.RowKit Go.Proofs.YtndljfagojnidaaW.PrintWords Go.Proofs.YtndljfagojnidaaW.PrintMore Go.Proofs.Ytndljfagojnidaa.P
set_option linter.unusedVariables false
set_option linter.unusedSimpArgs false
theorem rd_drop {l : List Int} {n : Nat} (h : n < l.length) : l.drop n = rd l (n : Int) :: l.drop (n + 1) := by
 rw [List.drop_eq_getElem_cons h]
 simp [rd, List.getD_eq_getElem?_getD, List.getElem?_eq_getElem h]
theorem same_l0 (a b : List Int) (hl : a.length = b.length) (ha : a.length < 1000000000000) (d : Nat) : ∀ n : Nat, n + d = a.length → Ev (fun k => footlockerref01_Same.l0 k a b (n : Int)) (decide (a.drop n = b.drop n)) := by
 induction d with
 | zero =>
  intro n hn
  refine Ev.step (fun k => footlockerref01_Same.l0.eq_2 _ _ _ _) (Ev.neg (by omega) ?_)
  rw [List.drop_of_length_le (by omega), List.drop_of_length_le (by omega)]
  exact Ev.now _
 | succ d ih =>
  intro n hn
  refine Ev.step (fun k => footlockerref01_Same.l0.eq_2 _ _ _ _) (Ev.pos (by omega) (Ev.pos (by omega) (Ev.pos (by omega) ?_)))
  rw [rd_drop (show n < a.length by omega), rd_drop (show n < b.length by omega)]
  by_cases e : rd a (n : Int) = rd b (n : Int)
  ·refine Ev.pos e ?_
   rw [wrap_succ (by omega)]
   refine evc (ih (n + 1) (by omega)) ?_
   rw [e]
   simp
  ·refine Ev.neg e ?_
   rw [decide_eq_false (by intro h; exact e (List.cons.inj h).1)]
   exact Ev.now _
theorem same_ev (a b : List Int) (ha : a.length < 1000000000000) : Ev (fun k => footlockerref01_Same.f k a b) (decide (a = b)) := by
 refine Ev.congr (fun k => footlockerref01_Same.f.eq_1 _ _ _) ?_
 by_cases hl : a.length = b.length
 ·refine Ev.pos (by omega) ?_
  have := same_l0 a b hl ha a.length 0 (by omega)
  rw [List.drop_zero, List.drop_zero] at this
  exact this
 ·refine Ev.neg (by omega) ?_
  rw [decide_eq_false (by rintro rfl; exact hl rfl)]
  exact Ev.now _
theorem copy_some (l : List Int) (h : l.length < 1000000000000) : footlockerref01_Copy.f l = some l := by
 unfold footlockerref01_Copy.f
 simp only [Option.bind_some, List.length_nil, List.nil_append]
 rw [if_pos (by omega)]
theorem refinv_l0 (a : G) (d : Nat) : ∀ n : Nat, n + d = 256 → 1 ≤ n → (∀ b : G, a * b = 1 → (n : Int) ≤ b.i) → Ev (fun k => footlockerref01_Inv.l0 k a.i (n : Int)) (inv a).i := by
 induction d with
 | zero =>
  intro n hn _ h
  refine Ev.step (fun k => footlockerref01_Inv.l0.eq_2 _ _ _) (Ev.neg (by omega) ?_)
  have ha : a = 0 := by
   apply Classical.byContradiction
   intro hne
   have := h _ (mul_inv hne)
   have := i_lt (inv a)
   omega
  rw [ha, inv_zero]
  exact Ev.now _
 | succ d ih =>
  intro n hn h1 h
  refine Ev.step (fun k => footlockerref01_Inv.l0.eq_2 _ _ _) (Ev.pos (by omega) ?_)
  have e : (n : Int) % 256 = (G.of (n : Int)).i := by rw [i_of (by omega) (by omega)]; omega
  rw [e]
  refine Ev.bind (refmul_ev _ _) ?_
  by_cases hm : a * G.of (n : Int) = 1
  ·refine Ev.pos (by rw [hm]; rfl) ?_
   rw [inv_unique hm]
   exact Ev.now _
  ·refine Ev.neg (by rw [← i_one, i_inj]; exact hm) ?_
   rw [wrap_succ (by omega)]
   refine ih (n + 1) (by omega) (by omega) (fun b hb => ?_)
   have := h b hb
   rcases Int.lt_or_eq_of_le this with h2 | h2
   ·omega
   ·exfalso
    apply hm
    rw [h2, of_i]
    exact hb
end Go.Proofs.Ytndljfagojnidaa.Al
