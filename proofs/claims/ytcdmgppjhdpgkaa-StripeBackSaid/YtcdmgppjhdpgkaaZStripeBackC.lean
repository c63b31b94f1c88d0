/- What the statement's proof uses: lemmas, and the program's functions as Lean functions; each theorem states its own conditions. Joined by a program. -/
import Derived.Test.YtcdmgppjhdpgkaaZStripeBackB
namespace Go.Proofs.Ytcdmgppjhdpgkaa.P
open Go.RowKit Go.Proofs.YtcdmgppjhdpgkaaW.PrintWords Go.Proofs.YtcdmgppjhdpgkaaW.PrintLast Go.Proofs.YtcdmgppjhdpgkaaW.PrintMore
set_option linter.unusedVariables false
set_option linter.unusedSimpArgs false
set_option maxHeartbeats 8000000 in
set_option maxRecDepth 100000 in
theorem stripe_Parity.calls (k : Nat) (A0 : Option Addr) (c0 : Nat) (l0 : List (List Int)) (a1 : Int) (r1 : List (List Int)) (r2 : Int) (w : World) (hr0 : Kd.C (Kd.slice 5 (Kd.int .u8)) w A0 l0.length l0) (hc0 : l0.length ≤ c0) (h : stripe_Parity.f k l0 a1 = some (r1, r2)) :
 Calls Try.prog 18 #[.slice A0 l0.length c0, .int .i64 a1] w fun e w' => ∃ v0_ : Value, e = .returned (.tuple #[v0_, .int .i64 r2]) ∧ Kd.S (Kd.slice 5 (Kd.int .u8)) 22 w' w.heap.size (fun _ => True) v0_ r1 ∧ Below w.heap.size w w' := by
 have hmf : ∀ (fn : Fn) (first cap : Array Value) (w : World), (Instr.makeFunc fn first cap).run Try.prog w = .ok (.func fn first cap) w := fun _ _ _ _ => rfl
 obtain ⟨b, hbz⟩ : ∃ b, w.heap.size = b := ⟨_, rfl⟩
 obtain ⟨W1, hW1⟩ : ∃ W1, w.alloc (.cells #[.slice A0 l0.length c0] 40) = W1 := ⟨_, rfl⟩
 have hW : W1.cell? ⟨b, 0, none⟩ = some (.slice A0 l0.length c0) := by rw [← hW1, ← hbz, World.cell?_alloc_at _ _ _ _ rfl]; rfl
 have hBW : Below w.heap.size w W1 := by rw [← hW1]; exact below_alloc (Below.refl _ _) _
 have HR0 := Aside0.mk (show Kd.C (Kd.slice 5 (Kd.int .u8)) W1 A0 l0.length l0 from by rw [← hW1]; exact Kd.C_alloc hr0 _)
 have HC0 := Aside0.mk hc0
 refine Calls.mono (R := fun e w' => ∃ v0_ : Value, e = .returned (.tuple #[v0_, .int .i64 r2]) ∧ Kd.S (Kd.slice 5 (Kd.int .u8)) 22 w' W1.heap.size (fun _ => True) v0_ r1 ∧ Below W1.heap.size W1 w') ?_ ?_
 rotate_left
 ·rintro e w' ⟨v, h1, h2, h3⟩
  exact ⟨v, h1, Kd.S_lower h2 (below_size hBW), below_step hBW h3⟩
 obtain ⟨z, hz⟩ : ∃ z, (decide (fidx (fun x => (x.length : Int) != ((rd_L1 l0 0).length : Int)) l0 0 ≥ 0)) = z := ⟨_, rfl⟩
 have HC := Aside0.mk (slices_ContainsFunc_31.calls b (fun x => (x.length : Int) != ((rd_L1 l0 0).length : Int)) A0 c0 l0 W1 HR0.out hc0
  (fun m A c x hx hCx hlx => linear_Right_1.calls b A c x A0 c0 l0 _ hW (Kd.C_drewN HR0.out m) (List.length_pos_of_mem hx) hCx.2.1))
 unfold stripe_Parity.f at h
 rw [hz] at HC h
 clear hr0 hc0 hBW
 have HB := Aside0.mk (Below.refl W1.heap.size W1)
 have H : (if (l0.length : Int) = 0 then (stripe_Parity.j0 k a1 l0 true) else (if a1 < 0 then (stripe_Parity.j0 k a1 l0 true) else (stripe_Parity.j0 k a1 l0 z))) = some (r1, r2) := h
 clear h
 have HC3 := Aside0.mk H
 clear H
 go_enter Try.func18, Try.ntmps18
 go_upto_region 1 with (fail)
 try simp only [hW1, hbz]
 clear hW1 hbz
 go_cut [23] (fun v23 wc => ∃ (kq : Nat) (x23_2 : Bool), v23 = .bool x23_2 ∧ Aside0 (stripe_Parity.j0 kq a1 l0 x23_2 = some (r1, r2)) ∧ Aside0 (kq ≤ k) ∧ Aside0 (Below W1.heap.size W1 wc))
 case first =>
  have H := HC3.out
  clear HC3
  by_cases c4 : (l0.length : Int) = 0
  ·rw [if_pos c4] at H
   have c4b0 : ((l0.length : Int) == 0) = true := beq_iff_eq.mpr c4
   have c4b1 : ((l0.length : Int) != 0) = false := bne_eq_false_iff_eq.mpr c4
   clear c4
   (first | rw [c4b0] | (simp only [i64_w, i32_w]; rw [c4b0]) | skip)
   have H' := Aside0.mk H
   clear H
   go_wp2
   go_meet
   case rel => exact ⟨_, (true), (by first | rfl | (simp; done) | (simp [*]; done)), H', ⟨by first | omega | exact Nat.le_refl _⟩, ⟨by repeat (first | (with_reducible first | exact HB.out | apply below_alloc | apply pw_below_drewN | apply below_drew1) | exact HB.out)⟩⟩
  ·rw [if_neg c4] at H
   have c4b0 : ((l0.length : Int) == 0) = false := beq_eq_false_iff_ne.mpr c4
   have c4b1 : ((l0.length : Int) != 0) = true := bne_iff_ne.mpr c4
   have c4b2 : ¬ (l0 = []) := fun h_ => c4 (by rw [h_]; rfl)
   (first | rw [c4b0] | (simp only [i64_w, i32_w]; rw [c4b0]) | skip)
   by_cases c5 : a1 < 0
   ·rw [if_pos c5] at H
    have c5b0 : decide (a1 < 0) = true := decide_eq_true c5
    clear c5
    have H' := Aside0.mk H
    clear H
    go_wp2
    go_meet
    case rel => exact ⟨_, (true), (by first | rfl | (simp; done) | (simp [*]; done)), H', ⟨by first | omega | exact Nat.le_refl _⟩, ⟨by repeat (first | (with_reducible first | exact HB.out | apply below_alloc | apply pw_below_drewN | apply below_drew1) | exact HB.out)⟩⟩
   ·rw [if_neg c5] at H
    have c5b0 : decide (a1 < 0) = false := decide_eq_false c5
    clear c5
    have H' := Aside0.mk H
    clear H
    go_wp2_with (first | (go_at_call 32; (with_reducible refine HC.out.mono ?_); rintro e w' ⟨rfl, ⟨nd, rfl⟩⟩))
    go_meet
    case rel => exact ⟨_, z, (by first | rfl | (simp; done) | (simp [*]; done)), H', ⟨by first | omega | exact Nat.le_refl _⟩, ⟨by repeat (first | (with_reducible first | exact HB.out | apply below_alloc | apply pw_below_drewN | apply below_drew1) | exact HB.out)⟩⟩
 case rest =>
  clear HC3
  try clear c1
  try clear p2
  try clear c4
  try clear c4b0
  try clear c4b1
  try clear c4b2
  try clear c5
  try clear c5b0
  obtain ⟨kq, x23_2, rfl, HA, HJ2, HB⟩ := hcut
  have hbx := (HB.out.cell (World.block_lt_of_cell? W1 _ hW)).trans hW
  cases kq with
  | zero => exact absurd HA.out (by simp [stripe_Parity.j0])
  | succ kj2 =>
   have H := HA.out
   clear HA
   simp only [stripe_Parity.j0] at H
   by_cases c6 : x23_2 = true
   ·subst c6
    have H1 : (some (([] : List (List Int)), 1)) = some (r1, r2) := by rw [if_pos rfl] at H; exact H
    clear H
    have H := H1
    clear H1
    simp only [Option.some.injEq, Prod.mk.injEq] at H
    obtain ⟨rfl, rfl⟩ := H
    go_wp2
    go_ret2
    exact ⟨_, by first | rfl | (simp [errW_none, errW_some] <;> rfl) | (simp [*, errW_none, errW_some] <;> rfl), by first | exact Kd.S_nil _ _ _ _ _ | exact Kd.N_nil _ _ _ _ _ | exact Kd.V_nil _ _ _ _ _ | exact Kd.Q_nil _ _ _ _ _ | exact Kd.R_nil _ _ _ _ _, by repeat (first | (with_reducible first | exact HB.out | apply below_alloc | apply pw_below_drewN | apply below_drew1) | exact HB.out)⟩
   ·replace c6 := Bool.eq_false_iff.mpr c6
    subst c6
    have H1 : (if a1 > 255 then (stripe_Parity.j1 kj2 a1 l0 true) else (stripe_Parity.j1 kj2 a1 l0 (decide ((wrap64 ((l0.length : Int) + a1)) > 255)))) = some (r1, r2) := by rw [if_neg (show ¬ (false = true) by decide)] at H; exact H
    clear H
    have H := H1
    clear H1
    have HC7 := Aside0.mk H
    clear H
    go_upto_region 3 with (fail)
    go_cut [32] (fun v32 wc => ∃ (kq : Nat) (x32_6 : Bool), v32 = .bool x32_6 ∧ Aside0 (stripe_Parity.j1 kq a1 l0 x32_6 = some (r1, r2)) ∧ Aside0 (kq ≤ kj2) ∧ Aside0 (Below W1.heap.size W1 wc))
    case first =>
     have H := HC7.out
     clear HC7
     by_cases c8 : a1 > 255
     ·rw [if_pos c8] at H
      have c8b0 : decide (255 < a1) = true := decide_eq_true c8
      clear c8
      (first | rw [c8b0] | (simp only [i64_w, i32_w]; rw [c8b0]) | skip)
      have H' := Aside0.mk H
      clear H
      go_wp2
      go_meet
      case rel => exact ⟨_, (true), (by first | rfl | (simp; done) | (simp [*]; done)), H', ⟨by have := HJ2.out; first | omega | exact Nat.le_refl _⟩, ⟨by repeat (first | (with_reducible first | exact HB.out | apply below_alloc | apply pw_below_drewN | apply below_drew1) | exact HB.out)⟩⟩
     ·rw [if_neg c8] at H
      have c8b0 : decide (255 < a1) = false := decide_eq_false c8
      clear c8
      (first | rw [c8b0] | (simp only [i64_w, i32_w]; rw [c8b0]) | skip)
      have H' := Aside0.mk H
      clear H
      go_wp2
      go_meet
      case rel => exact ⟨_, (decide ((wrap64 ((l0.length : Int) + a1)) > 255)), (by first | rfl | (simp; done) | (simp [*]; done)), H', ⟨by have := HJ2.out; first | omega | exact Nat.le_refl _⟩, ⟨by repeat (first | (with_reducible first | exact HB.out | apply below_alloc | apply pw_below_drewN | apply below_drew1) | exact HB.out)⟩⟩
    case rest =>
     clear HC7
     try clear c1
     try clear p2
     try clear c4
     try clear c4b0
     try clear c4b1
     try clear c4b2
     try clear c5
     try clear c5b0
     try clear c6
     try clear p6
     try clear c8
     try clear c8b0
     try clear p2
     obtain ⟨kq, x32_6, rfl, HA, HJ6, HB⟩ := hcut
     have hbx := (HB.out.cell (World.block_lt_of_cell? W1 _ hW)).trans hW
     cases kq with
     | zero => exact absurd HA.out (by simp [stripe_Parity.j1])
     | succ kj6 =>
      have H := HA.out
      clear HA
      simp only [stripe_Parity.j1] at H
      by_cases c9 : x32_6 = true
      ·subst c9
       have H1 : (some (([] : List (List Int)), 3)) = some (r1, r2) := by rw [if_pos rfl] at H; exact H
       clear H
       have H := H1
       clear H1
       simp only [Option.some.injEq, Prod.mk.injEq] at H
       obtain ⟨rfl, rfl⟩ := H
       go_wp2
       go_ret2
       exact ⟨_, by first | rfl | (simp [errW_none, errW_some] <;> rfl) | (simp [*, errW_none, errW_some] <;> rfl), by first | exact Kd.S_nil _ _ _ _ _ | exact Kd.N_nil _ _ _ _ _ | exact Kd.V_nil _ _ _ _ _ | exact Kd.Q_nil _ _ _ _ _ | exact Kd.R_nil _ _ _ _ _, by repeat (first | (with_reducible first | exact HB.out | apply below_alloc | apply pw_below_drewN | apply below_drew1) | exact HB.out)⟩
      ·replace c9 := Bool.eq_false_iff.mpr c9
       subst c9
       have H1 : (if 0 ≤ a1 then (if (a1 : Int).toNat ≤ 11728124029610 then (if 0 < (l0.length : Int) then (stripe_Parity.l0 kj6 a1 l0 (List.replicate (a1 : Int).toNat []) ((rd_L1 l0 0).length : Int) 0) else (none)) else (none)) else (none)) = some (r1, r2) := by rw [if_neg (show ¬ (false = true) by decide)] at H; exact H
       clear H
       have H := H1
       clear H1
       by_cases c10 : 0 ≤ a1
       ·rw [if_pos c10] at H
        have c10b0 := eq_true c10
        have c10b1 : decide (0 ≤ a1) = true := decide_eq_true c10
        clear c10
        by_cases c11 : (a1 : Int).toNat ≤ 11728124029610
        ·rw [if_pos c11] at H
         have c11b0 := eq_true c11
         have c11b1 : decide ((a1 : Int).toNat ≤ 11728124029610) = true := decide_eq_true c11
         clear c11
         obtain ⟨y208, hy208⟩ : ∃ y_ : List (List Int), y_ = (List.replicate (a1 : Int).toNat []) := ⟨_, rfl⟩
         replace H : (if 0 < (l0.length : Int) then (stripe_Parity.l0 kj6 a1 l0 y208 ((rd_L1 l0 0).length : Int) 0) else (none)) = some (r1, r2) := by first | (rw [hy208]; with_reducible exact H) | (have H2_ := (Option.bind_some _ _).symm.trans H; rw [hy208]; with_reducible exact H2_) | (have H2_ := (Option.bind_some _ _).symm.trans H; with_reducible exact H2_) | with_reducible exact H | (rw [hy208]; exact H) | exact H
         have Ny208 := Aside0.mk hy208
         clear hy208
         by_cases c12 : 0 < (l0.length : Int)
         ·rw [if_pos c12] at H
          have c12b0 : decide (0 < (l0.length : Int)) = true := decide_eq_true c12
          have c12b1 : decide (0 < l0.length) = true := decide_eq_true (by omega)
          clear c12
          have H' := Aside0.mk H
          clear H
          go_wp2_with (first | ((with_reducible refine gate_dst (N := 34) rfl ?_); (try (refine gate_guard (by rfl) ?_; dsimp only)); refine Kd.S_make (Kd.slice 5 (Kd.int .u8)) _ 22 rfl (N := 34) rfl 40 _ _ rfl a1 rfl rfl Try.underlying40 (.slice none 0 0) 24 info22 rfl (by decide) (by omega) [] (ok := fun _ => True) (okp := fun _ => True) ⟨_, rfl, Kd.R_nil _ _ _ _ _⟩ (fun _ hk => hk) trivial (of_decide_eq_true (by first | (with_reducible assumption) | assumption)) (Nat.le_trans (Nat.mul_le_mul_right _ (of_decide_eq_true (by first | (with_reducible assumption) | assumption) : a1.toNat ≤ 11728124029610)) (by omega)) (Below.refl _ _) (Nat.le_refl _) ?_; intro v209 w13 ho14 hb hg_ hnew_; clear hg_ hnew_; (first | rw [← Ny208.out] at ho14 | (simp only [Int.reduceToNat] at ho14; rw [← Ny208.out] at ho14)); have n0_ := Aside0.mk (Kd.S_lower ho14 (below_size (by repeat (first | (with_reducible first | exact HB.out | apply below_alloc | apply pw_below_drewN | apply below_drew1) | exact HB.out)))); have n1_ := Aside0.mk (below_step (by repeat (first | (with_reducible first | exact HB.out | apply below_alloc | apply pw_below_drewN | apply below_drew1) | exact HB.out)) hb); clear HB; have HO210 := n0_; have HB := n1_; clear n0_ n1_; clear hb ho14; have hbx := (HB.out.cell (World.block_lt_of_cell? W1 _ hW)).trans hW; have p211 : 0 ≤ (0 : Int) := (by omega); have q211 : 0 < (l0.length : Int) := of_decide_eq_true (by first | (with_reducible assumption) | assumption); obtain ⟨ad211, A211_0, c211_0, e211, hx211_0, hl211_0, hi211_0⟩ := at_L1 HR0.out 0 p211 q211; cases e211; have qi211 : (0 < l0.length) = True := eq_true (by omega); (try rw [show ((0 : Int)).toNat = 0 from rfl] at hx211_0); (try rw [Addr.add_zero'] at hx211_0); replace hx211_0 := (HB.out.cell (World.block_lt_of_cell? W1 _ hx211_0)).trans hx211_0; have HR211_0 := Aside0.mk hi211_0; have HC211_0 := Aside0.mk hl211_0; clear hi211_0 hl211_0; replace p211 := eq_true p211; replace q211 := eq_true q211))
          go_loopg [39] kj6 (fun kq v39 w' => ∃ (x6_3 : List (List Int)) (x39_3 : Int), v39 = .int .i64 x39_3 ∧ Aside0 (stripe_Parity.l0 kq a1 l0 x6_3 ((rd_L1 l0 0).length : Int) x39_3 = some (r1, r2)) ∧ Aside0 (kq ≤ kj6) ∧ Aside0 (Kd.S (Kd.slice 5 (Kd.int .u8)) 22 w' W1.heap.size (fun _ => True) v209 x6_3) ∧ Aside0 (Below W1.heap.size W1 w'))
          case atStart => exact ⟨(y208), (0), (by first | rfl | (simp; done) | (simp [*]; done)), H', ⟨Nat.le_refl _⟩, ⟨by (with_reducible repeat (first | apply Kd.S_alloc | apply Kd.S_drewN | apply Kd.S_drew)); exact HO210.out⟩, ⟨by repeat (first | (with_reducible first | exact HB.out | apply below_alloc | apply pw_below_drewN | apply below_drew1) | exact HB.out)⟩⟩
          case round =>
           clear H'
           try clear c1
           try clear c2
           try clear p2
           try clear q2
           try clear hx2
           try clear qi2
           try clear c4
           try clear c4b0
           try clear c4b1
           try clear c4b2
           try clear c5
           try clear c5b0
           try clear c6
           try clear p6
           try clear c8
           try clear c8b0
           try clear c9
           try clear c10
           try clear c10b0
           try clear c10b1
           try clear c11
           try clear c11b0
           try clear c11b1
           try clear c12
           try clear c12b0
           try clear c12b1
           try clear hx211_0
           try clear p2
           try clear p211
           try clear p6
           try clear q211
           obtain ⟨x6_3, x39_3, rfl, HA, HK3, HO_6, HB⟩ := hrel
           have hbx := (HB.out.cell (World.block_lt_of_cell? W1 _ hW)).trans hW
           cases gk with
           | zero => exact absurd HA.out (by simp [stripe_Parity.l0])
           | succ k3 =>
            have H := HA.out
            clear HA
            simp only [stripe_Parity.l0] at H
            by_cases c15 : x39_3 < ((rd_L1 l0 0).length : Int)
            ·rw [if_pos c15] at H
             have c15b0 : decide (x39_3 < ((rd_L1 l0 0).length : Int)) = true := decide_eq_true c15
             clear c15
             replace H := Option.bind_eq_some_iff.mp H
             obtain ⟨t212, A160, H⟩ := H
             replace H : ((systematic_Encode.f k3 t212 a1).bind fun bt215 => (stripe_Parity.l1 k3 a1 l0 x6_3 ((rd_L1 l0 0).length : Int) x39_3 bt215.1 (bt215.1.length : Int) 0)) = some (r1, r2) := H
             have A16 := Aside0.mk A160
             clear A160
             replace H := Option.bind_eq_some_iff.mp H
             obtain ⟨⟨t215, t216⟩, A170, H⟩ := H
             replace H : (stripe_Parity.l1 k3 a1 l0 x6_3 ((rd_L1 l0 0).length : Int) x39_3 t215 (t215.length : Int) 0) = some (r1, r2) := H
             have A17 := Aside0.mk A170
             clear A170
             have H' := Aside0.mk H
             clear H
             go_wp2_with (first | ((with_reducible refine gate_callee (f := 35) rfl ?_); refine goesL_ (some 45) rfl rfl Try.func35 (by kernel_rfl) rfl #[.slice (some ad211) l0.length c0, .int .i64 x39_3] rfl (by (try simp only [List.map_toArray, List.map_cons, List.map_nil]); first | done | rfl | (simp only [List.length_drop, List.length_take]; rfl)) ?_; (with_reducible refine (stripe_row.calls k3 _ _ l0 x39_3 t212 _ ?side1 ?side2 A16.out).mono ?_); (case side1 => repeat (first | exact (Kd.C_below HR0.out HB.out) | (with_reducible refine Kd.C_alloc ?_ _) | (with_reducible refine Kd.C_drewN ?_ _) | (with_reducible refine Kd.C_drew ?_))); (case side2 => exact HC0.out); rintro e w18 ⟨v213, rfl, ho0, hb⟩; refine ⟨_, rfl, ?_⟩; have n0_ := Aside0.mk (Kd.S_elder' (by (with_reducible repeat (first | apply Kd.S_alloc | apply Kd.S_drewN | apply Kd.S_drew)); exact HO_6.out) (Kd.R_base ho0) hb); have n1_ := Aside0.mk (Kd.R_lower ho0 (below_size (by repeat (first | (with_reducible first | exact HB.out | apply below_alloc | apply pw_below_drewN | apply below_drew1) | exact HB.out)))); have n2_ := Aside0.mk (below_step (by repeat (first | (with_reducible first | exact HB.out | apply below_alloc | apply pw_below_drewN | apply below_drew1) | exact HB.out)) hb); clear HO_6; clear HB; have HO_6 := n0_; have HO214 := n1_; have HB := n2_; clear n0_ n1_ n2_; (try clear hb); (try clear hb2); (try clear hk); (try clear hi); (try clear ho0); obtain ⟨Ao19, co19, eo19⟩ := Kd.R_slice HO214.out; subst eo19) | ((with_reducible refine gate_callee (f := 34) rfl ?_); refine goesL_ (some 47) rfl rfl Try.func34 (by kernel_rfl) rfl #[.slice Ao19 t212.length co19, .int .i64 a1] rfl (by (try simp only [List.map_toArray, List.map_cons, List.map_nil]); first | done | rfl | (simp only [List.length_drop, List.length_take]; rfl)) ?_; (with_reducible refine (systematic_Encode.calls k3 _ _ t212 a1 t215 t216 _ ?side1 ?side2 A17.out).mono ?_); (case side1 => repeat (first | exact (Kd.R_reads' HO214.out).2.2 | (with_reducible refine Kd.C_alloc ?_ _) | (with_reducible refine Kd.C_drewN ?_ _) | (with_reducible refine Kd.C_drew ?_))); (case side2 => exact (Kd.R_reads' HO214.out).2.1); rintro e w20 ⟨v217, rfl, ho0, hb⟩; refine ⟨_, rfl, ?_⟩; have n0_ := Aside0.mk (Kd.S_elder' (by (with_reducible repeat (first | apply Kd.S_alloc | apply Kd.S_drewN | apply Kd.S_drew)); exact HO_6.out) (Kd.R_base ho0) hb); have n1_ := Aside0.mk (Kd.R_elder' (by (with_reducible repeat (first | apply Kd.R_alloc | apply Kd.R_drewN | apply Kd.R_drew)); exact HO214.out) (Kd.R_base ho0) hb); have n2_ := Aside0.mk (Kd.R_lower (Kd.R_new' ho0 (Kd.R_lt (by (with_reducible repeat (first | apply Kd.R_alloc | apply Kd.R_drewN | apply Kd.R_drew)); exact HO214.out))) (below_size (by repeat (first | (with_reducible first | exact HB.out | apply below_alloc | apply pw_below_drewN | apply below_drew1) | exact HB.out)))); have n3_ := Aside0.mk (below_step (by repeat (first | (with_reducible first | exact HB.out | apply below_alloc | apply pw_below_drewN | apply below_drew1) | exact HB.out)) hb); clear HO_6; clear HO214; clear HB; have HO_6 := n0_; have HO214 := n1_; have HO218 := n2_; have HB := n3_; clear n0_ n1_ n2_ n3_; (try clear hb); (try clear hb2); (try clear hk); (try clear hi); (try clear ho0); obtain ⟨Ao21, co21, eo21⟩ := Kd.R_slice HO218.out; subst eo21))
             go_loopg [52] k3 (fun kq v52 w' => ∃ (x6_4 : List (List Int)) (x52_4 : Int), v52 = .int .i64 x52_4 ∧ Aside0 (stripe_Parity.l1 kq a1 l0 x6_4 ((rd_L1 l0 0).length : Int) x39_3 t215 (t215.length : Int) x52_4 = some (r1, r2)) ∧ Aside0 (kq ≤ k3) ∧ Aside0 (Kd.S (Kd.slice 5 (Kd.int .u8)) 22 w' W1.heap.size (fun k_ => some k_ ≠ ((.slice Ao21 t215.length co21) : Value).ownBlock) v209 x6_4) ∧ Aside0 (Kd.R (Kd.int .u8) 5 w' W1.heap.size (fun _ => True) (.slice Ao21 t215.length co21) t215) ∧ Aside0 (Below W1.heap.size W1 w'))
             case atStart => exact ⟨(x6_3), (0), (by first | rfl | (simp; done) | (simp [*]; done)), H', ⟨Nat.le_refl _⟩, ⟨by (with_reducible repeat (first | apply Kd.S_alloc | apply Kd.S_drewN | apply Kd.S_drew)); exact Kd.S_mono HO_6.out (fun _ hk => hk.2)⟩, ⟨by (with_reducible repeat (first | apply Kd.R_alloc | apply Kd.R_drewN | apply Kd.R_drew)); exact Kd.R_mono HO218.out (fun _ hk => trivial)⟩, ⟨by repeat (first | (with_reducible first | exact HB.out | apply below_alloc | apply pw_below_drewN | apply below_drew1) | exact HB.out)⟩⟩
             case round =>
              clear H'
              try clear c1
              try clear c2
              try clear p2
              try clear q2
              try clear hx2
              try clear qi2
              try clear c3
              try clear c4
              try clear c4b0
              try clear c4b1
              try clear c4b2
              try clear c5
              try clear c5b0
              try clear c6
              try clear p6
              try clear c8
              try clear c8b0
              try clear c9
              try clear c10
              try clear c10b0
              try clear c10b1
              try clear c11
              try clear c11b0
              try clear c11b1
              try clear c12
              try clear c12b0
              try clear c12b1
              try clear c15
              try clear c15b0
              try clear c18
              try clear c21
              try clear p21
              try clear q21
              try clear hx21
              try clear qi21
              try clear hx211_0
              try clear p2
              try clear p211
              try clear p6
              try clear q2
              try clear q211
              obtain ⟨x6_4, x52_4, rfl, HA, HK4, HO_6, HO_50, HB⟩ := hrel
              have hbx := (HB.out.cell (World.block_lt_of_cell? W1 _ hW)).trans hW
              cases gk with
              | zero => exact absurd HA.out (by simp [stripe_Parity.l1])
              | succ k4 =>
               have H := HA.out
               clear HA
               simp only [stripe_Parity.l1] at H
               by_cases c22 : x52_4 < (t215.length : Int)
               ·rw [if_pos c22] at H
                have c22b0 : decide (x52_4 < (t215.length : Int)) = true := decide_eq_true c22
                clear c22
                by_cases c23 : 0 ≤ x52_4
                ·rw [if_pos c23] at H
                 have c23b0 : decide (0 ≤ x52_4) = true := decide_eq_true c23
                 clear c23
                 by_cases c24 : x52_4 < (t215.length : Int)
                 ·rw [if_pos c24] at H
                  have c24b0 : decide (x52_4 < (t215.length : Int)) = true := decide_eq_true c24
                  clear c24
                  by_cases c25 : x52_4 < (x6_4.length : Int)
                  ·rw [if_pos c25] at H
                   have c25b0 : decide (x52_4 < (x6_4.length : Int)) = true := decide_eq_true c25
                   clear c25
                   by_cases c26 : (rd_L1 x6_4 x52_4).length < 140737488355328
                   ·rw [if_pos c26] at H
                    have LMc26 := Aside0.mk c26
                    clear c26
                    obtain ⟨y221, hy221⟩ : ∃ y_ : List Int, y_ = ((rd_L1 x6_4 x52_4) ++ [rd t215 x52_4]) := ⟨_, rfl⟩
                    replace H : (stripe_Parity.l1 k4 a1 l0 (x6_4.set (x52_4 : Int).toNat y221) ((rd_L1 l0 0).length : Int) x39_3 t215 (t215.length : Int) (wrap64 (x52_4 + 1))) = some (r1, r2) := by first | (rw [hy221]; with_reducible exact H) | (have H2_ := (Option.bind_some _ _).symm.trans H; rw [hy221]; with_reducible exact H2_) | (have H2_ := (Option.bind_some _ _).symm.trans H; with_reducible exact H2_) | with_reducible exact H | (rw [hy221]; exact H) | exact H
                    have Ny221 := Aside0.mk hy221
                    clear hy221
                    obtain ⟨y224, hy224⟩ : ∃ y_ : List (List Int), y_ = (x6_4.set (x52_4 : Int).toNat y221) := ⟨_, rfl⟩
                    replace H : (stripe_Parity.l1 k4 a1 l0 y224 ((rd_L1 l0 0).length : Int) x39_3 t215 (t215.length : Int) (wrap64 (x52_4 + 1))) = some (r1, r2) := by first | (rw [hy224]; with_reducible exact H) | (have H2_ := (Option.bind_some _ _).symm.trans H; rw [hy224]; with_reducible exact H2_) | (have H2_ := (Option.bind_some _ _).symm.trans H; with_reducible exact H2_) | with_reducible exact H | (rw [hy224]; exact H) | exact H
                    have Ny224 := Aside0.mk hy224
                    clear hy224
                    have H' := Aside0.mk H
                    clear H
                    have p219 : 0 ≤ (x52_4 : Int) := of_decide_eq_true (by first | (with_reducible assumption) | assumption)
                    have q219 : x52_4 < (t215.length : Int) := of_decide_eq_true (by first | (with_reducible assumption) | assumption)
                    obtain ⟨ad219, e219, hx219_0⟩ := Kd.at_int (Kd.R_reads' HO_50.out).2.2 x52_4 p219 q219
                    cases e219
                    replace p219 := eq_true p219
                    replace q219 := eq_true q219
                    obtain ⟨Ao28, co28, eo28⟩ := Kd.S_slice HO_6.out
                    subst eo28
                    have p220 : 0 ≤ (x52_4 : Int) := of_decide_eq_true (by first | (with_reducible assumption) | assumption)
                    have q220 : x52_4 < (x6_4.length : Int) := of_decide_eq_true (by first | (with_reducible assumption) | assumption)
                    obtain ⟨ad220, A220_0, c220_0, e220, hx220_0, hl220_0, hi220_0⟩ := at_L1 (Kd.S_reads' HO_6.out).2.2 x52_4 p220 q220
                    cases e220
                    obtain ⟨ce220, hce220, hMe220, hcc220⟩ := Kd.S_get HO_6.out [] x52_4 p220 (by first | exact q220 | exact of_decide_eq_true (by first | (with_reducible assumption) | assumption) | (have e_ := (Kd.S_reads' HO_6.out).1; omega))
                    obtain ⟨ve220_0, rfl, ge220_0⟩ := hMe220
                    have hv220_0 := hcc220 0 _ rfl
                    rw [Nat.add_zero, show ((Kd.slice 5 (Kd.int .u8))).sz = 1 from rfl, Nat.mul_one] at hv220_0
                    replace hv220_0 := Option.some.inj (hv220_0.symm.trans hx220_0)
                    rw [hv220_0] at ge220_0
                    have HL220_0 := Aside0.mk (show Kd.R (Kd.int .u8) 5 _ _ _ _ (rd_L1 x6_4 x52_4) from ge220_0)
                    clear hv220_0 ge220_0
                    have HX220_0 := Aside0.mk hx220_0
                    clear hcc220 hce220
                    have HR220_0 := Aside0.mk hi220_0
                    have HC220_0 := Aside0.mk hl220_0
                    clear hi220_0 hl220_0
                    replace p220 := eq_true p220
                    replace q220 := eq_true q220
                    obtain ⟨go29, co29, eo29, gb29, gl29, cl29, HG29⟩ := Kd.S_form HO_6.out (by have h_ : (x52_4 : Int) < ((x6_4.length : Int) : Int) := of_decide_eq_true (by first | (with_reducible assumption) | assumption); have h2_ : 0 ≤ (x52_4 : Int) := (of_decide_eq_true (by first | (with_reducible assumption) | assumption)); omega)
                    (first | cases eo29 | (injection eo29 with ea_ en_ ec_; (first | subst ea_ | (injection ea_ with ea_; subst ea_)); subst ec_; clear en_))
                    have GB29 := Aside0.mk gb29
                    have GG29 := Aside0.mk HG29
                    clear gb29 gl29 HG29
                    (first | simp only [add_plain] at hx220_0 | skip)
                    obtain ⟨oki29, ce29, hcl29, hM29, hcc29, _, _, hH29⟩ := Kd.S_elem HO_6.out [] (x52_4 : Int) (of_decide_eq_true (by first | (with_reducible assumption) | assumption)) (by have h_ : (x52_4 : Int) < ((x6_4.length : Int) : Int) := of_decide_eq_true (by first | (with_reducible assumption) | assumption); first | exact h_ | (have e_ := (Kd.S_reads' HO_6.out).1; omega) | simpa using h_)
                    obtain ⟨ve29_0, rfl, ge29_0⟩ := hM29
                    have hv29 := hcc29 0 _ rfl
                    have hX29 := HX220_0.out
                    (try simp only [add_plain] at hX29)
                    (try simp only [Nat.add_zero] at hv29)
                    (try rw [show ((Kd.slice 5 (Kd.int .u8))).sz = 1 from rfl, Nat.mul_one] at hv29)
                    replace hv29 := Option.some.inj (hv29.symm.trans hX29)
                    subst hv29
                    clear hX29 hcc29 hcl29
                    have UU29 := Aside0.mk (show Kd.R (Kd.int .u8) 5 _ W1.heap.size oki29 (.slice A220_0 (rd_L1 x6_4 x52_4).length c220_0) (rd_L1 x6_4 x52_4) from ge29_0)
                    have HH29 := Aside0.mk hH29
                    have HN29 := Aside0.mk (Kd.S_reads' HO_6.out).1
                    clear hH29 ge29_0
                    go_wp2_with (first | ((with_reducible refine gate_builtin (b := .append) (xs := #[.tmp 62, .tmp 64]) rfl ?_); (try (refine gate_guard (by rfl) ?_; dsimp only)); at_builtin; refine Kd.R_append (Kd.int .u8) (w0 := W1) W1.heap.size rfl (.tmp 62) (.tmp 64) 22 5 (.int .u8 0) 1 rfl Try.underlying22 info5 rfl (by decide) (by omega) (.slice A220_0 (rd_L1 x6_4 x52_4).length c220_0) (rd_L1 x6_4 x52_4) (rd t215 x52_4) [.int .u8 (rd t215 x52_4)] (fun k_ => oki29 k_ ∨ ((fun k_ => some k_ ≠ (.slice (some ad219) t215.length co21 : Value).ownBlock)) k_ ∧ wr.heap.size ≤ k_) (fun _ => False) rfl rfl ?aP (fun _ hk => hk.elim) ?aF ?aO ?aB ?aS ?aL ?_; (case aP => exact rfl); (case aB => exact (by repeat (first | (with_reducible first | exact HB.out | apply below_alloc | apply pw_below_drewN | apply below_drew1) | exact HB.out))); (case aF => exact (fun k_ hk => .inr ⟨Kd.fresh' (Kd.R_lt (by (with_reducible repeat (first | apply Kd.R_alloc | apply Kd.R_drewN | apply Kd.R_drew)); exact HO_50.out)) k_ hk, hk⟩)); (case aO => exact (by (with_reducible repeat (first | apply Kd.R_alloc | apply Kd.R_drewN | apply Kd.R_drew)); exact Kd.R_mono UU29.out (fun _ hk => .inl hk))); (case aS => exact (below_size (by repeat (first | (with_reducible first | exact HB.out | apply below_alloc | apply pw_below_drewN | apply below_drew1) | exact HB.out)))); (case aL => have := LMc26.out; omega); intro v222 w30 ho hb hg hat; rw [← Ny221.out] at ho; have n0_ := Aside0.mk (Kd.R_grown2 (by (with_reducible repeat (first | apply Kd.R_alloc | apply Kd.R_drewN | apply Kd.R_drew)); exact HO_50.out) rfl hg (fun k_ e_ => (HL220_0.out.1 k_ e_).1)); have n1_ := Aside0.mk (hb); have n2_ := Aside0.mk (Kd.H_grown (Kd.H_widen (by repeat (first | exact HH29.out | refine Kd.H_alloc ?_ _ | refine Kd.H_drewN ?_ _ | refine Kd.H_drew ?_))) hg (fun k_ e_ => .inl (UU29.out.1 k_ e_))); have n3_ := Aside0.mk (ho); clear HO_50; clear HB; clear HH29; clear HO_6; clear UU29; clear HL220_0; have HO_50 := n0_; have HB := n1_; have HH29 := n2_; have HO223 := n3_; clear n0_ n1_ n2_ n3_; clear ho hb hg hat; have p27 : 0 ≤ (x52_4 : Int) := of_decide_eq_true (by first | (with_reducible assumption) | assumption); have q27 : (x52_4 : Int) < ((x6_4.length : Int) : Int) := of_decide_eq_true (by first | (with_reducible assumption) | assumption); replace p27 := eq_true p27; replace q27 := eq_true q27; obtain ⟨Ao33, co33, eo33⟩ := Kd.R_slice HO223.out; subst eo33; obtain ⟨_, _, hraw31, _, _, hcc31, _⟩ := Kd.H_raw HH29.out (of_decide_eq_true (by first | (with_reducible assumption) | assumption)) (by have h_ : (x52_4 : Int) < ((x6_4.length : Int) : Int) := of_decide_eq_true (by first | (with_reducible assumption) | assumption); first | exact h_ | (have e_ := (HN29.out); omega) | simpa using h_); obtain ⟨_, hfr31⟩ := Kd.H_at HH29.out (of_decide_eq_true (by first | (with_reducible assumption) | assumption)) (by have h_ : (x52_4 : Int) < ((x6_4.length : Int) : Int) := of_decide_eq_true (by first | (with_reducible assumption) | assumption); first | exact h_ | (have e_ := (HN29.out); omega) | simpa using h_); have hx31_0 := hcc31 0 _ rfl; have hf31_0 := hfr31 0; (try simp only [Nat.add_zero] at hx31_0 hf31_0); (try rw [show ((Kd.slice 5 (Kd.int .u8))).sz = 1 from rfl, Nat.mul_one] at hx31_0); (try rw [show ((Kd.slice 5 (Kd.int .u8))).sz = 1 from rfl, Nat.mul_one] at hf31_0); have HP31 := Kd.S_seg0 HH29.out (of_decide_eq_true (by first | (with_reducible assumption) | assumption)) (by have h_ : (x52_4 : Int) < ((x6_4.length : Int) : Int) := of_decide_eq_true (by first | (with_reducible assumption) | assumption); first | exact h_ | (have e_ := (HN29.out); omega) | simpa using h_) (seg := [.slice Ao33 y221.length co33]) (j := 0) (show 1 ≤ 1 from by decide) (x' := y221) (Kd.M_row HO223.out) (fun _ hk => hk); (try simp only [show ((Kd.slice 5 (Kd.int .u8))).sz = 1 from rfl, Nat.mul_one, Nat.add_zero] at HP31); clear hcc31 hfr31) | ((with_reducible refine gate_store (t := 22) (p := 66) rfl ?_); refine store_event (t := 22) (p := 66) (v := ?vo_w32) (w1 := (w30.setCell ⟨go29, (x52_4 : Int).toNat, none⟩ (.slice Ao33 y221.length co33))) ?hg ?ho ?hn ?hr ?_; (case ho => rfl); (case hg => rfl); (case hn => rfl); (case hr => first | (go_simp; done) | (go_simp; rfl)); intro w32 hw; have hg : w30.grownBy w32 (some go29) := (by rw [hw]; exact HP31.2); have hp_ : Kd.S (Kd.slice 5 (Kd.int .u8)) 22 w32 W1.heap.size (fun k_ => some k_ ≠ (.slice (some ad219) t215.length co21 : Value).ownBlock) (.slice (some ⟨go29, 0, none⟩) x6_4.length co28) y224 := (by rw [hw, Ny224.out]; exact HP31.1); clear HP31; have n0_ := Aside0.mk (Kd.R_over' (v := (.slice (some ⟨go29, 0, none⟩) x6_4.length co28)) (by (with_reducible repeat (first | apply Kd.R_alloc | apply Kd.R_drewN | apply Kd.R_drew)); exact HO_50.out) (Kd.R_typed hraw31) (by decide) hg); have n1_ := Aside0.mk ((by rw [hw]; exact below_set HB.out GB29.out : Below W1.heap.size W1 w32)); have n2_ := Aside0.mk (hp_); clear HO_50; clear HB; clear HO223; clear HH29; have HO_50 := n0_; have HB := n1_; have HO_6 := n2_; clear n0_ n1_ n2_; clear hg hw hp_ hraw31))
                    go_roundg k4
                    case measure => have := HJ2.out; have := HJ6.out; have := HK3.out; have := HK4.out; omega
                    case rel => exact ⟨(y224), (wrap64 (x52_4 + 1)), (by first | rfl | (simp; done) | (simp [*]; done)), H', ⟨by have := HJ2.out; have := HJ6.out; have := HK3.out; have := HK4.out; omega⟩, ⟨by (with_reducible repeat (first | apply Kd.S_alloc | apply Kd.S_drewN | apply Kd.S_drew)); exact HO_6.out⟩, ⟨by (with_reducible repeat (first | apply Kd.R_alloc | apply Kd.R_drewN | apply Kd.R_drew)); exact HO_50.out⟩, ⟨by repeat (first | (with_reducible first | exact HB.out | apply below_alloc | apply pw_below_drewN | apply below_drew1) | exact HB.out)⟩⟩
                   ·rw [if_neg c26] at H
                    exact absurd H (by simp)
                  ·rw [if_neg c25] at H
                   exact absurd H (by simp)
                 ·rw [if_neg c24] at H
                  exact absurd H (by simp)
                ·rw [if_neg c23] at H
                 exact absurd H (by simp)
               ·rw [if_neg c22] at H
                have c22b0 : decide (x52_4 < (t215.length : Int)) = false := decide_eq_false c22
                clear c22
                have H' := Aside0.mk H
                clear H
                go_wp2
                go_roundg k4
                case measure => have := HJ2.out; have := HJ6.out; have := HK3.out; have := HK4.out; omega
                case rel => exact ⟨(x6_4), (wrap64 (x39_3 + 1)), (by first | rfl | (simp; done) | (simp [*]; done)), H', ⟨by have := HJ2.out; have := HJ6.out; have := HK3.out; have := HK4.out; omega⟩, ⟨by (with_reducible repeat (first | apply Kd.S_alloc | apply Kd.S_drewN | apply Kd.S_drew)); exact Kd.S_mono HO_6.out (fun _ hk => trivial)⟩, ⟨by repeat (first | (with_reducible first | exact HB.out | apply below_alloc | apply pw_below_drewN | apply below_drew1) | exact HB.out)⟩⟩
            ·rw [if_neg c15] at H
             have c15b0 : decide (x39_3 < ((rd_L1 l0 0).length : Int)) = false := decide_eq_false c15
             clear c15
             simp only [Option.some.injEq, Prod.mk.injEq] at H
             obtain ⟨rfl, rfl⟩ := H
             go_wp2
             go_ret2
             exact ⟨_, by first | rfl | (simp [errW_none, errW_some] <;> rfl) | (simp [*, errW_none, errW_some] <;> rfl), by (with_reducible repeat (first | apply Kd.S_alloc | apply Kd.S_drewN | apply Kd.S_drew)); exact HO_6.out, by repeat (first | (with_reducible first | exact HB.out | apply below_alloc | apply pw_below_drewN | apply below_drew1) | exact HB.out)⟩
         ·rw [if_neg c12] at H
          exact absurd H (by simp)
        ·rw [if_neg c11] at H
         exact absurd H (by simp)
       ·rw [if_neg c10] at H
        exact absurd H (by simp)
def footlockerlaw23_alive.f (k : Nat)  : Option (Bool) := (stripe_Column.f k (([97, 98] : List Int)) 5).bind fun bt211 => ((stripe_Volume.f k bt211.1).bind fun bt215 => ((stripe_Volume.f k (([9, 0, 0, 0, 0, 0, 0, 0] : List Int))).bind fun bt222 => ((stripe_Parity.f k (([(([5] : List Int)), (([7] : List Int))] : List (List Int))) 1).bind fun bt235 => ((stripe_Parity.f k ([] : List (List Int)) 1).bind fun bt239 => (if (bt235.1.length : Int) = 1 then (if (strOfNums bt211.1).toList = ([2, 0, 0, 0, 0, 0, 0, 0, 97, 98, 0, 0, 0] : List UInt8) then (if bt211.2 = 0 then (if (strOfNums bt215.1).toList = ([97, 98] : List UInt8) then (if bt215.2 = 0 then (if bt222.2 = 23 then (if 0 < (bt235.1.length : Int) then (if (strOfNums (rd_L1 bt235.1 0)).toList = ([1] : List UInt8) then (if bt235.2 = 0 then (if bt239.2 = 1 then ((stripe_Right.f 2 1 5 4).bind fun t245 => (if t245 = true then ((stripe_Long.f 2 1 5 4).bind fun t246 => (if t246 = 13 then ((stripe_Blocks.f 2 1 5 4).bind fun t247 => (if t247 = 4 then ((stripe_Blocks.f 0 0 0 0).bind fun t248 => (some (t248 == 0))) else (none))) else (none))) else (none))) else (none)) else (none)) else (none)) else (none)) else (none)) else (none)) else (none)) else (none)) else (none)) else (none))))))
theorem footlockerlaw23_alive.mono : ∀ k, LeO (footlockerlaw23_alive.f k ) (footlockerlaw23_alive.f (k + 1) ) := by
 intro  k
 unfold footlockerlaw23_alive.f
 repeat' first
  | (with_reducible exact stripe_Column.mono _ _ _)
  | (with_reducible exact stripe_Parity.mono _ _ _)
  | (with_reducible exact stripe_Volume.mono _ _)
  | (with_reducible exact LeO.refl _)
  | (with_reducible exact LeO.none _)
  | (with_reducible refine LeO.ite ?_ ?_)
  | (with_reducible refine LeO.bind ?_ (fun _ => ?_))
  | exact stripe_Column.mono _ _ _
  | exact stripe_Parity.mono _ _ _
  | exact stripe_Volume.mono _ _
  | exact LeO.none _
  | refine LeO.ite ?_ ?_
  | refine LeO.bind ?_ (fun _ => ?_)
set_option maxHeartbeats 8000000 in
set_option maxRecDepth 100000 in
theorem footlockerlaw23_alive.calls (k : Nat)  (r : Bool) (w : World) (h : footlockerlaw23_alive.f k  = some r) :
 Calls Try.prog 7 #[] w fun e w' => e = .returned (.bool r) ∧ Below w.heap.size w w' := by
 have hu24 := Try.underlying24
 have HB := Aside0.mk (Below.refl w.heap.size w)
 have H : ((stripe_Column.f k (([97, 98] : List Int)) 5).bind fun bt211 => ((stripe_Volume.f k bt211.1).bind fun bt215 => ((stripe_Volume.f k (([9, 0, 0, 0, 0, 0, 0, 0] : List Int))).bind fun bt222 => ((stripe_Parity.f k (([(([5] : List Int)), (([7] : List Int))] : List (List Int))) 1).bind fun bt235 => ((stripe_Parity.f k ([] : List (List Int)) 1).bind fun bt239 => (if (bt235.1.length : Int) = 1 then (if (strOfNums bt211.1).toList = ([2, 0, 0, 0, 0, 0, 0, 0, 97, 98, 0, 0, 0] : List UInt8) then (if bt211.2 = 0 then (if (strOfNums bt215.1).toList = ([97, 98] : List UInt8) then (if bt215.2 = 0 then (if bt222.2 = 23 then (if 0 < (bt235.1.length : Int) then (if (strOfNums (rd_L1 bt235.1 0)).toList = ([1] : List UInt8) then (if bt235.2 = 0 then (if bt239.2 = 1 then ((stripe_Right.f 2 1 5 4).bind fun t245 => (if t245 = true then ((stripe_Long.f 2 1 5 4).bind fun t246 => (if t246 = 13 then ((stripe_Blocks.f 2 1 5 4).bind fun t247 => (if t247 = 4 then ((stripe_Blocks.f 0 0 0 0).bind fun t248 => (some (t248 == 0))) else (none))) else (none))) else (none))) else (none)) else (none)) else (none)) else (none)) else (none)) else (none)) else (none)) else (none)) else (none)) else (none))))))) = some r := h
 clear h
 obtain ⟨y208, hy208⟩ : ∃ y_ : List Int, y_ = (([97, 98] : List Int)) := ⟨_, rfl⟩
 replace H : ((stripe_Column.f k y208 5).bind fun bt211 => ((stripe_Volume.f k bt211.1).bind fun bt215 => ((stripe_Volume.f k (([9, 0, 0, 0, 0, 0, 0, 0] : List Int))).bind fun bt222 => ((stripe_Parity.f k (([(([5] : List Int)), (([7] : List Int))] : List (List Int))) 1).bind fun bt235 => ((stripe_Parity.f k ([] : List (List Int)) 1).bind fun bt239 => (if (bt235.1.length : Int) = 1 then (if (strOfNums bt211.1).toList = ([2, 0, 0, 0, 0, 0, 0, 0, 97, 98, 0, 0, 0] : List UInt8) then (if bt211.2 = 0 then (if (strOfNums bt215.1).toList = ([97, 98] : List UInt8) then (if bt215.2 = 0 then (if bt222.2 = 23 then (if 0 < (bt235.1.length : Int) then (if (strOfNums (rd_L1 bt235.1 0)).toList = ([1] : List UInt8) then (if bt235.2 = 0 then (if bt239.2 = 1 then ((stripe_Right.f 2 1 5 4).bind fun t245 => (if t245 = true then ((stripe_Long.f 2 1 5 4).bind fun t246 => (if t246 = 13 then ((stripe_Blocks.f 2 1 5 4).bind fun t247 => (if t247 = 4 then ((stripe_Blocks.f 0 0 0 0).bind fun t248 => (some (t248 == 0))) else (none))) else (none))) else (none))) else (none)) else (none)) else (none)) else (none)) else (none)) else (none)) else (none)) else (none)) else (none)) else (none))))))) = some r := by first | (rw [hy208]; with_reducible exact H) | (have H2_ := (Option.bind_some _ _).symm.trans H; rw [hy208]; with_reducible exact H2_) | (have H2_ := (Option.bind_some _ _).symm.trans H; with_reducible exact H2_) | with_reducible exact H | (rw [hy208]; exact H) | exact H
 have Ny208 := Aside0.mk hy208
 clear hy208
 replace H := Option.bind_eq_some_iff.mp H
 obtain ⟨⟨t211, t214⟩, A10, H⟩ := H
 replace H : ((stripe_Volume.f k t211).bind fun bt215 => ((stripe_Volume.f k (([9, 0, 0, 0, 0, 0, 0, 0] : List Int))).bind fun bt222 => ((stripe_Parity.f k (([(([5] : List Int)), (([7] : List Int))] : List (List Int))) 1).bind fun bt235 => ((stripe_Parity.f k ([] : List (List Int)) 1).bind fun bt239 => (if (bt235.1.length : Int) = 1 then (if (strOfNums t211).toList = ([2, 0, 0, 0, 0, 0, 0, 0, 97, 98, 0, 0, 0] : List UInt8) then (if t214 = 0 then (if (strOfNums bt215.1).toList = ([97, 98] : List UInt8) then (if bt215.2 = 0 then (if bt222.2 = 23 then (if 0 < (bt235.1.length : Int) then (if (strOfNums (rd_L1 bt235.1 0)).toList = ([1] : List UInt8) then (if bt235.2 = 0 then (if bt239.2 = 1 then ((stripe_Right.f 2 1 5 4).bind fun t245 => (if t245 = true then ((stripe_Long.f 2 1 5 4).bind fun t246 => (if t246 = 13 then ((stripe_Blocks.f 2 1 5 4).bind fun t247 => (if t247 = 4 then ((stripe_Blocks.f 0 0 0 0).bind fun t248 => (some (t248 == 0))) else (none))) else (none))) else (none))) else (none)) else (none)) else (none)) else (none)) else (none)) else (none)) else (none)) else (none)) else (none)) else (none)))))) = some r := H
 have A1 := Aside0.mk A10
 clear A10
 replace H := Option.bind_eq_some_iff.mp H
 obtain ⟨⟨t215, t216⟩, A20, H⟩ := H
 replace H : ((stripe_Volume.f k (([9, 0, 0, 0, 0, 0, 0, 0] : List Int))).bind fun bt222 => ((stripe_Parity.f k (([(([5] : List Int)), (([7] : List Int))] : List (List Int))) 1).bind fun bt235 => ((stripe_Parity.f k ([] : List (List Int)) 1).bind fun bt239 => (if (bt235.1.length : Int) = 1 then (if (strOfNums t211).toList = ([2, 0, 0, 0, 0, 0, 0, 0, 97, 98, 0, 0, 0] : List UInt8) then (if t214 = 0 then (if (strOfNums t215).toList = ([97, 98] : List UInt8) then (if t216 = 0 then (if bt222.2 = 23 then (if 0 < (bt235.1.length : Int) then (if (strOfNums (rd_L1 bt235.1 0)).toList = ([1] : List UInt8) then (if bt235.2 = 0 then (if bt239.2 = 1 then ((stripe_Right.f 2 1 5 4).bind fun t245 => (if t245 = true then ((stripe_Long.f 2 1 5 4).bind fun t246 => (if t246 = 13 then ((stripe_Blocks.f 2 1 5 4).bind fun t247 => (if t247 = 4 then ((stripe_Blocks.f 0 0 0 0).bind fun t248 => (some (t248 == 0))) else (none))) else (none))) else (none))) else (none)) else (none)) else (none)) else (none)) else (none)) else (none)) else (none)) else (none)) else (none)) else (none))))) = some r := H
 have A2 := Aside0.mk A20
 clear A20
 obtain ⟨y219, hy219⟩ : ∃ y_ : List Int, y_ = (([9, 0, 0, 0, 0, 0, 0, 0] : List Int)) := ⟨_, rfl⟩
 replace H : ((stripe_Volume.f k y219).bind fun bt222 => ((stripe_Parity.f k (([(([5] : List Int)), (([7] : List Int))] : List (List Int))) 1).bind fun bt235 => ((stripe_Parity.f k ([] : List (List Int)) 1).bind fun bt239 => (if (bt235.1.length : Int) = 1 then (if (strOfNums t211).toList = ([2, 0, 0, 0, 0, 0, 0, 0, 97, 98, 0, 0, 0] : List UInt8) then (if t214 = 0 then (if (strOfNums t215).toList = ([97, 98] : List UInt8) then (if t216 = 0 then (if bt222.2 = 23 then (if 0 < (bt235.1.length : Int) then (if (strOfNums (rd_L1 bt235.1 0)).toList = ([1] : List UInt8) then (if bt235.2 = 0 then (if bt239.2 = 1 then ((stripe_Right.f 2 1 5 4).bind fun t245 => (if t245 = true then ((stripe_Long.f 2 1 5 4).bind fun t246 => (if t246 = 13 then ((stripe_Blocks.f 2 1 5 4).bind fun t247 => (if t247 = 4 then ((stripe_Blocks.f 0 0 0 0).bind fun t248 => (some (t248 == 0))) else (none))) else (none))) else (none))) else (none)) else (none)) else (none)) else (none)) else (none)) else (none)) else (none)) else (none)) else (none)) else (none))))) = some r := by first | (rw [hy219]; with_reducible exact H) | (have H2_ := (Option.bind_some _ _).symm.trans H; rw [hy219]; with_reducible exact H2_) | (have H2_ := (Option.bind_some _ _).symm.trans H; with_reducible exact H2_) | with_reducible exact H | (rw [hy219]; exact H) | exact H
 have Ny219 := Aside0.mk hy219
 clear hy219
 replace H := Option.bind_eq_some_iff.mp H
 obtain ⟨⟨t222, t223⟩, A30, H⟩ := H
 replace H : ((stripe_Parity.f k (([(([5] : List Int)), (([7] : List Int))] : List (List Int))) 1).bind fun bt235 => ((stripe_Parity.f k ([] : List (List Int)) 1).bind fun bt239 => (if (bt235.1.length : Int) = 1 then (if (strOfNums t211).toList = ([2, 0, 0, 0, 0, 0, 0, 0, 97, 98, 0, 0, 0] : List UInt8) then (if t214 = 0 then (if (strOfNums t215).toList = ([97, 98] : List UInt8) then (if t216 = 0 then (if t223 = 23 then (if 0 < (bt235.1.length : Int) then (if (strOfNums (rd_L1 bt235.1 0)).toList = ([1] : List UInt8) then (if bt235.2 = 0 then (if bt239.2 = 1 then ((stripe_Right.f 2 1 5 4).bind fun t245 => (if t245 = true then ((stripe_Long.f 2 1 5 4).bind fun t246 => (if t246 = 13 then ((stripe_Blocks.f 2 1 5 4).bind fun t247 => (if t247 = 4 then ((stripe_Blocks.f 0 0 0 0).bind fun t248 => (some (t248 == 0))) else (none))) else (none))) else (none))) else (none)) else (none)) else (none)) else (none)) else (none)) else (none)) else (none)) else (none)) else (none)) else (none)))) = some r := H
 have A3 := Aside0.mk A30
 clear A30
 obtain ⟨y226, hy226⟩ : ∃ y_ : List Int, y_ = (([5] : List Int)) := ⟨_, rfl⟩
 replace H : ((stripe_Parity.f k (([y226, (([7] : List Int))] : List (List Int))) 1).bind fun bt235 => ((stripe_Parity.f k ([] : List (List Int)) 1).bind fun bt239 => (if (bt235.1.length : Int) = 1 then (if (strOfNums t211).toList = ([2, 0, 0, 0, 0, 0, 0, 0, 97, 98, 0, 0, 0] : List UInt8) then (if t214 = 0 then (if (strOfNums t215).toList = ([97, 98] : List UInt8) then (if t216 = 0 then (if t223 = 23 then (if 0 < (bt235.1.length : Int) then (if (strOfNums (rd_L1 bt235.1 0)).toList = ([1] : List UInt8) then (if bt235.2 = 0 then (if bt239.2 = 1 then ((stripe_Right.f 2 1 5 4).bind fun t245 => (if t245 = true then ((stripe_Long.f 2 1 5 4).bind fun t246 => (if t246 = 13 then ((stripe_Blocks.f 2 1 5 4).bind fun t247 => (if t247 = 4 then ((stripe_Blocks.f 0 0 0 0).bind fun t248 => (some (t248 == 0))) else (none))) else (none))) else (none))) else (none)) else (none)) else (none)) else (none)) else (none)) else (none)) else (none)) else (none)) else (none)) else (none)))) = some r := by first | (rw [hy226]; with_reducible exact H) | (have H2_ := (Option.bind_some _ _).symm.trans H; rw [hy226]; with_reducible exact H2_) | (have H2_ := (Option.bind_some _ _).symm.trans H; with_reducible exact H2_) | with_reducible exact H | (rw [hy226]; exact H) | exact H
 have Ny226 := Aside0.mk hy226
 clear hy226
 obtain ⟨y229, hy229⟩ : ∃ y_ : List Int, y_ = (([7] : List Int)) := ⟨_, rfl⟩
 replace H : ((stripe_Parity.f k (([y226, y229] : List (List Int))) 1).bind fun bt235 => ((stripe_Parity.f k ([] : List (List Int)) 1).bind fun bt239 => (if (bt235.1.length : Int) = 1 then (if (strOfNums t211).toList = ([2, 0, 0, 0, 0, 0, 0, 0, 97, 98, 0, 0, 0] : List UInt8) then (if t214 = 0 then (if (strOfNums t215).toList = ([97, 98] : List UInt8) then (if t216 = 0 then (if t223 = 23 then (if 0 < (bt235.1.length : Int) then (if (strOfNums (rd_L1 bt235.1 0)).toList = ([1] : List UInt8) then (if bt235.2 = 0 then (if bt239.2 = 1 then ((stripe_Right.f 2 1 5 4).bind fun t245 => (if t245 = true then ((stripe_Long.f 2 1 5 4).bind fun t246 => (if t246 = 13 then ((stripe_Blocks.f 2 1 5 4).bind fun t247 => (if t247 = 4 then ((stripe_Blocks.f 0 0 0 0).bind fun t248 => (some (t248 == 0))) else (none))) else (none))) else (none))) else (none)) else (none)) else (none)) else (none)) else (none)) else (none)) else (none)) else (none)) else (none)) else (none)))) = some r := by first | (rw [hy229]; with_reducible exact H) | (have H2_ := (Option.bind_some _ _).symm.trans H; rw [hy229]; with_reducible exact H2_) | (have H2_ := (Option.bind_some _ _).symm.trans H; with_reducible exact H2_) | with_reducible exact H | (rw [hy229]; exact H) | exact H
 have Ny229 := Aside0.mk hy229
 clear hy229
 obtain ⟨y232, hy232⟩ : ∃ y_ : List (List Int), y_ = (([y226, y229] : List (List Int))) := ⟨_, rfl⟩
 replace H : ((stripe_Parity.f k y232 1).bind fun bt235 => ((stripe_Parity.f k ([] : List (List Int)) 1).bind fun bt239 => (if (bt235.1.length : Int) = 1 then (if (strOfNums t211).toList = ([2, 0, 0, 0, 0, 0, 0, 0, 97, 98, 0, 0, 0] : List UInt8) then (if t214 = 0 then (if (strOfNums t215).toList = ([97, 98] : List UInt8) then (if t216 = 0 then (if t223 = 23 then (if 0 < (bt235.1.length : Int) then (if (strOfNums (rd_L1 bt235.1 0)).toList = ([1] : List UInt8) then (if bt235.2 = 0 then (if bt239.2 = 1 then ((stripe_Right.f 2 1 5 4).bind fun t245 => (if t245 = true then ((stripe_Long.f 2 1 5 4).bind fun t246 => (if t246 = 13 then ((stripe_Blocks.f 2 1 5 4).bind fun t247 => (if t247 = 4 then ((stripe_Blocks.f 0 0 0 0).bind fun t248 => (some (t248 == 0))) else (none))) else (none))) else (none))) else (none)) else (none)) else (none)) else (none)) else (none)) else (none)) else (none)) else (none)) else (none)) else (none)))) = some r := by first | (rw [hy232]; with_reducible exact H) | (have H2_ := (Option.bind_some _ _).symm.trans H; rw [hy232]; with_reducible exact H2_) | (have H2_ := (Option.bind_some _ _).symm.trans H; with_reducible exact H2_) | with_reducible exact H | (rw [hy232]; exact H) | exact H
 have Ny232 := Aside0.mk hy232
 clear hy232
 replace H := Option.bind_eq_some_iff.mp H
 obtain ⟨⟨t235, t236⟩, A40, H⟩ := H
 replace H : ((stripe_Parity.f k ([] : List (List Int)) 1).bind fun bt239 => (if (t235.length : Int) = 1 then (if (strOfNums t211).toList = ([2, 0, 0, 0, 0, 0, 0, 0, 97, 98, 0, 0, 0] : List UInt8) then (if t214 = 0 then (if (strOfNums t215).toList = ([97, 98] : List UInt8) then (if t216 = 0 then (if t223 = 23 then (if 0 < (t235.length : Int) then (if (strOfNums (rd_L1 t235 0)).toList = ([1] : List UInt8) then (if t236 = 0 then (if bt239.2 = 1 then ((stripe_Right.f 2 1 5 4).bind fun t245 => (if t245 = true then ((stripe_Long.f 2 1 5 4).bind fun t246 => (if t246 = 13 then ((stripe_Blocks.f 2 1 5 4).bind fun t247 => (if t247 = 4 then ((stripe_Blocks.f 0 0 0 0).bind fun t248 => (some (t248 == 0))) else (none))) else (none))) else (none))) else (none)) else (none)) else (none)) else (none)) else (none)) else (none)) else (none)) else (none)) else (none)) else (none))) = some r := H
 have A4 := Aside0.mk A40
 clear A40
 replace H := Option.bind_eq_some_iff.mp H
 obtain ⟨⟨t239, t240⟩, A50, H⟩ := H
 replace H : (if (t235.length : Int) = 1 then (if (strOfNums t211).toList = ([2, 0, 0, 0, 0, 0, 0, 0, 97, 98, 0, 0, 0] : List UInt8) then (if t214 = 0 then (if (strOfNums t215).toList = ([97, 98] : List UInt8) then (if t216 = 0 then (if t223 = 23 then (if 0 < (t235.length : Int) then (if (strOfNums (rd_L1 t235 0)).toList = ([1] : List UInt8) then (if t236 = 0 then (if t240 = 1 then ((stripe_Right.f 2 1 5 4).bind fun t245 => (if t245 = true then ((stripe_Long.f 2 1 5 4).bind fun t246 => (if t246 = 13 then ((stripe_Blocks.f 2 1 5 4).bind fun t247 => (if t247 = 4 then ((stripe_Blocks.f 0 0 0 0).bind fun t248 => (some (t248 == 0))) else (none))) else (none))) else (none))) else (none)) else (none)) else (none)) else (none)) else (none)) else (none)) else (none)) else (none)) else (none)) else (none)) = some r := H
 have A5 := Aside0.mk A50
 clear A50
 by_cases c6 : (t235.length : Int) = 1
 ·rw [if_pos c6] at H
  have c6b0 : ((t235.length : Int) == 1) = true := beq_iff_eq.mpr c6
  have c6b1 : ((t235.length : Int) != 1) = false := bne_eq_false_iff_eq.mpr c6
  clear c6
  by_cases c7 : (strOfNums t211).toList = ([2, 0, 0, 0, 0, 0, 0, 0, 97, 98, 0, 0, 0] : List UInt8)
  ·rw [if_pos c7] at H
   have c7b0 : ((strOfNums t211).toList == ([2, 0, 0, 0, 0, 0, 0, 0, 97, 98, 0, 0, 0] : List UInt8)) = true := beq_iff_eq.mpr c7
   have c7b1 : ((strOfNums t211).toList != ([2, 0, 0, 0, 0, 0, 0, 0, 97, 98, 0, 0, 0] : List UInt8)) = false := bne_eq_false_iff_eq.mpr c7
   clear c7
   by_cases c8 : t214 = 0
   ·rw [if_pos c8] at H
    have c8b0 : (t214 == 0) = true := beq_iff_eq.mpr c8
    have c8b1 : (t214 != 0) = false := bne_eq_false_iff_eq.mpr c8
    clear c8
    by_cases c9 : (strOfNums t215).toList = ([97, 98] : List UInt8)
    ·rw [if_pos c9] at H
     have c9b0 : ((strOfNums t215).toList == ([97, 98] : List UInt8)) = true := beq_iff_eq.mpr c9
     have c9b1 : ((strOfNums t215).toList != ([97, 98] : List UInt8)) = false := bne_eq_false_iff_eq.mpr c9
     clear c9
     by_cases c10 : t216 = 0
     ·rw [if_pos c10] at H
      have c10b0 : (t216 == 0) = true := beq_iff_eq.mpr c10
      have c10b1 : (t216 != 0) = false := bne_eq_false_iff_eq.mpr c10
      clear c10
      by_cases c11 : t223 = 23
      ·rw [if_pos c11] at H
       have c11b0 : (t223 == 23) = true := beq_iff_eq.mpr c11
       have c11b1 : (t223 != 23) = false := bne_eq_false_iff_eq.mpr c11
       clear c11
       by_cases c12 : 0 < (t235.length : Int)
       ·rw [if_pos c12] at H
        have c12b0 : decide (0 < (t235.length : Int)) = true := decide_eq_true c12
        have c12b1 : decide (0 < t235.length) = true := decide_eq_true (by omega)
        clear c12
        by_cases c13 : (strOfNums (rd_L1 t235 0)).toList = ([1] : List UInt8)
        ·rw [if_pos c13] at H
         have c13b0 : ((strOfNums (rd_L1 t235 0)).toList == ([1] : List UInt8)) = true := beq_iff_eq.mpr c13
         have c13b1 : ((strOfNums (rd_L1 t235 0)).toList != ([1] : List UInt8)) = false := bne_eq_false_iff_eq.mpr c13
         clear c13
         by_cases c14 : t236 = 0
         ·rw [if_pos c14] at H
          have c14b0 : (t236 == 0) = true := beq_iff_eq.mpr c14
          have c14b1 : (t236 != 0) = false := bne_eq_false_iff_eq.mpr c14
          clear c14
          by_cases c15 : t240 = 1
          ·rw [if_pos c15] at H
           have c15b0 : (t240 == 1) = true := beq_iff_eq.mpr c15
           have c15b1 : (t240 != 1) = false := bne_eq_false_iff_eq.mpr c15
           clear c15
           replace H := Option.bind_eq_some_iff.mp H
           obtain ⟨t245, A160, H⟩ := H
           replace H : (if t245 = true then ((stripe_Long.f 2 1 5 4).bind fun t246 => (if t246 = 13 then ((stripe_Blocks.f 2 1 5 4).bind fun t247 => (if t247 = 4 then ((stripe_Blocks.f 0 0 0 0).bind fun t248 => (some (t248 == 0))) else (none))) else (none))) else (none)) = some r := H
           have A16 := Aside0.mk A160
           clear A160
           by_cases c17 : t245 = true
           ·subst c17
            have H1 : ((stripe_Long.f 2 1 5 4).bind fun t246 => (if t246 = 13 then ((stripe_Blocks.f 2 1 5 4).bind fun t247 => (if t247 = 4 then ((stripe_Blocks.f 0 0 0 0).bind fun t248 => (some (t248 == 0))) else (none))) else (none))) = some r := by rw [if_pos rfl] at H; exact H
            clear H
            have H := H1
            clear H1
            replace H := Option.bind_eq_some_iff.mp H
            obtain ⟨t246, A180, H⟩ := H
            replace H : (if t246 = 13 then ((stripe_Blocks.f 2 1 5 4).bind fun t247 => (if t247 = 4 then ((stripe_Blocks.f 0 0 0 0).bind fun t248 => (some (t248 == 0))) else (none))) else (none)) = some r := H
            have A18 := Aside0.mk A180
            clear A180
            by_cases c19 : t246 = 13
            ·rw [if_pos c19] at H
             have c19b0 : (t246 == 13) = true := beq_iff_eq.mpr c19
             have c19b1 : (t246 != 13) = false := bne_eq_false_iff_eq.mpr c19
             clear c19
             replace H := Option.bind_eq_some_iff.mp H
             obtain ⟨t247, A200, H⟩ := H
             replace H : (if t247 = 4 then ((stripe_Blocks.f 0 0 0 0).bind fun t248 => (some (t248 == 0))) else (none)) = some r := H
             have A20 := Aside0.mk A200
             clear A200
             by_cases c21 : t247 = 4
             ·rw [if_pos c21] at H
              have c21b0 : (t247 == 4) = true := beq_iff_eq.mpr c21
              have c21b1 : (t247 != 4) = false := bne_eq_false_iff_eq.mpr c21
              clear c21
              replace H := Option.bind_eq_some_iff.mp H
              obtain ⟨t248, A220, H⟩ := H
              replace H : (some (t248 == 0)) = some r := H
              have A22 := Aside0.mk A220
              clear A220
              obtain rfl := Option.some.inj H
              go_enter Try.func7, Try.ntmps7
              go_wp2_with (first | ((with_reducible refine gate_dst (N := 13) rfl ?_); refine Kd.R_lit (Kd.int .u8) _ 5 ?hg (N := 13) ?hd (xs := ([97, 98] : List Int)) (inner := [.int .u8 97, .int .u8 98]) (ok := fun _ => True) (okp := fun _ => True) ?hr ?hp (fun _ hk => hk) trivial (Below.refl _ _) (Nat.le_refl _) (by simp) ?_; (case hd => rfl); (case hg => rfl); (case hr => first | (go_simp; done) | (go_simp; rfl)); (case hp => exact (Reps.one (show Kd.M (Kd.int .u8) _ _ _ 97 [.int .u8 97] from rfl) (Reps.one (show Kd.M (Kd.int .u8) _ _ _ 98 [.int .u8 98] from rfl) (Reps.none _ _)))); intro v209 w23 ho24 hb hg_ hnew_; clear hg_ hnew_; (first | rw [← Ny208.out] at ho24 | (simp only [Int.reduceToNat] at ho24; rw [← Ny208.out] at ho24)); obtain ⟨w25, hcv_, ho26, hvb_, hb2_⟩ := Mm.R_frz Try.underlying22 Try.underlying5 ho24 (by rw [Ny208.out]; decide) hb; clear ho24 hb; have hb := hb2_; clear hb2_; have n0_ := Aside0.mk (Kd.V_lower (Kd.V_mono (ok' := fun k_ => True) ho26 (fun k_ hk_ => trivial)) (below_size (by repeat (first | (with_reducible first | exact HB.out | apply below_alloc | apply pw_below_drewN | apply below_drew1) | exact HB.out)))); have n1_ := Aside0.mk (below_step (by repeat (first | (with_reducible first | exact HB.out | apply below_alloc | apply pw_below_drewN | apply below_drew1) | exact HB.out)) hb); clear HB; have HO210 := n0_; have HB := n1_; clear n0_ n1_; clear hb ho26 hvb_; obtain ⟨Ao27, co27, eo27⟩ := Kd.V_slice HO210.out; subst eo27) | ((with_reducible refine gate_callee (f := 8) rfl ?_); refine goesL_ (some 15) rfl rfl Try.func8 (by kernel_rfl) rfl #[.slice Ao27 y208.length co27, .int .i64 5] rfl (by (try simp only [List.map_toArray, List.map_cons, List.map_nil]); first | done | rfl | (simp only [List.length_drop, List.length_take]; rfl)) ?_; (with_reducible refine (stripe_Column.calls k (fun k_ => True) _ _ y208 5 t211 t214 _ ?side1 A1.out).mono ?_); (case side1 => exact HO210.out); rintro e w28 ⟨v212, rfl, ho0, hb⟩; refine ⟨_, rfl, ?_⟩; have n0_ := Aside0.mk (Kd.V_elder' (by (with_reducible repeat (first | apply Kd.V_alloc | apply Kd.V_drewN | apply Kd.V_drew)); exact HO210.out) (Kd.R_base ho0) hb); have n1_ := Aside0.mk (Kd.R_lower (Kd.R_mono (ok' := fun k_ => True) ho0 (fun _ hk_ => trivial)) (below_size (by repeat (first | (with_reducible first | exact HB.out | apply below_alloc | apply pw_below_drewN | apply below_drew1) | exact HB.out)))); have n2_ := Aside0.mk (below_step (by repeat (first | (with_reducible first | exact HB.out | apply below_alloc | apply pw_below_drewN | apply below_drew1) | exact HB.out)) hb); clear HO210; clear HB; have HO210 := n0_; have HO213 := n1_; have HB := n2_; clear n0_ n1_ n2_; (try clear hb); (try clear hb2); (try clear hk); (try clear hi); (try clear ho0); obtain ⟨Ao29, co29, eo29⟩ := Kd.R_slice HO213.out; subst eo29) | ((with_reducible refine gate_callee (f := 10) rfl ?_); refine goesL_ (some 20) rfl rfl Try.func10 (by kernel_rfl) rfl #[.slice Ao29 t211.length co29] rfl (by (try simp only [List.map_toArray, List.map_cons, List.map_nil]); first | done | rfl | (simp only [List.length_drop, List.length_take]; rfl)) ?_; (with_reducible refine (stripe_Volume.calls k _ _ t211 t215 t216 _ ?side1 ?side2 A2.out).mono ?_); (case side1 => repeat (first | exact (Kd.R_reads' HO213.out).2.2 | (with_reducible refine Kd.C_alloc ?_ _) | (with_reducible refine Kd.C_drewN ?_ _) | (with_reducible refine Kd.C_drew ?_))); (case side2 => exact (Kd.R_reads' HO213.out).2.1); rintro e w30 ⟨v217, rfl, ho0, hb⟩; refine ⟨_, rfl, ?_⟩; have n0_ := Aside0.mk (Kd.V_elder' (by (with_reducible repeat (first | apply Kd.V_alloc | apply Kd.V_drewN | apply Kd.V_drew)); exact HO210.out) (Kd.R_base ho0) hb); have n1_ := Aside0.mk (Kd.R_elder' (by (with_reducible repeat (first | apply Kd.R_alloc | apply Kd.R_drewN | apply Kd.R_drew)); exact HO213.out) (Kd.R_base ho0) hb); have n2_ := Aside0.mk (Kd.R_lower (Kd.R_new' ho0 (Kd.R_lt (by (with_reducible repeat (first | apply Kd.R_alloc | apply Kd.R_drewN | apply Kd.R_drew)); exact HO213.out))) (below_size (by repeat (first | (with_reducible first | exact HB.out | apply below_alloc | apply pw_below_drewN | apply below_drew1) | exact HB.out)))); have n3_ := Aside0.mk (below_step (by repeat (first | (with_reducible first | exact HB.out | apply below_alloc | apply pw_below_drewN | apply below_drew1) | exact HB.out)) hb); clear HO210; clear HO213; clear HB; have HO210 := n0_; have HO213 := n1_; have HO218 := n2_; have HB := n3_; clear n0_ n1_ n2_ n3_; (try clear hb); (try clear hb2); (try clear hk); (try clear hi); (try clear ho0)) | ((with_reducible refine gate_dst (N := 24) rfl ?_); refine Kd.R_lit (Kd.int .u8) _ 5 ?hg (N := 24) ?hd (xs := ([9, 0, 0, 0, 0, 0, 0, 0] : List Int)) (inner := [.int .u8 9, .int .u8 0, .int .u8 0, .int .u8 0, .int .u8 0, .int .u8 0, .int .u8 0, .int .u8 0]) (ok := fun _ => True) (okp := fun _ => True) ?hr ?hp (fun _ hk => hk) trivial (Below.refl _ _) (Nat.le_refl _) (by simp) ?_; (case hd => rfl); (case hg => rfl); (case hr => first | (go_simp; done) | (go_simp; rfl)); (case hp => exact (Reps.one (show Kd.M (Kd.int .u8) _ _ _ 9 [.int .u8 9] from rfl) (Reps.one (show Kd.M (Kd.int .u8) _ _ _ 0 [.int .u8 0] from rfl) (Reps.one (show Kd.M (Kd.int .u8) _ _ _ 0 [.int .u8 0] from rfl) (Reps.one (show Kd.M (Kd.int .u8) _ _ _ 0 [.int .u8 0] from rfl) (Reps.one (show Kd.M (Kd.int .u8) _ _ _ 0 [.int .u8 0] from rfl) (Reps.one (show Kd.M (Kd.int .u8) _ _ _ 0 [.int .u8 0] from rfl) (Reps.one (show Kd.M (Kd.int .u8) _ _ _ 0 [.int .u8 0] from rfl) (Reps.one (show Kd.M (Kd.int .u8) _ _ _ 0 [.int .u8 0] from rfl) (Reps.none _ _)))))))))); intro v220 w31 ho32 hb hg_ hnew_; clear hg_ hnew_; (first | rw [← Ny219.out] at ho32 | (simp only [Int.reduceToNat] at ho32; rw [← Ny219.out] at ho32)); have n0_ := Aside0.mk (Kd.V_elder' (by (with_reducible repeat (first | apply Kd.V_alloc | apply Kd.V_drewN | apply Kd.V_drew)); exact HO210.out) (Kd.R_base ho32) hb); have n1_ := Aside0.mk (Kd.R_elder' (by (with_reducible repeat (first | apply Kd.R_alloc | apply Kd.R_drewN | apply Kd.R_drew)); exact HO213.out) (Kd.R_base ho32) hb); have n2_ := Aside0.mk (Kd.R_elder' (by (with_reducible repeat (first | apply Kd.R_alloc | apply Kd.R_drewN | apply Kd.R_drew)); exact HO218.out) (Kd.R_base ho32) hb); have n3_ := Aside0.mk (Kd.R_lower (Kd.R_new' (Kd.R_new' ho32 (Kd.R_lt (by (with_reducible repeat (first | apply Kd.R_alloc | apply Kd.R_drewN | apply Kd.R_drew)); exact HO213.out))) (Kd.R_lt (by (with_reducible repeat (first | apply Kd.R_alloc | apply Kd.R_drewN | apply Kd.R_drew)); exact HO218.out))) (below_size (by repeat (first | (with_reducible first | exact HB.out | apply below_alloc | apply pw_below_drewN | apply below_drew1) | exact HB.out)))); have n4_ := Aside0.mk (below_step (by repeat (first | (with_reducible first | exact HB.out | apply below_alloc | apply pw_below_drewN | apply below_drew1) | exact HB.out)) hb); clear HO210; clear HO213; clear HO218; clear HB; have HO210 := n0_; have HO213 := n1_; have HO218 := n2_; have HO221 := n3_; have HB := n4_; clear n0_ n1_ n2_ n3_ n4_; clear hb ho32; obtain ⟨Ao33, co33, eo33⟩ := Kd.R_slice HO221.out; subst eo33) | ((with_reducible refine gate_callee (f := 10) rfl ?_); refine goesL_ (some 25) rfl rfl Try.func10 (by kernel_rfl) rfl #[.slice Ao33 y219.length co33] rfl (by (try simp only [List.map_toArray, List.map_cons, List.map_nil]); first | done | rfl | (simp only [List.length_drop, List.length_take]; rfl)) ?_; (with_reducible refine (stripe_Volume.calls k _ _ y219 t222 t223 _ ?side1 ?side2 A3.out).mono ?_); (case side1 => repeat (first | exact (Kd.R_reads' HO221.out).2.2 | (with_reducible refine Kd.C_alloc ?_ _) | (with_reducible refine Kd.C_drewN ?_ _) | (with_reducible refine Kd.C_drew ?_))); (case side2 => exact (Kd.R_reads' HO221.out).2.1); rintro e w34 ⟨v224, rfl, ho0, hb⟩; refine ⟨_, rfl, ?_⟩; have n0_ := Aside0.mk (Kd.V_elder' (by (with_reducible repeat (first | apply Kd.V_alloc | apply Kd.V_drewN | apply Kd.V_drew)); exact HO210.out) (Kd.R_base ho0) hb); have n1_ := Aside0.mk (Kd.R_elder' (by (with_reducible repeat (first | apply Kd.R_alloc | apply Kd.R_drewN | apply Kd.R_drew)); exact HO213.out) (Kd.R_base ho0) hb); have n2_ := Aside0.mk (Kd.R_elder' (by (with_reducible repeat (first | apply Kd.R_alloc | apply Kd.R_drewN | apply Kd.R_drew)); exact HO218.out) (Kd.R_base ho0) hb); have n3_ := Aside0.mk (Kd.R_elder' (by (with_reducible repeat (first | apply Kd.R_alloc | apply Kd.R_drewN | apply Kd.R_drew)); exact HO221.out) (Kd.R_base ho0) hb); have n4_ := Aside0.mk (Kd.R_lower (Kd.R_new' (Kd.R_new' (Kd.R_new' ho0 (Kd.R_lt (by (with_reducible repeat (first | apply Kd.R_alloc | apply Kd.R_drewN | apply Kd.R_drew)); exact HO213.out))) (Kd.R_lt (by (with_reducible repeat (first | apply Kd.R_alloc | apply Kd.R_drewN | apply Kd.R_drew)); exact HO218.out))) (Kd.R_lt (by (with_reducible repeat (first | apply Kd.R_alloc | apply Kd.R_drewN | apply Kd.R_drew)); exact HO221.out))) (below_size (by repeat (first | (with_reducible first | exact HB.out | apply below_alloc | apply pw_below_drewN | apply below_drew1) | exact HB.out)))); have n5_ := Aside0.mk (below_step (by repeat (first | (with_reducible first | exact HB.out | apply below_alloc | apply pw_below_drewN | apply below_drew1) | exact HB.out)) hb); clear HO210; clear HO213; clear HO218; clear HO221; clear HB; have HO210 := n0_; have HO213 := n1_; have HO218 := n2_; have HO221 := n3_; have HO225 := n4_; have HB := n5_; clear n0_ n1_ n2_ n3_ n4_ n5_; (try clear hb); (try clear hb2); (try clear hk); (try clear hi); (try clear ho0)) | ((with_reducible refine gate_dst (N := 29) rfl ?_); refine Kd.R_lit (Kd.int .u8) _ 5 ?hg (N := 29) ?hd (xs := ([5] : List Int)) (inner := [.int .u8 5]) (ok := fun _ => True) (okp := fun _ => True) ?hr ?hp (fun _ hk => hk) trivial (Below.refl _ _) (Nat.le_refl _) (by simp) ?_; (case hd => rfl); (case hg => rfl); (case hr => first | (go_simp; done) | (go_simp; rfl)); (case hp => exact (Reps.one (show Kd.M (Kd.int .u8) _ _ _ 5 [.int .u8 5] from rfl) (Reps.none _ _))); intro v227 w35 ho36 hb hg_ hnew_; clear hg_ hnew_; (first | rw [← Ny226.out] at ho36 | (simp only [Int.reduceToNat] at ho36; rw [← Ny226.out] at ho36)); have n0_ := Aside0.mk (Kd.V_elder' (by (with_reducible repeat (first | apply Kd.V_alloc | apply Kd.V_drewN | apply Kd.V_drew)); exact HO210.out) (Kd.R_base ho36) hb); have n1_ := Aside0.mk (Kd.R_elder' (by (with_reducible repeat (first | apply Kd.R_alloc | apply Kd.R_drewN | apply Kd.R_drew)); exact HO213.out) (Kd.R_base ho36) hb); have n2_ := Aside0.mk (Kd.R_elder' (by (with_reducible repeat (first | apply Kd.R_alloc | apply Kd.R_drewN | apply Kd.R_drew)); exact HO218.out) (Kd.R_base ho36) hb); have n3_ := Aside0.mk (Kd.R_elder' (by (with_reducible repeat (first | apply Kd.R_alloc | apply Kd.R_drewN | apply Kd.R_drew)); exact HO221.out) (Kd.R_base ho36) hb); have n4_ := Aside0.mk (Kd.R_elder' (by (with_reducible repeat (first | apply Kd.R_alloc | apply Kd.R_drewN | apply Kd.R_drew)); exact HO225.out) (Kd.R_base ho36) hb); have n5_ := Aside0.mk (Kd.R_lower (Kd.R_new' (Kd.R_new' (Kd.R_new' (Kd.R_new' ho36 (Kd.R_lt (by (with_reducible repeat (first | apply Kd.R_alloc | apply Kd.R_drewN | apply Kd.R_drew)); exact HO213.out))) (Kd.R_lt (by (with_reducible repeat (first | apply Kd.R_alloc | apply Kd.R_drewN | apply Kd.R_drew)); exact HO218.out))) (Kd.R_lt (by (with_reducible repeat (first | apply Kd.R_alloc | apply Kd.R_drewN | apply Kd.R_drew)); exact HO221.out))) (Kd.R_lt (by (with_reducible repeat (first | apply Kd.R_alloc | apply Kd.R_drewN | apply Kd.R_drew)); exact HO225.out))) (below_size (by repeat (first | (with_reducible first | exact HB.out | apply below_alloc | apply pw_below_drewN | apply below_drew1) | exact HB.out)))); have n6_ := Aside0.mk (below_step (by repeat (first | (with_reducible first | exact HB.out | apply below_alloc | apply pw_below_drewN | apply below_drew1) | exact HB.out)) hb); clear HO210; clear HO213; clear HO218; clear HO221; clear HO225; clear HB; have HO210 := n0_; have HO213 := n1_; have HO218 := n2_; have HO221 := n3_; have HO225 := n4_; have HO228 := n5_; have HB := n6_; clear n0_ n1_ n2_ n3_ n4_ n5_ n6_; clear hb ho36) | ((with_reducible refine gate_dst (N := 30) rfl ?_); refine Kd.R_lit (Kd.int .u8) _ 5 ?hg (N := 30) ?hd (xs := ([7] : List Int)) (inner := [.int .u8 7]) (ok := fun _ => True) (okp := fun _ => True) ?hr ?hp (fun _ hk => hk) trivial (Below.refl _ _) (Nat.le_refl _) (by simp) ?_; (case hd => rfl); (case hg => rfl); (case hr => first | (go_simp; done) | (go_simp; rfl)); (case hp => exact (Reps.one (show Kd.M (Kd.int .u8) _ _ _ 7 [.int .u8 7] from rfl) (Reps.none _ _))); intro v230 w37 ho38 hb hg_ hnew_; clear hg_ hnew_; (first | rw [← Ny229.out] at ho38 | (simp only [Int.reduceToNat] at ho38; rw [← Ny229.out] at ho38)); have n0_ := Aside0.mk (Kd.V_elder' (by (with_reducible repeat (first | apply Kd.V_alloc | apply Kd.V_drewN | apply Kd.V_drew)); exact HO210.out) (Kd.R_base ho38) hb); have n1_ := Aside0.mk (Kd.R_elder' (by (with_reducible repeat (first | apply Kd.R_alloc | apply Kd.R_drewN | apply Kd.R_drew)); exact HO213.out) (Kd.R_base ho38) hb); have n2_ := Aside0.mk (Kd.R_elder' (by (with_reducible repeat (first | apply Kd.R_alloc | apply Kd.R_drewN | apply Kd.R_drew)); exact HO218.out) (Kd.R_base ho38) hb); have n3_ := Aside0.mk (Kd.R_elder' (by (with_reducible repeat (first | apply Kd.R_alloc | apply Kd.R_drewN | apply Kd.R_drew)); exact HO221.out) (Kd.R_base ho38) hb); have n4_ := Aside0.mk (Kd.R_elder' (by (with_reducible repeat (first | apply Kd.R_alloc | apply Kd.R_drewN | apply Kd.R_drew)); exact HO225.out) (Kd.R_base ho38) hb); have n5_ := Aside0.mk (Kd.R_elder' (by (with_reducible repeat (first | apply Kd.R_alloc | apply Kd.R_drewN | apply Kd.R_drew)); exact HO228.out) (Kd.R_base ho38) hb); have n6_ := Aside0.mk (Kd.R_lower (Kd.R_new' (Kd.R_new' (Kd.R_new' (Kd.R_new' (Kd.R_new' ho38 (Kd.R_lt (by (with_reducible repeat (first | apply Kd.R_alloc | apply Kd.R_drewN | apply Kd.R_drew)); exact HO213.out))) (Kd.R_lt (by (with_reducible repeat (first | apply Kd.R_alloc | apply Kd.R_drewN | apply Kd.R_drew)); exact HO218.out))) (Kd.R_lt (by (with_reducible repeat (first | apply Kd.R_alloc | apply Kd.R_drewN | apply Kd.R_drew)); exact HO221.out))) (Kd.R_lt (by (with_reducible repeat (first | apply Kd.R_alloc | apply Kd.R_drewN | apply Kd.R_drew)); exact HO225.out))) (Kd.R_lt (by (with_reducible repeat (first | apply Kd.R_alloc | apply Kd.R_drewN | apply Kd.R_drew)); exact HO228.out))) (below_size (by repeat (first | (with_reducible first | exact HB.out | apply below_alloc | apply pw_below_drewN | apply below_drew1) | exact HB.out)))); have n7_ := Aside0.mk (below_step (by repeat (first | (with_reducible first | exact HB.out | apply below_alloc | apply pw_below_drewN | apply below_drew1) | exact HB.out)) hb); clear HO210; clear HO213; clear HO218; clear HO221; clear HO225; clear HO228; clear HB; have HO210 := n0_; have HO213 := n1_; have HO218 := n2_; have HO221 := n3_; have HO225 := n4_; have HO228 := n5_; have HO231 := n6_; have HB := n7_; clear n0_ n1_ n2_ n3_ n4_ n5_ n6_ n7_; clear hb ho38; obtain ⟨Ao39, co39, eo39⟩ := Kd.R_slice HO228.out; subst eo39; obtain ⟨Ao40, co40, eo40⟩ := Kd.R_slice HO231.out; subst eo40) | ((with_reducible refine gate_dst (N := 31) rfl ?_); refine Kd.N_lit (Kd.slice 5 (Kd.int .u8)) _ 22 ?hg (N' := 31) ?hd (xs := ([y226, y229] : List (List Int))) (inner := [.slice Ao39 y226.length co39, .slice Ao40 y229.length co40]) (ok := (fun k_ => some k_ ≠ (.slice Ao29 t211.length co29 : Value).ownBlock ∧ some k_ ≠ (v217 : Value).ownBlock ∧ some k_ ≠ (.slice Ao33 y219.length co33 : Value).ownBlock ∧ some k_ ≠ (v224 : Value).ownBlock)) (okp := (fun k_ => some k_ ≠ (.slice Ao29 t211.length co29 : Value).ownBlock ∧ some k_ ≠ (v217 : Value).ownBlock ∧ some k_ ≠ (.slice Ao33 y219.length co33 : Value).ownBlock ∧ some k_ ≠ (v224 : Value).ownBlock)) ?hr ?hp (fun _ hk => hk) ((show ∀ k_, w37.heap.size ≤ k_ → (fun k_ => some k_ ≠ (.slice Ao29 t211.length co29 : Value).ownBlock ∧ some k_ ≠ (v217 : Value).ownBlock ∧ some k_ ≠ (.slice Ao33 y219.length co33 : Value).ownBlock ∧ some k_ ≠ (v224 : Value).ownBlock) k_ from fun k_ hk => ⟨Kd.fresh' (Kd.R_lt (by (with_reducible repeat (first | apply Kd.R_alloc | apply Kd.R_drewN | apply Kd.R_drew)); exact HO213.out)) k_ hk, Kd.fresh' (Kd.R_lt (by (with_reducible repeat (first | apply Kd.R_alloc | apply Kd.R_drewN | apply Kd.R_drew)); exact HO218.out)) k_ hk, Kd.fresh' (Kd.R_lt (by (with_reducible repeat (first | apply Kd.R_alloc | apply Kd.R_drewN | apply Kd.R_drew)); exact HO221.out)) k_ hk, Kd.fresh' (Kd.R_lt (by (with_reducible repeat (first | apply Kd.R_alloc | apply Kd.R_drewN | apply Kd.R_drew)); exact HO225.out)) k_ hk⟩) _ (Nat.le_refl _)) (Below.refl _ _) (Nat.le_refl _) (by simp) ?_; (case hd => rfl); (case hg => rfl); (case hr => first | (go_simp; done) | (go_simp; rfl)); (case hp => exact (Reps.one (show Kd.FK (Kd.slice 5 (Kd.int .u8)) _ _ y226 [.slice Ao39 y226.length co39] from (Kd.FK_slice_mk (Kd.R_reads' (Kd.R_mono (ok' := (fun k_ => some k_ ≠ (.slice Ao29 t211.length co29 : Value).ownBlock ∧ some k_ ≠ (v217 : Value).ownBlock ∧ some k_ ≠ (.slice Ao33 y219.length co33 : Value).ownBlock ∧ some k_ ≠ (v224 : Value).ownBlock)) (HO228.out) (fun k_ hk => ⟨hk.1.1.1.1.2, ⟨hk.1.1.1.2, ⟨hk.1.1.2, hk.1.2⟩⟩⟩))).2.1 (Kd.R_F (Kd.R_mono (ok' := (fun k_ => some k_ ≠ (.slice Ao29 t211.length co29 : Value).ownBlock ∧ some k_ ≠ (v217 : Value).ownBlock ∧ some k_ ≠ (.slice Ao33 y219.length co33 : Value).ownBlock ∧ some k_ ≠ (v224 : Value).ownBlock)) (HO228.out) (fun k_ hk => ⟨hk.1.1.1.1.2, ⟨hk.1.1.1.2, ⟨hk.1.1.2, hk.1.2⟩⟩⟩))))) (Reps.one (show Kd.FK (Kd.slice 5 (Kd.int .u8)) _ _ y229 [.slice Ao40 y229.length co40] from (Kd.FK_slice_mk (Kd.R_reads' (Kd.R_mono (ok' := (fun k_ => some k_ ≠ (.slice Ao29 t211.length co29 : Value).ownBlock ∧ some k_ ≠ (v217 : Value).ownBlock ∧ some k_ ≠ (.slice Ao33 y219.length co33 : Value).ownBlock ∧ some k_ ≠ (v224 : Value).ownBlock)) (HO231.out) (fun k_ hk => ⟨hk.1.1.1.1.2, ⟨hk.1.1.1.2, ⟨hk.1.1.2, hk.1.2⟩⟩⟩))).2.1 (Kd.R_F (Kd.R_mono (ok' := (fun k_ => some k_ ≠ (.slice Ao29 t211.length co29 : Value).ownBlock ∧ some k_ ≠ (v217 : Value).ownBlock ∧ some k_ ≠ (.slice Ao33 y219.length co33 : Value).ownBlock ∧ some k_ ≠ (v224 : Value).ownBlock)) (HO231.out) (fun k_ hk => ⟨hk.1.1.1.1.2, ⟨hk.1.1.1.2, ⟨hk.1.1.2, hk.1.2⟩⟩⟩))))) (Reps.none _ _)))); intro v233 w41 ho42 hb hg_ hnew_; clear hg_ hnew_; (first | rw [← Ny232.out] at ho42 | (simp only [Int.reduceToNat] at ho42; rw [← Ny232.out] at ho42)); have n0_ := Aside0.mk (Kd.V_elder' (by (with_reducible repeat (first | apply Kd.V_alloc | apply Kd.V_drewN | apply Kd.V_drew)); exact HO210.out) (by first | exact Kd.N_base ho42 | exact Kd.S_base ho42) hb); have n1_ := Aside0.mk (Kd.R_below (by (with_reducible repeat (first | apply Kd.R_alloc | apply Kd.R_drewN | apply Kd.R_drew)); exact HO213.out) hb); have n2_ := Aside0.mk (Kd.R_below (by (with_reducible repeat (first | apply Kd.R_alloc | apply Kd.R_drewN | apply Kd.R_drew)); exact HO218.out) hb); have n3_ := Aside0.mk (Kd.R_below (by (with_reducible repeat (first | apply Kd.R_alloc | apply Kd.R_drewN | apply Kd.R_drew)); exact HO221.out) hb); have n4_ := Aside0.mk (Kd.R_below (by (with_reducible repeat (first | apply Kd.R_alloc | apply Kd.R_drewN | apply Kd.R_drew)); exact HO225.out) hb); have n5_ := Aside0.mk (Kd.N_lower ho42 (below_size (by repeat (first | (with_reducible first | exact HB.out | apply below_alloc | apply pw_below_drewN | apply below_drew1) | exact HB.out)))); have n6_ := Aside0.mk (below_step (by repeat (first | (with_reducible first | exact HB.out | apply below_alloc | apply pw_below_drewN | apply below_drew1) | exact HB.out)) hb); clear HO210; clear HO213; clear HO218; clear HO221; clear HO225; clear HB; clear HO228; clear HO231; have HO210 := n0_; have HO213 := n1_; have HO218 := n2_; have HO221 := n3_; have HO225 := n4_; have HO234 := n5_; have HB := n6_; clear n0_ n1_ n2_ n3_ n4_ n5_ n6_; clear hb ho42; obtain ⟨Ao43, co43, eo43⟩ := Kd.N_slice HO234.out; subst eo43) | ((with_reducible refine gate_callee (f := 18) rfl ?_); refine goesL_ (some 32) rfl rfl Try.func18 (by kernel_rfl) rfl #[.slice Ao43 y232.length co43, .int .i64 1] rfl (by (try simp only [List.map_toArray, List.map_cons, List.map_nil]); first | done | rfl | (simp only [List.length_drop, List.length_take]; rfl)) ?_; (with_reducible refine (stripe_Parity.calls k _ _ y232 1 t235 t236 _ ?side1 ?side2 A4.out).mono ?_); (case side1 => repeat (first | exact (Kd.N_reads' HO234.out).2.2 | (with_reducible refine Kd.C_alloc ?_ _) | (with_reducible refine Kd.C_drewN ?_ _) | (with_reducible refine Kd.C_drew ?_))); (case side2 => exact (Kd.N_reads' HO234.out).2.1); rintro e w44 ⟨v237, rfl, ho0, hb⟩; refine ⟨_, rfl, ?_⟩; have n0_ := Aside0.mk (Kd.V_elder' (by (with_reducible repeat (first | apply Kd.V_alloc | apply Kd.V_drewN | apply Kd.V_drew)); exact HO210.out) (by first | exact Kd.N_base ho0 | exact Kd.S_base ho0) hb); have n1_ := Aside0.mk (Kd.R_below (by (with_reducible repeat (first | apply Kd.R_alloc | apply Kd.R_drewN | apply Kd.R_drew)); exact HO213.out) hb); have n2_ := Aside0.mk (Kd.R_below (by (with_reducible repeat (first | apply Kd.R_alloc | apply Kd.R_drewN | apply Kd.R_drew)); exact HO218.out) hb); have n3_ := Aside0.mk (Kd.R_below (by (with_reducible repeat (first | apply Kd.R_alloc | apply Kd.R_drewN | apply Kd.R_drew)); exact HO221.out) hb); have n4_ := Aside0.mk (Kd.R_below (by (with_reducible repeat (first | apply Kd.R_alloc | apply Kd.R_drewN | apply Kd.R_drew)); exact HO225.out) hb); have n5_ := Aside0.mk (Kd.N_elder' (by (with_reducible repeat (first | apply Kd.N_alloc | apply Kd.N_drewN | apply Kd.N_drew)); exact HO234.out) (by first | exact Kd.N_base ho0 | exact Kd.S_base ho0) hb); have n6_ := Aside0.mk (Kd.N_lower (Kd.N_mono (ok' := fun k_ => some k_ ≠ (.slice Ao29 t211.length co29 : Value).ownBlock ∧ some k_ ≠ (v217 : Value).ownBlock ∧ some k_ ≠ (.slice Ao33 y219.length co33 : Value).ownBlock ∧ some k_ ≠ (v224 : Value).ownBlock ∧ some k_ ≠ (.slice Ao43 y232.length co43 : Value).ownBlock) (Kd.S_N (Kd.S_bound ho0)) (fun k_ hk_ => ⟨(Kd.fresh' (Kd.R_lt (by (with_reducible repeat (first | apply Kd.R_alloc | apply Kd.R_drewN | apply Kd.R_drew)); exact HO213.out)) k_ hk_.2.1), (Kd.fresh' (Kd.R_lt (by (with_reducible repeat (first | apply Kd.R_alloc | apply Kd.R_drewN | apply Kd.R_drew)); exact HO218.out)) k_ hk_.2.1), (Kd.fresh' (Kd.R_lt (by (with_reducible repeat (first | apply Kd.R_alloc | apply Kd.R_drewN | apply Kd.R_drew)); exact HO221.out)) k_ hk_.2.1), (Kd.fresh' (Kd.R_lt (by (with_reducible repeat (first | apply Kd.R_alloc | apply Kd.R_drewN | apply Kd.R_drew)); exact HO225.out)) k_ hk_.2.1), (Kd.fresh' (Kd.N_lt (by (with_reducible repeat (first | apply Kd.N_alloc | apply Kd.N_drewN | apply Kd.N_drew)); exact HO234.out)) k_ hk_.2.1)⟩)) (below_size (by repeat (first | (with_reducible first | exact HB.out | apply below_alloc | apply pw_below_drewN | apply below_drew1) | exact HB.out)))); have n7_ := Aside0.mk (below_step (by repeat (first | (with_reducible first | exact HB.out | apply below_alloc | apply pw_below_drewN | apply below_drew1) | exact HB.out)) hb); clear HO210; clear HO213; clear HO218; clear HO221; clear HO225; clear HO234; clear HB; have HO210 := n0_; have HO213 := n1_; have HO218 := n2_; have HO221 := n3_; have HO225 := n4_; have HO234 := n5_; have HO238 := n6_; have HB := n7_; clear n0_ n1_ n2_ n3_ n4_ n5_ n6_ n7_; (try clear hb); (try clear hb2); (try clear hk); (try clear hi); (try clear ho0)) | ((with_reducible refine gate_callee (f := 18) rfl ?_); refine goesL_ (some 36) rfl rfl Try.func18 (by kernel_rfl) rfl #[.slice none 0 0, .int .i64 1] rfl (by (try simp only [List.map_toArray, List.map_cons, List.map_nil]); first | done | rfl | (simp only [List.length_drop, List.length_take]; rfl)) ?_; (refine (stripe_Parity.calls k _ _ ([] : List (List Int)) 1 t239 t240 _ ?side1 ?side2 A5.out).mono ?_); (case side1 => exact Kd.C_nil _ _); (case side2 => exact Nat.le_refl _); rintro e w45 ⟨v241, rfl, ho0, hb⟩; refine ⟨_, rfl, ?_⟩; have n0_ := Aside0.mk (Kd.V_elder' (by (with_reducible repeat (first | apply Kd.V_alloc | apply Kd.V_drewN | apply Kd.V_drew)); exact HO210.out) (by first | exact Kd.N_base ho0 | exact Kd.S_base ho0) hb); have n1_ := Aside0.mk (Kd.R_below (by (with_reducible repeat (first | apply Kd.R_alloc | apply Kd.R_drewN | apply Kd.R_drew)); exact HO213.out) hb); have n2_ := Aside0.mk (Kd.R_below (by (with_reducible repeat (first | apply Kd.R_alloc | apply Kd.R_drewN | apply Kd.R_drew)); exact HO218.out) hb); have n3_ := Aside0.mk (Kd.R_below (by (with_reducible repeat (first | apply Kd.R_alloc | apply Kd.R_drewN | apply Kd.R_drew)); exact HO221.out) hb); have n4_ := Aside0.mk (Kd.R_below (by (with_reducible repeat (first | apply Kd.R_alloc | apply Kd.R_drewN | apply Kd.R_drew)); exact HO225.out) hb); have n5_ := Aside0.mk (Kd.N_elder' (by (with_reducible repeat (first | apply Kd.N_alloc | apply Kd.N_drewN | apply Kd.N_drew)); exact HO234.out) (by first | exact Kd.N_base ho0 | exact Kd.S_base ho0) hb); have n6_ := Aside0.mk (Kd.N_elder' (by (with_reducible repeat (first | apply Kd.N_alloc | apply Kd.N_drewN | apply Kd.N_drew)); exact HO238.out) (by first | exact Kd.N_base ho0 | exact Kd.S_base ho0) hb); have n7_ := Aside0.mk (Kd.N_lower (Kd.N_mono (ok' := fun k_ => some k_ ≠ (.slice Ao29 t211.length co29 : Value).ownBlock ∧ some k_ ≠ (v217 : Value).ownBlock ∧ some k_ ≠ (.slice Ao33 y219.length co33 : Value).ownBlock ∧ some k_ ≠ (v224 : Value).ownBlock ∧ some k_ ≠ (.slice Ao43 y232.length co43 : Value).ownBlock ∧ some k_ ≠ (v237 : Value).ownBlock) (Kd.S_N (Kd.S_bound ho0)) (fun k_ hk_ => ⟨(Kd.fresh' (Kd.R_lt (by (with_reducible repeat (first | apply Kd.R_alloc | apply Kd.R_drewN | apply Kd.R_drew)); exact HO213.out)) k_ hk_.2.1), (Kd.fresh' (Kd.R_lt (by (with_reducible repeat (first | apply Kd.R_alloc | apply Kd.R_drewN | apply Kd.R_drew)); exact HO218.out)) k_ hk_.2.1), (Kd.fresh' (Kd.R_lt (by (with_reducible repeat (first | apply Kd.R_alloc | apply Kd.R_drewN | apply Kd.R_drew)); exact HO221.out)) k_ hk_.2.1), (Kd.fresh' (Kd.R_lt (by (with_reducible repeat (first | apply Kd.R_alloc | apply Kd.R_drewN | apply Kd.R_drew)); exact HO225.out)) k_ hk_.2.1), (Kd.fresh' (Kd.N_lt (by (with_reducible repeat (first | apply Kd.N_alloc | apply Kd.N_drewN | apply Kd.N_drew)); exact HO234.out)) k_ hk_.2.1), (Kd.fresh' (Kd.N_lt (by (with_reducible repeat (first | apply Kd.N_alloc | apply Kd.N_drewN | apply Kd.N_drew)); exact HO238.out)) k_ hk_.2.1)⟩)) (below_size (by repeat (first | (with_reducible first | exact HB.out | apply below_alloc | apply pw_below_drewN | apply below_drew1) | exact HB.out)))); have n8_ := Aside0.mk (below_step (by repeat (first | (with_reducible first | exact HB.out | apply below_alloc | apply pw_below_drewN | apply below_drew1) | exact HB.out)) hb); clear HO210; clear HO213; clear HO218; clear HO221; clear HO225; clear HO234; clear HO238; clear HB; have HO210 := n0_; have HO213 := n1_; have HO218 := n2_; have HO221 := n3_; have HO225 := n4_; have HO234 := n5_; have HO238 := n6_; have HO242 := n7_; have HB := n8_; clear n0_ n1_ n2_ n3_ n4_ n5_ n6_ n7_ n8_; (try clear hb); (try clear hb2); (try clear hk); (try clear hi); (try clear ho0); obtain ⟨Ao46, co46, eo46⟩ := Kd.N_slice HO238.out; subst eo46) | ((with_reducible refine gate_dst (N := 11) rfl ?_); refine box_event ?hg (N := 11) ?hd (cs := #[.int .i64 0, .int .i64 0, .int .i64 0, .int .i64 0]) (t := 24) ?hr ?_; (case hd => rfl); (case hg => rfl); (case hr => first | (go_simp; done) | (go_simp; rfl)); intro gb243 hg w47 hbox hb; have n0_ := Aside0.mk (Kd.V_below (Kd.V_elderB (by (with_reducible repeat (first | apply Kd.V_alloc | apply Kd.V_drewN | apply Kd.V_drew)); exact HO210.out) gb243 (Nat.le_of_eq hg.symm)) hb); have n1_ := Aside0.mk (Kd.R_below (by (with_reducible repeat (first | apply Kd.R_alloc | apply Kd.R_drewN | apply Kd.R_drew)); exact HO213.out) hb); have n2_ := Aside0.mk (Kd.R_below (by (with_reducible repeat (first | apply Kd.R_alloc | apply Kd.R_drewN | apply Kd.R_drew)); exact HO218.out) hb); have n3_ := Aside0.mk (Kd.R_below (by (with_reducible repeat (first | apply Kd.R_alloc | apply Kd.R_drewN | apply Kd.R_drew)); exact HO221.out) hb); have n4_ := Aside0.mk (Kd.R_below (by (with_reducible repeat (first | apply Kd.R_alloc | apply Kd.R_drewN | apply Kd.R_drew)); exact HO225.out) hb); have n5_ := Aside0.mk (Kd.N_below (Kd.N_elderB (by (with_reducible repeat (first | apply Kd.N_alloc | apply Kd.N_drewN | apply Kd.N_drew)); exact HO234.out) gb243 (Nat.le_of_eq hg.symm)) hb); have n6_ := Aside0.mk (Kd.N_below (Kd.N_elderB (by (with_reducible repeat (first | apply Kd.N_alloc | apply Kd.N_drewN | apply Kd.N_drew)); exact HO238.out) gb243 (Nat.le_of_eq hg.symm)) hb); have n7_ := Aside0.mk (Kd.N_below (Kd.N_elderB (by (with_reducible repeat (first | apply Kd.N_alloc | apply Kd.N_drewN | apply Kd.N_drew)); exact HO242.out) gb243 (Nat.le_of_eq hg.symm)) hb); have n8_ := Aside0.mk (below_step (by repeat (first | (with_reducible first | exact HB.out | apply below_alloc | apply pw_below_drewN | apply below_drew1) | exact HB.out)) hb); have n9_ := Aside0.mk (hbox); have n10_ := Aside0.mk ((by rw [hg]; exact (below_size (by repeat (first | (with_reducible first | exact HB.out | apply below_alloc | apply pw_below_drewN | apply below_drew1) | exact HB.out))) : w.heap.size ≤ gb243)); have n11_ := Aside0.mk ((by rw [hg]; exact (below_size (by repeat (first | (with_reducible first | exact HB.out | apply below_alloc | apply pw_below_drewN | apply below_drew1) | exact HB.out))) : w.heap.size ≤ gb243)); clear HO210; clear HO213; clear HO218; clear HO221; clear HO225; clear HO234; clear HO238; clear HO242; clear HB; have HO210 := n0_; have HO213 := n1_; have HO218 := n2_; have HO221 := n3_; have HO225 := n4_; have HO234 := n5_; have HO238 := n6_; have HO242 := n7_; have HB := n8_; have BK243 := n9_; have GW243 := n10_; have GE243 := n11_; clear n0_ n1_ n2_ n3_ n4_ n5_ n6_ n7_ n8_ n9_ n10_ n11_; clear hb hbox hg; have hcz48_0 : w47.cell? ⟨gb243, 0, none⟩ = some (.int .i64 0) := (blk_cell BK243.out 0).trans rfl; have hcz48_1 : w47.cell? ⟨gb243, 1, none⟩ = some (.int .i64 0) := (blk_cell BK243.out 1).trans rfl; have hcz48_2 : w47.cell? ⟨gb243, 2, none⟩ = some (.int .i64 0) := (blk_cell BK243.out 2).trans rfl; have hcz48_3 : w47.cell? ⟨gb243, 3, none⟩ = some (.int .i64 0) := (blk_cell BK243.out 3).trans rfl; have hfz48_0 := blk_frozen BK243.out 0; have hfz48_1 := blk_frozen BK243.out 1; have hfz48_2 := blk_frozen BK243.out 2; have hfz48_3 := blk_frozen BK243.out 3) | ((with_reducible refine gate_store (t := 24) (p := 11) rfl ?_); refine store_event (t := 24) (p := 11) (v := ?vo_w49) (w1 := ((((w47.setCell ⟨gb243, 0, none⟩ (.int .i64 2)).setCell ⟨gb243, 1, none⟩ (.int .i64 1)).setCell ⟨gb243, 2, none⟩ (.int .i64 5)).setCell ⟨gb243, 3, none⟩ (.int .i64 4))) ?hg ?ho ?hn ?hr ?_; (case ho => rfl); (case hg => rfl); (case hn => rfl); (case hr => first | (go_simp; done) | (go_simp; rfl)); intro w49 hw; have n0_ : Aside0 (Kd.V (Kd.int .u8) 5 w49 w.heap.size (fun k_ => some k_ ≠ (.slice Ao29 t211.length co29 : Value).ownBlock ∧ some k_ ≠ (v217 : Value).ownBlock ∧ some k_ ≠ (.slice Ao33 y219.length co33 : Value).ownBlock ∧ some k_ ≠ (v224 : Value).ownBlock ∧ some k_ ≠ (.slice Ao43 y232.length co43 : Value).ownBlock ∧ some k_ ≠ (.slice Ao46 t235.length co46 : Value).ownBlock ∧ some k_ ≠ (v241 : Value).ownBlock ∧ k_ ≠ gb243) (.slice Ao27 y208.length co27) y208) := ⟨(by rw [hw]; exact (by (with_reducible repeat (first | apply Kd.V_alloc | apply Kd.V_drewN | apply Kd.V_drew)); exact Kd.V_mono (Kd.V_far (p := ⟨gb243, 3, none⟩) (Kd.V_far (p := ⟨gb243, 2, none⟩) (Kd.V_far (p := ⟨gb243, 1, none⟩) (Kd.V_far (p := ⟨gb243, 0, none⟩) (Kd.V_mono HO210.out (fun k_ hk => (⟨hk, hk.2⟩ : _ ∧ k_ ≠ gb243))) (fun _ hk => hk.2) (.int .i64 2)) (fun _ hk => hk.2) (.int .i64 1)) (fun _ hk => hk.2) (.int .i64 5)) (fun _ hk => hk.2) (.int .i64 4)) (fun _ hk => ⟨hk.1.1.1.1.1.1.1.1.1.1.2, ⟨hk.1.1.1.1.1.1.1.1.1.2, ⟨hk.1.1.1.1.1.1.1.1.2, ⟨hk.1.1.1.1.1.1.1.2, ⟨hk.1.1.1.1.2, ⟨hk.1.1.1.2, ⟨hk.1.1.2, hk.1.2⟩⟩⟩⟩⟩⟩⟩)))⟩; have n1_ : Aside0 (Kd.R (Kd.int .u8) 5 w49 w.heap.size (fun k_ => some k_ ≠ (v217 : Value).ownBlock ∧ some k_ ≠ (.slice Ao33 y219.length co33 : Value).ownBlock ∧ some k_ ≠ (v224 : Value).ownBlock) (.slice Ao29 t211.length co29) t211) := ⟨(by rw [hw]; exact (by (with_reducible repeat (first | apply Kd.R_alloc | apply Kd.R_drewN | apply Kd.R_drew)); exact Kd.R_mono (Kd.R_far (p := ⟨gb243, 3, none⟩) (Kd.R_far (p := ⟨gb243, 2, none⟩) (Kd.R_far (p := ⟨gb243, 1, none⟩) (Kd.R_far (p := ⟨gb243, 0, none⟩) (Kd.R_types HO213.out BK243.out (by decide)) (fun _ hk => hk.2) (.int .i64 2)) (fun _ hk => hk.2) (.int .i64 1)) (fun _ hk => hk.2) (.int .i64 5)) (fun _ hk => hk.2) (.int .i64 4)) (fun _ hk => ⟨hk.1.1.1.1.1.2, ⟨hk.1.1.1.1.2, hk.1.1.1.2⟩⟩)))⟩; have n2_ : Aside0 (Kd.R (Kd.int .u8) 5 w49 w.heap.size (fun k_ => some k_ ≠ (.slice Ao29 t211.length co29 : Value).ownBlock ∧ some k_ ≠ (.slice Ao33 y219.length co33 : Value).ownBlock ∧ some k_ ≠ (v224 : Value).ownBlock) v217 t215) := ⟨(by rw [hw]; exact (by (with_reducible repeat (first | apply Kd.R_alloc | apply Kd.R_drewN | apply Kd.R_drew)); exact Kd.R_mono (Kd.R_far (p := ⟨gb243, 3, none⟩) (Kd.R_far (p := ⟨gb243, 2, none⟩) (Kd.R_far (p := ⟨gb243, 1, none⟩) (Kd.R_far (p := ⟨gb243, 0, none⟩) (Kd.R_types HO218.out BK243.out (by decide)) (fun _ hk => hk.2) (.int .i64 2)) (fun _ hk => hk.2) (.int .i64 1)) (fun _ hk => hk.2) (.int .i64 5)) (fun _ hk => hk.2) (.int .i64 4)) (fun _ hk => ⟨hk.1.1.1.1.1.2, ⟨hk.1.1.1.1.2, hk.1.1.1.2⟩⟩)))⟩; have n3_ : Aside0 (Kd.R (Kd.int .u8) 5 w49 w.heap.size (fun k_ => some k_ ≠ (.slice Ao29 t211.length co29 : Value).ownBlock ∧ some k_ ≠ (v217 : Value).ownBlock ∧ some k_ ≠ (v224 : Value).ownBlock) (.slice Ao33 y219.length co33) y219) := ⟨(by rw [hw]; exact (by (with_reducible repeat (first | apply Kd.R_alloc | apply Kd.R_drewN | apply Kd.R_drew)); exact Kd.R_mono (Kd.R_far (p := ⟨gb243, 3, none⟩) (Kd.R_far (p := ⟨gb243, 2, none⟩) (Kd.R_far (p := ⟨gb243, 1, none⟩) (Kd.R_far (p := ⟨gb243, 0, none⟩) (Kd.R_types HO221.out BK243.out (by decide)) (fun _ hk => hk.2) (.int .i64 2)) (fun _ hk => hk.2) (.int .i64 1)) (fun _ hk => hk.2) (.int .i64 5)) (fun _ hk => hk.2) (.int .i64 4)) (fun _ hk => ⟨hk.1.1.1.1.1.2, ⟨hk.1.1.1.1.2, hk.1.1.1.2⟩⟩)))⟩; have n4_ : Aside0 (Kd.R (Kd.int .u8) 5 w49 w.heap.size (fun k_ => some k_ ≠ (.slice Ao29 t211.length co29 : Value).ownBlock ∧ some k_ ≠ (v217 : Value).ownBlock ∧ some k_ ≠ (.slice Ao33 y219.length co33 : Value).ownBlock) v224 t222) := ⟨(by rw [hw]; exact (by (with_reducible repeat (first | apply Kd.R_alloc | apply Kd.R_drewN | apply Kd.R_drew)); exact Kd.R_mono (Kd.R_far (p := ⟨gb243, 3, none⟩) (Kd.R_far (p := ⟨gb243, 2, none⟩) (Kd.R_far (p := ⟨gb243, 1, none⟩) (Kd.R_far (p := ⟨gb243, 0, none⟩) (Kd.R_types HO225.out BK243.out (by decide)) (fun _ hk => hk.2) (.int .i64 2)) (fun _ hk => hk.2) (.int .i64 1)) (fun _ hk => hk.2) (.int .i64 5)) (fun _ hk => hk.2) (.int .i64 4)) (fun _ hk => ⟨hk.1.1.1.1.1.2, ⟨hk.1.1.1.1.2, hk.1.1.1.2⟩⟩)))⟩; have n5_ : Aside0 (Kd.N (Kd.slice 5 (Kd.int .u8)) 22 w49 w.heap.size (fun k_ => some k_ ≠ (.slice Ao29 t211.length co29 : Value).ownBlock ∧ some k_ ≠ (v217 : Value).ownBlock ∧ some k_ ≠ (.slice Ao33 y219.length co33 : Value).ownBlock ∧ some k_ ≠ (v224 : Value).ownBlock ∧ some k_ ≠ (.slice Ao46 t235.length co46 : Value).ownBlock ∧ some k_ ≠ (v241 : Value).ownBlock ∧ k_ ≠ gb243) (.slice Ao43 y232.length co43) y232) := ⟨(by rw [hw]; exact (by (with_reducible repeat (first | apply Kd.N_alloc | apply Kd.N_drewN | apply Kd.N_drew)); exact Kd.N_mono (Kd.N_far (p := ⟨gb243, 3, none⟩) (Kd.N_far (p := ⟨gb243, 2, none⟩) (Kd.N_far (p := ⟨gb243, 1, none⟩) (Kd.N_far (p := ⟨gb243, 0, none⟩) (Kd.N_mono HO234.out (fun k_ hk => (⟨hk, hk.2⟩ : _ ∧ k_ ≠ gb243))) (fun _ hk => hk.2) (.int .i64 2)) (fun _ hk => hk.2) (.int .i64 1)) (fun _ hk => hk.2) (.int .i64 5)) (fun _ hk => hk.2) (.int .i64 4)) (fun _ hk => ⟨hk.1.1.1.1.1, ⟨hk.1.1.1.1.2.1, ⟨hk.1.1.1.1.2.2.1, ⟨hk.1.1.1.1.2.2.2, ⟨hk.1.1.1.2, ⟨hk.1.1.2, hk.1.2⟩⟩⟩⟩⟩⟩)))⟩; have n6_ : Aside0 (Kd.N (Kd.slice 5 (Kd.int .u8)) 22 w49 w.heap.size (fun k_ => some k_ ≠ (.slice Ao29 t211.length co29 : Value).ownBlock ∧ some k_ ≠ (v217 : Value).ownBlock ∧ some k_ ≠ (.slice Ao33 y219.length co33 : Value).ownBlock ∧ some k_ ≠ (v224 : Value).ownBlock ∧ some k_ ≠ (.slice Ao43 y232.length co43 : Value).ownBlock ∧ some k_ ≠ (v241 : Value).ownBlock ∧ k_ ≠ gb243) (.slice Ao46 t235.length co46) t235) := ⟨(by rw [hw]; exact (by (with_reducible repeat (first | apply Kd.N_alloc | apply Kd.N_drewN | apply Kd.N_drew)); exact Kd.N_mono (Kd.N_far (p := ⟨gb243, 3, none⟩) (Kd.N_far (p := ⟨gb243, 2, none⟩) (Kd.N_far (p := ⟨gb243, 1, none⟩) (Kd.N_far (p := ⟨gb243, 0, none⟩) (Kd.N_mono HO238.out (fun k_ hk => (⟨hk, hk.2⟩ : _ ∧ k_ ≠ gb243))) (fun _ hk => hk.2) (.int .i64 2)) (fun _ hk => hk.2) (.int .i64 1)) (fun _ hk => hk.2) (.int .i64 5)) (fun _ hk => hk.2) (.int .i64 4)) (fun _ hk => ⟨hk.1.1.1.1, ⟨hk.1.1.1.2.1, ⟨hk.1.1.1.2.2.1, ⟨hk.1.1.1.2.2.2.1, ⟨hk.1.1.1.2.2.2.2, ⟨hk.1.1.2, hk.1.2⟩⟩⟩⟩⟩⟩)))⟩; have n7_ : Aside0 (Kd.N (Kd.slice 5 (Kd.int .u8)) 22 w49 w.heap.size (fun k_ => some k_ ≠ (.slice Ao29 t211.length co29 : Value).ownBlock ∧ some k_ ≠ (v217 : Value).ownBlock ∧ some k_ ≠ (.slice Ao33 y219.length co33 : Value).ownBlock ∧ some k_ ≠ (v224 : Value).ownBlock ∧ some k_ ≠ (.slice Ao43 y232.length co43 : Value).ownBlock ∧ some k_ ≠ (.slice Ao46 t235.length co46 : Value).ownBlock ∧ k_ ≠ gb243) v241 t239) := ⟨(by rw [hw]; exact (by (with_reducible repeat (first | apply Kd.N_alloc | apply Kd.N_drewN | apply Kd.N_drew)); exact Kd.N_mono (Kd.N_far (p := ⟨gb243, 3, none⟩) (Kd.N_far (p := ⟨gb243, 2, none⟩) (Kd.N_far (p := ⟨gb243, 1, none⟩) (Kd.N_far (p := ⟨gb243, 0, none⟩) (Kd.N_mono HO242.out (fun k_ hk => (⟨hk, hk.2⟩ : _ ∧ k_ ≠ gb243))) (fun _ hk => hk.2) (.int .i64 2)) (fun _ hk => hk.2) (.int .i64 1)) (fun _ hk => hk.2) (.int .i64 5)) (fun _ hk => hk.2) (.int .i64 4)) (fun _ hk => ⟨hk.1.1.1, ⟨hk.1.1.2.1, ⟨hk.1.1.2.2.1, ⟨hk.1.1.2.2.2.1, ⟨hk.1.1.2.2.2.2.1, ⟨hk.1.1.2.2.2.2.2, hk.1.2⟩⟩⟩⟩⟩⟩)))⟩; have n8_ : Aside0 (w49.heap[gb243]? = some (.cells #[.int .i64 2, .int .i64 1, .int .i64 5, .int .i64 4] 24 (0, 0))) := ⟨(by rw [hw]; exact (by (with_reducible repeat (first | refine blk_drewN ?_ _ | refine blk_drew ?_ | refine blk_alloc ?_ _)); refine blk_put (cs := #[.int .i64 2, .int .i64 1, .int .i64 5, .int .i64 0]) ?_ 3 _ rfl; (with_reducible repeat (first | refine blk_drewN ?_ _ | refine blk_drew ?_ | refine blk_alloc ?_ _)); refine blk_put (cs := #[.int .i64 2, .int .i64 1, .int .i64 0, .int .i64 0]) ?_ 2 _ rfl; (with_reducible repeat (first | refine blk_drewN ?_ _ | refine blk_drew ?_ | refine blk_alloc ?_ _)); refine blk_put (cs := #[.int .i64 2, .int .i64 0, .int .i64 0, .int .i64 0]) ?_ 1 _ rfl; (with_reducible repeat (first | refine blk_drewN ?_ _ | refine blk_drew ?_ | refine blk_alloc ?_ _)); refine blk_put (cs := #[.int .i64 0, .int .i64 0, .int .i64 0, .int .i64 0]) ?_ 0 _ rfl; (with_reducible repeat (first | refine blk_drewN ?_ _ | refine blk_drew ?_ | refine blk_alloc ?_ _)); exact BK243.out))⟩; have n9_ : Aside0 (Below w.heap.size w w49) := ⟨(by rw [hw]; exact (by repeat (first | (with_reducible first | exact HB.out | apply below_alloc | apply pw_below_drewN | apply below_drew1 | refine below_set ?_ GE243.out) | exact HB.out)))⟩; clear hw; clear HO210; clear HO213; clear HO218; clear HO221; clear HO225; clear HO234; clear HO238; clear HO242; clear BK243; clear HB; have HO210 := n0_; have HO213 := n1_; have HO218 := n2_; have HO221 := n3_; have HO225 := n4_; have HO234 := n5_; have HO238 := n6_; have HO242 := n7_; have BK243 := n8_; have HB := n9_; clear n0_ n1_ n2_ n3_ n4_ n5_ n6_ n7_ n8_ n9_; have hcv50 := own_string (P := Try.prog) Try.underlying22 Try.underlying5 Try.underlying9 (Kd.own_of_R HO213.out); have hcv51 := own_string (P := Try.prog) Try.underlying22 Try.underlying5 Try.underlying9 (Kd.own_of_R HO218.out); have p244 : 0 ≤ (0 : Int) := (by omega); have q244 : 0 < (t235.length : Int) := of_decide_eq_true (by first | (with_reducible assumption) | assumption); obtain ⟨ad244, A244_0, c244_0, e244, hx244_0, hl244_0, hi244_0⟩ := at_L1 (Kd.N_reads' HO238.out).2.2 0 p244 q244; cases e244; obtain ⟨ce244, hce244, hMe244, hcc244⟩ := Kd.N_get HO238.out [] 0 p244 (by first | exact q244 | exact of_decide_eq_true (by first | (with_reducible assumption) | assumption) | (have e_ := (Kd.N_reads' HO238.out).1; omega)); obtain ⟨ua244_0, uc244_0, rfl, ul244_0, ge244_0⟩ := Kd.FK_slice_open hMe244; have hv244_0 := hcc244 0 _ rfl; rw [Nat.add_zero, show ((Kd.slice 5 (Kd.int .u8))).sz = 1 from rfl, Nat.mul_one] at hv244_0; replace hv244_0 := Option.some.inj (hv244_0.symm.trans hx244_0); injection hv244_0 with hva_ hvn_ hvc_; rw [hva_] at ge244_0; rw [hvc_] at ul244_0; have HL244_0 := Aside0.mk (show Kd.V (Kd.int .u8) 5 _ w.heap.size _ _ (rd_L1 t235 0) from Kd.V_mk ul244_0 ge244_0); clear hva_ hvn_ hvc_ ge244_0 ul244_0; clear hcc244 hce244; have qi244 : (0 < t235.length) = True := eq_true (by omega); (try rw [show ((0 : Int)).toNat = 0 from rfl] at hx244_0); (try rw [Addr.add_zero'] at hx244_0); have HR244_0 := Aside0.mk hi244_0; have HC244_0 := Aside0.mk hl244_0; clear hi244_0 hl244_0; replace p244 := eq_true p244; replace q244 := eq_true q244; have hcv52 := Kd.C_string (P := Try.prog) (A := A244_0) (c := c244_0) Try.underlying22 Try.underlying5 Try.underlying9 (by repeat (first | (with_reducible exact HR244_0.out) | (with_reducible refine Kd.C_alloc ?_ _) | (with_reducible refine Kd.C_drewN ?_ _) | (with_reducible refine Kd.C_drew ?_) | exact HR244_0.out)); have hcz53_0 : w49.cell? ⟨gb243, 0, none⟩ = some (.int .i64 2) := (blk_cell BK243.out 0).trans rfl; have hcz53_1 : w49.cell? ⟨gb243, 1, none⟩ = some (.int .i64 1) := (blk_cell BK243.out 1).trans rfl; have hcz53_2 : w49.cell? ⟨gb243, 2, none⟩ = some (.int .i64 5) := (blk_cell BK243.out 2).trans rfl; have hcz53_3 : w49.cell? ⟨gb243, 3, none⟩ = some (.int .i64 4) := (blk_cell BK243.out 3).trans rfl; have hfz53_0 := blk_frozen BK243.out 0; have hfz53_1 := blk_frozen BK243.out 1; have hfz53_2 := blk_frozen BK243.out 2; have hfz53_3 := blk_frozen BK243.out 3) | (go_at_call 14; (with_reducible refine (stripe_Right.calls 2 1 5 4 true _ A16.out).mono ?_); rintro e w54 ⟨rfl, hb⟩; have n0_ := Aside0.mk (Kd.V_below (by (with_reducible repeat (first | apply Kd.V_alloc | apply Kd.V_drewN | apply Kd.V_drew)); exact HO210.out) hb); have n1_ := Aside0.mk (Kd.R_below (by (with_reducible repeat (first | apply Kd.R_alloc | apply Kd.R_drewN | apply Kd.R_drew)); exact HO213.out) hb); have n2_ := Aside0.mk (Kd.R_below (by (with_reducible repeat (first | apply Kd.R_alloc | apply Kd.R_drewN | apply Kd.R_drew)); exact HO218.out) hb); have n3_ := Aside0.mk (Kd.R_below (by (with_reducible repeat (first | apply Kd.R_alloc | apply Kd.R_drewN | apply Kd.R_drew)); exact HO221.out) hb); have n4_ := Aside0.mk (Kd.R_below (by (with_reducible repeat (first | apply Kd.R_alloc | apply Kd.R_drewN | apply Kd.R_drew)); exact HO225.out) hb); have n5_ := Aside0.mk (Kd.N_below (by (with_reducible repeat (first | apply Kd.N_alloc | apply Kd.N_drewN | apply Kd.N_drew)); exact HO234.out) hb); have n6_ := Aside0.mk (Kd.N_below (by (with_reducible repeat (first | apply Kd.N_alloc | apply Kd.N_drewN | apply Kd.N_drew)); exact HO238.out) hb); have n7_ := Aside0.mk (Kd.N_below (by (with_reducible repeat (first | apply Kd.N_alloc | apply Kd.N_drewN | apply Kd.N_drew)); exact HO242.out) hb); have n8_ := Aside0.mk (Kd.V_below (by (with_reducible repeat (first | apply Kd.V_alloc | apply Kd.V_drewN | apply Kd.V_drew)); exact HL244_0.out) hb); have n9_ := Aside0.mk (blk_below (g := gb243) (o := .cells #[.int .i64 2, .int .i64 1, .int .i64 5, .int .i64 4] 24 (0, 0)) (by (with_reducible repeat (first | refine blk_drewN ?_ _ | refine blk_drew ?_ | refine blk_alloc ?_ _)); exact BK243.out) hb); have n10_ := Aside0.mk (Kd.C_below (by repeat (first | (with_reducible exact HR244_0.out) | (with_reducible refine Kd.C_alloc ?_ _) | (with_reducible refine Kd.C_drewN ?_ _) | (with_reducible refine Kd.C_drew ?_) | exact HR244_0.out)) hb); have n11_ := Aside0.mk (below_step (by repeat (first | (with_reducible first | exact HB.out | apply below_alloc | apply pw_below_drewN | apply below_drew1 | refine below_set ?_ GE243.out) | exact HB.out)) hb); clear HO210; clear HO213; clear HO218; clear HO221; clear HO225; clear HO234; clear HO238; clear HO242; clear HL244_0; clear BK243; clear HR244_0; clear HB; have HO210 := n0_; have HO213 := n1_; have HO218 := n2_; have HO221 := n3_; have HO225 := n4_; have HO234 := n5_; have HO238 := n6_; have HO242 := n7_; have HL244_0 := n8_; have BK243 := n9_; have HR244_0 := n10_; have HB := n11_; clear n0_ n1_ n2_ n3_ n4_ n5_ n6_ n7_ n8_ n9_ n10_ n11_; (try clear hb); (try clear hb2); (try clear hk); (try clear hi); have hcz55_0 : w54.cell? ⟨gb243, 0, none⟩ = some (.int .i64 2) := (blk_cell BK243.out 0).trans rfl; have hcz55_1 : w54.cell? ⟨gb243, 1, none⟩ = some (.int .i64 1) := (blk_cell BK243.out 1).trans rfl; have hcz55_2 : w54.cell? ⟨gb243, 2, none⟩ = some (.int .i64 5) := (blk_cell BK243.out 2).trans rfl; have hcz55_3 : w54.cell? ⟨gb243, 3, none⟩ = some (.int .i64 4) := (blk_cell BK243.out 3).trans rfl; have hfz55_0 := blk_frozen BK243.out 0; have hfz55_1 := blk_frozen BK243.out 1; have hfz55_2 := blk_frozen BK243.out 2; have hfz55_3 := blk_frozen BK243.out 3) | (go_at_call 15; (with_reducible refine (stripe_Long.calls 2 1 5 4 t246 _ A18.out).mono ?_); rintro e w56 ⟨rfl, hb⟩; have n0_ := Aside0.mk (Kd.V_below (by (with_reducible repeat (first | apply Kd.V_alloc | apply Kd.V_drewN | apply Kd.V_drew)); exact HO210.out) hb); have n1_ := Aside0.mk (Kd.R_below (by (with_reducible repeat (first | apply Kd.R_alloc | apply Kd.R_drewN | apply Kd.R_drew)); exact HO213.out) hb); have n2_ := Aside0.mk (Kd.R_below (by (with_reducible repeat (first | apply Kd.R_alloc | apply Kd.R_drewN | apply Kd.R_drew)); exact HO218.out) hb); have n3_ := Aside0.mk (Kd.R_below (by (with_reducible repeat (first | apply Kd.R_alloc | apply Kd.R_drewN | apply Kd.R_drew)); exact HO221.out) hb); have n4_ := Aside0.mk (Kd.R_below (by (with_reducible repeat (first | apply Kd.R_alloc | apply Kd.R_drewN | apply Kd.R_drew)); exact HO225.out) hb); have n5_ := Aside0.mk (Kd.N_below (by (with_reducible repeat (first | apply Kd.N_alloc | apply Kd.N_drewN | apply Kd.N_drew)); exact HO234.out) hb); have n6_ := Aside0.mk (Kd.N_below (by (with_reducible repeat (first | apply Kd.N_alloc | apply Kd.N_drewN | apply Kd.N_drew)); exact HO238.out) hb); have n7_ := Aside0.mk (Kd.N_below (by (with_reducible repeat (first | apply Kd.N_alloc | apply Kd.N_drewN | apply Kd.N_drew)); exact HO242.out) hb); have n8_ := Aside0.mk (Kd.V_below (by (with_reducible repeat (first | apply Kd.V_alloc | apply Kd.V_drewN | apply Kd.V_drew)); exact HL244_0.out) hb); have n9_ := Aside0.mk (blk_below (g := gb243) (o := .cells #[.int .i64 2, .int .i64 1, .int .i64 5, .int .i64 4] 24 (0, 0)) (by (with_reducible repeat (first | refine blk_drewN ?_ _ | refine blk_drew ?_ | refine blk_alloc ?_ _)); exact BK243.out) hb); have n10_ := Aside0.mk (Kd.C_below (by repeat (first | (with_reducible exact HR244_0.out) | (with_reducible refine Kd.C_alloc ?_ _) | (with_reducible refine Kd.C_drewN ?_ _) | (with_reducible refine Kd.C_drew ?_) | exact HR244_0.out)) hb); have n11_ := Aside0.mk (below_step (by repeat (first | (with_reducible first | exact HB.out | apply below_alloc | apply pw_below_drewN | apply below_drew1 | refine below_set ?_ GE243.out) | exact HB.out)) hb); clear HO210; clear HO213; clear HO218; clear HO221; clear HO225; clear HO234; clear HO238; clear HO242; clear HL244_0; clear BK243; clear HR244_0; clear HB; have HO210 := n0_; have HO213 := n1_; have HO218 := n2_; have HO221 := n3_; have HO225 := n4_; have HO234 := n5_; have HO238 := n6_; have HO242 := n7_; have HL244_0 := n8_; have BK243 := n9_; have HR244_0 := n10_; have HB := n11_; clear n0_ n1_ n2_ n3_ n4_ n5_ n6_ n7_ n8_ n9_ n10_ n11_; (try clear hb); (try clear hb2); (try clear hk); (try clear hi); have hcz57_0 : w56.cell? ⟨gb243, 0, none⟩ = some (.int .i64 2) := (blk_cell BK243.out 0).trans rfl; have hcz57_1 : w56.cell? ⟨gb243, 1, none⟩ = some (.int .i64 1) := (blk_cell BK243.out 1).trans rfl; have hcz57_2 : w56.cell? ⟨gb243, 2, none⟩ = some (.int .i64 5) := (blk_cell BK243.out 2).trans rfl; have hcz57_3 : w56.cell? ⟨gb243, 3, none⟩ = some (.int .i64 4) := (blk_cell BK243.out 3).trans rfl; have hfz57_0 := blk_frozen BK243.out 0; have hfz57_1 := blk_frozen BK243.out 1; have hfz57_2 := blk_frozen BK243.out 2; have hfz57_3 := blk_frozen BK243.out 3) | (go_at_call 16; (with_reducible refine (stripe_Blocks.calls 2 1 5 4 t247 _ A20.out).mono ?_); rintro e w58 ⟨rfl, hb⟩; have n0_ := Aside0.mk (Kd.V_below (by (with_reducible repeat (first | apply Kd.V_alloc | apply Kd.V_drewN | apply Kd.V_drew)); exact HO210.out) hb); have n1_ := Aside0.mk (Kd.R_below (by (with_reducible repeat (first | apply Kd.R_alloc | apply Kd.R_drewN | apply Kd.R_drew)); exact HO213.out) hb); have n2_ := Aside0.mk (Kd.R_below (by (with_reducible repeat (first | apply Kd.R_alloc | apply Kd.R_drewN | apply Kd.R_drew)); exact HO218.out) hb); have n3_ := Aside0.mk (Kd.R_below (by (with_reducible repeat (first | apply Kd.R_alloc | apply Kd.R_drewN | apply Kd.R_drew)); exact HO221.out) hb); have n4_ := Aside0.mk (Kd.R_below (by (with_reducible repeat (first | apply Kd.R_alloc | apply Kd.R_drewN | apply Kd.R_drew)); exact HO225.out) hb); have n5_ := Aside0.mk (Kd.N_below (by (with_reducible repeat (first | apply Kd.N_alloc | apply Kd.N_drewN | apply Kd.N_drew)); exact HO234.out) hb); have n6_ := Aside0.mk (Kd.N_below (by (with_reducible repeat (first | apply Kd.N_alloc | apply Kd.N_drewN | apply Kd.N_drew)); exact HO238.out) hb); have n7_ := Aside0.mk (Kd.N_below (by (with_reducible repeat (first | apply Kd.N_alloc | apply Kd.N_drewN | apply Kd.N_drew)); exact HO242.out) hb); have n8_ := Aside0.mk (Kd.V_below (by (with_reducible repeat (first | apply Kd.V_alloc | apply Kd.V_drewN | apply Kd.V_drew)); exact HL244_0.out) hb); have n9_ := Aside0.mk (blk_below (g := gb243) (o := .cells #[.int .i64 2, .int .i64 1, .int .i64 5, .int .i64 4] 24 (0, 0)) (by (with_reducible repeat (first | refine blk_drewN ?_ _ | refine blk_drew ?_ | refine blk_alloc ?_ _)); exact BK243.out) hb); have n10_ := Aside0.mk (Kd.C_below (by repeat (first | (with_reducible exact HR244_0.out) | (with_reducible refine Kd.C_alloc ?_ _) | (with_reducible refine Kd.C_drewN ?_ _) | (with_reducible refine Kd.C_drew ?_) | exact HR244_0.out)) hb); have n11_ := Aside0.mk (below_step (by repeat (first | (with_reducible first | exact HB.out | apply below_alloc | apply pw_below_drewN | apply below_drew1 | refine below_set ?_ GE243.out) | exact HB.out)) hb); clear HO210; clear HO213; clear HO218; clear HO221; clear HO225; clear HO234; clear HO238; clear HO242; clear HL244_0; clear BK243; clear HR244_0; clear HB; have HO210 := n0_; have HO213 := n1_; have HO218 := n2_; have HO221 := n3_; have HO225 := n4_; have HO234 := n5_; have HO238 := n6_; have HO242 := n7_; have HL244_0 := n8_; have BK243 := n9_; have HR244_0 := n10_; have HB := n11_; clear n0_ n1_ n2_ n3_ n4_ n5_ n6_ n7_ n8_ n9_ n10_ n11_; (try clear hb); (try clear hb2); (try clear hk); (try clear hi)) | (go_at_call 16; (with_reducible refine (stripe_Blocks.calls 0 0 0 0 t248 _ A22.out).mono ?_); rintro e w59 ⟨rfl, hb⟩; have n0_ := Aside0.mk (Kd.V_below (by (with_reducible repeat (first | apply Kd.V_alloc | apply Kd.V_drewN | apply Kd.V_drew)); exact HO210.out) hb); have n1_ := Aside0.mk (Kd.R_below (by (with_reducible repeat (first | apply Kd.R_alloc | apply Kd.R_drewN | apply Kd.R_drew)); exact HO213.out) hb); have n2_ := Aside0.mk (Kd.R_below (by (with_reducible repeat (first | apply Kd.R_alloc | apply Kd.R_drewN | apply Kd.R_drew)); exact HO218.out) hb); have n3_ := Aside0.mk (Kd.R_below (by (with_reducible repeat (first | apply Kd.R_alloc | apply Kd.R_drewN | apply Kd.R_drew)); exact HO221.out) hb); have n4_ := Aside0.mk (Kd.R_below (by (with_reducible repeat (first | apply Kd.R_alloc | apply Kd.R_drewN | apply Kd.R_drew)); exact HO225.out) hb); have n5_ := Aside0.mk (Kd.N_below (by (with_reducible repeat (first | apply Kd.N_alloc | apply Kd.N_drewN | apply Kd.N_drew)); exact HO234.out) hb); have n6_ := Aside0.mk (Kd.N_below (by (with_reducible repeat (first | apply Kd.N_alloc | apply Kd.N_drewN | apply Kd.N_drew)); exact HO238.out) hb); have n7_ := Aside0.mk (Kd.N_below (by (with_reducible repeat (first | apply Kd.N_alloc | apply Kd.N_drewN | apply Kd.N_drew)); exact HO242.out) hb); have n8_ := Aside0.mk (Kd.V_below (by (with_reducible repeat (first | apply Kd.V_alloc | apply Kd.V_drewN | apply Kd.V_drew)); exact HL244_0.out) hb); have n9_ := Aside0.mk (blk_below (g := gb243) (o := .cells #[.int .i64 2, .int .i64 1, .int .i64 5, .int .i64 4] 24 (0, 0)) (by (with_reducible repeat (first | refine blk_drewN ?_ _ | refine blk_drew ?_ | refine blk_alloc ?_ _)); exact BK243.out) hb); have n10_ := Aside0.mk (Kd.C_below (by repeat (first | (with_reducible exact HR244_0.out) | (with_reducible refine Kd.C_alloc ?_ _) | (with_reducible refine Kd.C_drewN ?_ _) | (with_reducible refine Kd.C_drew ?_) | exact HR244_0.out)) hb); have n11_ := Aside0.mk (below_step (by repeat (first | (with_reducible first | exact HB.out | apply below_alloc | apply pw_below_drewN | apply below_drew1 | refine below_set ?_ GE243.out) | exact HB.out)) hb); clear HO210; clear HO213; clear HO218; clear HO221; clear HO225; clear HO234; clear HO238; clear HO242; clear HL244_0; clear BK243; clear HR244_0; clear HB; have HO210 := n0_; have HO213 := n1_; have HO218 := n2_; have HO221 := n3_; have HO225 := n4_; have HO234 := n5_; have HO238 := n6_; have HO242 := n7_; have HL244_0 := n8_; have BK243 := n9_; have HR244_0 := n10_; have HB := n11_; clear n0_ n1_ n2_ n3_ n4_ n5_ n6_ n7_ n8_ n9_ n10_ n11_; (try clear hb); (try clear hb2); (try clear hk); (try clear hi)))
              go_ret
              exact ⟨by first | rfl | (simp [errW_none, errW_some] <;> rfl) | (simp [*, errW_none, errW_some] <;> rfl), by repeat (first | (with_reducible first | exact HB.out | apply below_alloc | apply pw_below_drewN | apply below_drew1 | refine below_set ?_ GE243.out) | exact HB.out)⟩
             ·rw [if_neg c21] at H
              exact absurd H (by simp)
            ·rw [if_neg c19] at H
             exact absurd H (by simp)
           ·replace c17 := Bool.eq_false_iff.mpr c17
            subst c17
            have H1 : (none) = some r := by rw [if_neg (show ¬ (false = true) by decide)] at H; exact H
            clear H
            have H := H1
            clear H1
            exact absurd H (by simp)
          ·rw [if_neg c15] at H
           exact absurd H (by simp)
         ·rw [if_neg c14] at H
          exact absurd H (by simp)
        ·rw [if_neg c13] at H
         exact absurd H (by simp)
       ·rw [if_neg c12] at H
        exact absurd H (by simp)
      ·rw [if_neg c11] at H
       exact absurd H (by simp)
     ·rw [if_neg c10] at H
      exact absurd H (by simp)
    ·rw [if_neg c9] at H
     exact absurd H (by simp)
   ·rw [if_neg c8] at H
    exact absurd H (by simp)
  ·rw [if_neg c7] at H
   exact absurd H (by simp)
 ·rw [if_neg c6] at H
  exact absurd H (by simp)
end Go.Proofs.Ytcdmgppjhdpgkaa.P
namespace Go.Proofs.Ytcdmgppjhdpgkaa.P
open Go.RowKit Go.Proofs.YtcdmgppjhdpgkaaW.PrintWords Go.Proofs.YtcdmgppjhdpgkaaW.PrintLast Go.Proofs.YtcdmgppjhdpgkaaW.PrintMore
attribute [local go_sem] max2_int min2_int max_two min_two max_three min_three max_four min_four
set_option linter.unusedVariables false
set_option linter.unusedSimpArgs false
def footlockerref01_Same.l0 : Nat → List Int → List Int → Int → Option (Bool)
 | 0, _, _, _ => none
 | k + 1, x0, x1, x5 => if x5 < (x0.length : Int) then (if 0 ≤ x5 then (if x5 < (x1.length : Int) then (if (rd x0 x5) = (rd x1 x5) then (footlockerref01_Same.l0 k x0 x1 (wrap64 (x5 + 1))) else (some false)) else (none)) else (none)) else (some true)
def footlockerref01_Same.f (k : Nat) (l0 : List Int) (l1 : List Int) : Option (Bool) := if (l0.length : Int) = (l1.length : Int) then (footlockerref01_Same.l0 k l0 l1 0) else (some false)
set_option maxHeartbeats 8000000 in
set_option maxRecDepth 100000 in
theorem footlockerref01_Same.calls (k : Nat) (A0 : Option Addr) (c0 : Nat) (l0 : List Int) (A1 : Option Addr) (c1 : Nat) (l1 : List Int) (r : Bool) (w : World) (hr0 : Kd.C (Kd.int .u8) w A0 l0.length l0) (hc0 : l0.length ≤ c0) (hr1 : Kd.C (Kd.int .u8) w A1 l1.length l1) (hc1 : l1.length ≤ c1) (h : footlockerref01_Same.f k l0 l1 = some r) :
 Calls Try.prog 12 #[.slice A0 l0.length c0, .slice A1 l1.length c1] w fun e w' => e = .returned (.bool r) ∧ Drawn0 w w' := by
 have HR0 := Aside0.mk hr0
 have HC0 := Aside0.mk hc0
 clear hr0 hc0
 have HR1 := Aside0.mk hr1
 have HC1 := Aside0.mk hc1
 clear hr1 hc1
 have H : (if (l0.length : Int) = (l1.length : Int) then (footlockerref01_Same.l0 k l0 l1 0) else (some false)) = some r := h
 clear h
 by_cases c3 : (l0.length : Int) = (l1.length : Int)
 ·rw [if_pos c3] at H
  have c3b0 : ((l0.length : Int) == (l1.length : Int)) = true := beq_iff_eq.mpr c3
  have c3b1 : ((l0.length : Int) != (l1.length : Int)) = false := bne_eq_false_iff_eq.mpr c3
  have c3b2 : (l0.length == l1.length) = true := by first | simpa using c3 | (simp at c3 ⊢; omega)
  clear c3
  have H' := Aside0.mk H
  clear H
  go_enter Try.func12, Try.ntmps12
  go_wp2
  repeat (go_quiet (fail); try go_wp2)
  go_loopg [5] k (fun kq v5 w' => ∃ (x5_1 : Int), v5 = .int .i64 x5_1 ∧ Aside0 (footlockerref01_Same.l0 kq l0 l1 x5_1 = some r) ∧ Aside0 (kq ≤ k) ∧ Drawn0 w w')
  case atStart => exact ⟨(0), (by first | rfl | (simp; done) | (simp [*]; done)), H', ⟨Nat.le_refl _⟩, by repeat (first | exact Drawn0.refl _ | apply Drawn0.step)⟩
  case round =>
   clear H'
   try clear c1
   try clear p2
   try clear c3
   try clear c3b0
   try clear c3b1
   try clear c3b2
   obtain ⟨x5_1, rfl, HA, HK1, ⟨m1, rfl⟩⟩ := hrel
   cases gk with
   | zero => exact absurd HA.out (by simp [footlockerref01_Same.l0])
   | succ k1 =>
    have H := HA.out
    clear HA
    simp only [footlockerref01_Same.l0] at H
    by_cases c4 : x5_1 < (l0.length : Int)
    ·rw [if_pos c4] at H
     have c4b0 : decide (x5_1 < (l0.length : Int)) = true := decide_eq_true c4
     clear c4
     by_cases c5 : 0 ≤ x5_1
     ·rw [if_pos c5] at H
      have c5b0 : decide (0 ≤ x5_1) = true := decide_eq_true c5
      clear c5
      by_cases c6 : x5_1 < (l1.length : Int)
      ·rw [if_pos c6] at H
       have c6b0 : decide (x5_1 < (l1.length : Int)) = true := decide_eq_true c6
       clear c6
       by_cases c7 : (rd l0 x5_1) = (rd l1 x5_1)
       ·rw [if_pos c7] at H
        have c7b0 : ((rd l0 x5_1) == (rd l1 x5_1)) = true := beq_iff_eq.mpr c7
        have c7b1 : ((rd l0 x5_1) != (rd l1 x5_1)) = false := bne_eq_false_iff_eq.mpr c7
        clear c7
        have H' := Aside0.mk H
        clear H
        have p275 : 0 ≤ (x5_1 : Int) := of_decide_eq_true (by first | (with_reducible assumption) | assumption)
        have q275 : x5_1 < (l0.length : Int) := of_decide_eq_true (by first | (with_reducible assumption) | assumption)
        obtain ⟨ad275, e275, hx275_0⟩ := Kd.at_int HR0.out x5_1 p275 q275
        cases e275
        replace p275 := eq_true p275
        replace q275 := eq_true q275
        have p276 : 0 ≤ (x5_1 : Int) := of_decide_eq_true (by first | (with_reducible assumption) | assumption)
        have q276 : x5_1 < (l1.length : Int) := of_decide_eq_true (by first | (with_reducible assumption) | assumption)
        obtain ⟨ad276, e276, hx276_0⟩ := Kd.at_int HR1.out x5_1 p276 q276
        cases e276
        replace p276 := eq_true p276
        replace q276 := eq_true q276
        go_wp2
        repeat (go_quiet (fail); try go_wp2)
        go_roundg k1
        case measure => have := HK1.out; omega
        case rel => exact ⟨(wrap64 (x5_1 + 1)), (by first | rfl | (simp; done) | (simp [*]; done)), H', ⟨by have := HK1.out; omega⟩, by repeat (first | exact Drawn0.refl _ | apply Drawn0.step)⟩
       ·rw [if_neg c7] at H
        have c7b0 : ((rd l0 x5_1) == (rd l1 x5_1)) = false := beq_eq_false_iff_ne.mpr c7
        have c7b1 : ((rd l0 x5_1) != (rd l1 x5_1)) = true := bne_iff_ne.mpr c7
        obtain rfl := Option.some.inj H
        have p275 : 0 ≤ (x5_1 : Int) := of_decide_eq_true (by first | (with_reducible assumption) | assumption)
        have q275 : x5_1 < (l0.length : Int) := of_decide_eq_true (by first | (with_reducible assumption) | assumption)
        obtain ⟨ad275, e275, hx275_0⟩ := Kd.at_int HR0.out x5_1 p275 q275
        cases e275
        replace p275 := eq_true p275
        replace q275 := eq_true q275
        have p276 : 0 ≤ (x5_1 : Int) := of_decide_eq_true (by first | (with_reducible assumption) | assumption)
        have q276 : x5_1 < (l1.length : Int) := of_decide_eq_true (by first | (with_reducible assumption) | assumption)
        obtain ⟨ad276, e276, hx276_0⟩ := Kd.at_int HR1.out x5_1 p276 q276
        cases e276
        replace p276 := eq_true p276
        replace q276 := eq_true q276
        go_wp2
        repeat (go_quiet (fail); try go_wp2)
        go_ret
        exact ⟨by first | rfl | (simp; done) | (simp [*]; done), by repeat (first | exact Drawn0.refl _ | apply Drawn0.step)⟩
      ·rw [if_neg c6] at H
       exact absurd H (by simp)
     ·rw [if_neg c5] at H
      exact absurd H (by simp)
    ·rw [if_neg c4] at H
     have c4b0 : decide (x5_1 < (l0.length : Int)) = false := decide_eq_false c4
     clear c4
     obtain rfl := Option.some.inj H
     go_wp2
     repeat (go_quiet (fail); try go_wp2)
     go_ret
     exact ⟨by first | rfl | (simp; done) | (simp [*]; done), by repeat (first | exact Drawn0.refl _ | apply Drawn0.step)⟩
 ·rw [if_neg c3] at H
  have c3b0 : ((l0.length : Int) == (l1.length : Int)) = false := beq_eq_false_iff_ne.mpr c3
  have c3b1 : ((l0.length : Int) != (l1.length : Int)) = true := bne_iff_ne.mpr c3
  have c3b2 : (l0.length == l1.length) = false := by first | simpa using c3 | (simp at c3 ⊢; omega)
  obtain rfl := Option.some.inj H
  go_enter Try.func12, Try.ntmps12
  go_wp2
  repeat (go_quiet (fail); try go_wp2)
  go_ret
  exact ⟨by first | rfl | (simp; done) | (simp [*]; done), by repeat (first | exact Drawn0.refl _ | apply Drawn0.step)⟩
end Go.Proofs.Ytcdmgppjhdpgkaa.P
namespace Go.Proofs.Ytcdmgppjhdpgkaa.P
open Go.RowKit Go.Proofs.YtcdmgppjhdpgkaaW.PrintWords Go.Proofs.YtcdmgppjhdpgkaaW.PrintLast Go.Proofs.YtcdmgppjhdpgkaaW.PrintMore
attribute [local go_sem] max2_int min2_int max_two min_two max_three min_three max_four min_four
set_option linter.unusedVariables false
set_option linter.unusedSimpArgs false
def systematic_may.f (l0 : List Int) (a1 : Int) : Option (Bool) := if a1 ≥ 1 then (if a1 ≤ (l0.length : Int) then (some (decide ((l0.length : Int) ≤ 255))) else (some false)) else (some false)
set_option maxHeartbeats 8000000 in
set_option maxRecDepth 100000 in
theorem systematic_may.calls (A0 : Option Addr) (c0 : Nat) (l0 : List Int) (a1 : Int) (r : Bool) (w : World) (hr0 : Kd.C (Kd.int .u8) w A0 l0.length l0) (hc0 : l0.length ≤ c0) (h : systematic_may.f l0 a1 = some r) :
 Calls Try.prog 38 #[.slice A0 l0.length c0, .int .i64 a1] w fun e w' => e = .returned (.bool r) ∧ Drawn0 w w' := by
 have HR0 := Aside0.mk hr0
 have HC0 := Aside0.mk hc0
 clear hr0 hc0
 have H : (if a1 ≥ 1 then (if a1 ≤ (l0.length : Int) then (some (decide ((l0.length : Int) ≤ 255))) else (some false)) else (some false)) = some r := h
 clear h
 by_cases c3 : a1 ≥ 1
 ·rw [if_pos c3] at H
  have c3b0 : decide (1 ≤ a1) = true := decide_eq_true c3
  clear c3
  by_cases c4 : a1 ≤ (l0.length : Int)
  ·rw [if_pos c4] at H
   have c4b0 : decide (a1 ≤ (l0.length : Int)) = true := decide_eq_true c4
   clear c4
   obtain rfl := Option.some.inj H
   go_enter Try.func38, Try.ntmps38
   go_wp2
   go_ret
   exact ⟨by first | rfl | (simp; done) | (simp [*]; done), by repeat (first | exact Drawn0.refl _ | apply Drawn0.step)⟩
  ·rw [if_neg c4] at H
   have c4b0 : decide (a1 ≤ (l0.length : Int)) = false := decide_eq_false c4
   clear c4
   obtain rfl := Option.some.inj H
   go_enter Try.func38, Try.ntmps38
   go_wp2
   go_ret
   exact ⟨by first | rfl | (simp; done) | (simp [*]; done), by repeat (first | exact Drawn0.refl _ | apply Drawn0.step)⟩
 ·rw [if_neg c3] at H
  have c3b0 : decide (1 ≤ a1) = false := decide_eq_false c3
  clear c3
  obtain rfl := Option.some.inj H
  go_enter Try.func38, Try.ntmps38
  go_wp2
  go_ret
  exact ⟨by first | rfl | (simp; done) | (simp [*]; done), by repeat (first | exact Drawn0.refl _ | apply Drawn0.step)⟩
def systematic_Is.f (k : Nat) (l0 : List Int) (a1 : Int) : Option (Bool) := (systematic_may.f l0 a1).bind fun t497 => (if t497 = true then ((systematic_places.f k (l0.length : Int)).bind fun t498 => ((poly_Through.f k t498 l0).bind fun bt501 => ((poly_Degree.f k bt501.1).bind fun t505 => (some (decide (t505 < a1)))))) else (some false))
set_option maxHeartbeats 8000000 in
set_option maxRecDepth 100000 in
theorem systematic_Is.calls (k : Nat) (A0 : Option Addr) (c0 : Nat) (l0 : List Int) (a1 : Int) (r : Bool) (w : World) (hr0 : Kd.C (Kd.int .u8) w A0 l0.length l0) (hc0 : l0.length ≤ c0) (h : systematic_Is.f k l0 a1 = some r) :
 Calls Try.prog 21 #[.slice A0 l0.length c0, .int .i64 a1] w fun e w' => e = .returned (.bool r) ∧ Below w.heap.size w w' := by
 have HR0 := Aside0.mk hr0
 have HC0 := Aside0.mk hc0
 clear hr0 hc0
 have HB := Aside0.mk (Below.refl w.heap.size w)
 have H : ((systematic_may.f l0 a1).bind fun t497 => (if t497 = true then ((systematic_places.f k (l0.length : Int)).bind fun t498 => ((poly_Through.f k t498 l0).bind fun bt501 => ((poly_Degree.f k bt501.1).bind fun t505 => (some (decide (t505 < a1)))))) else (some false))) = some r := h
 clear h
 replace H := Option.bind_eq_some_iff.mp H
 obtain ⟨t497, A30, H⟩ := H
 replace H : (if t497 = true then ((systematic_places.f k (l0.length : Int)).bind fun t498 => ((poly_Through.f k t498 l0).bind fun bt501 => ((poly_Degree.f k bt501.1).bind fun t505 => (some (decide (t505 < a1)))))) else (some false)) = some r := H
 have A3 := Aside0.mk A30
 clear A30
 by_cases c4 : t497 = true
 ·subst c4
  have H1 : ((systematic_places.f k (l0.length : Int)).bind fun t498 => ((poly_Through.f k t498 l0).bind fun bt501 => ((poly_Degree.f k bt501.1).bind fun t505 => (some (decide (t505 < a1)))))) = some r := by rw [if_pos rfl] at H; exact H
  clear H
  have H := H1
  clear H1
  replace H := Option.bind_eq_some_iff.mp H
  obtain ⟨t498, A50, H⟩ := H
  replace H : ((poly_Through.f k t498 l0).bind fun bt501 => ((poly_Degree.f k bt501.1).bind fun t505 => (some (decide (t505 < a1))))) = some r := H
  have A5 := Aside0.mk A50
  clear A50
  replace H := Option.bind_eq_some_iff.mp H
  obtain ⟨⟨t501, t502⟩, A60, H⟩ := H
  replace H : ((poly_Degree.f k t501).bind fun t505 => (some (decide (t505 < a1)))) = some r := H
  have A6 := Aside0.mk A60
  clear A60
  replace H := Option.bind_eq_some_iff.mp H
  obtain ⟨t505, A70, H⟩ := H
  replace H : (some (decide (t505 < a1))) = some r := H
  have A7 := Aside0.mk A70
  clear A70
  obtain rfl := Option.some.inj H
  go_enter Try.func21, Try.ntmps21
  go_wp2_with (first | ((with_reducible refine gate_callee (f := 38) rfl ?_); refine goesL_ (some 9) rfl rfl Try.func38 (by kernel_rfl) rfl #[.slice A0 l0.length c0, .int .i64 a1] rfl (by (try simp only [List.map_toArray, List.map_cons, List.map_nil]); first | done | rfl | (simp only [List.length_drop, List.length_take]; rfl)) ?_; (with_reducible refine (systematic_may.calls _ _ l0 a1 true _ ?side1 ?side2 A3.out).mono ?_); (case side1 => repeat (first | exact HR0.out | (with_reducible refine Kd.C_alloc ?_ _) | (with_reducible refine Kd.C_drewN ?_ _) | (with_reducible refine Kd.C_drew ?_))); (case side2 => exact HC0.out); rintro e w' ⟨rfl, ⟨nd, rfl⟩⟩; refine ⟨_, rfl, ?_⟩) | ((with_reducible refine gate_callee (f := 40) rfl ?_); refine goesL_ (some 14) rfl rfl Try.func40 (by kernel_rfl) rfl #[.int .i64 (l0.length : Int)] rfl (by (try simp only [List.map_toArray, List.map_cons, List.map_nil]); first | done | rfl | (simp only [List.length_drop, List.length_take]; rfl)) ?_; (with_reducible refine (systematic_places.calls k (l0.length : Int) t498 _ A5.out).mono ?_); rintro e w8 ⟨v499, rfl, ho0, hb⟩; refine ⟨_, rfl, ?_⟩; have n0_ := Aside0.mk (Kd.R_lower ho0 (below_size (by repeat (first | (with_reducible first | exact HB.out | apply below_alloc | apply pw_below_drewN | apply below_drew1) | exact HB.out)))); have n1_ := Aside0.mk (below_step (by repeat (first | (with_reducible first | exact HB.out | apply below_alloc | apply pw_below_drewN | apply below_drew1) | exact HB.out)) hb); clear HB; have HO500 := n0_; have HB := n1_; clear n0_ n1_; (try clear hb); (try clear hb2); (try clear hk); (try clear hi); (try clear ho0); obtain ⟨Ao9, co9, eo9⟩ := Kd.R_slice HO500.out; subst eo9) | ((with_reducible refine gate_callee (f := 39) rfl ?_); refine goesL_ (some 16) rfl rfl Try.func39 (by kernel_rfl) rfl #[.slice Ao9 t498.length co9, .slice A0 l0.length c0] rfl (by (try simp only [List.map_toArray, List.map_cons, List.map_nil]); first | done | rfl | (simp only [List.length_drop, List.length_take]; rfl)) ?_; (with_reducible refine (poly_Through.calls k _ _ t498 _ _ l0 t501 t502 _ ?side1 ?side2 ?side3 ?side4 A6.out).mono ?_); (case side1 => repeat (first | exact (Kd.R_reads' HO500.out).2.2 | (with_reducible refine Kd.C_alloc ?_ _) | (with_reducible refine Kd.C_drewN ?_ _) | (with_reducible refine Kd.C_drew ?_))); (case side2 => exact (Kd.R_reads' HO500.out).2.1); (case side3 => repeat (first | exact (Kd.C_below HR0.out HB.out) | (with_reducible refine Kd.C_alloc ?_ _) | (with_reducible refine Kd.C_drewN ?_ _) | (with_reducible refine Kd.C_drew ?_))); (case side4 => exact HC0.out); rintro e w10 ⟨v503, rfl, ho0, hb⟩; refine ⟨_, rfl, ?_⟩; have n0_ := Aside0.mk (Kd.R_elder' (by (with_reducible repeat (first | apply Kd.R_alloc | apply Kd.R_drewN | apply Kd.R_drew)); exact HO500.out) (Kd.R_base ho0) hb); have n1_ := Aside0.mk (Kd.R_lower (Kd.R_new' ho0 (Kd.R_lt (by (with_reducible repeat (first | apply Kd.R_alloc | apply Kd.R_drewN | apply Kd.R_drew)); exact HO500.out))) (below_size (by repeat (first | (with_reducible first | exact HB.out | apply below_alloc | apply pw_below_drewN | apply below_drew1) | exact HB.out)))); have n2_ := Aside0.mk (below_step (by repeat (first | (with_reducible first | exact HB.out | apply below_alloc | apply pw_below_drewN | apply below_drew1) | exact HB.out)) hb); clear HO500; clear HB; have HO500 := n0_; have HO504 := n1_; have HB := n2_; clear n0_ n1_ n2_; (try clear hb); (try clear hb2); (try clear hk); (try clear hi); (try clear ho0); obtain ⟨Ao11, co11, eo11⟩ := Kd.R_slice HO504.out; subst eo11) | ((with_reducible refine gate_callee (f := 41) rfl ?_); refine goesL_ (some 20) rfl rfl Try.func41 (by kernel_rfl) rfl #[.slice Ao11 t501.length co11] rfl (by (try simp only [List.map_toArray, List.map_cons, List.map_nil]); first | done | rfl | (simp only [List.length_drop, List.length_take]; rfl)) ?_; (with_reducible refine (poly_Degree.calls k _ _ t501 t505 _ ?side1 ?side2 A7.out).mono ?_); (case side1 => repeat (first | exact (Kd.R_reads' HO504.out).2.2 | (with_reducible refine Kd.C_alloc ?_ _) | (with_reducible refine Kd.C_drewN ?_ _) | (with_reducible refine Kd.C_drew ?_))); (case side2 => exact (Kd.R_reads' HO504.out).2.1); rintro e w' ⟨rfl, ⟨nd, rfl⟩⟩; refine ⟨_, rfl, ?_⟩))
  go_ret
  exact ⟨by first | rfl | (simp [errW_none, errW_some] <;> rfl) | (simp [*, errW_none, errW_some] <;> rfl), by repeat (first | (with_reducible first | exact HB.out | apply below_alloc | apply pw_below_drewN | apply below_drew1) | exact HB.out)⟩
 ·replace c4 := Bool.eq_false_iff.mpr c4
  subst c4
  have H1 : (some false) = some r := by rw [if_neg (show ¬ (false = true) by decide)] at H; exact H
  clear H
  have H := H1
  clear H1
  obtain rfl := Option.some.inj H
  go_enter Try.func21, Try.ntmps21
  go_wp2_with (first | ((with_reducible refine gate_callee (f := 38) rfl ?_); refine goesL_ (some 9) rfl rfl Try.func38 (by kernel_rfl) rfl #[.slice A0 l0.length c0, .int .i64 a1] rfl (by (try simp only [List.map_toArray, List.map_cons, List.map_nil]); first | done | rfl | (simp only [List.length_drop, List.length_take]; rfl)) ?_; (with_reducible refine (systematic_may.calls _ _ l0 a1 false _ ?side1 ?side2 A3.out).mono ?_); (case side1 => repeat (first | exact HR0.out | (with_reducible refine Kd.C_alloc ?_ _) | (with_reducible refine Kd.C_drewN ?_ _) | (with_reducible refine Kd.C_drew ?_))); (case side2 => exact HC0.out); rintro e w' ⟨rfl, ⟨nd, rfl⟩⟩; refine ⟨_, rfl, ?_⟩))
  go_ret
  exact ⟨by first | rfl | (simp [errW_none, errW_some] <;> rfl) | (simp [*, errW_none, errW_some] <;> rfl), by repeat (first | (with_reducible first | exact HB.out | apply below_alloc | apply pw_below_drewN | apply below_drew1) | exact HB.out)⟩
end Go.Proofs.Ytcdmgppjhdpgkaa.P
namespace Go.Proofs.Ytcdmgppjhdpgkaa.P
open Go.RowKit Go.Proofs.YtcdmgppjhdpgkaaW.PrintWords Go.Proofs.YtcdmgppjhdpgkaaW.PrintLast Go.Proofs.YtcdmgppjhdpgkaaW.PrintMore
attribute [local go_sem] max2_int min2_int max_two min_two max_three min_three max_four min_four
set_option linter.unusedVariables false
set_option linter.unusedSimpArgs false
mutual
def footlockerlaw23_StripeBack.j0 : Nat → List (List Int) → Int → Int → Bool → Option (Bool)
 | 0, _, _, _, _ => none
 | k + 1, x0, x1, x2, x42 => if x42 = true then (some true) else (footlockerlaw23_StripeBack.l0 k x0 x1 x2 (([] : List (List Int))) x0 (x0.length : Int) 0)
def footlockerlaw23_StripeBack.l0 : Nat → List (List Int) → Int → Int → List (List Int) → List (List Int) → Int → Int → Option (Bool)
 | 0, _, _, _, _, _, _, _ => none
 | k + 1, x0, x1, x2, x7, x44, x45, x46 => if x46 < x45 then (if 0 ≤ x46 then (if x46 < (x44.length : Int) then ((stripe_Column.f k (rd_L1 x44 x46) x1).bind fun bt511 => (if bt511.2 = 0 then ((stripe_Volume.f k bt511.1).bind fun bt515 => (if bt515.2 = 0 then ((footlockerref01_Same.f k bt515.1 (rd_L1 x44 x46)).bind fun t519 => (if t519 = true then (if (bt511.1.length : Int) = (wrap64 (x1 + 8)) then (if x7.length < 5864062014805 then (footlockerlaw23_StripeBack.l0 k x0 x1 x2 (x7 ++ [bt511.1]) x44 x45 (wrap64 (x46 + 1))) else (none)) else (some false)) else (some false))) else (some false))) else (some true))) else (none)) else (none)) else ((stripe_Parity.f k x7 x2).bind fun bt523 => (if bt523.2 = 0 then (footlockerlaw23_StripeBack.j2 k x0 x1 x7 bt523.1 ((bt523.1.length : Int) != x2)) else (footlockerlaw23_StripeBack.j2 k x0 x1 x7 bt523.1 true)))
def footlockerlaw23_StripeBack.j2 : Nat → List (List Int) → Int → List (List Int) → List (List Int) → Bool → Option (Bool)
 | 0, _, _, _, _, _ => none
 | k + 1, x0, x1, x7, x14, x96 => if x96 = true then (some false) else (if x7.length + x14.length < 5864062014805 then (footlockerlaw23_StripeBack.l1 k x0 (x7 ++ x14) (wrap64 (x1 + 8)) 0) else (none))
def footlockerlaw23_StripeBack.l1 : Nat → List (List Int) → List (List Int) → Int → Int → Option (Bool)
 | 0, _, _, _, _ => none
 | k + 1, x0, x16, x101, x102 => if x102 < x101 then (footlockerlaw23_StripeBack.l2 k x0 x16 x102 (([] : List Int)) x101 x102 x16 (x16.length : Int) 0) else (some true)
def footlockerlaw23_StripeBack.l2 : Nat → List (List Int) → List (List Int) → Int → List Int → Int → Int → List (List Int) → Int → Int → Option (Bool)
 | 0, _, _, _, _, _, _, _, _, _ => none
 | k + 1, x0, x16, x17, x18, x101, x102, x106, x107, x108 => if x108 < x107 then (if 0 ≤ x108 then (if x108 < (x106.length : Int) then (if x17 ≥ ((rd_L1 x106 x108).length : Int) then (some false) else (if 0 ≤ x17 then (if x17 < ((rd_L1 x106 x108).length : Int) then (if x18.length < 140737488355328 then (footlockerlaw23_StripeBack.l2 k x0 x16 x17 (x18 ++ [rd (rd_L1 x106 x108) x17]) x101 x102 x106 x107 (wrap64 (x108 + 1))) else (none)) else (none)) else (none))) else (none)) else (none)) else ((systematic_Is.f k x18 (x0.length : Int)).bind fun t538 => (if t538 = true then (footlockerlaw23_StripeBack.l1 k x0 x16 x101 (wrap64 (x102 + 1))) else (some false)))
end
def footlockerlaw23_StripeBack.f (k : Nat) (l0 : List (List Int)) (a1 : Int) (a2 : Int) : Option (Bool) := (footlockerlaw23_alive.f k).bind fun t506 => (if t506 = true then (if (l0.length : Int) = 0 then (footlockerlaw23_StripeBack.j0 k l0 a1 a2 true) else (if (l0.length : Int) > 8 then (footlockerlaw23_StripeBack.j0 k l0 a1 a2 true) else (if a1 > 40 then (footlockerlaw23_StripeBack.j0 k l0 a1 a2 true) else (if a2 < 0 then (footlockerlaw23_StripeBack.j0 k l0 a1 a2 true) else (footlockerlaw23_StripeBack.j0 k l0 a1 a2 (decide (a2 > 8))))))) else (some false))
set_option maxHeartbeats 8000000 in
set_option maxRecDepth 100000 in
theorem footlockerlaw23_StripeBack.calls (k : Nat) (A0 : Option Addr) (c0 : Nat) (l0 : List (List Int)) (a1 : Int) (a2 : Int) (r : Bool) (w : World) (hr0 : Kd.C (Kd.slice 5 (Kd.int .u8)) w A0 l0.length l0) (hc0 : l0.length ≤ c0) (h : footlockerlaw23_StripeBack.f k l0 a1 a2 = some r) :
 Calls Try.prog 6 #[.slice A0 l0.length c0, .int .i64 a1, .int .i64 a2] w fun e w' => e = .returned (.bool r) ∧ Below w.heap.size w w' := by
 have HR0 := Aside0.mk hr0
 have HC0 := Aside0.mk hc0
 clear hr0 hc0
 have HB := Aside0.mk (Below.refl w.heap.size w)
 have H : ((footlockerlaw23_alive.f k).bind fun t506 => (if t506 = true then (if (l0.length : Int) = 0 then (footlockerlaw23_StripeBack.j0 k l0 a1 a2 true) else (if (l0.length : Int) > 8 then (footlockerlaw23_StripeBack.j0 k l0 a1 a2 true) else (if a1 > 40 then (footlockerlaw23_StripeBack.j0 k l0 a1 a2 true) else (if a2 < 0 then (footlockerlaw23_StripeBack.j0 k l0 a1 a2 true) else (footlockerlaw23_StripeBack.j0 k l0 a1 a2 (decide (a2 > 8))))))) else (some false))) = some r := h
 clear h
 replace H := Option.bind_eq_some_iff.mp H
 obtain ⟨t506, A40, H⟩ := H
 replace H : (if t506 = true then (if (l0.length : Int) = 0 then (footlockerlaw23_StripeBack.j0 k l0 a1 a2 true) else (if (l0.length : Int) > 8 then (footlockerlaw23_StripeBack.j0 k l0 a1 a2 true) else (if a1 > 40 then (footlockerlaw23_StripeBack.j0 k l0 a1 a2 true) else (if a2 < 0 then (footlockerlaw23_StripeBack.j0 k l0 a1 a2 true) else (footlockerlaw23_StripeBack.j0 k l0 a1 a2 (decide (a2 > 8))))))) else (some false)) = some r := H
 have A4 := Aside0.mk A40
 clear A40
 by_cases c5 : t506 = true
 ·subst c5
  have H1 : (if (l0.length : Int) = 0 then (footlockerlaw23_StripeBack.j0 k l0 a1 a2 true) else (if (l0.length : Int) > 8 then (footlockerlaw23_StripeBack.j0 k l0 a1 a2 true) else (if a1 > 40 then (footlockerlaw23_StripeBack.j0 k l0 a1 a2 true) else (if a2 < 0 then (footlockerlaw23_StripeBack.j0 k l0 a1 a2 true) else (footlockerlaw23_StripeBack.j0 k l0 a1 a2 (decide (a2 > 8))))))) = some r := by rw [if_pos rfl] at H; exact H
  clear H
  have H := H1
  clear H1
  have HC6 := Aside0.mk H
  clear H
  go_enter Try.func6, Try.ntmps6
  go_upto_region 3 with (first | ((with_reducible refine gate_callee (f := 7) rfl ?_); refine goesL_ (some 21) rfl rfl Try.func7 (by kernel_rfl) rfl #[] rfl (by (try simp only [List.map_toArray, List.map_cons, List.map_nil]); first | done | rfl | (simp only [List.length_drop, List.length_take]; rfl)) ?_; (with_reducible refine (footlockerlaw23_alive.calls k  true _ A4.out).mono ?_); rintro e w7 ⟨rfl, hb⟩; refine ⟨_, rfl, ?_⟩; have n0_ := Aside0.mk (below_step (by repeat (first | (with_reducible first | exact HB.out | apply below_alloc | apply pw_below_drewN | apply below_drew1) | exact HB.out)) hb); clear HB; have HB := n0_; clear n0_; (try clear hb); (try clear hb2); (try clear hk); (try clear hi)))
  (try simp only [Act.put, List.setIfInBounds_toArray, List.set_cons_zero, List.set_cons_succ])
  go_cut [42] (fun v42 wc => ∃ (kq : Nat) (x42_5 : Bool), v42 = .bool x42_5 ∧ Aside0 (footlockerlaw23_StripeBack.j0 kq l0 a1 a2 x42_5 = some r) ∧ Aside0 (kq ≤ k) ∧ Aside0 (Below w.heap.size w wc))
  case first =>
   have H := HC6.out
   clear HC6
   by_cases c8 : (l0.length : Int) = 0
   ·rw [if_pos c8] at H
    have c8b0 : ((l0.length : Int) == 0) = true := beq_iff_eq.mpr c8
    have c8b1 : ((l0.length : Int) != 0) = false := bne_eq_false_iff_eq.mpr c8
    clear c8
    (first | rw [c8b0] | (simp only [i64_w, i32_w]; rw [c8b0]) | skip)
    have H' := Aside0.mk H
    clear H
    go_wp2
    go_meet
    case rel => exact ⟨_, (true), (by first | rfl | (simp; done) | (simp [*]; done)), H', ⟨by first | omega | exact Nat.le_refl _⟩, ⟨by repeat (first | (with_reducible first | exact HB.out | apply below_alloc | apply pw_below_drewN | apply below_drew1) | exact HB.out)⟩⟩
   ·rw [if_neg c8] at H
    have c8b0 : ((l0.length : Int) == 0) = false := beq_eq_false_iff_ne.mpr c8
    have c8b1 : ((l0.length : Int) != 0) = true := bne_iff_ne.mpr c8
    have c8b2 : ¬ (l0 = []) := fun h_ => c8 (by rw [h_]; rfl)
    (first | rw [c8b0] | (simp only [i64_w, i32_w]; rw [c8b0]) | skip)
    by_cases c9 : (l0.length : Int) > 8
    ·rw [if_pos c9] at H
     have c9b0 : decide (8 < (l0.length : Int)) = true := decide_eq_true c9
     have c9b1 : decide (8 < l0.length) = true := decide_eq_true (by omega)
     clear c9
     have H' := Aside0.mk H
     clear H
     go_wp2
     go_meet
     case rel => exact ⟨_, (true), (by first | rfl | (simp; done) | (simp [*]; done)), H', ⟨by first | omega | exact Nat.le_refl _⟩, ⟨by repeat (first | (with_reducible first | exact HB.out | apply below_alloc | apply pw_below_drewN | apply below_drew1) | exact HB.out)⟩⟩
    ·rw [if_neg c9] at H
     have c9b0 : decide (8 < (l0.length : Int)) = false := decide_eq_false c9
     have c9b1 : decide (8 < l0.length) = false := decide_eq_false (by omega)
     clear c9
     by_cases c10 : a1 > 40
     ·rw [if_pos c10] at H
      have c10b0 : decide (40 < a1) = true := decide_eq_true c10
      clear c10
      have H' := Aside0.mk H
      clear H
      go_wp2
      go_meet
      case rel => exact ⟨_, (true), (by first | rfl | (simp; done) | (simp [*]; done)), H', ⟨by first | omega | exact Nat.le_refl _⟩, ⟨by repeat (first | (with_reducible first | exact HB.out | apply below_alloc | apply pw_below_drewN | apply below_drew1) | exact HB.out)⟩⟩
     ·rw [if_neg c10] at H
      have c10b0 : decide (40 < a1) = false := decide_eq_false c10
      clear c10
      by_cases c11 : a2 < 0
      ·rw [if_pos c11] at H
       have c11b0 : decide (a2 < 0) = true := decide_eq_true c11
       clear c11
       have H' := Aside0.mk H
       clear H
       go_wp2
       go_meet
       case rel => exact ⟨_, (true), (by first | rfl | (simp; done) | (simp [*]; done)), H', ⟨by first | omega | exact Nat.le_refl _⟩, ⟨by repeat (first | (with_reducible first | exact HB.out | apply below_alloc | apply pw_below_drewN | apply below_drew1) | exact HB.out)⟩⟩
      ·rw [if_neg c11] at H
       have c11b0 : decide (a2 < 0) = false := decide_eq_false c11
       clear c11
       have H' := Aside0.mk H
       clear H
       go_wp2
       go_meet
       case rel => exact ⟨_, (decide (a2 > 8)), (by first | rfl | (simp; done) | (simp [*]; done)), H', ⟨by first | omega | exact Nat.le_refl _⟩, ⟨by repeat (first | (with_reducible first | exact HB.out | apply below_alloc | apply pw_below_drewN | apply below_drew1) | exact HB.out)⟩⟩
  case rest =>
   clear HC6
   try clear c1
   try clear p2
   try clear c5
   try clear c6
   try clear c7
   try clear c8
   try clear c8b0
   try clear c8b1
   try clear c8b2
   try clear c9
   try clear c9b0
   try clear c9b1
   try clear c10
   try clear c10b0
   try clear c11
   try clear c11b0
   obtain ⟨kq, x42_5, rfl, HA, HJ5, HB⟩ := hcut
   cases kq with
   | zero => exact absurd HA.out (by simp [footlockerlaw23_StripeBack.j0])
   | succ kj5 =>
    have H := HA.out
    clear HA
    simp only [footlockerlaw23_StripeBack.j0] at H
    by_cases c12 : x42_5 = true
    ·subst c12
     have H1 : (some true) = some r := by rw [if_pos rfl] at H; exact H
     clear H
     have H := H1
     clear H1
     obtain rfl := Option.some.inj H
     go_wp2
     go_ret
     exact ⟨by first | rfl | (simp [errW_none, errW_some] <;> rfl) | (simp [*, errW_none, errW_some] <;> rfl), by repeat (first | (with_reducible first | exact HB.out | apply below_alloc | apply pw_below_drewN | apply below_drew1) | exact HB.out)⟩
    ·replace c12 := Bool.eq_false_iff.mpr c12
     subst c12
     have H1 : (footlockerlaw23_StripeBack.l0 kj5 l0 a1 a2 (([] : List (List Int))) l0 (l0.length : Int) 0) = some r := by rw [if_neg (show ¬ (false = true) by decide)] at H; exact H
     clear H
     have H := H1
     clear H1
     obtain ⟨y507, hy507⟩ : ∃ y_ : List (List Int), y_ = (([] : List (List Int))) := ⟨_, rfl⟩
     replace H : (footlockerlaw23_StripeBack.l0 kj5 l0 a1 a2 y507 l0 (l0.length : Int) 0) = some r := by first | (rw [hy507]; with_reducible exact H) | (have H2_ := (Option.bind_some _ _).symm.trans H; rw [hy507]; with_reducible exact H2_) | (have H2_ := (Option.bind_some _ _).symm.trans H; with_reducible exact H2_) | with_reducible exact H | (rw [hy507]; exact H) | exact H
     have Ny507 := Aside0.mk hy507
     clear hy507
     have H' := Aside0.mk H
     clear H
     go_wp2_with (first | ((with_reducible refine gate_dst (N := 43) rfl ?_); (try (refine gate_guard (by rfl) ?_; dsimp only)); refine Kd.N_lit (Kd.slice 5 (Kd.int .u8)) _ 22 ?hg (N' := 43) ?hd (xs := ([] : List (List Int))) (inner := []) (ok := (fun _ => True)) (okp := (fun _ => True)) ?hr ?hp (fun _ hk => hk) ((show ∀ k_, wc.heap.size ≤ k_ → (fun _ => True) k_ from fun k_ hk => trivial) _ (Nat.le_refl _)) (Below.refl _ _) (Nat.le_refl _) (by simp) ?_; (case hd => rfl); (case hg => rfl); (case hr => first | (go_simp; done) | (go_simp; rfl)); (case hp => exact (Reps.none _ _)); intro v508 w13 ho14 hb hg_ hnew_; clear hg_ hnew_; (first | rw [← Ny507.out] at ho14 | (simp only [Int.reduceToNat] at ho14; rw [← Ny507.out] at ho14)); have n0_ := Aside0.mk (Kd.N_lower ho14 (below_size (by repeat (first | (with_reducible first | exact HB.out | apply below_alloc | apply pw_below_drewN | apply below_drew1) | exact HB.out)))); have n1_ := Aside0.mk (below_step (by repeat (first | (with_reducible first | exact HB.out | apply below_alloc | apply pw_below_drewN | apply below_drew1) | exact HB.out)) hb); clear HB; have HO509 := n0_; have HB := n1_; clear n0_ n1_; clear hb ho14))
     go_loopg [7, 46] kj5 (fun kq v7 v46 w' => ∃ (x7_2 : List (List Int)) (x46_2 : Int), v46 = .int .i64 x46_2 ∧ Aside0 (footlockerlaw23_StripeBack.l0 kq l0 a1 a2 x7_2 l0 (l0.length : Int) x46_2 = some r) ∧ Aside0 (kq ≤ kj5) ∧ Aside0 (Kd.N (Kd.slice 5 (Kd.int .u8)) 22 w' w.heap.size (fun _ => True) v7 x7_2) ∧ Aside0 (Below w.heap.size w w'))
     case atStart => exact ⟨(y507), (0), (by first | rfl | (simp; done) | (simp [*]; done)), H', ⟨Nat.le_refl _⟩, ⟨by (with_reducible repeat (first | apply Kd.N_alloc | apply Kd.N_drewN | apply Kd.N_drew)); exact HO509.out⟩, ⟨by repeat (first | (with_reducible first | exact HB.out | apply below_alloc | apply pw_below_drewN | apply below_drew1) | exact HB.out)⟩⟩
     case round =>
      clear H'
      try clear c1
      try clear p2
      try clear c5
      try clear c6
      try clear c7
      try clear c8
      try clear c8b0
      try clear c8b1
      try clear c8b2
      try clear c9
      try clear c9b0
      try clear c9b1
      try clear c10
      try clear c10b0
      try clear c11
      try clear c11b0
      try clear c12
      try clear p2
      obtain ⟨x7_2, x46_2, rfl, HA, HK2, HO_7, HB⟩ := hrel
      cases gk with
      | zero => exact absurd HA.out (by simp [footlockerlaw23_StripeBack.l0])
      | succ k2 =>
       have H := HA.out
       clear HA
       simp only [footlockerlaw23_StripeBack.l0] at H
       by_cases c15 : x46_2 < (l0.length : Int)
       ·rw [if_pos c15] at H
        have c15b0 : decide (x46_2 < (l0.length : Int)) = true := decide_eq_true c15
        clear c15
        by_cases c16 : 0 ≤ x46_2
        ·rw [if_pos c16] at H
         have c16b0 : decide (0 ≤ x46_2) = true := decide_eq_true c16
         clear c16
         by_cases c17 : x46_2 < (l0.length : Int)
         ·rw [if_pos c17] at H
          have c17b0 : decide (x46_2 < (l0.length : Int)) = true := decide_eq_true c17
          clear c17
          replace H := Option.bind_eq_some_iff.mp H
          obtain ⟨⟨t511, t514⟩, A180, H⟩ := H
          replace H : (if t514 = 0 then ((stripe_Volume.f k2 t511).bind fun bt515 => (if bt515.2 = 0 then ((footlockerref01_Same.f k2 bt515.1 (rd_L1 l0 x46_2)).bind fun t519 => (if t519 = true then (if (t511.length : Int) = (wrap64 (a1 + 8)) then (if x7_2.length < 5864062014805 then (footlockerlaw23_StripeBack.l0 k2 l0 a1 a2 (x7_2 ++ [t511]) l0 (l0.length : Int) (wrap64 (x46_2 + 1))) else (none)) else (some false)) else (some false))) else (some false))) else (some true)) = some r := H
          have A18 := Aside0.mk A180
          clear A180
          by_cases c19 : t514 = 0
          ·rw [if_pos c19] at H
           have c19b0 : (t514 == 0) = true := beq_iff_eq.mpr c19
           have c19b1 : (t514 != 0) = false := bne_eq_false_iff_eq.mpr c19
           clear c19
           replace H := Option.bind_eq_some_iff.mp H
           obtain ⟨⟨t515, t516⟩, A200, H⟩ := H
           replace H : (if t516 = 0 then ((footlockerref01_Same.f k2 t515 (rd_L1 l0 x46_2)).bind fun t519 => (if t519 = true then (if (t511.length : Int) = (wrap64 (a1 + 8)) then (if x7_2.length < 5864062014805 then (footlockerlaw23_StripeBack.l0 k2 l0 a1 a2 (x7_2 ++ [t511]) l0 (l0.length : Int) (wrap64 (x46_2 + 1))) else (none)) else (some false)) else (some false))) else (some false)) = some r := H
           have A20 := Aside0.mk A200
           clear A200
           by_cases c21 : t516 = 0
           ·rw [if_pos c21] at H
            have c21b0 : (t516 == 0) = true := beq_iff_eq.mpr c21
            have c21b1 : (t516 != 0) = false := bne_eq_false_iff_eq.mpr c21
            clear c21
            replace H := Option.bind_eq_some_iff.mp H
            obtain ⟨t519, A220, H⟩ := H
            replace H : (if t519 = true then (if (t511.length : Int) = (wrap64 (a1 + 8)) then (if x7_2.length < 5864062014805 then (footlockerlaw23_StripeBack.l0 k2 l0 a1 a2 (x7_2 ++ [t511]) l0 (l0.length : Int) (wrap64 (x46_2 + 1))) else (none)) else (some false)) else (some false)) = some r := H
            have A22 := Aside0.mk A220
            clear A220
            by_cases c23 : t519 = true
            ·subst c23
             have H1 : (if (t511.length : Int) = (wrap64 (a1 + 8)) then (if x7_2.length < 5864062014805 then (footlockerlaw23_StripeBack.l0 k2 l0 a1 a2 (x7_2 ++ [t511]) l0 (l0.length : Int) (wrap64 (x46_2 + 1))) else (none)) else (some false)) = some r := by rw [if_pos rfl] at H; exact H
             clear H
             have H := H1
             clear H1
             by_cases c24 : (t511.length : Int) = (wrap64 (a1 + 8))
             ·rw [if_pos c24] at H
              have c24b0 : ((t511.length : Int) == (wrap64 (a1 + 8))) = true := beq_iff_eq.mpr c24
              have c24b1 : ((t511.length : Int) != (wrap64 (a1 + 8))) = false := bne_eq_false_iff_eq.mpr c24
              clear c24
              by_cases c25 : x7_2.length < 5864062014805
              ·rw [if_pos c25] at H
               have LMc25 := Aside0.mk c25
               clear c25
               obtain ⟨y520, hy520⟩ : ∃ y_ : List (List Int), y_ = (x7_2 ++ [t511]) := ⟨_, rfl⟩
               replace H : (footlockerlaw23_StripeBack.l0 k2 l0 a1 a2 y520 l0 (l0.length : Int) (wrap64 (x46_2 + 1))) = some r := by first | (rw [hy520]; with_reducible exact H) | (have H2_ := (Option.bind_some _ _).symm.trans H; rw [hy520]; with_reducible exact H2_) | (have H2_ := (Option.bind_some _ _).symm.trans H; with_reducible exact H2_) | with_reducible exact H | (rw [hy520]; exact H) | exact H
               have Ny520 := Aside0.mk hy520
               clear hy520
               have H' := Aside0.mk H
               clear H
               have p510 : 0 ≤ (x46_2 : Int) := of_decide_eq_true (by first | (with_reducible assumption) | assumption)
               have q510 : x46_2 < (l0.length : Int) := of_decide_eq_true (by first | (with_reducible assumption) | assumption)
               obtain ⟨ad510, A510_0, c510_0, e510, hx510_0, hl510_0, hi510_0⟩ := at_L1 HR0.out x46_2 p510 q510
               cases e510
               replace hx510_0 := (HB.out.cell (World.block_lt_of_cell? w _ hx510_0)).trans hx510_0
               have HR510_0 := Aside0.mk hi510_0
               have HC510_0 := Aside0.mk hl510_0
               clear hi510_0 hl510_0
               replace p510 := eq_true p510
               replace q510 := eq_true q510
               go_wp2_with (first | ((with_reducible refine gate_callee (f := 8) rfl ?_); refine goesL_ (some 53) rfl rfl Try.func8 (by kernel_rfl) rfl #[.slice A510_0 (rd_L1 l0 x46_2).length c510_0, .int .i64 a1] rfl (by (try simp only [List.map_toArray, List.map_cons, List.map_nil]); first | done | rfl | (simp only [List.length_drop, List.length_take]; rfl)) ?_; (with_reducible refine (stripe_Column.calls k2 (fun k_ => k_ < w.heap.size) _ _ (rd_L1 l0 x46_2) a1 t511 t514 _ ?side1 A18.out).mono ?_); (case side1 => exact Kd.V_mk HC510_0.out (Kd.F_below (Kd.C_F (Kd.heap_int .u8) HR510_0.out) (by repeat (first | (with_reducible first | exact HB.out | apply below_alloc | apply pw_below_drewN | apply below_drew1) | exact HB.out)))); rintro e w26 ⟨v512, rfl, ho0, hb⟩; refine ⟨_, rfl, ?_⟩; have n0_ := Aside0.mk (Kd.N_elder' (by (with_reducible repeat (first | apply Kd.N_alloc | apply Kd.N_drewN | apply Kd.N_drew)); exact HO_7.out) (Kd.R_base ho0) hb); have n1_ := Aside0.mk (Kd.R_lower (Kd.R_mono (ok' := fun k_ => True) ho0 (fun _ hk_ => trivial)) (below_size (by repeat (first | (with_reducible first | exact HB.out | apply below_alloc | apply pw_below_drewN | apply below_drew1) | exact HB.out)))); have n2_ := Aside0.mk (below_step (by repeat (first | (with_reducible first | exact HB.out | apply below_alloc | apply pw_below_drewN | apply below_drew1) | exact HB.out)) hb); clear HO_7; clear HB; have HO_7 := n0_; have HO513 := n1_; have HB := n2_; clear n0_ n1_ n2_; (try clear hb); (try clear hb2); (try clear hk); (try clear hi); (try clear ho0); obtain ⟨Ao27, co27, eo27⟩ := Kd.R_slice HO513.out; subst eo27) | ((with_reducible refine gate_callee (f := 10) rfl ?_); refine goesL_ (some 60) rfl rfl Try.func10 (by kernel_rfl) rfl #[.slice Ao27 t511.length co27] rfl (by (try simp only [List.map_toArray, List.map_cons, List.map_nil]); first | done | rfl | (simp only [List.length_drop, List.length_take]; rfl)) ?_; (with_reducible refine (stripe_Volume.calls k2 _ _ t511 t515 t516 _ ?side1 ?side2 A20.out).mono ?_); (case side1 => repeat (first | exact (Kd.R_reads' HO513.out).2.2 | (with_reducible refine Kd.C_alloc ?_ _) | (with_reducible refine Kd.C_drewN ?_ _) | (with_reducible refine Kd.C_drew ?_))); (case side2 => exact (Kd.R_reads' HO513.out).2.1); rintro e w28 ⟨v517, rfl, ho0, hb⟩; refine ⟨_, rfl, ?_⟩; have n0_ := Aside0.mk (Kd.N_elder' (by (with_reducible repeat (first | apply Kd.N_alloc | apply Kd.N_drewN | apply Kd.N_drew)); exact HO_7.out) (Kd.R_base ho0) hb); have n1_ := Aside0.mk (Kd.R_elder' (by (with_reducible repeat (first | apply Kd.R_alloc | apply Kd.R_drewN | apply Kd.R_drew)); exact HO513.out) (Kd.R_base ho0) hb); have n2_ := Aside0.mk (Kd.R_lower (Kd.R_new' ho0 (Kd.R_lt (by (with_reducible repeat (first | apply Kd.R_alloc | apply Kd.R_drewN | apply Kd.R_drew)); exact HO513.out))) (below_size (by repeat (first | (with_reducible first | exact HB.out | apply below_alloc | apply pw_below_drewN | apply below_drew1) | exact HB.out)))); have n3_ := Aside0.mk (below_step (by repeat (first | (with_reducible first | exact HB.out | apply below_alloc | apply pw_below_drewN | apply below_drew1) | exact HB.out)) hb); clear HO_7; clear HO513; clear HB; have HO_7 := n0_; have HO513 := n1_; have HO518 := n2_; have HB := n3_; clear n0_ n1_ n2_ n3_; (try clear hb); (try clear hb2); (try clear hk); (try clear hi); (try clear ho0); obtain ⟨Ao29, co29, eo29⟩ := Kd.R_slice HO518.out; subst eo29) | (go_at_call 12; (with_reducible refine (footlockerref01_Same.calls k2 _ _ t515 _ _ (rd_L1 l0 x46_2) true _ ?side1 ?side2 ?side3 ?side4 A22.out).mono ?_); (case side1 => repeat (first | exact (Kd.R_reads' HO518.out).2.2 | (with_reducible refine Kd.C_alloc ?_ _) | (with_reducible refine Kd.C_drewN ?_ _) | (with_reducible refine Kd.C_drew ?_))); (case side2 => exact (Kd.R_reads' HO518.out).2.1); (case side3 => repeat (first | exact (Kd.C_below HR510_0.out HB.out) | (with_reducible refine Kd.C_alloc ?_ _) | (with_reducible refine Kd.C_drewN ?_ _) | (with_reducible refine Kd.C_drew ?_))); (case side4 => exact HC510_0.out); rintro e w' ⟨rfl, ⟨nd, rfl⟩⟩) | ((with_reducible refine gate_builtin (b := .append) (xs := #[.tmp 78, .tmp 80]) rfl ?_); (try (refine gate_guard (by rfl) ?_; dsimp only)); at_builtin; refine Kd.N_append (Kd.slice 5 (Kd.int .u8)) (w0 := w) w.heap.size rfl (.tmp 78) (.tmp 80) 40 22 (.slice none 0 0) 24 rfl Try.underlying40 info22 rfl (by decide) (by omega) u7 x7_2 t511 [.slice Ao27 t511.length co27] (fun k_ => some k_ ≠ (.slice Ao29 t515.length co29 : Value).ownBlock) (fun k_ => ((fun k_ => some k_ ≠ (.slice Ao29 t515.length co29 : Value).ownBlock)) k_ ∧ some k_ ≠ (u7 : Value).ownBlock) rfl rfl ?aP (fun _ hk => hk) ?aF ?aO ?aB ?aS ?aL ?_; (case aP => exact (Kd.FK_slice_mk (Kd.R_reads' (Kd.R_mono (ok' := (fun k_ => ((fun k_ => some k_ ≠ (.slice Ao29 t515.length co29 : Value).ownBlock)) k_ ∧ some k_ ≠ (u7 : Value).ownBlock)) (Kd.R_apart' (HO513.out) (Kd.N_typed HO_7.out) (by decide)) (fun k_ hk => ⟨hk.1.2, hk.2⟩))).2.1 (Kd.R_F (Kd.R_mono (ok' := (fun k_ => ((fun k_ => some k_ ≠ (.slice Ao29 t515.length co29 : Value).ownBlock)) k_ ∧ some k_ ≠ (u7 : Value).ownBlock)) (Kd.R_apart' (HO513.out) (Kd.N_typed HO_7.out) (by decide)) (fun k_ hk => ⟨hk.1.2, hk.2⟩))))); (case aB => exact (by repeat (first | (with_reducible first | exact HB.out | apply below_alloc | apply pw_below_drewN | apply below_drew1) | exact HB.out))); (case aF => exact (fun k_ hk => Kd.fresh' (Kd.R_lt (by (with_reducible repeat (first | apply Kd.R_alloc | apply Kd.R_drewN | apply Kd.R_drew)); exact HO518.out)) k_ hk)); (case aO => exact (by (with_reducible repeat (first | apply Kd.N_alloc | apply Kd.N_drewN | apply Kd.N_drew)); exact Kd.N_mono HO_7.out (fun _ hk => hk.2))); (case aS => exact (below_size (by repeat (first | (with_reducible first | exact HB.out | apply below_alloc | apply pw_below_drewN | apply below_drew1) | exact HB.out)))); (case aL => have := LMc25.out; omega); intro v521 w30 ho hb hg hat; rw [← Ny520.out] at ho; have n0_ := Aside0.mk (Kd.R_over' (by (with_reducible repeat (first | apply Kd.R_alloc | apply Kd.R_drewN | apply Kd.R_drew)); exact HO518.out) (Kd.N_typed (by (with_reducible repeat (first | apply Kd.N_alloc | apply Kd.N_drewN | apply Kd.N_drew)); exact HO_7.out)) (by decide) hg); have n1_ := Aside0.mk (hb); have n2_ := Aside0.mk (ho); clear HO518; clear HB; clear HO_7; clear HO513; have HO518 := n0_; have HB := n1_; have HO522 := n2_; clear n0_ n1_ n2_; clear ho hb hg hat))
               go_roundg k2
               case measure => have := HJ5.out; have := HK2.out; omega
               case rel => exact ⟨(y520), (wrap64 (x46_2 + 1)), (by first | rfl | (simp; done) | (simp [*]; done)), H', ⟨by have := HJ5.out; have := HK2.out; omega⟩, ⟨by (with_reducible repeat (first | apply Kd.N_alloc | apply Kd.N_drewN | apply Kd.N_drew)); exact Kd.N_mono HO522.out (fun _ hk => trivial)⟩, ⟨by repeat (first | (with_reducible first | exact HB.out | apply below_alloc | apply pw_below_drewN | apply below_drew1) | exact HB.out)⟩⟩
              ·rw [if_neg c25] at H
               exact absurd H (by simp)
             ·rw [if_neg c24] at H
              have c24b0 : ((t511.length : Int) == (wrap64 (a1 + 8))) = false := beq_eq_false_iff_ne.mpr c24
              have c24b1 : ((t511.length : Int) != (wrap64 (a1 + 8))) = true := bne_iff_ne.mpr c24
              obtain rfl := Option.some.inj H
              have p510 : 0 ≤ (x46_2 : Int) := of_decide_eq_true (by first | (with_reducible assumption) | assumption)
              have q510 : x46_2 < (l0.length : Int) := of_decide_eq_true (by first | (with_reducible assumption) | assumption)
              obtain ⟨ad510, A510_0, c510_0, e510, hx510_0, hl510_0, hi510_0⟩ := at_L1 HR0.out x46_2 p510 q510
              cases e510
              replace hx510_0 := (HB.out.cell (World.block_lt_of_cell? w _ hx510_0)).trans hx510_0
              have HR510_0 := Aside0.mk hi510_0
              have HC510_0 := Aside0.mk hl510_0
              clear hi510_0 hl510_0
              replace p510 := eq_true p510
              replace q510 := eq_true q510
              go_wp2_with (first | ((with_reducible refine gate_callee (f := 8) rfl ?_); refine goesL_ (some 53) rfl rfl Try.func8 (by kernel_rfl) rfl #[.slice A510_0 (rd_L1 l0 x46_2).length c510_0, .int .i64 a1] rfl (by (try simp only [List.map_toArray, List.map_cons, List.map_nil]); first | done | rfl | (simp only [List.length_drop, List.length_take]; rfl)) ?_; (with_reducible refine (stripe_Column.calls k2 (fun k_ => k_ < w.heap.size) _ _ (rd_L1 l0 x46_2) a1 t511 t514 _ ?side1 A18.out).mono ?_); (case side1 => exact Kd.V_mk HC510_0.out (Kd.F_below (Kd.C_F (Kd.heap_int .u8) HR510_0.out) (by repeat (first | (with_reducible first | exact HB.out | apply below_alloc | apply pw_below_drewN | apply below_drew1) | exact HB.out)))); rintro e w31 ⟨v512, rfl, ho0, hb⟩; refine ⟨_, rfl, ?_⟩; have n0_ := Aside0.mk (Kd.N_elder' (by (with_reducible repeat (first | apply Kd.N_alloc | apply Kd.N_drewN | apply Kd.N_drew)); exact HO_7.out) (Kd.R_base ho0) hb); have n1_ := Aside0.mk (Kd.R_lower (Kd.R_mono (ok' := fun k_ => True) ho0 (fun _ hk_ => trivial)) (below_size (by repeat (first | (with_reducible first | exact HB.out | apply below_alloc | apply pw_below_drewN | apply below_drew1) | exact HB.out)))); have n2_ := Aside0.mk (below_step (by repeat (first | (with_reducible first | exact HB.out | apply below_alloc | apply pw_below_drewN | apply below_drew1) | exact HB.out)) hb); clear HO_7; clear HB; have HO_7 := n0_; have HO513 := n1_; have HB := n2_; clear n0_ n1_ n2_; (try clear hb); (try clear hb2); (try clear hk); (try clear hi); (try clear ho0); obtain ⟨Ao32, co32, eo32⟩ := Kd.R_slice HO513.out; subst eo32) | ((with_reducible refine gate_callee (f := 10) rfl ?_); refine goesL_ (some 60) rfl rfl Try.func10 (by kernel_rfl) rfl #[.slice Ao32 t511.length co32] rfl (by (try simp only [List.map_toArray, List.map_cons, List.map_nil]); first | done | rfl | (simp only [List.length_drop, List.length_take]; rfl)) ?_; (with_reducible refine (stripe_Volume.calls k2 _ _ t511 t515 t516 _ ?side1 ?side2 A20.out).mono ?_); (case side1 => repeat (first | exact (Kd.R_reads' HO513.out).2.2 | (with_reducible refine Kd.C_alloc ?_ _) | (with_reducible refine Kd.C_drewN ?_ _) | (with_reducible refine Kd.C_drew ?_))); (case side2 => exact (Kd.R_reads' HO513.out).2.1); rintro e w33 ⟨v517, rfl, ho0, hb⟩; refine ⟨_, rfl, ?_⟩; have n0_ := Aside0.mk (Kd.N_elder' (by (with_reducible repeat (first | apply Kd.N_alloc | apply Kd.N_drewN | apply Kd.N_drew)); exact HO_7.out) (Kd.R_base ho0) hb); have n1_ := Aside0.mk (Kd.R_elder' (by (with_reducible repeat (first | apply Kd.R_alloc | apply Kd.R_drewN | apply Kd.R_drew)); exact HO513.out) (Kd.R_base ho0) hb); have n2_ := Aside0.mk (Kd.R_lower (Kd.R_new' ho0 (Kd.R_lt (by (with_reducible repeat (first | apply Kd.R_alloc | apply Kd.R_drewN | apply Kd.R_drew)); exact HO513.out))) (below_size (by repeat (first | (with_reducible first | exact HB.out | apply below_alloc | apply pw_below_drewN | apply below_drew1) | exact HB.out)))); have n3_ := Aside0.mk (below_step (by repeat (first | (with_reducible first | exact HB.out | apply below_alloc | apply pw_below_drewN | apply below_drew1) | exact HB.out)) hb); clear HO_7; clear HO513; clear HB; have HO_7 := n0_; have HO513 := n1_; have HO518 := n2_; have HB := n3_; clear n0_ n1_ n2_ n3_; (try clear hb); (try clear hb2); (try clear hk); (try clear hi); (try clear ho0); obtain ⟨Ao34, co34, eo34⟩ := Kd.R_slice HO518.out; subst eo34) | (go_at_call 12; (with_reducible refine (footlockerref01_Same.calls k2 _ _ t515 _ _ (rd_L1 l0 x46_2) true _ ?side1 ?side2 ?side3 ?side4 A22.out).mono ?_); (case side1 => repeat (first | exact (Kd.R_reads' HO518.out).2.2 | (with_reducible refine Kd.C_alloc ?_ _) | (with_reducible refine Kd.C_drewN ?_ _) | (with_reducible refine Kd.C_drew ?_))); (case side2 => exact (Kd.R_reads' HO518.out).2.1); (case side3 => repeat (first | exact (Kd.C_below HR510_0.out HB.out) | (with_reducible refine Kd.C_alloc ?_ _) | (with_reducible refine Kd.C_drewN ?_ _) | (with_reducible refine Kd.C_drew ?_))); (case side4 => exact HC510_0.out); rintro e w' ⟨rfl, ⟨nd, rfl⟩⟩))
              go_ret
              exact ⟨by first | rfl | (simp [errW_none, errW_some] <;> rfl) | (simp [*, errW_none, errW_some] <;> rfl), by repeat (first | (with_reducible first | exact HB.out | apply below_alloc | apply pw_below_drewN | apply below_drew1) | exact HB.out)⟩
            ·replace c23 := Bool.eq_false_iff.mpr c23
             subst c23
             have H1 : (some false) = some r := by rw [if_neg (show ¬ (false = true) by decide)] at H; exact H
             clear H
             have H := H1
             clear H1
             obtain rfl := Option.some.inj H
             have p510 : 0 ≤ (x46_2 : Int) := of_decide_eq_true (by first | (with_reducible assumption) | assumption)
             have q510 : x46_2 < (l0.length : Int) := of_decide_eq_true (by first | (with_reducible assumption) | assumption)
             obtain ⟨ad510, A510_0, c510_0, e510, hx510_0, hl510_0, hi510_0⟩ := at_L1 HR0.out x46_2 p510 q510
             cases e510
             replace hx510_0 := (HB.out.cell (World.block_lt_of_cell? w _ hx510_0)).trans hx510_0
             have HR510_0 := Aside0.mk hi510_0
             have HC510_0 := Aside0.mk hl510_0
             clear hi510_0 hl510_0
             replace p510 := eq_true p510
             replace q510 := eq_true q510
             go_wp2_with (first | ((with_reducible refine gate_callee (f := 8) rfl ?_); refine goesL_ (some 53) rfl rfl Try.func8 (by kernel_rfl) rfl #[.slice A510_0 (rd_L1 l0 x46_2).length c510_0, .int .i64 a1] rfl (by (try simp only [List.map_toArray, List.map_cons, List.map_nil]); first | done | rfl | (simp only [List.length_drop, List.length_take]; rfl)) ?_; (with_reducible refine (stripe_Column.calls k2 (fun k_ => k_ < w.heap.size) _ _ (rd_L1 l0 x46_2) a1 t511 t514 _ ?side1 A18.out).mono ?_); (case side1 => exact Kd.V_mk HC510_0.out (Kd.F_below (Kd.C_F (Kd.heap_int .u8) HR510_0.out) (by repeat (first | (with_reducible first | exact HB.out | apply below_alloc | apply pw_below_drewN | apply below_drew1) | exact HB.out)))); rintro e w35 ⟨v512, rfl, ho0, hb⟩; refine ⟨_, rfl, ?_⟩; have n0_ := Aside0.mk (Kd.N_elder' (by (with_reducible repeat (first | apply Kd.N_alloc | apply Kd.N_drewN | apply Kd.N_drew)); exact HO_7.out) (Kd.R_base ho0) hb); have n1_ := Aside0.mk (Kd.R_lower (Kd.R_mono (ok' := fun k_ => True) ho0 (fun _ hk_ => trivial)) (below_size (by repeat (first | (with_reducible first | exact HB.out | apply below_alloc | apply pw_below_drewN | apply below_drew1) | exact HB.out)))); have n2_ := Aside0.mk (below_step (by repeat (first | (with_reducible first | exact HB.out | apply below_alloc | apply pw_below_drewN | apply below_drew1) | exact HB.out)) hb); clear HO_7; clear HB; have HO_7 := n0_; have HO513 := n1_; have HB := n2_; clear n0_ n1_ n2_; (try clear hb); (try clear hb2); (try clear hk); (try clear hi); (try clear ho0); obtain ⟨Ao36, co36, eo36⟩ := Kd.R_slice HO513.out; subst eo36) | ((with_reducible refine gate_callee (f := 10) rfl ?_); refine goesL_ (some 60) rfl rfl Try.func10 (by kernel_rfl) rfl #[.slice Ao36 t511.length co36] rfl (by (try simp only [List.map_toArray, List.map_cons, List.map_nil]); first | done | rfl | (simp only [List.length_drop, List.length_take]; rfl)) ?_; (with_reducible refine (stripe_Volume.calls k2 _ _ t511 t515 t516 _ ?side1 ?side2 A20.out).mono ?_); (case side1 => repeat (first | exact (Kd.R_reads' HO513.out).2.2 | (with_reducible refine Kd.C_alloc ?_ _) | (with_reducible refine Kd.C_drewN ?_ _) | (with_reducible refine Kd.C_drew ?_))); (case side2 => exact (Kd.R_reads' HO513.out).2.1); rintro e w37 ⟨v517, rfl, ho0, hb⟩; refine ⟨_, rfl, ?_⟩; have n0_ := Aside0.mk (Kd.N_elder' (by (with_reducible repeat (first | apply Kd.N_alloc | apply Kd.N_drewN | apply Kd.N_drew)); exact HO_7.out) (Kd.R_base ho0) hb); have n1_ := Aside0.mk (Kd.R_elder' (by (with_reducible repeat (first | apply Kd.R_alloc | apply Kd.R_drewN | apply Kd.R_drew)); exact HO513.out) (Kd.R_base ho0) hb); have n2_ := Aside0.mk (Kd.R_lower (Kd.R_new' ho0 (Kd.R_lt (by (with_reducible repeat (first | apply Kd.R_alloc | apply Kd.R_drewN | apply Kd.R_drew)); exact HO513.out))) (below_size (by repeat (first | (with_reducible first | exact HB.out | apply below_alloc | apply pw_below_drewN | apply below_drew1) | exact HB.out)))); have n3_ := Aside0.mk (below_step (by repeat (first | (with_reducible first | exact HB.out | apply below_alloc | apply pw_below_drewN | apply below_drew1) | exact HB.out)) hb); clear HO_7; clear HO513; clear HB; have HO_7 := n0_; have HO513 := n1_; have HO518 := n2_; have HB := n3_; clear n0_ n1_ n2_ n3_; (try clear hb); (try clear hb2); (try clear hk); (try clear hi); (try clear ho0); obtain ⟨Ao38, co38, eo38⟩ := Kd.R_slice HO518.out; subst eo38) | (go_at_call 12; (with_reducible refine (footlockerref01_Same.calls k2 _ _ t515 _ _ (rd_L1 l0 x46_2) false _ ?side1 ?side2 ?side3 ?side4 A22.out).mono ?_); (case side1 => repeat (first | exact (Kd.R_reads' HO518.out).2.2 | (with_reducible refine Kd.C_alloc ?_ _) | (with_reducible refine Kd.C_drewN ?_ _) | (with_reducible refine Kd.C_drew ?_))); (case side2 => exact (Kd.R_reads' HO518.out).2.1); (case side3 => repeat (first | exact (Kd.C_below HR510_0.out HB.out) | (with_reducible refine Kd.C_alloc ?_ _) | (with_reducible refine Kd.C_drewN ?_ _) | (with_reducible refine Kd.C_drew ?_))); (case side4 => exact HC510_0.out); rintro e w' ⟨rfl, ⟨nd, rfl⟩⟩))
             go_ret
             exact ⟨by first | rfl | (simp [errW_none, errW_some] <;> rfl) | (simp [*, errW_none, errW_some] <;> rfl), by repeat (first | (with_reducible first | exact HB.out | apply below_alloc | apply pw_below_drewN | apply below_drew1) | exact HB.out)⟩
           ·rw [if_neg c21] at H
            have c21b0 : (t516 == 0) = false := beq_eq_false_iff_ne.mpr c21
            have c21b1 : (t516 != 0) = true := bne_iff_ne.mpr c21
            obtain rfl := Option.some.inj H
            have p510 : 0 ≤ (x46_2 : Int) := of_decide_eq_true (by first | (with_reducible assumption) | assumption)
            have q510 : x46_2 < (l0.length : Int) := of_decide_eq_true (by first | (with_reducible assumption) | assumption)
            obtain ⟨ad510, A510_0, c510_0, e510, hx510_0, hl510_0, hi510_0⟩ := at_L1 HR0.out x46_2 p510 q510
            cases e510
            replace hx510_0 := (HB.out.cell (World.block_lt_of_cell? w _ hx510_0)).trans hx510_0
            have HR510_0 := Aside0.mk hi510_0
            have HC510_0 := Aside0.mk hl510_0
            clear hi510_0 hl510_0
            replace p510 := eq_true p510
            replace q510 := eq_true q510
            go_wp2_with (first | ((with_reducible refine gate_callee (f := 8) rfl ?_); refine goesL_ (some 53) rfl rfl Try.func8 (by kernel_rfl) rfl #[.slice A510_0 (rd_L1 l0 x46_2).length c510_0, .int .i64 a1] rfl (by (try simp only [List.map_toArray, List.map_cons, List.map_nil]); first | done | rfl | (simp only [List.length_drop, List.length_take]; rfl)) ?_; (with_reducible refine (stripe_Column.calls k2 (fun k_ => k_ < w.heap.size) _ _ (rd_L1 l0 x46_2) a1 t511 t514 _ ?side1 A18.out).mono ?_); (case side1 => exact Kd.V_mk HC510_0.out (Kd.F_below (Kd.C_F (Kd.heap_int .u8) HR510_0.out) (by repeat (first | (with_reducible first | exact HB.out | apply below_alloc | apply pw_below_drewN | apply below_drew1) | exact HB.out)))); rintro e w39 ⟨v512, rfl, ho0, hb⟩; refine ⟨_, rfl, ?_⟩; have n0_ := Aside0.mk (Kd.N_elder' (by (with_reducible repeat (first | apply Kd.N_alloc | apply Kd.N_drewN | apply Kd.N_drew)); exact HO_7.out) (Kd.R_base ho0) hb); have n1_ := Aside0.mk (Kd.R_lower (Kd.R_mono (ok' := fun k_ => True) ho0 (fun _ hk_ => trivial)) (below_size (by repeat (first | (with_reducible first | exact HB.out | apply below_alloc | apply pw_below_drewN | apply below_drew1) | exact HB.out)))); have n2_ := Aside0.mk (below_step (by repeat (first | (with_reducible first | exact HB.out | apply below_alloc | apply pw_below_drewN | apply below_drew1) | exact HB.out)) hb); clear HO_7; clear HB; have HO_7 := n0_; have HO513 := n1_; have HB := n2_; clear n0_ n1_ n2_; (try clear hb); (try clear hb2); (try clear hk); (try clear hi); (try clear ho0); obtain ⟨Ao40, co40, eo40⟩ := Kd.R_slice HO513.out; subst eo40) | ((with_reducible refine gate_callee (f := 10) rfl ?_); refine goesL_ (some 60) rfl rfl Try.func10 (by kernel_rfl) rfl #[.slice Ao40 t511.length co40] rfl (by (try simp only [List.map_toArray, List.map_cons, List.map_nil]); first | done | rfl | (simp only [List.length_drop, List.length_take]; rfl)) ?_; (with_reducible refine (stripe_Volume.calls k2 _ _ t511 t515 t516 _ ?side1 ?side2 A20.out).mono ?_); (case side1 => repeat (first | exact (Kd.R_reads' HO513.out).2.2 | (with_reducible refine Kd.C_alloc ?_ _) | (with_reducible refine Kd.C_drewN ?_ _) | (with_reducible refine Kd.C_drew ?_))); (case side2 => exact (Kd.R_reads' HO513.out).2.1); rintro e w41 ⟨v517, rfl, ho0, hb⟩; refine ⟨_, rfl, ?_⟩; have n0_ := Aside0.mk (Kd.N_elder' (by (with_reducible repeat (first | apply Kd.N_alloc | apply Kd.N_drewN | apply Kd.N_drew)); exact HO_7.out) (Kd.R_base ho0) hb); have n1_ := Aside0.mk (Kd.R_elder' (by (with_reducible repeat (first | apply Kd.R_alloc | apply Kd.R_drewN | apply Kd.R_drew)); exact HO513.out) (Kd.R_base ho0) hb); have n2_ := Aside0.mk (Kd.R_lower (Kd.R_new' ho0 (Kd.R_lt (by (with_reducible repeat (first | apply Kd.R_alloc | apply Kd.R_drewN | apply Kd.R_drew)); exact HO513.out))) (below_size (by repeat (first | (with_reducible first | exact HB.out | apply below_alloc | apply pw_below_drewN | apply below_drew1) | exact HB.out)))); have n3_ := Aside0.mk (below_step (by repeat (first | (with_reducible first | exact HB.out | apply below_alloc | apply pw_below_drewN | apply below_drew1) | exact HB.out)) hb); clear HO_7; clear HO513; clear HB; have HO_7 := n0_; have HO513 := n1_; have HO518 := n2_; have HB := n3_; clear n0_ n1_ n2_ n3_; (try clear hb); (try clear hb2); (try clear hk); (try clear hi); (try clear ho0)))
            go_ret
            exact ⟨by first | rfl | (simp [errW_none, errW_some] <;> rfl) | (simp [*, errW_none, errW_some] <;> rfl), by repeat (first | (with_reducible first | exact HB.out | apply below_alloc | apply pw_below_drewN | apply below_drew1) | exact HB.out)⟩
          ·rw [if_neg c19] at H
           have c19b0 : (t514 == 0) = false := beq_eq_false_iff_ne.mpr c19
           have c19b1 : (t514 != 0) = true := bne_iff_ne.mpr c19
           obtain rfl := Option.some.inj H
           have p510 : 0 ≤ (x46_2 : Int) := of_decide_eq_true (by first | (with_reducible assumption) | assumption)
           have q510 : x46_2 < (l0.length : Int) := of_decide_eq_true (by first | (with_reducible assumption) | assumption)
           obtain ⟨ad510, A510_0, c510_0, e510, hx510_0, hl510_0, hi510_0⟩ := at_L1 HR0.out x46_2 p510 q510
           cases e510
           replace hx510_0 := (HB.out.cell (World.block_lt_of_cell? w _ hx510_0)).trans hx510_0
           have HR510_0 := Aside0.mk hi510_0
           have HC510_0 := Aside0.mk hl510_0
           clear hi510_0 hl510_0
           replace p510 := eq_true p510
           replace q510 := eq_true q510
           go_wp2_with (first | ((with_reducible refine gate_callee (f := 8) rfl ?_); refine goesL_ (some 53) rfl rfl Try.func8 (by kernel_rfl) rfl #[.slice A510_0 (rd_L1 l0 x46_2).length c510_0, .int .i64 a1] rfl (by (try simp only [List.map_toArray, List.map_cons, List.map_nil]); first | done | rfl | (simp only [List.length_drop, List.length_take]; rfl)) ?_; (with_reducible refine (stripe_Column.calls k2 (fun k_ => k_ < w.heap.size) _ _ (rd_L1 l0 x46_2) a1 t511 t514 _ ?side1 A18.out).mono ?_); (case side1 => exact Kd.V_mk HC510_0.out (Kd.F_below (Kd.C_F (Kd.heap_int .u8) HR510_0.out) (by repeat (first | (with_reducible first | exact HB.out | apply below_alloc | apply pw_below_drewN | apply below_drew1) | exact HB.out)))); rintro e w42 ⟨v512, rfl, ho0, hb⟩; refine ⟨_, rfl, ?_⟩; have n0_ := Aside0.mk (Kd.N_elder' (by (with_reducible repeat (first | apply Kd.N_alloc | apply Kd.N_drewN | apply Kd.N_drew)); exact HO_7.out) (Kd.R_base ho0) hb); have n1_ := Aside0.mk (Kd.R_lower (Kd.R_mono (ok' := fun k_ => True) ho0 (fun _ hk_ => trivial)) (below_size (by repeat (first | (with_reducible first | exact HB.out | apply below_alloc | apply pw_below_drewN | apply below_drew1) | exact HB.out)))); have n2_ := Aside0.mk (below_step (by repeat (first | (with_reducible first | exact HB.out | apply below_alloc | apply pw_below_drewN | apply below_drew1) | exact HB.out)) hb); clear HO_7; clear HB; have HO_7 := n0_; have HO513 := n1_; have HB := n2_; clear n0_ n1_ n2_; (try clear hb); (try clear hb2); (try clear hk); (try clear hi); (try clear ho0)))
           go_ret
           exact ⟨by first | rfl | (simp [errW_none, errW_some] <;> rfl) | (simp [*, errW_none, errW_some] <;> rfl), by repeat (first | (with_reducible first | exact HB.out | apply below_alloc | apply pw_below_drewN | apply below_drew1) | exact HB.out)⟩
         ·rw [if_neg c17] at H
          exact absurd H (by simp)
        ·rw [if_neg c16] at H
         exact absurd H (by simp)
       ·rw [if_neg c15] at H
        have c15b0 : decide (x46_2 < (l0.length : Int)) = false := decide_eq_false c15
        clear c15
        replace H := Option.bind_eq_some_iff.mp H
        obtain ⟨⟨t523, t524⟩, A430, H⟩ := H
        replace H : (if t524 = 0 then (footlockerlaw23_StripeBack.j2 k2 l0 a1 x7_2 t523 ((t523.length : Int) != a2)) else (footlockerlaw23_StripeBack.j2 k2 l0 a1 x7_2 t523 true)) = some r := H
        have A43 := Aside0.mk A430
        clear A430
        have HC44 := Aside0.mk H
        clear H
        obtain ⟨Ao45, co45, eo45⟩ := Kd.N_slice HO_7.out
        subst eo45
        go_upto_region 18 with (first | ((with_reducible refine gate_callee (f := 18) rfl ?_); refine goesL_ (some 86) rfl rfl Try.func18 (by kernel_rfl) rfl #[.slice Ao45 x7_2.length co45, .int .i64 a2] rfl (by (try simp only [List.map_toArray, List.map_cons, List.map_nil]); first | done | rfl | (simp only [List.length_drop, List.length_take]; rfl)) ?_; (with_reducible refine (stripe_Parity.calls k2 _ _ x7_2 a2 t523 t524 _ ?side1 ?side2 A43.out).mono ?_); (case side1 => repeat (first | exact (Kd.N_reads' HO_7.out).2.2 | (with_reducible refine Kd.C_alloc ?_ _) | (with_reducible refine Kd.C_drewN ?_ _) | (with_reducible refine Kd.C_drew ?_))); (case side2 => exact (Kd.N_reads' HO_7.out).2.1); rintro e w46 ⟨v525, rfl, ho0, hb⟩; refine ⟨_, rfl, ?_⟩; have n0_ := Aside0.mk (Kd.N_elder' (by (with_reducible repeat (first | apply Kd.N_alloc | apply Kd.N_drewN | apply Kd.N_drew)); exact HO_7.out) (by first | exact Kd.N_base ho0 | exact Kd.S_base ho0) hb); have n1_ := Aside0.mk (Kd.N_lower (Kd.N_mono (ok' := fun k_ => some k_ ≠ (.slice Ao45 x7_2.length co45 : Value).ownBlock) (Kd.S_N (Kd.S_bound ho0)) (fun k_ hk_ => (Kd.fresh' (Kd.N_lt (by (with_reducible repeat (first | apply Kd.N_alloc | apply Kd.N_drewN | apply Kd.N_drew)); exact HO_7.out)) k_ hk_.2.1))) (below_size (by repeat (first | (with_reducible first | exact HB.out | apply below_alloc | apply pw_below_drewN | apply below_drew1) | exact HB.out)))); have n2_ := Aside0.mk (below_step (by repeat (first | (with_reducible first | exact HB.out | apply below_alloc | apply pw_below_drewN | apply below_drew1) | exact HB.out)) hb); clear HO_7; clear HB; have HO_7 := n0_; have HO526 := n1_; have HB := n2_; clear n0_ n1_ n2_; (try clear hb); (try clear hb2); (try clear hk); (try clear hi); (try clear ho0)))
        (try simp only [Act.put, List.setIfInBounds_toArray, List.set_cons_zero, List.set_cons_succ])
        go_cut [96] (fun v96 wc => ∃ (kq : Nat) (x96_43 : Bool), v96 = .bool x96_43 ∧ Aside0 (footlockerlaw23_StripeBack.j2 kq l0 a1 x7_2 t523 x96_43 = some r) ∧ Aside0 (kq ≤ k2) ∧ Aside0 (Kd.N (Kd.slice 5 (Kd.int .u8)) 22 wc w.heap.size (fun k_ => some k_ ≠ (v525 : Value).ownBlock) (.slice Ao45 x7_2.length co45) x7_2) ∧ Aside0 (Kd.N (Kd.slice 5 (Kd.int .u8)) 22 wc w.heap.size (fun k_ => some k_ ≠ ((.slice Ao45 x7_2.length co45) : Value).ownBlock) v525 t523) ∧ Aside0 (Below w.heap.size w wc))
        case first =>
         have H := HC44.out
         clear HC44
         by_cases c47 : t524 = 0
         ·rw [if_pos c47] at H
          have c47b0 : (t524 == 0) = true := beq_iff_eq.mpr c47
          have c47b1 : (t524 != 0) = false := bne_eq_false_iff_eq.mpr c47
          clear c47
          (first | rw [c47b0] | (simp only [i64_w, i32_w]; rw [c47b0]) | skip)
          have H' := Aside0.mk H
          clear H
          obtain ⟨Ao48, co48, eo48⟩ := Kd.N_slice HO526.out
          subst eo48
          go_wp2
          go_meet
          case rel => exact ⟨_, (((t523.length : Int) != a2)), (by first | rfl | (simp; done) | (simp [*]; done)), H', ⟨by have := HJ5.out; have := HK2.out; first | omega | exact Nat.le_refl _⟩, ⟨by (with_reducible repeat (first | apply Kd.N_alloc | apply Kd.N_drewN | apply Kd.N_drew)); exact Kd.N_mono HO_7.out (fun _ hk => hk.2)⟩, ⟨by (with_reducible repeat (first | apply Kd.N_alloc | apply Kd.N_drewN | apply Kd.N_drew)); exact HO526.out⟩, ⟨by repeat (first | (with_reducible first | exact HB.out | apply below_alloc | apply pw_below_drewN | apply below_drew1) | exact HB.out)⟩⟩
         ·rw [if_neg c47] at H
          have c47b0 : (t524 == 0) = false := beq_eq_false_iff_ne.mpr c47
          have c47b1 : (t524 != 0) = true := bne_iff_ne.mpr c47
          (first | rw [c47b0] | (simp only [i64_w, i32_w]; rw [c47b0]) | skip)
          have H' := Aside0.mk H
          clear H
          go_wp2
          go_meet
          case rel => exact ⟨_, (true), (by first | rfl | (simp; done) | (simp [*]; done)), H', ⟨by have := HJ5.out; have := HK2.out; first | omega | exact Nat.le_refl _⟩, ⟨by (with_reducible repeat (first | apply Kd.N_alloc | apply Kd.N_drewN | apply Kd.N_drew)); exact Kd.N_mono HO_7.out (fun _ hk => hk.2)⟩, ⟨by (with_reducible repeat (first | apply Kd.N_alloc | apply Kd.N_drewN | apply Kd.N_drew)); exact HO526.out⟩, ⟨by repeat (first | (with_reducible first | exact HB.out | apply below_alloc | apply pw_below_drewN | apply below_drew1) | exact HB.out)⟩⟩
        case rest =>
         clear HC44
         try clear c1
         try clear c2
         try clear p2
         try clear c4
         try clear c5
         try clear p5
         try clear q5
         try clear hx5
         try clear c6
         try clear p6
         try clear c7
         try clear c8
         try clear c8b0
         try clear c8b1
         try clear c8b2
         try clear c9
         try clear c9b0
         try clear c9b1
         try clear c10
         try clear c10b0
         try clear c11
         try clear c11b0
         try clear c12
         try clear c15
         try clear c15b0
         try clear c16
         try clear c16b0
         try clear c17
         try clear c17b0
         try clear c18
         try clear c19
         try clear c19b0
         try clear c19b1
         try clear c21
         try clear c21b0
         try clear c21b1
         try clear c23
         try clear c24
         try clear c24b0
         try clear c24b1
         try clear c25
         try clear c47
         try clear c47b0
         try clear c47b1
         try clear hx510_0
         try clear p2
         try clear p510
         try clear q510
         obtain ⟨kq, x96_43, rfl, HA, HJ43, HO_7, HO_14, HB⟩ := hcut
         cases kq with
         | zero => exact absurd HA.out (by simp [footlockerlaw23_StripeBack.j2])
         | succ kj43 =>
          have H := HA.out
          clear HA
          simp only [footlockerlaw23_StripeBack.j2] at H
          by_cases c49 : x96_43 = true
          ·subst c49
           have H1 : (some false) = some r := by rw [if_pos rfl] at H; exact H
           clear H
           have H := H1
           clear H1
           obtain rfl := Option.some.inj H
           go_wp2
           go_ret
           exact ⟨by first | rfl | (simp [errW_none, errW_some] <;> rfl) | (simp [*, errW_none, errW_some] <;> rfl), by repeat (first | (with_reducible first | exact HB.out | apply below_alloc | apply pw_below_drewN | apply below_drew1) | exact HB.out)⟩
          ·replace c49 := Bool.eq_false_iff.mpr c49
           subst c49
           have H1 : (if x7_2.length + t523.length < 5864062014805 then (footlockerlaw23_StripeBack.l1 kj43 l0 (x7_2 ++ t523) (wrap64 (a1 + 8)) 0) else (none)) = some r := by rw [if_neg (show ¬ (false = true) by decide)] at H; exact H
           clear H
           have H := H1
           clear H1
           by_cases c50 : x7_2.length + t523.length < 5864062014805
           ·rw [if_pos c50] at H
            have LMc50 := Aside0.mk c50
            clear c50
            obtain ⟨y527, hy527⟩ : ∃ y_ : List (List Int), y_ = (x7_2 ++ t523) := ⟨_, rfl⟩
            replace H : (footlockerlaw23_StripeBack.l1 kj43 l0 y527 (wrap64 (a1 + 8)) 0) = some r := by first | (rw [hy527]; with_reducible exact H) | (have H2_ := (Option.bind_some _ _).symm.trans H; rw [hy527]; with_reducible exact H2_) | (have H2_ := (Option.bind_some _ _).symm.trans H; with_reducible exact H2_) | with_reducible exact H | (rw [hy527]; exact H) | exact H
            have Ny527 := Aside0.mk hy527
            clear hy527
            have H' := Aside0.mk H
            clear H
            obtain ⟨Ao52, co52, eo52⟩ := Kd.N_slice HO_14.out
            subst eo52
            go_wp2_with (first | ((with_reducible refine gate_builtin (b := .append) (xs := #[.tmp 97, .tmp 98]) rfl ?_); (try (refine gate_guard (by rfl) ?_; dsimp only)); at_builtin; refine Kd.N_append_rows (Kd.slice 5 (Kd.int .u8)) (w0 := w) w.heap.size rfl (.tmp 97) (.tmp 98) 40 22 (.slice none 0 0) 24 rfl Try.underlying40 info22 rfl (by decide) (by omega) (.slice Ao45 x7_2.length co45) x7_2 t523 _ _ _ (fun _ => True) (fun k_ => ((fun _ => True)) k_ ∧ some k_ ≠ (.slice Ao45 x7_2.length co45 : Value).ownBlock) rfl rfl ?aO ?aR (fun _ hk => hk) ?aF ?aB ?aS ?aL ?_; (case aR => exact (by skip; exact Kd.N_F (Kd.N_mono (ok' := (fun k_ => ((fun _ => True)) k_ ∧ some k_ ≠ (.slice Ao45 x7_2.length co45 : Value).ownBlock)) (HO_14.out) (fun k_ hk => ⟨trivial, hk⟩)))); (case aB => exact (by repeat (first | (with_reducible first | exact HB.out | apply below_alloc | apply pw_below_drewN | apply below_drew1) | exact HB.out))); (case aF => exact (fun _ _ => trivial)); (case aO => exact (by (with_reducible repeat (first | apply Kd.N_alloc | apply Kd.N_drewN | apply Kd.N_drew)); exact Kd.N_mono HO_7.out (fun _ hk => trivial))); (case aS => exact (below_size (by repeat (first | (with_reducible first | exact HB.out | apply below_alloc | apply pw_below_drewN | apply below_drew1) | exact HB.out)))); (case aL => have := LMc50.out; omega); intro v528 w51 ho hb hg hat; rw [← Ny527.out] at ho; have n0_ := Aside0.mk (Kd.N_afterv (ok := (fun _ => True)) (by (with_reducible repeat (first | apply Kd.N_alloc | apply Kd.N_drewN | apply Kd.N_drew)); exact Kd.N_mono HO_14.out (fun _ hk => ⟨trivial, hk⟩)) hg hat); have n1_ := Aside0.mk (hb); have n2_ := Aside0.mk (ho); clear HO_14; clear HB; clear HO_7; have HO_14 := n0_; have HB := n1_; have HO529 := n2_; clear n0_ n1_ n2_; clear ho hb hg hat))
            go_loopg [102] kj43 (fun kq v102 w' => ∃ (x102_4 : Int), v102 = .int .i64 x102_4 ∧ Aside0 (footlockerlaw23_StripeBack.l1 kq l0 y527 (wrap64 (a1 + 8)) x102_4 = some r) ∧ Aside0 (kq ≤ kj43) ∧ Aside0 (Kd.N (Kd.slice 5 (Kd.int .u8)) 22 w' w.heap.size (fun _ => True) v528 y527) ∧ Aside0 (Below w.heap.size w w'))
            case atStart => exact ⟨(0), (by first | rfl | (simp; done) | (simp [*]; done)), H', ⟨Nat.le_refl _⟩, ⟨by (with_reducible repeat (first | apply Kd.N_alloc | apply Kd.N_drewN | apply Kd.N_drew)); exact HO529.out⟩, ⟨by repeat (first | (with_reducible first | exact HB.out | apply below_alloc | apply pw_below_drewN | apply below_drew1) | exact HB.out)⟩⟩
            case round =>
             clear H'
             try clear c1
             try clear c2
             try clear p2
             try clear c4
             try clear c5
             try clear p5
             try clear q5
             try clear hx5
             try clear c6
             try clear p6
             try clear c7
             try clear c8
             try clear c8b0
             try clear c8b1
             try clear c8b2
             try clear c9
             try clear c9b0
             try clear c9b1
             try clear c10
             try clear c10b0
             try clear c11
             try clear c11b0
             try clear c12
             try clear c15
             try clear c15b0
             try clear c16
             try clear c16b0
             try clear c17
             try clear c17b0
             try clear c18
             try clear c19
             try clear c19b0
             try clear c19b1
             try clear c21
             try clear c21b0
             try clear c21b1
             try clear c23
             try clear c24
             try clear c24b0
             try clear c24b1
             try clear c25
             try clear c47
             try clear c47b0
             try clear c47b1
             try clear c49
             try clear c50
             try clear c51
             try clear p51
             try clear q51
             try clear hx51
             try clear hx510_0
             try clear p2
             try clear p5
             try clear p510
             try clear p6
             try clear q5
             try clear q510
             obtain ⟨x102_4, rfl, HA, HK4, HO_16, HB⟩ := hrel
             cases gk with
             | zero => exact absurd HA.out (by simp [footlockerlaw23_StripeBack.l1])
             | succ k4 =>
              have H := HA.out
              clear HA
              simp only [footlockerlaw23_StripeBack.l1] at H
              by_cases c53 : x102_4 < (wrap64 (a1 + 8))
              ·rw [if_pos c53] at H
               have c53b0 : decide (x102_4 < (wrap64 (a1 + 8))) = true := decide_eq_true c53
               clear c53
               obtain ⟨y530, hy530⟩ : ∃ y_ : List Int, y_ = (([] : List Int)) := ⟨_, rfl⟩
               replace H : (footlockerlaw23_StripeBack.l2 k4 l0 y527 x102_4 y530 (wrap64 (a1 + 8)) x102_4 y527 (y527.length : Int) 0) = some r := by first | (rw [hy530]; with_reducible exact H) | (have H2_ := (Option.bind_some _ _).symm.trans H; rw [hy530]; with_reducible exact H2_) | (have H2_ := (Option.bind_some _ _).symm.trans H; with_reducible exact H2_) | with_reducible exact H | (rw [hy530]; exact H) | exact H
               have Ny530 := Aside0.mk hy530
               clear hy530
               have H' := Aside0.mk H
               clear H
               go_wp2_with (first | ((with_reducible refine gate_dst (N := 105) rfl ?_); (try (refine gate_guard (by rfl) ?_; dsimp only)); refine Kd.R_lit (Kd.int .u8) _ 5 ?hg (N := 105) ?hd (xs := ([] : List Int)) (inner := []) (ok := fun _ => True) (okp := fun _ => True) ?hr ?hp (fun _ hk => hk) trivial (Below.refl _ _) (Nat.le_refl _) (by simp) ?_; (case hd => rfl); (case hg => rfl); (case hr => first | (go_simp; done) | (go_simp; rfl)); (case hp => exact (Reps.none _ _)); intro v531 w54 ho55 hb hg_ hnew_; clear hg_ hnew_; (first | rw [← Ny530.out] at ho55 | (simp only [Int.reduceToNat] at ho55; rw [← Ny530.out] at ho55)); have n0_ := Aside0.mk (Kd.N_elder' (by (with_reducible repeat (first | apply Kd.N_alloc | apply Kd.N_drewN | apply Kd.N_drew)); exact HO_16.out) (Kd.R_base ho55) hb); have n1_ := Aside0.mk (Kd.R_lower ho55 (below_size (by repeat (first | (with_reducible first | exact HB.out | apply below_alloc | apply pw_below_drewN | apply below_drew1) | exact HB.out)))); have n2_ := Aside0.mk (below_step (by repeat (first | (with_reducible first | exact HB.out | apply below_alloc | apply pw_below_drewN | apply below_drew1) | exact HB.out)) hb); clear HO_16; clear HB; have HO_16 := n0_; have HO532 := n1_; have HB := n2_; clear n0_ n1_ n2_; clear hb ho55; obtain ⟨Ao56, co56, eo56⟩ := Kd.N_slice HO_16.out; subst eo56))
               go_loopg [18, 108] k4 (fun kq v18 v108 w' => ∃ (x18_5 : List Int) (x108_5 : Int), v108 = .int .i64 x108_5 ∧ Aside0 (footlockerlaw23_StripeBack.l2 kq l0 y527 x102_4 x18_5 (wrap64 (a1 + 8)) x102_4 y527 (y527.length : Int) x108_5 = some r) ∧ Aside0 (kq ≤ k4) ∧ Aside0 (Kd.N (Kd.slice 5 (Kd.int .u8)) 22 w' w.heap.size (fun k_ => some k_ ≠ (v18 : Value).ownBlock) (.slice Ao56 y527.length co56) y527) ∧ Aside0 (Kd.R (Kd.int .u8) 5 w' w.heap.size (fun _ => True) v18 x18_5) ∧ Aside0 (Kd.N (Kd.slice 5 (Kd.int .u8)) 22 w' w.heap.size (fun k_ => some k_ ≠ (v18 : Value).ownBlock) (.slice Ao56 y527.length co56) y527) ∧ Aside0 (Below w.heap.size w w'))
               case atStart => exact ⟨(y530), (0), (by first | rfl | (simp; done) | (simp [*]; done)), H', ⟨Nat.le_refl _⟩, ⟨by (with_reducible repeat (first | apply Kd.N_alloc | apply Kd.N_drewN | apply Kd.N_drew)); exact Kd.N_mono HO_16.out (fun _ hk => hk.2)⟩, ⟨by (with_reducible repeat (first | apply Kd.R_alloc | apply Kd.R_drewN | apply Kd.R_drew)); exact HO532.out⟩, ⟨by (with_reducible repeat (first | apply Kd.N_alloc | apply Kd.N_drewN | apply Kd.N_drew)); exact Kd.N_mono HO_16.out (fun _ hk => hk.2)⟩, ⟨by repeat (first | (with_reducible first | exact HB.out | apply below_alloc | apply pw_below_drewN | apply below_drew1) | exact HB.out)⟩⟩
               case round =>
                clear H'
                try clear c1
                try clear c2
                try clear p2
                try clear c4
                try clear c5
                try clear p5
                try clear q5
                try clear hx5
                try clear c6
                try clear p6
                try clear c7
                try clear c8
                try clear c8b0
                try clear c8b1
                try clear c8b2
                try clear c9
                try clear c9b0
                try clear c9b1
                try clear c10
                try clear c10b0
                try clear c11
                try clear c11b0
                try clear c12
                try clear c15
                try clear c15b0
                try clear c16
                try clear c16b0
                try clear c17
                try clear c17b0
                try clear c18
                try clear c19
                try clear c19b0
                try clear c19b1
                try clear c21
                try clear c21b0
                try clear c21b1
                try clear c23
                try clear c24
                try clear c24b0
                try clear c24b1
                try clear c25
                try clear c47
                try clear c47b0
                try clear c47b1
                try clear c49
                try clear c50
                try clear c51
                try clear p51
                try clear q51
                try clear hx51
                try clear c53
                try clear c53b0
                try clear hx510_0
                try clear p2
                try clear p5
                try clear p51
                try clear p510
                try clear p6
                try clear q5
                try clear q51
                try clear q510
                obtain ⟨x18_5, x108_5, rfl, HA, HK5, HO_16, HO_18, HO_106, HB⟩ := hrel
                cases gk with
                | zero => exact absurd HA.out (by simp [footlockerlaw23_StripeBack.l2])
                | succ k5 =>
                 have H := HA.out
                 clear HA
                 simp only [footlockerlaw23_StripeBack.l2] at H
                 by_cases c57 : x108_5 < (y527.length : Int)
                 ·rw [if_pos c57] at H
                  have c57b0 : decide (x108_5 < (y527.length : Int)) = true := decide_eq_true c57
                  clear c57
                  by_cases c58 : 0 ≤ x108_5
                  ·rw [if_pos c58] at H
                   have c58b0 : decide (0 ≤ x108_5) = true := decide_eq_true c58
                   clear c58
                   by_cases c59 : x108_5 < (y527.length : Int)
                   ·rw [if_pos c59] at H
                    have c59b0 : decide (x108_5 < (y527.length : Int)) = true := decide_eq_true c59
                    clear c59
                    by_cases c60 : x102_4 ≥ ((rd_L1 y527 x108_5).length : Int)
                    ·rw [if_pos c60] at H
                     have c60b0 : decide (((rd_L1 y527 x108_5).length : Int) ≤ x102_4) = true := decide_eq_true c60
                     clear c60
                     obtain rfl := Option.some.inj H
                     have p533 : 0 ≤ (x108_5 : Int) := of_decide_eq_true (by first | (with_reducible assumption) | assumption)
                     have q533 : x108_5 < (y527.length : Int) := of_decide_eq_true (by first | (with_reducible assumption) | assumption)
                     obtain ⟨ad533, A533_0, c533_0, e533, hx533_0, hl533_0, hi533_0⟩ := at_L1 (Kd.N_reads' HO_106.out).2.2 x108_5 p533 q533
                     cases e533
                     obtain ⟨ce533, hce533, hMe533, hcc533⟩ := Kd.N_get HO_106.out [] x108_5 p533 (by first | exact q533 | exact of_decide_eq_true (by first | (with_reducible assumption) | assumption) | (have e_ := (Kd.N_reads' HO_106.out).1; omega))
                     obtain ⟨ua533_0, uc533_0, rfl, ul533_0, ge533_0⟩ := Kd.FK_slice_open hMe533
                     have hv533_0 := hcc533 0 _ rfl
                     rw [Nat.add_zero, show ((Kd.slice 5 (Kd.int .u8))).sz = 1 from rfl, Nat.mul_one] at hv533_0
                     replace hv533_0 := Option.some.inj (hv533_0.symm.trans hx533_0)
                     injection hv533_0 with hva_ hvn_ hvc_
                     rw [hva_] at ge533_0
                     rw [hvc_] at ul533_0
                     have HL533_0 := Aside0.mk (show Kd.V (Kd.int .u8) 5 _ w.heap.size _ _ (rd_L1 y527 x108_5) from Kd.V_mk ul533_0 ge533_0)
                     clear hva_ hvn_ hvc_ ge533_0 ul533_0
                     clear hcc533 hce533
                     have HR533_0 := Aside0.mk hi533_0
                     have HC533_0 := Aside0.mk hl533_0
                     clear hi533_0 hl533_0
                     replace p533 := eq_true p533
                     replace q533 := eq_true q533
                     go_wp2
                     go_ret
                     exact ⟨by first | rfl | (simp [errW_none, errW_some] <;> rfl) | (simp [*, errW_none, errW_some] <;> rfl), by repeat (first | (with_reducible first | exact HB.out | apply below_alloc | apply pw_below_drewN | apply below_drew1) | exact HB.out)⟩
                    ·rw [if_neg c60] at H
                     have c60b0 : decide (((rd_L1 y527 x108_5).length : Int) ≤ x102_4) = false := decide_eq_false c60
                     clear c60
                     by_cases c61 : 0 ≤ x102_4
                     ·rw [if_pos c61] at H
                      have c61b0 : decide (0 ≤ x102_4) = true := decide_eq_true c61
                      clear c61
                      by_cases c62 : x102_4 < ((rd_L1 y527 x108_5).length : Int)
                      ·rw [if_pos c62] at H
                       have c62b0 : decide (x102_4 < ((rd_L1 y527 x108_5).length : Int)) = true := decide_eq_true c62
                       clear c62
                       by_cases c63 : x18_5.length < 140737488355328
                       ·rw [if_pos c63] at H
                        have LMc63 := Aside0.mk c63
                        clear c63
                        obtain ⟨y535, hy535⟩ : ∃ y_ : List Int, y_ = (x18_5 ++ [rd (rd_L1 y527 x108_5) x102_4]) := ⟨_, rfl⟩
                        replace H : (footlockerlaw23_StripeBack.l2 k5 l0 y527 x102_4 y535 (wrap64 (a1 + 8)) x102_4 y527 (y527.length : Int) (wrap64 (x108_5 + 1))) = some r := by first | (rw [hy535]; with_reducible exact H) | (have H2_ := (Option.bind_some _ _).symm.trans H; rw [hy535]; with_reducible exact H2_) | (have H2_ := (Option.bind_some _ _).symm.trans H; with_reducible exact H2_) | with_reducible exact H | (rw [hy535]; exact H) | exact H
                        have Ny535 := Aside0.mk hy535
                        clear hy535
                        have H' := Aside0.mk H
                        clear H
                        have p533 : 0 ≤ (x108_5 : Int) := of_decide_eq_true (by first | (with_reducible assumption) | assumption)
                        have q533 : x108_5 < (y527.length : Int) := of_decide_eq_true (by first | (with_reducible assumption) | assumption)
                        obtain ⟨ad533, A533_0, c533_0, e533, hx533_0, hl533_0, hi533_0⟩ := at_L1 (Kd.N_reads' HO_106.out).2.2 x108_5 p533 q533
                        cases e533
                        obtain ⟨ce533, hce533, hMe533, hcc533⟩ := Kd.N_get HO_106.out [] x108_5 p533 (by first | exact q533 | exact of_decide_eq_true (by first | (with_reducible assumption) | assumption) | (have e_ := (Kd.N_reads' HO_106.out).1; omega))
                        obtain ⟨ua533_0, uc533_0, rfl, ul533_0, ge533_0⟩ := Kd.FK_slice_open hMe533
                        have hv533_0 := hcc533 0 _ rfl
                        rw [Nat.add_zero, show ((Kd.slice 5 (Kd.int .u8))).sz = 1 from rfl, Nat.mul_one] at hv533_0
                        replace hv533_0 := Option.some.inj (hv533_0.symm.trans hx533_0)
                        injection hv533_0 with hva_ hvn_ hvc_
                        rw [hva_] at ge533_0
                        rw [hvc_] at ul533_0
                        have HL533_0 := Aside0.mk (show Kd.V (Kd.int .u8) 5 _ w.heap.size _ _ (rd_L1 y527 x108_5) from Kd.V_mk ul533_0 ge533_0)
                        clear hva_ hvn_ hvc_ ge533_0 ul533_0
                        clear hcc533 hce533
                        have HR533_0 := Aside0.mk hi533_0
                        have HC533_0 := Aside0.mk hl533_0
                        clear hi533_0 hl533_0
                        replace p533 := eq_true p533
                        replace q533 := eq_true q533
                        have p534 : 0 ≤ (x102_4 : Int) := of_decide_eq_true (by first | (with_reducible assumption) | assumption)
                        have q534 : x102_4 < ((rd_L1 y527 x108_5).length : Int) := of_decide_eq_true (by first | (with_reducible assumption) | assumption)
                        obtain ⟨ad534, e534, hx534_0⟩ := Kd.at_int (by repeat (first | (with_reducible exact HR533_0.out) | (with_reducible refine Kd.C_alloc ?_ _) | (with_reducible refine Kd.C_drewN ?_ _) | (with_reducible refine Kd.C_drew ?_) | exact HR533_0.out)) x102_4 p534 q534
                        cases e534
                        replace p534 := eq_true p534
                        replace q534 := eq_true q534
                        go_wp2_with (first | ((with_reducible refine gate_builtin (b := .append) (xs := #[.tmp 116, .tmp 121]) rfl ?_); (try (refine gate_guard (by rfl) ?_; dsimp only)); at_builtin; refine Kd.R_append (Kd.int .u8) (w0 := w) w.heap.size rfl (.tmp 116) (.tmp 121) 22 5 (.int .u8 0) 1 rfl Try.underlying22 info5 rfl (by decide) (by omega) u18 x18_5 (rd (rd_L1 y527 x108_5) x102_4) [.int .u8 (rd (rd_L1 y527 x108_5) x102_4)] (fun _ => True) (fun _ => False) rfl rfl ?aP (fun _ hk => hk.elim) ?aF ?aO ?aB ?aS ?aL ?_; (case aP => exact rfl); (case aB => exact (by repeat (first | (with_reducible first | exact HB.out | apply below_alloc | apply pw_below_drewN | apply below_drew1) | exact HB.out))); (case aF => exact (fun _ _ => trivial)); (case aO => exact (by (with_reducible repeat (first | apply Kd.R_alloc | apply Kd.R_drewN | apply Kd.R_drew)); exact HO_18.out)); (case aS => exact (below_size (by repeat (first | (with_reducible first | exact HB.out | apply below_alloc | apply pw_below_drewN | apply below_drew1) | exact HB.out)))); (case aL => have := LMc63.out; omega); intro v536 w64 ho hb hg hat; rw [← Ny535.out] at ho; have n0_ := Aside0.mk (Kd.N_afterv (ok := (fun _ => True)) (by (with_reducible repeat (first | apply Kd.N_alloc | apply Kd.N_drewN | apply Kd.N_drew)); exact Kd.N_mono HO_16.out (fun _ hk => ⟨trivial, hk⟩)) hg hat); have n1_ := Aside0.mk (Kd.N_afterv (ok := (fun _ => True)) (by (with_reducible repeat (first | apply Kd.N_alloc | apply Kd.N_drewN | apply Kd.N_drew)); exact Kd.N_mono HO_106.out (fun _ hk => ⟨trivial, hk⟩)) hg hat); have n2_ := Aside0.mk (Kd.V_afterv (ok := (fun k_ => some k_ ≠ (.slice (some ad533) y527.length co56 : Value).ownBlock)) (by (with_reducible repeat (first | apply Kd.V_alloc | apply Kd.V_drewN | apply Kd.V_drew)); exact Kd.V_mono HL533_0.out (fun _ hk => ⟨hk.2, hk.1⟩)) hg hat); have n3_ := Aside0.mk (hb); have n4_ := Aside0.mk (ho); clear HO_16; clear HO_106; clear HL533_0; clear HB; clear HO_18; have HO_16 := n0_; have HO_106 := n1_; have HL533_0 := n2_; have HB := n3_; have HO537 := n4_; clear n0_ n1_ n2_ n3_ n4_; clear ho hb hg hat))
                        go_roundg k5
                        case measure => have := HJ5.out; have := HK2.out; have := HJ43.out; have := HK4.out; have := HK5.out; omega
                        case rel => exact ⟨(y535), (wrap64 (x108_5 + 1)), (by first | rfl | (simp; done) | (simp [*]; done)), H', ⟨by have := HJ5.out; have := HK2.out; have := HJ43.out; have := HK4.out; have := HK5.out; omega⟩, ⟨by (with_reducible repeat (first | apply Kd.N_alloc | apply Kd.N_drewN | apply Kd.N_drew)); exact Kd.N_mono HO_16.out (fun _ hk => hk.2)⟩, ⟨by (with_reducible repeat (first | apply Kd.R_alloc | apply Kd.R_drewN | apply Kd.R_drew)); exact HO537.out⟩, ⟨by (with_reducible repeat (first | apply Kd.N_alloc | apply Kd.N_drewN | apply Kd.N_drew)); exact Kd.N_mono HO_106.out (fun _ hk => hk.2)⟩, ⟨by repeat (first | (with_reducible first | exact HB.out | apply below_alloc | apply pw_below_drewN | apply below_drew1) | exact HB.out)⟩⟩
                       ·rw [if_neg c63] at H
                        exact absurd H (by simp)
                      ·rw [if_neg c62] at H
                       exact absurd H (by simp)
                     ·rw [if_neg c61] at H
                      exact absurd H (by simp)
                   ·rw [if_neg c59] at H
                    exact absurd H (by simp)
                  ·rw [if_neg c58] at H
                   exact absurd H (by simp)
                 ·rw [if_neg c57] at H
                  have c57b0 : decide (x108_5 < (y527.length : Int)) = false := decide_eq_false c57
                  clear c57
                  replace H := Option.bind_eq_some_iff.mp H
                  obtain ⟨t538, A650, H⟩ := H
                  replace H : (if t538 = true then (footlockerlaw23_StripeBack.l1 k5 l0 y527 (wrap64 (a1 + 8)) (wrap64 (x102_4 + 1))) else (some false)) = some r := H
                  have A65 := Aside0.mk A650
                  clear A650
                  by_cases c66 : t538 = true
                  ·subst c66
                   have H1 : (footlockerlaw23_StripeBack.l1 k5 l0 y527 (wrap64 (a1 + 8)) (wrap64 (x102_4 + 1))) = some r := by rw [if_pos rfl] at H; exact H
                   clear H
                   have H := H1
                   clear H1
                   have H' := Aside0.mk H
                   clear H
                   obtain ⟨Ao67, co67, eo67⟩ := Kd.R_slice HO_18.out
                   subst eo67
                   go_wp2_with (first | ((with_reducible refine gate_callee (f := 21) rfl ?_); refine goesL_ (some 127) rfl rfl Try.func21 (by kernel_rfl) rfl #[.slice Ao67 x18_5.length co67, .int .i64 (l0.length : Int)] rfl (by (try simp only [List.map_toArray, List.map_cons, List.map_nil]); first | done | rfl | (simp only [List.length_drop, List.length_take]; rfl)) ?_; (with_reducible refine (systematic_Is.calls k5 _ _ x18_5 (l0.length : Int) true _ ?side1 ?side2 A65.out).mono ?_); (case side1 => repeat (first | exact (Kd.R_reads' HO_18.out).2.2 | (with_reducible refine Kd.C_alloc ?_ _) | (with_reducible refine Kd.C_drewN ?_ _) | (with_reducible refine Kd.C_drew ?_))); (case side2 => exact (Kd.R_reads' HO_18.out).2.1); rintro e w68 ⟨rfl, hb⟩; refine ⟨_, rfl, ?_⟩; have n0_ := Aside0.mk (Kd.N_below (by (with_reducible repeat (first | apply Kd.N_alloc | apply Kd.N_drewN | apply Kd.N_drew)); exact HO_16.out) hb); have n1_ := Aside0.mk (Kd.R_below (by (with_reducible repeat (first | apply Kd.R_alloc | apply Kd.R_drewN | apply Kd.R_drew)); exact HO_18.out) hb); have n2_ := Aside0.mk (Kd.N_below (by (with_reducible repeat (first | apply Kd.N_alloc | apply Kd.N_drewN | apply Kd.N_drew)); exact HO_106.out) hb); have n3_ := Aside0.mk (below_step (by repeat (first | (with_reducible first | exact HB.out | apply below_alloc | apply pw_below_drewN | apply below_drew1) | exact HB.out)) hb); clear HO_16; clear HO_18; clear HO_106; clear HB; have HO_16 := n0_; have HO_18 := n1_; have HO_106 := n2_; have HB := n3_; clear n0_ n1_ n2_ n3_; (try clear hb); (try clear hb2); (try clear hk); (try clear hi)))
                   go_roundg k5
                   case measure => have := HJ5.out; have := HK2.out; have := HJ43.out; have := HK4.out; have := HK5.out; omega
                   case rel => exact ⟨(wrap64 (x102_4 + 1)), (by first | rfl | (simp; done) | (simp [*]; done)), H', ⟨by have := HJ5.out; have := HK2.out; have := HJ43.out; have := HK4.out; have := HK5.out; omega⟩, ⟨by (with_reducible repeat (first | apply Kd.N_alloc | apply Kd.N_drewN | apply Kd.N_drew)); exact Kd.N_mono HO_16.out (fun _ hk => trivial)⟩, ⟨by repeat (first | (with_reducible first | exact HB.out | apply below_alloc | apply pw_below_drewN | apply below_drew1) | exact HB.out)⟩⟩
                  ·replace c66 := Bool.eq_false_iff.mpr c66
                   subst c66
                   have H1 : (some false) = some r := by rw [if_neg (show ¬ (false = true) by decide)] at H; exact H
                   clear H
                   have H := H1
                   clear H1
                   obtain rfl := Option.some.inj H
                   obtain ⟨Ao69, co69, eo69⟩ := Kd.R_slice HO_18.out
                   subst eo69
                   go_wp2_with (first | ((with_reducible refine gate_callee (f := 21) rfl ?_); refine goesL_ (some 127) rfl rfl Try.func21 (by kernel_rfl) rfl #[.slice Ao69 x18_5.length co69, .int .i64 (l0.length : Int)] rfl (by (try simp only [List.map_toArray, List.map_cons, List.map_nil]); first | done | rfl | (simp only [List.length_drop, List.length_take]; rfl)) ?_; (with_reducible refine (systematic_Is.calls k5 _ _ x18_5 (l0.length : Int) false _ ?side1 ?side2 A65.out).mono ?_); (case side1 => repeat (first | exact (Kd.R_reads' HO_18.out).2.2 | (with_reducible refine Kd.C_alloc ?_ _) | (with_reducible refine Kd.C_drewN ?_ _) | (with_reducible refine Kd.C_drew ?_))); (case side2 => exact (Kd.R_reads' HO_18.out).2.1); rintro e w70 ⟨rfl, hb⟩; refine ⟨_, rfl, ?_⟩; have n0_ := Aside0.mk (Kd.N_below (by (with_reducible repeat (first | apply Kd.N_alloc | apply Kd.N_drewN | apply Kd.N_drew)); exact HO_16.out) hb); have n1_ := Aside0.mk (Kd.R_below (by (with_reducible repeat (first | apply Kd.R_alloc | apply Kd.R_drewN | apply Kd.R_drew)); exact HO_18.out) hb); have n2_ := Aside0.mk (Kd.N_below (by (with_reducible repeat (first | apply Kd.N_alloc | apply Kd.N_drewN | apply Kd.N_drew)); exact HO_106.out) hb); have n3_ := Aside0.mk (below_step (by repeat (first | (with_reducible first | exact HB.out | apply below_alloc | apply pw_below_drewN | apply below_drew1) | exact HB.out)) hb); clear HO_16; clear HO_18; clear HO_106; clear HB; have HO_16 := n0_; have HO_18 := n1_; have HO_106 := n2_; have HB := n3_; clear n0_ n1_ n2_ n3_; (try clear hb); (try clear hb2); (try clear hk); (try clear hi)))
                   go_ret
                   exact ⟨by first | rfl | (simp [errW_none, errW_some] <;> rfl) | (simp [*, errW_none, errW_some] <;> rfl), by repeat (first | (with_reducible first | exact HB.out | apply below_alloc | apply pw_below_drewN | apply below_drew1) | exact HB.out)⟩
              ·rw [if_neg c53] at H
               have c53b0 : decide (x102_4 < (wrap64 (a1 + 8))) = false := decide_eq_false c53
               clear c53
               obtain rfl := Option.some.inj H
               go_wp2
               go_ret
               exact ⟨by first | rfl | (simp [errW_none, errW_some] <;> rfl) | (simp [*, errW_none, errW_some] <;> rfl), by repeat (first | (with_reducible first | exact HB.out | apply below_alloc | apply pw_below_drewN | apply below_drew1) | exact HB.out)⟩
           ·rw [if_neg c50] at H
            exact absurd H (by simp)
 ·replace c5 := Bool.eq_false_iff.mpr c5
  subst c5
  have H1 : (some false) = some r := by rw [if_neg (show ¬ (false = true) by decide)] at H; exact H
  clear H
  have H := H1
  clear H1
  obtain rfl := Option.some.inj H
  go_enter Try.func6, Try.ntmps6
  go_wp2_with (first | ((with_reducible refine gate_callee (f := 7) rfl ?_); refine goesL_ (some 21) rfl rfl Try.func7 (by kernel_rfl) rfl #[] rfl (by (try simp only [List.map_toArray, List.map_cons, List.map_nil]); first | done | rfl | (simp only [List.length_drop, List.length_take]; rfl)) ?_; (with_reducible refine (footlockerlaw23_alive.calls k  false _ A4.out).mono ?_); rintro e w71 ⟨rfl, hb⟩; refine ⟨_, rfl, ?_⟩; have n0_ := Aside0.mk (below_step (by repeat (first | (with_reducible first | exact HB.out | apply below_alloc | apply pw_below_drewN | apply below_drew1) | exact HB.out)) hb); clear HB; have HB := n0_; clear n0_; (try clear hb); (try clear hb2); (try clear hk); (try clear hi)))
  go_ret
  exact ⟨by first | rfl | (simp [errW_none, errW_some] <;> rfl) | (simp [*, errW_none, errW_some] <;> rfl), by repeat (first | (with_reducible first | exact HB.out | apply below_alloc | apply pw_below_drewN | apply below_drew1) | exact HB.out)⟩
def footlockerlaw23_StripeBack.Pure : Prop := ∀ (l0 : List (List Int)) (a1 : Int) (a2 : Int), (l0.length ≤ maxLen ∧ ∀ x2_ ∈ l0, x2_.length ≤ maxLen ∧ ∀ x3_ ∈ x2_, (Lit.int .u8 x3_).wf = true) → ((Lit.int .i64 a1).wf = true) → ((Lit.int .i64 a2).wf = true) → ∃ k, footlockerlaw23_StripeBack.f k l0 a1 a2 = some true
theorem footlockerlaw23_StripeBack.walk (P : footlockerlaw23_StripeBack.Pure) (A0 : Option Addr) (c0 : Nat) (l0 : List (List Int)) (a1 : Int) (a2 : Int) (w : World) (hr0 : Kd.C (Kd.slice 5 (Kd.int .u8)) w A0 l0.length l0) (hc0 : l0.length ≤ c0) (w0 : l0.length ≤ maxLen ∧ ∀ x2_ ∈ l0, x2_.length ≤ maxLen ∧ ∀ x3_ ∈ x2_, (Lit.int .u8 x3_).wf = true) (w1 : (Lit.int .i64 a1).wf = true) (w2 : (Lit.int .i64 a2).wf = true) :
 Calls Try.prog 6 #[.slice A0 l0.length c0, .int .i64 a1, .int .i64 a2] w fun e w' => e = .returned (.bool true) ∧ Below w.heap.size w w' := by
 obtain ⟨k, h⟩ := P l0 a1 a2 w0 w1 w2
 refine (footlockerlaw23_StripeBack.calls k A0 c0 l0 a1 a2 true w hr0 hc0 h).mono ?_
 rintro e w' ⟨rfl, hd⟩
 exact ⟨rfl, hd⟩
end Go.Proofs.Ytcdmgppjhdpgkaa.P
namespace Go.Proofs.Ytcdmgppjhdpgkaa.Al
open Go Go.Proofs.YtcdmgppjhdpgkaaW.PrintWords Go.Proofs.YtcdmgppjhdpgkaaW.PrintMore
structure G where
 v : BitVec 8
theorem G.eq_of {a b : G} (h : a.v = b.v) : a = b := by cases a; cases b; simp_all
instance : DecidableEq G := fun a b => if h : a.v = b.v then .isTrue (G.eq_of h) else .isFalse (fun e => h (by rw [e]))
instance : Zero G := ⟨⟨0#8⟩⟩
instance : Add G := ⟨fun a b => ⟨a.v ^^^ b.v⟩⟩
def xt (a : BitVec 8) : BitVec 8 := (a <<< 1) ^^^ (if a.getLsbD 7 then 0x1D#8 else 0#8)
def cb (c : Bool) (a : BitVec 8) : BitVec 8 := if c then a else 0#8
def gm (a b : BitVec 8) : BitVec 8 :=
 cb (b.getLsbD 0) a ^^^ (cb (b.getLsbD 1) (xt a) ^^^ (cb (b.getLsbD 2) (xt (xt a)) ^^^ (cb (b.getLsbD 3) (xt (xt (xt a))) ^^^ (cb (b.getLsbD 4) (xt (xt (xt (xt a)))) ^^^
  (cb (b.getLsbD 5) (xt (xt (xt (xt (xt a))))) ^^^ (cb (b.getLsbD 6) (xt (xt (xt (xt (xt (xt a)))))) ^^^ cb (b.getLsbD 7) (xt (xt (xt (xt (xt (xt (xt a)))))))))))))
instance : One G := ⟨⟨1#8⟩⟩
instance : Mul G := ⟨fun a b => ⟨gm a.v b.v⟩⟩
theorem zero_v : (0 : G).v = 0#8 := rfl
theorem add_v (a b : G) : (a + b).v = a.v ^^^ b.v := rfl
theorem cb_xor (c d : Bool) (a : BitVec 8) : cb (c ^^ d) a = cb c a ^^^ cb d a := by
 cases c <;> cases d <;> simp [cb]
theorem cb_add (c : Bool) (a b : BitVec 8) : cb c (a ^^^ b) = cb c a ^^^ cb c b := by
 cases c <;> simp [cb]
theorem xt_add (a b : BitVec 8) : xt (a ^^^ b) = xt a ^^^ xt b := by
 unfold xt
 have h : (a ^^^ b).getLsbD 7 = (a.getLsbD 7 ^^ b.getLsbD 7) := by simp
 have e : ∀ c : Bool, (if c then 0x1D#8 else 0#8) = cb c 0x1D#8 := fun _ => rfl
 rw [h, e, e, e, cb_xor, BitVec.shiftLeft_xor_distrib]
 ac_rfl
theorem gm_xor_right (a b c : BitVec 8) : gm a (b ^^^ c) = gm a b ^^^ gm a c := by
 unfold gm
 simp only [BitVec.getLsbD_xor, cb_xor]
 ac_rfl
theorem gm_xor_left (a b c : BitVec 8) : gm (a ^^^ b) c = gm a c ^^^ gm b c := by
 unfold gm
 simp only [xt_add, cb_add]
 ac_rfl
theorem sum_bits : ∀ a : Fin 256, (BitVec.ofFin a : BitVec 8) = cb ((BitVec.ofFin a : BitVec 8).getLsbD 0) 1#8 ^^^ (cb ((BitVec.ofFin a : BitVec 8).getLsbD 1) 2#8 ^^^ (cb ((BitVec.ofFin a : BitVec 8).getLsbD 2) 4#8 ^^^ (cb ((BitVec.ofFin a : BitVec 8).getLsbD 3) 8#8 ^^^ (cb ((BitVec.ofFin a : BitVec 8).getLsbD 4) 16#8 ^^^
 (cb ((BitVec.ofFin a : BitVec 8).getLsbD 5) 32#8 ^^^ (cb ((BitVec.ofFin a : BitVec 8).getLsbD 6) 64#8 ^^^ cb ((BitVec.ofFin a : BitVec 8).getLsbD 7) 128#8)))))) := by decide +kernel
theorem basis_ind (P : BitVec 8 → Prop) (h0 : P 0#8) (ha : ∀ a b, P a → P b → P (a ^^^ b)) (hb : ∀ i : Fin 8, P (1#8 <<< i.val)) (a : BitVec 8) : P a := by
 have hc : ∀ (c : Bool) (x : BitVec 8), P x → P (cb c x) := by
  intro c x hx
  cases c
  ·exact h0
  ·exact hx
 have h := sum_bits a.toFin
 rw [show (BitVec.ofFin a.toFin : BitVec 8) = a from rfl] at h
 rw [h]
 exact ha _ _ (hc _ _ (hb 0)) (ha _ _ (hc _ _ (hb 1)) (ha _ _ (hc _ _ (hb 2)) (ha _ _ (hc _ _ (hb 3)) (ha _ _ (hc _ _ (hb 4)) (ha _ _ (hc _ _ (hb 5)) (ha _ _ (hc _ _ (hb 6)) (hc _ _ (hb 7))))))))
theorem gm_zero_right (a : BitVec 8) : gm a 0#8 = 0#8 := by simp [gm, cb]
theorem gm_zero_left (a : BitVec 8) : gm 0#8 a = 0#8 := by
 have h : xt 0#8 = 0#8 := rfl
 have e : ∀ c, cb c 0#8 = 0#8 := by intro c; cases c <;> rfl
 simp [gm, h, e]
theorem comm_basis : ∀ i j : Fin 8, gm (1#8 <<< i.val) (1#8 <<< j.val) = gm (1#8 <<< j.val) (1#8 <<< i.val) := by decide +kernel
theorem assoc_basis : ∀ i j k : Fin 8, gm (gm (1#8 <<< i.val) (1#8 <<< j.val)) (1#8 <<< k.val) = gm (1#8 <<< i.val) (gm (1#8 <<< j.val) (1#8 <<< k.val)) := by decide +kernel
theorem gm_comm (a b : BitVec 8) : gm a b = gm b a := by
 refine basis_ind (fun a => gm a b = gm b a) ?_ ?_ ?_ a
 ·rw [gm_zero_left, gm_zero_right]
 ·intro x y hx hy
  rw [gm_xor_left, gm_xor_right, hx, hy]
 ·intro i
  refine basis_ind (fun b => gm (1#8 <<< i.val) b = gm b (1#8 <<< i.val)) ?_ ?_ ?_ b
  ·rw [gm_zero_left, gm_zero_right]
  ·intro x y hx hy
   rw [gm_xor_left, gm_xor_right, hx, hy]
  ·exact fun j => comm_basis i j
theorem gm_assoc (a b c : BitVec 8) : gm (gm a b) c = gm a (gm b c) := by
 refine basis_ind (fun a => gm (gm a b) c = gm a (gm b c)) ?_ ?_ ?_ a
 ·simp only [gm_zero_left]
 ·intro x y hx hy
  simp only [gm_xor_left, hx, hy]
 ·intro i
  refine basis_ind (fun b => gm (gm (1#8 <<< i.val) b) c = gm (1#8 <<< i.val) (gm b c)) ?_ ?_ ?_ b
  ·simp only [gm_zero_left, gm_zero_right]
  ·intro x y hx hy
   simp only [gm_xor_left, gm_xor_right, hx, hy]
  ·intro j
   refine basis_ind (fun c => gm (gm (1#8 <<< i.val) (1#8 <<< j.val)) c = gm (1#8 <<< i.val) (gm (1#8 <<< j.val) c)) ?_ ?_ ?_ c
   ·simp only [gm_zero_right]
   ·intro x y hx hy
    simp only [gm_xor_right, hx, hy]
   ·exact fun k => assoc_basis i j k
theorem gm_one (a : BitVec 8) : gm a 1#8 = a := by
 have : ∀ a : Fin 256, gm (BitVec.ofFin a) 1#8 = BitVec.ofFin a := by decide +kernel
 exact this a.toFin
theorem add_comm (a b : G) : a + b = b + a := G.eq_of (BitVec.xor_comm _ _)
theorem add_assoc (a b c : G) : a + b + c = a + (b + c) := G.eq_of (BitVec.xor_assoc _ _ _)
theorem add_left_comm (a b c : G) : a + (b + c) = b + (a + c) := by rw [← add_assoc, add_comm a b, add_assoc]
theorem add_zero (a : G) : a + 0 = a := G.eq_of (by simp [add_v, zero_v])
theorem zero_add (a : G) : 0 + a = a := by rw [add_comm, add_zero]
theorem add_self (a : G) : a + a = 0 := G.eq_of (by simp [add_v, zero_v])
theorem add_add_self (a b : G) : a + (a + b) = b := by rw [← add_assoc, add_self, zero_add]
theorem add_eq_zero {a b : G} : a + b = 0 ↔ a = b := by
 constructor
 ·intro h
  have := add_add_self a b
  rw [h, add_zero] at this
  exact this
 ·rintro rfl
  exact add_self a
theorem mul_comm (a b : G) : a * b = b * a := G.eq_of (gm_comm _ _)
theorem mul_assoc (a b c : G) : a * b * c = a * (b * c) := G.eq_of (gm_assoc _ _ _)
theorem mul_left_comm (a b c : G) : a * (b * c) = b * (a * c) := by rw [← mul_assoc, mul_comm a b, mul_assoc]
theorem mul_add (a b c : G) : a * (b + c) = a * b + a * c := G.eq_of (gm_xor_right _ _ _)
theorem add_mul (a b c : G) : (a + b) * c = a * c + b * c := G.eq_of (gm_xor_left _ _ _)
theorem mul_zero (a : G) : a * 0 = 0 := G.eq_of (gm_zero_right _)
theorem zero_mul (a : G) : 0 * a = 0 := G.eq_of (gm_zero_left _)
theorem mul_one (a : G) : a * 1 = a := G.eq_of (gm_one _)
theorem one_mul (a : G) : 1 * a = a := by rw [mul_comm, mul_one]
theorem one_ne_zero : (1 : G) ≠ 0 := by decide
def p254 (a : G) : G :=
 let b := a * a
 let c := b * b
 let d := c * c
 let e := d * d
 let f := e * e
 let g := f * f
 let h := g * g
 b * c * d * e * f * g * h
instance : Std.Commutative (α := G) (· + ·) := ⟨add_comm⟩
instance : Std.Associative (α := G) (· + ·) := ⟨add_assoc⟩
instance : Std.Commutative (α := G) (· * ·) := ⟨mul_comm⟩
instance : Std.Associative (α := G) (· * ·) := ⟨mul_assoc⟩
theorem inv_all : ∀ a : Fin 256, a.val ≠ 0 → (⟨BitVec.ofFin a⟩ : G) * p254 ⟨BitVec.ofFin a⟩ = 1 := by decide +kernel
def inv (a : G) : G := p254 a
theorem mul_inv {a : G} (h : a ≠ 0) : a * inv a = 1 := by
 have := inv_all a.v.toFin (by
  intro e
  apply h
  apply G.eq_of
  exact BitVec.eq_of_toNat_eq e)
 exact this
theorem inv_mul {a : G} (h : a ≠ 0) : inv a * a = 1 := by rw [mul_comm, mul_inv h]
theorem mul_eq_zero {a b : G} : a * b = 0 ↔ a = 0 ∨ b = 0 := by
 constructor
 ·intro h
  by_cases ha : a = 0
  ·exact .inl ha
  ·right
   have := congrArg (inv a * ·) h
   simp only [← mul_assoc, inv_mul ha, one_mul, mul_zero] at this
   exact this
 ·rintro (rfl | rfl)
  ·exact zero_mul _
  ·exact mul_zero _
theorem mul_ne_zero {a b : G} (ha : a ≠ 0) (hb : b ≠ 0) : a * b ≠ 0 := fun h => (mul_eq_zero.1 h).elim ha hb
def G.i (a : G) : Int := (a.v.toNat : Int)
def G.of (x : Int) : G := ⟨BitVec.ofInt 8 x⟩
theorem i_nonneg (a : G) : 0 ≤ a.i := by unfold G.i; omega
theorem i_lt (a : G) : a.i < 256 := by unfold G.i; have := a.v.isLt; omega
theorem i_inj {a b : G} : a.i = b.i ↔ a = b := by
 constructor
 ·intro h
  apply G.eq_of
  apply BitVec.eq_of_toNat_eq
  unfold G.i at h
  omega
 ·rintro rfl
  rfl
theorem i_of {x : Int} (h0 : 0 ≤ x) (h1 : x < 256) : (G.of x).i = x := by
 simp only [G.of, G.i, BitVec.toNat_ofInt]
 omega
theorem i_zero : (0 : G).i = 0 := rfl
theorem i_eq_zero {a : G} : a.i = 0 ↔ a = 0 := by rw [← i_zero, i_inj]
theorem xor_i (a b : G) : Go.bits .xor .u8 a.i b.i = (a + b).i := by
 unfold Go.bits G.i
 simp only [IntKind.wrap_u8]
 show ((BitVec.ofInt 8 (a.v.toNat : Int) ^^^ BitVec.ofInt 8 (b.v.toNat : Int)).toNat : Int) % 256 = ((a.v ^^^ b.v).toNat : Int)
 simp only [BitVec.ofInt_natCast, BitVec.ofNat_toNat, BitVec.setWidth_eq]
 have := (a.v ^^^ b.v).isLt
 omega
end Go.Proofs.Ytcdmgppjhdpgkaa.Al
namespace Go.Proofs.Ytcdmgppjhdpgkaa.Al
set_option linter.unusedVariables false
set_option linter.unusedSimpArgs false
def co (p : List G) (i : Nat) : G := p.getD i 0
theorem co_nil (i : Nat) : co [] i = 0 := rfl
theorem co_succ (a : G) (p : List G) (i : Nat) : co (a :: p) (i + 1) = co p i := rfl
theorem co_lt {p : List G} {i : Nat} (h : i < p.length) : co p i = p[i] := by
 simp [co, List.getD_eq_getElem?_getD, List.getElem?_eq_getElem h]
theorem co_ge {p : List G} {i : Nat} (h : p.length ≤ i) : co p i = 0 := by
 simp [co, List.getD_eq_getElem?_getD, List.getElem?_eq_none h]
theorem co_take (p : List G) (n i : Nat) : co (p.take n) i = if i < n then co p i else 0 := by
 simp only [co, List.getD_eq_getElem?_getD, List.getElem?_take]
 split <;> rfl
theorem co_drop (p : List G) (n i : Nat) : co (p.drop n) i = co p (n + i) := by
 simp only [co, List.getD_eq_getElem?_getD, List.getElem?_drop]
theorem co_append (p q : List G) (i : Nat) : co (p ++ q) i = if i < p.length then co p i else co q (i - p.length) := by
 simp only [co, List.getD_eq_getElem?_getD, List.getElem?_append]
 split <;> rfl
theorem co_set (p : List G) (n i : Nat) (a : G) (h : n < p.length) : co (p.set n a) i = if i = n then a else co p i := by
 simp only [co, List.getD_eq_getElem?_getD, List.getElem?_set]
 by_cases e : n = i
 ·subst e
  simp [h]
 ·simp [e, Ne.symm e]
theorem co_replicate (n i : Nat) : co (List.replicate n 0) i = 0 := by
 simp only [co, List.getD_eq_getElem?_getD, List.getElem?_replicate]
 split <;> rfl
theorem ext_co {p q : List G} (hl : p.length = q.length) (h : ∀ i, i < p.length → co p i = co q i) : p = q := by
 apply List.ext_getElem hl
 intro i h1 h2
 have := h i h1
 rwa [co_lt h1, co_lt h2] at this
def tab (n : Nat) (f : Nat → G) : List G := (List.range n).map f
theorem tab_length (n : Nat) (f : Nat → G) : (tab n f).length = n := by simp [tab]
theorem co_tab (n : Nat) (f : Nat → G) (i : Nat) : co (tab n f) i = if i < n then f i else 0 := by
 by_cases h : i < n
 ·rw [if_pos h, co_lt (by rw [tab_length]; exact h)]
  simp [tab]
 ·rw [if_neg h, co_ge (by rw [tab_length]; omega)]
theorem tab_succ (n : Nat) (f : Nat → G) : tab (n + 1) f = tab n f ++ [f n] := by simp [tab, List.range_succ]
theorem tab_zero (f : Nat → G) : tab 0 f = [] := rfl
def trim : List G → List G
 | [] => []
 | a :: p => if trim p = [] ∧ a = 0 then [] else a :: trim p
theorem co_trim (p : List G) : ∀ i, co (trim p) i = co p i := by
 induction p with
 | nil => intro i; rfl
 | cons a p ih =>
  intro i
  unfold trim
  by_cases h : trim p = [] ∧ a = 0
  ·rw [if_pos h]
   obtain ⟨h1, rfl⟩ := h
   cases i with
   | zero => rfl
   | succ i => rw [co_succ, ← ih, h1, co_nil, co_nil]
  ·rw [if_neg h]
   cases i with
   | zero => rfl
   | succ i => rw [co_succ, co_succ, ih]
theorem trim_eq_nil {p : List G} (h : ∀ i, co p i = 0) : trim p = [] := by
 induction p with
 | nil => rfl
 | cons a p ih =>
  unfold trim
  rw [if_pos ⟨ih (fun i => h (i + 1)), h 0⟩]
theorem trim_congr {p q : List G} (h : ∀ i, co p i = co q i) : trim p = trim q := by
 induction p generalizing q with
 | nil => rw [trim_eq_nil (p := q) (fun i => (h i).symm.trans (co_nil i))]; rfl
 | cons a p ih =>
  cases q with
  | nil => rw [trim_eq_nil (p := a :: p) (fun i => (h i).trans (co_nil i))]; rfl
  | cons b q =>
   have h0 : a = b := h 0
   have h1 : trim p = trim q := ih (fun i => h (i + 1))
   unfold trim
   rw [h0, h1]
theorem trim_trim (p : List G) : trim (trim p) = trim p := trim_congr (co_trim p)
theorem trim_length_le (p : List G) : (trim p).length ≤ p.length := by
 induction p with
 | nil => exact Nat.le_refl _
 | cons a p ih =>
  unfold trim
  split
  ·exact Nat.zero_le _
  ·simp only [List.length_cons]; omega
theorem trim_last {p : List G} {n : Nat} (h : (trim p).length = n + 1) : co p n ≠ 0 := by
 induction p generalizing n with
 | nil => cases h
 | cons a p ih =>
  unfold trim at h
  by_cases hc : trim p = [] ∧ a = 0
  ·rw [if_pos hc] at h
   cases h
  ·rw [if_neg hc, List.length_cons] at h
   cases n with
   | zero =>
    have h1 : trim p = [] := List.eq_nil_of_length_eq_zero (by omega)
    intro e
    exact hc ⟨h1, e⟩
   | succ n => exact ih (by omega)
theorem trim_ge {p : List G} {i : Nat} (h : (trim p).length ≤ i) : co p i = 0 := by rw [← co_trim, co_ge h]
theorem trim_length_of {p : List G} {m : Nat} (h0 : ∀ j, m ≤ j → co p j = 0) (h1 : m = 0 ∨ co p (m - 1) ≠ 0) : (trim p).length = m := by
 rcases Nat.lt_trichotomy (trim p).length m with h | h | h
 ·exfalso
  rcases h1 with h1 | h1
  ·omega
  ·exact h1 (trim_ge (by omega))
 ·exact h
 ·exfalso
  obtain ⟨n, hn⟩ : ∃ n, (trim p).length = n + 1 := ⟨(trim p).length - 1, by omega⟩
  exact trim_last hn (h0 n (by omega))
theorem trim_eq_take (p : List G) : trim p = p.take (trim p).length := by
 have hle := trim_length_le p
 apply ext_co
 ·rw [List.length_take]; omega
 ·intro i hi
  rw [co_trim, co_take, if_pos hi]
theorem trim_len_le_of {p : List G} {m : Nat} (h : ∀ j, m ≤ j → co p j = 0) : (trim p).length ≤ m := by
 rcases Nat.lt_or_ge m (trim p).length with hlt | hge
 ·exfalso
  obtain ⟨n, hn⟩ : ∃ n, (trim p).length = n + 1 := ⟨(trim p).length - 1, by omega⟩
  exact trim_last hn (h n (by omega))
 ·exact hge
def ev : List G → G → G
 | [], _ => 0
 | a :: p, x => a + x * ev p x
theorem ev_nil (x : G) : ev [] x = 0 := rfl
theorem ev_cons (a : G) (p : List G) (x : G) : ev (a :: p) x = a + x * ev p x := rfl
theorem ev_trim (p : List G) (x : G) : ev (trim p) x = ev p x := by
 induction p with
 | nil => rfl
 | cons a p ih =>
  unfold trim
  by_cases h : trim p = [] ∧ a = 0
  ·rw [if_pos h]
   obtain ⟨h1, rfl⟩ := h
   rw [ev_cons, ← ih, h1, ev_nil, mul_zero, add_zero]
  ·rw [if_neg h, ev_cons, ev_cons, ih]
def zadd : List G → List G → List G
 | [], q => q
 | p, [] => p
 | a :: p, b :: q => (a + b) :: zadd p q
theorem co_zadd (p q : List G) (i : Nat) : co (zadd p q) i = co p i + co q i := by
 induction p generalizing q i with
 | nil => rw [zadd, co_nil, zero_add]
 | cons a p ih =>
  cases q with
  | nil => rw [zadd, co_nil, add_zero]; intro h; cases h
  | cons b q =>
   cases i with
   | zero => rfl
   | succ i => rw [zadd, co_succ, co_succ, co_succ, ih]
theorem ev_zadd (p q : List G) (x : G) : ev (zadd p q) x = ev p x + ev q x := by
 induction p generalizing q with
 | nil => rw [zadd, ev_nil, zero_add]
 | cons a p ih =>
  cases q with
  | nil => rw [zadd, ev_nil, add_zero]; intro h; cases h
  | cons b q =>
   rw [zadd, ev_cons, ev_cons, ev_cons, ih, mul_add]
   ac_rfl
theorem zadd_length (p q : List G) : (zadd p q).length = max p.length q.length := by
 induction p generalizing q with
 | nil => rw [zadd, List.length_nil]; omega
 | cons a p ih =>
  cases q with
  | nil => rw [zadd, List.length_nil]; omega; intro h; cases h
  | cons b q => rw [zadd, List.length_cons, List.length_cons, List.length_cons, ih]; omega
def padd (p q : List G) : List G := trim (zadd p q)
theorem ev_padd (p q : List G) (x : G) : ev (padd p q) x = ev p x + ev q x := by rw [padd, ev_trim, ev_zadd]
theorem padd_length_le (p q : List G) : (padd p q).length ≤ max p.length q.length := by
 have := trim_length_le (zadd p q)
 rw [zadd_length] at this
 exact this
theorem trim_padd (p q : List G) : trim (padd p q) = padd p q := trim_trim _
def scale (c : G) (p : List G) : List G := p.map (c * ·)
theorem co_scale (c : G) (p : List G) (i : Nat) : co (scale c p) i = c * co p i := by
 induction p generalizing i with
 | nil => rw [scale, List.map_nil, co_nil, mul_zero]
 | cons a p ih =>
  cases i with
  | zero => rfl
  | succ i => exact ih i
theorem ev_scale (c : G) (p : List G) (x : G) : ev (scale c p) x = c * ev p x := by
 induction p with
 | nil => rw [scale, List.map_nil, ev_nil, mul_zero]
 | cons a p ih =>
  show c * a + x * ev (scale c p) x = _
  rw [ih, ev_cons, mul_add, mul_left_comm]
theorem scale_length (c : G) (p : List G) : (scale c p).length = p.length := List.length_map _
def sum (f : Nat → G) : Nat → G
 | 0 => 0
 | n + 1 => sum f n + f n
theorem sum_zero (f : Nat → G) : sum f 0 = 0 := rfl
theorem sum_succ (f : Nat → G) (n : Nat) : sum f (n + 1) = sum f n + f n := rfl
theorem sum_congr {f g : Nat → G} {n : Nat} (h : ∀ i, i < n → f i = g i) : sum f n = sum g n := by
 induction n with
 | zero => rfl
 | succ n ih => rw [sum_succ, sum_succ, ih (fun i hi => h i (by omega)), h n (by omega)]
theorem sum_add (f g : Nat → G) (n : Nat) : sum (fun i => f i + g i) n = sum f n + sum g n := by
 induction n with
 | zero => rw [sum_zero, sum_zero, sum_zero, add_zero]
 | succ n ih =>
  simp only [sum_succ, ih]
  ac_rfl
theorem sum_eq_zero {f : Nat → G} {n : Nat} (h : ∀ i, i < n → f i = 0) : sum f n = 0 := by
 induction n with
 | zero => rfl
 | succ n ih => rw [sum_succ, ih (fun i hi => h i (by omega)), h n (by omega), add_zero]
theorem sum_front (f : Nat → G) (n : Nat) : sum f (n + 1) = f 0 + sum (fun i => f (i + 1)) n := by
 induction n with
 | zero => rw [sum_succ, sum_zero, sum_zero, add_comm]
 | succ n ih => rw [sum_succ, ih, sum_succ, add_assoc]
theorem sum_extend {f : Nat → G} {n m : Nat} (hnm : n ≤ m) (h : ∀ i, n ≤ i → i < m → f i = 0) : sum f m = sum f n := by
 induction m with
 | zero => rw [show n = 0 by omega]
 | succ m ih =>
  by_cases e : n = m + 1
  ·rw [e]
  ·rw [sum_succ, ih (by omega) (fun i h1 h2 => h i h1 (by omega)), h m (by omega) (by omega), add_zero]
theorem sum_single {f : Nat → G} {n k : Nat} (hk : k < n) (h : ∀ i, i < n → i ≠ k → f i = 0) : sum f n = f k := by
 induction n with
 | zero => omega
 | succ n ih =>
  rw [sum_succ]
  by_cases e : k = n
  ·subst e
   rw [sum_eq_zero (fun i hi => h i (by omega) (by omega)), zero_add]
  ·rw [ih (by omega) (fun i hi hne => h i (by omega) hne), h n (by omega) (by omega), add_zero]
def rmul : List G → List G → List G
 | [], _ => []
 | a :: p, q => zadd (scale a q) (0 :: rmul p q)
theorem ev_rmul (p q : List G) (x : G) : ev (rmul p q) x = ev p x * ev q x := by
 induction p with
 | nil => rw [rmul, ev_nil, zero_mul]
 | cons a p ih => rw [rmul, ev_zadd, ev_scale, ev_cons, ih, ev_cons, add_mul, zero_add, mul_assoc]
theorem co_rmul (p q : List G) (m : Nat) : co (rmul p q) m = sum (fun j => co p j * co q (m - j)) (m + 1) := by
 induction p generalizing m with
 | nil =>
  rw [rmul, co_nil, sum_eq_zero]
  intro i _
  rw [co_nil, zero_mul]
 | cons a p ih =>
  rw [rmul, co_zadd, co_scale, sum_front]
  congr 1
  cases m with
  | zero => rfl
  | succ m =>
   rw [co_succ, ih]
   apply sum_congr
   intro i hi
   rw [co_succ, show m + 1 - (i + 1) = m - i by omega]
def pmul (p q : List G) : List G := trim (rmul p q)
theorem ev_pmul (p q : List G) (x : G) : ev (pmul p q) x = ev p x * ev q x := by rw [pmul, ev_trim, ev_rmul]
theorem co_pmul (p q : List G) (m : Nat) : co (pmul p q) m = sum (fun j => co p j * co q (m - j)) (m + 1) := by rw [pmul, co_trim, co_rmul]
theorem trim_pmul (p q : List G) : trim (pmul p q) = pmul p q := trim_trim _
theorem co_pmul_ge {p q : List G} {m a b : Nat} (ha : ∀ i, a ≤ i → co p i = 0) (hb : ∀ i, b ≤ i → co q i = 0) (hm : a + b ≤ m + 1) : co (pmul p q) m = 0 := by
 rw [co_pmul]
 apply sum_eq_zero
 intro i hi
 by_cases h : a ≤ i
 ·rw [ha i h, zero_mul]
 ·rw [hb (m - i) (by omega), mul_zero]
def quo (a : G) : List G → List G
 | [] => []
 | c :: p => if p = [] then [] else ev p a :: quo a p
theorem ev_quo (a x : G) (p : List G) : ev p x + ev p a = (x + a) * ev (quo a p) x := by
 induction p with
 | nil => rw [ev_nil, ev_nil, add_self, quo, ev_nil, mul_zero]
 | cons c p ih =>
  unfold quo
  by_cases h : p = []
  ·subst h
   rw [if_pos rfl, ev_cons, ev_nil, ev_cons, ev_nil, mul_zero, mul_zero, add_self, mul_zero]
  ·rw [if_neg h, ev_cons, ev_cons, ev_cons, mul_add, mul_left_comm, ← ih]
   have : c + x * ev p x + (c + a * ev p a) = x * ev p x + a * ev p a := by
    rw [add_assoc, add_left_comm (x * ev p x) c, add_add_self]
   rw [this, mul_add, add_mul]
   have e2 : x * ev p a + a * ev p a + (x * ev p x + x * ev p a) = x * ev p x + a * ev p a + (x * ev p a + x * ev p a) := by ac_rfl
   rw [e2, add_self, add_zero]
theorem quo_length (a : G) (p : List G) : (quo a p).length = p.length - 1 := by
 induction p with
 | nil => rfl
 | cons c p ih =>
  unfold quo
  by_cases h : p = []
  ·subst h
   rfl
  ·rw [if_neg h, List.length_cons, ih, List.length_cons]
   have : 0 < p.length := List.length_pos_iff.2 h
   omega
theorem of_quo {a : G} {p : List G} (h : ∀ i, co (quo a p) i = 0) (h0 : ev p a = 0) (i : Nat) : co p i = 0 := by
 induction p generalizing i with
 | nil => rfl
 | cons c p ih =>
  by_cases hp : p = []
  ·subst hp
   rw [ev_cons, ev_nil, mul_zero, add_zero] at h0
   cases i with
   | zero => exact h0
   | succ i => rfl
  ·unfold quo at h
   rw [if_neg hp] at h
   have h1 : ev p a = 0 := h 0
   have h2 : ∀ i, co (quo a p) i = 0 := fun i => h (i + 1)
   rw [ev_cons, h1, mul_zero, add_zero] at h0
   cases i with
   | zero => exact h0
   | succ i => exact ih h2 h1 i
theorem roots_zero : ∀ (xs : List G) (p : List G), xs.Nodup → p.length ≤ xs.length → (∀ x ∈ xs, ev p x = 0) → ∀ i, co p i = 0 := by
 intro xs
 induction xs with
 | nil =>
  intro p _ hl _ i
  rw [List.eq_nil_of_length_eq_zero (show p.length = 0 by simpa using hl), co_nil]
 | cons a xs ih =>
  intro p hd hl hr
  have ha : ev p a = 0 := hr a List.mem_cons_self
  apply of_quo (a := a) _ ha
  apply ih _ (List.nodup_cons.1 hd).2
  ·rw [quo_length]
   simp only [List.length_cons] at hl
   omega
  ·intro x hx
   have h1 := ev_quo a x p
   rw [hr x (List.mem_cons_of_mem _ hx), ha, add_zero] at h1
   have hne : x + a ≠ 0 := by
    intro e
    have := add_eq_zero.1 e
    subst this
    exact (List.nodup_cons.1 hd).1 hx
   exact (mul_eq_zero.1 h1.symm).resolve_left hne
theorem same_of_values {xs p q : List G} (hd : xs.Nodup) (hp : p.length ≤ xs.length) (hq : q.length ≤ xs.length) (h : ∀ x ∈ xs, ev p x = ev q x) (i : Nat) : co p i = co q i := by
 have := roots_zero xs (zadd p q) hd (by rw [zadd_length]; omega) (fun x hx => by rw [ev_zadd, h x hx, add_self]) i
 rw [co_zadd] at this
 exact add_eq_zero.1 this
end Go.Proofs.Ytcdmgppjhdpgkaa.Al
namespace Go.Proofs.Ytcdmgppjhdpgkaa.Al
open Go Go.RowKit Go.Proofs.YtcdmgppjhdpgkaaW.PrintWords Go.Proofs.YtcdmgppjhdpgkaaW.PrintMore Go.Proofs.Ytcdmgppjhdpgkaa.P
set_option linter.unusedVariables false
set_option linter.unusedSimpArgs false
theorem Ev.pos {α : Type} {c : Prop} [Decidable c] {A B : Nat → Option α} {r : α} (h : c) (hA : Ev A r) : Ev (fun k => if c then A k else B k) r := by
 simp only [if_pos h]; exact hA
theorem Ev.neg {α : Type} {c : Prop} [Decidable c] {A B : Nat → Option α} {r : α} (h : ¬ c) (hB : Ev B r) : Ev (fun k => if c then A k else B k) r := by
 simp only [if_neg h]; exact hB
theorem evc {α : Type} {g : Nat → Option α} {r r' : α} (h : Ev g r) (e : r = r') : Ev g r' := e ▸ h
theorem Ev.somef {α β : Type} {f : Nat → α → Option β} {a : α} {r : β} (h : Ev (fun k => f k a) r) : Ev (fun k => (some a).bind (f k)) r := h
theorem wrap_sm {x : Int} (h0 : -9223372036854775808 ≤ x) (h1 : x ≤ 9223372036854775807) : wrap64 x = x := by unfold wrap64; omega
def tm (a : G) : G := ⟨xt a.v⟩
theorem twice_all : ∀ a : Fin 256, gf_twice.f (a.val : Int) = some ((xt (BitVec.ofFin a)).toNat : Int) := by decide +kernel
theorem twice_i (a : G) : gf_twice.f a.i = some (tm a).i := twice_all a.v.toFin
theorem and_one {x : Int} (h0 : 0 ≤ x) (h1 : x < 256) : Go.bits .and .u8 x 1 = x % 2 := bits_mask .u8 8 (by decide) wraps_u8 1 (by decide) x h0 h1
def gmN : Nat → G → Nat → G
 | 0, _, _ => 0
 | n + 1, a, b => (if b % 2 = 1 then a else 0) + gmN n (tm a) (b / 2)
theorem gmN_zero (n : Nat) (a : G) : gmN n a 0 = 0 := by
 induction n generalizing a with
 | zero => rfl
 | succ n ih => rw [gmN, if_neg (by decide), Nat.zero_div, ih, add_zero]
theorem bit_cb (b : BitVec 8) (i : Nat) (a : G) : (if b.toNat / 2 ^ i % 2 = 1 then a else 0) = (⟨cb (b.getLsbD i) a.v⟩ : G) := by
 have h : b.getLsbD i = decide (b.toNat / 2 ^ i % 2 = 1) := by
  rw [BitVec.getLsbD, Nat.testBit_eq_decide_div_mod_eq]
 rw [h]
 by_cases e : b.toNat / 2 ^ i % 2 = 1
 ·rw [if_pos e, decide_eq_true e]; rfl
 ·rw [if_neg e, decide_eq_false e]; rfl
theorem mul_gmN (a b : G) : a * b = gmN 8 a b.v.toNat := by
 simp only [gmN, Nat.div_div_eq_div_mul]
 have h0 := bit_cb b.v 0 a
 simp only [Nat.pow_zero, Nat.div_one] at h0
 rw [h0, bit_cb b.v 1, bit_cb b.v 2, bit_cb b.v 3, bit_cb b.v 4, bit_cb b.v 5, bit_cb b.v 6, bit_cb b.v 7, add_zero]
 rfl
theorem mul_l0 (n : Nat) : ∀ (a : G) (b : Nat) (o : G), b < 2 ^ n → b < 256 → Ev (fun k => gf_Mul.l0 k a.i (b : Int) o.i) (o + gmN n a b).i := by
 induction n with
 | zero =>
  intro a b o h _
  obtain rfl : b = 0 := by omega
  refine Ev.step (fun k => gf_Mul.l0.eq_2 _ _ _ _) (Ev.pos rfl ?_)
  rw [gmN, add_zero]
  exact Ev.now _
 | succ n ih =>
  intro a b o h h1
  refine Ev.step (fun k => gf_Mul.l0.eq_2 _ _ _ _) ?_
  by_cases hb : b = 0
  ·subst hb
   refine Ev.pos rfl ?_
   rw [gmN_zero, add_zero]
   exact Ev.now _
  ·refine Ev.neg (by omega) ?_
   rw [and_one (by omega) (by omega), twice_i]
   have hd : ((b : Int) / 2) = ((b / 2 : Nat) : Int) := by omega
   rw [hd]
   by_cases ho : b % 2 = 1
   ·refine Ev.neg (by omega) ?_
    rw [xor_i]
    refine evc (ih (tm a) (b / 2) (o + a) (by rw [Nat.pow_succ] at h; omega) (by omega)) ?_
    rw [gmN, if_pos ho, add_assoc]
   ·refine Ev.pos (by omega) ?_
    refine evc (ih (tm a) (b / 2) o (by rw [Nat.pow_succ] at h; omega) (by omega)) ?_
    rw [gmN, if_neg ho, zero_add]
theorem mul_ev (a b : G) : Ev (fun k => gf_Mul.f k a.i b.i) (a * b).i := by
 have h := mul_l0 8 a b.v.toNat 0 b.v.isLt b.v.isLt
 rw [zero_add, ← mul_gmN] at h
 exact h
end Go.Proofs.Ytcdmgppjhdpgkaa.Al
namespace Go.Proofs.Ytcdmgppjhdpgkaa.Al
open Go Go.RowKit Go.Proofs.YtcdmgppjhdpgkaaW.PrintWords Go.Proofs.YtcdmgppjhdpgkaaW.PrintMore Go.Proofs.Ytcdmgppjhdpgkaa.P
set_option linter.unusedVariables false
set_option linter.unusedSimpArgs false
def bs (p : List G) : List Int := p.map G.i
theorem bs_length (p : List G) : (bs p).length = p.length := List.length_map _
theorem bs_cons (a : G) (p : List G) : bs (a :: p) = a.i :: bs p := rfl
theorem bs_append (p q : List G) : bs (p ++ q) = bs p ++ bs q := List.map_append
theorem bs_take (p : List G) (n : Nat) : (bs p).take n = bs (p.take n) := List.map_take.symm
theorem bs_drop (p : List G) (n : Nat) : (bs p).drop n = bs (p.drop n) := List.map_drop.symm
theorem bs_set (p : List G) (n : Nat) (a : G) : (bs p).set n a.i = bs (p.set n a) := List.map_set.symm
theorem bs_replicate (n : Nat) : List.replicate n (0 : Int) = bs (List.replicate n 0) := by rw [bs, List.map_replicate]; rfl
theorem rd_bs (p : List G) (n : Nat) : rd (bs p) (n : Int) = (co p n).i := by
 simp only [rd, bs, Int.toNat_natCast, co, List.getD_eq_getElem?_getD, List.getElem?_map]
 cases p[n]? <;> rfl
theorem of_bytes : ∀ l : List Int, (∀ x ∈ l, 0 ≤ x ∧ x < 256) → ∃ p, l = bs p := by
 intro l
 induction l with
 | nil => intro _; exact ⟨[], rfl⟩
 | cons a l ih =>
  intro h
  obtain ⟨p, rfl⟩ := ih (fun x hx => h x (List.mem_cons_of_mem _ hx))
  have ha := h a List.mem_cons_self
  exact ⟨G.of a :: p, by rw [bs_cons, i_of ha.1 ha.2]⟩
theorem wrap_succ {n : Nat} (h : n < 4611686018427387904) : wrap64 ((n : Int) + 1) = ((n + 1 : Nat) : Int) := by
 rw [wrap_sm (by omega) (by omega)]; omega
theorem drop_co {p : List G} {n : Nat} (h : n < p.length) : p.drop n = co p n :: p.drop (n + 1) := by rw [List.drop_eq_getElem_cons h, co_lt h]
theorem clone_some (l : List Int) (h : l.length < 1000000000000) : slices_Clone_byte_byte.f l = some l := by
 unfold slices_Clone_byte_byte.f
 rw [if_pos (by omega)]
theorem and_one64 {x : Int} (h0 : 0 ≤ x) (h1 : x < 256) : Go.bits .and .i64 x 1 = x % 2 :=
 bits_mask .i64 8 (by decide) (fun n a b => by rw [IntKind.wrap_i64]; omega) 1 (by decide) x h0 h1
theorem power_odd {a o : G} {x : Int} {r : Int} (h0 : 0 < x) (h1 : x < 256) (ho : x % 2 = 1) (h : Ev (fun k => gf_power.l0 k (a * a).i (x / 2) (o * a).i) r) : Ev (fun k => gf_power.l0 k a.i x o.i) r := by
 refine Ev.step (fun k => gf_power.l0.eq_2 _ _ _ _) (Ev.pos h0 ?_)
 rw [and_one64 (by omega) h1]
 exact Ev.neg (by omega) (Ev.bind (mul_ev _ _) (Ev.bind (mul_ev _ _) h))
theorem power_even {a o : G} {x : Int} {r : Int} (h0 : 0 < x) (h1 : x < 256) (ho : x % 2 = 0) (h : Ev (fun k => gf_power.l0 k (a * a).i (x / 2) o.i) r) : Ev (fun k => gf_power.l0 k a.i x o.i) r := by
 refine Ev.step (fun k => gf_power.l0.eq_2 _ _ _ _) (Ev.pos h0 ?_)
 rw [and_one64 (by omega) h1]
 exact Ev.pos (by omega) (Ev.bind (mul_ev _ _) h)
theorem power_end (a o : G) : Ev (fun k => gf_power.l0 k a.i 0 o.i) o.i :=
 Ev.step (fun k => gf_power.l0.eq_2 _ _ _ _) (Ev.neg (by omega) (Ev.now _))
theorem inv_ev (a : G) : Ev (fun k => gf_Inv.f k a.i) (inv a).i := by
 refine Ev.congr (fun k => gf_Inv.f.eq_1 _ _) (Ev.bind (a := (inv a).i) ?_ (Ev.now _))
 refine Ev.congr (fun k => gf_power.f.eq_1 _ _ _) ?_
 have : Ev (fun k => gf_power.l0 k a.i 254 (1 : G).i) (inv a).i := by
  refine power_even (by omega) (by omega) (by decide) ?_
  refine power_odd (by omega) (by omega) (by decide) ?_
  refine power_odd (by omega) (by omega) (by decide) ?_
  refine power_odd (by omega) (by omega) (by decide) ?_
  refine power_odd (by omega) (by omega) (by decide) ?_
  refine power_odd (by omega) (by omega) (by decide) ?_
  refine power_odd (by omega) (by omega) (by decide) ?_
  refine power_odd (by omega) (by omega) (by decide) ?_
  refine evc (power_end _ _) ?_
  rw [one_mul]
  rfl
 exact this
end Go.Proofs.Ytcdmgppjhdpgkaa.Al
namespace Go.Proofs.Ytcdmgppjhdpgkaa.Al
open Go Go.RowKit Go.Proofs.YtcdmgppjhdpgkaaW.PrintWords Go.Proofs.YtcdmgppjhdpgkaaW.PrintMore Go.Proofs.Ytcdmgppjhdpgkaa.P
set_option linter.unusedVariables false
set_option linter.unusedSimpArgs false
theorem degree_l0 (p : List G) (hp : p.length < 1000000000000) : ∀ m, m ≤ p.length → (∀ j, m ≤ j → co p j = 0) → Ev (fun k => poly_Degree.l0 k (bs p) ((m : Int) - 1)) (((trim p).length : Int) - 1) := by
 intro m
 induction m with
 | zero =>
  intro _ h
  refine Ev.step (fun k => poly_Degree.l0.eq_2 _ _ _) (Ev.neg (by omega) ?_)
  rw [trim_eq_nil (fun i => h i (Nat.zero_le _))]
  exact Ev.now _
 | succ m ih =>
  intro hm h
  have e : (((m + 1 : Nat) : Int) - 1) = (m : Int) := by omega
  rw [e]
  refine Ev.step (fun k => poly_Degree.l0.eq_2 _ _ _) (Ev.pos (by omega) (Ev.pos (by omega) (Ev.pos (by rw [bs_length]; omega) ?_)))
  rw [rd_bs]
  by_cases hz : co p m = 0
  ·refine Ev.pos (by rw [hz]; rfl) ?_
   rw [wrap_sm (by omega) (by omega)]
   refine ih (by omega) (fun j hj => ?_)
   by_cases ej : j = m
   ·rw [ej, hz]
   ·exact h j (by omega)
  ·refine Ev.neg (by rw [i_eq_zero]; exact hz) ?_
   rw [trim_length_of h (.inr (by simpa using hz))]
   rw [e]
   exact Ev.now _
theorem degree_ev (p : List G) (hp : p.length < 1000000000000) : Ev (fun k => poly_Degree.f k (bs p)) (((trim p).length : Int) - 1) := by
 have h := degree_l0 p hp p.length (Nat.le_refl _) (fun j hj => co_ge hj)
 have e : wrap64 (((bs p).length : Int) - 1) = (p.length : Int) - 1 := by rw [bs_length, wrap_sm (by omega) (by omega)]
 refine Ev.congr (fun k => ?_) h
 rw [poly_Degree.f, e]
theorem trim_ev (p : List G) (hp : p.length < 1000000000000) : Ev (fun k => poly_Trim.f k (bs p)) (bs (trim p)) := by
 have hl := trim_length_le p
 refine Ev.congr (fun k => poly_Trim.f.eq_1 _ _) (Ev.bind (degree_ev p hp) ?_)
 have e : wrap64 (((trim p).length : Int) - 1 + 1) = ((trim p).length : Int) := by rw [wrap_sm (by omega) (by omega)]; omega
 rw [e]
 refine Ev.pos (by omega) (Ev.pos (by rw [bs_length]; omega) ?_)
 rw [Int.toNat_natCast, bs_take, ← trim_eq_take, clone_some _ (by rw [bs_length]; omega)]
 exact Ev.now _
theorem add_l0 (p q : List G) (hp : p.length < 100000000000) (hq : q.length < 100000000000) (n : Nat) : ∀ (o : List G) (i : Nat), i + n = q.length → o.length = max p.length q.length →
 (∀ j, co o j = if j < i then co p j + co q j else co p j) → Ev (fun k => poly_Add.l0 k (bs o) (bs q) (q.length : Int) (i : Int)) (bs (padd p q)) := by
 induction n with
 | zero =>
  intro o i hi ho h
  refine Ev.step (fun k => poly_Add.l0.eq_2 _ _ _ _ _) (Ev.neg (by omega) (Ev.bind (trim_ev o (by omega)) ?_))
  rw [show trim o = padd p q from trim_congr (fun j => by
   rw [h, co_zadd]
   split
   ·rfl
   ·rw [co_ge (p := q) (by omega), add_zero])]
  exact Ev.now _
 | succ n ih =>
  intro o i hi ho h
  refine Ev.step (fun k => poly_Add.l0.eq_2 _ _ _ _ _) (Ev.pos (by omega) (Ev.pos (by omega) (Ev.pos (by rw [bs_length]; omega) (Ev.pos (by rw [bs_length]; omega) ?_))))
  rw [rd_bs, rd_bs, xor_i, Int.toNat_natCast, bs_set, wrap_succ (by omega)]
  refine ih _ (i + 1) (by omega) (by rw [List.length_set]; exact ho) (fun j => ?_)
  rw [co_set _ _ _ _ (by omega)]
  by_cases e : j = i
  ·subst e
   rw [if_pos rfl, if_pos (by omega), h, if_neg (by omega)]
  ·rw [if_neg e, h]
   by_cases hlt : j < i
   ·rw [if_pos hlt, if_pos (by omega)]
   ·rw [if_neg hlt, if_neg (by omega)]
theorem mx_nat (a b : Nat) : mx (a : Int) (b : Int) = ((max a b : Nat) : Int) := by
 unfold mx
 split <;> omega
theorem add_ev (p q : List G) (hp : p.length < 100000000000) (hq : q.length < 100000000000) : Ev (fun k => poly_Add.f k (bs p) (bs q)) (bs (padd p q)) := by
 refine Ev.congr (fun k => poly_Add.f.eq_1 _ _ _) ?_
 rw [bs_length, bs_length, mx_nat]
 refine Ev.pos (by omega) (Ev.pos (by omega) (Ev.somef (Ev.pos (by rw [List.length_replicate]; omega) ?_)))
 rw [List.length_replicate, Int.toNat_natCast, bs_take, bs_replicate, bs_drop, ← bs_append]
 refine add_l0 p q hp hq q.length _ 0 (by omega) ?_ (fun j => ?_)
 ·simp only [List.length_append, List.length_take, List.length_drop, List.length_replicate]
  omega
 ·rw [if_neg (by omega), co_append, co_take, co_drop, co_replicate, List.length_take]
  split
  ·rw [if_pos (by omega)]
  ·rw [co_ge (by omega)]
def acc (p q : List G) (i m : Nat) : G := sum (fun a => if a ≤ m then co p a * co q (m - a) else 0) i
theorem acc_all (p q : List G) (m : Nat) : acc p q p.length m = co (pmul p q) m := by
 rw [co_pmul, acc]
 rcases Nat.le_total p.length (m + 1) with h | h
 ·rw [sum_extend (n := p.length) (m := m + 1) h]
  ·apply sum_congr
   intro a ha
   rw [if_pos (by omega)]
  ·intro a h1 _
   rw [co_ge h1, zero_mul]
 ·rw [sum_extend (n := m + 1) (m := p.length) h]
  ·apply sum_congr
   intro a ha
   rw [if_pos (by omega)]
  ·intro a h1 _
   rw [if_neg (by omega)]
theorem mul_loops (p q : List G) (hp : p.length < 100000000000) (hq : q.length < 100000000000) (n : Nat) : ∀ (o : List G) (i : Nat), i + n = p.length → o.length = p.length + q.length →
 (∀ m, co o m = acc p q i m) → Ev (fun k => poly_Mul.l0 k (bs q) (bs o) (bs p) (p.length : Int) (i : Int)) (bs (pmul p q)) := by
 induction n with
 | zero =>
  intro o i hi ho h
  obtain rfl : i = p.length := by omega
  refine Ev.step (fun k => poly_Mul.l0.eq_2 _ _ _ _ _ _) (Ev.neg (by omega) (Ev.bind (trim_ev o (by omega)) ?_))
  rw [show trim o = pmul p q from (trim_congr (fun m => (h m).trans (acc_all p q m))).trans (trim_pmul p q)]
  exact Ev.now _
 | succ n ih =>
  intro o i hi ho h
  refine Ev.step (fun k => poly_Mul.l0.eq_2 _ _ _ _ _ _) (Ev.pos (by omega) (Ev.pos (by omega) (Ev.pos (by rw [bs_length]; omega) ?_)))
  rw [rd_bs, bs_length]
  have inner : ∀ (d : Nat) (o : List G) (j : Nat), j + d = q.length → o.length = p.length + q.length →
   (∀ m, co o m = acc p q i m + if i ≤ m ∧ m < i + j then co p i * co q (m - i) else 0) →
   Ev (fun k => poly_Mul.l1 k (bs q) (bs o) (i : Int) (co p i).i (bs p) (p.length : Int) (i : Int) (bs q) (q.length : Int) (j : Int)) (bs (pmul p q)) := by
   intro d
   induction d with
   | zero =>
    intro o j hj ho h
    refine Ev.step (fun k => poly_Mul.l1.eq_2 _ _ _ _ _ _ _ _ _ _ _) (Ev.neg (by omega) ?_)
    rw [wrap_succ (by omega)]
    refine ih o (i + 1) (by omega) ho (fun m => ?_)
    rw [h, acc, acc, sum_succ]
    congr 1
    by_cases h1 : i ≤ m
    ·rw [if_pos h1]
     by_cases h2 : m < i + j
     ·rw [if_pos ⟨h1, h2⟩]
     ·rw [if_neg (by omega), co_ge (p := q) (by omega), mul_zero]
    ·rw [if_neg h1, if_neg (by omega)]
   | succ d ihd =>
    intro o j hj ho h
    refine Ev.step (fun k => poly_Mul.l1.eq_2 _ _ _ _ _ _ _ _ _ _ _) (Ev.pos (by omega) (Ev.pos (by omega) (Ev.pos (by rw [bs_length]; omega) ?_)))
    have hw : wrap64 ((i : Int) + (j : Int)) = ((i + j : Nat) : Int) := by rw [wrap_sm (by omega) (by omega)]; omega
    rw [hw]
    refine Ev.pos (by omega) (Ev.pos (by rw [bs_length]; omega) ?_)
    rw [rd_bs]
    refine Ev.bind (mul_ev _ _) ?_
    rw [rd_bs, xor_i, Int.toNat_natCast, bs_set, wrap_succ (by omega)]
    refine ihd _ (j + 1) (by omega) (by rw [List.length_set]; exact ho) (fun m => ?_)
    rw [co_set _ _ _ _ (by omega)]
    by_cases e : m = i + j
    ·subst e
     rw [if_pos rfl, h (i + j), if_neg (show ¬ (i ≤ i + j ∧ i + j < i + j) by omega), add_zero, if_pos (show i ≤ i + j ∧ i + j < i + (j + 1) by omega), show i + j - i = j by omega]
    ·rw [if_neg e, h]
     congr 1
     by_cases h1 : i ≤ m ∧ m < i + j
     ·rw [if_pos h1, if_pos (by omega)]
     ·rw [if_neg h1, if_neg (by omega)]
  exact inner q.length o 0 (by omega) ho (fun m => by rw [h, if_neg (by omega), add_zero])
theorem pmul_ev (p q : List G) (hp : p.length < 100000000000) (hq : q.length < 100000000000) : Ev (fun k => poly_Mul.f k (bs p) (bs q)) (bs (pmul p q)) := by
 refine Ev.congr (fun k => poly_Mul.f.eq_1 _ _ _) ?_
 have hw : wrap64 (((bs p).length : Int) + ((bs q).length : Int)) = ((p.length + q.length : Nat) : Int) := by rw [bs_length, bs_length, wrap_sm (by omega) (by omega)]; omega
 rw [hw, bs_length, Int.toNat_natCast, bs_replicate]
 refine Ev.pos (by omega) (Ev.pos (by omega) ?_)
 exact mul_loops p q hp hq p.length _ 0 (by omega) (List.length_replicate) (fun m => by rw [co_replicate]; rfl)
theorem eval_l0 (p : List G) (x : G) (hp : p.length < 100000000000) : ∀ m, m ≤ p.length → Ev (fun k => poly_Eval.l0 k (bs p) x.i (ev (p.drop m) x).i ((m : Int) - 1)) (ev p x).i := by
 intro m
 induction m with
 | zero =>
  intro _
  exact Ev.step (fun k => poly_Eval.l0.eq_2 _ _ _ _ _) (Ev.neg (by omega) (Ev.now _))
 | succ m ih =>
  intro hm
  have e : (((m + 1 : Nat) : Int) - 1) = (m : Int) := by omega
  rw [e]
  refine Ev.step (fun k => poly_Eval.l0.eq_2 _ _ _ _ _) (Ev.pos (by omega) (Ev.bind (mul_ev _ _) (Ev.pos (by omega) (Ev.pos (by rw [bs_length]; omega) ?_))))
  rw [rd_bs, xor_i, wrap_sm (by omega) (by omega)]
  have h := ih (by omega)
  rw [drop_co (show m < p.length by omega), ev_cons, add_comm, mul_comm] at h
  exact h
theorem eval_ev (p : List G) (x : G) (hp : p.length < 100000000000) : Ev (fun k => poly_Eval.f k (bs p) x.i) (ev p x).i := by
 have h := eval_l0 p x hp p.length (Nat.le_refl _)
 rw [List.drop_length] at h
 refine Ev.congr (fun k => poly_Eval.f.eq_1 _ _ _) ?_
 rw [bs_length, wrap_sm (by omega) (by omega)]
 exact h
theorem div_ev (a b : G) (hb : b ≠ 0) : Ev (fun k => gf_Div.f k a.i b.i) ((a * inv b).i, true) :=
 Ev.congr (fun k => gf_Div.f.eq_1 _ _ _) (Ev.neg (by rw [i_eq_zero]; exact hb) (Ev.bind (inv_ev b) (Ev.bind (mul_ev _ _) (Ev.now _))))
end Go.Proofs.Ytcdmgppjhdpgkaa.Al
namespace Go.Proofs.Ytcdmgppjhdpgkaa.Al
open Go Go.RowKit Go.Proofs.YtcdmgppjhdpgkaaW.PrintWords Go.Proofs.YtcdmgppjhdpgkaaW.PrintMore Go.Proofs.Ytcdmgppjhdpgkaa.P
set_option linter.unusedVariables false
set_option linter.unusedSimpArgs false
theorem rd_drop {l : List Int} {n : Nat} (h : n < l.length) : l.drop n = rd l (n : Int) :: l.drop (n + 1) := by
 rw [List.drop_eq_getElem_cons h]
 simp [rd, List.getD_eq_getElem?_getD, List.getElem?_eq_getElem h]
theorem same_l0 (a b : List Int) (hl : a.length = b.length) (ha : a.length < 1000000000000) (d : Nat) : ∀ n : Nat, n + d = a.length → Ev (fun k => footlockerref01_Same.l0 k a b (n : Int)) (decide (a.drop n = b.drop n)) := by
 induction d with
 | zero =>
  intro n hn
  refine Ev.step (fun k => footlockerref01_Same.l0.eq_2 _ _ _ _) (Ev.neg (by omega) ?_)
  rw [List.drop_of_length_le (by omega), List.drop_of_length_le (by omega)]
  exact Ev.now _
 | succ d ih =>
  intro n hn
  refine Ev.step (fun k => footlockerref01_Same.l0.eq_2 _ _ _ _) (Ev.pos (by omega) (Ev.pos (by omega) (Ev.pos (by omega) ?_)))
  rw [rd_drop (show n < a.length by omega), rd_drop (show n < b.length by omega)]
  by_cases e : rd a (n : Int) = rd b (n : Int)
  ·refine Ev.pos e ?_
   rw [wrap_succ (by omega)]
   refine evc (ih (n + 1) (by omega)) ?_
   rw [e]
   simp
  ·refine Ev.neg e ?_
   rw [decide_eq_false (by intro h; exact e (List.cons.inj h).1)]
   exact Ev.now _
theorem same_ev (a b : List Int) (ha : a.length < 1000000000000) : Ev (fun k => footlockerref01_Same.f k a b) (decide (a = b)) := by
 refine Ev.congr (fun k => footlockerref01_Same.f.eq_1 _ _ _) ?_
 by_cases hl : a.length = b.length
 ·refine Ev.pos (by omega) ?_
  have := same_l0 a b hl ha a.length 0 (by omega)
  rw [List.drop_zero, List.drop_zero] at this
  exact this
 ·refine Ev.neg (by omega) ?_
  rw [decide_eq_false (by rintro rfl; exact hl rfl)]
  exact Ev.now _
theorem wf_u8 {x : Int} (h : (Lit.int .u8 x).wf = true) : 0 ≤ x ∧ x < 256 := by
 simp [Lit.wf, IntKind.min, IntKind.max, IntKind.bits, IntKind.signed] at h
 omega
theorem bytes_in {l : List Int} (h : ∀ x ∈ l, (Lit.int .u8 x).wf = true) : ∃ p, l = bs p := of_bytes l (fun x hx => wf_u8 (h x hx))
theorem same_true {a b : List Int} (h : a = b) (ha : a.length < 1000000000000) : Ev (fun k => footlockerref01_Same.f k a b) true := by
 have := same_ev a b ha
 rwa [decide_eq_true h] at this
end Go.Proofs.Ytcdmgppjhdpgkaa.Al
namespace Go.Proofs.Ytcdmgppjhdpgkaa.Al
open Go Go.RowKit Go.Proofs.YtcdmgppjhdpgkaaW.PrintWords Go.Proofs.YtcdmgppjhdpgkaaW.PrintMore Go.Proofs.Ytcdmgppjhdpgkaa.P
set_option linter.unusedVariables false
set_option linter.unusedSimpArgs false
theorem tab_bs (n : Nat) (f : Nat → G) : bs (tab n f) ++ [(f n).i] = bs (tab (n + 1) f) := by rw [tab_succ, bs_append]; rfl
end Go.Proofs.Ytcdmgppjhdpgkaa.Al
namespace Go.Proofs.Ytcdmgppjhdpgkaa.Al
open Go Go.RowKit Go.Proofs.YtcdmgppjhdpgkaaW.PrintWords Go.Proofs.YtcdmgppjhdpgkaaW.PrintMore Go.Proofs.Ytcdmgppjhdpgkaa.P
set_option linter.unusedVariables false
set_option linter.unusedSimpArgs false
theorem scale_l0 (p : List G) (c : G) (hp : p.length < 100000000000) (d : Nat) : ∀ (o : List G) (n : Nat), n + d = p.length → o.length = p.length → (∀ j, j < n → co o j = c * co p j) →
 Ev (fun k => gf_Scale.l0 k c.i (bs o) (bs p) (p.length : Int) (n : Int)) (bs (scale c p)) := by
 induction d with
 | zero =>
  intro o n hn ho h
  refine Ev.step (fun k => gf_Scale.l0.eq_2 _ _ _ _ _ _) (Ev.neg (by omega) ?_)
  rw [show o = scale c p from ext_co (by rw [ho, scale_length]) (fun j hj => by rw [h j (by omega), co_scale])]
  exact Ev.now _
 | succ d ih =>
  intro o n hn ho h
  refine Ev.step (fun k => gf_Scale.l0.eq_2 _ _ _ _ _ _) (Ev.pos (by omega) (Ev.pos (by omega) (Ev.pos (by rw [bs_length]; omega) ?_)))
  rw [rd_bs]
  refine Ev.bind (mul_ev _ _) (Ev.pos (by rw [bs_length]; omega) ?_)
  rw [Int.toNat_natCast, bs_set, wrap_succ (by omega)]
  refine ih _ (n + 1) (by omega) (by rw [List.length_set]; exact ho) (fun j hj => ?_)
  rw [co_set _ _ _ _ (by omega)]
  by_cases e : j = n
  ·rw [if_pos e, e, mul_comm]
  ·rw [if_neg e, h j (by omega)]
theorem scale_ev (p : List G) (c : G) (hp : p.length < 100000000000) : Ev (fun k => gf_Scale.f k (bs p) c.i) (bs (scale c p)) := by
 refine Ev.congr (fun k => gf_Scale.f.eq_1 _ _ _) ?_
 rw [bs_length, Int.toNat_natCast, bs_replicate]
 exact Ev.pos (by omega) (Ev.pos (by omega) (scale_l0 p c hp p.length _ 0 (by omega) List.length_replicate (fun j hj => by omega)))
theorem twice_go (xs : List G) : ∀ seen : List G, poly_twice.go (bs seen) (bs xs) = some (decide (¬ (xs.Nodup ∧ ∀ x ∈ xs, x ∉ seen))) := by
 induction xs with
 | nil => intro seen; simp [bs, poly_twice.go]
 | cons a xs ih =>
  intro seen
  rw [bs_cons, poly_twice.go, if_pos (i_nonneg a), if_pos (i_lt a)]
  have hc : (bs seen).contains a.i = decide (a ∈ seen) := by
   rw [Bool.eq_iff_iff, List.contains_iff_mem, decide_eq_true_iff, bs, List.mem_map]
   constructor
   ·rintro ⟨b, hb, e⟩
    rwa [← i_inj.1 e]
   ·intro h
    exact ⟨a, h, rfl⟩
  rw [hc]
  by_cases h : a ∈ seen
  ·rw [if_pos (by simpa using h), decide_eq_true]
   rintro ⟨_, h2⟩
   exact h2 a List.mem_cons_self h
  ·rw [if_neg (by simpa using h), ← bs_cons, ih]
   congr 1
   rw [decide_eq_decide]
   apply not_congr
   rw [List.nodup_cons]
   constructor
   ·rintro ⟨h1, h2⟩
    refine ⟨⟨fun ha => ?_, h1⟩, fun x hx => ?_⟩
    ·exact h2 a ha List.mem_cons_self
    ·rcases List.mem_cons.1 hx with rfl | hx
     ·exact h
     ·exact fun hs => h2 x hx (List.mem_cons_of_mem _ hs)
   ·rintro ⟨⟨h1, h2⟩, h3⟩
    refine ⟨h2, fun x hx hs => ?_⟩
    rcases List.mem_cons.1 hs with rfl | hs
    ·exact h1 hx
    ·exact h3 x (List.mem_cons_of_mem _ hx) hs
theorem twice_some (xs : List G) : poly_twice.f (bs xs) = some (decide (¬ xs.Nodup)) := by
 have h := twice_go xs []
 rw [poly_twice.f, show ([] : List Int) = bs [] from rfl, h]
 congr 1
 rw [decide_eq_decide]
 simp
theorem nodup_co {xs : List G} : xs.Nodup ↔ ∀ a b, a < b → b < xs.length → co xs a ≠ co xs b := by
 rw [List.Nodup, List.pairwise_iff_getElem]
 constructor
 ·intro h a b hab hb
  rw [co_lt (by omega), co_lt hb]
  exact h a b (by omega) hb hab
 ·intro h a b ha hb hab
  have := h a b hab hb
  rwa [co_lt ha, co_lt hb] at this
def nst (xs ys : List G) : Nat → List G × List G
 | 0 => ([], [1])
 | n + 1 =>
  let s := nst xs ys n
  (padd s.1 (scale ((co ys n + ev s.1 (co xs n)) * inv (ev s.2 (co xs n))) s.2), pmul s.2 [co xs n, 1])
def interp (xs ys : List G) : List G := (nst xs ys xs.length).1
theorem ev_lin (a x : G) : ev [a, 1] x = a + x := by simp only [ev_cons, ev_nil, mul_zero, add_zero, mul_one]
theorem pmul_len_le (p q : List G) (h : 0 < q.length) : (pmul p q).length ≤ p.length + q.length - 1 := by
 apply trim_len_le_of
 intro j hj
 rw [← co_trim]
 exact co_pmul_ge (fun i hi => co_ge hi) (fun i hi => co_ge hi) (by omega)
theorem nst_facts (xs ys : List G) (hd : xs.Nodup) : ∀ n, n ≤ xs.length → (nst xs ys n).1.length ≤ n ∧ trim (nst xs ys n).1 = (nst xs ys n).1 ∧ (nst xs ys n).2.length ≤ n + 1 ∧
 (∀ j, j < n → ev (nst xs ys n).1 (co xs j) = co ys j) ∧ (∀ j, j < n → ev (nst xs ys n).2 (co xs j) = 0) ∧ (∀ x, (∀ j, j < n → x ≠ co xs j) → ev (nst xs ys n).2 x ≠ 0) := by
 intro n
 induction n with
 | zero =>
  intro _
  refine ⟨Nat.le_refl _, rfl, Nat.le_refl _, fun j hj => by omega, fun j hj => by omega, fun x _ => ?_⟩
  show ev [1] x ≠ 0
  rw [ev_cons, ev_nil, mul_zero, add_zero]
  exact one_ne_zero
 | succ n ih =>
  intro hn
  obtain ⟨h1, h2, h3, h4, h5, h6⟩ := ih (by omega)
  have hz : ev (nst xs ys n).2 (co xs n) ≠ 0 := h6 _ (fun j hj e => nodup_co.1 hd j n hj (by omega) e.symm)
  refine ⟨?_, trim_padd _ _, ?_, ?_, ?_, ?_⟩
  ·refine Nat.le_trans (padd_length_le _ _) ?_
   rw [scale_length]
   omega
  ·refine Nat.le_trans (pmul_len_le _ _ (by simp)) ?_
   simp only [List.length_cons, List.length_nil]
   omega
  ·intro j hj
   show ev (padd _ _) _ = _
   rw [ev_padd, ev_scale]
   by_cases e : j = n
   ·subst e
    rw [mul_assoc, inv_mul hz, mul_one, add_comm (co ys j), add_add_self]
   ·rw [h5 j (by omega), mul_zero, add_zero, h4 j (by omega)]
  ·intro j hj
   show ev (pmul _ _) _ = _
   rw [ev_pmul, ev_lin]
   by_cases e : j = n
   ·rw [e, add_self, mul_zero]
   ·rw [h5 j (by omega), zero_mul]
  ·intro x hx
   show ev (pmul _ _) _ ≠ _
   rw [ev_pmul, ev_lin]
   refine mul_ne_zero (h6 x (fun j hj => hx j (by omega))) (fun e => ?_)
   exact hx n (by omega) (add_eq_zero.1 e).symm
theorem interp_facts {xs ys : List G} (hd : xs.Nodup) : (interp xs ys).length ≤ xs.length ∧ trim (interp xs ys) = interp xs ys ∧ ∀ j, j < xs.length → ev (interp xs ys) (co xs j) = co ys j := by
 obtain ⟨h1, h2, _, h4, _⟩ := nst_facts xs ys hd xs.length (Nat.le_refl _)
 exact ⟨h1, h2, h4⟩
theorem interp_unique {xs ys p : List G} (hd : xs.Nodup) (hp : p.length ≤ xs.length) (h : ∀ j, j < xs.length → ev p (co xs j) = co ys j) : trim p = interp xs ys := by
 obtain ⟨h1, h2, h3⟩ := interp_facts (ys := ys) hd
 rw [← h2]
 apply trim_congr
 apply same_of_values hd hp h1
 intro x hx
 obtain ⟨j, hj, rfl⟩ := List.getElem_of_mem hx
 rw [← co_lt hj, h j hj, h3 j hj]
theorem through_l0 (xs ys : List G) (hd : xs.Nodup) (hl : xs.length = ys.length) (hx : xs.length < 1000000000) (d : Nat) : ∀ n : Nat, n + d = xs.length →
 Ev (fun k => poly_Through.l0 k (bs ys) (bs (nst xs ys n).1) (bs (nst xs ys n).2) (bs xs) (xs.length : Int) (n : Int)) (bs (interp xs ys), 0) := by
 induction d with
 | zero =>
  intro n hn
  refine Ev.step (fun k => poly_Through.l0.eq_2 _ _ _ _ _ _ _) (Ev.neg (by omega) ?_)
  rw [interp, show xs.length = n by omega]
  exact Ev.now _
 | succ d ih =>
  intro n hn
  obtain ⟨h1, h2, h3, h4, h5, h6⟩ := nst_facts xs ys hd n (by omega)
  have hz : ev (nst xs ys n).2 (co xs n) ≠ 0 := h6 _ (fun j hj e => nodup_co.1 hd j n hj (by omega) e.symm)
  refine Ev.step (fun k => poly_Through.l0.eq_2 _ _ _ _ _ _ _) (Ev.pos (by omega) (Ev.pos (by omega) (Ev.pos (by rw [bs_length]; omega) (Ev.pos (by rw [bs_length]; omega) ?_))))
  rw [rd_bs, rd_bs]
  refine Ev.bind (eval_ev _ _ (by omega)) (Ev.bind (eval_ev _ _ (by omega)) ?_)
  rw [xor_i]
  refine Ev.bind (div_ev _ _ hz) ?_
  dsimp only
  refine Ev.bind (scale_ev _ _ (by omega)) (Ev.bind (add_ev _ _ (by omega) (by rw [scale_length]; omega)) ?_)
  refine Ev.bind (a := bs (pmul (nst xs ys n).2 [co xs n, 1])) (pmul_ev _ [co xs n, 1] (by omega) (by simp)) ?_
  rw [wrap_succ (by omega)]
  exact ih (n + 1) (by omega)
theorem through_ev (xs ys : List G) (hd : xs.Nodup) (hl : xs.length = ys.length) (hx : xs.length < 1000000000) : Ev (fun k => poly_Through.f k (bs xs) (bs ys)) (bs (interp xs ys), 0) := by
 refine Ev.congr (fun k => poly_Through.f.eq_1 _ _ _) (Ev.pos (by rw [bs_length, bs_length]; omega) ?_)
 rw [twice_some, decide_eq_false (by simpa using hd), bs_length]
 exact Ev.somef (Ev.neg (by simp) (through_l0 xs ys hd hl hx xs.length 0 (by omega)))
end Go.Proofs.Ytcdmgppjhdpgkaa.Al
namespace Go.Proofs.Ytcdmgppjhdpgkaa.Al
open Go Go.RowKit Go.Proofs.YtcdmgppjhdpgkaaW.PrintWords Go.Proofs.YtcdmgppjhdpgkaaW.PrintMore Go.Proofs.Ytcdmgppjhdpgkaa.P
set_option linter.unusedVariables false
set_option linter.unusedSimpArgs false
def pl (i : Nat) : G := G.of ((i : Int) % 256)
theorem pl_i (i : Nat) : (i : Int) % 256 = (pl i).i := by rw [pl, i_of (by omega) (by omega)]
theorem pl_ne {a b : Nat} (hab : a < b) (hb : b < 256) : pl a ≠ pl b := by
 intro e
 have := congrArg G.i e
 rw [← pl_i, ← pl_i] at this
 omega
def places (n : Nat) : List G := tab n pl
theorem places_length (n : Nat) : (places n).length = n := tab_length n pl
theorem co_places {n i : Nat} (h : i < n) : co (places n) i = pl i := by rw [places, co_tab, if_pos h]
theorem places_nodup {n : Nat} (hn : n ≤ 256) : (places n).Nodup := by
 rw [nodup_co]
 intro a b hab hb
 rw [places_length] at hb
 rw [co_places (by omega), co_places hb]
 exact pl_ne hab (by omega)
theorem places_l0 (m : Nat) (hm : m < 100000000000) (d : Nat) : ∀ n : Nat, n + d = m → Ev (fun k => systematic_places.l0 k (bs (places n)) (m : Int) (n : Int)) (bs (places m)) := by
 induction d with
 | zero =>
  intro n hn
  obtain rfl : n = m := by omega
  exact Ev.step (fun k => systematic_places.l0.eq_2 _ _ _ _) (Ev.neg (by omega) (Ev.now _))
 | succ d ih =>
  intro n hn
  refine Ev.step (fun k => systematic_places.l0.eq_2 _ _ _ _) (Ev.pos (by omega) (Ev.pos (by rw [bs_length, places_length]; omega) ?_))
  rw [pl_i, places, tab_bs n pl, wrap_succ (by omega)]
  exact ih (n + 1) (by omega)
theorem places_ev (m : Nat) (hm : m < 100000000000) : Ev (fun k => systematic_places.f k (m : Int)) (bs (places m)) :=
 Ev.congr (fun k => systematic_places.f.eq_1 _ _) (places_l0 m hm m 0 (by omega))
def gen (d : List G) : List G := interp (places d.length) d
theorem gen_facts {d : List G} (hd : d.length ≤ 256) : (gen d).length ≤ d.length ∧ trim (gen d) = gen d ∧ ∀ j, j < d.length → ev (gen d) (pl j) = co d j := by
 obtain ⟨h1, h2, h3⟩ := interp_facts (ys := d) (places_nodup hd)
 rw [places_length] at h1 h3
 refine ⟨h1, h2, fun j hj => ?_⟩
 have := h3 j hj
 rwa [co_places hj] at this
theorem gen_unique {d p : List G} (hd : d.length ≤ 256) (hp : p.length ≤ d.length) (h : ∀ j, j < d.length → ev p (pl j) = co d j) : trim p = gen d :=
 interp_unique (places_nodup hd) (by rw [places_length]; exact hp) (fun j hj => by
  rw [places_length] at hj
  rw [co_places hj]
  exact h j hj)
def vals (p : List G) (n : Nat) : List G := tab n (fun i => ev p (pl i))
theorem vals_length (p : List G) (n : Nat) : (vals p n).length = n := tab_length n _
theorem co_vals {p : List G} {n i : Nat} (h : i < n) : co (vals p n) i = ev p (pl i) := by rw [vals, co_tab, if_pos h]
theorem through_places (d : List G) (hd : d.length ≤ 256) : Ev (fun k => poly_Through.f k (bs (places d.length)) (bs d)) (bs (gen d), 0) :=
 through_ev _ _ (places_nodup hd) (places_length _) (by rw [places_length]; omega)
def more (d : List G) (k : Nat) : List G := tab k (fun i => ev (gen d) (pl (d.length + i)))
theorem more_length (d : List G) (k : Nat) : (more d k).length = k := tab_length k _
def word (d : List G) (k : Nat) : List G := vals (gen d) (d.length + k)
theorem word_length (d : List G) (k : Nat) : (word d k).length = d.length + k := vals_length _ _
theorem word_eq (d : List G) (k : Nat) (hd : d.length ≤ 256) : d ++ more d k = word d k := by
 apply ext_co
 ·rw [List.length_append, more_length, word_length]
 ·intro i hi
  rw [List.length_append, more_length] at hi
  rw [co_append, word, co_vals hi]
  by_cases h : i < d.length
  ·rw [if_pos h, (gen_facts hd).2.2 i h]
  ·rw [if_neg h, more, co_tab, if_pos (by omega), show d.length + (i - d.length) = i by omega]
theorem encode_l0 (d : List G) (k : Nat) (hd : d.length + k ≤ 255) (e : Nat) : ∀ n : Nat, n + e = k →
 Ev (fun f => systematic_Encode.l0 f (d.length : Int) (bs (gen d)) (bs (more d n)) (k : Int) (n : Int)) (bs (more d k), 0) := by
 have hg := (gen_facts (d := d) (by omega)).1
 induction e with
 | zero =>
  intro n hn
  obtain rfl : n = k := by omega
  exact Ev.step (fun k => systematic_Encode.l0.eq_2 _ _ _ _ _ _) (Ev.neg (by omega) (Ev.now _))
 | succ e ih =>
  intro n hn
  refine Ev.step (fun k => systematic_Encode.l0.eq_2 _ _ _ _ _ _) (Ev.pos (by omega) ?_)
  have hw : wrap64 ((d.length : Int) + (n : Int)) = ((d.length + n : Nat) : Int) := by rw [wrap_sm (by omega) (by omega)]; omega
  rw [hw, pl_i]
  refine Ev.bind (eval_ev _ _ (by omega)) (Ev.pos (by rw [bs_length, more_length]; omega) ?_)
  rw [more, tab_bs n (fun i => ev (gen d) (pl (d.length + i))), wrap_succ (by omega)]
  exact ih (n + 1) (by omega)
theorem encode_ev (d : List G) (k : Nat) (h0 : 0 < d.length) (hd : d.length + k ≤ 255) : Ev (fun f => systematic_Encode.f f (bs d) (k : Int)) (bs (more d k), 0) := by
 refine Ev.congr (fun k => systematic_Encode.f.eq_1 _ _ _) (Ev.neg (by rw [bs_length]; omega) ?_)
 rw [decide_eq_false (by omega)]
 refine Ev.step (fun k => systematic_Encode.j0.eq_2 _ _ _ _ _) (Ev.neg (by simp) (Ev.neg (by omega) (Ev.neg ?_ ?_)))
 ·rw [bs_length, wrap_sm (by omega) (by omega)]; omega
 ·rw [bs_length]
  exact Ev.bind (places_ev _ (by omega)) (Ev.bind (through_places d (by omega)) (encode_l0 d k hd k 0 (by omega)))
def May (w : List G) (n : Int) : Prop := n ≥ 1 ∧ n ≤ w.length ∧ w.length ≤ 255
instance (w : List G) (n : Int) : Decidable (May w n) := inferInstanceAs (Decidable (_ ∧ _ ∧ _))
theorem may_some (w : List G) (n : Int) : systematic_may.f (bs w) n = some (decide (May w n)) := by
 unfold systematic_may.f
 rw [bs_length]
 by_cases h : May w n
 ·rw [decide_eq_true h]
  obtain ⟨h1, h2, h3⟩ := h
  rw [if_pos h1, if_pos h2, decide_eq_true (by omega)]
 ·rw [decide_eq_false h]
  by_cases h1 : n ≥ 1
  ·rw [if_pos h1]
   by_cases h2 : n ≤ (w.length : Int)
   ·rw [if_pos h2, decide_eq_false (fun h3 => h ⟨h1, h2, by omega⟩)]
   ·rw [if_neg h2]
  ·rw [if_neg h1]
def IsWord (w : List G) (n : Nat) : Prop := ∃ p : List G, p.length ≤ n ∧ ∀ j, j < w.length → ev p (pl j) = co w j
theorem isWord_iff {w : List G} {n : Nat} (hw : w.length ≤ 255) (hn : n ≤ w.length) : IsWord w n ↔ (gen w).length ≤ n := by
 constructor
 ·rintro ⟨p, hp, h⟩
  rw [← gen_unique (d := w) (by omega) (by omega) h]
  have := trim_length_le p
  omega
 ·intro h
  exact ⟨gen w, h, (gen_facts (by omega)).2.2⟩
theorem is_ev (w : List G) (n : Nat) (h1 : 1 ≤ n) (hn : n ≤ w.length) (hw : w.length ≤ 255) [Decidable (IsWord w n)] : Ev (fun f => systematic_Is.f f (bs w) (n : Int)) (decide (IsWord w n)) := by
 refine Ev.congr (fun k => systematic_Is.f.eq_1 _ _ _) ?_
 rw [may_some, decide_eq_true (show May w (n : Int) from ⟨by omega, by omega, hw⟩), bs_length]
 have hg := gen_facts (d := w) (by omega)
 refine Ev.somef (Ev.pos rfl (Ev.bind (places_ev _ (by omega)) (Ev.bind (through_places w (by omega)) (Ev.bind (degree_ev _ (by omega)) ?_))))
 rw [hg.2.1]
 have : decide ((((gen w).length : Int) - 1) < (n : Int)) = decide (IsWord w n) := by
  rw [decide_eq_decide, isWord_iff hw hn]
  omega
 rw [this]
 exact Ev.now _
theorem is_true (w : List G) (n : Nat) (h1 : 1 ≤ n) (hn : n ≤ w.length) (hw : w.length ≤ 255) (h : IsWord w n) : Ev (fun f => systematic_Is.f f (bs w) (n : Int)) true := by
 haveI : Decidable (IsWord w n) := .isTrue h
 exact evc (is_ev w n h1 hn hw) (decide_eq_true h)
theorem word_isWord (d : List G) (k : Nat) (hd : d.length ≤ 256) : IsWord (word d k) d.length :=
 ⟨gen d, (gen_facts hd).1, fun j hj => by rw [word_length] at hj; rw [word, co_vals hj]⟩
end Go.Proofs.Ytcdmgppjhdpgkaa.Al
namespace Go.Proofs.Ytcdmgppjhdpgkaa.Al
set_option linter.unusedVariables false
set_option linter.unusedSimpArgs false
def row (M : List (List G)) (i : Nat) : List G := M.getD i []
theorem row_lt {M : List (List G)} {i : Nat} (h : i < M.length) : row M i = M[i] := by
 simp [row, List.getD_eq_getElem?_getD, List.getElem?_eq_getElem h]
theorem row_ge {M : List (List G)} {i : Nat} (h : M.length ≤ i) : row M i = [] := by
 simp [row, List.getD_eq_getElem?_getD, List.getElem?_eq_none h]
theorem row_set (M : List (List G)) (n i : Nat) (r : List G) (h : n < M.length) : row (M.set n r) i = if i = n then r else row M i := by
 simp only [row, List.getD_eq_getElem?_getD, List.getElem?_set]
 by_cases e : n = i
 ·subst e
  simp [h]
 ·simp [e, Ne.symm e]
theorem row_append (M N : List (List G)) (i : Nat) : row (M ++ N) i = if i < M.length then row M i else row N (i - M.length) := by
 simp only [row, List.getD_eq_getElem?_getD, List.getElem?_append]
 split <;> rfl
theorem ext_row {M N : List (List G)} (hl : M.length = N.length) (h : ∀ i, i < M.length → row M i = row N i) : M = N := by
 apply List.ext_getElem hl
 intro i h1 h2
 have := h i h1
 rwa [row_lt h1, row_lt h2] at this
def tabR (n : Nat) (f : Nat → List G) : List (List G) := (List.range n).map f
theorem tabR_length (n : Nat) (f : Nat → List G) : (tabR n f).length = n := by simp [tabR]
theorem row_tabR (n : Nat) (f : Nat → List G) (i : Nat) (h : i < n) : row (tabR n f) i = f i := by
 rw [row_lt (by rw [tabR_length]; exact h)]
 simp [tabR]
theorem tabR_succ (n : Nat) (f : Nat → List G) : tabR (n + 1) f = tabR n f ++ [f n] := by simp [tabR, List.range_succ]
def Wd (M : List (List G)) (w : Nat) : Prop := ∀ i, i < M.length → (row M i).length = w
def Sp (M : List (List G)) (v : Nat → G) : Prop := ∃ f : Nat → G, ∀ j, v j = sum (fun i => f i * co (row M i) j) M.length
theorem Sp.zero (M : List (List G)) : Sp M (fun _ => 0) := ⟨fun _ => 0, fun j => by rw [sum_eq_zero]; intro i _; rw [zero_mul]⟩
theorem Sp.congr {M : List (List G)} {v w : Nat → G} (hv : Sp M v) (h : ∀ j, v j = w j) : Sp M w := by
 obtain ⟨f, hf⟩ := hv
 exact ⟨f, fun j => by rw [← h, hf]⟩
theorem Sp.add {M : List (List G)} {v w : Nat → G} (hv : Sp M v) (hw : Sp M w) : Sp M (fun j => v j + w j) := by
 obtain ⟨f, hf⟩ := hv
 obtain ⟨g, hg⟩ := hw
 refine ⟨fun i => f i + g i, fun j => ?_⟩
 dsimp only
 rw [hf, hg, ← sum_add]
 apply sum_congr
 intro i _
 rw [add_mul]
theorem Sp.row {M : List (List G)} {i : Nat} (h : i < M.length) : Sp M (co (row M i)) := by
 refine ⟨fun k => if k = i then 1 else 0, fun j => ?_⟩
 rw [sum_single (k := i) h]
 ·dsimp only
  rw [if_pos rfl, one_mul]
 ·intro k _ hk
  dsimp only
  rw [if_neg hk, zero_mul]
def swp (M : List (List G)) (a u k : Nat) : List G := if k = a then row M u else if k = u then row M a else row M k
def piv (M : List (List G)) (c u : Nat) : List G := scale (inv (co (row M u) c)) (row M u)
def elim (M : List (List G)) (a c u : Nat) : List (List G) := tabR M.length (fun k => if k = a then piv M c u else zadd (swp M a u k) (scale (co (swp M a u k) c) (piv M c u)))
theorem elim_length (M : List (List G)) (a c u : Nat) : (elim M a c u).length = M.length := tabR_length _ _
theorem row_elim {M : List (List G)} {a c u k : Nat} (h : k < M.length) : row (elim M a c u) k = if k = a then piv M c u else zadd (swp M a u k) (scale (co (swp M a u k) c) (piv M c u)) := row_tabR _ _ _ h
theorem co_piv (M : List (List G)) (c u j : Nat) : co (piv M c u) j = inv (co (row M u) c) * co (row M u) j := co_scale _ _ _
theorem co_elim_at {M : List (List G)} {a c u : Nat} (h : a < M.length) (j : Nat) : co (row (elim M a c u) a) j = co (piv M c u) j := by rw [row_elim h, if_pos rfl]
theorem co_elim {M : List (List G)} {a c u k : Nat} (h : k < M.length) (hk : k ≠ a) (j : Nat) : co (row (elim M a c u) k) j = co (swp M a u k) j + co (swp M a u k) c * co (piv M c u) j := by
 rw [row_elim h, if_neg hk, co_zadd, co_scale]
structure RF (M : List (List G)) (ps : List Nat) (c : Nat) : Prop where
 len : ps.length ≤ M.length
 lt : ∀ t, t < ps.length → ps.getD t 0 < c
 asc : ∀ s t, s < t → t < ps.length → ps.getD s 0 < ps.getD t 0
 unit : ∀ i t, i < M.length → t < ps.length → co (row M i) (ps.getD t 0) = if i = t then 1 else 0
 low : ∀ i j, ps.length ≤ i → i < M.length → j < c → co (row M i) j = 0
 lead : ∀ t j, t < ps.length → j < ps.getD t 0 → co (row M t) j = 0
theorem RF.skip {M : List (List G)} {ps : List Nat} {c : Nat} (h : RF M ps c) (hz : ∀ i, ps.length ≤ i → i < M.length → co (row M i) c = 0) : RF M ps (c + 1) where
 len := h.len
 lt := fun t ht => Nat.lt_succ_of_lt (h.lt t ht)
 asc := h.asc
 unit := h.unit
 low := fun i j hi hi2 hj => by
  by_cases e : j = c
  ·rw [e]; exact hz i hi hi2
  ·exact h.low i j hi hi2 (by omega)
 lead := h.lead
theorem getD_snoc (ps : List Nat) (c t : Nat) : (ps ++ [c]).getD t 0 = if t < ps.length then ps.getD t 0 else if t = ps.length then c else 0 := by
 simp only [List.getD_eq_getElem?_getD, List.getElem?_append]
 by_cases h : t < ps.length
 ·rw [if_pos h, if_pos h]
 ·rw [if_neg h, if_neg h]
  by_cases e : t = ps.length
  ·rw [if_pos e, e]; simp
  ·rw [if_neg e, List.getElem?_eq_none (by simp; omega)]; rfl
theorem RF.step {M : List (List G)} {ps : List Nat} {c u : Nat} (h : RF M ps c) (hu : ps.length ≤ u) (hu2 : u < M.length) (hp : co (row M u) c ≠ 0) : RF (elim M ps.length c u) (ps ++ [c]) (c + 1) := by
 have ha : ps.length < M.length := by omega
 have hpz : ∀ j, j < c → co (piv M c u) j = 0 := fun j hj => by rw [co_piv, h.low u j hu hu2 hj, mul_zero]
 have hpc : co (piv M c u) c = 1 := by rw [co_piv, inv_mul hp]
 have hsl : ∀ k, ps.length < k → k < M.length → ∀ j, j < c → co (swp M ps.length u k) j = 0 := by
  intro k hk hk2 j hj
  unfold swp
  rw [if_neg (by omega)]
  split
  ·exact h.low _ j (Nat.le_refl _) ha hj
  ·exact h.low _ j (by omega) hk2 hj
 have hsk : ∀ k, k < ps.length → swp M ps.length u k = row M k := by
  intro k hk
  unfold swp
  rw [if_neg (by omega), if_neg (by omega)]
 have hcol : ∀ i, i < M.length → co (row (elim M ps.length c u) i) c = if i = ps.length then 1 else 0 := by
  intro i hi
  by_cases e : i = ps.length
  ·rw [if_pos e, e, co_elim_at ha, hpc]
  ·rw [if_neg e, co_elim hi e, hpc, mul_one, add_self]
 have hbel : ∀ i j, i < M.length → j < c → co (row (elim M ps.length c u) i) j = if i < ps.length then co (row M i) j else 0 := by
  intro i j hi hj
  by_cases e : i = ps.length
  ·rw [e, co_elim_at ha, hpz j hj, if_neg (Nat.lt_irrefl _)]
  ·rw [co_elim hi e, hpz j hj, mul_zero, add_zero]
   by_cases hlt : i < ps.length
   ·rw [if_pos hlt, hsk i hlt]
   ·rw [if_neg hlt, hsl i (by omega) hi j hj]
 have hget : ∀ t, t < ps.length → (ps ++ [c]).getD t 0 = ps.getD t 0 := fun t ht => by rw [getD_snoc, if_pos ht]
 have hend : (ps ++ [c]).getD ps.length 0 = c := by rw [getD_snoc, if_neg (Nat.lt_irrefl _), if_pos rfl]
 have hl : (ps ++ [c]).length = ps.length + 1 := by simp
 constructor
 ·rw [hl, elim_length]; omega
 ·intro t ht
  rw [hl] at ht
  by_cases e : t = ps.length
  ·rw [e, hend]; omega
  ·rw [hget t (by omega)]
   have := h.lt t (by omega)
   omega
 ·intro s t hst ht
  rw [hl] at ht
  rw [hget s (by omega)]
  by_cases e : t = ps.length
  ·rw [e, hend]
   exact h.lt s (by omega)
  ·rw [hget t (by omega)]
   exact h.asc s t hst (by omega)
 ·intro i t hi ht
  rw [hl] at ht
  rw [elim_length] at hi
  by_cases e : t = ps.length
  ·rw [e, hend, hcol i hi]
  ·rw [hget t (by omega), hbel i _ hi (h.lt t (by omega))]
   by_cases hlt : i < ps.length
   ·rw [if_pos hlt, h.unit i t hi (by omega)]
   ·rw [if_neg hlt, if_neg (by omega)]
 ·intro i j hi hi2 hj
  rw [hl] at hi
  rw [elim_length] at hi2
  by_cases e : j = c
  ·rw [e, hcol i hi2, if_neg (by omega)]
  ·rw [hbel i j hi2 (by omega), if_neg (by omega)]
 ·intro t j ht hj
  rw [hl] at ht
  by_cases e : t = ps.length
  ·rw [e, hend] at hj
   rw [e, hbel _ j ha hj, if_neg (Nat.lt_irrefl _)]
  ·rw [hget t (by omega)] at hj
   have := h.lt t (by omega)
   rw [hbel t j (by omega) (by omega), if_pos (by omega)]
   exact h.lead t j (by omega) hj
def Ld (M : List (List G)) (j : Nat) : Prop := ∃ v, Sp M v ∧ (∀ i, i < j → v i = 0) ∧ v j ≠ 0
theorem Ld.of {M N : List (List G)} (h : ∀ v, Sp M v → Sp N v) {j : Nat} (hl : Ld M j) : Ld N j := by
 obtain ⟨v, h1, h2⟩ := hl
 exact ⟨v, h v h1, h2⟩
end Go.Proofs.Ytcdmgppjhdpgkaa.Al
namespace Go.Proofs.Ytcdmgppjhdpgkaa.Al
set_option linter.unusedVariables false
set_option linter.unusedSimpArgs false
def one (n : Nat) (x : Nat → G) (j : Nat) : G := if j < n then x j else 1
end Go.Proofs.Ytcdmgppjhdpgkaa.Al
namespace Go.Proofs.Ytcdmgppjhdpgkaa.Al
open Go Go.RowKit Go.Proofs.YtcdmgppjhdpgkaaW.PrintWords Go.Proofs.YtcdmgppjhdpgkaaW.PrintMore Go.Proofs.Ytcdmgppjhdpgkaa.P
set_option linter.unusedVariables false
set_option linter.unusedSimpArgs false
def bss (M : List (List G)) : List (List Int) := M.map bs
theorem bss_length (M : List (List G)) : (bss M).length = M.length := List.length_map _
theorem rd_bss (M : List (List G)) (i : Nat) : rd_L1 (bss M) (i : Int) = bs (row M i) := by
 simp only [rd_L1, bss, Int.toNat_natCast, row, List.getD_eq_getElem?_getD, List.getElem?_map]
 cases M[i]? <;> rfl
theorem rd_bss0 (M : List (List G)) : rd_L1 (bss M) 0 = bs (row M 0) := rd_bss M 0
theorem bss_set (M : List (List G)) (n : Nat) (r : List G) : (bss M).set n (bs r) = bss (M.set n r) := List.map_set.symm
theorem bss_snoc (M : List (List G)) (r : List G) : bss M ++ [bs r] = bss (M ++ [r]) := by simp [bss]
theorem rows_in : ∀ l : List (List Int), (∀ x ∈ l, ∀ y ∈ x, (Lit.int .u8 y).wf = true) → ∃ M, l = bss M := by
 intro l
 induction l with
 | nil => intro _; exact ⟨[], rfl⟩
 | cons a l ih =>
  intro h
  obtain ⟨M, rfl⟩ := ih (fun x hx => h x (List.mem_cons_of_mem _ hx))
  obtain ⟨p, rfl⟩ := bytes_in (h a List.mem_cons_self)
  exact ⟨p :: M, rfl⟩
def wid (M : List (List G)) : Nat := (row M 0).length
def Rt (M : List (List G)) : Prop := Wd M (wid M)
instance (M : List (List G)) : Decidable (Rt M) := Nat.decidableBallLT M.length (fun i _ => (row M i).length = wid M)
theorem row_snoc_take {M : List (List G)} {n : Nat} (h : n < M.length) : M.take n ++ [row M n] = M.take (n + 1) := by
 rw [List.take_succ_eq_append_getElem h, row_lt h]
def Fit (M : List (List G)) : Prop := M.length < 1000000 ∧ ∀ i, i < M.length → (row M i).length < 1000000
theorem Fit.of {M : List (List G)} {w : Nat} (h1 : M.length < 1000000) (hw : Wd M w) (h2 : w < 1000000) : Fit M := ⟨h1, fun i hi => by rw [hw i hi]; exact h2⟩
theorem Fit.wid {M : List (List G)} (h : Fit M) : wid M < 1000000 := by
 unfold Al.wid
 by_cases e : 0 < M.length
 ·exact h.2 0 e
 ·rw [row_ge (by omega)]; decide
end Go.Proofs.Ytcdmgppjhdpgkaa.Al
