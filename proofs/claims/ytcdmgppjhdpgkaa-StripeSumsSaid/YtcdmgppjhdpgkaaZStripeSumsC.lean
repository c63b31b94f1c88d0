/- What the statement's proof uses: lemmas, and the program's functions as Lean functions; each theorem states its own conditions. Joined by a program. -/
import Derived.Test.YtcdmgppjhdpgkaaZStripeSumsB
namespace Go.Proofs.Ytcdmgppjhdpgkaa.P
open Go.RowKit Go.Proofs.YtcdmgppjhdpgkaaW.PrintWords Go.Proofs.YtcdmgppjhdpgkaaW.PrintLast Go.Proofs.YtcdmgppjhdpgkaaW.PrintMore
set_option linter.unusedVariables false
set_option linter.unusedSimpArgs false
set_option maxHeartbeats 8000000 in
set_option maxRecDepth 100000 in
theorem stripe_Parity.calls (k : Nat) (A0 : Option Addr) (c0 : Nat) (l0 : List (List Int)) (a1 : Int) (r1 : List (List Int)) (r2 : Int) (w : World) (hr0 : Kd.C (Kd.slice 5 (Kd.int .u8)) w A0 l0.length l0) (hc0 : l0.length ≤ c0) (h : stripe_Parity.f k l0 a1 = some (r1, r2)) :
 Calls Try.prog 18 #[.slice A0 l0.length c0, .int .i64 a1] w fun e w' => ∃ v0_ : Value, e = .returned (.tuple #[v0_, .int .i64 r2]) ∧ Kd.S (Kd.slice 5 (Kd.int .u8)) 22 w' w.heap.size (fun _ => True) v0_ r1 ∧ Below w.heap.size w w' := by
 have hmf : ∀ (fn : Fn) (first cap : Array Value) (w : World), (Instr.makeFunc fn first cap).run Try.prog w = .ok (.func fn first cap) w := fun _ _ _ _ => rfl
 obtain ⟨b, hbz⟩ : ∃ b, w.heap.size = b := ⟨_, rfl⟩
 obtain ⟨W1, hW1⟩ : ∃ W1, w.alloc (.cells #[.slice A0 l0.length c0] 40) = W1 := ⟨_, rfl⟩
 have hW : W1.cell? ⟨b, 0, none⟩ = some (.slice A0 l0.length c0) := by rw [← hW1, ← hbz, World.cell?_alloc_at _ _ _ _ rfl]; rfl
 have hBW : Below w.heap.size w W1 := by rw [← hW1]; exact below_alloc (Below.refl _ _) _
 have HR0 := Aside0.mk (show Kd.C (Kd.slice 5 (Kd.int .u8)) W1 A0 l0.length l0 from by rw [← hW1]; exact Kd.C_alloc hr0 _)
 have HC0 := Aside0.mk hc0
 refine Calls.mono (R := fun e w' => ∃ v0_ : Value, e = .returned (.tuple #[v0_, .int .i64 r2]) ∧ Kd.S (Kd.slice 5 (Kd.int .u8)) 22 w' W1.heap.size (fun _ => True) v0_ r1 ∧ Below W1.heap.size W1 w') ?_ ?_
 rotate_left
 ·rintro e w' ⟨v, h1, h2, h3⟩
  exact ⟨v, h1, Kd.S_lower h2 (below_size hBW), below_step hBW h3⟩
 obtain ⟨z, hz⟩ : ∃ z, (decide (fidx (fun x => (x.length : Int) != ((rd_L1 l0 0).length : Int)) l0 0 ≥ 0)) = z := ⟨_, rfl⟩
 have HC := Aside0.mk (slices_ContainsFunc_31.calls b (fun x => (x.length : Int) != ((rd_L1 l0 0).length : Int)) A0 c0 l0 W1 HR0.out hc0
  (fun m A c x hx hCx hlx => linear_Right_1.calls b A c x A0 c0 l0 _ hW (Kd.C_drewN HR0.out m) (List.length_pos_of_mem hx) hCx.2.1))
 unfold stripe_Parity.f at h
 rw [hz] at HC h
 clear hr0 hc0 hBW
 have HB := Aside0.mk (Below.refl W1.heap.size W1)
 have H : (if (l0.length : Int) = 0 then (stripe_Parity.j0 k a1 l0 true) else (if a1 < 0 then (stripe_Parity.j0 k a1 l0 true) else (stripe_Parity.j0 k a1 l0 z))) = some (r1, r2) := h
 clear h
 have HC3 := Aside0.mk H
 clear H
 go_enter Try.func18, Try.ntmps18
 go_upto_region 1 with (fail)
 try simp only [hW1, hbz]
 clear hW1 hbz
 go_cut [23] (fun v23 wc => ∃ (kq : Nat) (x23_2 : Bool), v23 = .bool x23_2 ∧ Aside0 (stripe_Parity.j0 kq a1 l0 x23_2 = some (r1, r2)) ∧ Aside0 (kq ≤ k) ∧ Aside0 (Below W1.heap.size W1 wc))
 case first =>
  have H := HC3.out
  clear HC3
  by_cases c4 : (l0.length : Int) = 0
  ·rw [if_pos c4] at H
   have c4b0 : ((l0.length : Int) == 0) = true := beq_iff_eq.mpr c4
   have c4b1 : ((l0.length : Int) != 0) = false := bne_eq_false_iff_eq.mpr c4
   clear c4
   (first | rw [c4b0] | (simp only [i64_w, i32_w]; rw [c4b0]) | skip)
   have H' := Aside0.mk H
   clear H
   go_wp2
   go_meet
   case rel => exact ⟨_, (true), (by first | rfl | (simp; done) | (simp [*]; done)), H', ⟨by first | omega | exact Nat.le_refl _⟩, ⟨by repeat (first | (with_reducible first | exact HB.out | apply below_alloc | apply pw_below_drewN | apply below_drew1) | exact HB.out)⟩⟩
  ·rw [if_neg c4] at H
   have c4b0 : ((l0.length : Int) == 0) = false := beq_eq_false_iff_ne.mpr c4
   have c4b1 : ((l0.length : Int) != 0) = true := bne_iff_ne.mpr c4
   have c4b2 : ¬ (l0 = []) := fun h_ => c4 (by rw [h_]; rfl)
   (first | rw [c4b0] | (simp only [i64_w, i32_w]; rw [c4b0]) | skip)
   by_cases c5 : a1 < 0
   ·rw [if_pos c5] at H
    have c5b0 : decide (a1 < 0) = true := decide_eq_true c5
    clear c5
    have H' := Aside0.mk H
    clear H
    go_wp2
    go_meet
    case rel => exact ⟨_, (true), (by first | rfl | (simp; done) | (simp [*]; done)), H', ⟨by first | omega | exact Nat.le_refl _⟩, ⟨by repeat (first | (with_reducible first | exact HB.out | apply below_alloc | apply pw_below_drewN | apply below_drew1) | exact HB.out)⟩⟩
   ·rw [if_neg c5] at H
    have c5b0 : decide (a1 < 0) = false := decide_eq_false c5
    clear c5
    have H' := Aside0.mk H
    clear H
    go_wp2_with (first | (go_at_call 32; (with_reducible refine HC.out.mono ?_); rintro e w' ⟨rfl, ⟨nd, rfl⟩⟩))
    go_meet
    case rel => exact ⟨_, z, (by first | rfl | (simp; done) | (simp [*]; done)), H', ⟨by first | omega | exact Nat.le_refl _⟩, ⟨by repeat (first | (with_reducible first | exact HB.out | apply below_alloc | apply pw_below_drewN | apply below_drew1) | exact HB.out)⟩⟩
 case rest =>
  clear HC3
  try clear c1
  try clear p2
  try clear c4
  try clear c4b0
  try clear c4b1
  try clear c4b2
  try clear c5
  try clear c5b0
  obtain ⟨kq, x23_2, rfl, HA, HJ2, HB⟩ := hcut
  have hbx := (HB.out.cell (World.block_lt_of_cell? W1 _ hW)).trans hW
  cases kq with
  | zero => exact absurd HA.out (by simp [stripe_Parity.j0])
  | succ kj2 =>
   have H := HA.out
   clear HA
   simp only [stripe_Parity.j0] at H
   by_cases c6 : x23_2 = true
   ·subst c6
    have H1 : (some (([] : List (List Int)), 1)) = some (r1, r2) := by rw [if_pos rfl] at H; exact H
    clear H
    have H := H1
    clear H1
    simp only [Option.some.injEq, Prod.mk.injEq] at H
    obtain ⟨rfl, rfl⟩ := H
    go_wp2
    go_ret2
    exact ⟨_, by first | rfl | (simp [errW_none, errW_some] <;> rfl) | (simp [*, errW_none, errW_some] <;> rfl), by first | exact Kd.S_nil _ _ _ _ _ | exact Kd.N_nil _ _ _ _ _ | exact Kd.V_nil _ _ _ _ _ | exact Kd.Q_nil _ _ _ _ _ | exact Kd.R_nil _ _ _ _ _, by repeat (first | (with_reducible first | exact HB.out | apply below_alloc | apply pw_below_drewN | apply below_drew1) | exact HB.out)⟩
   ·replace c6 := Bool.eq_false_iff.mpr c6
    subst c6
    have H1 : (if a1 > 255 then (stripe_Parity.j1 kj2 a1 l0 true) else (stripe_Parity.j1 kj2 a1 l0 (decide ((wrap64 ((l0.length : Int) + a1)) > 255)))) = some (r1, r2) := by rw [if_neg (show ¬ (false = true) by decide)] at H; exact H
    clear H
    have H := H1
    clear H1
    have HC7 := Aside0.mk H
    clear H
    go_upto_region 3 with (fail)
    go_cut [32] (fun v32 wc => ∃ (kq : Nat) (x32_6 : Bool), v32 = .bool x32_6 ∧ Aside0 (stripe_Parity.j1 kq a1 l0 x32_6 = some (r1, r2)) ∧ Aside0 (kq ≤ kj2) ∧ Aside0 (Below W1.heap.size W1 wc))
    case first =>
     have H := HC7.out
     clear HC7
     by_cases c8 : a1 > 255
     ·rw [if_pos c8] at H
      have c8b0 : decide (255 < a1) = true := decide_eq_true c8
      clear c8
      (first | rw [c8b0] | (simp only [i64_w, i32_w]; rw [c8b0]) | skip)
      have H' := Aside0.mk H
      clear H
      go_wp2
      go_meet
      case rel => exact ⟨_, (true), (by first | rfl | (simp; done) | (simp [*]; done)), H', ⟨by have := HJ2.out; first | omega | exact Nat.le_refl _⟩, ⟨by repeat (first | (with_reducible first | exact HB.out | apply below_alloc | apply pw_below_drewN | apply below_drew1) | exact HB.out)⟩⟩
     ·rw [if_neg c8] at H
      have c8b0 : decide (255 < a1) = false := decide_eq_false c8
      clear c8
      (first | rw [c8b0] | (simp only [i64_w, i32_w]; rw [c8b0]) | skip)
      have H' := Aside0.mk H
      clear H
      go_wp2
      go_meet
      case rel => exact ⟨_, (decide ((wrap64 ((l0.length : Int) + a1)) > 255)), (by first | rfl | (simp; done) | (simp [*]; done)), H', ⟨by have := HJ2.out; first | omega | exact Nat.le_refl _⟩, ⟨by repeat (first | (with_reducible first | exact HB.out | apply below_alloc | apply pw_below_drewN | apply below_drew1) | exact HB.out)⟩⟩
    case rest =>
     clear HC7
     try clear c1
     try clear p2
     try clear c4
     try clear c4b0
     try clear c4b1
     try clear c4b2
     try clear c5
     try clear c5b0
     try clear c6
     try clear p6
     try clear c8
     try clear c8b0
     try clear p2
     obtain ⟨kq, x32_6, rfl, HA, HJ6, HB⟩ := hcut
     have hbx := (HB.out.cell (World.block_lt_of_cell? W1 _ hW)).trans hW
     cases kq with
     | zero => exact absurd HA.out (by simp [stripe_Parity.j1])
     | succ kj6 =>
      have H := HA.out
      clear HA
      simp only [stripe_Parity.j1] at H
      by_cases c9 : x32_6 = true
      ·subst c9
       have H1 : (some (([] : List (List Int)), 3)) = some (r1, r2) := by rw [if_pos rfl] at H; exact H
       clear H
       have H := H1
       clear H1
       simp only [Option.some.injEq, Prod.mk.injEq] at H
       obtain ⟨rfl, rfl⟩ := H
       go_wp2
       go_ret2
       exact ⟨_, by first | rfl | (simp [errW_none, errW_some] <;> rfl) | (simp [*, errW_none, errW_some] <;> rfl), by first | exact Kd.S_nil _ _ _ _ _ | exact Kd.N_nil _ _ _ _ _ | exact Kd.V_nil _ _ _ _ _ | exact Kd.Q_nil _ _ _ _ _ | exact Kd.R_nil _ _ _ _ _, by repeat (first | (with_reducible first | exact HB.out | apply below_alloc | apply pw_below_drewN | apply below_drew1) | exact HB.out)⟩
      ·replace c9 := Bool.eq_false_iff.mpr c9
       subst c9
       have H1 : (if 0 ≤ a1 then (if (a1 : Int).toNat ≤ 11728124029610 then (if 0 < (l0.length : Int) then (stripe_Parity.l0 kj6 a1 l0 (List.replicate (a1 : Int).toNat []) ((rd_L1 l0 0).length : Int) 0) else (none)) else (none)) else (none)) = some (r1, r2) := by rw [if_neg (show ¬ (false = true) by decide)] at H; exact H
       clear H
       have H := H1
       clear H1
       by_cases c10 : 0 ≤ a1
       ·rw [if_pos c10] at H
        have c10b0 := eq_true c10
        have c10b1 : decide (0 ≤ a1) = true := decide_eq_true c10
        clear c10
        by_cases c11 : (a1 : Int).toNat ≤ 11728124029610
        ·rw [if_pos c11] at H
         have c11b0 := eq_true c11
         have c11b1 : decide ((a1 : Int).toNat ≤ 11728124029610) = true := decide_eq_true c11
         clear c11
         obtain ⟨y208, hy208⟩ : ∃ y_ : List (List Int), y_ = (List.replicate (a1 : Int).toNat []) := ⟨_, rfl⟩
         replace H : (if 0 < (l0.length : Int) then (stripe_Parity.l0 kj6 a1 l0 y208 ((rd_L1 l0 0).length : Int) 0) else (none)) = some (r1, r2) := by first | (rw [hy208]; with_reducible exact H) | (have H2_ := (Option.bind_some _ _).symm.trans H; rw [hy208]; with_reducible exact H2_) | (have H2_ := (Option.bind_some _ _).symm.trans H; with_reducible exact H2_) | with_reducible exact H | (rw [hy208]; exact H) | exact H
         have Ny208 := Aside0.mk hy208
         clear hy208
         by_cases c12 : 0 < (l0.length : Int)
         ·rw [if_pos c12] at H
          have c12b0 : decide (0 < (l0.length : Int)) = true := decide_eq_true c12
          have c12b1 : decide (0 < l0.length) = true := decide_eq_true (by omega)
          clear c12
          have H' := Aside0.mk H
          clear H
          go_wp2_with (first | ((with_reducible refine gate_dst (N := 34) rfl ?_); (try (refine gate_guard (by rfl) ?_; dsimp only)); refine Kd.S_make (Kd.slice 5 (Kd.int .u8)) _ 22 rfl (N := 34) rfl 40 _ _ rfl a1 rfl rfl Try.underlying40 (.slice none 0 0) 24 info22 rfl (by decide) (by omega) [] (ok := fun _ => True) (okp := fun _ => True) ⟨_, rfl, Kd.R_nil _ _ _ _ _⟩ (fun _ hk => hk) trivial (of_decide_eq_true (by first | (with_reducible assumption) | assumption)) (Nat.le_trans (Nat.mul_le_mul_right _ (of_decide_eq_true (by first | (with_reducible assumption) | assumption) : a1.toNat ≤ 11728124029610)) (by omega)) (Below.refl _ _) (Nat.le_refl _) ?_; intro v209 w13 ho14 hb hg_ hnew_; clear hg_ hnew_; (first | rw [← Ny208.out] at ho14 | (simp only [Int.reduceToNat] at ho14; rw [← Ny208.out] at ho14)); have n0_ := Aside0.mk (Kd.S_lower ho14 (below_size (by repeat (first | (with_reducible first | exact HB.out | apply below_alloc | apply pw_below_drewN | apply below_drew1) | exact HB.out)))); have n1_ := Aside0.mk (below_step (by repeat (first | (with_reducible first | exact HB.out | apply below_alloc | apply pw_below_drewN | apply below_drew1) | exact HB.out)) hb); clear HB; have HO210 := n0_; have HB := n1_; clear n0_ n1_; clear hb ho14; have hbx := (HB.out.cell (World.block_lt_of_cell? W1 _ hW)).trans hW; have p211 : 0 ≤ (0 : Int) := (by omega); have q211 : 0 < (l0.length : Int) := of_decide_eq_true (by first | (with_reducible assumption) | assumption); obtain ⟨ad211, A211_0, c211_0, e211, hx211_0, hl211_0, hi211_0⟩ := at_L1 HR0.out 0 p211 q211; cases e211; have qi211 : (0 < l0.length) = True := eq_true (by omega); (try rw [show ((0 : Int)).toNat = 0 from rfl] at hx211_0); (try rw [Addr.add_zero'] at hx211_0); replace hx211_0 := (HB.out.cell (World.block_lt_of_cell? W1 _ hx211_0)).trans hx211_0; have HR211_0 := Aside0.mk hi211_0; have HC211_0 := Aside0.mk hl211_0; clear hi211_0 hl211_0; replace p211 := eq_true p211; replace q211 := eq_true q211))
          go_loopg [39] kj6 (fun kq v39 w' => ∃ (x6_3 : List (List Int)) (x39_3 : Int), v39 = .int .i64 x39_3 ∧ Aside0 (stripe_Parity.l0 kq a1 l0 x6_3 ((rd_L1 l0 0).length : Int) x39_3 = some (r1, r2)) ∧ Aside0 (kq ≤ kj6) ∧ Aside0 (Kd.S (Kd.slice 5 (Kd.int .u8)) 22 w' W1.heap.size (fun _ => True) v209 x6_3) ∧ Aside0 (Below W1.heap.size W1 w'))
          case atStart => exact ⟨(y208), (0), (by first | rfl | (simp; done) | (simp [*]; done)), H', ⟨Nat.le_refl _⟩, ⟨by (with_reducible repeat (first | apply Kd.S_alloc | apply Kd.S_drewN | apply Kd.S_drew)); exact HO210.out⟩, ⟨by repeat (first | (with_reducible first | exact HB.out | apply below_alloc | apply pw_below_drewN | apply below_drew1) | exact HB.out)⟩⟩
          case round =>
           clear H'
           try clear c1
           try clear c2
           try clear p2
           try clear q2
           try clear hx2
           try clear qi2
           try clear c4
           try clear c4b0
           try clear c4b1
           try clear c4b2
           try clear c5
           try clear c5b0
           try clear c6
           try clear p6
           try clear c8
           try clear c8b0
           try clear c9
           try clear c10
           try clear c10b0
           try clear c10b1
           try clear c11
           try clear c11b0
           try clear c11b1
           try clear c12
           try clear c12b0
           try clear c12b1
           try clear hx211_0
           try clear p2
           try clear p211
           try clear p6
           try clear q211
           obtain ⟨x6_3, x39_3, rfl, HA, HK3, HO_6, HB⟩ := hrel
           have hbx := (HB.out.cell (World.block_lt_of_cell? W1 _ hW)).trans hW
           cases gk with
           | zero => exact absurd HA.out (by simp [stripe_Parity.l0])
           | succ k3 =>
            have H := HA.out
            clear HA
            simp only [stripe_Parity.l0] at H
            by_cases c15 : x39_3 < ((rd_L1 l0 0).length : Int)
            ·rw [if_pos c15] at H
             have c15b0 : decide (x39_3 < ((rd_L1 l0 0).length : Int)) = true := decide_eq_true c15
             clear c15
             replace H := Option.bind_eq_some_iff.mp H
             obtain ⟨t212, A160, H⟩ := H
             replace H : ((systematic_Encode.f k3 t212 a1).bind fun bt215 => (stripe_Parity.l1 k3 a1 l0 x6_3 ((rd_L1 l0 0).length : Int) x39_3 bt215.1 (bt215.1.length : Int) 0)) = some (r1, r2) := H
             have A16 := Aside0.mk A160
             clear A160
             replace H := Option.bind_eq_some_iff.mp H
             obtain ⟨⟨t215, t216⟩, A170, H⟩ := H
             replace H : (stripe_Parity.l1 k3 a1 l0 x6_3 ((rd_L1 l0 0).length : Int) x39_3 t215 (t215.length : Int) 0) = some (r1, r2) := H
             have A17 := Aside0.mk A170
             clear A170
             have H' := Aside0.mk H
             clear H
             go_wp2_with (first | ((with_reducible refine gate_callee (f := 35) rfl ?_); refine goesL_ (some 45) rfl rfl Try.func35 (by kernel_rfl) rfl #[.slice (some ad211) l0.length c0, .int .i64 x39_3] rfl (by (try simp only [List.map_toArray, List.map_cons, List.map_nil]); first | done | rfl | (simp only [List.length_drop, List.length_take]; rfl)) ?_; (with_reducible refine (stripe_row.calls k3 _ _ l0 x39_3 t212 _ ?side1 ?side2 A16.out).mono ?_); (case side1 => repeat (first | exact (Kd.C_below HR0.out HB.out) | (with_reducible refine Kd.C_alloc ?_ _) | (with_reducible refine Kd.C_drewN ?_ _) | (with_reducible refine Kd.C_drew ?_))); (case side2 => exact HC0.out); rintro e w18 ⟨v213, rfl, ho0, hb⟩; refine ⟨_, rfl, ?_⟩; have n0_ := Aside0.mk (Kd.S_elder' (by (with_reducible repeat (first | apply Kd.S_alloc | apply Kd.S_drewN | apply Kd.S_drew)); exact HO_6.out) (Kd.R_base ho0) hb); have n1_ := Aside0.mk (Kd.R_lower ho0 (below_size (by repeat (first | (with_reducible first | exact HB.out | apply below_alloc | apply pw_below_drewN | apply below_drew1) | exact HB.out)))); have n2_ := Aside0.mk (below_step (by repeat (first | (with_reducible first | exact HB.out | apply below_alloc | apply pw_below_drewN | apply below_drew1) | exact HB.out)) hb); clear HO_6; clear HB; have HO_6 := n0_; have HO214 := n1_; have HB := n2_; clear n0_ n1_ n2_; (try clear hb); (try clear hb2); (try clear hk); (try clear hi); (try clear ho0); obtain ⟨Ao19, co19, eo19⟩ := Kd.R_slice HO214.out; subst eo19) | ((with_reducible refine gate_callee (f := 34) rfl ?_); refine goesL_ (some 47) rfl rfl Try.func34 (by kernel_rfl) rfl #[.slice Ao19 t212.length co19, .int .i64 a1] rfl (by (try simp only [List.map_toArray, List.map_cons, List.map_nil]); first | done | rfl | (simp only [List.length_drop, List.length_take]; rfl)) ?_; (with_reducible refine (systematic_Encode.calls k3 _ _ t212 a1 t215 t216 _ ?side1 ?side2 A17.out).mono ?_); (case side1 => repeat (first | exact (Kd.R_reads' HO214.out).2.2 | (with_reducible refine Kd.C_alloc ?_ _) | (with_reducible refine Kd.C_drewN ?_ _) | (with_reducible refine Kd.C_drew ?_))); (case side2 => exact (Kd.R_reads' HO214.out).2.1); rintro e w20 ⟨v217, rfl, ho0, hb⟩; refine ⟨_, rfl, ?_⟩; have n0_ := Aside0.mk (Kd.S_elder' (by (with_reducible repeat (first | apply Kd.S_alloc | apply Kd.S_drewN | apply Kd.S_drew)); exact HO_6.out) (Kd.R_base ho0) hb); have n1_ := Aside0.mk (Kd.R_elder' (by (with_reducible repeat (first | apply Kd.R_alloc | apply Kd.R_drewN | apply Kd.R_drew)); exact HO214.out) (Kd.R_base ho0) hb); have n2_ := Aside0.mk (Kd.R_lower (Kd.R_new' ho0 (Kd.R_lt (by (with_reducible repeat (first | apply Kd.R_alloc | apply Kd.R_drewN | apply Kd.R_drew)); exact HO214.out))) (below_size (by repeat (first | (with_reducible first | exact HB.out | apply below_alloc | apply pw_below_drewN | apply below_drew1) | exact HB.out)))); have n3_ := Aside0.mk (below_step (by repeat (first | (with_reducible first | exact HB.out | apply below_alloc | apply pw_below_drewN | apply below_drew1) | exact HB.out)) hb); clear HO_6; clear HO214; clear HB; have HO_6 := n0_; have HO214 := n1_; have HO218 := n2_; have HB := n3_; clear n0_ n1_ n2_ n3_; (try clear hb); (try clear hb2); (try clear hk); (try clear hi); (try clear ho0); obtain ⟨Ao21, co21, eo21⟩ := Kd.R_slice HO218.out; subst eo21))
             go_loopg [52] k3 (fun kq v52 w' => ∃ (x6_4 : List (List Int)) (x52_4 : Int), v52 = .int .i64 x52_4 ∧ Aside0 (stripe_Parity.l1 kq a1 l0 x6_4 ((rd_L1 l0 0).length : Int) x39_3 t215 (t215.length : Int) x52_4 = some (r1, r2)) ∧ Aside0 (kq ≤ k3) ∧ Aside0 (Kd.S (Kd.slice 5 (Kd.int .u8)) 22 w' W1.heap.size (fun k_ => some k_ ≠ ((.slice Ao21 t215.length co21) : Value).ownBlock) v209 x6_4) ∧ Aside0 (Kd.R (Kd.int .u8) 5 w' W1.heap.size (fun _ => True) (.slice Ao21 t215.length co21) t215) ∧ Aside0 (Below W1.heap.size W1 w'))
             case atStart => exact ⟨(x6_3), (0), (by first | rfl | (simp; done) | (simp [*]; done)), H', ⟨Nat.le_refl _⟩, ⟨by (with_reducible repeat (first | apply Kd.S_alloc | apply Kd.S_drewN | apply Kd.S_drew)); exact Kd.S_mono HO_6.out (fun _ hk => hk.2)⟩, ⟨by (with_reducible repeat (first | apply Kd.R_alloc | apply Kd.R_drewN | apply Kd.R_drew)); exact Kd.R_mono HO218.out (fun _ hk => trivial)⟩, ⟨by repeat (first | (with_reducible first | exact HB.out | apply below_alloc | apply pw_below_drewN | apply below_drew1) | exact HB.out)⟩⟩
             case round =>
              clear H'
              try clear c1
              try clear c2
              try clear p2
              try clear q2
              try clear hx2
              try clear qi2
              try clear c3
              try clear c4
              try clear c4b0
              try clear c4b1
              try clear c4b2
              try clear c5
              try clear c5b0
              try clear c6
              try clear p6
              try clear c8
              try clear c8b0
              try clear c9
              try clear c10
              try clear c10b0
              try clear c10b1
              try clear c11
              try clear c11b0
              try clear c11b1
              try clear c12
              try clear c12b0
              try clear c12b1
              try clear c15
              try clear c15b0
              try clear c18
              try clear c21
              try clear p21
              try clear q21
              try clear hx21
              try clear qi21
              try clear hx211_0
              try clear p2
              try clear p211
              try clear p6
              try clear q2
              try clear q211
              obtain ⟨x6_4, x52_4, rfl, HA, HK4, HO_6, HO_50, HB⟩ := hrel
              have hbx := (HB.out.cell (World.block_lt_of_cell? W1 _ hW)).trans hW
              cases gk with
              | zero => exact absurd HA.out (by simp [stripe_Parity.l1])
              | succ k4 =>
               have H := HA.out
               clear HA
               simp only [stripe_Parity.l1] at H
               by_cases c22 : x52_4 < (t215.length : Int)
               ·rw [if_pos c22] at H
                have c22b0 : decide (x52_4 < (t215.length : Int)) = true := decide_eq_true c22
                clear c22
                by_cases c23 : 0 ≤ x52_4
                ·rw [if_pos c23] at H
                 have c23b0 : decide (0 ≤ x52_4) = true := decide_eq_true c23
                 clear c23
                 by_cases c24 : x52_4 < (t215.length : Int)
                 ·rw [if_pos c24] at H
                  have c24b0 : decide (x52_4 < (t215.length : Int)) = true := decide_eq_true c24
                  clear c24
                  by_cases c25 : x52_4 < (x6_4.length : Int)
                  ·rw [if_pos c25] at H
                   have c25b0 : decide (x52_4 < (x6_4.length : Int)) = true := decide_eq_true c25
                   clear c25
                   by_cases c26 : (rd_L1 x6_4 x52_4).length < 140737488355328
                   ·rw [if_pos c26] at H
                    have LMc26 := Aside0.mk c26
                    clear c26
                    obtain ⟨y221, hy221⟩ : ∃ y_ : List Int, y_ = ((rd_L1 x6_4 x52_4) ++ [rd t215 x52_4]) := ⟨_, rfl⟩
                    replace H : (stripe_Parity.l1 k4 a1 l0 (x6_4.set (x52_4 : Int).toNat y221) ((rd_L1 l0 0).length : Int) x39_3 t215 (t215.length : Int) (wrap64 (x52_4 + 1))) = some (r1, r2) := by first | (rw [hy221]; with_reducible exact H) | (have H2_ := (Option.bind_some _ _).symm.trans H; rw [hy221]; with_reducible exact H2_) | (have H2_ := (Option.bind_some _ _).symm.trans H; with_reducible exact H2_) | with_reducible exact H | (rw [hy221]; exact H) | exact H
                    have Ny221 := Aside0.mk hy221
                    clear hy221
                    obtain ⟨y224, hy224⟩ : ∃ y_ : List (List Int), y_ = (x6_4.set (x52_4 : Int).toNat y221) := ⟨_, rfl⟩
                    replace H : (stripe_Parity.l1 k4 a1 l0 y224 ((rd_L1 l0 0).length : Int) x39_3 t215 (t215.length : Int) (wrap64 (x52_4 + 1))) = some (r1, r2) := by first | (rw [hy224]; with_reducible exact H) | (have H2_ := (Option.bind_some _ _).symm.trans H; rw [hy224]; with_reducible exact H2_) | (have H2_ := (Option.bind_some _ _).symm.trans H; with_reducible exact H2_) | with_reducible exact H | (rw [hy224]; exact H) | exact H
                    have Ny224 := Aside0.mk hy224
                    clear hy224
                    have H' := Aside0.mk H
                    clear H
                    have p219 : 0 ≤ (x52_4 : Int) := of_decide_eq_true (by first | (with_reducible assumption) | assumption)
                    have q219 : x52_4 < (t215.length : Int) := of_decide_eq_true (by first | (with_reducible assumption) | assumption)
                    obtain ⟨ad219, e219, hx219_0⟩ := Kd.at_int (Kd.R_reads' HO_50.out).2.2 x52_4 p219 q219
                    cases e219
                    replace p219 := eq_true p219
                    replace q219 := eq_true q219
                    obtain ⟨Ao28, co28, eo28⟩ := Kd.S_slice HO_6.out
                    subst eo28
                    have p220 : 0 ≤ (x52_4 : Int) := of_decide_eq_true (by first | (with_reducible assumption) | assumption)
                    have q220 : x52_4 < (x6_4.length : Int) := of_decide_eq_true (by first | (with_reducible assumption) | assumption)
                    obtain ⟨ad220, A220_0, c220_0, e220, hx220_0, hl220_0, hi220_0⟩ := at_L1 (Kd.S_reads' HO_6.out).2.2 x52_4 p220 q220
                    cases e220
                    obtain ⟨ce220, hce220, hMe220, hcc220⟩ := Kd.S_get HO_6.out [] x52_4 p220 (by first | exact q220 | exact of_decide_eq_true (by first | (with_reducible assumption) | assumption) | (have e_ := (Kd.S_reads' HO_6.out).1; omega))
                    obtain ⟨ve220_0, rfl, ge220_0⟩ := hMe220
                    have hv220_0 := hcc220 0 _ rfl
                    rw [Nat.add_zero, show ((Kd.slice 5 (Kd.int .u8))).sz = 1 from rfl, Nat.mul_one] at hv220_0
                    replace hv220_0 := Option.some.inj (hv220_0.symm.trans hx220_0)
                    rw [hv220_0] at ge220_0
                    have HL220_0 := Aside0.mk (show Kd.R (Kd.int .u8) 5 _ _ _ _ (rd_L1 x6_4 x52_4) from ge220_0)
                    clear hv220_0 ge220_0
                    have HX220_0 := Aside0.mk hx220_0
                    clear hcc220 hce220
                    have HR220_0 := Aside0.mk hi220_0
                    have HC220_0 := Aside0.mk hl220_0
                    clear hi220_0 hl220_0
                    replace p220 := eq_true p220
                    replace q220 := eq_true q220
                    obtain ⟨go29, co29, eo29, gb29, gl29, cl29, HG29⟩ := Kd.S_form HO_6.out (by have h_ : (x52_4 : Int) < ((x6_4.length : Int) : Int) := of_decide_eq_true (by first | (with_reducible assumption) | assumption); have h2_ : 0 ≤ (x52_4 : Int) := (of_decide_eq_true (by first | (with_reducible assumption) | assumption)); omega)
                    (first | cases eo29 | (injection eo29 with ea_ en_ ec_; (first | subst ea_ | (injection ea_ with ea_; subst ea_)); subst ec_; clear en_))
                    have GB29 := Aside0.mk gb29
                    have GG29 := Aside0.mk HG29
                    clear gb29 gl29 HG29
                    (first | simp only [add_plain] at hx220_0 | skip)
                    obtain ⟨oki29, ce29, hcl29, hM29, hcc29, _, _, hH29⟩ := Kd.S_elem HO_6.out [] (x52_4 : Int) (of_decide_eq_true (by first | (with_reducible assumption) | assumption)) (by have h_ : (x52_4 : Int) < ((x6_4.length : Int) : Int) := of_decide_eq_true (by first | (with_reducible assumption) | assumption); first | exact h_ | (have e_ := (Kd.S_reads' HO_6.out).1; omega) | simpa using h_)
                    obtain ⟨ve29_0, rfl, ge29_0⟩ := hM29
                    have hv29 := hcc29 0 _ rfl
                    have hX29 := HX220_0.out
                    (try simp only [add_plain] at hX29)
                    (try simp only [Nat.add_zero] at hv29)
                    (try rw [show ((Kd.slice 5 (Kd.int .u8))).sz = 1 from rfl, Nat.mul_one] at hv29)
                    replace hv29 := Option.some.inj (hv29.symm.trans hX29)
                    subst hv29
                    clear hX29 hcc29 hcl29
                    have UU29 := Aside0.mk (show Kd.R (Kd.int .u8) 5 _ W1.heap.size oki29 (.slice A220_0 (rd_L1 x6_4 x52_4).length c220_0) (rd_L1 x6_4 x52_4) from ge29_0)
                    have HH29 := Aside0.mk hH29
                    have HN29 := Aside0.mk (Kd.S_reads' HO_6.out).1
                    clear hH29 ge29_0
                    go_wp2_with (first | ((with_reducible refine gate_builtin (b := .append) (xs := #[.tmp 62, .tmp 64]) rfl ?_); (try (refine gate_guard (by rfl) ?_; dsimp only)); at_builtin; refine Kd.R_append (Kd.int .u8) (w0 := W1) W1.heap.size rfl (.tmp 62) (.tmp 64) 22 5 (.int .u8 0) 1 rfl Try.underlying22 info5 rfl (by decide) (by omega) (.slice A220_0 (rd_L1 x6_4 x52_4).length c220_0) (rd_L1 x6_4 x52_4) (rd t215 x52_4) [.int .u8 (rd t215 x52_4)] (fun k_ => oki29 k_ ∨ ((fun k_ => some k_ ≠ (.slice (some ad219) t215.length co21 : Value).ownBlock)) k_ ∧ wr.heap.size ≤ k_) (fun _ => False) rfl rfl ?aP (fun _ hk => hk.elim) ?aF ?aO ?aB ?aS ?aL ?_; (case aP => exact rfl); (case aB => exact (by repeat (first | (with_reducible first | exact HB.out | apply below_alloc | apply pw_below_drewN | apply below_drew1) | exact HB.out))); (case aF => exact (fun k_ hk => .inr ⟨Kd.fresh' (Kd.R_lt (by (with_reducible repeat (first | apply Kd.R_alloc | apply Kd.R_drewN | apply Kd.R_drew)); exact HO_50.out)) k_ hk, hk⟩)); (case aO => exact (by (with_reducible repeat (first | apply Kd.R_alloc | apply Kd.R_drewN | apply Kd.R_drew)); exact Kd.R_mono UU29.out (fun _ hk => .inl hk))); (case aS => exact (below_size (by repeat (first | (with_reducible first | exact HB.out | apply below_alloc | apply pw_below_drewN | apply below_drew1) | exact HB.out)))); (case aL => have := LMc26.out; omega); intro v222 w30 ho hb hg hat; rw [← Ny221.out] at ho; have n0_ := Aside0.mk (Kd.R_grown2 (by (with_reducible repeat (first | apply Kd.R_alloc | apply Kd.R_drewN | apply Kd.R_drew)); exact HO_50.out) rfl hg (fun k_ e_ => (HL220_0.out.1 k_ e_).1)); have n1_ := Aside0.mk (hb); have n2_ := Aside0.mk (Kd.H_grown (Kd.H_widen (by repeat (first | exact HH29.out | refine Kd.H_alloc ?_ _ | refine Kd.H_drewN ?_ _ | refine Kd.H_drew ?_))) hg (fun k_ e_ => .inl (UU29.out.1 k_ e_))); have n3_ := Aside0.mk (ho); clear HO_50; clear HB; clear HH29; clear HO_6; clear UU29; clear HL220_0; have HO_50 := n0_; have HB := n1_; have HH29 := n2_; have HO223 := n3_; clear n0_ n1_ n2_ n3_; clear ho hb hg hat; have p27 : 0 ≤ (x52_4 : Int) := of_decide_eq_true (by first | (with_reducible assumption) | assumption); have q27 : (x52_4 : Int) < ((x6_4.length : Int) : Int) := of_decide_eq_true (by first | (with_reducible assumption) | assumption); replace p27 := eq_true p27; replace q27 := eq_true q27; obtain ⟨Ao33, co33, eo33⟩ := Kd.R_slice HO223.out; subst eo33; obtain ⟨_, _, hraw31, _, _, hcc31, _⟩ := Kd.H_raw HH29.out (of_decide_eq_true (by first | (with_reducible assumption) | assumption)) (by have h_ : (x52_4 : Int) < ((x6_4.length : Int) : Int) := of_decide_eq_true (by first | (with_reducible assumption) | assumption); first | exact h_ | (have e_ := (HN29.out); omega) | simpa using h_); obtain ⟨_, hfr31⟩ := Kd.H_at HH29.out (of_decide_eq_true (by first | (with_reducible assumption) | assumption)) (by have h_ : (x52_4 : Int) < ((x6_4.length : Int) : Int) := of_decide_eq_true (by first | (with_reducible assumption) | assumption); first | exact h_ | (have e_ := (HN29.out); omega) | simpa using h_); have hx31_0 := hcc31 0 _ rfl; have hf31_0 := hfr31 0; (try simp only [Nat.add_zero] at hx31_0 hf31_0); (try rw [show ((Kd.slice 5 (Kd.int .u8))).sz = 1 from rfl, Nat.mul_one] at hx31_0); (try rw [show ((Kd.slice 5 (Kd.int .u8))).sz = 1 from rfl, Nat.mul_one] at hf31_0); have HP31 := Kd.S_seg0 HH29.out (of_decide_eq_true (by first | (with_reducible assumption) | assumption)) (by have h_ : (x52_4 : Int) < ((x6_4.length : Int) : Int) := of_decide_eq_true (by first | (with_reducible assumption) | assumption); first | exact h_ | (have e_ := (HN29.out); omega) | simpa using h_) (seg := [.slice Ao33 y221.length co33]) (j := 0) (show 1 ≤ 1 from by decide) (x' := y221) (Kd.M_row HO223.out) (fun _ hk => hk); (try simp only [show ((Kd.slice 5 (Kd.int .u8))).sz = 1 from rfl, Nat.mul_one, Nat.add_zero] at HP31); clear hcc31 hfr31) | ((with_reducible refine gate_store (t := 22) (p := 66) rfl ?_); refine store_event (t := 22) (p := 66) (v := ?vo_w32) (w1 := (w30.setCell ⟨go29, (x52_4 : Int).toNat, none⟩ (.slice Ao33 y221.length co33))) ?hg ?ho ?hn ?hr ?_; (case ho => rfl); (case hg => rfl); (case hn => rfl); (case hr => first | (go_simp; done) | (go_simp; rfl)); intro w32 hw; have hg : w30.grownBy w32 (some go29) := (by rw [hw]; exact HP31.2); have hp_ : Kd.S (Kd.slice 5 (Kd.int .u8)) 22 w32 W1.heap.size (fun k_ => some k_ ≠ (.slice (some ad219) t215.length co21 : Value).ownBlock) (.slice (some ⟨go29, 0, none⟩) x6_4.length co28) y224 := (by rw [hw, Ny224.out]; exact HP31.1); clear HP31; have n0_ := Aside0.mk (Kd.R_over' (v := (.slice (some ⟨go29, 0, none⟩) x6_4.length co28)) (by (with_reducible repeat (first | apply Kd.R_alloc | apply Kd.R_drewN | apply Kd.R_drew)); exact HO_50.out) (Kd.R_typed hraw31) (by decide) hg); have n1_ := Aside0.mk ((by rw [hw]; exact below_set HB.out GB29.out : Below W1.heap.size W1 w32)); have n2_ := Aside0.mk (hp_); clear HO_50; clear HB; clear HO223; clear HH29; have HO_50 := n0_; have HB := n1_; have HO_6 := n2_; clear n0_ n1_ n2_; clear hg hw hp_ hraw31))
                    go_roundg k4
                    case measure => have := HJ2.out; have := HJ6.out; have := HK3.out; have := HK4.out; omega
                    case rel => exact ⟨(y224), (wrap64 (x52_4 + 1)), (by first | rfl | (simp; done) | (simp [*]; done)), H', ⟨by have := HJ2.out; have := HJ6.out; have := HK3.out; have := HK4.out; omega⟩, ⟨by (with_reducible repeat (first | apply Kd.S_alloc | apply Kd.S_drewN | apply Kd.S_drew)); exact HO_6.out⟩, ⟨by (with_reducible repeat (first | apply Kd.R_alloc | apply Kd.R_drewN | apply Kd.R_drew)); exact HO_50.out⟩, ⟨by repeat (first | (with_reducible first | exact HB.out | apply below_alloc | apply pw_below_drewN | apply below_drew1) | exact HB.out)⟩⟩
                   ·rw [if_neg c26] at H
                    exact absurd H (by simp)
                  ·rw [if_neg c25] at H
                   exact absurd H (by simp)
                 ·rw [if_neg c24] at H
                  exact absurd H (by simp)
                ·rw [if_neg c23] at H
                 exact absurd H (by simp)
               ·rw [if_neg c22] at H
                have c22b0 : decide (x52_4 < (t215.length : Int)) = false := decide_eq_false c22
                clear c22
                have H' := Aside0.mk H
                clear H
                go_wp2
                go_roundg k4
                case measure => have := HJ2.out; have := HJ6.out; have := HK3.out; have := HK4.out; omega
                case rel => exact ⟨(x6_4), (wrap64 (x39_3 + 1)), (by first | rfl | (simp; done) | (simp [*]; done)), H', ⟨by have := HJ2.out; have := HJ6.out; have := HK3.out; have := HK4.out; omega⟩, ⟨by (with_reducible repeat (first | apply Kd.S_alloc | apply Kd.S_drewN | apply Kd.S_drew)); exact Kd.S_mono HO_6.out (fun _ hk => trivial)⟩, ⟨by repeat (first | (with_reducible first | exact HB.out | apply below_alloc | apply pw_below_drewN | apply below_drew1) | exact HB.out)⟩⟩
            ·rw [if_neg c15] at H
             have c15b0 : decide (x39_3 < ((rd_L1 l0 0).length : Int)) = false := decide_eq_false c15
             clear c15
             simp only [Option.some.injEq, Prod.mk.injEq] at H
             obtain ⟨rfl, rfl⟩ := H
             go_wp2
             go_ret2
             exact ⟨_, by first | rfl | (simp [errW_none, errW_some] <;> rfl) | (simp [*, errW_none, errW_some] <;> rfl), by (with_reducible repeat (first | apply Kd.S_alloc | apply Kd.S_drewN | apply Kd.S_drew)); exact HO_6.out, by repeat (first | (with_reducible first | exact HB.out | apply below_alloc | apply pw_below_drewN | apply below_drew1) | exact HB.out)⟩
         ·rw [if_neg c12] at H
          exact absurd H (by simp)
        ·rw [if_neg c11] at H
         exact absurd H (by simp)
       ·rw [if_neg c10] at H
        exact absurd H (by simp)
def footlockerlaw23_alive.f (k : Nat)  : Option (Bool) := (stripe_Column.f k (([97, 98] : List Int)) 5).bind fun bt211 => ((stripe_Volume.f k bt211.1).bind fun bt215 => ((stripe_Volume.f k (([9, 0, 0, 0, 0, 0, 0, 0] : List Int))).bind fun bt222 => ((stripe_Parity.f k (([(([5] : List Int)), (([7] : List Int))] : List (List Int))) 1).bind fun bt235 => ((stripe_Parity.f k ([] : List (List Int)) 1).bind fun bt239 => (if (bt235.1.length : Int) = 1 then (if (strOfNums bt211.1).toList = ([2, 0, 0, 0, 0, 0, 0, 0, 97, 98, 0, 0, 0] : List UInt8) then (if bt211.2 = 0 then (if (strOfNums bt215.1).toList = ([97, 98] : List UInt8) then (if bt215.2 = 0 then (if bt222.2 = 23 then (if 0 < (bt235.1.length : Int) then (if (strOfNums (rd_L1 bt235.1 0)).toList = ([1] : List UInt8) then (if bt235.2 = 0 then (if bt239.2 = 1 then ((stripe_Right.f 2 1 5 4).bind fun t245 => (if t245 = true then ((stripe_Long.f 2 1 5 4).bind fun t246 => (if t246 = 13 then ((stripe_Blocks.f 2 1 5 4).bind fun t247 => (if t247 = 4 then ((stripe_Blocks.f 0 0 0 0).bind fun t248 => (some (t248 == 0))) else (none))) else (none))) else (none))) else (none)) else (none)) else (none)) else (none)) else (none)) else (none)) else (none)) else (none)) else (none)) else (none))))))
theorem footlockerlaw23_alive.mono : ∀ k, LeO (footlockerlaw23_alive.f k ) (footlockerlaw23_alive.f (k + 1) ) := by
 intro  k
 unfold footlockerlaw23_alive.f
 repeat' first
  | (with_reducible exact stripe_Column.mono _ _ _)
  | (with_reducible exact stripe_Parity.mono _ _ _)
  | (with_reducible exact stripe_Volume.mono _ _)
  | (with_reducible exact LeO.refl _)
  | (with_reducible exact LeO.none _)
  | (with_reducible refine LeO.ite ?_ ?_)
  | (with_reducible refine LeO.bind ?_ (fun _ => ?_))
  | exact stripe_Column.mono _ _ _
  | exact stripe_Parity.mono _ _ _
  | exact stripe_Volume.mono _ _
  | exact LeO.none _
  | refine LeO.ite ?_ ?_
  | refine LeO.bind ?_ (fun _ => ?_)
set_option maxHeartbeats 8000000 in
set_option maxRecDepth 100000 in
theorem footlockerlaw23_alive.calls (k : Nat)  (r : Bool) (w : World) (h : footlockerlaw23_alive.f k  = some r) :
 Calls Try.prog 7 #[] w fun e w' => e = .returned (.bool r) ∧ Below w.heap.size w w' := by
 have hu24 := Try.underlying24
 have HB := Aside0.mk (Below.refl w.heap.size w)
 have H : ((stripe_Column.f k (([97, 98] : List Int)) 5).bind fun bt211 => ((stripe_Volume.f k bt211.1).bind fun bt215 => ((stripe_Volume.f k (([9, 0, 0, 0, 0, 0, 0, 0] : List Int))).bind fun bt222 => ((stripe_Parity.f k (([(([5] : List Int)), (([7] : List Int))] : List (List Int))) 1).bind fun bt235 => ((stripe_Parity.f k ([] : List (List Int)) 1).bind fun bt239 => (if (bt235.1.length : Int) = 1 then (if (strOfNums bt211.1).toList = ([2, 0, 0, 0, 0, 0, 0, 0, 97, 98, 0, 0, 0] : List UInt8) then (if bt211.2 = 0 then (if (strOfNums bt215.1).toList = ([97, 98] : List UInt8) then (if bt215.2 = 0 then (if bt222.2 = 23 then (if 0 < (bt235.1.length : Int) then (if (strOfNums (rd_L1 bt235.1 0)).toList = ([1] : List UInt8) then (if bt235.2 = 0 then (if bt239.2 = 1 then ((stripe_Right.f 2 1 5 4).bind fun t245 => (if t245 = true then ((stripe_Long.f 2 1 5 4).bind fun t246 => (if t246 = 13 then ((stripe_Blocks.f 2 1 5 4).bind fun t247 => (if t247 = 4 then ((stripe_Blocks.f 0 0 0 0).bind fun t248 => (some (t248 == 0))) else (none))) else (none))) else (none))) else (none)) else (none)) else (none)) else (none)) else (none)) else (none)) else (none)) else (none)) else (none)) else (none))))))) = some r := h
 clear h
 obtain ⟨y208, hy208⟩ : ∃ y_ : List Int, y_ = (([97, 98] : List Int)) := ⟨_, rfl⟩
 replace H : ((stripe_Column.f k y208 5).bind fun bt211 => ((stripe_Volume.f k bt211.1).bind fun bt215 => ((stripe_Volume.f k (([9, 0, 0, 0, 0, 0, 0, 0] : List Int))).bind fun bt222 => ((stripe_Parity.f k (([(([5] : List Int)), (([7] : List Int))] : List (List Int))) 1).bind fun bt235 => ((stripe_Parity.f k ([] : List (List Int)) 1).bind fun bt239 => (if (bt235.1.length : Int) = 1 then (if (strOfNums bt211.1).toList = ([2, 0, 0, 0, 0, 0, 0, 0, 97, 98, 0, 0, 0] : List UInt8) then (if bt211.2 = 0 then (if (strOfNums bt215.1).toList = ([97, 98] : List UInt8) then (if bt215.2 = 0 then (if bt222.2 = 23 then (if 0 < (bt235.1.length : Int) then (if (strOfNums (rd_L1 bt235.1 0)).toList = ([1] : List UInt8) then (if bt235.2 = 0 then (if bt239.2 = 1 then ((stripe_Right.f 2 1 5 4).bind fun t245 => (if t245 = true then ((stripe_Long.f 2 1 5 4).bind fun t246 => (if t246 = 13 then ((stripe_Blocks.f 2 1 5 4).bind fun t247 => (if t247 = 4 then ((stripe_Blocks.f 0 0 0 0).bind fun t248 => (some (t248 == 0))) else (none))) else (none))) else (none))) else (none)) else (none)) else (none)) else (none)) else (none)) else (none)) else (none)) else (none)) else (none)) else (none))))))) = some r := by first | (rw [hy208]; with_reducible exact H) | (have H2_ := (Option.bind_some _ _).symm.trans H; rw [hy208]; with_reducible exact H2_) | (have H2_ := (Option.bind_some _ _).symm.trans H; with_reducible exact H2_) | with_reducible exact H | (rw [hy208]; exact H) | exact H
 have Ny208 := Aside0.mk hy208
 clear hy208
 replace H := Option.bind_eq_some_iff.mp H
 obtain ⟨⟨t211, t214⟩, A10, H⟩ := H
 replace H : ((stripe_Volume.f k t211).bind fun bt215 => ((stripe_Volume.f k (([9, 0, 0, 0, 0, 0, 0, 0] : List Int))).bind fun bt222 => ((stripe_Parity.f k (([(([5] : List Int)), (([7] : List Int))] : List (List Int))) 1).bind fun bt235 => ((stripe_Parity.f k ([] : List (List Int)) 1).bind fun bt239 => (if (bt235.1.length : Int) = 1 then (if (strOfNums t211).toList = ([2, 0, 0, 0, 0, 0, 0, 0, 97, 98, 0, 0, 0] : List UInt8) then (if t214 = 0 then (if (strOfNums bt215.1).toList = ([97, 98] : List UInt8) then (if bt215.2 = 0 then (if bt222.2 = 23 then (if 0 < (bt235.1.length : Int) then (if (strOfNums (rd_L1 bt235.1 0)).toList = ([1] : List UInt8) then (if bt235.2 = 0 then (if bt239.2 = 1 then ((stripe_Right.f 2 1 5 4).bind fun t245 => (if t245 = true then ((stripe_Long.f 2 1 5 4).bind fun t246 => (if t246 = 13 then ((stripe_Blocks.f 2 1 5 4).bind fun t247 => (if t247 = 4 then ((stripe_Blocks.f 0 0 0 0).bind fun t248 => (some (t248 == 0))) else (none))) else (none))) else (none))) else (none)) else (none)) else (none)) else (none)) else (none)) else (none)) else (none)) else (none)) else (none)) else (none)))))) = some r := H
 have A1 := Aside0.mk A10
 clear A10
 replace H := Option.bind_eq_some_iff.mp H
 obtain ⟨⟨t215, t216⟩, A20, H⟩ := H
 replace H : ((stripe_Volume.f k (([9, 0, 0, 0, 0, 0, 0, 0] : List Int))).bind fun bt222 => ((stripe_Parity.f k (([(([5] : List Int)), (([7] : List Int))] : List (List Int))) 1).bind fun bt235 => ((stripe_Parity.f k ([] : List (List Int)) 1).bind fun bt239 => (if (bt235.1.length : Int) = 1 then (if (strOfNums t211).toList = ([2, 0, 0, 0, 0, 0, 0, 0, 97, 98, 0, 0, 0] : List UInt8) then (if t214 = 0 then (if (strOfNums t215).toList = ([97, 98] : List UInt8) then (if t216 = 0 then (if bt222.2 = 23 then (if 0 < (bt235.1.length : Int) then (if (strOfNums (rd_L1 bt235.1 0)).toList = ([1] : List UInt8) then (if bt235.2 = 0 then (if bt239.2 = 1 then ((stripe_Right.f 2 1 5 4).bind fun t245 => (if t245 = true then ((stripe_Long.f 2 1 5 4).bind fun t246 => (if t246 = 13 then ((stripe_Blocks.f 2 1 5 4).bind fun t247 => (if t247 = 4 then ((stripe_Blocks.f 0 0 0 0).bind fun t248 => (some (t248 == 0))) else (none))) else (none))) else (none))) else (none)) else (none)) else (none)) else (none)) else (none)) else (none)) else (none)) else (none)) else (none)) else (none))))) = some r := H
 have A2 := Aside0.mk A20
 clear A20
 obtain ⟨y219, hy219⟩ : ∃ y_ : List Int, y_ = (([9, 0, 0, 0, 0, 0, 0, 0] : List Int)) := ⟨_, rfl⟩
 replace H : ((stripe_Volume.f k y219).bind fun bt222 => ((stripe_Parity.f k (([(([5] : List Int)), (([7] : List Int))] : List (List Int))) 1).bind fun bt235 => ((stripe_Parity.f k ([] : List (List Int)) 1).bind fun bt239 => (if (bt235.1.length : Int) = 1 then (if (strOfNums t211).toList = ([2, 0, 0, 0, 0, 0, 0, 0, 97, 98, 0, 0, 0] : List UInt8) then (if t214 = 0 then (if (strOfNums t215).toList = ([97, 98] : List UInt8) then (if t216 = 0 then (if bt222.2 = 23 then (if 0 < (bt235.1.length : Int) then (if (strOfNums (rd_L1 bt235.1 0)).toList = ([1] : List UInt8) then (if bt235.2 = 0 then (if bt239.2 = 1 then ((stripe_Right.f 2 1 5 4).bind fun t245 => (if t245 = true then ((stripe_Long.f 2 1 5 4).bind fun t246 => (if t246 = 13 then ((stripe_Blocks.f 2 1 5 4).bind fun t247 => (if t247 = 4 then ((stripe_Blocks.f 0 0 0 0).bind fun t248 => (some (t248 == 0))) else (none))) else (none))) else (none))) else (none)) else (none)) else (none)) else (none)) else (none)) else (none)) else (none)) else (none)) else (none)) else (none))))) = some r := by first | (rw [hy219]; with_reducible exact H) | (have H2_ := (Option.bind_some _ _).symm.trans H; rw [hy219]; with_reducible exact H2_) | (have H2_ := (Option.bind_some _ _).symm.trans H; with_reducible exact H2_) | with_reducible exact H | (rw [hy219]; exact H) | exact H
 have Ny219 := Aside0.mk hy219
 clear hy219
 replace H := Option.bind_eq_some_iff.mp H
 obtain ⟨⟨t222, t223⟩, A30, H⟩ := H
 replace H : ((stripe_Parity.f k (([(([5] : List Int)), (([7] : List Int))] : List (List Int))) 1).bind fun bt235 => ((stripe_Parity.f k ([] : List (List Int)) 1).bind fun bt239 => (if (bt235.1.length : Int) = 1 then (if (strOfNums t211).toList = ([2, 0, 0, 0, 0, 0, 0, 0, 97, 98, 0, 0, 0] : List UInt8) then (if t214 = 0 then (if (strOfNums t215).toList = ([97, 98] : List UInt8) then (if t216 = 0 then (if t223 = 23 then (if 0 < (bt235.1.length : Int) then (if (strOfNums (rd_L1 bt235.1 0)).toList = ([1] : List UInt8) then (if bt235.2 = 0 then (if bt239.2 = 1 then ((stripe_Right.f 2 1 5 4).bind fun t245 => (if t245 = true then ((stripe_Long.f 2 1 5 4).bind fun t246 => (if t246 = 13 then ((stripe_Blocks.f 2 1 5 4).bind fun t247 => (if t247 = 4 then ((stripe_Blocks.f 0 0 0 0).bind fun t248 => (some (t248 == 0))) else (none))) else (none))) else (none))) else (none)) else (none)) else (none)) else (none)) else (none)) else (none)) else (none)) else (none)) else (none)) else (none)))) = some r := H
 have A3 := Aside0.mk A30
 clear A30
 obtain ⟨y226, hy226⟩ : ∃ y_ : List Int, y_ = (([5] : List Int)) := ⟨_, rfl⟩
 replace H : ((stripe_Parity.f k (([y226, (([7] : List Int))] : List (List Int))) 1).bind fun bt235 => ((stripe_Parity.f k ([] : List (List Int)) 1).bind fun bt239 => (if (bt235.1.length : Int) = 1 then (if (strOfNums t211).toList = ([2, 0, 0, 0, 0, 0, 0, 0, 97, 98, 0, 0, 0] : List UInt8) then (if t214 = 0 then (if (strOfNums t215).toList = ([97, 98] : List UInt8) then (if t216 = 0 then (if t223 = 23 then (if 0 < (bt235.1.length : Int) then (if (strOfNums (rd_L1 bt235.1 0)).toList = ([1] : List UInt8) then (if bt235.2 = 0 then (if bt239.2 = 1 then ((stripe_Right.f 2 1 5 4).bind fun t245 => (if t245 = true then ((stripe_Long.f 2 1 5 4).bind fun t246 => (if t246 = 13 then ((stripe_Blocks.f 2 1 5 4).bind fun t247 => (if t247 = 4 then ((stripe_Blocks.f 0 0 0 0).bind fun t248 => (some (t248 == 0))) else (none))) else (none))) else (none))) else (none)) else (none)) else (none)) else (none)) else (none)) else (none)) else (none)) else (none)) else (none)) else (none)))) = some r := by first | (rw [hy226]; with_reducible exact H) | (have H2_ := (Option.bind_some _ _).symm.trans H; rw [hy226]; with_reducible exact H2_) | (have H2_ := (Option.bind_some _ _).symm.trans H; with_reducible exact H2_) | with_reducible exact H | (rw [hy226]; exact H) | exact H
 have Ny226 := Aside0.mk hy226
 clear hy226
 obtain ⟨y229, hy229⟩ : ∃ y_ : List Int, y_ = (([7] : List Int)) := ⟨_, rfl⟩
 replace H : ((stripe_Parity.f k (([y226, y229] : List (List Int))) 1).bind fun bt235 => ((stripe_Parity.f k ([] : List (List Int)) 1).bind fun bt239 => (if (bt235.1.length : Int) = 1 then (if (strOfNums t211).toList = ([2, 0, 0, 0, 0, 0, 0, 0, 97, 98, 0, 0, 0] : List UInt8) then (if t214 = 0 then (if (strOfNums t215).toList = ([97, 98] : List UInt8) then (if t216 = 0 then (if t223 = 23 then (if 0 < (bt235.1.length : Int) then (if (strOfNums (rd_L1 bt235.1 0)).toList = ([1] : List UInt8) then (if bt235.2 = 0 then (if bt239.2 = 1 then ((stripe_Right.f 2 1 5 4).bind fun t245 => (if t245 = true then ((stripe_Long.f 2 1 5 4).bind fun t246 => (if t246 = 13 then ((stripe_Blocks.f 2 1 5 4).bind fun t247 => (if t247 = 4 then ((stripe_Blocks.f 0 0 0 0).bind fun t248 => (some (t248 == 0))) else (none))) else (none))) else (none))) else (none)) else (none)) else (none)) else (none)) else (none)) else (none)) else (none)) else (none)) else (none)) else (none)))) = some r := by first | (rw [hy229]; with_reducible exact H) | (have H2_ := (Option.bind_some _ _).symm.trans H; rw [hy229]; with_reducible exact H2_) | (have H2_ := (Option.bind_some _ _).symm.trans H; with_reducible exact H2_) | with_reducible exact H | (rw [hy229]; exact H) | exact H
 have Ny229 := Aside0.mk hy229
 clear hy229
 obtain ⟨y232, hy232⟩ : ∃ y_ : List (List Int), y_ = (([y226, y229] : List (List Int))) := ⟨_, rfl⟩
 replace H : ((stripe_Parity.f k y232 1).bind fun bt235 => ((stripe_Parity.f k ([] : List (List Int)) 1).bind fun bt239 => (if (bt235.1.length : Int) = 1 then (if (strOfNums t211).toList = ([2, 0, 0, 0, 0, 0, 0, 0, 97, 98, 0, 0, 0] : List UInt8) then (if t214 = 0 then (if (strOfNums t215).toList = ([97, 98] : List UInt8) then (if t216 = 0 then (if t223 = 23 then (if 0 < (bt235.1.length : Int) then (if (strOfNums (rd_L1 bt235.1 0)).toList = ([1] : List UInt8) then (if bt235.2 = 0 then (if bt239.2 = 1 then ((stripe_Right.f 2 1 5 4).bind fun t245 => (if t245 = true then ((stripe_Long.f 2 1 5 4).bind fun t246 => (if t246 = 13 then ((stripe_Blocks.f 2 1 5 4).bind fun t247 => (if t247 = 4 then ((stripe_Blocks.f 0 0 0 0).bind fun t248 => (some (t248 == 0))) else (none))) else (none))) else (none))) else (none)) else (none)) else (none)) else (none)) else (none)) else (none)) else (none)) else (none)) else (none)) else (none)))) = some r := by first | (rw [hy232]; with_reducible exact H) | (have H2_ := (Option.bind_some _ _).symm.trans H; rw [hy232]; with_reducible exact H2_) | (have H2_ := (Option.bind_some _ _).symm.trans H; with_reducible exact H2_) | with_reducible exact H | (rw [hy232]; exact H) | exact H
 have Ny232 := Aside0.mk hy232
 clear hy232
 replace H := Option.bind_eq_some_iff.mp H
 obtain ⟨⟨t235, t236⟩, A40, H⟩ := H
 replace H : ((stripe_Parity.f k ([] : List (List Int)) 1).bind fun bt239 => (if (t235.length : Int) = 1 then (if (strOfNums t211).toList = ([2, 0, 0, 0, 0, 0, 0, 0, 97, 98, 0, 0, 0] : List UInt8) then (if t214 = 0 then (if (strOfNums t215).toList = ([97, 98] : List UInt8) then (if t216 = 0 then (if t223 = 23 then (if 0 < (t235.length : Int) then (if (strOfNums (rd_L1 t235 0)).toList = ([1] : List UInt8) then (if t236 = 0 then (if bt239.2 = 1 then ((stripe_Right.f 2 1 5 4).bind fun t245 => (if t245 = true then ((stripe_Long.f 2 1 5 4).bind fun t246 => (if t246 = 13 then ((stripe_Blocks.f 2 1 5 4).bind fun t247 => (if t247 = 4 then ((stripe_Blocks.f 0 0 0 0).bind fun t248 => (some (t248 == 0))) else (none))) else (none))) else (none))) else (none)) else (none)) else (none)) else (none)) else (none)) else (none)) else (none)) else (none)) else (none)) else (none))) = some r := H
 have A4 := Aside0.mk A40
 clear A40
 replace H := Option.bind_eq_some_iff.mp H
 obtain ⟨⟨t239, t240⟩, A50, H⟩ := H
 replace H : (if (t235.length : Int) = 1 then (if (strOfNums t211).toList = ([2, 0, 0, 0, 0, 0, 0, 0, 97, 98, 0, 0, 0] : List UInt8) then (if t214 = 0 then (if (strOfNums t215).toList = ([97, 98] : List UInt8) then (if t216 = 0 then (if t223 = 23 then (if 0 < (t235.length : Int) then (if (strOfNums (rd_L1 t235 0)).toList = ([1] : List UInt8) then (if t236 = 0 then (if t240 = 1 then ((stripe_Right.f 2 1 5 4).bind fun t245 => (if t245 = true then ((stripe_Long.f 2 1 5 4).bind fun t246 => (if t246 = 13 then ((stripe_Blocks.f 2 1 5 4).bind fun t247 => (if t247 = 4 then ((stripe_Blocks.f 0 0 0 0).bind fun t248 => (some (t248 == 0))) else (none))) else (none))) else (none))) else (none)) else (none)) else (none)) else (none)) else (none)) else (none)) else (none)) else (none)) else (none)) else (none)) = some r := H
 have A5 := Aside0.mk A50
 clear A50
 by_cases c6 : (t235.length : Int) = 1
 ·rw [if_pos c6] at H
  have c6b0 : ((t235.length : Int) == 1) = true := beq_iff_eq.mpr c6
  have c6b1 : ((t235.length : Int) != 1) = false := bne_eq_false_iff_eq.mpr c6
  clear c6
  by_cases c7 : (strOfNums t211).toList = ([2, 0, 0, 0, 0, 0, 0, 0, 97, 98, 0, 0, 0] : List UInt8)
  ·rw [if_pos c7] at H
   have c7b0 : ((strOfNums t211).toList == ([2, 0, 0, 0, 0, 0, 0, 0, 97, 98, 0, 0, 0] : List UInt8)) = true := beq_iff_eq.mpr c7
   have c7b1 : ((strOfNums t211).toList != ([2, 0, 0, 0, 0, 0, 0, 0, 97, 98, 0, 0, 0] : List UInt8)) = false := bne_eq_false_iff_eq.mpr c7
   clear c7
   by_cases c8 : t214 = 0
   ·rw [if_pos c8] at H
    have c8b0 : (t214 == 0) = true := beq_iff_eq.mpr c8
    have c8b1 : (t214 != 0) = false := bne_eq_false_iff_eq.mpr c8
    clear c8
    by_cases c9 : (strOfNums t215).toList = ([97, 98] : List UInt8)
    ·rw [if_pos c9] at H
     have c9b0 : ((strOfNums t215).toList == ([97, 98] : List UInt8)) = true := beq_iff_eq.mpr c9
     have c9b1 : ((strOfNums t215).toList != ([97, 98] : List UInt8)) = false := bne_eq_false_iff_eq.mpr c9
     clear c9
     by_cases c10 : t216 = 0
     ·rw [if_pos c10] at H
      have c10b0 : (t216 == 0) = true := beq_iff_eq.mpr c10
      have c10b1 : (t216 != 0) = false := bne_eq_false_iff_eq.mpr c10
      clear c10
      by_cases c11 : t223 = 23
      ·rw [if_pos c11] at H
       have c11b0 : (t223 == 23) = true := beq_iff_eq.mpr c11
       have c11b1 : (t223 != 23) = false := bne_eq_false_iff_eq.mpr c11
       clear c11
       by_cases c12 : 0 < (t235.length : Int)
       ·rw [if_pos c12] at H
        have c12b0 : decide (0 < (t235.length : Int)) = true := decide_eq_true c12
        have c12b1 : decide (0 < t235.length) = true := decide_eq_true (by omega)
        clear c12
        by_cases c13 : (strOfNums (rd_L1 t235 0)).toList = ([1] : List UInt8)
        ·rw [if_pos c13] at H
         have c13b0 : ((strOfNums (rd_L1 t235 0)).toList == ([1] : List UInt8)) = true := beq_iff_eq.mpr c13
         have c13b1 : ((strOfNums (rd_L1 t235 0)).toList != ([1] : List UInt8)) = false := bne_eq_false_iff_eq.mpr c13
         clear c13
         by_cases c14 : t236 = 0
         ·rw [if_pos c14] at H
          have c14b0 : (t236 == 0) = true := beq_iff_eq.mpr c14
          have c14b1 : (t236 != 0) = false := bne_eq_false_iff_eq.mpr c14
          clear c14
          by_cases c15 : t240 = 1
          ·rw [if_pos c15] at H
           have c15b0 : (t240 == 1) = true := beq_iff_eq.mpr c15
           have c15b1 : (t240 != 1) = false := bne_eq_false_iff_eq.mpr c15
           clear c15
           replace H := Option.bind_eq_some_iff.mp H
           obtain ⟨t245, A160, H⟩ := H
           replace H : (if t245 = true then ((stripe_Long.f 2 1 5 4).bind fun t246 => (if t246 = 13 then ((stripe_Blocks.f 2 1 5 4).bind fun t247 => (if t247 = 4 then ((stripe_Blocks.f 0 0 0 0).bind fun t248 => (some (t248 == 0))) else (none))) else (none))) else (none)) = some r := H
           have A16 := Aside0.mk A160
           clear A160
           by_cases c17 : t245 = true
           ·subst c17
            have H1 : ((stripe_Long.f 2 1 5 4).bind fun t246 => (if t246 = 13 then ((stripe_Blocks.f 2 1 5 4).bind fun t247 => (if t247 = 4 then ((stripe_Blocks.f 0 0 0 0).bind fun t248 => (some (t248 == 0))) else (none))) else (none))) = some r := by rw [if_pos rfl] at H; exact H
            clear H
            have H := H1
            clear H1
            replace H := Option.bind_eq_some_iff.mp H
            obtain ⟨t246, A180, H⟩ := H
            replace H : (if t246 = 13 then ((stripe_Blocks.f 2 1 5 4).bind fun t247 => (if t247 = 4 then ((stripe_Blocks.f 0 0 0 0).bind fun t248 => (some (t248 == 0))) else (none))) else (none)) = some r := H
            have A18 := Aside0.mk A180
            clear A180
            by_cases c19 : t246 = 13
            ·rw [if_pos c19] at H
             have c19b0 : (t246 == 13) = true := beq_iff_eq.mpr c19
             have c19b1 : (t246 != 13) = false := bne_eq_false_iff_eq.mpr c19
             clear c19
             replace H := Option.bind_eq_some_iff.mp H
             obtain ⟨t247, A200, H⟩ := H
             replace H : (if t247 = 4 then ((stripe_Blocks.f 0 0 0 0).bind fun t248 => (some (t248 == 0))) else (none)) = some r := H
             have A20 := Aside0.mk A200
             clear A200
             by_cases c21 : t247 = 4
             ·rw [if_pos c21] at H
              have c21b0 : (t247 == 4) = true := beq_iff_eq.mpr c21
              have c21b1 : (t247 != 4) = false := bne_eq_false_iff_eq.mpr c21
              clear c21
              replace H := Option.bind_eq_some_iff.mp H
              obtain ⟨t248, A220, H⟩ := H
              replace H : (some (t248 == 0)) = some r := H
              have A22 := Aside0.mk A220
              clear A220
              obtain rfl := Option.some.inj H
              go_enter Try.func7, Try.ntmps7
              go_wp2_with (first | ((with_reducible refine gate_dst (N := 13) rfl ?_); refine Kd.R_lit (Kd.int .u8) _ 5 ?hg (N := 13) ?hd (xs := ([97, 98] : List Int)) (inner := [.int .u8 97, .int .u8 98]) (ok := fun _ => True) (okp := fun _ => True) ?hr ?hp (fun _ hk => hk) trivial (Below.refl _ _) (Nat.le_refl _) (by simp) ?_; (case hd => rfl); (case hg => rfl); (case hr => first | (go_simp; done) | (go_simp; rfl)); (case hp => exact (Reps.one (show Kd.M (Kd.int .u8) _ _ _ 97 [.int .u8 97] from rfl) (Reps.one (show Kd.M (Kd.int .u8) _ _ _ 98 [.int .u8 98] from rfl) (Reps.none _ _)))); intro v209 w23 ho24 hb hg_ hnew_; clear hg_ hnew_; (first | rw [← Ny208.out] at ho24 | (simp only [Int.reduceToNat] at ho24; rw [← Ny208.out] at ho24)); obtain ⟨w25, hcv_, ho26, hvb_, hb2_⟩ := Mm.R_frz Try.underlying22 Try.underlying5 ho24 (by rw [Ny208.out]; decide) hb; clear ho24 hb; have hb := hb2_; clear hb2_; have n0_ := Aside0.mk (Kd.V_lower (Kd.V_mono (ok' := fun k_ => True) ho26 (fun k_ hk_ => trivial)) (below_size (by repeat (first | (with_reducible first | exact HB.out | apply below_alloc | apply pw_below_drewN | apply below_drew1) | exact HB.out)))); have n1_ := Aside0.mk (below_step (by repeat (first | (with_reducible first | exact HB.out | apply below_alloc | apply pw_below_drewN | apply below_drew1) | exact HB.out)) hb); clear HB; have HO210 := n0_; have HB := n1_; clear n0_ n1_; clear hb ho26 hvb_; obtain ⟨Ao27, co27, eo27⟩ := Kd.V_slice HO210.out; subst eo27) | ((with_reducible refine gate_callee (f := 8) rfl ?_); refine goesL_ (some 15) rfl rfl Try.func8 (by kernel_rfl) rfl #[.slice Ao27 y208.length co27, .int .i64 5] rfl (by (try simp only [List.map_toArray, List.map_cons, List.map_nil]); first | done | rfl | (simp only [List.length_drop, List.length_take]; rfl)) ?_; (with_reducible refine (stripe_Column.calls k (fun k_ => True) _ _ y208 5 t211 t214 _ ?side1 A1.out).mono ?_); (case side1 => exact HO210.out); rintro e w28 ⟨v212, rfl, ho0, hb⟩; refine ⟨_, rfl, ?_⟩; have n0_ := Aside0.mk (Kd.V_elder' (by (with_reducible repeat (first | apply Kd.V_alloc | apply Kd.V_drewN | apply Kd.V_drew)); exact HO210.out) (Kd.R_base ho0) hb); have n1_ := Aside0.mk (Kd.R_lower (Kd.R_mono (ok' := fun k_ => True) ho0 (fun _ hk_ => trivial)) (below_size (by repeat (first | (with_reducible first | exact HB.out | apply below_alloc | apply pw_below_drewN | apply below_drew1) | exact HB.out)))); have n2_ := Aside0.mk (below_step (by repeat (first | (with_reducible first | exact HB.out | apply below_alloc | apply pw_below_drewN | apply below_drew1) | exact HB.out)) hb); clear HO210; clear HB; have HO210 := n0_; have HO213 := n1_; have HB := n2_; clear n0_ n1_ n2_; (try clear hb); (try clear hb2); (try clear hk); (try clear hi); (try clear ho0); obtain ⟨Ao29, co29, eo29⟩ := Kd.R_slice HO213.out; subst eo29) | ((with_reducible refine gate_callee (f := 10) rfl ?_); refine goesL_ (some 20) rfl rfl Try.func10 (by kernel_rfl) rfl #[.slice Ao29 t211.length co29] rfl (by (try simp only [List.map_toArray, List.map_cons, List.map_nil]); first | done | rfl | (simp only [List.length_drop, List.length_take]; rfl)) ?_; (with_reducible refine (stripe_Volume.calls k _ _ t211 t215 t216 _ ?side1 ?side2 A2.out).mono ?_); (case side1 => repeat (first | exact (Kd.R_reads' HO213.out).2.2 | (with_reducible refine Kd.C_alloc ?_ _) | (with_reducible refine Kd.C_drewN ?_ _) | (with_reducible refine Kd.C_drew ?_))); (case side2 => exact (Kd.R_reads' HO213.out).2.1); rintro e w30 ⟨v217, rfl, ho0, hb⟩; refine ⟨_, rfl, ?_⟩; have n0_ := Aside0.mk (Kd.V_elder' (by (with_reducible repeat (first | apply Kd.V_alloc | apply Kd.V_drewN | apply Kd.V_drew)); exact HO210.out) (Kd.R_base ho0) hb); have n1_ := Aside0.mk (Kd.R_elder' (by (with_reducible repeat (first | apply Kd.R_alloc | apply Kd.R_drewN | apply Kd.R_drew)); exact HO213.out) (Kd.R_base ho0) hb); have n2_ := Aside0.mk (Kd.R_lower (Kd.R_new' ho0 (Kd.R_lt (by (with_reducible repeat (first | apply Kd.R_alloc | apply Kd.R_drewN | apply Kd.R_drew)); exact HO213.out))) (below_size (by repeat (first | (with_reducible first | exact HB.out | apply below_alloc | apply pw_below_drewN | apply below_drew1) | exact HB.out)))); have n3_ := Aside0.mk (below_step (by repeat (first | (with_reducible first | exact HB.out | apply below_alloc | apply pw_below_drewN | apply below_drew1) | exact HB.out)) hb); clear HO210; clear HO213; clear HB; have HO210 := n0_; have HO213 := n1_; have HO218 := n2_; have HB := n3_; clear n0_ n1_ n2_ n3_; (try clear hb); (try clear hb2); (try clear hk); (try clear hi); (try clear ho0)) | ((with_reducible refine gate_dst (N := 24) rfl ?_); refine Kd.R_lit (Kd.int .u8) _ 5 ?hg (N := 24) ?hd (xs := ([9, 0, 0, 0, 0, 0, 0, 0] : List Int)) (inner := [.int .u8 9, .int .u8 0, .int .u8 0, .int .u8 0, .int .u8 0, .int .u8 0, .int .u8 0, .int .u8 0]) (ok := fun _ => True) (okp := fun _ => True) ?hr ?hp (fun _ hk => hk) trivial (Below.refl _ _) (Nat.le_refl _) (by simp) ?_; (case hd => rfl); (case hg => rfl); (case hr => first | (go_simp; done) | (go_simp; rfl)); (case hp => exact (Reps.one (show Kd.M (Kd.int .u8) _ _ _ 9 [.int .u8 9] from rfl) (Reps.one (show Kd.M (Kd.int .u8) _ _ _ 0 [.int .u8 0] from rfl) (Reps.one (show Kd.M (Kd.int .u8) _ _ _ 0 [.int .u8 0] from rfl) (Reps.one (show Kd.M (Kd.int .u8) _ _ _ 0 [.int .u8 0] from rfl) (Reps.one (show Kd.M (Kd.int .u8) _ _ _ 0 [.int .u8 0] from rfl) (Reps.one (show Kd.M (Kd.int .u8) _ _ _ 0 [.int .u8 0] from rfl) (Reps.one (show Kd.M (Kd.int .u8) _ _ _ 0 [.int .u8 0] from rfl) (Reps.one (show Kd.M (Kd.int .u8) _ _ _ 0 [.int .u8 0] from rfl) (Reps.none _ _)))))))))); intro v220 w31 ho32 hb hg_ hnew_; clear hg_ hnew_; (first | rw [← Ny219.out] at ho32 | (simp only [Int.reduceToNat] at ho32; rw [← Ny219.out] at ho32)); have n0_ := Aside0.mk (Kd.V_elder' (by (with_reducible repeat (first | apply Kd.V_alloc | apply Kd.V_drewN | apply Kd.V_drew)); exact HO210.out) (Kd.R_base ho32) hb); have n1_ := Aside0.mk (Kd.R_elder' (by (with_reducible repeat (first | apply Kd.R_alloc | apply Kd.R_drewN | apply Kd.R_drew)); exact HO213.out) (Kd.R_base ho32) hb); have n2_ := Aside0.mk (Kd.R_elder' (by (with_reducible repeat (first | apply Kd.R_alloc | apply Kd.R_drewN | apply Kd.R_drew)); exact HO218.out) (Kd.R_base ho32) hb); have n3_ := Aside0.mk (Kd.R_lower (Kd.R_new' (Kd.R_new' ho32 (Kd.R_lt (by (with_reducible repeat (first | apply Kd.R_alloc | apply Kd.R_drewN | apply Kd.R_drew)); exact HO213.out))) (Kd.R_lt (by (with_reducible repeat (first | apply Kd.R_alloc | apply Kd.R_drewN | apply Kd.R_drew)); exact HO218.out))) (below_size (by repeat (first | (with_reducible first | exact HB.out | apply below_alloc | apply pw_below_drewN | apply below_drew1) | exact HB.out)))); have n4_ := Aside0.mk (below_step (by repeat (first | (with_reducible first | exact HB.out | apply below_alloc | apply pw_below_drewN | apply below_drew1) | exact HB.out)) hb); clear HO210; clear HO213; clear HO218; clear HB; have HO210 := n0_; have HO213 := n1_; have HO218 := n2_; have HO221 := n3_; have HB := n4_; clear n0_ n1_ n2_ n3_ n4_; clear hb ho32; obtain ⟨Ao33, co33, eo33⟩ := Kd.R_slice HO221.out; subst eo33) | ((with_reducible refine gate_callee (f := 10) rfl ?_); refine goesL_ (some 25) rfl rfl Try.func10 (by kernel_rfl) rfl #[.slice Ao33 y219.length co33] rfl (by (try simp only [List.map_toArray, List.map_cons, List.map_nil]); first | done | rfl | (simp only [List.length_drop, List.length_take]; rfl)) ?_; (with_reducible refine (stripe_Volume.calls k _ _ y219 t222 t223 _ ?side1 ?side2 A3.out).mono ?_); (case side1 => repeat (first | exact (Kd.R_reads' HO221.out).2.2 | (with_reducible refine Kd.C_alloc ?_ _) | (with_reducible refine Kd.C_drewN ?_ _) | (with_reducible refine Kd.C_drew ?_))); (case side2 => exact (Kd.R_reads' HO221.out).2.1); rintro e w34 ⟨v224, rfl, ho0, hb⟩; refine ⟨_, rfl, ?_⟩; have n0_ := Aside0.mk (Kd.V_elder' (by (with_reducible repeat (first | apply Kd.V_alloc | apply Kd.V_drewN | apply Kd.V_drew)); exact HO210.out) (Kd.R_base ho0) hb); have n1_ := Aside0.mk (Kd.R_elder' (by (with_reducible repeat (first | apply Kd.R_alloc | apply Kd.R_drewN | apply Kd.R_drew)); exact HO213.out) (Kd.R_base ho0) hb); have n2_ := Aside0.mk (Kd.R_elder' (by (with_reducible repeat (first | apply Kd.R_alloc | apply Kd.R_drewN | apply Kd.R_drew)); exact HO218.out) (Kd.R_base ho0) hb); have n3_ := Aside0.mk (Kd.R_elder' (by (with_reducible repeat (first | apply Kd.R_alloc | apply Kd.R_drewN | apply Kd.R_drew)); exact HO221.out) (Kd.R_base ho0) hb); have n4_ := Aside0.mk (Kd.R_lower (Kd.R_new' (Kd.R_new' (Kd.R_new' ho0 (Kd.R_lt (by (with_reducible repeat (first | apply Kd.R_alloc | apply Kd.R_drewN | apply Kd.R_drew)); exact HO213.out))) (Kd.R_lt (by (with_reducible repeat (first | apply Kd.R_alloc | apply Kd.R_drewN | apply Kd.R_drew)); exact HO218.out))) (Kd.R_lt (by (with_reducible repeat (first | apply Kd.R_alloc | apply Kd.R_drewN | apply Kd.R_drew)); exact HO221.out))) (below_size (by repeat (first | (with_reducible first | exact HB.out | apply below_alloc | apply pw_below_drewN | apply below_drew1) | exact HB.out)))); have n5_ := Aside0.mk (below_step (by repeat (first | (with_reducible first | exact HB.out | apply below_alloc | apply pw_below_drewN | apply below_drew1) | exact HB.out)) hb); clear HO210; clear HO213; clear HO218; clear HO221; clear HB; have HO210 := n0_; have HO213 := n1_; have HO218 := n2_; have HO221 := n3_; have HO225 := n4_; have HB := n5_; clear n0_ n1_ n2_ n3_ n4_ n5_; (try clear hb); (try clear hb2); (try clear hk); (try clear hi); (try clear ho0)) | ((with_reducible refine gate_dst (N := 29) rfl ?_); refine Kd.R_lit (Kd.int .u8) _ 5 ?hg (N := 29) ?hd (xs := ([5] : List Int)) (inner := [.int .u8 5]) (ok := fun _ => True) (okp := fun _ => True) ?hr ?hp (fun _ hk => hk) trivial (Below.refl _ _) (Nat.le_refl _) (by simp) ?_; (case hd => rfl); (case hg => rfl); (case hr => first | (go_simp; done) | (go_simp; rfl)); (case hp => exact (Reps.one (show Kd.M (Kd.int .u8) _ _ _ 5 [.int .u8 5] from rfl) (Reps.none _ _))); intro v227 w35 ho36 hb hg_ hnew_; clear hg_ hnew_; (first | rw [← Ny226.out] at ho36 | (simp only [Int.reduceToNat] at ho36; rw [← Ny226.out] at ho36)); have n0_ := Aside0.mk (Kd.V_elder' (by (with_reducible repeat (first | apply Kd.V_alloc | apply Kd.V_drewN | apply Kd.V_drew)); exact HO210.out) (Kd.R_base ho36) hb); have n1_ := Aside0.mk (Kd.R_elder' (by (with_reducible repeat (first | apply Kd.R_alloc | apply Kd.R_drewN | apply Kd.R_drew)); exact HO213.out) (Kd.R_base ho36) hb); have n2_ := Aside0.mk (Kd.R_elder' (by (with_reducible repeat (first | apply Kd.R_alloc | apply Kd.R_drewN | apply Kd.R_drew)); exact HO218.out) (Kd.R_base ho36) hb); have n3_ := Aside0.mk (Kd.R_elder' (by (with_reducible repeat (first | apply Kd.R_alloc | apply Kd.R_drewN | apply Kd.R_drew)); exact HO221.out) (Kd.R_base ho36) hb); have n4_ := Aside0.mk (Kd.R_elder' (by (with_reducible repeat (first | apply Kd.R_alloc | apply Kd.R_drewN | apply Kd.R_drew)); exact HO225.out) (Kd.R_base ho36) hb); have n5_ := Aside0.mk (Kd.R_lower (Kd.R_new' (Kd.R_new' (Kd.R_new' (Kd.R_new' ho36 (Kd.R_lt (by (with_reducible repeat (first | apply Kd.R_alloc | apply Kd.R_drewN | apply Kd.R_drew)); exact HO213.out))) (Kd.R_lt (by (with_reducible repeat (first | apply Kd.R_alloc | apply Kd.R_drewN | apply Kd.R_drew)); exact HO218.out))) (Kd.R_lt (by (with_reducible repeat (first | apply Kd.R_alloc | apply Kd.R_drewN | apply Kd.R_drew)); exact HO221.out))) (Kd.R_lt (by (with_reducible repeat (first | apply Kd.R_alloc | apply Kd.R_drewN | apply Kd.R_drew)); exact HO225.out))) (below_size (by repeat (first | (with_reducible first | exact HB.out | apply below_alloc | apply pw_below_drewN | apply below_drew1) | exact HB.out)))); have n6_ := Aside0.mk (below_step (by repeat (first | (with_reducible first | exact HB.out | apply below_alloc | apply pw_below_drewN | apply below_drew1) | exact HB.out)) hb); clear HO210; clear HO213; clear HO218; clear HO221; clear HO225; clear HB; have HO210 := n0_; have HO213 := n1_; have HO218 := n2_; have HO221 := n3_; have HO225 := n4_; have HO228 := n5_; have HB := n6_; clear n0_ n1_ n2_ n3_ n4_ n5_ n6_; clear hb ho36) | ((with_reducible refine gate_dst (N := 30) rfl ?_); refine Kd.R_lit (Kd.int .u8) _ 5 ?hg (N := 30) ?hd (xs := ([7] : List Int)) (inner := [.int .u8 7]) (ok := fun _ => True) (okp := fun _ => True) ?hr ?hp (fun _ hk => hk) trivial (Below.refl _ _) (Nat.le_refl _) (by simp) ?_; (case hd => rfl); (case hg => rfl); (case hr => first | (go_simp; done) | (go_simp; rfl)); (case hp => exact (Reps.one (show Kd.M (Kd.int .u8) _ _ _ 7 [.int .u8 7] from rfl) (Reps.none _ _))); intro v230 w37 ho38 hb hg_ hnew_; clear hg_ hnew_; (first | rw [← Ny229.out] at ho38 | (simp only [Int.reduceToNat] at ho38; rw [← Ny229.out] at ho38)); have n0_ := Aside0.mk (Kd.V_elder' (by (with_reducible repeat (first | apply Kd.V_alloc | apply Kd.V_drewN | apply Kd.V_drew)); exact HO210.out) (Kd.R_base ho38) hb); have n1_ := Aside0.mk (Kd.R_elder' (by (with_reducible repeat (first | apply Kd.R_alloc | apply Kd.R_drewN | apply Kd.R_drew)); exact HO213.out) (Kd.R_base ho38) hb); have n2_ := Aside0.mk (Kd.R_elder' (by (with_reducible repeat (first | apply Kd.R_alloc | apply Kd.R_drewN | apply Kd.R_drew)); exact HO218.out) (Kd.R_base ho38) hb); have n3_ := Aside0.mk (Kd.R_elder' (by (with_reducible repeat (first | apply Kd.R_alloc | apply Kd.R_drewN | apply Kd.R_drew)); exact HO221.out) (Kd.R_base ho38) hb); have n4_ := Aside0.mk (Kd.R_elder' (by (with_reducible repeat (first | apply Kd.R_alloc | apply Kd.R_drewN | apply Kd.R_drew)); exact HO225.out) (Kd.R_base ho38) hb); have n5_ := Aside0.mk (Kd.R_elder' (by (with_reducible repeat (first | apply Kd.R_alloc | apply Kd.R_drewN | apply Kd.R_drew)); exact HO228.out) (Kd.R_base ho38) hb); have n6_ := Aside0.mk (Kd.R_lower (Kd.R_new' (Kd.R_new' (Kd.R_new' (Kd.R_new' (Kd.R_new' ho38 (Kd.R_lt (by (with_reducible repeat (first | apply Kd.R_alloc | apply Kd.R_drewN | apply Kd.R_drew)); exact HO213.out))) (Kd.R_lt (by (with_reducible repeat (first | apply Kd.R_alloc | apply Kd.R_drewN | apply Kd.R_drew)); exact HO218.out))) (Kd.R_lt (by (with_reducible repeat (first | apply Kd.R_alloc | apply Kd.R_drewN | apply Kd.R_drew)); exact HO221.out))) (Kd.R_lt (by (with_reducible repeat (first | apply Kd.R_alloc | apply Kd.R_drewN | apply Kd.R_drew)); exact HO225.out))) (Kd.R_lt (by (with_reducible repeat (first | apply Kd.R_alloc | apply Kd.R_drewN | apply Kd.R_drew)); exact HO228.out))) (below_size (by repeat (first | (with_reducible first | exact HB.out | apply below_alloc | apply pw_below_drewN | apply below_drew1) | exact HB.out)))); have n7_ := Aside0.mk (below_step (by repeat (first | (with_reducible first | exact HB.out | apply below_alloc | apply pw_below_drewN | apply below_drew1) | exact HB.out)) hb); clear HO210; clear HO213; clear HO218; clear HO221; clear HO225; clear HO228; clear HB; have HO210 := n0_; have HO213 := n1_; have HO218 := n2_; have HO221 := n3_; have HO225 := n4_; have HO228 := n5_; have HO231 := n6_; have HB := n7_; clear n0_ n1_ n2_ n3_ n4_ n5_ n6_ n7_; clear hb ho38; obtain ⟨Ao39, co39, eo39⟩ := Kd.R_slice HO228.out; subst eo39; obtain ⟨Ao40, co40, eo40⟩ := Kd.R_slice HO231.out; subst eo40) | ((with_reducible refine gate_dst (N := 31) rfl ?_); refine Kd.N_lit (Kd.slice 5 (Kd.int .u8)) _ 22 ?hg (N' := 31) ?hd (xs := ([y226, y229] : List (List Int))) (inner := [.slice Ao39 y226.length co39, .slice Ao40 y229.length co40]) (ok := (fun k_ => some k_ ≠ (.slice Ao29 t211.length co29 : Value).ownBlock ∧ some k_ ≠ (v217 : Value).ownBlock ∧ some k_ ≠ (.slice Ao33 y219.length co33 : Value).ownBlock ∧ some k_ ≠ (v224 : Value).ownBlock)) (okp := (fun k_ => some k_ ≠ (.slice Ao29 t211.length co29 : Value).ownBlock ∧ some k_ ≠ (v217 : Value).ownBlock ∧ some k_ ≠ (.slice Ao33 y219.length co33 : Value).ownBlock ∧ some k_ ≠ (v224 : Value).ownBlock)) ?hr ?hp (fun _ hk => hk) ((show ∀ k_, w37.heap.size ≤ k_ → (fun k_ => some k_ ≠ (.slice Ao29 t211.length co29 : Value).ownBlock ∧ some k_ ≠ (v217 : Value).ownBlock ∧ some k_ ≠ (.slice Ao33 y219.length co33 : Value).ownBlock ∧ some k_ ≠ (v224 : Value).ownBlock) k_ from fun k_ hk => ⟨Kd.fresh' (Kd.R_lt (by (with_reducible repeat (first | apply Kd.R_alloc | apply Kd.R_drewN | apply Kd.R_drew)); exact HO213.out)) k_ hk, Kd.fresh' (Kd.R_lt (by (with_reducible repeat (first | apply Kd.R_alloc | apply Kd.R_drewN | apply Kd.R_drew)); exact HO218.out)) k_ hk, Kd.fresh' (Kd.R_lt (by (with_reducible repeat (first | apply Kd.R_alloc | apply Kd.R_drewN | apply Kd.R_drew)); exact HO221.out)) k_ hk, Kd.fresh' (Kd.R_lt (by (with_reducible repeat (first | apply Kd.R_alloc | apply Kd.R_drewN | apply Kd.R_drew)); exact HO225.out)) k_ hk⟩) _ (Nat.le_refl _)) (Below.refl _ _) (Nat.le_refl _) (by simp) ?_; (case hd => rfl); (case hg => rfl); (case hr => first | (go_simp; done) | (go_simp; rfl)); (case hp => exact (Reps.one (show Kd.FK (Kd.slice 5 (Kd.int .u8)) _ _ y226 [.slice Ao39 y226.length co39] from (Kd.FK_slice_mk (Kd.R_reads' (Kd.R_mono (ok' := (fun k_ => some k_ ≠ (.slice Ao29 t211.length co29 : Value).ownBlock ∧ some k_ ≠ (v217 : Value).ownBlock ∧ some k_ ≠ (.slice Ao33 y219.length co33 : Value).ownBlock ∧ some k_ ≠ (v224 : Value).ownBlock)) (HO228.out) (fun k_ hk => ⟨hk.1.1.1.1.2, ⟨hk.1.1.1.2, ⟨hk.1.1.2, hk.1.2⟩⟩⟩))).2.1 (Kd.R_F (Kd.R_mono (ok' := (fun k_ => some k_ ≠ (.slice Ao29 t211.length co29 : Value).ownBlock ∧ some k_ ≠ (v217 : Value).ownBlock ∧ some k_ ≠ (.slice Ao33 y219.length co33 : Value).ownBlock ∧ some k_ ≠ (v224 : Value).ownBlock)) (HO228.out) (fun k_ hk => ⟨hk.1.1.1.1.2, ⟨hk.1.1.1.2, ⟨hk.1.1.2, hk.1.2⟩⟩⟩))))) (Reps.one (show Kd.FK (Kd.slice 5 (Kd.int .u8)) _ _ y229 [.slice Ao40 y229.length co40] from (Kd.FK_slice_mk (Kd.R_reads' (Kd.R_mono (ok' := (fun k_ => some k_ ≠ (.slice Ao29 t211.length co29 : Value).ownBlock ∧ some k_ ≠ (v217 : Value).ownBlock ∧ some k_ ≠ (.slice Ao33 y219.length co33 : Value).ownBlock ∧ some k_ ≠ (v224 : Value).ownBlock)) (HO231.out) (fun k_ hk => ⟨hk.1.1.1.1.2, ⟨hk.1.1.1.2, ⟨hk.1.1.2, hk.1.2⟩⟩⟩))).2.1 (Kd.R_F (Kd.R_mono (ok' := (fun k_ => some k_ ≠ (.slice Ao29 t211.length co29 : Value).ownBlock ∧ some k_ ≠ (v217 : Value).ownBlock ∧ some k_ ≠ (.slice Ao33 y219.length co33 : Value).ownBlock ∧ some k_ ≠ (v224 : Value).ownBlock)) (HO231.out) (fun k_ hk => ⟨hk.1.1.1.1.2, ⟨hk.1.1.1.2, ⟨hk.1.1.2, hk.1.2⟩⟩⟩))))) (Reps.none _ _)))); intro v233 w41 ho42 hb hg_ hnew_; clear hg_ hnew_; (first | rw [← Ny232.out] at ho42 | (simp only [Int.reduceToNat] at ho42; rw [← Ny232.out] at ho42)); have n0_ := Aside0.mk (Kd.V_elder' (by (with_reducible repeat (first | apply Kd.V_alloc | apply Kd.V_drewN | apply Kd.V_drew)); exact HO210.out) (by first | exact Kd.N_base ho42 | exact Kd.S_base ho42) hb); have n1_ := Aside0.mk (Kd.R_below (by (with_reducible repeat (first | apply Kd.R_alloc | apply Kd.R_drewN | apply Kd.R_drew)); exact HO213.out) hb); have n2_ := Aside0.mk (Kd.R_below (by (with_reducible repeat (first | apply Kd.R_alloc | apply Kd.R_drewN | apply Kd.R_drew)); exact HO218.out) hb); have n3_ := Aside0.mk (Kd.R_below (by (with_reducible repeat (first | apply Kd.R_alloc | apply Kd.R_drewN | apply Kd.R_drew)); exact HO221.out) hb); have n4_ := Aside0.mk (Kd.R_below (by (with_reducible repeat (first | apply Kd.R_alloc | apply Kd.R_drewN | apply Kd.R_drew)); exact HO225.out) hb); have n5_ := Aside0.mk (Kd.N_lower ho42 (below_size (by repeat (first | (with_reducible first | exact HB.out | apply below_alloc | apply pw_below_drewN | apply below_drew1) | exact HB.out)))); have n6_ := Aside0.mk (below_step (by repeat (first | (with_reducible first | exact HB.out | apply below_alloc | apply pw_below_drewN | apply below_drew1) | exact HB.out)) hb); clear HO210; clear HO213; clear HO218; clear HO221; clear HO225; clear HB; clear HO228; clear HO231; have HO210 := n0_; have HO213 := n1_; have HO218 := n2_; have HO221 := n3_; have HO225 := n4_; have HO234 := n5_; have HB := n6_; clear n0_ n1_ n2_ n3_ n4_ n5_ n6_; clear hb ho42; obtain ⟨Ao43, co43, eo43⟩ := Kd.N_slice HO234.out; subst eo43) | ((with_reducible refine gate_callee (f := 18) rfl ?_); refine goesL_ (some 32) rfl rfl Try.func18 (by kernel_rfl) rfl #[.slice Ao43 y232.length co43, .int .i64 1] rfl (by (try simp only [List.map_toArray, List.map_cons, List.map_nil]); first | done | rfl | (simp only [List.length_drop, List.length_take]; rfl)) ?_; (with_reducible refine (stripe_Parity.calls k _ _ y232 1 t235 t236 _ ?side1 ?side2 A4.out).mono ?_); (case side1 => repeat (first | exact (Kd.N_reads' HO234.out).2.2 | (with_reducible refine Kd.C_alloc ?_ _) | (with_reducible refine Kd.C_drewN ?_ _) | (with_reducible refine Kd.C_drew ?_))); (case side2 => exact (Kd.N_reads' HO234.out).2.1); rintro e w44 ⟨v237, rfl, ho0, hb⟩; refine ⟨_, rfl, ?_⟩; have n0_ := Aside0.mk (Kd.V_elder' (by (with_reducible repeat (first | apply Kd.V_alloc | apply Kd.V_drewN | apply Kd.V_drew)); exact HO210.out) (by first | exact Kd.N_base ho0 | exact Kd.S_base ho0) hb); have n1_ := Aside0.mk (Kd.R_below (by (with_reducible repeat (first | apply Kd.R_alloc | apply Kd.R_drewN | apply Kd.R_drew)); exact HO213.out) hb); have n2_ := Aside0.mk (Kd.R_below (by (with_reducible repeat (first | apply Kd.R_alloc | apply Kd.R_drewN | apply Kd.R_drew)); exact HO218.out) hb); have n3_ := Aside0.mk (Kd.R_below (by (with_reducible repeat (first | apply Kd.R_alloc | apply Kd.R_drewN | apply Kd.R_drew)); exact HO221.out) hb); have n4_ := Aside0.mk (Kd.R_below (by (with_reducible repeat (first | apply Kd.R_alloc | apply Kd.R_drewN | apply Kd.R_drew)); exact HO225.out) hb); have n5_ := Aside0.mk (Kd.N_elder' (by (with_reducible repeat (first | apply Kd.N_alloc | apply Kd.N_drewN | apply Kd.N_drew)); exact HO234.out) (by first | exact Kd.N_base ho0 | exact Kd.S_base ho0) hb); have n6_ := Aside0.mk (Kd.N_lower (Kd.N_mono (ok' := fun k_ => some k_ ≠ (.slice Ao29 t211.length co29 : Value).ownBlock ∧ some k_ ≠ (v217 : Value).ownBlock ∧ some k_ ≠ (.slice Ao33 y219.length co33 : Value).ownBlock ∧ some k_ ≠ (v224 : Value).ownBlock ∧ some k_ ≠ (.slice Ao43 y232.length co43 : Value).ownBlock) (Kd.S_N (Kd.S_bound ho0)) (fun k_ hk_ => ⟨(Kd.fresh' (Kd.R_lt (by (with_reducible repeat (first | apply Kd.R_alloc | apply Kd.R_drewN | apply Kd.R_drew)); exact HO213.out)) k_ hk_.2.1), (Kd.fresh' (Kd.R_lt (by (with_reducible repeat (first | apply Kd.R_alloc | apply Kd.R_drewN | apply Kd.R_drew)); exact HO218.out)) k_ hk_.2.1), (Kd.fresh' (Kd.R_lt (by (with_reducible repeat (first | apply Kd.R_alloc | apply Kd.R_drewN | apply Kd.R_drew)); exact HO221.out)) k_ hk_.2.1), (Kd.fresh' (Kd.R_lt (by (with_reducible repeat (first | apply Kd.R_alloc | apply Kd.R_drewN | apply Kd.R_drew)); exact HO225.out)) k_ hk_.2.1), (Kd.fresh' (Kd.N_lt (by (with_reducible repeat (first | apply Kd.N_alloc | apply Kd.N_drewN | apply Kd.N_drew)); exact HO234.out)) k_ hk_.2.1)⟩)) (below_size (by repeat (first | (with_reducible first | exact HB.out | apply below_alloc | apply pw_below_drewN | apply below_drew1) | exact HB.out)))); have n7_ := Aside0.mk (below_step (by repeat (first | (with_reducible first | exact HB.out | apply below_alloc | apply pw_below_drewN | apply below_drew1) | exact HB.out)) hb); clear HO210; clear HO213; clear HO218; clear HO221; clear HO225; clear HO234; clear HB; have HO210 := n0_; have HO213 := n1_; have HO218 := n2_; have HO221 := n3_; have HO225 := n4_; have HO234 := n5_; have HO238 := n6_; have HB := n7_; clear n0_ n1_ n2_ n3_ n4_ n5_ n6_ n7_; (try clear hb); (try clear hb2); (try clear hk); (try clear hi); (try clear ho0)) | ((with_reducible refine gate_callee (f := 18) rfl ?_); refine goesL_ (some 36) rfl rfl Try.func18 (by kernel_rfl) rfl #[.slice none 0 0, .int .i64 1] rfl (by (try simp only [List.map_toArray, List.map_cons, List.map_nil]); first | done | rfl | (simp only [List.length_drop, List.length_take]; rfl)) ?_; (refine (stripe_Parity.calls k _ _ ([] : List (List Int)) 1 t239 t240 _ ?side1 ?side2 A5.out).mono ?_); (case side1 => exact Kd.C_nil _ _); (case side2 => exact Nat.le_refl _); rintro e w45 ⟨v241, rfl, ho0, hb⟩; refine ⟨_, rfl, ?_⟩; have n0_ := Aside0.mk (Kd.V_elder' (by (with_reducible repeat (first | apply Kd.V_alloc | apply Kd.V_drewN | apply Kd.V_drew)); exact HO210.out) (by first | exact Kd.N_base ho0 | exact Kd.S_base ho0) hb); have n1_ := Aside0.mk (Kd.R_below (by (with_reducible repeat (first | apply Kd.R_alloc | apply Kd.R_drewN | apply Kd.R_drew)); exact HO213.out) hb); have n2_ := Aside0.mk (Kd.R_below (by (with_reducible repeat (first | apply Kd.R_alloc | apply Kd.R_drewN | apply Kd.R_drew)); exact HO218.out) hb); have n3_ := Aside0.mk (Kd.R_below (by (with_reducible repeat (first | apply Kd.R_alloc | apply Kd.R_drewN | apply Kd.R_drew)); exact HO221.out) hb); have n4_ := Aside0.mk (Kd.R_below (by (with_reducible repeat (first | apply Kd.R_alloc | apply Kd.R_drewN | apply Kd.R_drew)); exact HO225.out) hb); have n5_ := Aside0.mk (Kd.N_elder' (by (with_reducible repeat (first | apply Kd.N_alloc | apply Kd.N_drewN | apply Kd.N_drew)); exact HO234.out) (by first | exact Kd.N_base ho0 | exact Kd.S_base ho0) hb); have n6_ := Aside0.mk (Kd.N_elder' (by (with_reducible repeat (first | apply Kd.N_alloc | apply Kd.N_drewN | apply Kd.N_drew)); exact HO238.out) (by first | exact Kd.N_base ho0 | exact Kd.S_base ho0) hb); have n7_ := Aside0.mk (Kd.N_lower (Kd.N_mono (ok' := fun k_ => some k_ ≠ (.slice Ao29 t211.length co29 : Value).ownBlock ∧ some k_ ≠ (v217 : Value).ownBlock ∧ some k_ ≠ (.slice Ao33 y219.length co33 : Value).ownBlock ∧ some k_ ≠ (v224 : Value).ownBlock ∧ some k_ ≠ (.slice Ao43 y232.length co43 : Value).ownBlock ∧ some k_ ≠ (v237 : Value).ownBlock) (Kd.S_N (Kd.S_bound ho0)) (fun k_ hk_ => ⟨(Kd.fresh' (Kd.R_lt (by (with_reducible repeat (first | apply Kd.R_alloc | apply Kd.R_drewN | apply Kd.R_drew)); exact HO213.out)) k_ hk_.2.1), (Kd.fresh' (Kd.R_lt (by (with_reducible repeat (first | apply Kd.R_alloc | apply Kd.R_drewN | apply Kd.R_drew)); exact HO218.out)) k_ hk_.2.1), (Kd.fresh' (Kd.R_lt (by (with_reducible repeat (first | apply Kd.R_alloc | apply Kd.R_drewN | apply Kd.R_drew)); exact HO221.out)) k_ hk_.2.1), (Kd.fresh' (Kd.R_lt (by (with_reducible repeat (first | apply Kd.R_alloc | apply Kd.R_drewN | apply Kd.R_drew)); exact HO225.out)) k_ hk_.2.1), (Kd.fresh' (Kd.N_lt (by (with_reducible repeat (first | apply Kd.N_alloc | apply Kd.N_drewN | apply Kd.N_drew)); exact HO234.out)) k_ hk_.2.1), (Kd.fresh' (Kd.N_lt (by (with_reducible repeat (first | apply Kd.N_alloc | apply Kd.N_drewN | apply Kd.N_drew)); exact HO238.out)) k_ hk_.2.1)⟩)) (below_size (by repeat (first | (with_reducible first | exact HB.out | apply below_alloc | apply pw_below_drewN | apply below_drew1) | exact HB.out)))); have n8_ := Aside0.mk (below_step (by repeat (first | (with_reducible first | exact HB.out | apply below_alloc | apply pw_below_drewN | apply below_drew1) | exact HB.out)) hb); clear HO210; clear HO213; clear HO218; clear HO221; clear HO225; clear HO234; clear HO238; clear HB; have HO210 := n0_; have HO213 := n1_; have HO218 := n2_; have HO221 := n3_; have HO225 := n4_; have HO234 := n5_; have HO238 := n6_; have HO242 := n7_; have HB := n8_; clear n0_ n1_ n2_ n3_ n4_ n5_ n6_ n7_ n8_; (try clear hb); (try clear hb2); (try clear hk); (try clear hi); (try clear ho0); obtain ⟨Ao46, co46, eo46⟩ := Kd.N_slice HO238.out; subst eo46) | ((with_reducible refine gate_dst (N := 11) rfl ?_); refine box_event ?hg (N := 11) ?hd (cs := #[.int .i64 0, .int .i64 0, .int .i64 0, .int .i64 0]) (t := 24) ?hr ?_; (case hd => rfl); (case hg => rfl); (case hr => first | (go_simp; done) | (go_simp; rfl)); intro gb243 hg w47 hbox hb; have n0_ := Aside0.mk (Kd.V_below (Kd.V_elderB (by (with_reducible repeat (first | apply Kd.V_alloc | apply Kd.V_drewN | apply Kd.V_drew)); exact HO210.out) gb243 (Nat.le_of_eq hg.symm)) hb); have n1_ := Aside0.mk (Kd.R_below (by (with_reducible repeat (first | apply Kd.R_alloc | apply Kd.R_drewN | apply Kd.R_drew)); exact HO213.out) hb); have n2_ := Aside0.mk (Kd.R_below (by (with_reducible repeat (first | apply Kd.R_alloc | apply Kd.R_drewN | apply Kd.R_drew)); exact HO218.out) hb); have n3_ := Aside0.mk (Kd.R_below (by (with_reducible repeat (first | apply Kd.R_alloc | apply Kd.R_drewN | apply Kd.R_drew)); exact HO221.out) hb); have n4_ := Aside0.mk (Kd.R_below (by (with_reducible repeat (first | apply Kd.R_alloc | apply Kd.R_drewN | apply Kd.R_drew)); exact HO225.out) hb); have n5_ := Aside0.mk (Kd.N_below (Kd.N_elderB (by (with_reducible repeat (first | apply Kd.N_alloc | apply Kd.N_drewN | apply Kd.N_drew)); exact HO234.out) gb243 (Nat.le_of_eq hg.symm)) hb); have n6_ := Aside0.mk (Kd.N_below (Kd.N_elderB (by (with_reducible repeat (first | apply Kd.N_alloc | apply Kd.N_drewN | apply Kd.N_drew)); exact HO238.out) gb243 (Nat.le_of_eq hg.symm)) hb); have n7_ := Aside0.mk (Kd.N_below (Kd.N_elderB (by (with_reducible repeat (first | apply Kd.N_alloc | apply Kd.N_drewN | apply Kd.N_drew)); exact HO242.out) gb243 (Nat.le_of_eq hg.symm)) hb); have n8_ := Aside0.mk (below_step (by repeat (first | (with_reducible first | exact HB.out | apply below_alloc | apply pw_below_drewN | apply below_drew1) | exact HB.out)) hb); have n9_ := Aside0.mk (hbox); have n10_ := Aside0.mk ((by rw [hg]; exact (below_size (by repeat (first | (with_reducible first | exact HB.out | apply below_alloc | apply pw_below_drewN | apply below_drew1) | exact HB.out))) : w.heap.size ≤ gb243)); have n11_ := Aside0.mk ((by rw [hg]; exact (below_size (by repeat (first | (with_reducible first | exact HB.out | apply below_alloc | apply pw_below_drewN | apply below_drew1) | exact HB.out))) : w.heap.size ≤ gb243)); clear HO210; clear HO213; clear HO218; clear HO221; clear HO225; clear HO234; clear HO238; clear HO242; clear HB; have HO210 := n0_; have HO213 := n1_; have HO218 := n2_; have HO221 := n3_; have HO225 := n4_; have HO234 := n5_; have HO238 := n6_; have HO242 := n7_; have HB := n8_; have BK243 := n9_; have GW243 := n10_; have GE243 := n11_; clear n0_ n1_ n2_ n3_ n4_ n5_ n6_ n7_ n8_ n9_ n10_ n11_; clear hb hbox hg; have hcz48_0 : w47.cell? ⟨gb243, 0, none⟩ = some (.int .i64 0) := (blk_cell BK243.out 0).trans rfl; have hcz48_1 : w47.cell? ⟨gb243, 1, none⟩ = some (.int .i64 0) := (blk_cell BK243.out 1).trans rfl; have hcz48_2 : w47.cell? ⟨gb243, 2, none⟩ = some (.int .i64 0) := (blk_cell BK243.out 2).trans rfl; have hcz48_3 : w47.cell? ⟨gb243, 3, none⟩ = some (.int .i64 0) := (blk_cell BK243.out 3).trans rfl; have hfz48_0 := blk_frozen BK243.out 0; have hfz48_1 := blk_frozen BK243.out 1; have hfz48_2 := blk_frozen BK243.out 2; have hfz48_3 := blk_frozen BK243.out 3) | ((with_reducible refine gate_store (t := 24) (p := 11) rfl ?_); refine store_event (t := 24) (p := 11) (v := ?vo_w49) (w1 := ((((w47.setCell ⟨gb243, 0, none⟩ (.int .i64 2)).setCell ⟨gb243, 1, none⟩ (.int .i64 1)).setCell ⟨gb243, 2, none⟩ (.int .i64 5)).setCell ⟨gb243, 3, none⟩ (.int .i64 4))) ?hg ?ho ?hn ?hr ?_; (case ho => rfl); (case hg => rfl); (case hn => rfl); (case hr => first | (go_simp; done) | (go_simp; rfl)); intro w49 hw; have n0_ : Aside0 (Kd.V (Kd.int .u8) 5 w49 w.heap.size (fun k_ => some k_ ≠ (.slice Ao29 t211.length co29 : Value).ownBlock ∧ some k_ ≠ (v217 : Value).ownBlock ∧ some k_ ≠ (.slice Ao33 y219.length co33 : Value).ownBlock ∧ some k_ ≠ (v224 : Value).ownBlock ∧ some k_ ≠ (.slice Ao43 y232.length co43 : Value).ownBlock ∧ some k_ ≠ (.slice Ao46 t235.length co46 : Value).ownBlock ∧ some k_ ≠ (v241 : Value).ownBlock ∧ k_ ≠ gb243) (.slice Ao27 y208.length co27) y208) := ⟨(by rw [hw]; exact (by (with_reducible repeat (first | apply Kd.V_alloc | apply Kd.V_drewN | apply Kd.V_drew)); exact Kd.V_mono (Kd.V_far (p := ⟨gb243, 3, none⟩) (Kd.V_far (p := ⟨gb243, 2, none⟩) (Kd.V_far (p := ⟨gb243, 1, none⟩) (Kd.V_far (p := ⟨gb243, 0, none⟩) (Kd.V_mono HO210.out (fun k_ hk => (⟨hk, hk.2⟩ : _ ∧ k_ ≠ gb243))) (fun _ hk => hk.2) (.int .i64 2)) (fun _ hk => hk.2) (.int .i64 1)) (fun _ hk => hk.2) (.int .i64 5)) (fun _ hk => hk.2) (.int .i64 4)) (fun _ hk => ⟨hk.1.1.1.1.1.1.1.1.1.1.2, ⟨hk.1.1.1.1.1.1.1.1.1.2, ⟨hk.1.1.1.1.1.1.1.1.2, ⟨hk.1.1.1.1.1.1.1.2, ⟨hk.1.1.1.1.2, ⟨hk.1.1.1.2, ⟨hk.1.1.2, hk.1.2⟩⟩⟩⟩⟩⟩⟩)))⟩; have n1_ : Aside0 (Kd.R (Kd.int .u8) 5 w49 w.heap.size (fun k_ => some k_ ≠ (v217 : Value).ownBlock ∧ some k_ ≠ (.slice Ao33 y219.length co33 : Value).ownBlock ∧ some k_ ≠ (v224 : Value).ownBlock) (.slice Ao29 t211.length co29) t211) := ⟨(by rw [hw]; exact (by (with_reducible repeat (first | apply Kd.R_alloc | apply Kd.R_drewN | apply Kd.R_drew)); exact Kd.R_mono (Kd.R_far (p := ⟨gb243, 3, none⟩) (Kd.R_far (p := ⟨gb243, 2, none⟩) (Kd.R_far (p := ⟨gb243, 1, none⟩) (Kd.R_far (p := ⟨gb243, 0, none⟩) (Kd.R_types HO213.out BK243.out (by decide)) (fun _ hk => hk.2) (.int .i64 2)) (fun _ hk => hk.2) (.int .i64 1)) (fun _ hk => hk.2) (.int .i64 5)) (fun _ hk => hk.2) (.int .i64 4)) (fun _ hk => ⟨hk.1.1.1.1.1.2, ⟨hk.1.1.1.1.2, hk.1.1.1.2⟩⟩)))⟩; have n2_ : Aside0 (Kd.R (Kd.int .u8) 5 w49 w.heap.size (fun k_ => some k_ ≠ (.slice Ao29 t211.length co29 : Value).ownBlock ∧ some k_ ≠ (.slice Ao33 y219.length co33 : Value).ownBlock ∧ some k_ ≠ (v224 : Value).ownBlock) v217 t215) := ⟨(by rw [hw]; exact (by (with_reducible repeat (first | apply Kd.R_alloc | apply Kd.R_drewN | apply Kd.R_drew)); exact Kd.R_mono (Kd.R_far (p := ⟨gb243, 3, none⟩) (Kd.R_far (p := ⟨gb243, 2, none⟩) (Kd.R_far (p := ⟨gb243, 1, none⟩) (Kd.R_far (p := ⟨gb243, 0, none⟩) (Kd.R_types HO218.out BK243.out (by decide)) (fun _ hk => hk.2) (.int .i64 2)) (fun _ hk => hk.2) (.int .i64 1)) (fun _ hk => hk.2) (.int .i64 5)) (fun _ hk => hk.2) (.int .i64 4)) (fun _ hk => ⟨hk.1.1.1.1.1.2, ⟨hk.1.1.1.1.2, hk.1.1.1.2⟩⟩)))⟩; have n3_ : Aside0 (Kd.R (Kd.int .u8) 5 w49 w.heap.size (fun k_ => some k_ ≠ (.slice Ao29 t211.length co29 : Value).ownBlock ∧ some k_ ≠ (v217 : Value).ownBlock ∧ some k_ ≠ (v224 : Value).ownBlock) (.slice Ao33 y219.length co33) y219) := ⟨(by rw [hw]; exact (by (with_reducible repeat (first | apply Kd.R_alloc | apply Kd.R_drewN | apply Kd.R_drew)); exact Kd.R_mono (Kd.R_far (p := ⟨gb243, 3, none⟩) (Kd.R_far (p := ⟨gb243, 2, none⟩) (Kd.R_far (p := ⟨gb243, 1, none⟩) (Kd.R_far (p := ⟨gb243, 0, none⟩) (Kd.R_types HO221.out BK243.out (by decide)) (fun _ hk => hk.2) (.int .i64 2)) (fun _ hk => hk.2) (.int .i64 1)) (fun _ hk => hk.2) (.int .i64 5)) (fun _ hk => hk.2) (.int .i64 4)) (fun _ hk => ⟨hk.1.1.1.1.1.2, ⟨hk.1.1.1.1.2, hk.1.1.1.2⟩⟩)))⟩; have n4_ : Aside0 (Kd.R (Kd.int .u8) 5 w49 w.heap.size (fun k_ => some k_ ≠ (.slice Ao29 t211.length co29 : Value).ownBlock ∧ some k_ ≠ (v217 : Value).ownBlock ∧ some k_ ≠ (.slice Ao33 y219.length co33 : Value).ownBlock) v224 t222) := ⟨(by rw [hw]; exact (by (with_reducible repeat (first | apply Kd.R_alloc | apply Kd.R_drewN | apply Kd.R_drew)); exact Kd.R_mono (Kd.R_far (p := ⟨gb243, 3, none⟩) (Kd.R_far (p := ⟨gb243, 2, none⟩) (Kd.R_far (p := ⟨gb243, 1, none⟩) (Kd.R_far (p := ⟨gb243, 0, none⟩) (Kd.R_types HO225.out BK243.out (by decide)) (fun _ hk => hk.2) (.int .i64 2)) (fun _ hk => hk.2) (.int .i64 1)) (fun _ hk => hk.2) (.int .i64 5)) (fun _ hk => hk.2) (.int .i64 4)) (fun _ hk => ⟨hk.1.1.1.1.1.2, ⟨hk.1.1.1.1.2, hk.1.1.1.2⟩⟩)))⟩; have n5_ : Aside0 (Kd.N (Kd.slice 5 (Kd.int .u8)) 22 w49 w.heap.size (fun k_ => some k_ ≠ (.slice Ao29 t211.length co29 : Value).ownBlock ∧ some k_ ≠ (v217 : Value).ownBlock ∧ some k_ ≠ (.slice Ao33 y219.length co33 : Value).ownBlock ∧ some k_ ≠ (v224 : Value).ownBlock ∧ some k_ ≠ (.slice Ao46 t235.length co46 : Value).ownBlock ∧ some k_ ≠ (v241 : Value).ownBlock ∧ k_ ≠ gb243) (.slice Ao43 y232.length co43) y232) := ⟨(by rw [hw]; exact (by (with_reducible repeat (first | apply Kd.N_alloc | apply Kd.N_drewN | apply Kd.N_drew)); exact Kd.N_mono (Kd.N_far (p := ⟨gb243, 3, none⟩) (Kd.N_far (p := ⟨gb243, 2, none⟩) (Kd.N_far (p := ⟨gb243, 1, none⟩) (Kd.N_far (p := ⟨gb243, 0, none⟩) (Kd.N_mono HO234.out (fun k_ hk => (⟨hk, hk.2⟩ : _ ∧ k_ ≠ gb243))) (fun _ hk => hk.2) (.int .i64 2)) (fun _ hk => hk.2) (.int .i64 1)) (fun _ hk => hk.2) (.int .i64 5)) (fun _ hk => hk.2) (.int .i64 4)) (fun _ hk => ⟨hk.1.1.1.1.1, ⟨hk.1.1.1.1.2.1, ⟨hk.1.1.1.1.2.2.1, ⟨hk.1.1.1.1.2.2.2, ⟨hk.1.1.1.2, ⟨hk.1.1.2, hk.1.2⟩⟩⟩⟩⟩⟩)))⟩; have n6_ : Aside0 (Kd.N (Kd.slice 5 (Kd.int .u8)) 22 w49 w.heap.size (fun k_ => some k_ ≠ (.slice Ao29 t211.length co29 : Value).ownBlock ∧ some k_ ≠ (v217 : Value).ownBlock ∧ some k_ ≠ (.slice Ao33 y219.length co33 : Value).ownBlock ∧ some k_ ≠ (v224 : Value).ownBlock ∧ some k_ ≠ (.slice Ao43 y232.length co43 : Value).ownBlock ∧ some k_ ≠ (v241 : Value).ownBlock ∧ k_ ≠ gb243) (.slice Ao46 t235.length co46) t235) := ⟨(by rw [hw]; exact (by (with_reducible repeat (first | apply Kd.N_alloc | apply Kd.N_drewN | apply Kd.N_drew)); exact Kd.N_mono (Kd.N_far (p := ⟨gb243, 3, none⟩) (Kd.N_far (p := ⟨gb243, 2, none⟩) (Kd.N_far (p := ⟨gb243, 1, none⟩) (Kd.N_far (p := ⟨gb243, 0, none⟩) (Kd.N_mono HO238.out (fun k_ hk => (⟨hk, hk.2⟩ : _ ∧ k_ ≠ gb243))) (fun _ hk => hk.2) (.int .i64 2)) (fun _ hk => hk.2) (.int .i64 1)) (fun _ hk => hk.2) (.int .i64 5)) (fun _ hk => hk.2) (.int .i64 4)) (fun _ hk => ⟨hk.1.1.1.1, ⟨hk.1.1.1.2.1, ⟨hk.1.1.1.2.2.1, ⟨hk.1.1.1.2.2.2.1, ⟨hk.1.1.1.2.2.2.2, ⟨hk.1.1.2, hk.1.2⟩⟩⟩⟩⟩⟩)))⟩; have n7_ : Aside0 (Kd.N (Kd.slice 5 (Kd.int .u8)) 22 w49 w.heap.size (fun k_ => some k_ ≠ (.slice Ao29 t211.length co29 : Value).ownBlock ∧ some k_ ≠ (v217 : Value).ownBlock ∧ some k_ ≠ (.slice Ao33 y219.length co33 : Value).ownBlock ∧ some k_ ≠ (v224 : Value).ownBlock ∧ some k_ ≠ (.slice Ao43 y232.length co43 : Value).ownBlock ∧ some k_ ≠ (.slice Ao46 t235.length co46 : Value).ownBlock ∧ k_ ≠ gb243) v241 t239) := ⟨(by rw [hw]; exact (by (with_reducible repeat (first | apply Kd.N_alloc | apply Kd.N_drewN | apply Kd.N_drew)); exact Kd.N_mono (Kd.N_far (p := ⟨gb243, 3, none⟩) (Kd.N_far (p := ⟨gb243, 2, none⟩) (Kd.N_far (p := ⟨gb243, 1, none⟩) (Kd.N_far (p := ⟨gb243, 0, none⟩) (Kd.N_mono HO242.out (fun k_ hk => (⟨hk, hk.2⟩ : _ ∧ k_ ≠ gb243))) (fun _ hk => hk.2) (.int .i64 2)) (fun _ hk => hk.2) (.int .i64 1)) (fun _ hk => hk.2) (.int .i64 5)) (fun _ hk => hk.2) (.int .i64 4)) (fun _ hk => ⟨hk.1.1.1, ⟨hk.1.1.2.1, ⟨hk.1.1.2.2.1, ⟨hk.1.1.2.2.2.1, ⟨hk.1.1.2.2.2.2.1, ⟨hk.1.1.2.2.2.2.2, hk.1.2⟩⟩⟩⟩⟩⟩)))⟩; have n8_ : Aside0 (w49.heap[gb243]? = some (.cells #[.int .i64 2, .int .i64 1, .int .i64 5, .int .i64 4] 24 (0, 0))) := ⟨(by rw [hw]; exact (by (with_reducible repeat (first | refine blk_drewN ?_ _ | refine blk_drew ?_ | refine blk_alloc ?_ _)); refine blk_put (cs := #[.int .i64 2, .int .i64 1, .int .i64 5, .int .i64 0]) ?_ 3 _ rfl; (with_reducible repeat (first | refine blk_drewN ?_ _ | refine blk_drew ?_ | refine blk_alloc ?_ _)); refine blk_put (cs := #[.int .i64 2, .int .i64 1, .int .i64 0, .int .i64 0]) ?_ 2 _ rfl; (with_reducible repeat (first | refine blk_drewN ?_ _ | refine blk_drew ?_ | refine blk_alloc ?_ _)); refine blk_put (cs := #[.int .i64 2, .int .i64 0, .int .i64 0, .int .i64 0]) ?_ 1 _ rfl; (with_reducible repeat (first | refine blk_drewN ?_ _ | refine blk_drew ?_ | refine blk_alloc ?_ _)); refine blk_put (cs := #[.int .i64 0, .int .i64 0, .int .i64 0, .int .i64 0]) ?_ 0 _ rfl; (with_reducible repeat (first | refine blk_drewN ?_ _ | refine blk_drew ?_ | refine blk_alloc ?_ _)); exact BK243.out))⟩; have n9_ : Aside0 (Below w.heap.size w w49) := ⟨(by rw [hw]; exact (by repeat (first | (with_reducible first | exact HB.out | apply below_alloc | apply pw_below_drewN | apply below_drew1 | refine below_set ?_ GE243.out) | exact HB.out)))⟩; clear hw; clear HO210; clear HO213; clear HO218; clear HO221; clear HO225; clear HO234; clear HO238; clear HO242; clear BK243; clear HB; have HO210 := n0_; have HO213 := n1_; have HO218 := n2_; have HO221 := n3_; have HO225 := n4_; have HO234 := n5_; have HO238 := n6_; have HO242 := n7_; have BK243 := n8_; have HB := n9_; clear n0_ n1_ n2_ n3_ n4_ n5_ n6_ n7_ n8_ n9_; have hcv50 := own_string (P := Try.prog) Try.underlying22 Try.underlying5 Try.underlying9 (Kd.own_of_R HO213.out); have hcv51 := own_string (P := Try.prog) Try.underlying22 Try.underlying5 Try.underlying9 (Kd.own_of_R HO218.out); have p244 : 0 ≤ (0 : Int) := (by omega); have q244 : 0 < (t235.length : Int) := of_decide_eq_true (by first | (with_reducible assumption) | assumption); obtain ⟨ad244, A244_0, c244_0, e244, hx244_0, hl244_0, hi244_0⟩ := at_L1 (Kd.N_reads' HO238.out).2.2 0 p244 q244; cases e244; obtain ⟨ce244, hce244, hMe244, hcc244⟩ := Kd.N_get HO238.out [] 0 p244 (by first | exact q244 | exact of_decide_eq_true (by first | (with_reducible assumption) | assumption) | (have e_ := (Kd.N_reads' HO238.out).1; omega)); obtain ⟨ua244_0, uc244_0, rfl, ul244_0, ge244_0⟩ := Kd.FK_slice_open hMe244; have hv244_0 := hcc244 0 _ rfl; rw [Nat.add_zero, show ((Kd.slice 5 (Kd.int .u8))).sz = 1 from rfl, Nat.mul_one] at hv244_0; replace hv244_0 := Option.some.inj (hv244_0.symm.trans hx244_0); injection hv244_0 with hva_ hvn_ hvc_; rw [hva_] at ge244_0; rw [hvc_] at ul244_0; have HL244_0 := Aside0.mk (show Kd.V (Kd.int .u8) 5 _ w.heap.size _ _ (rd_L1 t235 0) from Kd.V_mk ul244_0 ge244_0); clear hva_ hvn_ hvc_ ge244_0 ul244_0; clear hcc244 hce244; have qi244 : (0 < t235.length) = True := eq_true (by omega); (try rw [show ((0 : Int)).toNat = 0 from rfl] at hx244_0); (try rw [Addr.add_zero'] at hx244_0); have HR244_0 := Aside0.mk hi244_0; have HC244_0 := Aside0.mk hl244_0; clear hi244_0 hl244_0; replace p244 := eq_true p244; replace q244 := eq_true q244; have hcv52 := Kd.C_string (P := Try.prog) (A := A244_0) (c := c244_0) Try.underlying22 Try.underlying5 Try.underlying9 (by repeat (first | (with_reducible exact HR244_0.out) | (with_reducible refine Kd.C_alloc ?_ _) | (with_reducible refine Kd.C_drewN ?_ _) | (with_reducible refine Kd.C_drew ?_) | exact HR244_0.out)); have hcz53_0 : w49.cell? ⟨gb243, 0, none⟩ = some (.int .i64 2) := (blk_cell BK243.out 0).trans rfl; have hcz53_1 : w49.cell? ⟨gb243, 1, none⟩ = some (.int .i64 1) := (blk_cell BK243.out 1).trans rfl; have hcz53_2 : w49.cell? ⟨gb243, 2, none⟩ = some (.int .i64 5) := (blk_cell BK243.out 2).trans rfl; have hcz53_3 : w49.cell? ⟨gb243, 3, none⟩ = some (.int .i64 4) := (blk_cell BK243.out 3).trans rfl; have hfz53_0 := blk_frozen BK243.out 0; have hfz53_1 := blk_frozen BK243.out 1; have hfz53_2 := blk_frozen BK243.out 2; have hfz53_3 := blk_frozen BK243.out 3) | (go_at_call 14; (with_reducible refine (stripe_Right.calls 2 1 5 4 true _ A16.out).mono ?_); rintro e w54 ⟨rfl, hb⟩; have n0_ := Aside0.mk (Kd.V_below (by (with_reducible repeat (first | apply Kd.V_alloc | apply Kd.V_drewN | apply Kd.V_drew)); exact HO210.out) hb); have n1_ := Aside0.mk (Kd.R_below (by (with_reducible repeat (first | apply Kd.R_alloc | apply Kd.R_drewN | apply Kd.R_drew)); exact HO213.out) hb); have n2_ := Aside0.mk (Kd.R_below (by (with_reducible repeat (first | apply Kd.R_alloc | apply Kd.R_drewN | apply Kd.R_drew)); exact HO218.out) hb); have n3_ := Aside0.mk (Kd.R_below (by (with_reducible repeat (first | apply Kd.R_alloc | apply Kd.R_drewN | apply Kd.R_drew)); exact HO221.out) hb); have n4_ := Aside0.mk (Kd.R_below (by (with_reducible repeat (first | apply Kd.R_alloc | apply Kd.R_drewN | apply Kd.R_drew)); exact HO225.out) hb); have n5_ := Aside0.mk (Kd.N_below (by (with_reducible repeat (first | apply Kd.N_alloc | apply Kd.N_drewN | apply Kd.N_drew)); exact HO234.out) hb); have n6_ := Aside0.mk (Kd.N_below (by (with_reducible repeat (first | apply Kd.N_alloc | apply Kd.N_drewN | apply Kd.N_drew)); exact HO238.out) hb); have n7_ := Aside0.mk (Kd.N_below (by (with_reducible repeat (first | apply Kd.N_alloc | apply Kd.N_drewN | apply Kd.N_drew)); exact HO242.out) hb); have n8_ := Aside0.mk (Kd.V_below (by (with_reducible repeat (first | apply Kd.V_alloc | apply Kd.V_drewN | apply Kd.V_drew)); exact HL244_0.out) hb); have n9_ := Aside0.mk (blk_below (g := gb243) (o := .cells #[.int .i64 2, .int .i64 1, .int .i64 5, .int .i64 4] 24 (0, 0)) (by (with_reducible repeat (first | refine blk_drewN ?_ _ | refine blk_drew ?_ | refine blk_alloc ?_ _)); exact BK243.out) hb); have n10_ := Aside0.mk (Kd.C_below (by repeat (first | (with_reducible exact HR244_0.out) | (with_reducible refine Kd.C_alloc ?_ _) | (with_reducible refine Kd.C_drewN ?_ _) | (with_reducible refine Kd.C_drew ?_) | exact HR244_0.out)) hb); have n11_ := Aside0.mk (below_step (by repeat (first | (with_reducible first | exact HB.out | apply below_alloc | apply pw_below_drewN | apply below_drew1 | refine below_set ?_ GE243.out) | exact HB.out)) hb); clear HO210; clear HO213; clear HO218; clear HO221; clear HO225; clear HO234; clear HO238; clear HO242; clear HL244_0; clear BK243; clear HR244_0; clear HB; have HO210 := n0_; have HO213 := n1_; have HO218 := n2_; have HO221 := n3_; have HO225 := n4_; have HO234 := n5_; have HO238 := n6_; have HO242 := n7_; have HL244_0 := n8_; have BK243 := n9_; have HR244_0 := n10_; have HB := n11_; clear n0_ n1_ n2_ n3_ n4_ n5_ n6_ n7_ n8_ n9_ n10_ n11_; (try clear hb); (try clear hb2); (try clear hk); (try clear hi); have hcz55_0 : w54.cell? ⟨gb243, 0, none⟩ = some (.int .i64 2) := (blk_cell BK243.out 0).trans rfl; have hcz55_1 : w54.cell? ⟨gb243, 1, none⟩ = some (.int .i64 1) := (blk_cell BK243.out 1).trans rfl; have hcz55_2 : w54.cell? ⟨gb243, 2, none⟩ = some (.int .i64 5) := (blk_cell BK243.out 2).trans rfl; have hcz55_3 : w54.cell? ⟨gb243, 3, none⟩ = some (.int .i64 4) := (blk_cell BK243.out 3).trans rfl; have hfz55_0 := blk_frozen BK243.out 0; have hfz55_1 := blk_frozen BK243.out 1; have hfz55_2 := blk_frozen BK243.out 2; have hfz55_3 := blk_frozen BK243.out 3) | (go_at_call 15; (with_reducible refine (stripe_Long.calls 2 1 5 4 t246 _ A18.out).mono ?_); rintro e w56 ⟨rfl, hb⟩; have n0_ := Aside0.mk (Kd.V_below (by (with_reducible repeat (first | apply Kd.V_alloc | apply Kd.V_drewN | apply Kd.V_drew)); exact HO210.out) hb); have n1_ := Aside0.mk (Kd.R_below (by (with_reducible repeat (first | apply Kd.R_alloc | apply Kd.R_drewN | apply Kd.R_drew)); exact HO213.out) hb); have n2_ := Aside0.mk (Kd.R_below (by (with_reducible repeat (first | apply Kd.R_alloc | apply Kd.R_drewN | apply Kd.R_drew)); exact HO218.out) hb); have n3_ := Aside0.mk (Kd.R_below (by (with_reducible repeat (first | apply Kd.R_alloc | apply Kd.R_drewN | apply Kd.R_drew)); exact HO221.out) hb); have n4_ := Aside0.mk (Kd.R_below (by (with_reducible repeat (first | apply Kd.R_alloc | apply Kd.R_drewN | apply Kd.R_drew)); exact HO225.out) hb); have n5_ := Aside0.mk (Kd.N_below (by (with_reducible repeat (first | apply Kd.N_alloc | apply Kd.N_drewN | apply Kd.N_drew)); exact HO234.out) hb); have n6_ := Aside0.mk (Kd.N_below (by (with_reducible repeat (first | apply Kd.N_alloc | apply Kd.N_drewN | apply Kd.N_drew)); exact HO238.out) hb); have n7_ := Aside0.mk (Kd.N_below (by (with_reducible repeat (first | apply Kd.N_alloc | apply Kd.N_drewN | apply Kd.N_drew)); exact HO242.out) hb); have n8_ := Aside0.mk (Kd.V_below (by (with_reducible repeat (first | apply Kd.V_alloc | apply Kd.V_drewN | apply Kd.V_drew)); exact HL244_0.out) hb); have n9_ := Aside0.mk (blk_below (g := gb243) (o := .cells #[.int .i64 2, .int .i64 1, .int .i64 5, .int .i64 4] 24 (0, 0)) (by (with_reducible repeat (first | refine blk_drewN ?_ _ | refine blk_drew ?_ | refine blk_alloc ?_ _)); exact BK243.out) hb); have n10_ := Aside0.mk (Kd.C_below (by repeat (first | (with_reducible exact HR244_0.out) | (with_reducible refine Kd.C_alloc ?_ _) | (with_reducible refine Kd.C_drewN ?_ _) | (with_reducible refine Kd.C_drew ?_) | exact HR244_0.out)) hb); have n11_ := Aside0.mk (below_step (by repeat (first | (with_reducible first | exact HB.out | apply below_alloc | apply pw_below_drewN | apply below_drew1 | refine below_set ?_ GE243.out) | exact HB.out)) hb); clear HO210; clear HO213; clear HO218; clear HO221; clear HO225; clear HO234; clear HO238; clear HO242; clear HL244_0; clear BK243; clear HR244_0; clear HB; have HO210 := n0_; have HO213 := n1_; have HO218 := n2_; have HO221 := n3_; have HO225 := n4_; have HO234 := n5_; have HO238 := n6_; have HO242 := n7_; have HL244_0 := n8_; have BK243 := n9_; have HR244_0 := n10_; have HB := n11_; clear n0_ n1_ n2_ n3_ n4_ n5_ n6_ n7_ n8_ n9_ n10_ n11_; (try clear hb); (try clear hb2); (try clear hk); (try clear hi); have hcz57_0 : w56.cell? ⟨gb243, 0, none⟩ = some (.int .i64 2) := (blk_cell BK243.out 0).trans rfl; have hcz57_1 : w56.cell? ⟨gb243, 1, none⟩ = some (.int .i64 1) := (blk_cell BK243.out 1).trans rfl; have hcz57_2 : w56.cell? ⟨gb243, 2, none⟩ = some (.int .i64 5) := (blk_cell BK243.out 2).trans rfl; have hcz57_3 : w56.cell? ⟨gb243, 3, none⟩ = some (.int .i64 4) := (blk_cell BK243.out 3).trans rfl; have hfz57_0 := blk_frozen BK243.out 0; have hfz57_1 := blk_frozen BK243.out 1; have hfz57_2 := blk_frozen BK243.out 2; have hfz57_3 := blk_frozen BK243.out 3) | (go_at_call 16; (with_reducible refine (stripe_Blocks.calls 2 1 5 4 t247 _ A20.out).mono ?_); rintro e w58 ⟨rfl, hb⟩; have n0_ := Aside0.mk (Kd.V_below (by (with_reducible repeat (first | apply Kd.V_alloc | apply Kd.V_drewN | apply Kd.V_drew)); exact HO210.out) hb); have n1_ := Aside0.mk (Kd.R_below (by (with_reducible repeat (first | apply Kd.R_alloc | apply Kd.R_drewN | apply Kd.R_drew)); exact HO213.out) hb); have n2_ := Aside0.mk (Kd.R_below (by (with_reducible repeat (first | apply Kd.R_alloc | apply Kd.R_drewN | apply Kd.R_drew)); exact HO218.out) hb); have n3_ := Aside0.mk (Kd.R_below (by (with_reducible repeat (first | apply Kd.R_alloc | apply Kd.R_drewN | apply Kd.R_drew)); exact HO221.out) hb); have n4_ := Aside0.mk (Kd.R_below (by (with_reducible repeat (first | apply Kd.R_alloc | apply Kd.R_drewN | apply Kd.R_drew)); exact HO225.out) hb); have n5_ := Aside0.mk (Kd.N_below (by (with_reducible repeat (first | apply Kd.N_alloc | apply Kd.N_drewN | apply Kd.N_drew)); exact HO234.out) hb); have n6_ := Aside0.mk (Kd.N_below (by (with_reducible repeat (first | apply Kd.N_alloc | apply Kd.N_drewN | apply Kd.N_drew)); exact HO238.out) hb); have n7_ := Aside0.mk (Kd.N_below (by (with_reducible repeat (first | apply Kd.N_alloc | apply Kd.N_drewN | apply Kd.N_drew)); exact HO242.out) hb); have n8_ := Aside0.mk (Kd.V_below (by (with_reducible repeat (first | apply Kd.V_alloc | apply Kd.V_drewN | apply Kd.V_drew)); exact HL244_0.out) hb); have n9_ := Aside0.mk (blk_below (g := gb243) (o := .cells #[.int .i64 2, .int .i64 1, .int .i64 5, .int .i64 4] 24 (0, 0)) (by (with_reducible repeat (first | refine blk_drewN ?_ _ | refine blk_drew ?_ | refine blk_alloc ?_ _)); exact BK243.out) hb); have n10_ := Aside0.mk (Kd.C_below (by repeat (first | (with_reducible exact HR244_0.out) | (with_reducible refine Kd.C_alloc ?_ _) | (with_reducible refine Kd.C_drewN ?_ _) | (with_reducible refine Kd.C_drew ?_) | exact HR244_0.out)) hb); have n11_ := Aside0.mk (below_step (by repeat (first | (with_reducible first | exact HB.out | apply below_alloc | apply pw_below_drewN | apply below_drew1 | refine below_set ?_ GE243.out) | exact HB.out)) hb); clear HO210; clear HO213; clear HO218; clear HO221; clear HO225; clear HO234; clear HO238; clear HO242; clear HL244_0; clear BK243; clear HR244_0; clear HB; have HO210 := n0_; have HO213 := n1_; have HO218 := n2_; have HO221 := n3_; have HO225 := n4_; have HO234 := n5_; have HO238 := n6_; have HO242 := n7_; have HL244_0 := n8_; have BK243 := n9_; have HR244_0 := n10_; have HB := n11_; clear n0_ n1_ n2_ n3_ n4_ n5_ n6_ n7_ n8_ n9_ n10_ n11_; (try clear hb); (try clear hb2); (try clear hk); (try clear hi)) | (go_at_call 16; (with_reducible refine (stripe_Blocks.calls 0 0 0 0 t248 _ A22.out).mono ?_); rintro e w59 ⟨rfl, hb⟩; have n0_ := Aside0.mk (Kd.V_below (by (with_reducible repeat (first | apply Kd.V_alloc | apply Kd.V_drewN | apply Kd.V_drew)); exact HO210.out) hb); have n1_ := Aside0.mk (Kd.R_below (by (with_reducible repeat (first | apply Kd.R_alloc | apply Kd.R_drewN | apply Kd.R_drew)); exact HO213.out) hb); have n2_ := Aside0.mk (Kd.R_below (by (with_reducible repeat (first | apply Kd.R_alloc | apply Kd.R_drewN | apply Kd.R_drew)); exact HO218.out) hb); have n3_ := Aside0.mk (Kd.R_below (by (with_reducible repeat (first | apply Kd.R_alloc | apply Kd.R_drewN | apply Kd.R_drew)); exact HO221.out) hb); have n4_ := Aside0.mk (Kd.R_below (by (with_reducible repeat (first | apply Kd.R_alloc | apply Kd.R_drewN | apply Kd.R_drew)); exact HO225.out) hb); have n5_ := Aside0.mk (Kd.N_below (by (with_reducible repeat (first | apply Kd.N_alloc | apply Kd.N_drewN | apply Kd.N_drew)); exact HO234.out) hb); have n6_ := Aside0.mk (Kd.N_below (by (with_reducible repeat (first | apply Kd.N_alloc | apply Kd.N_drewN | apply Kd.N_drew)); exact HO238.out) hb); have n7_ := Aside0.mk (Kd.N_below (by (with_reducible repeat (first | apply Kd.N_alloc | apply Kd.N_drewN | apply Kd.N_drew)); exact HO242.out) hb); have n8_ := Aside0.mk (Kd.V_below (by (with_reducible repeat (first | apply Kd.V_alloc | apply Kd.V_drewN | apply Kd.V_drew)); exact HL244_0.out) hb); have n9_ := Aside0.mk (blk_below (g := gb243) (o := .cells #[.int .i64 2, .int .i64 1, .int .i64 5, .int .i64 4] 24 (0, 0)) (by (with_reducible repeat (first | refine blk_drewN ?_ _ | refine blk_drew ?_ | refine blk_alloc ?_ _)); exact BK243.out) hb); have n10_ := Aside0.mk (Kd.C_below (by repeat (first | (with_reducible exact HR244_0.out) | (with_reducible refine Kd.C_alloc ?_ _) | (with_reducible refine Kd.C_drewN ?_ _) | (with_reducible refine Kd.C_drew ?_) | exact HR244_0.out)) hb); have n11_ := Aside0.mk (below_step (by repeat (first | (with_reducible first | exact HB.out | apply below_alloc | apply pw_below_drewN | apply below_drew1 | refine below_set ?_ GE243.out) | exact HB.out)) hb); clear HO210; clear HO213; clear HO218; clear HO221; clear HO225; clear HO234; clear HO238; clear HO242; clear HL244_0; clear BK243; clear HR244_0; clear HB; have HO210 := n0_; have HO213 := n1_; have HO218 := n2_; have HO221 := n3_; have HO225 := n4_; have HO234 := n5_; have HO238 := n6_; have HO242 := n7_; have HL244_0 := n8_; have BK243 := n9_; have HR244_0 := n10_; have HB := n11_; clear n0_ n1_ n2_ n3_ n4_ n5_ n6_ n7_ n8_ n9_ n10_ n11_; (try clear hb); (try clear hb2); (try clear hk); (try clear hi)))
              go_ret
              exact ⟨by first | rfl | (simp [errW_none, errW_some] <;> rfl) | (simp [*, errW_none, errW_some] <;> rfl), by repeat (first | (with_reducible first | exact HB.out | apply below_alloc | apply pw_below_drewN | apply below_drew1 | refine below_set ?_ GE243.out) | exact HB.out)⟩
             ·rw [if_neg c21] at H
              exact absurd H (by simp)
            ·rw [if_neg c19] at H
             exact absurd H (by simp)
           ·replace c17 := Bool.eq_false_iff.mpr c17
            subst c17
            have H1 : (none) = some r := by rw [if_neg (show ¬ (false = true) by decide)] at H; exact H
            clear H
            have H := H1
            clear H1
            exact absurd H (by simp)
          ·rw [if_neg c15] at H
           exact absurd H (by simp)
         ·rw [if_neg c14] at H
          exact absurd H (by simp)
        ·rw [if_neg c13] at H
         exact absurd H (by simp)
       ·rw [if_neg c12] at H
        exact absurd H (by simp)
      ·rw [if_neg c11] at H
       exact absurd H (by simp)
     ·rw [if_neg c10] at H
      exact absurd H (by simp)
    ·rw [if_neg c9] at H
     exact absurd H (by simp)
   ·rw [if_neg c8] at H
    exact absurd H (by simp)
  ·rw [if_neg c7] at H
   exact absurd H (by simp)
 ·rw [if_neg c6] at H
  exact absurd H (by simp)
end Go.Proofs.Ytcdmgppjhdpgkaa.P
namespace Go.Proofs.Ytcdmgppjhdpgkaa.P
open Go.RowKit Go.Proofs.YtcdmgppjhdpgkaaW.PrintWords Go.Proofs.YtcdmgppjhdpgkaaW.PrintLast Go.Proofs.YtcdmgppjhdpgkaaW.PrintMore
attribute [local go_sem] max2_int min2_int max_two min_two max_three min_three max_four min_four
set_option linter.unusedVariables false
set_option linter.unusedSimpArgs false
def footlockerref01_Same.l0 : Nat → List Int → List Int → Int → Option (Bool)
 | 0, _, _, _ => none
 | k + 1, x0, x1, x5 => if x5 < (x0.length : Int) then (if 0 ≤ x5 then (if x5 < (x1.length : Int) then (if (rd x0 x5) = (rd x1 x5) then (footlockerref01_Same.l0 k x0 x1 (wrap64 (x5 + 1))) else (some false)) else (none)) else (none)) else (some true)
def footlockerref01_Same.f (k : Nat) (l0 : List Int) (l1 : List Int) : Option (Bool) := if (l0.length : Int) = (l1.length : Int) then (footlockerref01_Same.l0 k l0 l1 0) else (some false)
set_option maxHeartbeats 8000000 in
set_option maxRecDepth 100000 in
theorem footlockerref01_Same.calls (k : Nat) (A0 : Option Addr) (c0 : Nat) (l0 : List Int) (A1 : Option Addr) (c1 : Nat) (l1 : List Int) (r : Bool) (w : World) (hr0 : Kd.C (Kd.int .u8) w A0 l0.length l0) (hc0 : l0.length ≤ c0) (hr1 : Kd.C (Kd.int .u8) w A1 l1.length l1) (hc1 : l1.length ≤ c1) (h : footlockerref01_Same.f k l0 l1 = some r) :
 Calls Try.prog 12 #[.slice A0 l0.length c0, .slice A1 l1.length c1] w fun e w' => e = .returned (.bool r) ∧ Drawn0 w w' := by
 have HR0 := Aside0.mk hr0
 have HC0 := Aside0.mk hc0
 clear hr0 hc0
 have HR1 := Aside0.mk hr1
 have HC1 := Aside0.mk hc1
 clear hr1 hc1
 have H : (if (l0.length : Int) = (l1.length : Int) then (footlockerref01_Same.l0 k l0 l1 0) else (some false)) = some r := h
 clear h
 by_cases c3 : (l0.length : Int) = (l1.length : Int)
 ·rw [if_pos c3] at H
  have c3b0 : ((l0.length : Int) == (l1.length : Int)) = true := beq_iff_eq.mpr c3
  have c3b1 : ((l0.length : Int) != (l1.length : Int)) = false := bne_eq_false_iff_eq.mpr c3
  have c3b2 : (l0.length == l1.length) = true := by first | simpa using c3 | (simp at c3 ⊢; omega)
  clear c3
  have H' := Aside0.mk H
  clear H
  go_enter Try.func12, Try.ntmps12
  go_wp2
  repeat (go_quiet (fail); try go_wp2)
  go_loopg [5] k (fun kq v5 w' => ∃ (x5_1 : Int), v5 = .int .i64 x5_1 ∧ Aside0 (footlockerref01_Same.l0 kq l0 l1 x5_1 = some r) ∧ Aside0 (kq ≤ k) ∧ Drawn0 w w')
  case atStart => exact ⟨(0), (by first | rfl | (simp; done) | (simp [*]; done)), H', ⟨Nat.le_refl _⟩, by repeat (first | exact Drawn0.refl _ | apply Drawn0.step)⟩
  case round =>
   clear H'
   try clear c1
   try clear p2
   try clear c3
   try clear c3b0
   try clear c3b1
   try clear c3b2
   obtain ⟨x5_1, rfl, HA, HK1, ⟨m1, rfl⟩⟩ := hrel
   cases gk with
   | zero => exact absurd HA.out (by simp [footlockerref01_Same.l0])
   | succ k1 =>
    have H := HA.out
    clear HA
    simp only [footlockerref01_Same.l0] at H
    by_cases c4 : x5_1 < (l0.length : Int)
    ·rw [if_pos c4] at H
     have c4b0 : decide (x5_1 < (l0.length : Int)) = true := decide_eq_true c4
     clear c4
     by_cases c5 : 0 ≤ x5_1
     ·rw [if_pos c5] at H
      have c5b0 : decide (0 ≤ x5_1) = true := decide_eq_true c5
      clear c5
      by_cases c6 : x5_1 < (l1.length : Int)
      ·rw [if_pos c6] at H
       have c6b0 : decide (x5_1 < (l1.length : Int)) = true := decide_eq_true c6
       clear c6
       by_cases c7 : (rd l0 x5_1) = (rd l1 x5_1)
       ·rw [if_pos c7] at H
        have c7b0 : ((rd l0 x5_1) == (rd l1 x5_1)) = true := beq_iff_eq.mpr c7
        have c7b1 : ((rd l0 x5_1) != (rd l1 x5_1)) = false := bne_eq_false_iff_eq.mpr c7
        clear c7
        have H' := Aside0.mk H
        clear H
        have p275 : 0 ≤ (x5_1 : Int) := of_decide_eq_true (by first | (with_reducible assumption) | assumption)
        have q275 : x5_1 < (l0.length : Int) := of_decide_eq_true (by first | (with_reducible assumption) | assumption)
        obtain ⟨ad275, e275, hx275_0⟩ := Kd.at_int HR0.out x5_1 p275 q275
        cases e275
        replace p275 := eq_true p275
        replace q275 := eq_true q275
        have p276 : 0 ≤ (x5_1 : Int) := of_decide_eq_true (by first | (with_reducible assumption) | assumption)
        have q276 : x5_1 < (l1.length : Int) := of_decide_eq_true (by first | (with_reducible assumption) | assumption)
        obtain ⟨ad276, e276, hx276_0⟩ := Kd.at_int HR1.out x5_1 p276 q276
        cases e276
        replace p276 := eq_true p276
        replace q276 := eq_true q276
        go_wp2
        repeat (go_quiet (fail); try go_wp2)
        go_roundg k1
        case measure => have := HK1.out; omega
        case rel => exact ⟨(wrap64 (x5_1 + 1)), (by first | rfl | (simp; done) | (simp [*]; done)), H', ⟨by have := HK1.out; omega⟩, by repeat (first | exact Drawn0.refl _ | apply Drawn0.step)⟩
       ·rw [if_neg c7] at H
        have c7b0 : ((rd l0 x5_1) == (rd l1 x5_1)) = false := beq_eq_false_iff_ne.mpr c7
        have c7b1 : ((rd l0 x5_1) != (rd l1 x5_1)) = true := bne_iff_ne.mpr c7
        obtain rfl := Option.some.inj H
        have p275 : 0 ≤ (x5_1 : Int) := of_decide_eq_true (by first | (with_reducible assumption) | assumption)
        have q275 : x5_1 < (l0.length : Int) := of_decide_eq_true (by first | (with_reducible assumption) | assumption)
        obtain ⟨ad275, e275, hx275_0⟩ := Kd.at_int HR0.out x5_1 p275 q275
        cases e275
        replace p275 := eq_true p275
        replace q275 := eq_true q275
        have p276 : 0 ≤ (x5_1 : Int) := of_decide_eq_true (by first | (with_reducible assumption) | assumption)
        have q276 : x5_1 < (l1.length : Int) := of_decide_eq_true (by first | (with_reducible assumption) | assumption)
        obtain ⟨ad276, e276, hx276_0⟩ := Kd.at_int HR1.out x5_1 p276 q276
        cases e276
        replace p276 := eq_true p276
        replace q276 := eq_true q276
        go_wp2
        repeat (go_quiet (fail); try go_wp2)
        go_ret
        exact ⟨by first | rfl | (simp; done) | (simp [*]; done), by repeat (first | exact Drawn0.refl _ | apply Drawn0.step)⟩
      ·rw [if_neg c6] at H
       exact absurd H (by simp)
     ·rw [if_neg c5] at H
      exact absurd H (by simp)
    ·rw [if_neg c4] at H
     have c4b0 : decide (x5_1 < (l0.length : Int)) = false := decide_eq_false c4
     clear c4
     obtain rfl := Option.some.inj H
     go_wp2
     repeat (go_quiet (fail); try go_wp2)
     go_ret
     exact ⟨by first | rfl | (simp; done) | (simp [*]; done), by repeat (first | exact Drawn0.refl _ | apply Drawn0.step)⟩
 ·rw [if_neg c3] at H
  have c3b0 : ((l0.length : Int) == (l1.length : Int)) = false := beq_eq_false_iff_ne.mpr c3
  have c3b1 : ((l0.length : Int) != (l1.length : Int)) = true := bne_iff_ne.mpr c3
  have c3b2 : (l0.length == l1.length) = false := by first | simpa using c3 | (simp at c3 ⊢; omega)
  obtain rfl := Option.some.inj H
  go_enter Try.func12, Try.ntmps12
  go_wp2
  repeat (go_quiet (fail); try go_wp2)
  go_ret
  exact ⟨by first | rfl | (simp; done) | (simp [*]; done), by repeat (first | exact Drawn0.refl _ | apply Drawn0.step)⟩
end Go.Proofs.Ytcdmgppjhdpgkaa.P
namespace Go.Proofs.Ytcdmgppjhdpgkaa.P
open Go.RowKit Go.Proofs.YtcdmgppjhdpgkaaW.PrintWords Go.Proofs.YtcdmgppjhdpgkaaW.PrintLast Go.Proofs.YtcdmgppjhdpgkaaW.PrintMore
attribute [local go_sem] max2_int min2_int max_two min_two max_three min_three max_four min_four
set_option linter.unusedVariables false
set_option linter.unusedSimpArgs false
def footlockerref21_Rows.l0 : Nat → List (List Int) → List (List Int) → Int → Option (Bool)
 | 0, _, _, _ => none
 | k + 1, x0, x1, x5 => if x5 < (x0.length : Int) then (if 0 ≤ x5 then (if x5 < (x1.length : Int) then ((footlockerref01_Same.f k (rd_L1 x0 x5) (rd_L1 x1 x5)).bind fun t310 => (if t310 = true then (footlockerref21_Rows.l0 k x0 x1 (wrap64 (x5 + 1))) else (some false))) else (none)) else (none)) else (some true)
def footlockerref21_Rows.f (k : Nat) (l0 : List (List Int)) (l1 : List (List Int)) : Option (Bool) := if (l0.length : Int) = (l1.length : Int) then (footlockerref21_Rows.l0 k l0 l1 0) else (some false)
set_option maxHeartbeats 8000000 in
set_option maxRecDepth 100000 in
theorem footlockerref21_Rows.calls (k : Nat) (A0 : Option Addr) (c0 : Nat) (l0 : List (List Int)) (A1 : Option Addr) (c1 : Nat) (l1 : List (List Int)) (r : Bool) (w : World) (hr0 : Kd.C (Kd.slice 5 (Kd.int .u8)) w A0 l0.length l0) (hc0 : l0.length ≤ c0) (hr1 : Kd.C (Kd.slice 5 (Kd.int .u8)) w A1 l1.length l1) (hc1 : l1.length ≤ c1) (h : footlockerref21_Rows.f k l0 l1 = some r) :
 Calls Try.prog 19 #[.slice A0 l0.length c0, .slice A1 l1.length c1] w fun e w' => e = .returned (.bool r) ∧ Drawn0 w w' := by
 have HR0 := Aside0.mk hr0
 have HC0 := Aside0.mk hc0
 clear hr0 hc0
 have HR1 := Aside0.mk hr1
 have HC1 := Aside0.mk hc1
 clear hr1 hc1
 have H : (if (l0.length : Int) = (l1.length : Int) then (footlockerref21_Rows.l0 k l0 l1 0) else (some false)) = some r := h
 clear h
 by_cases c3 : (l0.length : Int) = (l1.length : Int)
 ·rw [if_pos c3] at H
  have c3b0 : ((l0.length : Int) == (l1.length : Int)) = true := beq_iff_eq.mpr c3
  have c3b1 : ((l0.length : Int) != (l1.length : Int)) = false := bne_eq_false_iff_eq.mpr c3
  have c3b2 : (l0.length == l1.length) = true := by first | simpa using c3 | (simp at c3 ⊢; omega)
  clear c3
  have H' := Aside0.mk H
  clear H
  go_enter Try.func19, Try.ntmps19
  go_wp2
  repeat (go_quiet (fail); try go_wp2)
  go_loopg [5] k (fun kq v5 w' => ∃ (x5_1 : Int), v5 = .int .i64 x5_1 ∧ Aside0 (footlockerref21_Rows.l0 kq l0 l1 x5_1 = some r) ∧ Aside0 (kq ≤ k) ∧ Drawn0 w w')
  case atStart => exact ⟨(0), (by first | rfl | (simp; done) | (simp [*]; done)), H', ⟨Nat.le_refl _⟩, by repeat (first | exact Drawn0.refl _ | apply Drawn0.step)⟩
  case round =>
   clear H'
   try clear c1
   try clear p2
   try clear c3
   try clear c3b0
   try clear c3b1
   try clear c3b2
   obtain ⟨x5_1, rfl, HA, HK1, ⟨m1, rfl⟩⟩ := hrel
   cases gk with
   | zero => exact absurd HA.out (by simp [footlockerref21_Rows.l0])
   | succ k1 =>
    have H := HA.out
    clear HA
    simp only [footlockerref21_Rows.l0] at H
    by_cases c4 : x5_1 < (l0.length : Int)
    ·rw [if_pos c4] at H
     have c4b0 : decide (x5_1 < (l0.length : Int)) = true := decide_eq_true c4
     clear c4
     by_cases c5 : 0 ≤ x5_1
     ·rw [if_pos c5] at H
      have c5b0 : decide (0 ≤ x5_1) = true := decide_eq_true c5
      clear c5
      by_cases c6 : x5_1 < (l1.length : Int)
      ·rw [if_pos c6] at H
       have c6b0 : decide (x5_1 < (l1.length : Int)) = true := decide_eq_true c6
       clear c6
       replace H := Option.bind_eq_some_iff.mp H
       obtain ⟨t310, A70, H⟩ := H
       replace H : (if t310 = true then (footlockerref21_Rows.l0 k1 l0 l1 (wrap64 (x5_1 + 1))) else (some false)) = some r := H
       have A7 := Aside0.mk A70
       clear A70
       by_cases c8 : t310 = true
       ·subst c8
        have H1 : (footlockerref21_Rows.l0 k1 l0 l1 (wrap64 (x5_1 + 1))) = some r := by rw [if_pos rfl] at H; exact H
        clear H
        have H := H1
        clear H1
        have H' := Aside0.mk H
        clear H
        have p308 : 0 ≤ (x5_1 : Int) := of_decide_eq_true (by first | (with_reducible assumption) | assumption)
        have q308 : x5_1 < (l0.length : Int) := of_decide_eq_true (by first | (with_reducible assumption) | assumption)
        obtain ⟨ad308, A308_0, c308_0, e308, hx308_0, hl308_0, hi308_0⟩ := at_L1 HR0.out x5_1 p308 q308
        cases e308
        have HR308_0 := Aside0.mk hi308_0
        have HC308_0 := Aside0.mk hl308_0
        clear hi308_0 hl308_0
        replace p308 := eq_true p308
        replace q308 := eq_true q308
        have p309 : 0 ≤ (x5_1 : Int) := of_decide_eq_true (by first | (with_reducible assumption) | assumption)
        have q309 : x5_1 < (l1.length : Int) := of_decide_eq_true (by first | (with_reducible assumption) | assumption)
        obtain ⟨ad309, A309_0, c309_0, e309, hx309_0, hl309_0, hi309_0⟩ := at_L1 HR1.out x5_1 p309 q309
        cases e309
        have HR309_0 := Aside0.mk hi309_0
        have HC309_0 := Aside0.mk hl309_0
        clear hi309_0 hl309_0
        replace p309 := eq_true p309
        replace q309 := eq_true q309
        go_wp2_with (first | (go_at_call 12; (with_reducible refine (footlockerref01_Same.calls k1 _ _ (rd_L1 l0 x5_1) _ _ (rd_L1 l1 x5_1) true _ ?side1 ?side2 ?side3 ?side4 A7.out).mono ?_); (case side1 => repeat (first | exact HR308_0.out | (with_reducible refine Kd.C_alloc ?_ _) | (with_reducible refine Kd.C_drewN ?_ _) | (with_reducible refine Kd.C_drew ?_))); (case side2 => exact HC308_0.out); (case side3 => repeat (first | exact HR309_0.out | (with_reducible refine Kd.C_alloc ?_ _) | (with_reducible refine Kd.C_drewN ?_ _) | (with_reducible refine Kd.C_drew ?_))); (case side4 => exact HC309_0.out); rintro e w' ⟨rfl, ⟨nd, rfl⟩⟩; (try first | exact ⟨rfl, _, World.drewN_drewN _ _ _⟩ | exact ⟨rfl, _, Eq.trans (World.drewN_drewN _ _ _) (congrArg (World.drewN _) (Nat.add_assoc _ _ _))⟩)))
        repeat (go_quiet (first | (go_at_call 12; (with_reducible refine (footlockerref01_Same.calls k1 _ _ (rd_L1 l0 x5_1) _ _ (rd_L1 l1 x5_1) true _ ?side1 ?side2 ?side3 ?side4 A7.out).mono ?_); (case side1 => repeat (first | exact HR308_0.out | (with_reducible refine Kd.C_alloc ?_ _) | (with_reducible refine Kd.C_drewN ?_ _) | (with_reducible refine Kd.C_drew ?_))); (case side2 => exact HC308_0.out); (case side3 => repeat (first | exact HR309_0.out | (with_reducible refine Kd.C_alloc ?_ _) | (with_reducible refine Kd.C_drewN ?_ _) | (with_reducible refine Kd.C_drew ?_))); (case side4 => exact HC309_0.out); rintro e w' ⟨rfl, ⟨nd, rfl⟩⟩; (try first | exact ⟨rfl, _, World.drewN_drewN _ _ _⟩ | exact ⟨rfl, _, Eq.trans (World.drewN_drewN _ _ _) (congrArg (World.drewN _) (Nat.add_assoc _ _ _))⟩))); try go_wp2_with (first | (go_at_call 12; (with_reducible refine (footlockerref01_Same.calls k1 _ _ (rd_L1 l0 x5_1) _ _ (rd_L1 l1 x5_1) true _ ?side1 ?side2 ?side3 ?side4 A7.out).mono ?_); (case side1 => repeat (first | exact HR308_0.out | (with_reducible refine Kd.C_alloc ?_ _) | (with_reducible refine Kd.C_drewN ?_ _) | (with_reducible refine Kd.C_drew ?_))); (case side2 => exact HC308_0.out); (case side3 => repeat (first | exact HR309_0.out | (with_reducible refine Kd.C_alloc ?_ _) | (with_reducible refine Kd.C_drewN ?_ _) | (with_reducible refine Kd.C_drew ?_))); (case side4 => exact HC309_0.out); rintro e w' ⟨rfl, ⟨nd, rfl⟩⟩; (try first | exact ⟨rfl, _, World.drewN_drewN _ _ _⟩ | exact ⟨rfl, _, Eq.trans (World.drewN_drewN _ _ _) (congrArg (World.drewN _) (Nat.add_assoc _ _ _))⟩))))
        go_roundg k1
        case measure => have := HK1.out; omega
        case rel => exact ⟨(wrap64 (x5_1 + 1)), (by first | rfl | (simp; done) | (simp [*]; done)), H', ⟨by have := HK1.out; omega⟩, by repeat (first | exact Drawn0.refl _ | apply Drawn0.step)⟩
       ·replace c8 := Bool.eq_false_iff.mpr c8
        subst c8
        have H1 : (some false) = some r := by rw [if_neg (show ¬ (false = true) by decide)] at H; exact H
        clear H
        have H := H1
        clear H1
        obtain rfl := Option.some.inj H
        have p308 : 0 ≤ (x5_1 : Int) := of_decide_eq_true (by first | (with_reducible assumption) | assumption)
        have q308 : x5_1 < (l0.length : Int) := of_decide_eq_true (by first | (with_reducible assumption) | assumption)
        obtain ⟨ad308, A308_0, c308_0, e308, hx308_0, hl308_0, hi308_0⟩ := at_L1 HR0.out x5_1 p308 q308
        cases e308
        have HR308_0 := Aside0.mk hi308_0
        have HC308_0 := Aside0.mk hl308_0
        clear hi308_0 hl308_0
        replace p308 := eq_true p308
        replace q308 := eq_true q308
        have p309 : 0 ≤ (x5_1 : Int) := of_decide_eq_true (by first | (with_reducible assumption) | assumption)
        have q309 : x5_1 < (l1.length : Int) := of_decide_eq_true (by first | (with_reducible assumption) | assumption)
        obtain ⟨ad309, A309_0, c309_0, e309, hx309_0, hl309_0, hi309_0⟩ := at_L1 HR1.out x5_1 p309 q309
        cases e309
        have HR309_0 := Aside0.mk hi309_0
        have HC309_0 := Aside0.mk hl309_0
        clear hi309_0 hl309_0
        replace p309 := eq_true p309
        replace q309 := eq_true q309
        go_wp2_with (first | (go_at_call 12; (with_reducible refine (footlockerref01_Same.calls k1 _ _ (rd_L1 l0 x5_1) _ _ (rd_L1 l1 x5_1) false _ ?side1 ?side2 ?side3 ?side4 A7.out).mono ?_); (case side1 => repeat (first | exact HR308_0.out | (with_reducible refine Kd.C_alloc ?_ _) | (with_reducible refine Kd.C_drewN ?_ _) | (with_reducible refine Kd.C_drew ?_))); (case side2 => exact HC308_0.out); (case side3 => repeat (first | exact HR309_0.out | (with_reducible refine Kd.C_alloc ?_ _) | (with_reducible refine Kd.C_drewN ?_ _) | (with_reducible refine Kd.C_drew ?_))); (case side4 => exact HC309_0.out); rintro e w' ⟨rfl, ⟨nd, rfl⟩⟩; (try first | exact ⟨rfl, _, World.drewN_drewN _ _ _⟩ | exact ⟨rfl, _, Eq.trans (World.drewN_drewN _ _ _) (congrArg (World.drewN _) (Nat.add_assoc _ _ _))⟩)))
        repeat (go_quiet (first | (go_at_call 12; (with_reducible refine (footlockerref01_Same.calls k1 _ _ (rd_L1 l0 x5_1) _ _ (rd_L1 l1 x5_1) false _ ?side1 ?side2 ?side3 ?side4 A7.out).mono ?_); (case side1 => repeat (first | exact HR308_0.out | (with_reducible refine Kd.C_alloc ?_ _) | (with_reducible refine Kd.C_drewN ?_ _) | (with_reducible refine Kd.C_drew ?_))); (case side2 => exact HC308_0.out); (case side3 => repeat (first | exact HR309_0.out | (with_reducible refine Kd.C_alloc ?_ _) | (with_reducible refine Kd.C_drewN ?_ _) | (with_reducible refine Kd.C_drew ?_))); (case side4 => exact HC309_0.out); rintro e w' ⟨rfl, ⟨nd, rfl⟩⟩; (try first | exact ⟨rfl, _, World.drewN_drewN _ _ _⟩ | exact ⟨rfl, _, Eq.trans (World.drewN_drewN _ _ _) (congrArg (World.drewN _) (Nat.add_assoc _ _ _))⟩))); try go_wp2_with (first | (go_at_call 12; (with_reducible refine (footlockerref01_Same.calls k1 _ _ (rd_L1 l0 x5_1) _ _ (rd_L1 l1 x5_1) false _ ?side1 ?side2 ?side3 ?side4 A7.out).mono ?_); (case side1 => repeat (first | exact HR308_0.out | (with_reducible refine Kd.C_alloc ?_ _) | (with_reducible refine Kd.C_drewN ?_ _) | (with_reducible refine Kd.C_drew ?_))); (case side2 => exact HC308_0.out); (case side3 => repeat (first | exact HR309_0.out | (with_reducible refine Kd.C_alloc ?_ _) | (with_reducible refine Kd.C_drewN ?_ _) | (with_reducible refine Kd.C_drew ?_))); (case side4 => exact HC309_0.out); rintro e w' ⟨rfl, ⟨nd, rfl⟩⟩; (try first | exact ⟨rfl, _, World.drewN_drewN _ _ _⟩ | exact ⟨rfl, _, Eq.trans (World.drewN_drewN _ _ _) (congrArg (World.drewN _) (Nat.add_assoc _ _ _))⟩))))
        go_ret
        exact ⟨by first | rfl | (simp; done) | (simp [*]; done), by repeat (first | exact Drawn0.refl _ | apply Drawn0.step)⟩
      ·rw [if_neg c6] at H
       exact absurd H (by simp)
     ·rw [if_neg c5] at H
      exact absurd H (by simp)
    ·rw [if_neg c4] at H
     have c4b0 : decide (x5_1 < (l0.length : Int)) = false := decide_eq_false c4
     clear c4
     obtain rfl := Option.some.inj H
     go_wp2
     repeat (go_quiet (fail); try go_wp2)
     go_ret
     exact ⟨by first | rfl | (simp; done) | (simp [*]; done), by repeat (first | exact Drawn0.refl _ | apply Drawn0.step)⟩
 ·rw [if_neg c3] at H
  have c3b0 : ((l0.length : Int) == (l1.length : Int)) = false := beq_eq_false_iff_ne.mpr c3
  have c3b1 : ((l0.length : Int) != (l1.length : Int)) = true := bne_iff_ne.mpr c3
  have c3b2 : (l0.length == l1.length) = false := by first | simpa using c3 | (simp at c3 ⊢; omega)
  obtain rfl := Option.some.inj H
  go_enter Try.func19, Try.ntmps19
  go_wp2
  repeat (go_quiet (fail); try go_wp2)
  go_ret
  exact ⟨by first | rfl | (simp; done) | (simp [*]; done), by repeat (first | exact Drawn0.refl _ | apply Drawn0.step)⟩
end Go.Proofs.Ytcdmgppjhdpgkaa.P
namespace Go.Proofs.Ytcdmgppjhdpgkaa.P
open Go.RowKit Go.Proofs.YtcdmgppjhdpgkaaW.PrintWords Go.Proofs.YtcdmgppjhdpgkaaW.PrintLast Go.Proofs.YtcdmgppjhdpgkaaW.PrintMore
attribute [local go_sem] max2_int min2_int max_two min_two max_three min_three max_four min_four
set_option linter.unusedVariables false
set_option linter.unusedSimpArgs false
mutual
def footlockerlaw23_StripeSums.j0 : Nat → List (List Int) → List (List Int) → Int → Bool → Option (Bool)
 | 0, _, _, _, _ => none
 | k + 1, x0, x1, x2, x45 => if x45 = true then (some true) else (footlockerlaw23_StripeSums.l0 k x0 x1 x2 (([] : List (List Int))) (x0.length : Int) 0)
def footlockerlaw23_StripeSums.l0 : Nat → List (List Int) → List (List Int) → Int → List (List Int) → Int → Int → Option (Bool)
 | 0, _, _, _, _, _, _ => none
 | k + 1, x0, x1, x2, x7, x48, x49 => if x49 < x48 then (if 0 ≤ x49 then (if x49 < (x0.length : Int) then (if ((rd_L1 x0 x49).length : Int) > 40 then (footlockerlaw23_StripeSums.j2 k x0 x1 x2 x7 x49 x48 x49 true) else (if 0 < (x0.length : Int) then (if ((rd_L1 x0 x49).length : Int) = ((rd_L1 x0 0).length : Int) then (if x49 < (x1.length : Int) then (footlockerlaw23_StripeSums.j2 k x0 x1 x2 x7 x49 x48 x49 (((rd_L1 x1 x49).length : Int) != ((rd_L1 x0 0).length : Int))) else (none)) else (footlockerlaw23_StripeSums.j2 k x0 x1 x2 x7 x49 x48 x49 true)) else (none))) else (none)) else (none)) else ((stripe_Parity.f k x0 x2).bind fun bt469 => ((stripe_Parity.f k x1 x2).bind fun bt473 => ((stripe_Parity.f k x7 x2).bind fun bt477 => ((stripe_Parity.f k x0 (wrap64 (x2 - 1))).bind fun bt481 => (if bt469.2 = 0 then (if bt473.2 = 0 then (if bt477.2 = 0 then (if bt481.2 = 0 then (if (bt469.1.length : Int) = x2 then (if (bt473.1.length : Int) = x2 then (if (bt477.1.length : Int) = x2 then (if 0 ≤ (wrap64 (x2 - 1)) then (if (wrap64 (x2 - 1)) ≤ (bt469.1.length : Int) then ((footlockerref21_Rows.f k bt481.1 (bt469.1.take ((wrap64 (x2 - 1)) : Int).toNat)).bind fun t489 => (footlockerlaw23_StripeSums.j4 k bt469.1 bt473.1 bt477.1 (!t489))) else (none)) else (none)) else (footlockerlaw23_StripeSums.j4 k bt469.1 bt473.1 bt477.1 true)) else (footlockerlaw23_StripeSums.j4 k bt469.1 bt473.1 bt477.1 true)) else (footlockerlaw23_StripeSums.j4 k bt469.1 bt473.1 bt477.1 true)) else (footlockerlaw23_StripeSums.j4 k bt469.1 bt473.1 bt477.1 true)) else (footlockerlaw23_StripeSums.j4 k bt469.1 bt473.1 bt477.1 true)) else (footlockerlaw23_StripeSums.j4 k bt469.1 bt473.1 bt477.1 true)) else (footlockerlaw23_StripeSums.j4 k bt469.1 bt473.1 bt477.1 true))))))
def footlockerlaw23_StripeSums.j2 : Nat → List (List Int) → List (List Int) → Int → List (List Int) → Int → Int → Int → Bool → Option (Bool)
 | 0, _, _, _, _, _, _, _, _ => none
 | k + 1, x0, x1, x2, x7, x8, x48, x49, x81 => if x81 = true then (some true) else (if 0 ≤ x8 then (if x8 < (x0.length : Int) then (footlockerlaw23_StripeSums.l1 k x0 x1 x2 x7 x8 (([] : List Int)) x48 x49 ((rd_L1 x0 x8).length : Int) 0) else (none)) else (none))
def footlockerlaw23_StripeSums.l1 : Nat → List (List Int) → List (List Int) → Int → List (List Int) → Int → List Int → Int → Int → Int → Int → Option (Bool)
 | 0, _, _, _, _, _, _, _, _, _, _ => none
 | k + 1, x0, x1, x2, x7, x8, x9, x48, x49, x87, x88 => if x88 < x87 then (if 0 ≤ x8 then (if x8 < (x0.length : Int) then (if 0 ≤ x88 then (if x88 < ((rd_L1 x0 x8).length : Int) then (if x8 < (x1.length : Int) then (if x88 < ((rd_L1 x1 x8).length : Int) then (if x9.length < 140737488355328 then (footlockerlaw23_StripeSums.l1 k x0 x1 x2 x7 x8 (x9 ++ [Go.bits .xor .u8 (rd (rd_L1 x0 x8) x88) (rd (rd_L1 x1 x8) x88)]) x48 x49 x87 (wrap64 (x88 + 1))) else (none)) else (none)) else (none)) else (none)) else (none)) else (none)) else (none)) else (if x7.length < 5864062014805 then (footlockerlaw23_StripeSums.l0 k x0 x1 x2 (x7 ++ [x9]) x48 (wrap64 (x49 + 1))) else (none))
def footlockerlaw23_StripeSums.j4 : Nat → List (List Int) → List (List Int) → List (List Int) → Bool → Option (Bool)
 | 0, _, _, _, _ => none
 | k + 1, x11, x13, x15, x180 => if x180 = true then (some false) else (footlockerlaw23_StripeSums.l2 k x11 x13 x15 (x15.length : Int) 0)
def footlockerlaw23_StripeSums.l2 : Nat → List (List Int) → List (List Int) → List (List Int) → Int → Int → Option (Bool)
 | 0, _, _, _, _, _ => none
 | k + 1, x11, x13, x15, x182, x183 => if x183 < x182 then (if 0 ≤ x183 then (if x183 < (x15.length : Int) then (footlockerlaw23_StripeSums.l3 k x11 x13 x15 x183 x182 x183 ((rd_L1 x15 x183).length : Int) 0) else (none)) else (none)) else (some true)
def footlockerlaw23_StripeSums.l3 : Nat → List (List Int) → List (List Int) → List (List Int) → Int → Int → Int → Int → Int → Option (Bool)
 | 0, _, _, _, _, _, _, _, _ => none
 | k + 1, x11, x13, x15, x19, x182, x183, x190, x191 => if x191 < x190 then (if 0 ≤ x19 then (if x19 < (x15.length : Int) then (if 0 ≤ x191 then (if x191 < ((rd_L1 x15 x19).length : Int) then (if x19 < (x11.length : Int) then (if x191 < ((rd_L1 x11 x19).length : Int) then (if x19 < (x13.length : Int) then (if x191 < ((rd_L1 x13 x19).length : Int) then (if (rd (rd_L1 x15 x19) x191) = (Go.bits .xor .u8 (rd (rd_L1 x11 x19) x191) (rd (rd_L1 x13 x19) x191)) then (footlockerlaw23_StripeSums.l3 k x11 x13 x15 x19 x182 x183 x190 (wrap64 (x191 + 1))) else (some false)) else (none)) else (none)) else (none)) else (none)) else (none)) else (none)) else (none)) else (none)) else (footlockerlaw23_StripeSums.l2 k x11 x13 x15 x182 (wrap64 (x183 + 1)))
end
def footlockerlaw23_StripeSums.f (k : Nat) (l0 : List (List Int)) (l1 : List (List Int)) (a2 : Int) : Option (Bool) := (footlockerlaw23_alive.f k).bind fun t446 => (if t446 = true then (if (l0.length : Int) = 0 then (footlockerlaw23_StripeSums.j0 k l0 l1 a2 true) else (if (l0.length : Int) > 8 then (footlockerlaw23_StripeSums.j0 k l0 l1 a2 true) else (if (l1.length : Int) = (l0.length : Int) then (if a2 < 1 then (footlockerlaw23_StripeSums.j0 k l0 l1 a2 true) else (footlockerlaw23_StripeSums.j0 k l0 l1 a2 (decide (a2 > 6)))) else (footlockerlaw23_StripeSums.j0 k l0 l1 a2 true)))) else (some false))
def footlockerlaw23_StripeSums.T9 : Bool × List (List Nat × List Nat) := (true, [([], []), ([], []), ([0, 1], [0, 1]), ([2], [2]), ([3], [3]), ([4], [4]), ([5], [5]), ([6], [6]), ([6], [6]), ([7, 8, 6], [6, 7, 8]), ([9, 6], [6, 9]), ([10, 6], [6, 10]), ([6], [6]), ([12, 6], [6, 12]), ([13, 6], [6, 13]), ([14, 6], [6, 14]), ([11, 15, 6], [6, 11, 15]), ([6, 16], [6, 16]), ([17, 6], [17]), ([18], [18]), ([18], [18]), ([19, 20, 18], [18, 19, 20]), ([21, 18], [18, 21]), ([22, 18], [18, 22]), ([18], [18]), ([24, 18], [18, 24]), ([25, 18], [18, 25]), ([26, 18], [18, 26]), ([23, 27, 18], [18, 23, 27]), ([18, 28], [18, 28])])
def footlockerlaw23_StripeSums.B9 : List Nat := [0, 0, 3, 7, 15, 31, 63, 127, 127, 511, 1023, 2047, 127, 4223, 12415, 28799, 65535, 131071, 262143, 524287, 524287, 2097151, 4194303, 8388607, 524287, 17301503, 50855935, 117964799, 268435455, 536870911]
theorem footlockerlaw23_StripeSums.tab9 : rtab .any (opsOf Try.f5 9) = footlockerlaw23_StripeSums.T9 := by kernel_rfl
theorem footlockerlaw23_StripeSums.bits9 : waitsOk footlockerlaw23_StripeSums.T9.2 footlockerlaw23_StripeSums.B9 = true := by kernel_rfl
def footlockerlaw23_StripeSums.T15 : Bool × List (List Nat × List Nat) := (true, [([], []), ([], []), ([], []), ([1, 2], [1, 2]), ([3], [3]), ([], []), ([4, 5], [4, 5]), ([6], [6]), ([], []), ([], []), ([8, 9], [8, 9]), ([10], [10]), ([], []), ([11, 12], [11, 12]), ([13], [13]), ([7, 14], [7, 14]), ([15], [15]), ([0, 16], [0, 16]), ([17, 17, 0, 1, 2, 3, 4, 5, 6, 7, 8, 9, 10, 11, 12, 13, 14, 15, 16, 17], [0, 17])])
def footlockerlaw23_StripeSums.B15 : List Nat := [0, 0, 0, 6, 14, 0, 62, 126, 0, 0, 768, 1792, 0, 7936, 16128, 32766, 65534, 131071, 262143]
theorem footlockerlaw23_StripeSums.tab15 : rtab .any (opsOf Try.f5 15) = footlockerlaw23_StripeSums.T15 := by kernel_rfl
theorem footlockerlaw23_StripeSums.bits15 : waitsOk footlockerlaw23_StripeSums.T15.2 footlockerlaw23_StripeSums.B15 = true := by kernel_rfl
def footlockerlaw23_StripeSums.T31 : Bool × List (List Nat × List Nat) := (true, [([], []), ([], []), ([0, 1], [0, 1]), ([2], [2]), ([], []), ([3, 4], [3, 4]), ([5], [5]), ([], []), ([], []), ([7, 8], [7, 8]), ([9], [9]), ([], []), ([10, 11], [10, 11]), ([12], [12]), ([], []), ([], []), ([14, 15], [14, 15]), ([16], [16]), ([], []), ([17, 18], [17, 18]), ([19], [19]), ([13, 20], [13, 20]), ([6, 21], [6, 21])])
def footlockerlaw23_StripeSums.B31 : List Nat := [0, 0, 3, 7, 0, 31, 63, 0, 0, 384, 896, 0, 3968, 8064, 0, 0, 49152, 114688, 0, 507904, 1032192, 2097024, 4194303]
theorem footlockerlaw23_StripeSums.tab31 : rtab .any (opsOf Try.f5 31) = footlockerlaw23_StripeSums.T31 := by kernel_rfl
theorem footlockerlaw23_StripeSums.bits31 : waitsOk footlockerlaw23_StripeSums.T31.2 footlockerlaw23_StripeSums.B31 = true := by kernel_rfl
end Go.Proofs.Ytcdmgppjhdpgkaa.P
