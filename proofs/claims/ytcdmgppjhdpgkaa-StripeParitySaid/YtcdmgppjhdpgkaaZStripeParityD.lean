/- What the statement's proof uses: lemmas, and the program's functions as Lean functions; each theorem states its own conditions. Joined by a program. -/
import Derived.Test.YtcdmgppjhdpgkaaZStripeParityC
namespace Go.Proofs.Ytcdmgppjhdpgkaa.P
open Go.RowKit Go.Proofs.YtcdmgppjhdpgkaaW.PrintWords Go.Proofs.YtcdmgppjhdpgkaaW.PrintLast Go.Proofs.YtcdmgppjhdpgkaaW.PrintMore
set_option linter.unusedVariables false
set_option linter.unusedSimpArgs false
set_option maxHeartbeats 8000000 in
set_option maxRecDepth 100000 in
theorem footlockerref23_Row.calls (k : Nat) (A0 : Option Addr) (c0 : Nat) (l0 : List (List Int)) (a1 : Int) (r : List Int) (w : World) (hr0 : Kd.C (Kd.slice 5 (Kd.int .u8)) w A0 l0.length l0) (hc0 : l0.length ≤ c0) (h : footlockerref23_Row.f k l0 a1 = some r) :
 Calls Try.prog 37 #[.slice A0 l0.length c0, .int .i64 a1] w fun e w' => ∃ v0_ : Value, e = .returned (v0_) ∧ Kd.R (Kd.int .u8) 5 w' w.heap.size (fun _ => True) v0_ r ∧ Below w.heap.size w w' := by
 have HR0 := Aside0.mk hr0
 have HC0 := Aside0.mk hc0
 clear hr0 hc0
 have HB := Aside0.mk (Below.refl w.heap.size w)
 have H : (footlockerref23_Row.l0 k l0 a1 (([] : List Int)) 0) = some r := h
 clear h
 obtain ⟨y401, hy401⟩ : ∃ y_ : List Int, y_ = (([] : List Int)) := ⟨_, rfl⟩
 replace H : (footlockerref23_Row.l0 k l0 a1 y401 0) = some r := by first | (rw [hy401]; with_reducible exact H) | (have H2_ := (Option.bind_some _ _).symm.trans H; rw [hy401]; with_reducible exact H2_) | (have H2_ := (Option.bind_some _ _).symm.trans H; with_reducible exact H2_) | with_reducible exact H | (rw [hy401]; exact H) | exact H
 have Ny401 := Aside0.mk hy401
 clear hy401
 have H' := Aside0.mk H
 clear H
 go_enter Try.func37, Try.ntmps37
 go_wp2_with (first | ((with_reducible refine gate_dst (N := 7) rfl ?_); refine Kd.R_lit (Kd.int .u8) _ 5 ?hg (N := 7) ?hd (xs := ([] : List Int)) (inner := []) (ok := fun _ => True) (okp := fun _ => True) ?hr ?hp (fun _ hk => hk) trivial (Below.refl _ _) (Nat.le_refl _) (by simp) ?_; (case hd => rfl); (case hg => rfl); (case hr => first | (go_simp; done) | (go_simp; rfl)); (case hp => exact (Reps.none _ _)); intro v402 w3 ho4 hb hg_ hnew_; clear hg_ hnew_; (first | rw [← Ny401.out] at ho4 | (simp only [Int.reduceToNat] at ho4; rw [← Ny401.out] at ho4)); have n0_ := Aside0.mk (Kd.R_lower ho4 (below_size (by repeat (first | (with_reducible first | exact HB.out | apply below_alloc | apply pw_below_drewN | apply below_drew1) | exact HB.out)))); have n1_ := Aside0.mk (below_step (by repeat (first | (with_reducible first | exact HB.out | apply below_alloc | apply pw_below_drewN | apply below_drew1) | exact HB.out)) hb); clear HB; have HO403 := n0_; have HB := n1_; clear n0_ n1_; clear hb ho4))
 go_loopg [5, 6] k (fun kq v5 v6 w' => ∃ (x5_1 : List Int) (x6_1 : Int), v6 = .int .i64 x6_1 ∧ Aside0 (footlockerref23_Row.l0 kq l0 a1 x5_1 x6_1 = some r) ∧ Aside0 (kq ≤ k) ∧ Aside0 (Kd.R (Kd.int .u8) 5 w' w.heap.size (fun _ => True) v5 x5_1) ∧ Aside0 (Below w.heap.size w w'))
 case atStart => exact ⟨(y401), (0), (by first | rfl | (simp; done) | (simp [*]; done)), H', ⟨Nat.le_refl _⟩, ⟨by (with_reducible repeat (first | apply Kd.R_alloc | apply Kd.R_drewN | apply Kd.R_drew)); exact HO403.out⟩, ⟨by repeat (first | (with_reducible first | exact HB.out | apply below_alloc | apply pw_below_drewN | apply below_drew1) | exact HB.out)⟩⟩
 case round =>
  clear H'
  try clear p2
  try clear c3
  obtain ⟨x5_1, x6_1, rfl, HA, HK1, HO_5, HB⟩ := hrel
  cases gk with
  | zero => exact absurd HA.out (by simp [footlockerref23_Row.l0])
  | succ k1 =>
   have H := HA.out
   clear HA
   simp only [footlockerref23_Row.l0] at H
   by_cases c5 : x6_1 < (l0.length : Int)
   ·rw [if_pos c5] at H
    have c5b0 : decide (x6_1 < (l0.length : Int)) = true := decide_eq_true c5
    clear c5
    by_cases c6 : 0 ≤ x6_1
    ·rw [if_pos c6] at H
     have c6b0 : decide (0 ≤ x6_1) = true := decide_eq_true c6
     clear c6
     by_cases c7 : 0 ≤ a1
     ·rw [if_pos c7] at H
      have c7b0 : decide (0 ≤ a1) = true := decide_eq_true c7
      clear c7
      by_cases c8 : a1 < ((rd_L1 l0 x6_1).length : Int)
      ·rw [if_pos c8] at H
       have c8b0 : decide (a1 < ((rd_L1 l0 x6_1).length : Int)) = true := decide_eq_true c8
       clear c8
       by_cases c9 : x5_1.length < 140737488355328
       ·rw [if_pos c9] at H
        have LMc9 := Aside0.mk c9
        clear c9
        obtain ⟨y406, hy406⟩ : ∃ y_ : List Int, y_ = (x5_1 ++ [rd (rd_L1 l0 x6_1) a1]) := ⟨_, rfl⟩
        replace H : (footlockerref23_Row.l0 k1 l0 a1 y406 (wrap64 (x6_1 + 1))) = some r := by first | (rw [hy406]; with_reducible exact H) | (have H2_ := (Option.bind_some _ _).symm.trans H; rw [hy406]; with_reducible exact H2_) | (have H2_ := (Option.bind_some _ _).symm.trans H; with_reducible exact H2_) | with_reducible exact H | (rw [hy406]; exact H) | exact H
        have Ny406 := Aside0.mk hy406
        clear hy406
        have H' := Aside0.mk H
        clear H
        have p404 : 0 ≤ (x6_1 : Int) := of_decide_eq_true (by first | (with_reducible assumption) | assumption)
        have q404 : x6_1 < (l0.length : Int) := of_decide_eq_true (by first | (with_reducible assumption) | assumption)
        obtain ⟨ad404, A404_0, c404_0, e404, hx404_0, hl404_0, hi404_0⟩ := at_L1 HR0.out x6_1 p404 q404
        cases e404
        replace hx404_0 := (HB.out.cell (World.block_lt_of_cell? w _ hx404_0)).trans hx404_0
        have HR404_0 := Aside0.mk hi404_0
        have HC404_0 := Aside0.mk hl404_0
        clear hi404_0 hl404_0
        replace p404 := eq_true p404
        replace q404 := eq_true q404
        have p405 : 0 ≤ (a1 : Int) := of_decide_eq_true (by first | (with_reducible assumption) | assumption)
        have q405 : a1 < ((rd_L1 l0 x6_1).length : Int) := of_decide_eq_true (by first | (with_reducible assumption) | assumption)
        obtain ⟨ad405, e405, hx405_0⟩ := Kd.at_int HR404_0.out a1 p405 q405
        cases e405
        replace hx405_0 := (HB.out.cell (World.block_lt_of_cell? w _ hx405_0)).trans hx405_0
        replace p405 := eq_true p405
        replace q405 := eq_true q405
        go_wp2_with (first | ((with_reducible refine gate_builtin (b := .append) (xs := #[.tmp 14, .tmp 22]) rfl ?_); at_builtin; refine Kd.R_append (Kd.int .u8) (w0 := w) w.heap.size rfl (.tmp 14) (.tmp 22) 22 5 (.int .u8 0) 1 rfl Try.underlying22 info5 rfl (by decide) (by omega) u5 x5_1 (rd (rd_L1 l0 x6_1) a1) [.int .u8 (rd (rd_L1 l0 x6_1) a1)] (fun _ => True) (fun _ => False) rfl rfl ?aP (fun _ hk => hk.elim) ?aF ?aO ?aB ?aS ?aL ?_; (case aP => exact rfl); (case aB => exact (by repeat (first | (with_reducible first | exact HB.out | apply below_alloc | apply pw_below_drewN | apply below_drew1) | exact HB.out))); (case aF => exact (fun _ _ => trivial)); (case aO => exact (by (with_reducible repeat (first | apply Kd.R_alloc | apply Kd.R_drewN | apply Kd.R_drew)); exact HO_5.out)); (case aS => exact (below_size (by repeat (first | (with_reducible first | exact HB.out | apply below_alloc | apply pw_below_drewN | apply below_drew1) | exact HB.out)))); (case aL => have := LMc9.out; omega); intro v407 w10 ho hb hg hat; rw [← Ny406.out] at ho; have n0_ := Aside0.mk (hb); have n1_ := Aside0.mk (ho); clear HB; clear HO_5; have HB := n0_; have HO408 := n1_; clear n0_ n1_; clear ho hb hg hat))
        go_roundg k1
        case measure => have := HK1.out; omega
        case rel => exact ⟨(y406), (wrap64 (x6_1 + 1)), (by first | rfl | (simp; done) | (simp [*]; done)), H', ⟨by have := HK1.out; omega⟩, ⟨by (with_reducible repeat (first | apply Kd.R_alloc | apply Kd.R_drewN | apply Kd.R_drew)); exact HO408.out⟩, ⟨by repeat (first | (with_reducible first | exact HB.out | apply below_alloc | apply pw_below_drewN | apply below_drew1) | exact HB.out)⟩⟩
       ·rw [if_neg c9] at H
        exact absurd H (by simp)
      ·rw [if_neg c8] at H
       exact absurd H (by simp)
     ·rw [if_neg c7] at H
      exact absurd H (by simp)
    ·rw [if_neg c6] at H
     exact absurd H (by simp)
   ·rw [if_neg c5] at H
    have c5b0 : decide (x6_1 < (l0.length : Int)) = false := decide_eq_false c5
    clear c5
    obtain rfl := Option.some.inj H
    go_wp2
    go_ret
    exact ⟨_, by first | rfl | (simp [errW_none, errW_some] <;> rfl) | (simp [*, errW_none, errW_some] <;> rfl), by (with_reducible repeat (first | apply Kd.R_alloc | apply Kd.R_drewN | apply Kd.R_drew)); exact HO_5.out, by repeat (first | (with_reducible first | exact HB.out | apply below_alloc | apply pw_below_drewN | apply below_drew1) | exact HB.out)⟩
mutual
def footlockerref23_All.l0 : Nat → List (List Int) → Int → List (List Int) → Int → Option ((List (List Int)))
 | 0, _, _, _, _ => none
 | k + 1, x0, x1, x5, x6 => if x6 < x1 then (if x5.length < 5864062014805 then (footlockerref23_All.l0 k x0 x1 (x5 ++ [(([] : List Int))]) (wrap64 (x6 + 1))) else (none)) else (footlockerref23_All.l1 k x0 x1 x5 0)
def footlockerref23_All.l1 : Nat → List (List Int) → Int → List (List Int) → Int → Option ((List (List Int)))
 | 0, _, _, _, _ => none
 | k + 1, x0, x1, x5, x7 => if 0 < (x0.length : Int) then (if x7 < ((rd_L1 x0 0).length : Int) then ((footlockerref23_Row.f k x0 x7).bind fun t419 => ((footlockerref04_Of.f k t419 x1).bind fun t422 => (footlockerref23_All.l2 k x0 x1 x5 x7 t422 (x0.length : Int)))) else (some x5)) else (none)
def footlockerref23_All.l2 : Nat → List (List Int) → Int → List (List Int) → Int → List Int → Int → Option ((List (List Int)))
 | 0, _, _, _, _, _, _ => none
 | k + 1, x0, x1, x5, x7, x8, x9 => if x9 < (x5.length : Int) then (if 0 ≤ x9 then (if x9 < (x8.length : Int) then (if (rd_L1 x5 x9).length < 140737488355328 then (footlockerref23_All.l2 k x0 x1 (x5.set (x9 : Int).toNat ((rd_L1 x5 x9) ++ [rd x8 x9])) x7 x8 (wrap64 (x9 + 1))) else (none)) else (none)) else (none)) else (footlockerref23_All.l1 k x0 x1 x5 (wrap64 (x7 + 1)))
end
def footlockerref23_All.f (k : Nat) (l0 : List (List Int)) (a1 : Int) : Option ((List (List Int))) := if l0.length < 5864062014805 then footlockerref23_All.l0 k l0 a1 l0 0 else none
def footlockerref23_All.T14 : Bool × List (List Nat × List Nat) := (true, [([], []), ([], []), ([], []), ([], []), ([2, 3], [2, 3]), ([4], [4]), ([], []), ([], []), ([6, 7], [6, 7]), ([8], [8]), ([9], [9]), ([5, 10], [5, 10]), ([0, 1, 0, 1, 2, 3, 4, 5, 6, 7, 8, 9, 10, 11], [0, 1]), ([12, 11, 11, 0, 1, 2, 3, 4, 5, 6, 7, 8, 9, 10, 11], [11, 12])])
def footlockerref23_All.B14 : List Nat := [0, 0, 0, 0, 12, 28, 0, 0, 192, 448, 960, 2044, 4095, 8191]
theorem footlockerref23_All.tab14 : rtab .any (opsOf Try.f20 14) = footlockerref23_All.T14 := by kernel_rfl
theorem footlockerref23_All.bits14 : waitsOk footlockerref23_All.T14.2 footlockerref23_All.B14 = true := by kernel_rfl
def All_ok (n : Nat) (x : List (List Int)) (z : List (Bool × List Int)) : Prop := x = z.map (·.2) ∧ ∀ i, n ≤ i → (z.getD i (true, [])).1 = true
theorem All_ok.start (l : List (List Int)) : All_ok l.length l (l.map (fun x => (false, x))) := by
 refine ⟨by rw [List.map_map]; exact (List.map_id l).symm, fun i hi => ?_⟩
 rw [List.getD_eq_getElem?_getD, List.getElem?_eq_none (by rw [List.length_map]; exact hi)]; rfl
theorem All_ok.len {n : Nat} {x : List (List Int)} {z : List (Bool × List Int)} (h : All_ok n x z) : x.length = z.length := by rw [h.1, List.length_map]
theorem All_ok.snoc {n : Nat} {x y : List (List Int)} {r : List Int} {z : List (Bool × List Int)} (h : All_ok n x z) (hy : y = x ++ [r]) : All_ok n y (z ++ [(true, r)]) := by
 refine ⟨by rw [hy, h.1, List.map_append]; rfl, fun i hi => ?_⟩
 have := h.2 i hi
 rw [List.getD_eq_getElem?_getD] at this ⊢
 by_cases h1 : i < z.length
 ·rw [List.getElem?_append_left h1]; exact this
 ·rw [List.getElem?_append_right (by omega)]
  cases hk : i - z.length with
  | zero => rfl
  | succ m => rfl
theorem All_ok.set {n : Nat} {x y : List (List Int)} {r : List Int} {z : List (Bool × List Int)} {j : Nat} (h : All_ok n x z) (hy : y = x.set j r) : All_ok n y (z.set j (true, r)) := by
 refine ⟨by rw [hy, h.1, List.map_set], fun i hi => ?_⟩
 have := h.2 i hi
 rw [List.getD_eq_getElem?_getD] at this ⊢
 rw [List.getElem?_set]
 split
 ·split <;> rfl
 ·exact this
theorem All_ok.get {n : Nat} {x : List (List Int)} {z : List (Bool × List Int)} {i : Int} (h : All_ok n x z) (hi : (n : Int) ≤ i) : z.getD i.toNat (true, []) = (true, rd_L1 x i) := by
 have h1 := h.2 i.toNat (by omega)
 have h2 : (z.getD i.toNat (true, [])).2 = rd_L1 x i := by
  rw [rd_L1, h.1, List.getD_eq_getElem?_getD, List.getD_eq_getElem?_getD, List.getElem?_map]
  cases z[i.toNat]? <;> rfl
 exact Prod.ext h1 h2
set_option maxHeartbeats 8000000 in
set_option maxRecDepth 100000 in
theorem footlockerref23_All.calls (k : Nat) (P0_ : Nat → Prop) (A0 : Option Addr) (c0 : Nat) (l0 : List (List Int)) (a1 : Int) (r : List (List Int)) (w : World) (hs0 : Kd.V (Kd.slice 5 (Kd.int .u8)) 22 w w.heap.size (fun k_ => P0_ k_) (.slice A0 l0.length c0) l0) (h : footlockerref23_All.f k l0 a1 = some r) :
 Calls Try.prog 20 #[.slice A0 l0.length c0, .int .i64 a1] w fun e w' => ∃ v0_ : Value, e = .returned (v0_) ∧ Kd.V (Kd.slice 5 (Kd.int .u8)) 22 w' w.heap.size (fun k_ => (P0_ k_ ∨ w.heap.size ≤ k_)) v0_ r ∧ Below w.heap.size w w' := by
 have hr0 := (Kd.V_reads' hs0).2.2
 have hc0 := (Kd.V_reads' hs0).2.1
 have HF0 := Aside0.mk (Kd.V_F hs0)
 have HR0 := Aside0.mk hr0
 have HC0 := Aside0.mk hc0
 clear hr0 hc0 hs0
 have HB := Aside0.mk (Below.refl w.heap.size w)
 unfold footlockerref23_All.f at h
 by_cases cL : l0.length < 5864062014805
 case neg => rw [if_neg cL] at h; exact absurd h (by simp)
 rw [if_pos cL] at h
 have HL0 := Aside0.mk cL
 clear cL
 have H' := Aside0.mk h
 clear h
 go_enter Try.func20, Try.ntmps20
 go_wp2_with (first | ((with_reducible refine gate_dst (N := 10) rfl ?_); refine Kd.R_lit (Kd.bare (Mm.mixd 5 w P0_)) _ 22 ?hg (N := 10) ?hd (xs := ([] : List (Bool × List Int))) (inner := []) (ok := fun _ => True) (okp := fun _ => True) ?hr ?hp (fun _ hk => hk) trivial (Below.refl _ _) (Nat.le_refl _) (by simp) ?_; (case hd => rfl); (case hg => rfl); (case hr => first | (go_simp; done) | (go_simp; rfl)); (case hp => exact (Reps.none _ _)); intro v410 w3 ho4 hb hg_ hnew_; clear hg_ hnew_; have n0_ := Aside0.mk (Kd.R_lower ho4 (below_size HB.out)); have n1_ := Aside0.mk (below_step HB.out hb); clear HB; have HO411 := n0_; have HB := n1_; clear n0_ n1_; clear hb ho4) | ((with_reducible refine gate_builtin (b := .append) (xs := #[.tmp 11, .tmp 12]) rfl ?_); at_builtin; refine Kd.R_append_rows (Kd.bare (Mm.mixd 5 w P0_)) (Rr := fun z c => (Kd.bare (Mm.mixd 5 w P0_)).M w3 w.heap.size (fun _ => False) z c) (w0 := w) w.heap.size rfl (.tmp 11) (.tmp 12) 40 22 (.slice none 0 0) 24 rfl Try.underlying40 info22 rfl (show 0 < 1 from by decide) (by omega) v410 ([] : List (Bool × List Int)) (l0.map (fun x => (false, x))) A0 l0.length c0 (fun _ => True) (fun _ => False) rfl rfl HO411.out (Mm.came_rows HF0.out HB.out) (fun _ _ h_ => h_) (fun _ h_ => h_.elim) (fun _ _ => trivial) HB.out (below_size HB.out) (by have := HL0.out; simp only [List.length_nil]; omega) ?_; intro v411 w4 ho hb hg hat; have n0_ := Aside0.mk (Kd.S_bare ho); have n1_ := Aside0.mk hb; clear HB HO411; have HO411 := n0_; have HB := n1_; clear n0_ n1_ ho hb hg hat))
 go_loopg [5, 6] k (fun kq v5 v6 w' => ∃ (z1 : List (Bool × List Int)) (x5_1 : List (List Int)) (x6_1 : Int), v6 = .int .i64 x6_1 ∧ Aside0 (footlockerref23_All.l0 kq l0 a1 x5_1 x6_1 = some r) ∧ Aside0 (kq ≤ k) ∧ Aside0 (All_ok l0.length x5_1 z1) ∧ Aside0 (Kd.S (Mm.mixd 5 w P0_) 22 w' w.heap.size (fun _ => True) v5 z1) ∧ Aside0 (Below w.heap.size w w'))
 case atStart => exact ⟨_, l0, (0), (by first | rfl | (simp; done) | (simp [*]; done)), H', ⟨Nat.le_refl _⟩, ⟨All_ok.start l0⟩, ⟨by (with_reducible repeat (first | apply Kd.S_alloc | apply Kd.S_drewN | apply Kd.S_drew)); exact HO411.out⟩, ⟨by repeat (first | (with_reducible first | exact HB.out | apply below_alloc | apply pw_below_drewN | apply below_drew1) | exact HB.out)⟩⟩
 case round =>
  clear H'
  try clear c2
  try clear p2
  obtain ⟨z1, x5_1, x6_1, rfl, HA, HK1, HZ, HO_5, HB⟩ := hrel
  cases gk with
  | zero => exact absurd HA.out (by simp [footlockerref23_All.l0])
  | succ k1 =>
   have H := HA.out
   clear HA
   simp only [footlockerref23_All.l0] at H
   by_cases c5 : x6_1 < a1
   ·rw [if_pos c5] at H
    have c5b0 : decide (x6_1 < a1) = true := decide_eq_true c5
    clear c5
    obtain ⟨y412, hy412⟩ : ∃ y_ : List Int, y_ = (([] : List Int)) := ⟨_, rfl⟩
    replace H : (if x5_1.length < 5864062014805 then (footlockerref23_All.l0 k1 l0 a1 (x5_1 ++ [y412]) (wrap64 (x6_1 + 1))) else (none)) = some r := by first | (rw [hy412]; with_reducible exact H) | (have H2_ := (Option.bind_some _ _).symm.trans H; rw [hy412]; with_reducible exact H2_) | (have H2_ := (Option.bind_some _ _).symm.trans H; with_reducible exact H2_) | with_reducible exact H | (rw [hy412]; exact H) | exact H
    have Ny412 := Aside0.mk hy412
    clear hy412
    by_cases c6 : x5_1.length < 5864062014805
    ·rw [if_pos c6] at H
     have LMc6 := Aside0.mk c6
     clear c6
     obtain ⟨y415, hy415⟩ : ∃ y_ : List (List Int), y_ = (x5_1 ++ [y412]) := ⟨_, rfl⟩
     replace H : (footlockerref23_All.l0 k1 l0 a1 y415 (wrap64 (x6_1 + 1))) = some r := by first | (rw [hy415]; with_reducible exact H) | (have H2_ := (Option.bind_some _ _).symm.trans H; rw [hy415]; with_reducible exact H2_) | (have H2_ := (Option.bind_some _ _).symm.trans H; with_reducible exact H2_) | with_reducible exact H | (rw [hy415]; exact H) | exact H
     have Ny415 := Aside0.mk hy415
     clear hy415
     have H' := Aside0.mk H
     clear H
     go_wp2_with (first | ((with_reducible refine gate_dst (N := 20) rfl ?_); refine Kd.R_lit (Kd.int .u8) _ 5 ?hg (N := 20) ?hd (xs := ([] : List Int)) (inner := []) (ok := fun _ => True) (okp := fun _ => True) ?hr ?hp (fun _ hk => hk) trivial (Below.refl _ _) (Nat.le_refl _) (by simp) ?_; (case hd => rfl); (case hg => rfl); (case hr => first | (go_simp; done) | (go_simp; rfl)); (case hp => exact (Reps.none _ _)); intro v413 w7 ho8 hb hg_ hnew_; clear hg_ hnew_; (first | rw [← Ny412.out] at ho8 | (simp only [Int.reduceToNat] at ho8; rw [← Ny412.out] at ho8)); have n0_ := Aside0.mk (Kd.S_elder' (by (with_reducible repeat (first | apply Kd.S_alloc | apply Kd.S_drewN | apply Kd.S_drew)); exact HO_5.out) (Kd.R_base ho8) hb); have n1_ := Aside0.mk (Kd.R_lower ho8 (below_size (by repeat (first | (with_reducible first | exact HB.out | apply below_alloc | apply pw_below_drewN | apply below_drew1) | exact HB.out)))); have n2_ := Aside0.mk (below_step (by repeat (first | (with_reducible first | exact HB.out | apply below_alloc | apply pw_below_drewN | apply below_drew1) | exact HB.out)) hb); clear HO_5; clear HB; have HO_5 := n0_; have HO414 := n1_; have HB := n2_; clear n0_ n1_ n2_; clear hb ho8; obtain ⟨Ao10, co10, eo10⟩ := Kd.R_slice HO414.out; subst eo10) | ((with_reducible refine gate_builtin (b := .append) (xs := #[.tmp 19, .tmp 21]) rfl ?_); at_builtin; refine Kd.S_append (Mm.mixd 5 w P0_) (w0 := w) w.heap.size rfl (.tmp 19) (.tmp 21) 40 22 (.slice none 0 0) 24 rfl Try.underlying40 info22 rfl (show 0 < 1 from by decide) (by omega) u5 z1 (true, y412) [.slice Ao10 y412.length co10] (fun _ => True) (fun k_ => some k_ = (.slice Ao10 y412.length co10 : Value).ownBlock) rfl rfl ?aP (fun k_ hk_ => ((Kd.R_mono (ok' := fun k_ => ((fun _ => True)) k_ ∧ some k_ ≠ (u5 : Value).ownBlock) (Kd.R_apart' (HO414.out) (Kd.S_typed HO_5.out) (by decide)) (fun k_ hk => ⟨trivial, hk.2⟩))).1 k_ hk_.symm) ?aF ?aO ?aB ?aS ?aL ?_; (case aP => exact Kd.M_row (Kd.R_mono (Kd.R_tight rfl (Kd.R_mono (ok' := fun k_ => ((fun _ => True)) k_ ∧ some k_ ≠ (u5 : Value).ownBlock) (Kd.R_apart' (HO414.out) (Kd.S_typed HO_5.out) (by decide)) (fun k_ hk => ⟨trivial, hk.2⟩))) (fun _ h_ => h_))); (case aB => exact (by repeat (first | (with_reducible first | exact HB.out | apply below_alloc | apply pw_below_drewN | apply below_drew1) | exact HB.out))); (case aF => exact (fun _ _ => trivial)); (case aO => exact (by (with_reducible repeat (first | apply Kd.S_alloc | apply Kd.S_drewN | apply Kd.S_drew)); exact Kd.S_mono HO_5.out (fun k_ hk => ⟨trivial, fun e_ => hk.2 e_⟩))); (case aS => exact (below_size (by repeat (first | (with_reducible first | exact HB.out | apply below_alloc | apply pw_below_drewN | apply below_drew1) | exact HB.out)))); (case aL => have := LMc6.out; have := HZ.out.len; omega); intro v416 w9 ho hb hg hat; have n0_ := Aside0.mk (hb); have n1_ := Aside0.mk (ho); clear HB; clear HO_5; clear HO414; have HB := n0_; have HO417 := n1_; clear n0_ n1_; clear ho hb hg hat))
     go_roundg k1
     case measure => have := HK1.out; omega
     case rel => exact ⟨_, (y415), (wrap64 (x6_1 + 1)), (by first | rfl | (simp; done) | (simp [*]; done)), H', ⟨by have := HK1.out; omega⟩, ⟨HZ.out.snoc Ny415.out⟩, ⟨by (with_reducible repeat (first | apply Kd.S_alloc | apply Kd.S_drewN | apply Kd.S_drew)); exact HO417.out⟩, ⟨by repeat (first | (with_reducible first | exact HB.out | apply below_alloc | apply pw_below_drewN | apply below_drew1) | exact HB.out)⟩⟩
    ·rw [if_neg c6] at H
     exact absurd H (by simp)
   ·rw [if_neg c5] at H
    have c5b0 : decide (x6_1 < a1) = false := decide_eq_false c5
    clear c5
    have H' := Aside0.mk H
    clear H
    go_wp2
    go_loopg [7] k1 (fun kq v7 w' => ∃ (z2 : List (Bool × List Int)) (x5_2 : List (List Int)) (x7_2 : Int), v7 = .int .i64 x7_2 ∧ Aside0 (footlockerref23_All.l1 kq l0 a1 x5_2 x7_2 = some r) ∧ Aside0 (kq ≤ k1) ∧ Aside0 (All_ok l0.length x5_2 z2) ∧ Aside0 (Kd.S (Mm.mixd 5 w P0_) 22 w' w.heap.size (fun _ => True) u5 z2) ∧ Aside0 (Below w.heap.size w w'))
    case atStart => exact ⟨z1, (x5_1), (0), (by first | rfl | (simp; done) | (simp [*]; done)), H', ⟨Nat.le_refl _⟩, HZ, ⟨by (with_reducible repeat (first | apply Kd.S_alloc | apply Kd.S_drewN | apply Kd.S_drew)); exact HO_5.out⟩, ⟨by repeat (first | (with_reducible first | exact HB.out | apply below_alloc | apply pw_below_drewN | apply below_drew1) | exact HB.out)⟩⟩
    case round =>
     clear H'
     try clear c2
     try clear p2
     try clear c5
     try clear c5b0
     try clear c6
     try clear p6
     try clear p2
     obtain ⟨z2, x5_2, x7_2, rfl, HA, HK2, HZ, HO_5, HB⟩ := hrel
     cases gk with
     | zero => exact absurd HA.out (by simp [footlockerref23_All.l1])
     | succ k2 =>
      have H := HA.out
      clear HA
      simp only [footlockerref23_All.l1] at H
      by_cases c11 : 0 < (l0.length : Int)
      ·rw [if_pos c11] at H
       have c11b0 : decide (0 < (l0.length : Int)) = true := decide_eq_true c11
       have c11b1 : decide (0 < l0.length) = true := decide_eq_true (by omega)
       clear c11
       by_cases c12 : x7_2 < ((rd_L1 l0 0).length : Int)
       ·rw [if_pos c12] at H
        have c12b0 : decide (x7_2 < ((rd_L1 l0 0).length : Int)) = true := decide_eq_true c12
        clear c12
        replace H := Option.bind_eq_some_iff.mp H
        obtain ⟨t419, A130, H⟩ := H
        replace H : ((footlockerref04_Of.f k2 t419 a1).bind fun t422 => (footlockerref23_All.l2 k2 l0 a1 x5_2 x7_2 t422 (l0.length : Int))) = some r := H
        have A13 := Aside0.mk A130
        clear A130
        replace H := Option.bind_eq_some_iff.mp H
        obtain ⟨t422, A140, H⟩ := H
        replace H : (footlockerref23_All.l2 k2 l0 a1 x5_2 x7_2 t422 (l0.length : Int)) = some r := H
        have A14 := Aside0.mk A140
        clear A140
        have H' := Aside0.mk H
        clear H
        have p418 : 0 ≤ (0 : Int) := (by omega)
        have q418 : 0 < (l0.length : Int) := of_decide_eq_true (by first | (with_reducible assumption) | assumption)
        obtain ⟨ad418, A418_0, c418_0, e418, hx418_0, hl418_0, hi418_0⟩ := at_L1 HR0.out 0 p418 q418
        cases e418
        have qi418 : (0 < l0.length) = True := eq_true (by omega)
        (try rw [show ((0 : Int)).toNat = 0 from rfl] at hx418_0)
        (try rw [Addr.add_zero'] at hx418_0)
        replace hx418_0 := (HB.out.cell (World.block_lt_of_cell? w _ hx418_0)).trans hx418_0
        have HR418_0 := Aside0.mk hi418_0
        have HC418_0 := Aside0.mk hl418_0
        clear hi418_0 hl418_0
        replace p418 := eq_true p418
        replace q418 := eq_true q418
        go_wp2_with (first | ((with_reducible refine gate_callee (f := 37) rfl ?_); refine goesL_ (some 33) rfl rfl Try.func37 (by kernel_rfl) rfl #[.slice (some ad418) l0.length c0, .int .i64 x7_2] rfl (by (try simp only [List.map_toArray, List.map_cons, List.map_nil]); first | done | rfl | (simp only [List.length_drop, List.length_take]; rfl)) ?_; (with_reducible refine (footlockerref23_Row.calls k2 _ _ l0 x7_2 t419 _ ?side1 ?side2 A13.out).mono ?_); (case side1 => repeat (first | exact (Kd.C_below HR0.out HB.out) | (with_reducible refine Kd.C_alloc ?_ _) | (with_reducible refine Kd.C_drewN ?_ _) | (with_reducible refine Kd.C_drew ?_))); (case side2 => exact HC0.out); rintro e w15 ⟨v420, rfl, ho0, hb⟩; refine ⟨_, rfl, ?_⟩; have n0_ := Aside0.mk (Kd.S_elder' (by (with_reducible repeat (first | apply Kd.S_alloc | apply Kd.S_drewN | apply Kd.S_drew)); exact HO_5.out) (Kd.R_base ho0) hb); have n1_ := Aside0.mk (Kd.R_lower ho0 (below_size (by repeat (first | (with_reducible first | exact HB.out | apply below_alloc | apply pw_below_drewN | apply below_drew1) | exact HB.out)))); have n2_ := Aside0.mk (below_step (by repeat (first | (with_reducible first | exact HB.out | apply below_alloc | apply pw_below_drewN | apply below_drew1) | exact HB.out)) hb); clear HO_5; clear HB; have HO_5 := n0_; have HO421 := n1_; have HB := n2_; clear n0_ n1_ n2_; (try clear hb); (try clear hb2); (try clear hk); (try clear hi); (try clear ho0); obtain ⟨Ao16, co16, eo16⟩ := Kd.R_slice HO421.out; subst eo16) | ((with_reducible refine gate_callee (f := 36) rfl ?_); refine goesL_ (some 35) rfl rfl Try.func36 (by kernel_rfl) rfl #[.slice Ao16 t419.length co16, .int .i64 a1] rfl (by (try simp only [List.map_toArray, List.map_cons, List.map_nil]); first | done | rfl | (simp only [List.length_drop, List.length_take]; rfl)) ?_; (with_reducible refine (footlockerref04_Of.calls k2 _ _ t419 a1 t422 _ ?side1 ?side2 A14.out).mono ?_); (case side1 => repeat (first | exact (Kd.R_reads' HO421.out).2.2 | (with_reducible refine Kd.C_alloc ?_ _) | (with_reducible refine Kd.C_drewN ?_ _) | (with_reducible refine Kd.C_drew ?_))); (case side2 => exact (Kd.R_reads' HO421.out).2.1); rintro e w17 ⟨v423, rfl, ho0, hb⟩; refine ⟨_, rfl, ?_⟩; have n0_ := Aside0.mk (Kd.S_elder' (by (with_reducible repeat (first | apply Kd.S_alloc | apply Kd.S_drewN | apply Kd.S_drew)); exact HO_5.out) (Kd.R_base ho0) hb); have n1_ := Aside0.mk (Kd.R_elder' (by (with_reducible repeat (first | apply Kd.R_alloc | apply Kd.R_drewN | apply Kd.R_drew)); exact HO421.out) (Kd.R_base ho0) hb); have n2_ := Aside0.mk (Kd.R_lower (Kd.R_new' ho0 (Kd.R_lt (by (with_reducible repeat (first | apply Kd.R_alloc | apply Kd.R_drewN | apply Kd.R_drew)); exact HO421.out))) (below_size (by repeat (first | (with_reducible first | exact HB.out | apply below_alloc | apply pw_below_drewN | apply below_drew1) | exact HB.out)))); have n3_ := Aside0.mk (below_step (by repeat (first | (with_reducible first | exact HB.out | apply below_alloc | apply pw_below_drewN | apply below_drew1) | exact HB.out)) hb); clear HO_5; clear HO421; clear HB; have HO_5 := n0_; have HO421 := n1_; have HO424 := n2_; have HB := n3_; clear n0_ n1_ n2_ n3_; (try clear hb); (try clear hb2); (try clear hk); (try clear hi); (try clear ho0)))
        go_loopg [9] k2 (fun kq v9 w' => ∃ (z3 : List (Bool × List Int)) (x5_3 : List (List Int)) (x9_3 : Int), v9 = .int .i64 x9_3 ∧ Aside0 (footlockerref23_All.l2 kq l0 a1 x5_3 x7_2 t422 x9_3 = some r) ∧ Aside0 (kq ≤ k2) ∧ Aside0 (All_ok l0.length x5_3 z3) ∧ Aside0 ((l0.length : Int) ≤ x9_3) ∧ Aside0 (Kd.S (Mm.mixd 5 w P0_) 22 w' w.heap.size (fun k_ => some k_ ≠ (v423 : Value).ownBlock) u5 z3) ∧ Aside0 (Kd.R (Kd.int .u8) 5 w' w.heap.size (fun _ => True) v423 t422) ∧ Aside0 (Below w.heap.size w w'))
        case atStart => exact ⟨z2, (x5_2), ((l0.length : Int)), (by first | rfl | (simp; done) | (simp [*]; done)), H', ⟨Nat.le_refl _⟩, HZ, ⟨Int.le_refl _⟩, ⟨by (with_reducible repeat (first | apply Kd.S_alloc | apply Kd.S_drewN | apply Kd.S_drew)); exact Kd.S_mono HO_5.out (fun _ hk => hk.2)⟩, ⟨by (with_reducible repeat (first | apply Kd.R_alloc | apply Kd.R_drewN | apply Kd.R_drew)); exact Kd.R_mono HO424.out (fun _ hk => trivial)⟩, ⟨by repeat (first | (with_reducible first | exact HB.out | apply below_alloc | apply pw_below_drewN | apply below_drew1) | exact HB.out)⟩⟩
        case round =>
         clear H'
         try clear c1
         try clear c2
         try clear p2
         try clear c3
         try clear c4
         try clear p4
         try clear q4
         try clear hx4
         try clear qi4
         try clear c5
         try clear c5b0
         try clear c6
         try clear p6
         try clear c11
         try clear c11b0
         try clear c11b1
         try clear c12
         try clear c12b0
         try clear hx418_0
         try clear p2
         try clear p418
         try clear p6
         try clear q418
         obtain ⟨z3, x5_3, x9_3, rfl, HA, HK3, HZ, HX9, HO_5, HO_8, HB⟩ := hrel
         cases gk with
         | zero => exact absurd HA.out (by simp [footlockerref23_All.l2])
         | succ k3 =>
          have H := HA.out
          clear HA
          simp only [footlockerref23_All.l2] at H
          rw [HZ.out.len] at H
          by_cases c18 : x9_3 < (z3.length : Int)
          ·rw [if_pos c18] at H
           have c18b0 : decide (x9_3 < (z3.length : Int)) = true := decide_eq_true c18
           clear c18
           by_cases c19 : 0 ≤ x9_3
           ·rw [if_pos c19] at H
            have c19b0 : decide (0 ≤ x9_3) = true := decide_eq_true c19
            clear c19
            by_cases c20 : x9_3 < (t422.length : Int)
            ·rw [if_pos c20] at H
             have c20b0 : decide (x9_3 < (t422.length : Int)) = true := decide_eq_true c20
             clear c20
             by_cases c21 : (rd_L1 x5_3 x9_3).length < 140737488355328
             ·rw [if_pos c21] at H
              have LMc21 := Aside0.mk c21
              clear c21
              obtain ⟨y427, hy427⟩ : ∃ y_ : List Int, y_ = ((rd_L1 x5_3 x9_3) ++ [rd t422 x9_3]) := ⟨_, rfl⟩
              replace H : (footlockerref23_All.l2 k3 l0 a1 (x5_3.set (x9_3 : Int).toNat y427) x7_2 t422 (wrap64 (x9_3 + 1))) = some r := by first | (rw [hy427]; with_reducible exact H) | (have H2_ := (Option.bind_some _ _).symm.trans H; rw [hy427]; with_reducible exact H2_) | (have H2_ := (Option.bind_some _ _).symm.trans H; with_reducible exact H2_) | with_reducible exact H | (rw [hy427]; exact H) | exact H
              have Ny427 := Aside0.mk hy427
              clear hy427
              obtain ⟨y430, hy430⟩ : ∃ y_ : List (List Int), y_ = (x5_3.set (x9_3 : Int).toNat y427) := ⟨_, rfl⟩
              replace H : (footlockerref23_All.l2 k3 l0 a1 y430 x7_2 t422 (wrap64 (x9_3 + 1))) = some r := by first | (rw [hy430]; with_reducible exact H) | (have H2_ := (Option.bind_some _ _).symm.trans H; rw [hy430]; with_reducible exact H2_) | (have H2_ := (Option.bind_some _ _).symm.trans H; with_reducible exact H2_) | with_reducible exact H | (rw [hy430]; exact H) | exact H
              have Ny430 := Aside0.mk hy430
              clear hy430
              have H' := Aside0.mk H
              clear H
              obtain ⟨Ao23, co23, eo23⟩ := Kd.S_slice HO_5.out
              subst eo23
              try go_wp2
              have n0_ := Aside0.mk (Kd.S_drew HO_5.out)
              have n1_ := Aside0.mk (Kd.R_drew HO_8.out)
              have n2_ := Aside0.mk (below_drew1 HB.out)
              clear HO_5
              clear HO_8
              clear HB
              have HO_5 := n0_
              have HO_8 := n1_
              have HB := n2_
              clear n0_ n1_ n2_
              have p425 : 0 ≤ (x9_3 : Int) := of_decide_eq_true (by first | (with_reducible assumption) | assumption)
              have q425 : x9_3 < (z3.length : Int) := of_decide_eq_true (by first | (with_reducible assumption) | assumption)
              obtain ⟨ad425, A425_0, c425_0, e425, hx425_0, hl425_0, hi425_0⟩ := at_L1 (show Kd.C (Kd.slice 5 (Kd.int .u8)) _ _ _ x5_3 from by rw [HZ.out.1]; exact Mm.mixd_C (Kd.S_reads' HO_5.out).2.2 (fun k_ _ hk_ => HB.out.block k_ hk_)) x9_3 p425 q425
              cases e425
              obtain ⟨ce425, hce425, hMe425, hcc425⟩ := Kd.S_get HO_5.out (true, []) x9_3 p425 (by first | exact q425 | exact of_decide_eq_true (by first | (with_reducible assumption) | assumption) | (have e_ := (Kd.S_reads' HO_5.out).1; omega))
              rw [HZ.out.get HX9.out] at hMe425
              obtain ⟨ve425_0, rfl, ge425_0⟩ := (show (Kd.slice 5 (Kd.int .u8)).M _ _ _ _ _ from hMe425)
              have hv425_0 := hcc425 0 _ rfl
              rw [Nat.add_zero, show (Mm.mixd 5 w P0_).sz = 1 from rfl, Nat.mul_one] at hv425_0
              replace hv425_0 := Option.some.inj (hv425_0.symm.trans hx425_0)
              rw [hv425_0] at ge425_0
              have HL425_0 := Aside0.mk (show Kd.R (Kd.int .u8) 5 _ _ _ _ (rd_L1 x5_3 x9_3) from ge425_0)
              clear hv425_0 ge425_0
              have HX425_0 := Aside0.mk hx425_0
              clear hcc425 hce425
              have HR425_0 := Aside0.mk hi425_0
              have HC425_0 := Aside0.mk hl425_0
              clear hi425_0 hl425_0
              replace p425 := eq_true p425
              replace q425 := eq_true q425
              obtain ⟨Ao25, co25, eo25⟩ := Kd.R_slice HO_8.out
              (first | subst eo25 | (injection eo25 with f1_ f2_ f3_; have f4_ := f1_.symm; have f5_ := f3_.symm; clear f1_ f2_ f3_; subst f4_; subst f5_))
              have p426 : 0 ≤ (x9_3 : Int) := of_decide_eq_true (by first | (with_reducible assumption) | assumption)
              have q426 : x9_3 < (t422.length : Int) := of_decide_eq_true (by first | (with_reducible assumption) | assumption)
              obtain ⟨ad426, e426, hx426_0⟩ := Kd.at_int (Kd.R_reads' HO_8.out).2.2 x9_3 p426 q426
              cases e426
              replace p426 := eq_true p426
              replace q426 := eq_true q426
              obtain ⟨go26, co26, eo26, gb26, gl26, cl26, HG26⟩ := Kd.S_form HO_5.out (by have h_ : (x9_3 : Int) < ((z3.length : Int) : Int) := of_decide_eq_true (by first | (with_reducible assumption) | assumption); have h2_ : 0 ≤ (x9_3 : Int) := (of_decide_eq_true (by first | (with_reducible assumption) | assumption)); omega)
              (first | cases eo26 | (injection eo26 with ea_ en_ ec_; (first | subst ea_ | (injection ea_ with ea_; subst ea_)); subst ec_; clear en_))
              have GB26 := Aside0.mk gb26
              have GG26 := Aside0.mk HG26
              clear gb26 gl26 HG26
              (first | simp only [add_plain] at hx425_0 | skip)
              obtain ⟨oki26, ce26, hcl26, hM26, hcc26, _, _, hH26⟩ := Kd.S_elem HO_5.out (true, []) (x9_3 : Int) (of_decide_eq_true (by first | (with_reducible assumption) | assumption)) (by have h_ : (x9_3 : Int) < ((z3.length : Int) : Int) := of_decide_eq_true (by first | (with_reducible assumption) | assumption); first | exact h_ | (have e_ := (Kd.S_reads' HO_5.out).1; omega) | simpa using h_)
              rw [HZ.out.get HX9.out] at hM26
              obtain ⟨ve26_0, rfl, ge26_0⟩ := (show (Kd.slice 5 (Kd.int .u8)).M _ _ _ _ _ from hM26)
              have hv26 := hcc26 0 _ rfl
              have hX26 := HX425_0.out
              (try simp only [add_plain] at hX26)
              (try simp only [Nat.add_zero] at hv26)
              (try rw [show (Mm.mixd 5 w P0_).sz = 1 from rfl, Nat.mul_one] at hv26)
              replace hv26 := Option.some.inj (hv26.symm.trans hX26)
              subst hv26
              clear hX26 hcc26 hcl26
              have UU26 := Aside0.mk (show Kd.R (Kd.int .u8) 5 _ w.heap.size oki26 (.slice A425_0 (rd_L1 x5_3 x9_3).length c425_0) (rd_L1 x5_3 x9_3) from ge26_0)
              have HH26 := Aside0.mk hH26
              have HN26 := Aside0.mk (Kd.S_reads' HO_5.out).1
              clear hH26 ge26_0
              refine start_ (n := 14) (S := fun w' => w'.cell? ⟨go26, (x9_3).toNat, none⟩ = some (.slice A425_0 (rd_L1 x5_3 x9_3).length c425_0) ∧ w'.cell? (ad426.add (x9_3).toNat) = some (.int .u8 (rd t422 x9_3))) (ds := [11, 13]) #[false, false, false, false, false, false, false, false, false, false, false, false, false, false] (by kernel_rfl) rfl rfl ⟨hx425_0, hx426_0⟩ (fun hHeld => ?_); refine with_tabW footlockerref23_All.tab14 footlockerref23_All.bits14 (fun HT_ HW_ => ?_)
              generalize wr.drew = w24 at HO_5 HO_8 HB GG26 HH26 HL425_0 HR425_0 HX425_0 UU26 hx425_0 hx426_0 hHeld ⊢
              refine pure_ (i := 0) (N := some 44) (v := ?_) (a' := ?_) #[true, false, false, false, false, false, false, false, false, false, false, false, false, false] rfl rfl (any_of HT_.out (by kernel_rfl)) (fun _ _ _ h => h) (Or.inl ⟨by rfl, ?_⟩) ?_ ?_
              rotate_left
              ·intro w'
               go_simp
               with_reducible rfl
              rotate_left
              ·simp only [Act.put, List.setIfInBounds_toArray, List.set_cons_zero, List.set_cons_succ, i64_w, i32_w]
               rfl
              refine pure_ (i := 1) (N := some 45) (v := ?_) (a' := ?_) #[true, true, false, false, false, false, false, false, false, false, false, false, false, false] rfl rfl (any_of HT_.out (by kernel_rfl)) (fun _ _ _ h => h) (Or.inl ⟨by rfl, ?_⟩) ?_ ?_
              rotate_left
              ·intro w'
               go_simp
               with_reducible rfl
              rotate_left
              ·simp only [Act.put, List.setIfInBounds_toArray, List.set_cons_zero, List.set_cons_succ, i64_w, i32_w]
               rfl
              refine pure_ (i := 2) (N := some 46) (v := ?_) (a' := ?_) #[true, true, true, false, false, false, false, false, false, false, false, false, false, false] rfl rfl (any_of HT_.out (by kernel_rfl)) (fun _ _ _ h => h) (Or.inl ⟨by rfl, ?_⟩) ?_ ?_
              rotate_left
              ·intro w'
               go_simp
               with_reducible rfl
              rotate_left
              ·simp only [Act.put, List.setIfInBounds_toArray, List.set_cons_zero, List.set_cons_succ, i64_w, i32_w]
               rfl
              refine pure_ (i := 3) (N := some 47) (v := ?_) (a' := ?_) #[true, true, true, true, false, false, false, false, false, false, false, false, false, false] rfl rfl (any_of HT_.out (by kernel_rfl)) (fun _ _ _ h => h) (Or.inl ⟨by rfl, ?_⟩) ?_ ?_
              rotate_left
              ·intro w'
               go_simp
               with_reducible rfl
              rotate_left
              ·simp only [Act.put, List.setIfInBounds_toArray, List.set_cons_zero, List.set_cons_succ, i64_w, i32_w]
               rfl
              refine pure_ (i := 4) (N := some 48) (v := ?_) (a' := ?_) #[true, true, true, true, true, false, false, false, false, false, false, false, false, false] rfl rfl (any_of HT_.out (by kernel_rfl)) (fun _ _ _ h => h) (Or.inl ⟨by rfl, ?_⟩) ?_ ?_
              rotate_left
              ·intro w'
               go_simp
               with_reducible rfl
              rotate_left
              ·simp only [Act.put, List.setIfInBounds_toArray, List.set_cons_zero, List.set_cons_succ, i64_w, i32_w]
               rfl
              refine pure_ (i := 6) (N := some 50) (v := ?_) (a' := ?_) #[true, true, true, true, true, false, true, false, false, false, false, false, false, false] rfl rfl (any_of HT_.out (by kernel_rfl)) (fun _ _ _ h => h) (Or.inl ⟨by rfl, ?_⟩) ?_ ?_
              rotate_left
              ·intro w'
               go_simp
               with_reducible rfl
              rotate_left
              ·simp only [Act.put, List.setIfInBounds_toArray, List.set_cons_zero, List.set_cons_succ, i64_w, i32_w]
               rfl
              refine pure_ (i := 7) (N := some 51) (v := ?_) (a' := ?_) #[true, true, true, true, true, false, true, true, false, false, false, false, false, false] rfl rfl (any_of HT_.out (by kernel_rfl)) (fun _ _ _ h => h) (Or.inl ⟨by rfl, ?_⟩) ?_ ?_
              rotate_left
              ·intro w'
               go_simp
               with_reducible rfl
              rotate_left
              ·simp only [Act.put, List.setIfInBounds_toArray, List.set_cons_zero, List.set_cons_succ, i64_w, i32_w]
               rfl
              refine pure_ (i := 8) (N := some 52) (v := ?_) (a' := ?_) #[true, true, true, true, true, false, true, true, true, false, false, false, false, false] rfl rfl (any_of HT_.out (by kernel_rfl)) (fun _ _ _ h => h) (Or.inl ⟨by rfl, ?_⟩) ?_ ?_
              rotate_left
              ·intro w'
               go_simp
               with_reducible rfl
              rotate_left
              ·simp only [Act.put, List.setIfInBounds_toArray, List.set_cons_zero, List.set_cons_succ, i64_w, i32_w]
               rfl
              refine take_ (i := 5) (N := some 49) (v := ?_) (a' := ?_) #[true, true, true, true, true, true, true, true, true, false, false, false, false, false] rfl rfl (take_ofW HT_.out HW_.out (by kernel_rfl)) (fun _ _ _ h => h) (Or.inl ⟨by rfl, ?_⟩) hHeld ?_ ?_
              rotate_left
              ·rintro w' ⟨s0, s1⟩
               go_simp
               with_reducible rfl
              rotate_left
              ·simp only [Act.put, List.setIfInBounds_toArray, List.set_cons_zero, List.set_cons_succ, i64_w, i32_w]
               rfl
              refine take_ (i := 9) (N := some 53) (v := ?_) (a' := ?_) #[true, true, true, true, true, true, true, true, true, true, false, false, false, false] rfl rfl (take_ofW HT_.out HW_.out (by kernel_rfl)) (fun _ _ _ h => h) (Or.inl ⟨by rfl, ?_⟩) hHeld ?_ ?_
              rotate_left
              ·rintro w' ⟨s0, s1⟩
               go_simp
               with_reducible rfl
              rotate_left
              ·simp only [Act.put, List.setIfInBounds_toArray, List.set_cons_zero, List.set_cons_succ, i64_w, i32_w]
               rfl
              refine one_ (i := 10) (N := some 54) #[true, true, true, true, true, true, true, true, true, true, true, false, false, false] rfl rfl (one_of HT_.out (by kernel_rfl)) (by decide) (fun K hK => ?_)
              refine value_ (w1 := ?_) (v := ?_) (by rfl) rfl ?_ ?_
              rotate_left 2
              ·go_simp
               constructor
               ·rfl
               ·rfl
              refine hK.out _ _ ⟨(World.cell?_alloc_lt _ _ _ (World.block_lt_of_cell? _ _ (hHeld.1))).trans (hHeld.1), (World.cell?_alloc_lt _ _ _ (World.block_lt_of_cell? _ _ (hHeld.2))).trans (hHeld.2)⟩ (fun hHeld => ?_)
              clear hK K
              refine norm_ (a' := ?_) ?_ ?_
              rotate_left
              ·show Act.put _ (some 54) _ = _
               simp only [Act.put, List.setIfInBounds_toArray, List.set_cons_zero, List.set_cons_succ, i64_w, i32_w]
               rfl
              refine last_ (i := 11) (N := some 55) #[true, true, true, true, true, true, true, true, true, true, true, true, false, false] rfl rfl (one_of HT_.out (by kernel_rfl)) (by decide) (fun K hK => ?_)
              refine Kd.R_append_step (Kd.int .u8) (w0 := w) w.heap.size (by rfl) (.tmp 49) (.tmp 54) 22 5 (.int .u8 0) 1 rfl Try.underlying22 info5 rfl (by decide) (by omega) (.slice A425_0 (rd_L1 x5_3 x9_3).length c425_0) (rd_L1 x5_3 x9_3) (rd t422 x9_3) [.int .u8 (rd t422 x9_3)] (fun k_ => oki26 k_ ∨ ((fun k_ => some k_ ≠ (.slice (some ad426) t422.length co25 : Value).ownBlock)) k_ ∧ w24.heap.size ≤ k_) (fun _ => False) rfl rfl ?aP (fun _ hk => hk.elim) ?aF ?aO ?aB ?aS ?aL ?_
              (case aP => exact rfl)
              (case aB => exact (by repeat (first | (with_reducible first | exact HB.out | apply below_alloc | apply pw_below_drewN | apply below_drew1) | exact HB.out)))
              (case aF => exact (fun k_ hk => .inr ⟨Kd.fresh' (Kd.R_lt (by (with_reducible repeat (first | apply Kd.R_alloc | apply Kd.R_drewN | apply Kd.R_drew)); exact HO_8.out)) k_ hk, hk⟩))
              (case aO => exact (by (with_reducible repeat (first | apply Kd.R_alloc | apply Kd.R_drewN | apply Kd.R_drew)); exact Kd.R_mono UU26.out (fun _ hk => .inl hk)))
              (case aS => exact (below_size (by repeat (first | (with_reducible first | exact HB.out | apply below_alloc | apply pw_below_drewN | apply below_drew1) | exact HB.out))))
              (case aL => have := LMc21.out; omega)
              intro v428 w27 ho hb hg hat
              rw [← Ny427.out] at ho
              have n0_ := Aside0.mk (Kd.R_grown2 (by (with_reducible repeat (first | apply Kd.R_alloc | apply Kd.R_drewN | apply Kd.R_drew)); exact HO_8.out) rfl hg (fun k_ e_ => (HL425_0.out.1 k_ e_).1))
              have n1_ := Aside0.mk (hb)
              have n2_ := Aside0.mk (Kd.H_grown (Kd.H_widen (by repeat (first | exact HH26.out | refine Kd.H_alloc ?_ _ | refine Kd.H_drewN ?_ _ | refine Kd.H_drew ?_))) hg (fun k_ e_ => .inl (UU26.out.1 k_ e_)))
              have n3_ := Aside0.mk (ho)
              clear HO_8
              clear HB
              clear HH26
              clear HO_5
              clear UU26
              clear HL425_0
              have HO_8 := n0_
              have HB := n1_
              have HH26 := n2_
              have HO429 := n3_
              clear n0_ n1_ n2_ n3_
              clear ho hb hg hat
              have p22 : 0 ≤ (x9_3 : Int) := of_decide_eq_true (by first | (with_reducible assumption) | assumption)
              have q22 : (x9_3 : Int) < ((z3.length : Int) : Int) := of_decide_eq_true (by first | (with_reducible assumption) | assumption)
              replace p22 := eq_true p22
              replace q22 := eq_true q22
              obtain ⟨Ao30, co30, eo30⟩ := Kd.R_slice HO429.out
              (first | subst eo30 | (injection eo30 with f1_ f2_ f3_; have f4_ := f1_.symm; have f5_ := f3_.symm; clear f1_ f2_ f3_; subst f4_; subst f5_))
              obtain ⟨_, _, hraw28, _, _, hcc28, _⟩ := Kd.H_raw HH26.out (of_decide_eq_true (by first | (with_reducible assumption) | assumption)) (by have h_ : (x9_3 : Int) < ((z3.length : Int) : Int) := of_decide_eq_true (by first | (with_reducible assumption) | assumption); first | exact h_ | (have e_ := (HN26.out); omega) | simpa using h_)
              obtain ⟨_, hfr28⟩ := Kd.H_at HH26.out (of_decide_eq_true (by first | (with_reducible assumption) | assumption)) (by have h_ : (x9_3 : Int) < ((z3.length : Int) : Int) := of_decide_eq_true (by first | (with_reducible assumption) | assumption); first | exact h_ | (have e_ := (HN26.out); omega) | simpa using h_)
              have hx28_0 := hcc28 0 _ rfl
              have hf28_0 := hfr28 0
              (try simp only [Nat.add_zero] at hx28_0 hf28_0)
              (try rw [show (Mm.mixd 5 w P0_).sz = 1 from rfl, Nat.mul_one] at hx28_0)
              (try rw [show (Mm.mixd 5 w P0_).sz = 1 from rfl, Nat.mul_one] at hf28_0)
              have HP28 := Kd.S_seg0 HH26.out (of_decide_eq_true (by first | (with_reducible assumption) | assumption)) (by have h_ : (x9_3 : Int) < ((z3.length : Int) : Int) := of_decide_eq_true (by first | (with_reducible assumption) | assumption); first | exact h_ | (have e_ := (HN26.out); omega) | simpa using h_) (seg := [.slice Ao30 y427.length co30]) (j := 0) (show 1 ≤ 1 from by decide) (x' := (true, y427)) (show (Mm.mixd 5 w P0_).M _ _ _ (true, y427) _ from Kd.M_row HO429.out) (fun _ hk => hk)
              (try simp only [show (Mm.mixd 5 w P0_).sz = 1 from rfl, Nat.mul_one, Nat.add_zero] at HP28)
              clear hcc28 hfr28
              have HS28 := HP28.1
              have HQ28 := Aside0.mk HS28
              obtain ⟨_, hgg28⟩ := Kd.R_typed hraw28 go26 rfl
              have GG28_ := Aside0.mk hgg28
              clear HP28 HS28 hgg28
              refine hK.out _ _ ?_
              clear hK K
              refine norm_ (a' := ?_) ?_ ?_
              rotate_left
              ·show Act.put _ (some 55) _ = _
               simp only [Act.put, List.setIfInBounds_toArray, List.set_cons_zero, List.set_cons_succ, i64_w, i32_w]
               rfl
              refine pure_ (i := 12) (N := some 56) (v := ?_) (a' := ?_) #[true, true, true, true, true, true, true, true, true, true, true, true, true, false] rfl rfl (any_of HT_.out (by kernel_rfl)) (fun _ _ _ h => h) (Or.inl ⟨by rfl, ?_⟩) ?_ ?_
              rotate_left
              ·intro w'
               go_simp
               with_reducible rfl
              rotate_left
              ·simp only [Act.put, List.setIfInBounds_toArray, List.set_cons_zero, List.set_cons_succ, i64_w, i32_w]
               rfl
              refine last_ (i := 13) (N := none) #[true, true, true, true, true, true, true, true, true, true, true, true, true, true] rfl rfl (one_of HT_.out (by kernel_rfl)) (by decide) (fun K hK => ?_)
              refine skip_ (w1 := ?_) (by rfl) rfl ?_ ?_
              rotate_left
              ·go_simp
               rfl
              refine hK.out _ _ ?_
              clear hK K
              refine done_ (done_of HT_.out (by kernel_rfl)) ?_
              try go_wp2
              go_roundg k3
              case measure => have := HK1.out; have := HK2.out; have := HK3.out; omega
              case rel => exact ⟨_, (y430), (wrap64 (x9_3 + 1)), (by first | rfl | (simp; done) | (simp [*]; done)), H', ⟨by have := HK1.out; have := HK2.out; have := HK3.out; omega⟩, ⟨HZ.out.set Ny430.out⟩, ⟨by have h1_ := HX9.out; have h2_ := (Kd.R_reads' HO_8.out).2.2.2.1; have h3_ : x9_3 < (t422.length : Int) := of_decide_eq_true (by first | (with_reducible assumption) | assumption); unfold wrap64; omega⟩, ⟨by (with_reducible repeat (first | apply Kd.S_alloc | apply Kd.S_drewN | apply Kd.S_drew)); exact HQ28.out⟩, ⟨by (with_reducible repeat (first | apply Kd.R_alloc | apply Kd.R_drewN | apply Kd.R_drew)); exact Kd.R_mono (Kd.R_far (p := ⟨go26, (x9_3 : Int).toNat, none⟩) (Kd.R_types HO_8.out GG28_.out (by decide)) (fun _ hk => hk.2) (.slice Ao30 y427.length co30)) (fun _ hk => trivial)⟩, ⟨by repeat (first | (with_reducible first | exact HB.out | apply below_alloc | apply pw_below_drewN | apply below_drew1 | refine below_set ?_ GB26.out) | exact HB.out)⟩⟩
             ·rw [if_neg c21] at H
              exact absurd H (by simp)
            ·rw [if_neg c20] at H
             exact absurd H (by simp)
           ·rw [if_neg c19] at H
            exact absurd H (by simp)
          ·rw [if_neg c18] at H
           have c18b0 : decide (x9_3 < (z3.length : Int)) = false := decide_eq_false c18
           clear c18
           have H' := Aside0.mk H
           clear H
           obtain ⟨Ao31, co31, eo31⟩ := Kd.S_slice HO_5.out
           subst eo31
           go_wp2
           go_roundg k3
           case measure => have := HK1.out; have := HK2.out; have := HK3.out; omega
           case rel => exact ⟨z3, (x5_3), (wrap64 (x7_2 + 1)), (by first | rfl | (simp; done) | (simp [*]; done)), H', ⟨by have := HK1.out; have := HK2.out; have := HK3.out; omega⟩, HZ, ⟨by (with_reducible repeat (first | apply Kd.S_alloc | apply Kd.S_drewN | apply Kd.S_drew)); exact Kd.S_mono HO_5.out (fun _ hk => trivial)⟩, ⟨by repeat (first | (with_reducible first | exact HB.out | apply below_alloc | apply pw_below_drewN | apply below_drew1) | exact HB.out)⟩⟩
       ·rw [if_neg c12] at H
        have c12b0 : decide (x7_2 < ((rd_L1 l0 0).length : Int)) = false := decide_eq_false c12
        clear c12
        obtain rfl := Option.some.inj H
        have p418 : 0 ≤ (0 : Int) := (by omega)
        have q418 : 0 < (l0.length : Int) := of_decide_eq_true (by first | (with_reducible assumption) | assumption)
        obtain ⟨ad418, A418_0, c418_0, e418, hx418_0, hl418_0, hi418_0⟩ := at_L1 HR0.out 0 p418 q418
        cases e418
        have qi418 : (0 < l0.length) = True := eq_true (by omega)
        (try rw [show ((0 : Int)).toNat = 0 from rfl] at hx418_0)
        (try rw [Addr.add_zero'] at hx418_0)
        replace hx418_0 := (HB.out.cell (World.block_lt_of_cell? w _ hx418_0)).trans hx418_0
        have HR418_0 := Aside0.mk hi418_0
        have HC418_0 := Aside0.mk hl418_0
        clear hi418_0 hl418_0
        replace p418 := eq_true p418
        replace q418 := eq_true q418
        go_wp2
        go_ret
        exact ⟨_, by first | rfl | (simp [errW_none, errW_some] <;> rfl) | (simp [*, errW_none, errW_some] <;> rfl), by rw [HZ.out.1]; exact Mm.mixd_V (by (with_reducible repeat (first | apply Kd.S_alloc | apply Kd.S_drewN | apply Kd.S_drew)); exact HO_5.out) (below_size (by repeat (first | (with_reducible first | exact HB.out | apply below_alloc | apply pw_below_drewN | apply below_drew1) | exact HB.out))) (fun k_ _ hk_ => Below.block (by repeat (first | (with_reducible first | exact HB.out | apply below_alloc | apply pw_below_drewN | apply below_drew1) | exact HB.out)) k_ hk_), by repeat (first | (with_reducible first | exact HB.out | apply below_alloc | apply pw_below_drewN | apply below_drew1) | exact HB.out)⟩
      ·rw [if_neg c11] at H
       exact absurd H (by simp)
end Go.Proofs.Ytcdmgppjhdpgkaa.P
namespace Go.Proofs.Ytcdmgppjhdpgkaa.P
open Go.RowKit Go.Proofs.YtcdmgppjhdpgkaaW.PrintWords Go.Proofs.YtcdmgppjhdpgkaaW.PrintLast Go.Proofs.YtcdmgppjhdpgkaaW.PrintMore
attribute [local go_sem] max2_int min2_int max_two min_two max_three min_three max_four min_four
set_option linter.unusedVariables false
set_option linter.unusedSimpArgs false
mutual
def footlockerlaw23_StripeParity.l0 : Nat → List (List Int) → Int → Bool → List (List Int) → Int → Int → Option (Bool)
 | 0, _, _, _, _, _, _ => none
 | k + 1, x0, x1, x5, x12, x13, x14 => if x14 < x13 then (if 0 ≤ x14 then (if x14 < (x12.length : Int) then (if ((rd_L1 x12 x14).length : Int) > 40 then (some true) else (if x5 = true then (if 0 < (x0.length : Int) then (footlockerlaw23_StripeParity.l0 k x0 x1 (((rd_L1 x12 x14).length : Int) == ((rd_L1 x0 0).length : Int)) x12 x13 (wrap64 (x14 + 1))) else (none)) else (footlockerlaw23_StripeParity.l0 k x0 x1 false x12 x13 (wrap64 (x14 + 1))))) else (none)) else (none)) else (if (x0.length : Int) > 12 then (footlockerlaw23_StripeParity.j1 k x0 x1 x5 true) else (if x1 > 12 then (footlockerlaw23_StripeParity.j1 k x0 x1 x5 (decide (x1 < 255))) else (footlockerlaw23_StripeParity.j1 k x0 x1 x5 false)))
def footlockerlaw23_StripeParity.j1 : Nat → List (List Int) → Int → Bool → Bool → Option (Bool)
 | 0, _, _, _, _ => none
 | k + 1, x0, x1, x5, x42 => if x42 = true then (some true) else ((stripe_Parity.f k x0 x1).bind fun bt412 => (if (x0.length : Int) = 0 then (footlockerlaw23_StripeParity.j2 k x0 x1 bt412.1 bt412.2 true) else (if x1 < 0 then (footlockerlaw23_StripeParity.j2 k x0 x1 bt412.1 bt412.2 true) else (footlockerlaw23_StripeParity.j2 k x0 x1 bt412.1 bt412.2 (!x5)))))
def footlockerlaw23_StripeParity.j2 : Nat → List (List Int) → Int → List (List Int) → Int → Bool → Option (Bool)
 | 0, _, _, _, _, _ => none
 | k + 1, x0, x1, x8, x9, x59 => if x59 = true then (if x9 = 1 then (some ((x8.length : Int) == 0)) else (some false)) else (if x1 ≥ 255 then (if x9 = 3 then (some ((x8.length : Int) == 0)) else (some false)) else (if x9 = 0 then ((some (([] : List (List Int)) : List (List Int))).bind fun y416 => (if y416.length + x0.length < 5864062014805 then ((some (y416 ++ x0 : List (List Int))).bind fun y419 => (if y419.length + x8.length < 5864062014805 then ((footlockerref23_All.f k x0 x1).bind fun t425 => ((footlockerref21_Rows.f k (y419 ++ x8) t425).bind fun t428 => (some t428))) else (none))) else (none))) else (some false)))
end
def footlockerlaw23_StripeParity.f (k : Nat) (l0 : List (List Int)) (a1 : Int) : Option (Bool) := (footlockerlaw23_alive.f k).bind fun t409 => (if t409 = true then (footlockerlaw23_StripeParity.l0 k l0 a1 true l0 (l0.length : Int) 0) else (some false))
set_option maxHeartbeats 8000000 in
set_option maxRecDepth 100000 in
theorem footlockerlaw23_StripeParity.calls (k : Nat) (P0_ : Nat → Prop) (A0 : Option Addr) (c0 : Nat) (l0 : List (List Int)) (a1 : Int) (r : Bool) (w : World) (hs0 : Kd.V (Kd.slice 5 (Kd.int .u8)) 22 w w.heap.size (fun k_ => P0_ k_) (.slice A0 l0.length c0) l0) (h : footlockerlaw23_StripeParity.f k l0 a1 = some r) :
 Calls Try.prog 4 #[.slice A0 l0.length c0, .int .i64 a1] w fun e w' => e = .returned (.bool r) ∧ Below w.heap.size w w' := by
 have HO0 := Aside0.mk (show Kd.V (Kd.slice 5 (Kd.int .u8)) 22 w w.heap.size (fun k_ => (P0_ k_ ∨ w.heap.size ≤ k_)) (.slice A0 l0.length c0) l0 from Kd.V_mono hs0 (fun k_ hk => .inl hk))
 have HB := Aside0.mk (Below.refl w.heap.size w)
 have H : ((footlockerlaw23_alive.f k).bind fun t409 => (if t409 = true then (footlockerlaw23_StripeParity.l0 k l0 a1 true l0 (l0.length : Int) 0) else (some false))) = some r := h
 clear h
 replace H := Option.bind_eq_some_iff.mp H
 obtain ⟨t409, A30, H⟩ := H
 replace H : (if t409 = true then (footlockerlaw23_StripeParity.l0 k l0 a1 true l0 (l0.length : Int) 0) else (some false)) = some r := H
 have A3 := Aside0.mk A30
 clear A30
 by_cases c4 : t409 = true
 ·subst c4
  have H1 : (footlockerlaw23_StripeParity.l0 k l0 a1 true l0 (l0.length : Int) 0) = some r := by rw [if_pos rfl] at H; exact H
  clear H
  have H := H1
  clear H1
  have H' := Aside0.mk H
  clear H
  go_enter Try.func4, Try.ntmps4
  go_wp2_with (first | ((with_reducible refine gate_callee (f := 7) rfl ?_); refine goesL_ (some 10) rfl rfl Try.func7 (by kernel_rfl) rfl #[] rfl (by (try simp only [List.map_toArray, List.map_cons, List.map_nil]); first | done | rfl | (simp only [List.length_drop, List.length_take]; rfl)) ?_; (with_reducible refine (footlockerlaw23_alive.calls k  true _ A3.out).mono ?_); rintro e w5 ⟨rfl, hb⟩; refine ⟨_, rfl, ?_⟩; have n0_ := Aside0.mk (Kd.V_below (by (with_reducible repeat (first | apply Kd.V_alloc | apply Kd.V_drewN | apply Kd.V_drew)); exact HO0.out) hb); have n1_ := Aside0.mk (below_step (by repeat (first | (with_reducible first | exact HB.out | apply below_alloc | apply pw_below_drewN | apply below_drew1) | exact HB.out)) hb); clear HO0; clear HB; have HO0 := n0_; have HB := n1_; clear n0_ n1_; (try clear hb); (try clear hb2); (try clear hk); (try clear hi)))
  go_loopg [5, 14] k (fun kq v5 v14 w' => ∃ (x5_1 : Bool) (x14_1 : Int), v5 = .bool x5_1 ∧ v14 = .int .i64 x14_1 ∧ Aside0 (footlockerlaw23_StripeParity.l0 kq l0 a1 x5_1 l0 (l0.length : Int) x14_1 = some r) ∧ Aside0 (kq ≤ k) ∧ Aside0 (Kd.V (Kd.slice 5 (Kd.int .u8)) 22 w' w.heap.size (fun k_ => (P0_ k_ ∨ w.heap.size ≤ k_)) (.slice A0 l0.length c0) l0) ∧ Aside0 (Kd.V (Kd.slice 5 (Kd.int .u8)) 22 w' w.heap.size (fun k_ => (P0_ k_ ∨ w.heap.size ≤ k_)) (.slice A0 l0.length c0) l0) ∧ Aside0 (Below w.heap.size w w'))
  case atStart => exact ⟨(true), (0), (by first | rfl | (simp; done) | (simp [*]; done)), (by first | rfl | (simp; done) | (simp [*]; done)), H', ⟨Nat.le_refl _⟩, ⟨by (with_reducible repeat (first | apply Kd.V_alloc | apply Kd.V_drewN | apply Kd.V_drew)); exact HO0.out⟩, ⟨by (with_reducible repeat (first | apply Kd.V_alloc | apply Kd.V_drewN | apply Kd.V_drew)); exact HO0.out⟩, ⟨by repeat (first | (with_reducible first | exact HB.out | apply below_alloc | apply pw_below_drewN | apply below_drew1) | exact HB.out)⟩⟩
  case round =>
   clear H'
   try clear p2
   try clear c4
   obtain ⟨x5_1, x14_1, rfl, rfl, HA, HK1, HO_0, HO_12, HB⟩ := hrel
   cases gk with
   | zero => exact absurd HA.out (by simp [footlockerlaw23_StripeParity.l0])
   | succ k1 =>
    have H := HA.out
    clear HA
    simp only [footlockerlaw23_StripeParity.l0] at H
    by_cases c6 : x14_1 < (l0.length : Int)
    ·rw [if_pos c6] at H
     have c6b0 : decide (x14_1 < (l0.length : Int)) = true := decide_eq_true c6
     clear c6
     by_cases c7 : 0 ≤ x14_1
     ·rw [if_pos c7] at H
      have c7b0 : decide (0 ≤ x14_1) = true := decide_eq_true c7
      clear c7
      by_cases c8 : x14_1 < (l0.length : Int)
      ·rw [if_pos c8] at H
       have c8b0 : decide (x14_1 < (l0.length : Int)) = true := decide_eq_true c8
       clear c8
       by_cases c9 : ((rd_L1 l0 x14_1).length : Int) > 40
       ·rw [if_pos c9] at H
        have c9b0 : decide (40 < ((rd_L1 l0 x14_1).length : Int)) = true := decide_eq_true c9
        have c9b1 : decide (40 < (rd_L1 l0 x14_1).length) = true := decide_eq_true (by omega)
        clear c9
        obtain rfl := Option.some.inj H
        have p410 : 0 ≤ (x14_1 : Int) := of_decide_eq_true (by first | (with_reducible assumption) | assumption)
        have q410 : x14_1 < (l0.length : Int) := of_decide_eq_true (by first | (with_reducible assumption) | assumption)
        obtain ⟨ad410, A410_0, c410_0, e410, hx410_0, hl410_0, hi410_0⟩ := at_L1 (Kd.V_reads' HO_12.out).2.2 x14_1 p410 q410
        cases e410
        obtain ⟨ce410, hce410, hMe410, hcc410⟩ := Kd.V_get HO_12.out [] x14_1 p410 (by first | exact q410 | exact of_decide_eq_true (by first | (with_reducible assumption) | assumption) | (have e_ := (Kd.V_reads' HO_12.out).1; omega))
        obtain ⟨ua410_0, uc410_0, rfl, ul410_0, ge410_0⟩ := Kd.FK_slice_open hMe410
        have hv410_0 := hcc410 0 _ rfl
        rw [Nat.add_zero, show ((Kd.slice 5 (Kd.int .u8))).sz = 1 from rfl, Nat.mul_one] at hv410_0
        replace hv410_0 := Option.some.inj (hv410_0.symm.trans hx410_0)
        injection hv410_0 with hva_ hvn_ hvc_
        rw [hva_] at ge410_0
        rw [hvc_] at ul410_0
        have HL410_0 := Aside0.mk (show Kd.V (Kd.int .u8) 5 _ w.heap.size _ _ (rd_L1 l0 x14_1) from Kd.V_mk ul410_0 ge410_0)
        clear hva_ hvn_ hvc_ ge410_0 ul410_0
        clear hcc410 hce410
        have HR410_0 := Aside0.mk hi410_0
        have HC410_0 := Aside0.mk hl410_0
        clear hi410_0 hl410_0
        replace p410 := eq_true p410
        replace q410 := eq_true q410
        go_wp2
        go_ret
        exact ⟨by first | rfl | (simp [errW_none, errW_some] <;> rfl) | (simp [*, errW_none, errW_some] <;> rfl), by repeat (first | (with_reducible first | exact HB.out | apply below_alloc | apply pw_below_drewN | apply below_drew1) | exact HB.out)⟩
       ·rw [if_neg c9] at H
        have c9b0 : decide (40 < ((rd_L1 l0 x14_1).length : Int)) = false := decide_eq_false c9
        have c9b1 : decide (40 < (rd_L1 l0 x14_1).length) = false := decide_eq_false (by omega)
        clear c9
        by_cases c10 : x5_1 = true
        ·subst c10
         have H1 : (if 0 < (l0.length : Int) then (footlockerlaw23_StripeParity.l0 k1 l0 a1 (((rd_L1 l0 x14_1).length : Int) == ((rd_L1 l0 0).length : Int)) l0 (l0.length : Int) (wrap64 (x14_1 + 1))) else (none)) = some r := by rw [if_pos rfl] at H; exact H
         clear H
         have H := H1
         clear H1
         by_cases c11 : 0 < (l0.length : Int)
         ·rw [if_pos c11] at H
          have c11b0 : decide (0 < (l0.length : Int)) = true := decide_eq_true c11
          have c11b1 : decide (0 < l0.length) = true := decide_eq_true (by omega)
          clear c11
          have H' := Aside0.mk H
          clear H
          have p410 : 0 ≤ (x14_1 : Int) := of_decide_eq_true (by first | (with_reducible assumption) | assumption)
          have q410 : x14_1 < (l0.length : Int) := of_decide_eq_true (by first | (with_reducible assumption) | assumption)
          obtain ⟨ad410, A410_0, c410_0, e410, hx410_0, hl410_0, hi410_0⟩ := at_L1 (Kd.V_reads' HO_12.out).2.2 x14_1 p410 q410
          cases e410
          obtain ⟨ce410, hce410, hMe410, hcc410⟩ := Kd.V_get HO_12.out [] x14_1 p410 (by first | exact q410 | exact of_decide_eq_true (by first | (with_reducible assumption) | assumption) | (have e_ := (Kd.V_reads' HO_12.out).1; omega))
          obtain ⟨ua410_0, uc410_0, rfl, ul410_0, ge410_0⟩ := Kd.FK_slice_open hMe410
          have hv410_0 := hcc410 0 _ rfl
          rw [Nat.add_zero, show ((Kd.slice 5 (Kd.int .u8))).sz = 1 from rfl, Nat.mul_one] at hv410_0
          replace hv410_0 := Option.some.inj (hv410_0.symm.trans hx410_0)
          injection hv410_0 with hva_ hvn_ hvc_
          rw [hva_] at ge410_0
          rw [hvc_] at ul410_0
          have HL410_0 := Aside0.mk (show Kd.V (Kd.int .u8) 5 _ w.heap.size _ _ (rd_L1 l0 x14_1) from Kd.V_mk ul410_0 ge410_0)
          clear hva_ hvn_ hvc_ ge410_0 ul410_0
          clear hcc410 hce410
          have HR410_0 := Aside0.mk hi410_0
          have HC410_0 := Aside0.mk hl410_0
          clear hi410_0 hl410_0
          replace p410 := eq_true p410
          replace q410 := eq_true q410
          have p411 : 0 ≤ (0 : Int) := (by omega)
          have q411 : 0 < (l0.length : Int) := of_decide_eq_true (by first | (with_reducible assumption) | assumption)
          obtain ⟨ad411, A411_0, c411_0, e411, hx411_0, hl411_0, hi411_0⟩ := at_L1 (Kd.V_reads' HO_0.out).2.2 0 p411 q411
          obtain rfl : ad410 = ad411 := (by injection e411)
          obtain ⟨ce411, hce411, hMe411, hcc411⟩ := Kd.V_get HO_0.out [] 0 p411 (by first | exact q411 | exact of_decide_eq_true (by first | (with_reducible assumption) | assumption) | (have e_ := (Kd.V_reads' HO_0.out).1; omega))
          obtain ⟨ua411_0, uc411_0, rfl, ul411_0, ge411_0⟩ := Kd.FK_slice_open hMe411
          have hv411_0 := hcc411 0 _ rfl
          rw [Nat.add_zero, show ((Kd.slice 5 (Kd.int .u8))).sz = 1 from rfl, Nat.mul_one] at hv411_0
          replace hv411_0 := Option.some.inj (hv411_0.symm.trans hx411_0)
          injection hv411_0 with hva_ hvn_ hvc_
          rw [hva_] at ge411_0
          rw [hvc_] at ul411_0
          have HL411_0 := Aside0.mk (show Kd.V (Kd.int .u8) 5 _ w.heap.size _ _ (rd_L1 l0 0) from Kd.V_mk ul411_0 ge411_0)
          clear hva_ hvn_ hvc_ ge411_0 ul411_0
          clear hcc411 hce411
          have qi411 : (0 < l0.length) = True := eq_true (by omega)
          (try rw [show ((0 : Int)).toNat = 0 from rfl] at hx411_0)
          (try rw [Addr.add_zero'] at hx411_0)
          have HR411_0 := Aside0.mk hi411_0
          have HC411_0 := Aside0.mk hl411_0
          clear hi411_0 hl411_0
          replace p411 := eq_true p411
          replace q411 := eq_true q411
          go_wp2
          go_roundg k1
          case measure => have := HK1.out; omega
          case rel => exact ⟨((((rd_L1 l0 x14_1).length : Int) == ((rd_L1 l0 0).length : Int))), (wrap64 (x14_1 + 1)), (by first | rfl | (simp; done) | (simp [*]; done)), (by first | rfl | (simp; done) | (simp [*]; done)), H', ⟨by have := HK1.out; omega⟩, ⟨by (with_reducible repeat (first | apply Kd.V_alloc | apply Kd.V_drewN | apply Kd.V_drew)); exact HO_0.out⟩, ⟨by (with_reducible repeat (first | apply Kd.V_alloc | apply Kd.V_drewN | apply Kd.V_drew)); exact HO_12.out⟩, ⟨by repeat (first | (with_reducible first | exact HB.out | apply below_alloc | apply pw_below_drewN | apply below_drew1) | exact HB.out)⟩⟩
         ·rw [if_neg c11] at H
          exact absurd H (by simp)
        ·replace c10 := Bool.eq_false_iff.mpr c10
         subst c10
         have H1 : (footlockerlaw23_StripeParity.l0 k1 l0 a1 false l0 (l0.length : Int) (wrap64 (x14_1 + 1))) = some r := by rw [if_neg (show ¬ (false = true) by decide)] at H; exact H
         clear H
         have H := H1
         clear H1
         have H' := Aside0.mk H
         clear H
         have p410 : 0 ≤ (x14_1 : Int) := of_decide_eq_true (by first | (with_reducible assumption) | assumption)
         have q410 : x14_1 < (l0.length : Int) := of_decide_eq_true (by first | (with_reducible assumption) | assumption)
         obtain ⟨ad410, A410_0, c410_0, e410, hx410_0, hl410_0, hi410_0⟩ := at_L1 (Kd.V_reads' HO_12.out).2.2 x14_1 p410 q410
         cases e410
         obtain ⟨ce410, hce410, hMe410, hcc410⟩ := Kd.V_get HO_12.out [] x14_1 p410 (by first | exact q410 | exact of_decide_eq_true (by first | (with_reducible assumption) | assumption) | (have e_ := (Kd.V_reads' HO_12.out).1; omega))
         obtain ⟨ua410_0, uc410_0, rfl, ul410_0, ge410_0⟩ := Kd.FK_slice_open hMe410
         have hv410_0 := hcc410 0 _ rfl
         rw [Nat.add_zero, show ((Kd.slice 5 (Kd.int .u8))).sz = 1 from rfl, Nat.mul_one] at hv410_0
         replace hv410_0 := Option.some.inj (hv410_0.symm.trans hx410_0)
         injection hv410_0 with hva_ hvn_ hvc_
         rw [hva_] at ge410_0
         rw [hvc_] at ul410_0
         have HL410_0 := Aside0.mk (show Kd.V (Kd.int .u8) 5 _ w.heap.size _ _ (rd_L1 l0 x14_1) from Kd.V_mk ul410_0 ge410_0)
         clear hva_ hvn_ hvc_ ge410_0 ul410_0
         clear hcc410 hce410
         have HR410_0 := Aside0.mk hi410_0
         have HC410_0 := Aside0.mk hl410_0
         clear hi410_0 hl410_0
         replace p410 := eq_true p410
         replace q410 := eq_true q410
         go_wp2
         go_roundg k1
         case measure => have := HK1.out; omega
         case rel => exact ⟨(false), (wrap64 (x14_1 + 1)), (by first | rfl | (simp; done) | (simp [*]; done)), (by first | rfl | (simp; done) | (simp [*]; done)), H', ⟨by have := HK1.out; omega⟩, ⟨by (with_reducible repeat (first | apply Kd.V_alloc | apply Kd.V_drewN | apply Kd.V_drew)); exact HO_0.out⟩, ⟨by (with_reducible repeat (first | apply Kd.V_alloc | apply Kd.V_drewN | apply Kd.V_drew)); exact HO_12.out⟩, ⟨by repeat (first | (with_reducible first | exact HB.out | apply below_alloc | apply pw_below_drewN | apply below_drew1) | exact HB.out)⟩⟩
      ·rw [if_neg c8] at H
       exact absurd H (by simp)
     ·rw [if_neg c7] at H
      exact absurd H (by simp)
    ·rw [if_neg c6] at H
     have c6b0 : decide (x14_1 < (l0.length : Int)) = false := decide_eq_false c6
     clear c6
     have HC12 := Aside0.mk H
     clear H
     go_upto_region 11 with (fail)
     go_cut [42] (fun v42 wc => ∃ (kq : Nat) (x42_11 : Bool), v42 = .bool x42_11 ∧ Aside0 (footlockerlaw23_StripeParity.j1 kq l0 a1 x5_1 x42_11 = some r) ∧ Aside0 (kq ≤ k1) ∧ Aside0 (Kd.V (Kd.slice 5 (Kd.int .u8)) 22 wc w.heap.size (fun k_ => (P0_ k_ ∨ w.heap.size ≤ k_)) (.slice A0 l0.length c0) l0) ∧ Aside0 (Below w.heap.size w wc))
     case first =>
      have H := HC12.out
      clear HC12
      by_cases c13 : (l0.length : Int) > 12
      ·rw [if_pos c13] at H
       have c13b0 : decide (12 < (l0.length : Int)) = true := decide_eq_true c13
       have c13b1 : decide (12 < l0.length) = true := decide_eq_true (by omega)
       clear c13
       (first | rw [c13b0] | (simp only [i64_w, i32_w]; rw [c13b0]) | skip)
       have H' := Aside0.mk H
       clear H
       go_wp2
       go_meet
       case rel => exact ⟨_, (true), (by first | rfl | (simp; done) | (simp [*]; done)), H', ⟨by have := HK1.out; first | omega | exact Nat.le_refl _⟩, ⟨by (with_reducible repeat (first | apply Kd.V_alloc | apply Kd.V_drewN | apply Kd.V_drew)); exact HO_0.out⟩, ⟨by repeat (first | (with_reducible first | exact HB.out | apply below_alloc | apply pw_below_drewN | apply below_drew1) | exact HB.out)⟩⟩
      ·rw [if_neg c13] at H
       have c13b0 : decide (12 < (l0.length : Int)) = false := decide_eq_false c13
       have c13b1 : decide (12 < l0.length) = false := decide_eq_false (by omega)
       clear c13
       (first | rw [c13b0] | (simp only [i64_w, i32_w]; rw [c13b0]) | skip)
       by_cases c14 : a1 > 12
       ·rw [if_pos c14] at H
        have c14b0 : decide (12 < a1) = true := decide_eq_true c14
        clear c14
        have H' := Aside0.mk H
        clear H
        go_wp2
        go_meet
        case rel => exact ⟨_, (decide (a1 < 255)), (by first | rfl | (simp; done) | (simp [*]; done)), H', ⟨by have := HK1.out; first | omega | exact Nat.le_refl _⟩, ⟨by (with_reducible repeat (first | apply Kd.V_alloc | apply Kd.V_drewN | apply Kd.V_drew)); exact HO_0.out⟩, ⟨by repeat (first | (with_reducible first | exact HB.out | apply below_alloc | apply pw_below_drewN | apply below_drew1) | exact HB.out)⟩⟩
       ·rw [if_neg c14] at H
        have c14b0 : decide (12 < a1) = false := decide_eq_false c14
        clear c14
        have H' := Aside0.mk H
        clear H
        go_wp2
        go_meet
        case rel => exact ⟨_, (false), (by first | rfl | (simp; done) | (simp [*]; done)), H', ⟨by have := HK1.out; first | omega | exact Nat.le_refl _⟩, ⟨by (with_reducible repeat (first | apply Kd.V_alloc | apply Kd.V_drewN | apply Kd.V_drew)); exact HO_0.out⟩, ⟨by repeat (first | (with_reducible first | exact HB.out | apply below_alloc | apply pw_below_drewN | apply below_drew1) | exact HB.out)⟩⟩
     case rest =>
      clear HC12
      try clear c1
      try clear p2
      try clear c4
      try clear p4
      try clear q4
      try clear hx4
      try clear qi4
      try clear c6
      try clear c6b0
      try clear p6
      try clear c7
      try clear c7b0
      try clear c8
      try clear c8b0
      try clear c9
      try clear c9b0
      try clear c9b1
      try clear c10
      try clear c11
      try clear c11b0
      try clear c11b1
      try clear c13
      try clear c13b0
      try clear c13b1
      try clear c14
      try clear c14b0
      try clear hx410_0
      try clear hx411_0
      try clear p2
      try clear p410
      try clear p411
      try clear q410
      try clear q411
      obtain ⟨kq, x42_11, rfl, HA, HJ11, HO_0, HB⟩ := hcut
      cases kq with
      | zero => exact absurd HA.out (by simp [footlockerlaw23_StripeParity.j1])
      | succ kj11 =>
       have H := HA.out
       clear HA
       simp only [footlockerlaw23_StripeParity.j1] at H
       by_cases c15 : x42_11 = true
       ·subst c15
        have H1 : (some true) = some r := by rw [if_pos rfl] at H; exact H
        clear H
        have H := H1
        clear H1
        obtain rfl := Option.some.inj H
        go_wp2
        go_ret
        exact ⟨by first | rfl | (simp [errW_none, errW_some] <;> rfl) | (simp [*, errW_none, errW_some] <;> rfl), by repeat (first | (with_reducible first | exact HB.out | apply below_alloc | apply pw_below_drewN | apply below_drew1) | exact HB.out)⟩
       ·replace c15 := Bool.eq_false_iff.mpr c15
        subst c15
        have H1 : ((stripe_Parity.f kj11 l0 a1).bind fun bt412 => (if (l0.length : Int) = 0 then (footlockerlaw23_StripeParity.j2 kj11 l0 a1 bt412.1 bt412.2 true) else (if a1 < 0 then (footlockerlaw23_StripeParity.j2 kj11 l0 a1 bt412.1 bt412.2 true) else (footlockerlaw23_StripeParity.j2 kj11 l0 a1 bt412.1 bt412.2 (!x5_1))))) = some r := by rw [if_neg (show ¬ (false = true) by decide)] at H; exact H
        clear H
        have H := H1
        clear H1
        replace H := Option.bind_eq_some_iff.mp H
        obtain ⟨⟨t412, t413⟩, A160, H⟩ := H
        replace H : (if (l0.length : Int) = 0 then (footlockerlaw23_StripeParity.j2 kj11 l0 a1 t412 t413 true) else (if a1 < 0 then (footlockerlaw23_StripeParity.j2 kj11 l0 a1 t412 t413 true) else (footlockerlaw23_StripeParity.j2 kj11 l0 a1 t412 t413 (!x5_1)))) = some r := H
        have A16 := Aside0.mk A160
        clear A160
        have HC17 := Aside0.mk H
        clear H
        go_upto_region 14 with (first | ((with_reducible refine gate_callee (f := 18) rfl ?_); refine goesL_ (some 46) rfl rfl Try.func18 (by kernel_rfl) rfl #[.slice A0 l0.length c0, .int .i64 a1] rfl (by (try simp only [List.map_toArray, List.map_cons, List.map_nil]); first | done | rfl | (simp only [List.length_drop, List.length_take]; rfl)) ?_; (with_reducible refine (stripe_Parity.calls kj11 _ _ l0 a1 t412 t413 _ ?side1 ?side2 A16.out).mono ?_); (case side1 => repeat (first | exact (Kd.V_reads' HO_0.out).2.2 | (with_reducible refine Kd.C_alloc ?_ _) | (with_reducible refine Kd.C_drewN ?_ _) | (with_reducible refine Kd.C_drew ?_))); (case side2 => exact (Kd.V_reads' HO_0.out).2.1); rintro e w18 ⟨v414, rfl, ho0, hb⟩; refine ⟨_, rfl, ?_⟩; have n0_ := Aside0.mk (Kd.V_elder' (by (with_reducible repeat (first | apply Kd.V_alloc | apply Kd.V_drewN | apply Kd.V_drew)); exact HO_0.out) (by first | exact Kd.N_base ho0 | exact Kd.S_base ho0) hb); have n1_ := Aside0.mk (Kd.N_lower (Kd.N_mono (ok' := fun k_ => (P0_ k_ ∨ w.heap.size ≤ k_)) (Kd.S_N (Kd.S_bound ho0)) (fun k_ hk_ => (.inr (Nat.le_trans (below_size (by repeat (first | (with_reducible first | exact HB.out | apply below_alloc | apply pw_below_drewN | apply below_drew1) | exact HB.out))) hk_.2.1)))) (below_size (by repeat (first | (with_reducible first | exact HB.out | apply below_alloc | apply pw_below_drewN | apply below_drew1) | exact HB.out)))); have n2_ := Aside0.mk (below_step (by repeat (first | (with_reducible first | exact HB.out | apply below_alloc | apply pw_below_drewN | apply below_drew1) | exact HB.out)) hb); clear HO_0; clear HB; have HO_0 := n0_; have HO415 := n1_; have HB := n2_; clear n0_ n1_ n2_; (try clear hb); (try clear hb2); (try clear hk); (try clear hi); (try clear ho0)))
        (try simp only [Act.put, List.setIfInBounds_toArray, List.set_cons_zero, List.set_cons_succ])
        go_cut [59] (fun v59 wc => ∃ (kq : Nat) (x59_16 : Bool), v59 = .bool x59_16 ∧ Aside0 (footlockerlaw23_StripeParity.j2 kq l0 a1 t412 t413 x59_16 = some r) ∧ Aside0 (kq ≤ kj11) ∧ Aside0 (Kd.V (Kd.slice 5 (Kd.int .u8)) 22 wc w.heap.size (fun k_ => (P0_ k_ ∨ w.heap.size ≤ k_) ∧ some k_ ≠ (v414 : Value).ownBlock) (.slice A0 l0.length c0) l0) ∧ Aside0 (Kd.N (Kd.slice 5 (Kd.int .u8)) 22 wc w.heap.size (fun k_ => (P0_ k_ ∨ w.heap.size ≤ k_)) v414 t412) ∧ Aside0 (Below w.heap.size w wc))
        case first =>
         have H := HC17.out
         clear HC17
         by_cases c19 : (l0.length : Int) = 0
         ·rw [if_pos c19] at H
          have c19b0 : ((l0.length : Int) == 0) = true := beq_iff_eq.mpr c19
          have c19b1 : ((l0.length : Int) != 0) = false := bne_eq_false_iff_eq.mpr c19
          clear c19
          (first | rw [c19b0] | (simp only [i64_w, i32_w]; rw [c19b0]) | skip)
          have H' := Aside0.mk H
          clear H
          go_wp2
          go_meet
          case rel => exact ⟨_, (true), (by first | rfl | (simp; done) | (simp [*]; done)), H', ⟨by have := HK1.out; have := HJ11.out; first | omega | exact Nat.le_refl _⟩, ⟨by (with_reducible repeat (first | apply Kd.V_alloc | apply Kd.V_drewN | apply Kd.V_drew)); exact HO_0.out⟩, ⟨by (with_reducible repeat (first | apply Kd.N_alloc | apply Kd.N_drewN | apply Kd.N_drew)); exact HO415.out⟩, ⟨by repeat (first | (with_reducible first | exact HB.out | apply below_alloc | apply pw_below_drewN | apply below_drew1) | exact HB.out)⟩⟩
         ·rw [if_neg c19] at H
          have c19b0 : ((l0.length : Int) == 0) = false := beq_eq_false_iff_ne.mpr c19
          have c19b1 : ((l0.length : Int) != 0) = true := bne_iff_ne.mpr c19
          have c19b2 : ¬ (l0 = []) := fun h_ => c19 (by rw [h_]; rfl)
          (first | rw [c19b0] | (simp only [i64_w, i32_w]; rw [c19b0]) | skip)
          by_cases c20 : a1 < 0
          ·rw [if_pos c20] at H
           have c20b0 : decide (a1 < 0) = true := decide_eq_true c20
           clear c20
           have H' := Aside0.mk H
           clear H
           go_wp2
           go_meet
           case rel => exact ⟨_, (true), (by first | rfl | (simp; done) | (simp [*]; done)), H', ⟨by have := HK1.out; have := HJ11.out; first | omega | exact Nat.le_refl _⟩, ⟨by (with_reducible repeat (first | apply Kd.V_alloc | apply Kd.V_drewN | apply Kd.V_drew)); exact HO_0.out⟩, ⟨by (with_reducible repeat (first | apply Kd.N_alloc | apply Kd.N_drewN | apply Kd.N_drew)); exact HO415.out⟩, ⟨by repeat (first | (with_reducible first | exact HB.out | apply below_alloc | apply pw_below_drewN | apply below_drew1) | exact HB.out)⟩⟩
          ·rw [if_neg c20] at H
           have c20b0 : decide (a1 < 0) = false := decide_eq_false c20
           clear c20
           have H' := Aside0.mk H
           clear H
           go_wp2
           go_meet
           case rel => exact ⟨_, (!x5_1), (by first | rfl | (simp; done) | (simp [*]; done)), H', ⟨by have := HK1.out; have := HJ11.out; first | omega | exact Nat.le_refl _⟩, ⟨by (with_reducible repeat (first | apply Kd.V_alloc | apply Kd.V_drewN | apply Kd.V_drew)); exact HO_0.out⟩, ⟨by (with_reducible repeat (first | apply Kd.N_alloc | apply Kd.N_drewN | apply Kd.N_drew)); exact HO415.out⟩, ⟨by repeat (first | (with_reducible first | exact HB.out | apply below_alloc | apply pw_below_drewN | apply below_drew1) | exact HB.out)⟩⟩
        case rest =>
         clear HC17
         try clear c1
         try clear c2
         try clear p2
         try clear c4
         try clear p4
         try clear q4
         try clear hx4
         try clear qi4
         try clear c6
         try clear c6b0
         try clear p6
         try clear c7
         try clear c7b0
         try clear c8
         try clear c8b0
         try clear c9
         try clear c9b0
         try clear c9b1
         try clear c10
         try clear c11
         try clear c11b0
         try clear c11b1
         try clear c13
         try clear c13b0
         try clear c13b1
         try clear c14
         try clear c14b0
         try clear c15
         try clear c18
         try clear c19
         try clear c19b0
         try clear c19b1
         try clear c19b2
         try clear c20
         try clear c20b0
         try clear hx410_0
         try clear hx411_0
         try clear p2
         try clear p4
         try clear p410
         try clear p411
         try clear p6
         try clear q4
         try clear q410
         try clear q411
         obtain ⟨kq, x59_16, rfl, HA, HJ16, HO_0, HO_8, HB⟩ := hcut
         cases kq with
         | zero => exact absurd HA.out (by simp [footlockerlaw23_StripeParity.j2])
         | succ kj16 =>
          have H := HA.out
          clear HA
          simp only [footlockerlaw23_StripeParity.j2] at H
          by_cases c21 : x59_16 = true
          ·subst c21
           have H1 : (if t413 = 1 then (some ((t412.length : Int) == 0)) else (some false)) = some r := by rw [if_pos rfl] at H; exact H
           clear H
           have H := H1
           clear H1
           by_cases c22 : t413 = 1
           ·rw [if_pos c22] at H
            have c22b0 : (t413 == 1) = true := beq_iff_eq.mpr c22
            have c22b1 : (t413 != 1) = false := bne_eq_false_iff_eq.mpr c22
            clear c22
            obtain rfl := Option.some.inj H
            obtain ⟨Ao23, co23, eo23⟩ := Kd.N_slice HO_8.out
            subst eo23
            go_wp2
            go_ret
            exact ⟨by first | rfl | (simp [errW_none, errW_some] <;> rfl) | (simp [*, errW_none, errW_some] <;> rfl), by repeat (first | (with_reducible first | exact HB.out | apply below_alloc | apply pw_below_drewN | apply below_drew1) | exact HB.out)⟩
           ·rw [if_neg c22] at H
            have c22b0 : (t413 == 1) = false := beq_eq_false_iff_ne.mpr c22
            have c22b1 : (t413 != 1) = true := bne_iff_ne.mpr c22
            obtain rfl := Option.some.inj H
            go_wp2
            go_ret
            exact ⟨by first | rfl | (simp [errW_none, errW_some] <;> rfl) | (simp [*, errW_none, errW_some] <;> rfl), by repeat (first | (with_reducible first | exact HB.out | apply below_alloc | apply pw_below_drewN | apply below_drew1) | exact HB.out)⟩
          ·replace c21 := Bool.eq_false_iff.mpr c21
           subst c21
           have H1 : (if a1 ≥ 255 then (if t413 = 3 then (some ((t412.length : Int) == 0)) else (some false)) else (if t413 = 0 then ((some (([] : List (List Int)) : List (List Int))).bind fun y416 => (if y416.length + l0.length < 5864062014805 then ((some (y416 ++ l0 : List (List Int))).bind fun y419 => (if y419.length + t412.length < 5864062014805 then ((footlockerref23_All.f kj16 l0 a1).bind fun t425 => ((footlockerref21_Rows.f kj16 (y419 ++ t412) t425).bind fun t428 => (some t428))) else (none))) else (none))) else (some false))) = some r := by rw [if_neg (show ¬ (false = true) by decide)] at H; exact H
           clear H
           have H := H1
           clear H1
           by_cases c24 : a1 ≥ 255
           ·rw [if_pos c24] at H
            have c24b0 : decide (255 ≤ a1) = true := decide_eq_true c24
            clear c24
            by_cases c25 : t413 = 3
            ·rw [if_pos c25] at H
             have c25b0 : (t413 == 3) = true := beq_iff_eq.mpr c25
             have c25b1 : (t413 != 3) = false := bne_eq_false_iff_eq.mpr c25
             clear c25
             obtain rfl := Option.some.inj H
             obtain ⟨Ao26, co26, eo26⟩ := Kd.N_slice HO_8.out
             subst eo26
             go_wp2
             go_ret
             exact ⟨by first | rfl | (simp [errW_none, errW_some] <;> rfl) | (simp [*, errW_none, errW_some] <;> rfl), by repeat (first | (with_reducible first | exact HB.out | apply below_alloc | apply pw_below_drewN | apply below_drew1) | exact HB.out)⟩
            ·rw [if_neg c25] at H
             have c25b0 : (t413 == 3) = false := beq_eq_false_iff_ne.mpr c25
             have c25b1 : (t413 != 3) = true := bne_iff_ne.mpr c25
             obtain rfl := Option.some.inj H
             go_wp2
             go_ret
             exact ⟨by first | rfl | (simp [errW_none, errW_some] <;> rfl) | (simp [*, errW_none, errW_some] <;> rfl), by repeat (first | (with_reducible first | exact HB.out | apply below_alloc | apply pw_below_drewN | apply below_drew1) | exact HB.out)⟩
           ·rw [if_neg c24] at H
            have c24b0 : decide (255 ≤ a1) = false := decide_eq_false c24
            clear c24
            by_cases c27 : t413 = 0
            ·rw [if_pos c27] at H
             have c27b0 : (t413 == 0) = true := beq_iff_eq.mpr c27
             have c27b1 : (t413 != 0) = false := bne_eq_false_iff_eq.mpr c27
             clear c27
             obtain ⟨y416, hy416⟩ : ∃ y_ : List (List Int), y_ = (([] : List (List Int))) := ⟨_, rfl⟩
             replace H : (if y416.length + l0.length < 5864062014805 then ((some (y416 ++ l0 : List (List Int))).bind fun y419 => (if y419.length + t412.length < 5864062014805 then ((footlockerref23_All.f kj16 l0 a1).bind fun t425 => ((footlockerref21_Rows.f kj16 (y419 ++ t412) t425).bind fun t428 => (some t428))) else (none))) else (none)) = some r := by first | (rw [hy416]; with_reducible exact H) | (have H2_ := (Option.bind_some _ _).symm.trans H; rw [hy416]; with_reducible exact H2_) | (have H2_ := (Option.bind_some _ _).symm.trans H; with_reducible exact H2_) | with_reducible exact H | (rw [hy416]; exact H) | exact H
             have Ny416 := Aside0.mk hy416
             clear hy416
             by_cases c28 : y416.length + l0.length < 5864062014805
             ·rw [if_pos c28] at H
              have LMc28 := Aside0.mk c28
              clear c28
              obtain ⟨y419, hy419⟩ : ∃ y_ : List (List Int), y_ = (y416 ++ l0) := ⟨_, rfl⟩
              replace H : (if y419.length + t412.length < 5864062014805 then ((footlockerref23_All.f kj16 l0 a1).bind fun t425 => ((footlockerref21_Rows.f kj16 (y419 ++ t412) t425).bind fun t428 => (some t428))) else (none)) = some r := by first | (rw [hy419]; with_reducible exact H) | (have H2_ := (Option.bind_some _ _).symm.trans H; rw [hy419]; with_reducible exact H2_) | (have H2_ := (Option.bind_some _ _).symm.trans H; with_reducible exact H2_) | with_reducible exact H | (rw [hy419]; exact H) | exact H
              have Ny419 := Aside0.mk hy419
              clear hy419
              by_cases c29 : y419.length + t412.length < 5864062014805
              ·rw [if_pos c29] at H
               have LMc29 := Aside0.mk c29
               clear c29
               obtain ⟨y422, hy422⟩ : ∃ y_ : List (List Int), y_ = (y419 ++ t412) := ⟨_, rfl⟩
               replace H : ((footlockerref23_All.f kj16 l0 a1).bind fun t425 => ((footlockerref21_Rows.f kj16 y422 t425).bind fun t428 => (some t428))) = some r := by first | (rw [hy422]; with_reducible exact H) | (have H2_ := (Option.bind_some _ _).symm.trans H; rw [hy422]; with_reducible exact H2_) | (have H2_ := (Option.bind_some _ _).symm.trans H; with_reducible exact H2_) | with_reducible exact H | (rw [hy422]; exact H) | exact H
               have Ny422 := Aside0.mk hy422
               clear hy422
               replace H := Option.bind_eq_some_iff.mp H
               obtain ⟨t425, A300, H⟩ := H
               replace H : ((footlockerref21_Rows.f kj16 y422 t425).bind fun t428 => (some t428)) = some r := H
               have A30 := Aside0.mk A300
               clear A300
               replace H := Option.bind_eq_some_iff.mp H
               obtain ⟨t428, A310, H⟩ := H
               replace H : (some t428) = some r := H
               have A31 := Aside0.mk A310
               clear A310
               obtain rfl := Option.some.inj H
               go_wp2_with (first | ((with_reducible refine gate_dst (N := 79) rfl ?_); (try (refine gate_guard (by rfl) ?_; dsimp only)); refine Kd.N_lit (Kd.slice 5 (Kd.int .u8)) _ 22 ?hg (N' := 79) ?hd (xs := ([] : List (List Int))) (inner := []) (ok := (fun k_ => (P0_ k_ ∨ w.heap.size ≤ k_) ∧ some k_ ≠ (v414 : Value).ownBlock)) (okp := (fun k_ => (P0_ k_ ∨ w.heap.size ≤ k_) ∧ some k_ ≠ (v414 : Value).ownBlock)) ?hr ?hp (fun _ hk => hk) ((show ∀ k_, wc.heap.size ≤ k_ → (fun k_ => (P0_ k_ ∨ w.heap.size ≤ k_) ∧ some k_ ≠ (v414 : Value).ownBlock) k_ from fun k_ hk => ⟨(.inr (Nat.le_trans (below_size (by repeat (first | (with_reducible first | exact HB.out | apply below_alloc | apply pw_below_drewN | apply below_drew1) | exact HB.out))) hk)), Kd.fresh' (Kd.N_lt (by (with_reducible repeat (first | apply Kd.N_alloc | apply Kd.N_drewN | apply Kd.N_drew)); exact HO_8.out)) k_ hk⟩) _ (Nat.le_refl _)) (Below.refl _ _) (Nat.le_refl _) (by simp) ?_; (case hd => rfl); (case hg => rfl); (case hr => first | (go_simp; done) | (go_simp; rfl)); (case hp => exact (Reps.none _ _)); intro v417 w32 ho33 hb hg_ hnew_; clear hg_ hnew_; (first | rw [← Ny416.out] at ho33 | (simp only [Int.reduceToNat] at ho33; rw [← Ny416.out] at ho33)); have n0_ := Aside0.mk (Kd.V_elder' (by (with_reducible repeat (first | apply Kd.V_alloc | apply Kd.V_drewN | apply Kd.V_drew)); exact HO_0.out) (by first | exact Kd.N_base ho33 | exact Kd.S_base ho33) hb); have n1_ := Aside0.mk (Kd.N_elder' (by (with_reducible repeat (first | apply Kd.N_alloc | apply Kd.N_drewN | apply Kd.N_drew)); exact HO_8.out) (by first | exact Kd.N_base ho33 | exact Kd.S_base ho33) hb); have n2_ := Aside0.mk (Kd.N_lower ho33 (below_size (by repeat (first | (with_reducible first | exact HB.out | apply below_alloc | apply pw_below_drewN | apply below_drew1) | exact HB.out)))); have n3_ := Aside0.mk (below_step (by repeat (first | (with_reducible first | exact HB.out | apply below_alloc | apply pw_below_drewN | apply below_drew1) | exact HB.out)) hb); clear HO_0; clear HO_8; clear HB; have HO_0 := n0_; have HO_8 := n1_; have HO418 := n2_; have HB := n3_; clear n0_ n1_ n2_ n3_; clear hb ho33) | ((with_reducible refine gate_builtin (b := .append) (xs := #[.tmp 79, .tmp 80]) rfl ?_); (try (refine gate_guard (by rfl) ?_; dsimp only)); at_builtin; refine Kd.N_append_rows (Kd.slice 5 (Kd.int .u8)) (w0 := w) w.heap.size rfl (.tmp 79) (.tmp 80) 40 22 (.slice none 0 0) 24 rfl Try.underlying40 info22 rfl (by decide) (by omega) v417 y416 l0 _ _ _ (fun k_ => (P0_ k_ ∨ w.heap.size ≤ k_) ∧ some k_ ≠ (v414 : Value).ownBlock) (fun k_ => ((fun k_ => (P0_ k_ ∨ w.heap.size ≤ k_) ∧ some k_ ≠ (v414 : Value).ownBlock)) k_ ∧ some k_ ≠ (v417 : Value).ownBlock) rfl rfl ?aO ?aR (fun _ hk => hk) ?aF ?aB ?aS ?aL ?_; (case aR => exact (by skip; exact Kd.V_F (Kd.V_mono (ok' := (fun k_ => ((fun k_ => (P0_ k_ ∨ w.heap.size ≤ k_) ∧ some k_ ≠ (v414 : Value).ownBlock)) k_ ∧ some k_ ≠ (v417 : Value).ownBlock)) (HO_0.out) (fun k_ hk => ⟨⟨hk.1.1, hk.1.2⟩, hk.2⟩)))); (case aB => exact (by repeat (first | (with_reducible first | exact HB.out | apply below_alloc | apply pw_below_drewN | apply below_drew1) | exact HB.out))); (case aF => exact (fun k_ hk => ⟨(.inr (Nat.le_trans (below_size (by repeat (first | (with_reducible first | exact HB.out | apply below_alloc | apply pw_below_drewN | apply below_drew1) | exact HB.out))) hk)), Kd.fresh' (Kd.N_lt (by (with_reducible repeat (first | apply Kd.N_alloc | apply Kd.N_drewN | apply Kd.N_drew)); exact HO_8.out)) k_ hk⟩)); (case aO => exact (by (with_reducible repeat (first | apply Kd.N_alloc | apply Kd.N_drewN | apply Kd.N_drew)); exact HO418.out)); (case aS => exact (below_size (by repeat (first | (with_reducible first | exact HB.out | apply below_alloc | apply pw_below_drewN | apply below_drew1) | exact HB.out)))); (case aL => have := LMc28.out; omega); intro v420 w34 ho hb hg hat; rw [← Ny419.out] at ho; have n0_ := Aside0.mk (Kd.V_afterv (ok := (fun k_ => (P0_ k_ ∨ w.heap.size ≤ k_) ∧ some k_ ≠ (v414 : Value).ownBlock)) (by (with_reducible repeat (first | apply Kd.V_alloc | apply Kd.V_drewN | apply Kd.V_drew)); exact HO_0.out) hg hat); have n1_ := Aside0.mk (Kd.N_afterv (ok := (fun k_ => (P0_ k_ ∨ w.heap.size ≤ k_))) (by (with_reducible repeat (first | apply Kd.N_alloc | apply Kd.N_drewN | apply Kd.N_drew)); exact HO_8.out) hg hat); have n2_ := Aside0.mk (hb); have n3_ := Aside0.mk (ho); clear HO_0; clear HO_8; clear HB; clear HO418; have HO_0 := n0_; have HO_8 := n1_; have HB := n2_; have HO421 := n3_; clear n0_ n1_ n2_ n3_; clear ho hb hg hat; obtain ⟨Ao36, co36, eo36⟩ := Kd.N_slice HO_8.out; subst eo36) | ((with_reducible refine gate_builtin (b := .append) (xs := #[.tmp 81, .tmp 82]) rfl ?_); (try (refine gate_guard (by rfl) ?_; dsimp only)); at_builtin; refine Kd.N_append_rows (Kd.slice 5 (Kd.int .u8)) (w0 := w) w.heap.size rfl (.tmp 81) (.tmp 82) 40 22 (.slice none 0 0) 24 rfl Try.underlying40 info22 rfl (by decide) (by omega) v420 y419 t412 _ _ _ (fun k_ => (P0_ k_ ∨ w.heap.size ≤ k_)) (fun k_ => ((fun k_ => (P0_ k_ ∨ w.heap.size ≤ k_))) k_ ∧ some k_ ≠ (v420 : Value).ownBlock) rfl rfl ?aO ?aR (fun _ hk => hk) ?aF ?aB ?aS ?aL ?_; (case aR => exact (by skip; exact Kd.N_F (Kd.N_mono (ok' := (fun k_ => ((fun k_ => (P0_ k_ ∨ w.heap.size ≤ k_))) k_ ∧ some k_ ≠ (v420 : Value).ownBlock)) (HO_8.out) (fun k_ hk => ⟨hk.1, hk.2⟩)))); (case aB => exact (by repeat (first | (with_reducible first | exact HB.out | apply below_alloc | apply pw_below_drewN | apply below_drew1) | exact HB.out))); (case aF => exact (fun k_ hk => (.inr (Nat.le_trans (below_size (by repeat (first | (with_reducible first | exact HB.out | apply below_alloc | apply pw_below_drewN | apply below_drew1) | exact HB.out))) hk)))); (case aO => exact (by (with_reducible repeat (first | apply Kd.N_alloc | apply Kd.N_drewN | apply Kd.N_drew)); exact Kd.N_mono HO421.out (fun _ hk => hk.1))); (case aS => exact (below_size (by repeat (first | (with_reducible first | exact HB.out | apply below_alloc | apply pw_below_drewN | apply below_drew1) | exact HB.out)))); (case aL => have := LMc29.out; omega); intro v423 w35 ho hb hg hat; rw [← Ny422.out] at ho; have n0_ := Aside0.mk (Kd.V_afterv (ok := (fun k_ => (P0_ k_ ∨ w.heap.size ≤ k_) ∧ some k_ ≠ (.slice Ao36 t412.length co36 : Value).ownBlock)) (by (with_reducible repeat (first | apply Kd.V_alloc | apply Kd.V_drewN | apply Kd.V_drew)); exact HO_0.out) hg hat); have n1_ := Aside0.mk (Kd.N_afterv (ok := (fun k_ => (P0_ k_ ∨ w.heap.size ≤ k_))) (by (with_reducible repeat (first | apply Kd.N_alloc | apply Kd.N_drewN | apply Kd.N_drew)); exact HO_8.out) hg hat); have n2_ := Aside0.mk (hb); have n3_ := Aside0.mk (ho); clear HO_0; clear HO_8; clear HB; clear HO421; have HO_0 := n0_; have HO_8 := n1_; have HB := n2_; have HO424 := n3_; clear n0_ n1_ n2_ n3_; clear ho hb hg hat) | (go_at_call 20; (with_reducible refine (footlockerref23_All.calls kj16 (fun k_ => (((P0_ k_ ∨ w.heap.size ≤ k_) ∧ some k_ ≠ (.slice Ao36 t412.length co36 : Value).ownBlock) ∧ some k_ ≠ (v423 : Value).ownBlock)) _ _ l0 a1 t425 _ ?side1 A30.out).mono ?_); (case side1 => exact HO_0.out); rintro e w37 ⟨v426, rfl, ho0, hb⟩; have n0_ := Aside0.mk (Kd.V_below (by (with_reducible repeat (first | apply Kd.V_alloc | apply Kd.V_drewN | apply Kd.V_drew)); exact HO_0.out) hb); have n1_ := Aside0.mk (Kd.N_below (by (with_reducible repeat (first | apply Kd.N_alloc | apply Kd.N_drewN | apply Kd.N_drew)); exact HO_8.out) hb); have n2_ := Aside0.mk (Kd.N_below (by (with_reducible repeat (first | apply Kd.N_alloc | apply Kd.N_drewN | apply Kd.N_drew)); exact HO424.out) hb); have n3_ := Aside0.mk (Kd.V_lower (Kd.V_mono (ok' := fun k_ => (P0_ k_ ∨ w.heap.size ≤ k_) ∧ some k_ ≠ (.slice Ao36 t412.length co36 : Value).ownBlock ∧ some k_ ≠ (v423 : Value).ownBlock) ho0 (fun k_ hk_ => ⟨Or.elim hk_ (fun hs_ => hs_.1.1) (fun hn_ => (.inr (Nat.le_trans (below_size (by repeat (first | (with_reducible first | exact HB.out | apply below_alloc | apply pw_below_drewN | apply below_drew1) | exact HB.out))) hn_))), Or.elim hk_ (fun hs_ => hs_.1.2) (fun hn_ => (Kd.fresh' (Kd.N_lt (by (with_reducible repeat (first | apply Kd.N_alloc | apply Kd.N_drewN | apply Kd.N_drew)); exact HO_8.out)) k_ hn_)), Or.elim hk_ (fun hs_ => hs_.2) (fun hn_ => (Kd.fresh' (Kd.N_lt (by (with_reducible repeat (first | apply Kd.N_alloc | apply Kd.N_drewN | apply Kd.N_drew)); exact HO424.out)) k_ hn_))⟩)) (below_size (by repeat (first | (with_reducible first | exact HB.out | apply below_alloc | apply pw_below_drewN | apply below_drew1) | exact HB.out)))); have n4_ := Aside0.mk (below_step (by repeat (first | (with_reducible first | exact HB.out | apply below_alloc | apply pw_below_drewN | apply below_drew1) | exact HB.out)) hb); clear HO_0; clear HO_8; clear HO424; clear HB; have HO_0 := n0_; have HO_8 := n1_; have HO424 := n2_; have HO427 := n3_; have HB := n4_; clear n0_ n1_ n2_ n3_ n4_; (try clear hb); (try clear hb2); (try clear hk); (try clear hi); (try clear ho0); obtain ⟨Ao38, co38, eo38⟩ := Kd.N_slice HO424.out; subst eo38; obtain ⟨Ao39, co39, eo39⟩ := Kd.V_slice HO427.out; subst eo39) | (go_at_call 19; (with_reducible refine (footlockerref21_Rows.calls kj16 _ _ y422 _ _ t425 t428 _ ?side1 ?side2 ?side3 ?side4 A31.out).mono ?_); (case side1 => repeat (first | exact (Kd.N_reads' HO424.out).2.2 | (with_reducible refine Kd.C_alloc ?_ _) | (with_reducible refine Kd.C_drewN ?_ _) | (with_reducible refine Kd.C_drew ?_))); (case side2 => exact (Kd.N_reads' HO424.out).2.1); (case side3 => repeat (first | exact (Kd.V_reads' HO427.out).2.2 | (with_reducible refine Kd.C_alloc ?_ _) | (with_reducible refine Kd.C_drewN ?_ _) | (with_reducible refine Kd.C_drew ?_))); (case side4 => exact (Kd.V_reads' HO427.out).2.1); rintro e w' ⟨rfl, ⟨nd, rfl⟩⟩))
               go_ret
               exact ⟨by first | rfl | (simp [errW_none, errW_some] <;> rfl) | (simp [*, errW_none, errW_some] <;> rfl), by repeat (first | (with_reducible first | exact HB.out | apply below_alloc | apply pw_below_drewN | apply below_drew1) | exact HB.out)⟩
              ·rw [if_neg c29] at H
               exact absurd H (by simp)
             ·rw [if_neg c28] at H
              exact absurd H (by simp)
            ·rw [if_neg c27] at H
             have c27b0 : (t413 == 0) = false := beq_eq_false_iff_ne.mpr c27
             have c27b1 : (t413 != 0) = true := bne_iff_ne.mpr c27
             obtain rfl := Option.some.inj H
             go_wp2
             go_ret
             exact ⟨by first | rfl | (simp [errW_none, errW_some] <;> rfl) | (simp [*, errW_none, errW_some] <;> rfl), by repeat (first | (with_reducible first | exact HB.out | apply below_alloc | apply pw_below_drewN | apply below_drew1) | exact HB.out)⟩
 ·replace c4 := Bool.eq_false_iff.mpr c4
  subst c4
  have H1 : (some false) = some r := by rw [if_neg (show ¬ (false = true) by decide)] at H; exact H
  clear H
  have H := H1
  clear H1
  obtain rfl := Option.some.inj H
  go_enter Try.func4, Try.ntmps4
  go_wp2_with (first | ((with_reducible refine gate_callee (f := 7) rfl ?_); refine goesL_ (some 10) rfl rfl Try.func7 (by kernel_rfl) rfl #[] rfl (by (try simp only [List.map_toArray, List.map_cons, List.map_nil]); first | done | rfl | (simp only [List.length_drop, List.length_take]; rfl)) ?_; (with_reducible refine (footlockerlaw23_alive.calls k  false _ A3.out).mono ?_); rintro e w40 ⟨rfl, hb⟩; refine ⟨_, rfl, ?_⟩; have n0_ := Aside0.mk (Kd.V_below (by (with_reducible repeat (first | apply Kd.V_alloc | apply Kd.V_drewN | apply Kd.V_drew)); exact HO0.out) hb); have n1_ := Aside0.mk (below_step (by repeat (first | (with_reducible first | exact HB.out | apply below_alloc | apply pw_below_drewN | apply below_drew1) | exact HB.out)) hb); clear HO0; clear HB; have HO0 := n0_; have HB := n1_; clear n0_ n1_; (try clear hb); (try clear hb2); (try clear hk); (try clear hi)))
  go_ret
  exact ⟨by first | rfl | (simp [errW_none, errW_some] <;> rfl) | (simp [*, errW_none, errW_some] <;> rfl), by repeat (first | (with_reducible first | exact HB.out | apply below_alloc | apply pw_below_drewN | apply below_drew1) | exact HB.out)⟩
def footlockerlaw23_StripeParity.Pure : Prop := ∀ (l0 : List (List Int)) (a1 : Int), (l0.length ≤ maxLen ∧ ∀ x2_ ∈ l0, x2_.length ≤ maxLen ∧ ∀ x3_ ∈ x2_, (Lit.int .u8 x3_).wf = true) → ((Lit.int .i64 a1).wf = true) → ∃ k, footlockerlaw23_StripeParity.f k l0 a1 = some true
theorem footlockerlaw23_StripeParity.walk (P : footlockerlaw23_StripeParity.Pure) (A0 : Option Addr) (c0 : Nat) (l0 : List (List Int)) (a1 : Int) (w : World) (hr0 : Kd.C (Kd.slice 5 (Kd.int .u8)) w A0 l0.length l0) (hc0 : l0.length ≤ c0) (w0 : l0.length ≤ maxLen ∧ ∀ x2_ ∈ l0, x2_.length ≤ maxLen ∧ ∀ x3_ ∈ x2_, (Lit.int .u8 x3_).wf = true) (w1 : (Lit.int .i64 a1).wf = true) :
 Calls Try.prog 4 #[.slice A0 l0.length c0, .int .i64 a1] w fun e w' => e = .returned (.bool true) ∧ Below w.heap.size w w' := by
 obtain ⟨k, h⟩ := P l0 a1 w0 w1
 refine (footlockerlaw23_StripeParity.calls k (fun k_ => k_ < w.heap.size) A0 c0 l0 a1 true w (Kd.V_mk hc0 (Kd.C_F (Kd.heap_slice 5 (Kd.heap_int .u8)) hr0)) h).mono ?_
 rintro e w' ⟨rfl, hd⟩
 exact ⟨rfl, hd⟩
end Go.Proofs.Ytcdmgppjhdpgkaa.P
namespace Go.Proofs.Ytcdmgppjhdpgkaa.Al
open Go Go.Proofs.YtcdmgppjhdpgkaaW.PrintWords Go.Proofs.YtcdmgppjhdpgkaaW.PrintMore
structure G where
 v : BitVec 8
theorem G.eq_of {a b : G} (h : a.v = b.v) : a = b := by cases a; cases b; simp_all
instance : DecidableEq G := fun a b => if h : a.v = b.v then .isTrue (G.eq_of h) else .isFalse (fun e => h (by rw [e]))
instance : Zero G := ⟨⟨0#8⟩⟩
instance : Add G := ⟨fun a b => ⟨a.v ^^^ b.v⟩⟩
def xt (a : BitVec 8) : BitVec 8 := (a <<< 1) ^^^ (if a.getLsbD 7 then 0x1D#8 else 0#8)
def cb (c : Bool) (a : BitVec 8) : BitVec 8 := if c then a else 0#8
def gm (a b : BitVec 8) : BitVec 8 :=
 cb (b.getLsbD 0) a ^^^ (cb (b.getLsbD 1) (xt a) ^^^ (cb (b.getLsbD 2) (xt (xt a)) ^^^ (cb (b.getLsbD 3) (xt (xt (xt a))) ^^^ (cb (b.getLsbD 4) (xt (xt (xt (xt a)))) ^^^
  (cb (b.getLsbD 5) (xt (xt (xt (xt (xt a))))) ^^^ (cb (b.getLsbD 6) (xt (xt (xt (xt (xt (xt a)))))) ^^^ cb (b.getLsbD 7) (xt (xt (xt (xt (xt (xt (xt a)))))))))))))
instance : One G := ⟨⟨1#8⟩⟩
instance : Mul G := ⟨fun a b => ⟨gm a.v b.v⟩⟩
theorem zero_v : (0 : G).v = 0#8 := rfl
theorem add_v (a b : G) : (a + b).v = a.v ^^^ b.v := rfl
theorem cb_xor (c d : Bool) (a : BitVec 8) : cb (c ^^ d) a = cb c a ^^^ cb d a := by
 cases c <;> cases d <;> simp [cb]
theorem cb_add (c : Bool) (a b : BitVec 8) : cb c (a ^^^ b) = cb c a ^^^ cb c b := by
 cases c <;> simp [cb]
theorem xt_add (a b : BitVec 8) : xt (a ^^^ b) = xt a ^^^ xt b := by
 unfold xt
 have h : (a ^^^ b).getLsbD 7 = (a.getLsbD 7 ^^ b.getLsbD 7) := by simp
 have e : ∀ c : Bool, (if c then 0x1D#8 else 0#8) = cb c 0x1D#8 := fun _ => rfl
 rw [h, e, e, e, cb_xor, BitVec.shiftLeft_xor_distrib]
 ac_rfl
theorem gm_xor_right (a b c : BitVec 8) : gm a (b ^^^ c) = gm a b ^^^ gm a c := by
 unfold gm
 simp only [BitVec.getLsbD_xor, cb_xor]
 ac_rfl
theorem gm_xor_left (a b c : BitVec 8) : gm (a ^^^ b) c = gm a c ^^^ gm b c := by
 unfold gm
 simp only [xt_add, cb_add]
 ac_rfl
theorem sum_bits : ∀ a : Fin 256, (BitVec.ofFin a : BitVec 8) = cb ((BitVec.ofFin a : BitVec 8).getLsbD 0) 1#8 ^^^ (cb ((BitVec.ofFin a : BitVec 8).getLsbD 1) 2#8 ^^^ (cb ((BitVec.ofFin a : BitVec 8).getLsbD 2) 4#8 ^^^ (cb ((BitVec.ofFin a : BitVec 8).getLsbD 3) 8#8 ^^^ (cb ((BitVec.ofFin a : BitVec 8).getLsbD 4) 16#8 ^^^
 (cb ((BitVec.ofFin a : BitVec 8).getLsbD 5) 32#8 ^^^ (cb ((BitVec.ofFin a : BitVec 8).getLsbD 6) 64#8 ^^^ cb ((BitVec.ofFin a : BitVec 8).getLsbD 7) 128#8)))))) := by decide +kernel
theorem basis_ind (P : BitVec 8 → Prop) (h0 : P 0#8) (ha : ∀ a b, P a → P b → P (a ^^^ b)) (hb : ∀ i : Fin 8, P (1#8 <<< i.val)) (a : BitVec 8) : P a := by
 have hc : ∀ (c : Bool) (x : BitVec 8), P x → P (cb c x) := by
  intro c x hx
  cases c
  ·exact h0
  ·exact hx
 have h := sum_bits a.toFin
 rw [show (BitVec.ofFin a.toFin : BitVec 8) = a from rfl] at h
 rw [h]
 exact ha _ _ (hc _ _ (hb 0)) (ha _ _ (hc _ _ (hb 1)) (ha _ _ (hc _ _ (hb 2)) (ha _ _ (hc _ _ (hb 3)) (ha _ _ (hc _ _ (hb 4)) (ha _ _ (hc _ _ (hb 5)) (ha _ _ (hc _ _ (hb 6)) (hc _ _ (hb 7))))))))
theorem gm_zero_right (a : BitVec 8) : gm a 0#8 = 0#8 := by simp [gm, cb]
theorem gm_zero_left (a : BitVec 8) : gm 0#8 a = 0#8 := by
 have h : xt 0#8 = 0#8 := rfl
 have e : ∀ c, cb c 0#8 = 0#8 := by intro c; cases c <;> rfl
 simp [gm, h, e]
theorem comm_basis : ∀ i j : Fin 8, gm (1#8 <<< i.val) (1#8 <<< j.val) = gm (1#8 <<< j.val) (1#8 <<< i.val) := by decide +kernel
theorem assoc_basis : ∀ i j k : Fin 8, gm (gm (1#8 <<< i.val) (1#8 <<< j.val)) (1#8 <<< k.val) = gm (1#8 <<< i.val) (gm (1#8 <<< j.val) (1#8 <<< k.val)) := by decide +kernel
theorem gm_comm (a b : BitVec 8) : gm a b = gm b a := by
 refine basis_ind (fun a => gm a b = gm b a) ?_ ?_ ?_ a
 ·rw [gm_zero_left, gm_zero_right]
 ·intro x y hx hy
  rw [gm_xor_left, gm_xor_right, hx, hy]
 ·intro i
  refine basis_ind (fun b => gm (1#8 <<< i.val) b = gm b (1#8 <<< i.val)) ?_ ?_ ?_ b
  ·rw [gm_zero_left, gm_zero_right]
  ·intro x y hx hy
   rw [gm_xor_left, gm_xor_right, hx, hy]
  ·exact fun j => comm_basis i j
theorem gm_assoc (a b c : BitVec 8) : gm (gm a b) c = gm a (gm b c) := by
 refine basis_ind (fun a => gm (gm a b) c = gm a (gm b c)) ?_ ?_ ?_ a
 ·simp only [gm_zero_left]
 ·intro x y hx hy
  simp only [gm_xor_left, hx, hy]
 ·intro i
  refine basis_ind (fun b => gm (gm (1#8 <<< i.val) b) c = gm (1#8 <<< i.val) (gm b c)) ?_ ?_ ?_ b
  ·simp only [gm_zero_left, gm_zero_right]
  ·intro x y hx hy
   simp only [gm_xor_left, gm_xor_right, hx, hy]
  ·intro j
   refine basis_ind (fun c => gm (gm (1#8 <<< i.val) (1#8 <<< j.val)) c = gm (1#8 <<< i.val) (gm (1#8 <<< j.val) c)) ?_ ?_ ?_ c
   ·simp only [gm_zero_right]
   ·intro x y hx hy
    simp only [gm_xor_right, hx, hy]
   ·exact fun k => assoc_basis i j k
theorem gm_one (a : BitVec 8) : gm a 1#8 = a := by
 have : ∀ a : Fin 256, gm (BitVec.ofFin a) 1#8 = BitVec.ofFin a := by decide +kernel
 exact this a.toFin
theorem add_comm (a b : G) : a + b = b + a := G.eq_of (BitVec.xor_comm _ _)
theorem add_assoc (a b c : G) : a + b + c = a + (b + c) := G.eq_of (BitVec.xor_assoc _ _ _)
theorem add_left_comm (a b c : G) : a + (b + c) = b + (a + c) := by rw [← add_assoc, add_comm a b, add_assoc]
theorem add_zero (a : G) : a + 0 = a := G.eq_of (by simp [add_v, zero_v])
theorem zero_add (a : G) : 0 + a = a := by rw [add_comm, add_zero]
theorem add_self (a : G) : a + a = 0 := G.eq_of (by simp [add_v, zero_v])
theorem add_add_self (a b : G) : a + (a + b) = b := by rw [← add_assoc, add_self, zero_add]
theorem add_eq_zero {a b : G} : a + b = 0 ↔ a = b := by
 constructor
 ·intro h
  have := add_add_self a b
  rw [h, add_zero] at this
  exact this
 ·rintro rfl
  exact add_self a
theorem mul_comm (a b : G) : a * b = b * a := G.eq_of (gm_comm _ _)
theorem mul_assoc (a b c : G) : a * b * c = a * (b * c) := G.eq_of (gm_assoc _ _ _)
theorem mul_left_comm (a b c : G) : a * (b * c) = b * (a * c) := by rw [← mul_assoc, mul_comm a b, mul_assoc]
theorem mul_add (a b c : G) : a * (b + c) = a * b + a * c := G.eq_of (gm_xor_right _ _ _)
theorem add_mul (a b c : G) : (a + b) * c = a * c + b * c := G.eq_of (gm_xor_left _ _ _)
theorem mul_zero (a : G) : a * 0 = 0 := G.eq_of (gm_zero_right _)
theorem zero_mul (a : G) : 0 * a = 0 := G.eq_of (gm_zero_left _)
theorem mul_one (a : G) : a * 1 = a := G.eq_of (gm_one _)
theorem one_mul (a : G) : 1 * a = a := by rw [mul_comm, mul_one]
theorem one_ne_zero : (1 : G) ≠ 0 := by decide
def p254 (a : G) : G :=
 let b := a * a
 let c := b * b
 let d := c * c
 let e := d * d
 let f := e * e
 let g := f * f
 let h := g * g
 b * c * d * e * f * g * h
instance : Std.Commutative (α := G) (· + ·) := ⟨add_comm⟩
instance : Std.Associative (α := G) (· + ·) := ⟨add_assoc⟩
instance : Std.Commutative (α := G) (· * ·) := ⟨mul_comm⟩
instance : Std.Associative (α := G) (· * ·) := ⟨mul_assoc⟩
theorem inv_all : ∀ a : Fin 256, a.val ≠ 0 → (⟨BitVec.ofFin a⟩ : G) * p254 ⟨BitVec.ofFin a⟩ = 1 := by decide +kernel
def inv (a : G) : G := p254 a
theorem mul_inv {a : G} (h : a ≠ 0) : a * inv a = 1 := by
 have := inv_all a.v.toFin (by
  intro e
  apply h
  apply G.eq_of
  exact BitVec.eq_of_toNat_eq e)
 exact this
theorem inv_zero : inv 0 = 0 := by decide +kernel
theorem inv_mul {a : G} (h : a ≠ 0) : inv a * a = 1 := by rw [mul_comm, mul_inv h]
theorem mul_eq_zero {a b : G} : a * b = 0 ↔ a = 0 ∨ b = 0 := by
 constructor
 ·intro h
  by_cases ha : a = 0
  ·exact .inl ha
  ·right
   have := congrArg (inv a * ·) h
   simp only [← mul_assoc, inv_mul ha, one_mul, mul_zero] at this
   exact this
 ·rintro (rfl | rfl)
  ·exact zero_mul _
  ·exact mul_zero _
theorem mul_ne_zero {a b : G} (ha : a ≠ 0) (hb : b ≠ 0) : a * b ≠ 0 := fun h => (mul_eq_zero.1 h).elim ha hb
theorem mul_left_inj {a b c : G} (ha : a ≠ 0) (h : a * b = a * c) : b = c := by
 have := congrArg (inv a * ·) h
 simpa only [← mul_assoc, inv_mul ha, one_mul] using this
theorem inv_unique {a b : G} (h : a * b = 1) : b = inv a := by
 have ha : a ≠ 0 := by
  rintro rfl
  rw [zero_mul] at h
  exact one_ne_zero h.symm
 exact mul_left_inj ha (h.trans (mul_inv ha).symm)
def G.i (a : G) : Int := (a.v.toNat : Int)
def G.of (x : Int) : G := ⟨BitVec.ofInt 8 x⟩
theorem i_nonneg (a : G) : 0 ≤ a.i := by unfold G.i; omega
theorem i_lt (a : G) : a.i < 256 := by unfold G.i; have := a.v.isLt; omega
theorem i_le (a : G) : a.i ≤ 255 := by have := i_lt a; omega
theorem i_inj {a b : G} : a.i = b.i ↔ a = b := by
 constructor
 ·intro h
  apply G.eq_of
  apply BitVec.eq_of_toNat_eq
  unfold G.i at h
  omega
 ·rintro rfl
  rfl
theorem of_i (a : G) : G.of a.i = a := by
 apply G.eq_of
 simp [G.of, G.i]
theorem i_of {x : Int} (h0 : 0 ≤ x) (h1 : x < 256) : (G.of x).i = x := by
 simp only [G.of, G.i, BitVec.toNat_ofInt]
 omega
theorem i_zero : (0 : G).i = 0 := rfl
theorem i_one : (1 : G).i = 1 := rfl
theorem i_eq_zero {a : G} : a.i = 0 ↔ a = 0 := by rw [← i_zero, i_inj]
theorem xor_i (a b : G) : Go.bits .xor .u8 a.i b.i = (a + b).i := by
 unfold Go.bits G.i
 simp only [IntKind.wrap_u8]
 show ((BitVec.ofInt 8 (a.v.toNat : Int) ^^^ BitVec.ofInt 8 (b.v.toNat : Int)).toNat : Int) % 256 = ((a.v ^^^ b.v).toNat : Int)
 simp only [BitVec.ofInt_natCast, BitVec.ofNat_toNat, BitVec.setWidth_eq]
 have := (a.v ^^^ b.v).isLt
 omega
end Go.Proofs.Ytcdmgppjhdpgkaa.Al
namespace Go.Proofs.Ytcdmgppjhdpgkaa.Al
set_option linter.unusedVariables false
set_option linter.unusedSimpArgs false
def co (p : List G) (i : Nat) : G := p.getD i 0
theorem co_nil (i : Nat) : co [] i = 0 := rfl
theorem co_succ (a : G) (p : List G) (i : Nat) : co (a :: p) (i + 1) = co p i := rfl
theorem co_lt {p : List G} {i : Nat} (h : i < p.length) : co p i = p[i] := by
 simp [co, List.getD_eq_getElem?_getD, List.getElem?_eq_getElem h]
theorem co_ge {p : List G} {i : Nat} (h : p.length ≤ i) : co p i = 0 := by
 simp [co, List.getD_eq_getElem?_getD, List.getElem?_eq_none h]
theorem co_take (p : List G) (n i : Nat) : co (p.take n) i = if i < n then co p i else 0 := by
 simp only [co, List.getD_eq_getElem?_getD, List.getElem?_take]
 split <;> rfl
theorem co_drop (p : List G) (n i : Nat) : co (p.drop n) i = co p (n + i) := by
 simp only [co, List.getD_eq_getElem?_getD, List.getElem?_drop]
theorem co_append (p q : List G) (i : Nat) : co (p ++ q) i = if i < p.length then co p i else co q (i - p.length) := by
 simp only [co, List.getD_eq_getElem?_getD, List.getElem?_append]
 split <;> rfl
theorem co_set (p : List G) (n i : Nat) (a : G) (h : n < p.length) : co (p.set n a) i = if i = n then a else co p i := by
 simp only [co, List.getD_eq_getElem?_getD, List.getElem?_set]
 by_cases e : n = i
 ·subst e
  simp [h]
 ·simp [e, Ne.symm e]
theorem co_replicate (n i : Nat) : co (List.replicate n 0) i = 0 := by
 simp only [co, List.getD_eq_getElem?_getD, List.getElem?_replicate]
 split <;> rfl
theorem ext_co {p q : List G} (hl : p.length = q.length) (h : ∀ i, i < p.length → co p i = co q i) : p = q := by
 apply List.ext_getElem hl
 intro i h1 h2
 have := h i h1
 rwa [co_lt h1, co_lt h2] at this
def tab (n : Nat) (f : Nat → G) : List G := (List.range n).map f
theorem tab_length (n : Nat) (f : Nat → G) : (tab n f).length = n := by simp [tab]
theorem co_tab (n : Nat) (f : Nat → G) (i : Nat) : co (tab n f) i = if i < n then f i else 0 := by
 by_cases h : i < n
 ·rw [if_pos h, co_lt (by rw [tab_length]; exact h)]
  simp [tab]
 ·rw [if_neg h, co_ge (by rw [tab_length]; omega)]
theorem tab_succ (n : Nat) (f : Nat → G) : tab (n + 1) f = tab n f ++ [f n] := by simp [tab, List.range_succ]
theorem tab_zero (f : Nat → G) : tab 0 f = [] := rfl
def trim : List G → List G
 | [] => []
 | a :: p => if trim p = [] ∧ a = 0 then [] else a :: trim p
theorem co_trim (p : List G) : ∀ i, co (trim p) i = co p i := by
 induction p with
 | nil => intro i; rfl
 | cons a p ih =>
  intro i
  unfold trim
  by_cases h : trim p = [] ∧ a = 0
  ·rw [if_pos h]
   obtain ⟨h1, rfl⟩ := h
   cases i with
   | zero => rfl
   | succ i => rw [co_succ, ← ih, h1, co_nil, co_nil]
  ·rw [if_neg h]
   cases i with
   | zero => rfl
   | succ i => rw [co_succ, co_succ, ih]
theorem trim_eq_nil {p : List G} (h : ∀ i, co p i = 0) : trim p = [] := by
 induction p with
 | nil => rfl
 | cons a p ih =>
  unfold trim
  rw [if_pos ⟨ih (fun i => h (i + 1)), h 0⟩]
theorem trim_congr {p q : List G} (h : ∀ i, co p i = co q i) : trim p = trim q := by
 induction p generalizing q with
 | nil => rw [trim_eq_nil (p := q) (fun i => (h i).symm.trans (co_nil i))]; rfl
 | cons a p ih =>
  cases q with
  | nil => rw [trim_eq_nil (p := a :: p) (fun i => (h i).trans (co_nil i))]; rfl
  | cons b q =>
   have h0 : a = b := h 0
   have h1 : trim p = trim q := ih (fun i => h (i + 1))
   unfold trim
   rw [h0, h1]
theorem trim_trim (p : List G) : trim (trim p) = trim p := trim_congr (co_trim p)
theorem trim_length_le (p : List G) : (trim p).length ≤ p.length := by
 induction p with
 | nil => exact Nat.le_refl _
 | cons a p ih =>
  unfold trim
  split
  ·exact Nat.zero_le _
  ·simp only [List.length_cons]; omega
theorem trim_last {p : List G} {n : Nat} (h : (trim p).length = n + 1) : co p n ≠ 0 := by
 induction p generalizing n with
 | nil => cases h
 | cons a p ih =>
  unfold trim at h
  by_cases hc : trim p = [] ∧ a = 0
  ·rw [if_pos hc] at h
   cases h
  ·rw [if_neg hc, List.length_cons] at h
   cases n with
   | zero =>
    have h1 : trim p = [] := List.eq_nil_of_length_eq_zero (by omega)
    intro e
    exact hc ⟨h1, e⟩
   | succ n => exact ih (by omega)
theorem trim_ge {p : List G} {i : Nat} (h : (trim p).length ≤ i) : co p i = 0 := by rw [← co_trim, co_ge h]
theorem trim_length_of {p : List G} {m : Nat} (h0 : ∀ j, m ≤ j → co p j = 0) (h1 : m = 0 ∨ co p (m - 1) ≠ 0) : (trim p).length = m := by
 rcases Nat.lt_trichotomy (trim p).length m with h | h | h
 ·exfalso
  rcases h1 with h1 | h1
  ·omega
  ·exact h1 (trim_ge (by omega))
 ·exact h
 ·exfalso
  obtain ⟨n, hn⟩ : ∃ n, (trim p).length = n + 1 := ⟨(trim p).length - 1, by omega⟩
  exact trim_last hn (h0 n (by omega))
theorem trim_eq_take (p : List G) : trim p = p.take (trim p).length := by
 have hle := trim_length_le p
 apply ext_co
 ·rw [List.length_take]; omega
 ·intro i hi
  rw [co_trim, co_take, if_pos hi]
theorem trim_len_le_of {p : List G} {m : Nat} (h : ∀ j, m ≤ j → co p j = 0) : (trim p).length ≤ m := by
 rcases Nat.lt_or_ge m (trim p).length with hlt | hge
 ·exfalso
  obtain ⟨n, hn⟩ : ∃ n, (trim p).length = n + 1 := ⟨(trim p).length - 1, by omega⟩
  exact trim_last hn (h n (by omega))
 ·exact hge
def ev : List G → G → G
 | [], _ => 0
 | a :: p, x => a + x * ev p x
theorem ev_nil (x : G) : ev [] x = 0 := rfl
theorem ev_cons (a : G) (p : List G) (x : G) : ev (a :: p) x = a + x * ev p x := rfl
theorem ev_trim (p : List G) (x : G) : ev (trim p) x = ev p x := by
 induction p with
 | nil => rfl
 | cons a p ih =>
  unfold trim
  by_cases h : trim p = [] ∧ a = 0
  ·rw [if_pos h]
   obtain ⟨h1, rfl⟩ := h
   rw [ev_cons, ← ih, h1, ev_nil, mul_zero, add_zero]
  ·rw [if_neg h, ev_cons, ev_cons, ih]
def zadd : List G → List G → List G
 | [], q => q
 | p, [] => p
 | a :: p, b :: q => (a + b) :: zadd p q
theorem co_zadd (p q : List G) (i : Nat) : co (zadd p q) i = co p i + co q i := by
 induction p generalizing q i with
 | nil => rw [zadd, co_nil, zero_add]
 | cons a p ih =>
  cases q with
  | nil => rw [zadd, co_nil, add_zero]; intro h; cases h
  | cons b q =>
   cases i with
   | zero => rfl
   | succ i => rw [zadd, co_succ, co_succ, co_succ, ih]
theorem ev_zadd (p q : List G) (x : G) : ev (zadd p q) x = ev p x + ev q x := by
 induction p generalizing q with
 | nil => rw [zadd, ev_nil, zero_add]
 | cons a p ih =>
  cases q with
  | nil => rw [zadd, ev_nil, add_zero]; intro h; cases h
  | cons b q =>
   rw [zadd, ev_cons, ev_cons, ev_cons, ih, mul_add]
   ac_rfl
theorem zadd_length (p q : List G) : (zadd p q).length = max p.length q.length := by
 induction p generalizing q with
 | nil => rw [zadd, List.length_nil]; omega
 | cons a p ih =>
  cases q with
  | nil => rw [zadd, List.length_nil]; omega; intro h; cases h
  | cons b q => rw [zadd, List.length_cons, List.length_cons, List.length_cons, ih]; omega
theorem zadd_tab (p q : List G) : zadd p q = tab (max p.length q.length) (fun i => co p i + co q i) := by
 apply ext_co
 ·rw [zadd_length, tab_length]
 ·intro i hi
  rw [zadd_length] at hi
  rw [co_zadd, co_tab, if_pos hi]
def padd (p q : List G) : List G := trim (zadd p q)
theorem ev_padd (p q : List G) (x : G) : ev (padd p q) x = ev p x + ev q x := by rw [padd, ev_trim, ev_zadd]
theorem padd_length_le (p q : List G) : (padd p q).length ≤ max p.length q.length := by
 have := trim_length_le (zadd p q)
 rw [zadd_length] at this
 exact this
theorem trim_padd (p q : List G) : trim (padd p q) = padd p q := trim_trim _
def scale (c : G) (p : List G) : List G := p.map (c * ·)
theorem co_scale (c : G) (p : List G) (i : Nat) : co (scale c p) i = c * co p i := by
 induction p generalizing i with
 | nil => rw [scale, List.map_nil, co_nil, mul_zero]
 | cons a p ih =>
  cases i with
  | zero => rfl
  | succ i => exact ih i
theorem ev_scale (c : G) (p : List G) (x : G) : ev (scale c p) x = c * ev p x := by
 induction p with
 | nil => rw [scale, List.map_nil, ev_nil, mul_zero]
 | cons a p ih =>
  show c * a + x * ev (scale c p) x = _
  rw [ih, ev_cons, mul_add, mul_left_comm]
theorem scale_length (c : G) (p : List G) : (scale c p).length = p.length := List.length_map _
def sum (f : Nat → G) : Nat → G
 | 0 => 0
 | n + 1 => sum f n + f n
theorem sum_zero (f : Nat → G) : sum f 0 = 0 := rfl
theorem sum_succ (f : Nat → G) (n : Nat) : sum f (n + 1) = sum f n + f n := rfl
theorem sum_congr {f g : Nat → G} {n : Nat} (h : ∀ i, i < n → f i = g i) : sum f n = sum g n := by
 induction n with
 | zero => rfl
 | succ n ih => rw [sum_succ, sum_succ, ih (fun i hi => h i (by omega)), h n (by omega)]
theorem sum_add (f g : Nat → G) (n : Nat) : sum (fun i => f i + g i) n = sum f n + sum g n := by
 induction n with
 | zero => rw [sum_zero, sum_zero, sum_zero, add_zero]
 | succ n ih =>
  simp only [sum_succ, ih]
  ac_rfl
theorem sum_mul (c : G) (f : Nat → G) (n : Nat) : sum (fun i => c * f i) n = c * sum f n := by
 induction n with
 | zero => rw [sum_zero, sum_zero, mul_zero]
 | succ n ih => rw [sum_succ, sum_succ, ih, mul_add]
theorem sum_eq_zero {f : Nat → G} {n : Nat} (h : ∀ i, i < n → f i = 0) : sum f n = 0 := by
 induction n with
 | zero => rfl
 | succ n ih => rw [sum_succ, ih (fun i hi => h i (by omega)), h n (by omega), add_zero]
theorem sum_front (f : Nat → G) (n : Nat) : sum f (n + 1) = f 0 + sum (fun i => f (i + 1)) n := by
 induction n with
 | zero => rw [sum_succ, sum_zero, sum_zero, add_comm]
 | succ n ih => rw [sum_succ, ih, sum_succ, add_assoc]
theorem sum_extend {f : Nat → G} {n m : Nat} (hnm : n ≤ m) (h : ∀ i, n ≤ i → i < m → f i = 0) : sum f m = sum f n := by
 induction m with
 | zero => rw [show n = 0 by omega]
 | succ m ih =>
  by_cases e : n = m + 1
  ·rw [e]
  ·rw [sum_succ, ih (by omega) (fun i h1 h2 => h i h1 (by omega)), h m (by omega) (by omega), add_zero]
theorem sum_single {f : Nat → G} {n k : Nat} (hk : k < n) (h : ∀ i, i < n → i ≠ k → f i = 0) : sum f n = f k := by
 induction n with
 | zero => omega
 | succ n ih =>
  rw [sum_succ]
  by_cases e : k = n
  ·subst e
   rw [sum_eq_zero (fun i hi => h i (by omega) (by omega)), zero_add]
  ·rw [ih (by omega) (fun i hi hne => h i (by omega) hne), h n (by omega) (by omega), add_zero]
def rmul : List G → List G → List G
 | [], _ => []
 | a :: p, q => zadd (scale a q) (0 :: rmul p q)
theorem ev_rmul (p q : List G) (x : G) : ev (rmul p q) x = ev p x * ev q x := by
 induction p with
 | nil => rw [rmul, ev_nil, zero_mul]
 | cons a p ih => rw [rmul, ev_zadd, ev_scale, ev_cons, ih, ev_cons, add_mul, zero_add, mul_assoc]
theorem co_rmul (p q : List G) (m : Nat) : co (rmul p q) m = sum (fun j => co p j * co q (m - j)) (m + 1) := by
 induction p generalizing m with
 | nil =>
  rw [rmul, co_nil, sum_eq_zero]
  intro i _
  rw [co_nil, zero_mul]
 | cons a p ih =>
  rw [rmul, co_zadd, co_scale, sum_front]
  congr 1
  cases m with
  | zero => rfl
  | succ m =>
   rw [co_succ, ih]
   apply sum_congr
   intro i hi
   rw [co_succ, show m + 1 - (i + 1) = m - i by omega]
def pmul (p q : List G) : List G := trim (rmul p q)
theorem ev_pmul (p q : List G) (x : G) : ev (pmul p q) x = ev p x * ev q x := by rw [pmul, ev_trim, ev_rmul]
theorem co_pmul (p q : List G) (m : Nat) : co (pmul p q) m = sum (fun j => co p j * co q (m - j)) (m + 1) := by rw [pmul, co_trim, co_rmul]
theorem trim_pmul (p q : List G) : trim (pmul p q) = pmul p q := trim_trim _
theorem co_pmul_ge {p q : List G} {m a b : Nat} (ha : ∀ i, a ≤ i → co p i = 0) (hb : ∀ i, b ≤ i → co q i = 0) (hm : a + b ≤ m + 1) : co (pmul p q) m = 0 := by
 rw [co_pmul]
 apply sum_eq_zero
 intro i hi
 by_cases h : a ≤ i
 ·rw [ha i h, zero_mul]
 ·rw [hb (m - i) (by omega), mul_zero]
def quo (a : G) : List G → List G
 | [] => []
 | c :: p => if p = [] then [] else ev p a :: quo a p
theorem ev_quo (a x : G) (p : List G) : ev p x + ev p a = (x + a) * ev (quo a p) x := by
 induction p with
 | nil => rw [ev_nil, ev_nil, add_self, quo, ev_nil, mul_zero]
 | cons c p ih =>
  unfold quo
  by_cases h : p = []
  ·subst h
   rw [if_pos rfl, ev_cons, ev_nil, ev_cons, ev_nil, mul_zero, mul_zero, add_self, mul_zero]
  ·rw [if_neg h, ev_cons, ev_cons, ev_cons, mul_add, mul_left_comm, ← ih]
   have : c + x * ev p x + (c + a * ev p a) = x * ev p x + a * ev p a := by
    rw [add_assoc, add_left_comm (x * ev p x) c, add_add_self]
   rw [this, mul_add, add_mul]
   have e2 : x * ev p a + a * ev p a + (x * ev p x + x * ev p a) = x * ev p x + a * ev p a + (x * ev p a + x * ev p a) := by ac_rfl
   rw [e2, add_self, add_zero]
theorem quo_length (a : G) (p : List G) : (quo a p).length = p.length - 1 := by
 induction p with
 | nil => rfl
 | cons c p ih =>
  unfold quo
  by_cases h : p = []
  ·subst h
   rfl
  ·rw [if_neg h, List.length_cons, ih, List.length_cons]
   have : 0 < p.length := List.length_pos_iff.2 h
   omega
theorem of_quo {a : G} {p : List G} (h : ∀ i, co (quo a p) i = 0) (h0 : ev p a = 0) (i : Nat) : co p i = 0 := by
 induction p generalizing i with
 | nil => rfl
 | cons c p ih =>
  by_cases hp : p = []
  ·subst hp
   rw [ev_cons, ev_nil, mul_zero, add_zero] at h0
   cases i with
   | zero => exact h0
   | succ i => rfl
  ·unfold quo at h
   rw [if_neg hp] at h
   have h1 : ev p a = 0 := h 0
   have h2 : ∀ i, co (quo a p) i = 0 := fun i => h (i + 1)
   rw [ev_cons, h1, mul_zero, add_zero] at h0
   cases i with
   | zero => exact h0
   | succ i => exact ih h2 h1 i
theorem roots_zero : ∀ (xs : List G) (p : List G), xs.Nodup → p.length ≤ xs.length → (∀ x ∈ xs, ev p x = 0) → ∀ i, co p i = 0 := by
 intro xs
 induction xs with
 | nil =>
  intro p _ hl _ i
  rw [List.eq_nil_of_length_eq_zero (show p.length = 0 by simpa using hl), co_nil]
 | cons a xs ih =>
  intro p hd hl hr
  have ha : ev p a = 0 := hr a List.mem_cons_self
  apply of_quo (a := a) _ ha
  apply ih _ (List.nodup_cons.1 hd).2
  ·rw [quo_length]
   simp only [List.length_cons] at hl
   omega
  ·intro x hx
   have h1 := ev_quo a x p
   rw [hr x (List.mem_cons_of_mem _ hx), ha, add_zero] at h1
   have hne : x + a ≠ 0 := by
    intro e
    have := add_eq_zero.1 e
    subst this
    exact (List.nodup_cons.1 hd).1 hx
   exact (mul_eq_zero.1 h1.symm).resolve_left hne
theorem same_of_values {xs p q : List G} (hd : xs.Nodup) (hp : p.length ≤ xs.length) (hq : q.length ≤ xs.length) (h : ∀ x ∈ xs, ev p x = ev q x) (i : Nat) : co p i = co q i := by
 have := roots_zero xs (zadd p q) hd (by rw [zadd_length]; omega) (fun x hx => by rw [ev_zadd, h x hx, add_self]) i
 rw [co_zadd] at this
 exact add_eq_zero.1 this
end Go.Proofs.Ytcdmgppjhdpgkaa.Al
namespace Go.Proofs.Ytcdmgppjhdpgkaa.Al
open Go Go.RowKit Go.Proofs.YtcdmgppjhdpgkaaW.PrintWords Go.Proofs.YtcdmgppjhdpgkaaW.PrintMore Go.Proofs.Ytcdmgppjhdpgkaa.P
set_option linter.unusedVariables false
set_option linter.unusedSimpArgs false
theorem Ev.pos {α : Type} {c : Prop} [Decidable c] {A B : Nat → Option α} {r : α} (h : c) (hA : Ev A r) : Ev (fun k => if c then A k else B k) r := by
 simp only [if_pos h]; exact hA
theorem Ev.neg {α : Type} {c : Prop} [Decidable c] {A B : Nat → Option α} {r : α} (h : ¬ c) (hB : Ev B r) : Ev (fun k => if c then A k else B k) r := by
 simp only [if_neg h]; exact hB
theorem evc {α : Type} {g : Nat → Option α} {r r' : α} (h : Ev g r) (e : r = r') : Ev g r' := e ▸ h
theorem Ev.somef {α β : Type} {f : Nat → α → Option β} {a : α} {r : β} (h : Ev (fun k => f k a) r) : Ev (fun k => (some a).bind (f k)) r := h
theorem wrap_sm {x : Int} (h0 : -9223372036854775808 ≤ x) (h1 : x ≤ 9223372036854775807) : wrap64 x = x := by unfold wrap64; omega
def tm (a : G) : G := ⟨xt a.v⟩
theorem twice_all : ∀ a : Fin 256, gf_twice.f (a.val : Int) = some ((xt (BitVec.ofFin a)).toNat : Int) := by decide +kernel
theorem twice_i (a : G) : gf_twice.f a.i = some (tm a).i := twice_all a.v.toFin
theorem and_one {x : Int} (h0 : 0 ≤ x) (h1 : x < 256) : Go.bits .and .u8 x 1 = x % 2 := bits_mask .u8 8 (by decide) wraps_u8 1 (by decide) x h0 h1
def gmN : Nat → G → Nat → G
 | 0, _, _ => 0
 | n + 1, a, b => (if b % 2 = 1 then a else 0) + gmN n (tm a) (b / 2)
theorem gmN_zero (n : Nat) (a : G) : gmN n a 0 = 0 := by
 induction n generalizing a with
 | zero => rfl
 | succ n ih => rw [gmN, if_neg (by decide), Nat.zero_div, ih, add_zero]
theorem bit_cb (b : BitVec 8) (i : Nat) (a : G) : (if b.toNat / 2 ^ i % 2 = 1 then a else 0) = (⟨cb (b.getLsbD i) a.v⟩ : G) := by
 have h : b.getLsbD i = decide (b.toNat / 2 ^ i % 2 = 1) := by
  rw [BitVec.getLsbD, Nat.testBit_eq_decide_div_mod_eq]
 rw [h]
 by_cases e : b.toNat / 2 ^ i % 2 = 1
 ·rw [if_pos e, decide_eq_true e]; rfl
 ·rw [if_neg e, decide_eq_false e]; rfl
theorem mul_gmN (a b : G) : a * b = gmN 8 a b.v.toNat := by
 simp only [gmN, Nat.div_div_eq_div_mul]
 have h0 := bit_cb b.v 0 a
 simp only [Nat.pow_zero, Nat.div_one] at h0
 rw [h0, bit_cb b.v 1, bit_cb b.v 2, bit_cb b.v 3, bit_cb b.v 4, bit_cb b.v 5, bit_cb b.v 6, bit_cb b.v 7, add_zero]
 rfl
theorem mul_l0 (n : Nat) : ∀ (a : G) (b : Nat) (o : G), b < 2 ^ n → b < 256 → Ev (fun k => gf_Mul.l0 k a.i (b : Int) o.i) (o + gmN n a b).i := by
 induction n with
 | zero =>
  intro a b o h _
  obtain rfl : b = 0 := by omega
  refine Ev.step (fun k => gf_Mul.l0.eq_2 _ _ _ _) (Ev.pos rfl ?_)
  rw [gmN, add_zero]
  exact Ev.now _
 | succ n ih =>
  intro a b o h h1
  refine Ev.step (fun k => gf_Mul.l0.eq_2 _ _ _ _) ?_
  by_cases hb : b = 0
  ·subst hb
   refine Ev.pos rfl ?_
   rw [gmN_zero, add_zero]
   exact Ev.now _
  ·refine Ev.neg (by omega) ?_
   rw [and_one (by omega) (by omega), twice_i]
   have hd : ((b : Int) / 2) = ((b / 2 : Nat) : Int) := by omega
   rw [hd]
   by_cases ho : b % 2 = 1
   ·refine Ev.neg (by omega) ?_
    rw [xor_i]
    refine evc (ih (tm a) (b / 2) (o + a) (by rw [Nat.pow_succ] at h; omega) (by omega)) ?_
    rw [gmN, if_pos ho, add_assoc]
   ·refine Ev.pos (by omega) ?_
    refine evc (ih (tm a) (b / 2) o (by rw [Nat.pow_succ] at h; omega) (by omega)) ?_
    rw [gmN, if_neg ho, zero_add]
theorem mul_ev (a b : G) : Ev (fun k => gf_Mul.f k a.i b.i) (a * b).i := by
 have h := mul_l0 8 a b.v.toNat 0 b.v.isLt b.v.isLt
 rw [zero_add, ← mul_gmN] at h
 exact h
def X : Nat → G
 | 0 => 1
 | n + 1 => tm (X n)
def phi (P : Nat) : G := sum (fun i => if P.testBit i then X i else 0) 15
theorem phi_xor (P Q : Nat) : phi (P ^^^ Q) = phi P + phi Q := by
 unfold phi
 rw [← sum_add]
 apply sum_congr
 intro i _
 rw [Nat.testBit_xor]
 cases P.testBit i <;> cases Q.testBit i <;> simp [add_self, add_zero, zero_add]
theorem phi_mod : ∀ j : Fin 7, phi (285 * 2 ^ j.val) = 0 := by decide +kernel
theorem phi_small : ∀ a : Fin 256, phi a.val = ⟨BitVec.ofFin a⟩ := by decide +kernel
theorem phi_shift : ∀ (i : Fin 8) (a : Fin 256), phi (a.val * 2 ^ i.val) = ⟨BitVec.ofFin a⟩ * ⟨1#8 <<< i.val⟩ := by decide +kernel
def part (a : G) (b n : Nat) : G := sum (fun i => if b / 2 ^ i % 2 = 1 then a * ⟨1#8 <<< i⟩ else 0) n
theorem part_all (a b : G) : part a b.v.toNat 8 = a * b := by
 have h := sum_bits b.v.toFin
 rw [show (BitVec.ofFin b.v.toFin : BitVec 8) = b.v from rfl] at h
 have hb : b = (⟨cb (b.v.getLsbD 0) 1#8⟩ : G) + ((⟨cb (b.v.getLsbD 1) 2#8⟩ : G) + ((⟨cb (b.v.getLsbD 2) 4#8⟩ : G) + ((⟨cb (b.v.getLsbD 3) 8#8⟩ : G) + ((⟨cb (b.v.getLsbD 4) 16#8⟩ : G) + ((⟨cb (b.v.getLsbD 5) 32#8⟩ : G) + ((⟨cb (b.v.getLsbD 6) 64#8⟩ : G) + (⟨cb (b.v.getLsbD 7) 128#8⟩ : G))))))) := G.eq_of h
 have hi : ∀ i, (if b.v.toNat / 2 ^ i % 2 = 1 then a * ⟨1#8 <<< i⟩ else 0) = a * (⟨cb (b.v.getLsbD i) (1#8 <<< i)⟩ : G) := by
  intro i
  have := bit_cb b.v i (⟨1#8 <<< i⟩ : G)
  rw [← this]
  split
  ·rfl
  ·rw [mul_zero]
 have hs : part a b.v.toNat 8 = sum (fun i => a * (⟨cb (b.v.getLsbD i) (1#8 <<< i)⟩ : G)) 8 := sum_congr (fun i _ => hi i)
 rw [hs, sum_mul]
 congr 1
 conv => rhs; rw [hb]
 simp only [sum_succ, sum_zero, zero_add]
 show _ + (⟨cb (b.v.getLsbD 7) 128#8⟩ : G) = _
 simp only [add_assoc]
 rfl
theorem xor_nat {a b : Nat} (ha : a < 32768) (hb : b < 32768) : Go.bits .xor .i64 (a : Int) (b : Int) = ((a ^^^ b : Nat) : Int) := by
 unfold Go.bits
 have hx : a ^^^ b < 2 ^ 15 := Nat.xor_lt_two_pow ha hb
 show IntKind.i64.wrap ((BitVec.ofInt 64 (a : Int) ^^^ BitVec.ofInt 64 (b : Int)).toNat : Int) = _
 simp only [BitVec.ofInt_natCast, BitVec.toNat_xor, BitVec.toNat_ofNat]
 rw [Nat.mod_eq_of_lt (by omega), Nat.mod_eq_of_lt (by omega), IntKind.wrap_i64]
 omega
theorem xor_top {P i : Nat} (hi : 8 ≤ i) (h0 : 2 ^ i ≤ P) (h1 : P < 2 ^ (i + 1)) : P ^^^ (285 * 2 ^ (i - 8)) < 2 ^ i := by
 apply Nat.lt_pow_two_of_testBit
 intro j hj
 have hq : 285 * 2 ^ (i - 8) < 2 ^ (i + 1) := by
  have : 2 ^ (i + 1) = 512 * 2 ^ (i - 8) := by
   rw [show (512 : Nat) = 2 ^ 9 from rfl, ← Nat.pow_add]
   congr 1; omega
  rw [this]
  have := Nat.two_pow_pos (i - 8)
  omega
 have hq0 : 2 ^ i ≤ 285 * 2 ^ (i - 8) := by
  have : 2 ^ i = 256 * 2 ^ (i - 8) := by
   rw [show (256 : Nat) = 2 ^ 8 from rfl, ← Nat.pow_add]
   congr 1; omega
  rw [this]
  have := Nat.two_pow_pos (i - 8)
  omega
 rw [Nat.testBit_xor]
 by_cases e : j = i
 ·subst e
  have h2 : ∀ Q, 2 ^ j ≤ Q → Q < 2 ^ (j + 1) → Q.testBit j = true := by
   intro Q h2 h3
   rw [Nat.testBit_eq_decide_div_mod_eq]
   have : Q / 2 ^ j = 1 := by
    apply Nat.div_eq_of_lt_le
    ·rw [Nat.one_mul]; exact h2
    ·rw [Nat.pow_succ] at h3; omega
   rw [this]
   rfl
  rw [h2 _ h0 h1, h2 _ hq0 hq]
  rfl
 ·have hle : 2 ^ (i + 1) ≤ 2 ^ j := Nat.pow_le_pow_right (by decide) (by omega)
  rw [Nat.testBit_lt_two_pow (by omega), Nat.testBit_lt_two_pow (by omega)]
  rfl
theorem ref_l1 (n : Nat) : ∀ (P : Nat), P < 2 ^ (8 + n) → n ≤ 7 → Ev (fun k => footlockerref01_Mul.l1 k (P : Int) ((7 + n : Nat) : Int)) (phi P).i := by
 induction n with
 | zero =>
  intro P h _
  refine Ev.step (fun k => footlockerref01_Mul.l1.eq_2 _ _ _) (Ev.neg (by omega) ?_)
  have hs := phi_small ⟨P, h⟩
  have : (phi P).i = (P : Int) % 256 := by
   rw [hs]
   show (P : Int) = _
   omega
  rw [this]
  exact Ev.now _
 | succ n ih =>
  intro P h hn
  have hb : P < 32768 := Nat.lt_of_lt_of_le h (show 2 ^ (8 + (n + 1)) ≤ 2 ^ 15 from Nat.pow_le_pow_right (by decide) (by omega))
  refine Ev.step (fun k => footlockerref01_Mul.l1.eq_2 _ _ _) (Ev.pos (by omega) (Ev.pos (by omega) ?_))
  have hw1 : wrap64 (((7 + (n + 1) : Nat) : Int) - 8) = (n : Int) := by rw [wrap_sm (by omega) (by omega)]; omega
  have hw2 : wrap64 (((7 + (n + 1) : Nat) : Int) - 1) = ((7 + n : Nat) : Int) := by rw [wrap_sm (by omega) (by omega)]; omega
  rw [hw1, hw2]
  have hsh : shr .i64 (P : Int) ((7 + (n + 1) : Nat) : Int) = ((P / 2 ^ (8 + n) : Nat) : Int) := by
   unfold shr
   rw [show min (((7 + (n + 1) : Nat) : Int)).toNat (IntKind.bits .i64) = 8 + n by
    rw [Int.toNat_natCast]; show min (7 + (n + 1)) 64 = _; omega]
   norm_cast
  rw [hsh]
  have hlt : P / 2 ^ (8 + n) < 2 := by
   rw [Nat.div_lt_iff_lt_mul (Nat.two_pow_pos _), Nat.mul_comm, ← Nat.pow_succ]
   exact h
  by_cases hp : 2 ^ (8 + n) ≤ P
  ·have h1 : P / 2 ^ (8 + n) = 1 := by
    have := Nat.div_pos hp (Nat.two_pow_pos _)
    omega
   rw [h1]
   refine Ev.pos (by decide) (Ev.pos (by omega) ?_)
   have hshl : shl .i64 285 (n : Int) = ((285 * 2 ^ n : Nat) : Int) := by
    unfold shl
    rw [show min ((n : Int)).toNat (IntKind.bits .i64) = n by rw [Int.toNat_natCast]; show min n 64 = _; omega]
    have hle : (2 : Nat) ^ n ≤ 64 := Nat.pow_le_pow_right (n := 2) (by decide) (show n ≤ 6 by omega)
    have : (285 * 2 ^ n : Int) = ((285 * 2 ^ n : Nat) : Int) := by rw [Int.natCast_mul, Int.natCast_pow]; rfl
    rw [this, IntKind.wrap_i64]
    omega
   have hle : 285 * 2 ^ n < 32768 := by
    have hle : (2 : Nat) ^ n ≤ 64 := Nat.pow_le_pow_right (n := 2) (by decide) (show n ≤ 6 by omega)
    omega
   rw [hshl, xor_nat hb hle]
   have ht := xor_top (i := 8 + n) (by omega) hp h
   rw [show 8 + n - 8 = n by omega] at ht
   refine evc (ih _ ht (by omega)) ?_
   rw [phi_xor, phi_mod ⟨n, by omega⟩, add_zero]
  ·rw [Nat.div_eq_of_lt (by omega)]
   exact Ev.neg (by decide) (ih P (by omega) (by omega))
theorem ref_l0 (n : Nat) (a b : G) : ∀ (i P : Nat), i + n = 8 → P < 32768 → phi P = part a b.v.toNat i → Ev (fun k => footlockerref01_Mul.l0 k a.i b.i (P : Int) (i : Int)) (a * b).i := by
 induction n with
 | zero =>
  intro i P hi hP hs
  obtain rfl : i = 8 := by omega
  refine Ev.step (fun k => footlockerref01_Mul.l0.eq_2 _ _ _ _ _) (Ev.neg (by omega) ?_)
  rw [part_all] at hs
  rw [← hs]
  exact ref_l1 7 P hP (by omega)
 | succ n ih =>
  intro i P hi hP hs
  refine Ev.step (fun k => footlockerref01_Mul.l0.eq_2 _ _ _ _ _) (Ev.pos (by omega) (Ev.pos (by omega) ?_))
  have hw : wrap64 ((i : Int) + 1) = ((i + 1 : Nat) : Int) := by rw [wrap_sm (by omega) (by omega)]; omega
  rw [hw]
  have hsh : shr .u8 b.i (i : Int) = ((b.v.toNat / 2 ^ i : Nat) : Int) := by
   unfold shr G.i
   rw [show min ((i : Int)).toNat (IntKind.bits .u8) = i by rw [Int.toNat_natCast]; show min i 8 = _; omega]
   norm_cast
  rw [hsh]
  have htm : Int.tmod ((b.v.toNat / 2 ^ i : Nat) : Int) 2 = ((b.v.toNat / 2 ^ i % 2 : Nat) : Int) := by
   rw [Int.tmod_eq_emod_of_nonneg (Int.natCast_nonneg _)]
   rfl
  rw [htm]
  have hs1 : part a b.v.toNat (i + 1) = part a b.v.toNat i + (if b.v.toNat / 2 ^ i % 2 = 1 then a * ⟨1#8 <<< i⟩ else 0) := rfl
  by_cases ho : b.v.toNat / 2 ^ i % 2 = 1
  ·refine Ev.pos (by omega) ?_
   have hwa : wrap64 a.i = a.i := wrap_sm (by have := i_nonneg a; omega) (by have := i_le a; omega)
   have hle : (2 : Nat) ^ i ≤ 128 := Nat.pow_le_pow_right (n := 2) (by decide) (show i ≤ 7 by omega)
   have hal := a.v.isLt
   have hmul : a.v.toNat * 2 ^ i ≤ 255 * 128 := Nat.mul_le_mul (by omega) hle
   have hps : phi (a.v.toNat * 2 ^ i) = a * ⟨1#8 <<< i⟩ := phi_shift ⟨i, by omega⟩ a.v.toFin
   have hcast : ((a.v.toNat : Int) * 2 ^ i : Int) = ((a.v.toNat * 2 ^ i : Nat) : Int) := by rw [Int.natCast_mul, Int.natCast_pow]; rfl
   have hshl : shl .i64 (wrap64 a.i) (i : Int) = IntKind.i64.wrap ((a.v.toNat * 2 ^ i : Nat) : Int) := by
    rw [hwa]
    unfold shl G.i
    rw [show min ((i : Int)).toNat (IntKind.bits .i64) = i by rw [Int.toNat_natCast]; show min i 64 = _; omega]
    rw [hcast]
   rw [hshl]
   clear hshl hcast hle
   generalize a.v.toNat * 2 ^ i = M at hmul hps
   have hM : M < 32768 := by omega
   have hwM : IntKind.i64.wrap (M : Int) = (M : Int) := by rw [IntKind.wrap_i64]; omega
   rw [hwM, xor_nat hP hM]
   refine ih (i + 1) _ (by omega) (Nat.xor_lt_two_pow (n := 15) hP hM) ?_
   rw [phi_xor, hs, hs1, if_pos ho, hps]
  ·refine Ev.neg (by omega) ?_
   exact ih (i + 1) P (by omega) hP (by rw [hs, hs1, if_neg ho, add_zero])
theorem refmul_ev (a b : G) : Ev (fun k => footlockerref01_Mul.f k a.i b.i) (a * b).i :=
 ref_l0 8 a b 0 0 rfl (by decide) (by
  have : phi 0 = 0 := phi_small 0
  rw [this]; rfl)
end Go.Proofs.Ytcdmgppjhdpgkaa.Al
namespace Go.Proofs.Ytcdmgppjhdpgkaa.Al
open Go Go.RowKit Go.Proofs.YtcdmgppjhdpgkaaW.PrintWords Go.Proofs.YtcdmgppjhdpgkaaW.PrintMore Go.Proofs.Ytcdmgppjhdpgkaa.P
set_option linter.unusedVariables false
set_option linter.unusedSimpArgs false
def bs (p : List G) : List Int := p.map G.i
theorem bs_length (p : List G) : (bs p).length = p.length := List.length_map _
theorem bs_cons (a : G) (p : List G) : bs (a :: p) = a.i :: bs p := rfl
theorem bs_append (p q : List G) : bs (p ++ q) = bs p ++ bs q := List.map_append
theorem bs_take (p : List G) (n : Nat) : (bs p).take n = bs (p.take n) := List.map_take.symm
theorem bs_drop (p : List G) (n : Nat) : (bs p).drop n = bs (p.drop n) := List.map_drop.symm
theorem bs_set (p : List G) (n : Nat) (a : G) : (bs p).set n a.i = bs (p.set n a) := List.map_set.symm
theorem bs_replicate (n : Nat) : List.replicate n (0 : Int) = bs (List.replicate n 0) := by rw [bs, List.map_replicate]; rfl
theorem rd_bs (p : List G) (n : Nat) : rd (bs p) (n : Int) = (co p n).i := by
 simp only [rd, bs, Int.toNat_natCast, co, List.getD_eq_getElem?_getD, List.getElem?_map]
 cases p[n]? <;> rfl
theorem of_bytes : ∀ l : List Int, (∀ x ∈ l, 0 ≤ x ∧ x < 256) → ∃ p, l = bs p := by
 intro l
 induction l with
 | nil => intro _; exact ⟨[], rfl⟩
 | cons a l ih =>
  intro h
  obtain ⟨p, rfl⟩ := ih (fun x hx => h x (List.mem_cons_of_mem _ hx))
  have ha := h a List.mem_cons_self
  exact ⟨G.of a :: p, by rw [bs_cons, i_of ha.1 ha.2]⟩
theorem wrap_succ {n : Nat} (h : n < 4611686018427387904) : wrap64 ((n : Int) + 1) = ((n + 1 : Nat) : Int) := by
 rw [wrap_sm (by omega) (by omega)]; omega
theorem wrap_pred (n : Nat) (h : n < 4611686018427387904) : wrap64 (((n + 1 : Nat) : Int) - 1) = (n : Int) := by
 rw [wrap_sm (by omega) (by omega)]; omega
theorem drop_co {p : List G} {n : Nat} (h : n < p.length) : p.drop n = co p n :: p.drop (n + 1) := by rw [List.drop_eq_getElem_cons h, co_lt h]
theorem clone_some (l : List Int) (h : l.length < 1000000000000) : slices_Clone_byte_byte.f l = some l := by
 unfold slices_Clone_byte_byte.f
 rw [if_pos (by omega)]
theorem and_one64 {x : Int} (h0 : 0 ≤ x) (h1 : x < 256) : Go.bits .and .i64 x 1 = x % 2 :=
 bits_mask .i64 8 (by decide) (fun n a b => by rw [IntKind.wrap_i64]; omega) 1 (by decide) x h0 h1
theorem power_odd {a o : G} {x : Int} {r : Int} (h0 : 0 < x) (h1 : x < 256) (ho : x % 2 = 1) (h : Ev (fun k => gf_power.l0 k (a * a).i (x / 2) (o * a).i) r) : Ev (fun k => gf_power.l0 k a.i x o.i) r := by
 refine Ev.step (fun k => gf_power.l0.eq_2 _ _ _ _) (Ev.pos h0 ?_)
 rw [and_one64 (by omega) h1]
 exact Ev.neg (by omega) (Ev.bind (mul_ev _ _) (Ev.bind (mul_ev _ _) h))
theorem power_even {a o : G} {x : Int} {r : Int} (h0 : 0 < x) (h1 : x < 256) (ho : x % 2 = 0) (h : Ev (fun k => gf_power.l0 k (a * a).i (x / 2) o.i) r) : Ev (fun k => gf_power.l0 k a.i x o.i) r := by
 refine Ev.step (fun k => gf_power.l0.eq_2 _ _ _ _) (Ev.pos h0 ?_)
 rw [and_one64 (by omega) h1]
 exact Ev.pos (by omega) (Ev.bind (mul_ev _ _) h)
theorem power_end (a o : G) : Ev (fun k => gf_power.l0 k a.i 0 o.i) o.i :=
 Ev.step (fun k => gf_power.l0.eq_2 _ _ _ _) (Ev.neg (by omega) (Ev.now _))
theorem inv_ev (a : G) : Ev (fun k => gf_Inv.f k a.i) (inv a).i := by
 refine Ev.congr (fun k => gf_Inv.f.eq_1 _ _) (Ev.bind (a := (inv a).i) ?_ (Ev.now _))
 refine Ev.congr (fun k => gf_power.f.eq_1 _ _ _) ?_
 have : Ev (fun k => gf_power.l0 k a.i 254 (1 : G).i) (inv a).i := by
  refine power_even (by omega) (by omega) (by decide) ?_
  refine power_odd (by omega) (by omega) (by decide) ?_
  refine power_odd (by omega) (by omega) (by decide) ?_
  refine power_odd (by omega) (by omega) (by decide) ?_
  refine power_odd (by omega) (by omega) (by decide) ?_
  refine power_odd (by omega) (by omega) (by decide) ?_
  refine power_odd (by omega) (by omega) (by decide) ?_
  refine power_odd (by omega) (by omega) (by decide) ?_
  refine evc (power_end _ _) ?_
  rw [one_mul]
  rfl
 exact this
end Go.Proofs.Ytcdmgppjhdpgkaa.Al
namespace Go.Proofs.Ytcdmgppjhdpgkaa.Al
open Go Go.RowKit Go.Proofs.YtcdmgppjhdpgkaaW.PrintWords Go.Proofs.YtcdmgppjhdpgkaaW.PrintMore Go.Proofs.Ytcdmgppjhdpgkaa.P
set_option linter.unusedVariables false
set_option linter.unusedSimpArgs false
theorem degree_l0 (p : List G) (hp : p.length < 1000000000000) : ∀ m, m ≤ p.length → (∀ j, m ≤ j → co p j = 0) → Ev (fun k => poly_Degree.l0 k (bs p) ((m : Int) - 1)) (((trim p).length : Int) - 1) := by
 intro m
 induction m with
 | zero =>
  intro _ h
  refine Ev.step (fun k => poly_Degree.l0.eq_2 _ _ _) (Ev.neg (by omega) ?_)
  rw [trim_eq_nil (fun i => h i (Nat.zero_le _))]
  exact Ev.now _
 | succ m ih =>
  intro hm h
  have e : (((m + 1 : Nat) : Int) - 1) = (m : Int) := by omega
  rw [e]
  refine Ev.step (fun k => poly_Degree.l0.eq_2 _ _ _) (Ev.pos (by omega) (Ev.pos (by omega) (Ev.pos (by rw [bs_length]; omega) ?_)))
  rw [rd_bs]
  by_cases hz : co p m = 0
  ·refine Ev.pos (by rw [hz]; rfl) ?_
   rw [wrap_sm (by omega) (by omega)]
   refine ih (by omega) (fun j hj => ?_)
   by_cases ej : j = m
   ·rw [ej, hz]
   ·exact h j (by omega)
  ·refine Ev.neg (by rw [i_eq_zero]; exact hz) ?_
   rw [trim_length_of h (.inr (by simpa using hz))]
   rw [e]
   exact Ev.now _
theorem degree_ev (p : List G) (hp : p.length < 1000000000000) : Ev (fun k => poly_Degree.f k (bs p)) (((trim p).length : Int) - 1) := by
 have h := degree_l0 p hp p.length (Nat.le_refl _) (fun j hj => co_ge hj)
 have e : wrap64 (((bs p).length : Int) - 1) = (p.length : Int) - 1 := by rw [bs_length, wrap_sm (by omega) (by omega)]
 refine Ev.congr (fun k => ?_) h
 rw [poly_Degree.f, e]
theorem trim_ev (p : List G) (hp : p.length < 1000000000000) : Ev (fun k => poly_Trim.f k (bs p)) (bs (trim p)) := by
 have hl := trim_length_le p
 refine Ev.congr (fun k => poly_Trim.f.eq_1 _ _) (Ev.bind (degree_ev p hp) ?_)
 have e : wrap64 (((trim p).length : Int) - 1 + 1) = ((trim p).length : Int) := by rw [wrap_sm (by omega) (by omega)]; omega
 rw [e]
 refine Ev.pos (by omega) (Ev.pos (by rw [bs_length]; omega) ?_)
 rw [Int.toNat_natCast, bs_take, ← trim_eq_take, clone_some _ (by rw [bs_length]; omega)]
 exact Ev.now _
theorem add_l0 (p q : List G) (hp : p.length < 100000000000) (hq : q.length < 100000000000) (n : Nat) : ∀ (o : List G) (i : Nat), i + n = q.length → o.length = max p.length q.length →
 (∀ j, co o j = if j < i then co p j + co q j else co p j) → Ev (fun k => poly_Add.l0 k (bs o) (bs q) (q.length : Int) (i : Int)) (bs (padd p q)) := by
 induction n with
 | zero =>
  intro o i hi ho h
  refine Ev.step (fun k => poly_Add.l0.eq_2 _ _ _ _ _) (Ev.neg (by omega) (Ev.bind (trim_ev o (by omega)) ?_))
  rw [show trim o = padd p q from trim_congr (fun j => by
   rw [h, co_zadd]
   split
   ·rfl
   ·rw [co_ge (p := q) (by omega), add_zero])]
  exact Ev.now _
 | succ n ih =>
  intro o i hi ho h
  refine Ev.step (fun k => poly_Add.l0.eq_2 _ _ _ _ _) (Ev.pos (by omega) (Ev.pos (by omega) (Ev.pos (by rw [bs_length]; omega) (Ev.pos (by rw [bs_length]; omega) ?_))))
  rw [rd_bs, rd_bs, xor_i, Int.toNat_natCast, bs_set, wrap_succ (by omega)]
  refine ih _ (i + 1) (by omega) (by rw [List.length_set]; exact ho) (fun j => ?_)
  rw [co_set _ _ _ _ (by omega)]
  by_cases e : j = i
  ·subst e
   rw [if_pos rfl, if_pos (by omega), h, if_neg (by omega)]
  ·rw [if_neg e, h]
   by_cases hlt : j < i
   ·rw [if_pos hlt, if_pos (by omega)]
   ·rw [if_neg hlt, if_neg (by omega)]
theorem mx_nat (a b : Nat) : mx (a : Int) (b : Int) = ((max a b : Nat) : Int) := by
 unfold mx
 split <;> omega
theorem add_ev (p q : List G) (hp : p.length < 100000000000) (hq : q.length < 100000000000) : Ev (fun k => poly_Add.f k (bs p) (bs q)) (bs (padd p q)) := by
 refine Ev.congr (fun k => poly_Add.f.eq_1 _ _ _) ?_
 rw [bs_length, bs_length, mx_nat]
 refine Ev.pos (by omega) (Ev.pos (by omega) (Ev.somef (Ev.pos (by rw [List.length_replicate]; omega) ?_)))
 rw [List.length_replicate, Int.toNat_natCast, bs_take, bs_replicate, bs_drop, ← bs_append]
 refine add_l0 p q hp hq q.length _ 0 (by omega) ?_ (fun j => ?_)
 ·simp only [List.length_append, List.length_take, List.length_drop, List.length_replicate]
  omega
 ·rw [if_neg (by omega), co_append, co_take, co_drop, co_replicate, List.length_take]
  split
  ·rw [if_pos (by omega)]
  ·rw [co_ge (by omega)]
def acc (p q : List G) (i m : Nat) : G := sum (fun a => if a ≤ m then co p a * co q (m - a) else 0) i
theorem acc_all (p q : List G) (m : Nat) : acc p q p.length m = co (pmul p q) m := by
 rw [co_pmul, acc]
 rcases Nat.le_total p.length (m + 1) with h | h
 ·rw [sum_extend (n := p.length) (m := m + 1) h]
  ·apply sum_congr
   intro a ha
   rw [if_pos (by omega)]
  ·intro a h1 _
   rw [co_ge h1, zero_mul]
 ·rw [sum_extend (n := m + 1) (m := p.length) h]
  ·apply sum_congr
   intro a ha
   rw [if_pos (by omega)]
  ·intro a h1 _
   rw [if_neg (by omega)]
theorem mul_loops (p q : List G) (hp : p.length < 100000000000) (hq : q.length < 100000000000) (n : Nat) : ∀ (o : List G) (i : Nat), i + n = p.length → o.length = p.length + q.length →
 (∀ m, co o m = acc p q i m) → Ev (fun k => poly_Mul.l0 k (bs q) (bs o) (bs p) (p.length : Int) (i : Int)) (bs (pmul p q)) := by
 induction n with
 | zero =>
  intro o i hi ho h
  obtain rfl : i = p.length := by omega
  refine Ev.step (fun k => poly_Mul.l0.eq_2 _ _ _ _ _ _) (Ev.neg (by omega) (Ev.bind (trim_ev o (by omega)) ?_))
  rw [show trim o = pmul p q from (trim_congr (fun m => (h m).trans (acc_all p q m))).trans (trim_pmul p q)]
  exact Ev.now _
 | succ n ih =>
  intro o i hi ho h
  refine Ev.step (fun k => poly_Mul.l0.eq_2 _ _ _ _ _ _) (Ev.pos (by omega) (Ev.pos (by omega) (Ev.pos (by rw [bs_length]; omega) ?_)))
  rw [rd_bs, bs_length]
  have inner : ∀ (d : Nat) (o : List G) (j : Nat), j + d = q.length → o.length = p.length + q.length →
   (∀ m, co o m = acc p q i m + if i ≤ m ∧ m < i + j then co p i * co q (m - i) else 0) →
   Ev (fun k => poly_Mul.l1 k (bs q) (bs o) (i : Int) (co p i).i (bs p) (p.length : Int) (i : Int) (bs q) (q.length : Int) (j : Int)) (bs (pmul p q)) := by
   intro d
   induction d with
   | zero =>
    intro o j hj ho h
    refine Ev.step (fun k => poly_Mul.l1.eq_2 _ _ _ _ _ _ _ _ _ _ _) (Ev.neg (by omega) ?_)
    rw [wrap_succ (by omega)]
    refine ih o (i + 1) (by omega) ho (fun m => ?_)
    rw [h, acc, acc, sum_succ]
    congr 1
    by_cases h1 : i ≤ m
    ·rw [if_pos h1]
     by_cases h2 : m < i + j
     ·rw [if_pos ⟨h1, h2⟩]
     ·rw [if_neg (by omega), co_ge (p := q) (by omega), mul_zero]
    ·rw [if_neg h1, if_neg (by omega)]
   | succ d ihd =>
    intro o j hj ho h
    refine Ev.step (fun k => poly_Mul.l1.eq_2 _ _ _ _ _ _ _ _ _ _ _) (Ev.pos (by omega) (Ev.pos (by omega) (Ev.pos (by rw [bs_length]; omega) ?_)))
    have hw : wrap64 ((i : Int) + (j : Int)) = ((i + j : Nat) : Int) := by rw [wrap_sm (by omega) (by omega)]; omega
    rw [hw]
    refine Ev.pos (by omega) (Ev.pos (by rw [bs_length]; omega) ?_)
    rw [rd_bs]
    refine Ev.bind (mul_ev _ _) ?_
    rw [rd_bs, xor_i, Int.toNat_natCast, bs_set, wrap_succ (by omega)]
    refine ihd _ (j + 1) (by omega) (by rw [List.length_set]; exact ho) (fun m => ?_)
    rw [co_set _ _ _ _ (by omega)]
    by_cases e : m = i + j
    ·subst e
     rw [if_pos rfl, h (i + j), if_neg (show ¬ (i ≤ i + j ∧ i + j < i + j) by omega), add_zero, if_pos (show i ≤ i + j ∧ i + j < i + (j + 1) by omega), show i + j - i = j by omega]
    ·rw [if_neg e, h]
     congr 1
     by_cases h1 : i ≤ m ∧ m < i + j
     ·rw [if_pos h1, if_pos (by omega)]
     ·rw [if_neg h1, if_neg (by omega)]
  exact inner q.length o 0 (by omega) ho (fun m => by rw [h, if_neg (by omega), add_zero])
theorem pmul_ev (p q : List G) (hp : p.length < 100000000000) (hq : q.length < 100000000000) : Ev (fun k => poly_Mul.f k (bs p) (bs q)) (bs (pmul p q)) := by
 refine Ev.congr (fun k => poly_Mul.f.eq_1 _ _ _) ?_
 have hw : wrap64 (((bs p).length : Int) + ((bs q).length : Int)) = ((p.length + q.length : Nat) : Int) := by rw [bs_length, bs_length, wrap_sm (by omega) (by omega)]; omega
 rw [hw, bs_length, Int.toNat_natCast, bs_replicate]
 refine Ev.pos (by omega) (Ev.pos (by omega) ?_)
 exact mul_loops p q hp hq p.length _ 0 (by omega) (List.length_replicate) (fun m => by rw [co_replicate]; rfl)
theorem eval_l0 (p : List G) (x : G) (hp : p.length < 100000000000) : ∀ m, m ≤ p.length → Ev (fun k => poly_Eval.l0 k (bs p) x.i (ev (p.drop m) x).i ((m : Int) - 1)) (ev p x).i := by
 intro m
 induction m with
 | zero =>
  intro _
  exact Ev.step (fun k => poly_Eval.l0.eq_2 _ _ _ _ _) (Ev.neg (by omega) (Ev.now _))
 | succ m ih =>
  intro hm
  have e : (((m + 1 : Nat) : Int) - 1) = (m : Int) := by omega
  rw [e]
  refine Ev.step (fun k => poly_Eval.l0.eq_2 _ _ _ _ _) (Ev.pos (by omega) (Ev.bind (mul_ev _ _) (Ev.pos (by omega) (Ev.pos (by rw [bs_length]; omega) ?_))))
  rw [rd_bs, xor_i, wrap_sm (by omega) (by omega)]
  have h := ih (by omega)
  rw [drop_co (show m < p.length by omega), ev_cons, add_comm, mul_comm] at h
  exact h
theorem eval_ev (p : List G) (x : G) (hp : p.length < 100000000000) : Ev (fun k => poly_Eval.f k (bs p) x.i) (ev p x).i := by
 have h := eval_l0 p x hp p.length (Nat.le_refl _)
 rw [List.drop_length] at h
 refine Ev.congr (fun k => poly_Eval.f.eq_1 _ _ _) ?_
 rw [bs_length, wrap_sm (by omega) (by omega)]
 exact h
theorem div_ev (a b : G) (hb : b ≠ 0) : Ev (fun k => gf_Div.f k a.i b.i) ((a * inv b).i, true) :=
 Ev.congr (fun k => gf_Div.f.eq_1 _ _ _) (Ev.neg (by rw [i_eq_zero]; exact hb) (Ev.bind (inv_ev b) (Ev.bind (mul_ev _ _) (Ev.now _))))
end Go.Proofs.Ytcdmgppjhdpgkaa.Al
namespace Go.Proofs.Ytcdmgppjhdpgkaa.Al
open Go Go.RowKit Go.Proofs.YtcdmgppjhdpgkaaW.PrintWords Go.Proofs.YtcdmgppjhdpgkaaW.PrintMore Go.Proofs.Ytcdmgppjhdpgkaa.P
set_option linter.unusedVariables false
set_option linter.unusedSimpArgs false
theorem rd_drop {l : List Int} {n : Nat} (h : n < l.length) : l.drop n = rd l (n : Int) :: l.drop (n + 1) := by
 rw [List.drop_eq_getElem_cons h]
 simp [rd, List.getD_eq_getElem?_getD, List.getElem?_eq_getElem h]
theorem same_l0 (a b : List Int) (hl : a.length = b.length) (ha : a.length < 1000000000000) (d : Nat) : ∀ n : Nat, n + d = a.length → Ev (fun k => footlockerref01_Same.l0 k a b (n : Int)) (decide (a.drop n = b.drop n)) := by
 induction d with
 | zero =>
  intro n hn
  refine Ev.step (fun k => footlockerref01_Same.l0.eq_2 _ _ _ _) (Ev.neg (by omega) ?_)
  rw [List.drop_of_length_le (by omega), List.drop_of_length_le (by omega)]
  exact Ev.now _
 | succ d ih =>
  intro n hn
  refine Ev.step (fun k => footlockerref01_Same.l0.eq_2 _ _ _ _) (Ev.pos (by omega) (Ev.pos (by omega) (Ev.pos (by omega) ?_)))
  rw [rd_drop (show n < a.length by omega), rd_drop (show n < b.length by omega)]
  by_cases e : rd a (n : Int) = rd b (n : Int)
  ·refine Ev.pos e ?_
   rw [wrap_succ (by omega)]
   refine evc (ih (n + 1) (by omega)) ?_
   rw [e]
   simp
  ·refine Ev.neg e ?_
   rw [decide_eq_false (by intro h; exact e (List.cons.inj h).1)]
   exact Ev.now _
theorem same_ev (a b : List Int) (ha : a.length < 1000000000000) : Ev (fun k => footlockerref01_Same.f k a b) (decide (a = b)) := by
 refine Ev.congr (fun k => footlockerref01_Same.f.eq_1 _ _ _) ?_
 by_cases hl : a.length = b.length
 ·refine Ev.pos (by omega) ?_
  have := same_l0 a b hl ha a.length 0 (by omega)
  rw [List.drop_zero, List.drop_zero] at this
  exact this
 ·refine Ev.neg (by omega) ?_
  rw [decide_eq_false (by rintro rfl; exact hl rfl)]
  exact Ev.now _
theorem copy_some (l : List Int) (h : l.length < 1000000000000) : footlockerref01_Copy.f l = some l := by
 unfold footlockerref01_Copy.f
 simp only [Option.bind_some, List.length_nil, List.nil_append]
 rw [if_pos (by omega)]
theorem refinv_l0 (a : G) (d : Nat) : ∀ n : Nat, n + d = 256 → 1 ≤ n → (∀ b : G, a * b = 1 → (n : Int) ≤ b.i) → Ev (fun k => footlockerref01_Inv.l0 k a.i (n : Int)) (inv a).i := by
 induction d with
 | zero =>
  intro n hn _ h
  refine Ev.step (fun k => footlockerref01_Inv.l0.eq_2 _ _ _) (Ev.neg (by omega) ?_)
  have ha : a = 0 := by
   apply Classical.byContradiction
   intro hne
   have := h _ (mul_inv hne)
   have := i_lt (inv a)
   omega
  rw [ha, inv_zero]
  exact Ev.now _
 | succ d ih =>
  intro n hn h1 h
  refine Ev.step (fun k => footlockerref01_Inv.l0.eq_2 _ _ _) (Ev.pos (by omega) ?_)
  have e : (n : Int) % 256 = (G.of (n : Int)).i := by rw [i_of (by omega) (by omega)]; omega
  rw [e]
  refine Ev.bind (refmul_ev _ _) ?_
  by_cases hm : a * G.of (n : Int) = 1
  ·refine Ev.pos (by rw [hm]; rfl) ?_
   rw [inv_unique hm]
   exact Ev.now _
  ·refine Ev.neg (by rw [← i_one, i_inj]; exact hm) ?_
   rw [wrap_succ (by omega)]
   refine ih (n + 1) (by omega) (by omega) (fun b hb => ?_)
   have := h b hb
   rcases Int.lt_or_eq_of_le this with h2 | h2
   ·omega
   ·exfalso
    apply hm
    rw [h2, of_i]
    exact hb
theorem refinv_ev (a : G) : Ev (fun k => footlockerref01_Inv.f k a.i) (inv a).i := by
 refine Ev.congr (fun k => footlockerref01_Inv.f.eq_1 _ _) ?_
 refine refinv_l0 a 255 1 rfl (by omega) (fun b hb => ?_)
 have := i_nonneg b
 rcases Int.lt_or_eq_of_le this with h | h
 ·omega
 ·exfalso
  have : b = 0 := i_eq_zero.1 h.symm
  rw [this, mul_zero] at hb
  exact one_ne_zero hb.symm
theorem wf_u8 {x : Int} (h : (Lit.int .u8 x).wf = true) : 0 ≤ x ∧ x < 256 := by
 simp [Lit.wf, IntKind.min, IntKind.max, IntKind.bits, IntKind.signed] at h
 omega
theorem bytes_in {l : List Int} (h : ∀ x ∈ l, (Lit.int .u8 x).wf = true) : ∃ p, l = bs p := of_bytes l (fun x hx => wf_u8 (h x hx))
theorem same_true {a b : List Int} (h : a = b) (ha : a.length < 1000000000000) : Ev (fun k => footlockerref01_Same.f k a b) true := by
 have := same_ev a b ha
 rwa [decide_eq_true h] at this
end Go.Proofs.Ytcdmgppjhdpgkaa.Al
namespace Go.Proofs.Ytcdmgppjhdpgkaa.Al
open Go Go.RowKit Go.Proofs.YtcdmgppjhdpgkaaW.PrintWords Go.Proofs.YtcdmgppjhdpgkaaW.PrintMore Go.Proofs.Ytcdmgppjhdpgkaa.P
set_option linter.unusedVariables false
set_option linter.unusedSimpArgs false
theorem reftrim_l0 (p : List G) (hp : p.length < 1000000000000) : ∀ m : Nat, m ≤ p.length → (∀ j, m ≤ j → co p j = 0) → Ev (fun k => footlockerref02_Trim.l0 k (bs p) (m : Int)) (bs (trim p)) := by
 intro m
 induction m with
 | zero =>
  intro _ h
  refine Ev.step (fun k => footlockerref02_Trim.l0.eq_2 _ _ _) (Ev.neg (by omega) (Ev.pos (by omega) (Ev.pos (by rw [bs_length]; omega) ?_)))
  rw [trim_eq_nil (fun i => h i (Nat.zero_le _))]
  exact Ev.now _
 | succ m ih =>
  intro hm h
  have e : wrap64 (((m + 1 : Nat) : Int) - 1) = (m : Int) := wrap_pred m (by omega)
  refine Ev.step (fun k => footlockerref02_Trim.l0.eq_2 _ _ _) (Ev.pos (by omega) ?_)
  rw [e]
  refine Ev.pos (by omega) (Ev.pos (by rw [bs_length]; omega) ?_)
  rw [rd_bs]
  by_cases hz : co p m = 0
  ·refine Ev.pos (by rw [hz]; rfl) ?_
   refine ih (by omega) (fun j hj => ?_)
   by_cases ej : j = m
   ·rw [ej, hz]
   ·exact h j (by omega)
  ·refine Ev.neg (by rw [i_eq_zero]; exact hz) (Ev.pos (by omega) (Ev.pos (by rw [bs_length]; omega) ?_))
   have hl := trim_length_of h (.inr (by simpa using hz))
   rw [Int.toNat_natCast, bs_take, copy_some _ (by rw [bs_length]; simp; omega), trim_eq_take p, hl]
   exact Ev.now _
theorem reftrim_ev (p : List G) (hp : p.length < 1000000000000) : Ev (fun k => footlockerref02_Trim.f k (bs p)) (bs (trim p)) := by
 refine Ev.congr (fun k => footlockerref02_Trim.f.eq_1 _ _) ?_
 rw [bs_length]
 exact reftrim_l0 p hp p.length (Nat.le_refl _) (fun j hj => co_ge hj)
theorem refat_some (p : List G) (n : Nat) : footlockerref02_at.f (bs p) (n : Int) = some (co p n).i := by
 unfold footlockerref02_at.f
 rw [if_neg (by omega), bs_length]
 by_cases h : n < p.length
 ·rw [if_neg (by omega), if_pos (by omega), if_pos (by omega), rd_bs]
 ·rw [if_pos (by omega), co_ge (by omega)]
  rfl
theorem tab_bs (n : Nat) (f : Nat → G) : bs (tab n f) ++ [(f n).i] = bs (tab (n + 1) f) := by rw [tab_succ, bs_append]; rfl
theorem refadd_l0 (p q : List G) (hp : p.length < 100000000000) (hq : q.length < 100000000000) (d : Nat) : ∀ n : Nat, n + d = max p.length q.length →
 Ev (fun k => footlockerref02_Add.l0 k (bs p) (bs q) (bs (tab n (fun i => co p i + co q i))) (n : Int)) (bs (padd p q)) := by
 induction d with
 | zero =>
  intro n hn
  have hend : Ev (fun k => footlockerref02_Add.j1 k (bs p) (bs q) (bs (tab n (fun i => co p i + co q i))) (n : Int) false) (bs (padd p q)) := by
   refine Ev.step (fun k => footlockerref02_Add.j1.eq_2 _ _ _ _ _ _) (Ev.neg (by simp) (Ev.bind (reftrim_ev _ (by rw [tab_length]; omega)) ?_))
   rw [padd, zadd_tab, show max p.length q.length = n by omega]
   exact Ev.now _
  refine Ev.step (fun k => footlockerref02_Add.l0.eq_2 _ _ _ _ _) (Ev.neg (by rw [bs_length]; omega) ?_)
  rw [decide_eq_false (by rw [bs_length]; omega)]
  exact hend
 | succ d ih =>
  intro n hn
  have hgo : Ev (fun k => footlockerref02_Add.j1 k (bs p) (bs q) (bs (tab n (fun i => co p i + co q i))) (n : Int) true) (bs (padd p q)) := by
   refine Ev.step (fun k => footlockerref02_Add.j1.eq_2 _ _ _ _ _ _) (Ev.pos rfl ?_)
   rw [refat_some, refat_some]
   refine Ev.somef (Ev.somef (Ev.pos (by rw [bs_length, tab_length]; omega) ?_))
   rw [xor_i, tab_bs n (fun i => co p i + co q i), wrap_succ (by omega)]
   exact ih (n + 1) (by omega)
  refine Ev.step (fun k => footlockerref02_Add.l0.eq_2 _ _ _ _ _) ?_
  by_cases h : n < p.length
  ·exact Ev.pos (by rw [bs_length]; omega) hgo
  ·refine Ev.neg (by rw [bs_length]; omega) ?_
   rw [decide_eq_true (by rw [bs_length]; omega)]
   exact hgo
theorem refadd_ev (p q : List G) (hp : p.length < 100000000000) (hq : q.length < 100000000000) : Ev (fun k => footlockerref02_Add.f k (bs p) (bs q)) (bs (padd p q)) :=
 Ev.congr (fun k => footlockerref02_Add.f.eq_1 _ _ _) (refadd_l0 p q hp hq (max p.length q.length) 0 (by omega))
theorem rmul_tab (p q : List G) : pmul p q = trim (tab (p.length + q.length) (fun m => sum (fun j => co p j * co q (m - j)) (m + 1))) := by
 rw [← trim_pmul]
 apply trim_congr
 intro i
 rw [co_tab]
 split
 ·exact co_pmul p q i
 ·exact co_pmul_ge (fun i hi => co_ge hi) (fun i hi => co_ge hi) (by omega)
theorem refmul_loops (p q : List G) (hp : p.length < 100000000000) (hq : q.length < 100000000000) (d : Nat) : ∀ n : Nat, n + d = p.length + q.length →
 Ev (fun k => footlockerref02_Mul.l0 k (bs p) (bs q) (bs (tab n (fun m => sum (fun j => co p j * co q (m - j)) (m + 1)))) (n : Int)) (bs (pmul p q)) := by
 have hw : wrap64 (((bs p).length : Int) + ((bs q).length : Int)) = ((p.length + q.length : Nat) : Int) := by rw [bs_length, bs_length, wrap_sm (by omega) (by omega)]; omega
 induction d with
 | zero =>
  intro n hn
  refine Ev.step (fun k => footlockerref02_Mul.l0.eq_2 _ _ _ _ _) (Ev.neg (by rw [hw]; omega) (Ev.bind (reftrim_ev _ (by rw [tab_length]; omega)) ?_))
  rw [rmul_tab, show p.length + q.length = n by omega]
  exact Ev.now _
 | succ d ih =>
  intro n hn
  refine Ev.step (fun k => footlockerref02_Mul.l0.eq_2 _ _ _ _ _) (Ev.pos (by rw [hw]; omega) ?_)
  have inner : ∀ (e m : Nat), m + e = n + 1 → Ev (fun k => footlockerref02_Mul.l1 k (bs p) (bs q) (bs (tab n (fun m => sum (fun j => co p j * co q (m - j)) (m + 1)))) (n : Int) (sum (fun j => co p j * co q (n - j)) m).i (m : Int)) (bs (pmul p q)) := by
   intro e
   induction e with
   | zero =>
    intro m hm
    obtain rfl : m = n + 1 := by omega
    refine Ev.step (fun k => footlockerref02_Mul.l1.eq_2 _ _ _ _ _ _ _) (Ev.neg (by omega) (Ev.pos (by rw [bs_length, tab_length]; omega) ?_))
    rw [tab_bs n (fun m => sum (fun j => co p j * co q (m - j)) (m + 1)), wrap_succ (by omega)]
    exact ih (n + 1) (by omega)
   | succ e ihe =>
    intro m hm
    refine Ev.step (fun k => footlockerref02_Mul.l1.eq_2 _ _ _ _ _ _ _) (Ev.pos (by omega) ?_)
    have hw2 : wrap64 ((n : Int) - (m : Int)) = ((n - m : Nat) : Int) := by rw [wrap_sm (by omega) (by omega)]; omega
    rw [hw2, refat_some, refat_some]
    refine Ev.somef (Ev.somef (Ev.bind (refmul_ev _ _) ?_))
    rw [xor_i, wrap_succ (by omega)]
    exact ihe (m + 1) (by omega)
  exact inner (n + 1) 0 (by omega)
theorem refpmul_ev (p q : List G) (hp : p.length < 100000000000) (hq : q.length < 100000000000) : Ev (fun k => footlockerref02_Mul.f k (bs p) (bs q)) (bs (pmul p q)) :=
 Ev.congr (fun k => footlockerref02_Mul.f.eq_1 _ _ _) (refmul_loops p q hp hq (p.length + q.length) 0 (by omega))
def pw (x : G) : Nat → G
 | 0 => 1
 | n + 1 => pw x n * x
theorem ev_sum (p : List G) (x : G) : ev p x = sum (fun i => co p i * pw x i) p.length := by
 induction p with
 | nil => rfl
 | cons a p ih =>
  rw [ev_cons, ih, List.length_cons, sum_front]
  show a + _ = a * 1 + _
  rw [mul_one]
  congr 1
  rw [← sum_mul]
  apply sum_congr
  intro i _
  rw [co_succ, pw, mul_left_comm, mul_comm x]
theorem refeval_l0 (p : List G) (x : G) (hp : p.length < 100000000000) (d : Nat) : ∀ n : Nat, n + d = p.length →
 Ev (fun k => footlockerref02_Eval.l0 k (bs p) x.i (sum (fun i => co p i * pw x i) n).i (pw x n).i (n : Int)) (ev p x).i := by
 induction d with
 | zero =>
  intro n hn
  refine Ev.step (fun k => footlockerref02_Eval.l0.eq_2 _ _ _ _ _ _) (Ev.neg (by rw [bs_length]; omega) ?_)
  rw [ev_sum, show p.length = n by omega]
  exact Ev.now _
 | succ d ih =>
  intro n hn
  refine Ev.step (fun k => footlockerref02_Eval.l0.eq_2 _ _ _ _ _ _) (Ev.pos (by rw [bs_length]; omega) (Ev.pos (by omega) ?_))
  rw [rd_bs]
  refine Ev.bind (refmul_ev _ _) (Ev.bind (refmul_ev _ _) ?_)
  rw [xor_i, wrap_succ (by omega)]
  exact ih (n + 1) (by omega)
theorem refeval_ev (p : List G) (x : G) (hp : p.length < 100000000000) : Ev (fun k => footlockerref02_Eval.f k (bs p) x.i) (ev p x).i :=
 Ev.congr (fun k => footlockerref02_Eval.f.eq_1 _ _ _) (refeval_l0 p x hp p.length 0 (by omega))
end Go.Proofs.Ytcdmgppjhdpgkaa.Al
namespace Go.Proofs.Ytcdmgppjhdpgkaa.Al
open Go Go.RowKit Go.Proofs.YtcdmgppjhdpgkaaW.PrintWords Go.Proofs.YtcdmgppjhdpgkaaW.PrintMore Go.Proofs.Ytcdmgppjhdpgkaa.P
set_option linter.unusedVariables false
set_option linter.unusedSimpArgs false
theorem scale_l0 (p : List G) (c : G) (hp : p.length < 100000000000) (d : Nat) : ∀ (o : List G) (n : Nat), n + d = p.length → o.length = p.length → (∀ j, j < n → co o j = c * co p j) →
 Ev (fun k => gf_Scale.l0 k c.i (bs o) (bs p) (p.length : Int) (n : Int)) (bs (scale c p)) := by
 induction d with
 | zero =>
  intro o n hn ho h
  refine Ev.step (fun k => gf_Scale.l0.eq_2 _ _ _ _ _ _) (Ev.neg (by omega) ?_)
  rw [show o = scale c p from ext_co (by rw [ho, scale_length]) (fun j hj => by rw [h j (by omega), co_scale])]
  exact Ev.now _
 | succ d ih =>
  intro o n hn ho h
  refine Ev.step (fun k => gf_Scale.l0.eq_2 _ _ _ _ _ _) (Ev.pos (by omega) (Ev.pos (by omega) (Ev.pos (by rw [bs_length]; omega) ?_)))
  rw [rd_bs]
  refine Ev.bind (mul_ev _ _) (Ev.pos (by rw [bs_length]; omega) ?_)
  rw [Int.toNat_natCast, bs_set, wrap_succ (by omega)]
  refine ih _ (n + 1) (by omega) (by rw [List.length_set]; exact ho) (fun j hj => ?_)
  rw [co_set _ _ _ _ (by omega)]
  by_cases e : j = n
  ·rw [if_pos e, e, mul_comm]
  ·rw [if_neg e, h j (by omega)]
theorem scale_ev (p : List G) (c : G) (hp : p.length < 100000000000) : Ev (fun k => gf_Scale.f k (bs p) c.i) (bs (scale c p)) := by
 refine Ev.congr (fun k => gf_Scale.f.eq_1 _ _ _) ?_
 rw [bs_length, Int.toNat_natCast, bs_replicate]
 exact Ev.pos (by omega) (Ev.pos (by omega) (scale_l0 p c hp p.length _ 0 (by omega) List.length_replicate (fun j hj => by omega)))
theorem twice_go (xs : List G) : ∀ seen : List G, poly_twice.go (bs seen) (bs xs) = some (decide (¬ (xs.Nodup ∧ ∀ x ∈ xs, x ∉ seen))) := by
 induction xs with
 | nil => intro seen; simp [bs, poly_twice.go]
 | cons a xs ih =>
  intro seen
  rw [bs_cons, poly_twice.go, if_pos (i_nonneg a), if_pos (i_lt a)]
  have hc : (bs seen).contains a.i = decide (a ∈ seen) := by
   rw [Bool.eq_iff_iff, List.contains_iff_mem, decide_eq_true_iff, bs, List.mem_map]
   constructor
   ·rintro ⟨b, hb, e⟩
    rwa [← i_inj.1 e]
   ·intro h
    exact ⟨a, h, rfl⟩
  rw [hc]
  by_cases h : a ∈ seen
  ·rw [if_pos (by simpa using h), decide_eq_true]
   rintro ⟨_, h2⟩
   exact h2 a List.mem_cons_self h
  ·rw [if_neg (by simpa using h), ← bs_cons, ih]
   congr 1
   rw [decide_eq_decide]
   apply not_congr
   rw [List.nodup_cons]
   constructor
   ·rintro ⟨h1, h2⟩
    refine ⟨⟨fun ha => ?_, h1⟩, fun x hx => ?_⟩
    ·exact h2 a ha List.mem_cons_self
    ·rcases List.mem_cons.1 hx with rfl | hx
     ·exact h
     ·exact fun hs => h2 x hx (List.mem_cons_of_mem _ hs)
   ·rintro ⟨⟨h1, h2⟩, h3⟩
    refine ⟨h2, fun x hx hs => ?_⟩
    rcases List.mem_cons.1 hs with rfl | hs
    ·exact h1 hx
    ·exact h3 x (List.mem_cons_of_mem _ hx) hs
theorem twice_some (xs : List G) : poly_twice.f (bs xs) = some (decide (¬ xs.Nodup)) := by
 have h := twice_go xs []
 rw [poly_twice.f, show ([] : List Int) = bs [] from rfl, h]
 congr 1
 rw [decide_eq_decide]
 simp
theorem nodup_co {xs : List G} : xs.Nodup ↔ ∀ a b, a < b → b < xs.length → co xs a ≠ co xs b := by
 rw [List.Nodup, List.pairwise_iff_getElem]
 constructor
 ·intro h a b hab hb
  rw [co_lt (by omega), co_lt hb]
  exact h a b (by omega) hb hab
 ·intro h a b ha hb hab
  have := h a b hab hb
  rwa [co_lt ha, co_lt hb] at this
def nst (xs ys : List G) : Nat → List G × List G
 | 0 => ([], [1])
 | n + 1 =>
  let s := nst xs ys n
  (padd s.1 (scale ((co ys n + ev s.1 (co xs n)) * inv (ev s.2 (co xs n))) s.2), pmul s.2 [co xs n, 1])
def interp (xs ys : List G) : List G := (nst xs ys xs.length).1
theorem ev_lin (a x : G) : ev [a, 1] x = a + x := by simp only [ev_cons, ev_nil, mul_zero, add_zero, mul_one]
theorem pmul_len_le (p q : List G) (h : 0 < q.length) : (pmul p q).length ≤ p.length + q.length - 1 := by
 apply trim_len_le_of
 intro j hj
 rw [← co_trim]
 exact co_pmul_ge (fun i hi => co_ge hi) (fun i hi => co_ge hi) (by omega)
theorem nst_facts (xs ys : List G) (hd : xs.Nodup) : ∀ n, n ≤ xs.length → (nst xs ys n).1.length ≤ n ∧ trim (nst xs ys n).1 = (nst xs ys n).1 ∧ (nst xs ys n).2.length ≤ n + 1 ∧
 (∀ j, j < n → ev (nst xs ys n).1 (co xs j) = co ys j) ∧ (∀ j, j < n → ev (nst xs ys n).2 (co xs j) = 0) ∧ (∀ x, (∀ j, j < n → x ≠ co xs j) → ev (nst xs ys n).2 x ≠ 0) := by
 intro n
 induction n with
 | zero =>
  intro _
  refine ⟨Nat.le_refl _, rfl, Nat.le_refl _, fun j hj => by omega, fun j hj => by omega, fun x _ => ?_⟩
  show ev [1] x ≠ 0
  rw [ev_cons, ev_nil, mul_zero, add_zero]
  exact one_ne_zero
 | succ n ih =>
  intro hn
  obtain ⟨h1, h2, h3, h4, h5, h6⟩ := ih (by omega)
  have hz : ev (nst xs ys n).2 (co xs n) ≠ 0 := h6 _ (fun j hj e => nodup_co.1 hd j n hj (by omega) e.symm)
  refine ⟨?_, trim_padd _ _, ?_, ?_, ?_, ?_⟩
  ·refine Nat.le_trans (padd_length_le _ _) ?_
   rw [scale_length]
   omega
  ·refine Nat.le_trans (pmul_len_le _ _ (by simp)) ?_
   simp only [List.length_cons, List.length_nil]
   omega
  ·intro j hj
   show ev (padd _ _) _ = _
   rw [ev_padd, ev_scale]
   by_cases e : j = n
   ·subst e
    rw [mul_assoc, inv_mul hz, mul_one, add_comm (co ys j), add_add_self]
   ·rw [h5 j (by omega), mul_zero, add_zero, h4 j (by omega)]
  ·intro j hj
   show ev (pmul _ _) _ = _
   rw [ev_pmul, ev_lin]
   by_cases e : j = n
   ·rw [e, add_self, mul_zero]
   ·rw [h5 j (by omega), zero_mul]
  ·intro x hx
   show ev (pmul _ _) _ ≠ _
   rw [ev_pmul, ev_lin]
   refine mul_ne_zero (h6 x (fun j hj => hx j (by omega))) (fun e => ?_)
   exact hx n (by omega) (add_eq_zero.1 e).symm
theorem interp_facts {xs ys : List G} (hd : xs.Nodup) : (interp xs ys).length ≤ xs.length ∧ trim (interp xs ys) = interp xs ys ∧ ∀ j, j < xs.length → ev (interp xs ys) (co xs j) = co ys j := by
 obtain ⟨h1, h2, _, h4, _⟩ := nst_facts xs ys hd xs.length (Nat.le_refl _)
 exact ⟨h1, h2, h4⟩
theorem interp_unique {xs ys p : List G} (hd : xs.Nodup) (hp : p.length ≤ xs.length) (h : ∀ j, j < xs.length → ev p (co xs j) = co ys j) : trim p = interp xs ys := by
 obtain ⟨h1, h2, h3⟩ := interp_facts (ys := ys) hd
 rw [← h2]
 apply trim_congr
 apply same_of_values hd hp h1
 intro x hx
 obtain ⟨j, hj, rfl⟩ := List.getElem_of_mem hx
 rw [← co_lt hj, h j hj, h3 j hj]
theorem through_l0 (xs ys : List G) (hd : xs.Nodup) (hl : xs.length = ys.length) (hx : xs.length < 1000000000) (d : Nat) : ∀ n : Nat, n + d = xs.length →
 Ev (fun k => poly_Through.l0 k (bs ys) (bs (nst xs ys n).1) (bs (nst xs ys n).2) (bs xs) (xs.length : Int) (n : Int)) (bs (interp xs ys), 0) := by
 induction d with
 | zero =>
  intro n hn
  refine Ev.step (fun k => poly_Through.l0.eq_2 _ _ _ _ _ _ _) (Ev.neg (by omega) ?_)
  rw [interp, show xs.length = n by omega]
  exact Ev.now _
 | succ d ih =>
  intro n hn
  obtain ⟨h1, h2, h3, h4, h5, h6⟩ := nst_facts xs ys hd n (by omega)
  have hz : ev (nst xs ys n).2 (co xs n) ≠ 0 := h6 _ (fun j hj e => nodup_co.1 hd j n hj (by omega) e.symm)
  refine Ev.step (fun k => poly_Through.l0.eq_2 _ _ _ _ _ _ _) (Ev.pos (by omega) (Ev.pos (by omega) (Ev.pos (by rw [bs_length]; omega) (Ev.pos (by rw [bs_length]; omega) ?_))))
  rw [rd_bs, rd_bs]
  refine Ev.bind (eval_ev _ _ (by omega)) (Ev.bind (eval_ev _ _ (by omega)) ?_)
  rw [xor_i]
  refine Ev.bind (div_ev _ _ hz) ?_
  dsimp only
  refine Ev.bind (scale_ev _ _ (by omega)) (Ev.bind (add_ev _ _ (by omega) (by rw [scale_length]; omega)) ?_)
  refine Ev.bind (a := bs (pmul (nst xs ys n).2 [co xs n, 1])) (pmul_ev _ [co xs n, 1] (by omega) (by simp)) ?_
  rw [wrap_succ (by omega)]
  exact ih (n + 1) (by omega)
theorem through_ev (xs ys : List G) (hd : xs.Nodup) (hl : xs.length = ys.length) (hx : xs.length < 1000000000) : Ev (fun k => poly_Through.f k (bs xs) (bs ys)) (bs (interp xs ys), 0) := by
 refine Ev.congr (fun k => poly_Through.f.eq_1 _ _ _) (Ev.pos (by rw [bs_length, bs_length]; omega) ?_)
 rw [twice_some, decide_eq_false (by simpa using hd), bs_length]
 exact Ev.somef (Ev.neg (by simp) (through_l0 xs ys hd hl hx xs.length 0 (by omega)))
theorem refthrough_loops (xs ys : List G) (hd : xs.Nodup) (hl : xs.length = ys.length) (hx : xs.length < 1000000000) (d : Nat) : ∀ (o : List G) (n : Nat), n + d = xs.length → o.length ≤ xs.length → trim o = o →
 (∀ j, j < xs.length → ev o (co xs j) = if j < n then co ys j else 0) → Ev (fun k => footlockerref02_Through.l0 k (bs xs) (bs ys) (bs o) (n : Int)) (bs (interp xs ys)) := by
 induction d with
 | zero =>
  intro o n hn ho ht h
  refine Ev.step (fun k => footlockerref02_Through.l0.eq_2 _ _ _ _ _) (Ev.neg (by rw [bs_length]; omega) ?_)
  rw [← interp_unique (ys := ys) hd ho (fun j hj => by rw [h j hj, if_pos (by omega)]), ht]
  exact Ev.now _
 | succ d ih =>
  intro o n hn ho ht h
  refine Ev.step (fun k => footlockerref02_Through.l0.eq_2 _ _ _ _ _) (Ev.pos (by rw [bs_length]; omega) ?_)
  have inner : ∀ (e : Nat) (one : List G) (below : G) (j : Nat), j + e = xs.length → one.length ≤ (if n < j then j else j + 1) → below ≠ 0 → ev one (co xs n) = below → (∀ a, a < j → a ≠ n → ev one (co xs a) = 0) →
   Ev (fun k => footlockerref02_Through.l1 k (bs xs) (bs ys) (bs o) (n : Int) (bs one) below.i (j : Int)) (bs (interp xs ys)) := by
   intro e
   induction e with
   | zero =>
    intro one below j hj h1 h2 h3 h4
    rw [if_pos (by omega)] at h1
    refine Ev.step (fun k => footlockerref02_Through.l1.eq_2 _ _ _ _ _ _ _ _) (Ev.neg (by rw [bs_length]; omega) (Ev.pos (by omega) (Ev.pos (by rw [bs_length]; omega) ?_)))
    refine Ev.bind (refinv_ev _) ?_
    rw [rd_bs]
    refine Ev.bind (refmul_ev _ _) (Ev.bind (a := bs (pmul one [co ys n * inv below])) (refpmul_ev one [co ys n * inv below] (by omega) (by simp)) ?_)
    have hpl := pmul_len_le one [co ys n * inv below] (by simp)
    simp only [List.length_cons, List.length_nil] at hpl
    refine Ev.bind (refadd_ev _ _ (by omega) (by omega)) ?_
    rw [wrap_succ (by omega)]
    refine ih _ (n + 1) (by omega) (Nat.le_trans (padd_length_le _ _) (by omega)) (trim_padd _ _) (fun a ha => ?_)
    rw [ev_padd, ev_pmul, h a ha, ev_cons, ev_nil, mul_zero, add_zero]
    by_cases e : a = n
    ·subst e
     rw [if_neg (by omega), if_pos (by omega), h3, zero_add, mul_comm, mul_assoc, inv_mul h2, mul_one]
    ·rw [h4 a (by omega) e, zero_mul, add_zero]
     by_cases h5 : a < n
     ·rw [if_pos h5, if_pos (by omega)]
     ·rw [if_neg h5, if_neg (by omega)]
   | succ e ihe =>
    intro one below j hj h1 h2 h3 h4
    refine Ev.step (fun k => footlockerref02_Through.l1.eq_2 _ _ _ _ _ _ _ _) (Ev.pos (by rw [bs_length]; omega) ?_)
    by_cases ej : j = n
    ·subst ej
     refine Ev.pos rfl ?_
     rw [wrap_succ (by omega)]
     refine ihe one below (j + 1) (by omega) ?_ h2 h3 (fun a ha hne => h4 a (by omega) hne)
     rw [if_pos (by omega)]
     rw [if_neg (by omega)] at h1
     exact h1
    ·have hlen : one.length ≤ j + 1 := by split at h1 <;> omega
     refine Ev.neg (by omega) (Ev.pos (by omega) ?_)
     rw [rd_bs, rd_bs]
     refine Ev.bind (a := bs (pmul one [co xs j, 1])) (refpmul_ev one [co xs j, 1] (by omega) (by simp)) (Ev.pos (by omega) (Ev.pos (by rw [bs_length]; omega) ?_))
     rw [xor_i]
     refine Ev.bind (refmul_ev _ _) ?_
     rw [wrap_succ (by omega)]
     have hne : co xs n + co xs j ≠ 0 := by
      intro e0
      have e1 := add_eq_zero.1 e0
      rcases Nat.lt_or_gt_of_ne ej with h5 | h5
      ·exact nodup_co.1 hd j n h5 (by omega) e1.symm
      ·exact nodup_co.1 hd n j h5 (by omega) e1
     have hpl := pmul_len_le one [co xs j, 1] (by simp)
     simp only [List.length_cons, List.length_nil] at hpl
     refine ihe _ _ (j + 1) (by omega) ?_ (mul_ne_zero h2 hne) ?_ ?_
     ·by_cases h5 : n < j
      ·rw [if_pos h5] at h1
       rw [if_pos (by omega)]
       omega
      ·rw [if_neg h5] at h1
       rw [if_neg (by omega)]
       omega
     ·rw [ev_pmul, h3, ev_lin, add_comm (co xs j)]
     ·intro a ha hne'
      rw [ev_pmul, ev_lin]
      by_cases ea : a = j
      ·rw [ea, add_self, mul_zero]
      ·rw [h4 a (by omega) hne', zero_mul]
  refine inner xs.length [1] 1 0 (by omega) (by simp) one_ne_zero ?_ (fun a ha => by omega)
  rw [ev_cons, ev_nil, mul_zero, add_zero]
theorem refthrough_ev (xs ys : List G) (hd : xs.Nodup) (hl : xs.length = ys.length) (hx : xs.length < 1000000000) : Ev (fun k => footlockerref02_Through.f k (bs xs) (bs ys)) (bs (interp xs ys)) :=
 Ev.congr (fun k => footlockerref02_Through.f.eq_1 _ _ _) (refthrough_loops xs ys hd hl hx xs.length [] 0 (by omega) (by simp) rfl (fun j hj => by rw [if_neg (by omega)]; rfl))
end Go.Proofs.Ytcdmgppjhdpgkaa.Al
namespace Go.Proofs.Ytcdmgppjhdpgkaa.Al
open Go Go.RowKit Go.Proofs.YtcdmgppjhdpgkaaW.PrintWords Go.Proofs.YtcdmgppjhdpgkaaW.PrintMore Go.Proofs.Ytcdmgppjhdpgkaa.P
set_option linter.unusedVariables false
set_option linter.unusedSimpArgs false
def pl (i : Nat) : G := G.of ((i : Int) % 256)
theorem pl_i (i : Nat) : (i : Int) % 256 = (pl i).i := by rw [pl, i_of (by omega) (by omega)]
theorem pl_ne {a b : Nat} (hab : a < b) (hb : b < 256) : pl a ≠ pl b := by
 intro e
 have := congrArg G.i e
 rw [← pl_i, ← pl_i] at this
 omega
def places (n : Nat) : List G := tab n pl
theorem places_length (n : Nat) : (places n).length = n := tab_length n pl
theorem co_places {n i : Nat} (h : i < n) : co (places n) i = pl i := by rw [places, co_tab, if_pos h]
theorem places_nodup {n : Nat} (hn : n ≤ 256) : (places n).Nodup := by
 rw [nodup_co]
 intro a b hab hb
 rw [places_length] at hb
 rw [co_places (by omega), co_places hb]
 exact pl_ne hab (by omega)
theorem places_l0 (m : Nat) (hm : m < 100000000000) (d : Nat) : ∀ n : Nat, n + d = m → Ev (fun k => systematic_places.l0 k (bs (places n)) (m : Int) (n : Int)) (bs (places m)) := by
 induction d with
 | zero =>
  intro n hn
  obtain rfl : n = m := by omega
  exact Ev.step (fun k => systematic_places.l0.eq_2 _ _ _ _) (Ev.neg (by omega) (Ev.now _))
 | succ d ih =>
  intro n hn
  refine Ev.step (fun k => systematic_places.l0.eq_2 _ _ _ _) (Ev.pos (by omega) (Ev.pos (by rw [bs_length, places_length]; omega) ?_))
  rw [pl_i, places, tab_bs n pl, wrap_succ (by omega)]
  exact ih (n + 1) (by omega)
theorem places_ev (m : Nat) (hm : m < 100000000000) : Ev (fun k => systematic_places.f k (m : Int)) (bs (places m)) :=
 Ev.congr (fun k => systematic_places.f.eq_1 _ _) (places_l0 m hm m 0 (by omega))
def gen (d : List G) : List G := interp (places d.length) d
theorem gen_facts {d : List G} (hd : d.length ≤ 256) : (gen d).length ≤ d.length ∧ trim (gen d) = gen d ∧ ∀ j, j < d.length → ev (gen d) (pl j) = co d j := by
 obtain ⟨h1, h2, h3⟩ := interp_facts (ys := d) (places_nodup hd)
 rw [places_length] at h1 h3
 refine ⟨h1, h2, fun j hj => ?_⟩
 have := h3 j hj
 rwa [co_places hj] at this
def vals (p : List G) (n : Nat) : List G := tab n (fun i => ev p (pl i))
theorem vals_length (p : List G) (n : Nat) : (vals p n).length = n := tab_length n _
theorem co_vals {p : List G} {n i : Nat} (h : i < n) : co (vals p n) i = ev p (pl i) := by rw [vals, co_tab, if_pos h]
theorem through_places (d : List G) (hd : d.length ≤ 256) : Ev (fun k => poly_Through.f k (bs (places d.length)) (bs d)) (bs (gen d), 0) :=
 through_ev _ _ (places_nodup hd) (places_length _) (by rw [places_length]; omega)
def more (d : List G) (k : Nat) : List G := tab k (fun i => ev (gen d) (pl (d.length + i)))
theorem more_length (d : List G) (k : Nat) : (more d k).length = k := tab_length k _
def word (d : List G) (k : Nat) : List G := vals (gen d) (d.length + k)
theorem word_length (d : List G) (k : Nat) : (word d k).length = d.length + k := vals_length _ _
theorem encode_l0 (d : List G) (k : Nat) (hd : d.length + k ≤ 255) (e : Nat) : ∀ n : Nat, n + e = k →
 Ev (fun f => systematic_Encode.l0 f (d.length : Int) (bs (gen d)) (bs (more d n)) (k : Int) (n : Int)) (bs (more d k), 0) := by
 have hg := (gen_facts (d := d) (by omega)).1
 induction e with
 | zero =>
  intro n hn
  obtain rfl : n = k := by omega
  exact Ev.step (fun k => systematic_Encode.l0.eq_2 _ _ _ _ _ _) (Ev.neg (by omega) (Ev.now _))
 | succ e ih =>
  intro n hn
  refine Ev.step (fun k => systematic_Encode.l0.eq_2 _ _ _ _ _ _) (Ev.pos (by omega) ?_)
  have hw : wrap64 ((d.length : Int) + (n : Int)) = ((d.length + n : Nat) : Int) := by rw [wrap_sm (by omega) (by omega)]; omega
  rw [hw, pl_i]
  refine Ev.bind (eval_ev _ _ (by omega)) (Ev.pos (by rw [bs_length, more_length]; omega) ?_)
  rw [more, tab_bs n (fun i => ev (gen d) (pl (d.length + i))), wrap_succ (by omega)]
  exact ih (n + 1) (by omega)
theorem encode_ev (d : List G) (k : Nat) (h0 : 0 < d.length) (hd : d.length + k ≤ 255) : Ev (fun f => systematic_Encode.f f (bs d) (k : Int)) (bs (more d k), 0) := by
 refine Ev.congr (fun k => systematic_Encode.f.eq_1 _ _ _) (Ev.neg (by rw [bs_length]; omega) ?_)
 rw [decide_eq_false (by omega)]
 refine Ev.step (fun k => systematic_Encode.j0.eq_2 _ _ _ _ _) (Ev.neg (by simp) (Ev.neg (by omega) (Ev.neg ?_ ?_)))
 ·rw [bs_length, wrap_sm (by omega) (by omega)]; omega
 ·rw [bs_length]
  exact Ev.bind (places_ev _ (by omega)) (Ev.bind (through_places d (by omega)) (encode_l0 d k hd k 0 (by omega)))
def May (w : List G) (n : Int) : Prop := n ≥ 1 ∧ n ≤ w.length ∧ w.length ≤ 255
instance (w : List G) (n : Int) : Decidable (May w n) := inferInstanceAs (Decidable (_ ∧ _ ∧ _))
end Go.Proofs.Ytcdmgppjhdpgkaa.Al
namespace Go.Proofs.Ytcdmgppjhdpgkaa.Al
set_option linter.unusedVariables false
set_option linter.unusedSimpArgs false
def row (M : List (List G)) (i : Nat) : List G := M.getD i []
theorem row_lt {M : List (List G)} {i : Nat} (h : i < M.length) : row M i = M[i] := by
 simp [row, List.getD_eq_getElem?_getD, List.getElem?_eq_getElem h]
theorem row_ge {M : List (List G)} {i : Nat} (h : M.length ≤ i) : row M i = [] := by
 simp [row, List.getD_eq_getElem?_getD, List.getElem?_eq_none h]
theorem row_set (M : List (List G)) (n i : Nat) (r : List G) (h : n < M.length) : row (M.set n r) i = if i = n then r else row M i := by
 simp only [row, List.getD_eq_getElem?_getD, List.getElem?_set]
 by_cases e : n = i
 ·subst e
  simp [h]
 ·simp [e, Ne.symm e]
theorem row_append (M N : List (List G)) (i : Nat) : row (M ++ N) i = if i < M.length then row M i else row N (i - M.length) := by
 simp only [row, List.getD_eq_getElem?_getD, List.getElem?_append]
 split <;> rfl
theorem ext_row {M N : List (List G)} (hl : M.length = N.length) (h : ∀ i, i < M.length → row M i = row N i) : M = N := by
 apply List.ext_getElem hl
 intro i h1 h2
 have := h i h1
 rwa [row_lt h1, row_lt h2] at this
def tabR (n : Nat) (f : Nat → List G) : List (List G) := (List.range n).map f
theorem tabR_length (n : Nat) (f : Nat → List G) : (tabR n f).length = n := by simp [tabR]
theorem row_tabR (n : Nat) (f : Nat → List G) (i : Nat) (h : i < n) : row (tabR n f) i = f i := by
 rw [row_lt (by rw [tabR_length]; exact h)]
 simp [tabR]
def Wd (M : List (List G)) (w : Nat) : Prop := ∀ i, i < M.length → (row M i).length = w
def Sp (M : List (List G)) (v : Nat → G) : Prop := ∃ f : Nat → G, ∀ j, v j = sum (fun i => f i * co (row M i) j) M.length
theorem Sp.zero (M : List (List G)) : Sp M (fun _ => 0) := ⟨fun _ => 0, fun j => by rw [sum_eq_zero]; intro i _; rw [zero_mul]⟩
theorem Sp.congr {M : List (List G)} {v w : Nat → G} (hv : Sp M v) (h : ∀ j, v j = w j) : Sp M w := by
 obtain ⟨f, hf⟩ := hv
 exact ⟨f, fun j => by rw [← h, hf]⟩
theorem Sp.add {M : List (List G)} {v w : Nat → G} (hv : Sp M v) (hw : Sp M w) : Sp M (fun j => v j + w j) := by
 obtain ⟨f, hf⟩ := hv
 obtain ⟨g, hg⟩ := hw
 refine ⟨fun i => f i + g i, fun j => ?_⟩
 dsimp only
 rw [hf, hg, ← sum_add]
 apply sum_congr
 intro i _
 rw [add_mul]
theorem Sp.row {M : List (List G)} {i : Nat} (h : i < M.length) : Sp M (co (row M i)) := by
 refine ⟨fun k => if k = i then 1 else 0, fun j => ?_⟩
 rw [sum_single (k := i) h]
 ·dsimp only
  rw [if_pos rfl, one_mul]
 ·intro k _ hk
  dsimp only
  rw [if_neg hk, zero_mul]
def swp (M : List (List G)) (a u k : Nat) : List G := if k = a then row M u else if k = u then row M a else row M k
def piv (M : List (List G)) (c u : Nat) : List G := scale (inv (co (row M u) c)) (row M u)
def elim (M : List (List G)) (a c u : Nat) : List (List G) := tabR M.length (fun k => if k = a then piv M c u else zadd (swp M a u k) (scale (co (swp M a u k) c) (piv M c u)))
theorem elim_length (M : List (List G)) (a c u : Nat) : (elim M a c u).length = M.length := tabR_length _ _
theorem row_elim {M : List (List G)} {a c u k : Nat} (h : k < M.length) : row (elim M a c u) k = if k = a then piv M c u else zadd (swp M a u k) (scale (co (swp M a u k) c) (piv M c u)) := row_tabR _ _ _ h
theorem co_piv (M : List (List G)) (c u j : Nat) : co (piv M c u) j = inv (co (row M u) c) * co (row M u) j := co_scale _ _ _
theorem co_elim_at {M : List (List G)} {a c u : Nat} (h : a < M.length) (j : Nat) : co (row (elim M a c u) a) j = co (piv M c u) j := by rw [row_elim h, if_pos rfl]
theorem co_elim {M : List (List G)} {a c u k : Nat} (h : k < M.length) (hk : k ≠ a) (j : Nat) : co (row (elim M a c u) k) j = co (swp M a u k) j + co (swp M a u k) c * co (piv M c u) j := by
 rw [row_elim h, if_neg hk, co_zadd, co_scale]
structure RF (M : List (List G)) (ps : List Nat) (c : Nat) : Prop where
 len : ps.length ≤ M.length
 lt : ∀ t, t < ps.length → ps.getD t 0 < c
 asc : ∀ s t, s < t → t < ps.length → ps.getD s 0 < ps.getD t 0
 unit : ∀ i t, i < M.length → t < ps.length → co (row M i) (ps.getD t 0) = if i = t then 1 else 0
 low : ∀ i j, ps.length ≤ i → i < M.length → j < c → co (row M i) j = 0
 lead : ∀ t j, t < ps.length → j < ps.getD t 0 → co (row M t) j = 0
theorem RF.start (M : List (List G)) : RF M [] 0 where
 len := Nat.zero_le _
 lt := fun t h => absurd h (Nat.not_lt_zero _)
 asc := fun s t _ h => absurd h (Nat.not_lt_zero _)
 unit := fun i t _ h => absurd h (Nat.not_lt_zero _)
 low := fun i j _ _ h => absurd h (Nat.not_lt_zero _)
 lead := fun t j h => absurd h (Nat.not_lt_zero _)
theorem RF.skip {M : List (List G)} {ps : List Nat} {c : Nat} (h : RF M ps c) (hz : ∀ i, ps.length ≤ i → i < M.length → co (row M i) c = 0) : RF M ps (c + 1) where
 len := h.len
 lt := fun t ht => Nat.lt_succ_of_lt (h.lt t ht)
 asc := h.asc
 unit := h.unit
 low := fun i j hi hi2 hj => by
  by_cases e : j = c
  ·rw [e]; exact hz i hi hi2
  ·exact h.low i j hi hi2 (by omega)
 lead := h.lead
theorem getD_snoc (ps : List Nat) (c t : Nat) : (ps ++ [c]).getD t 0 = if t < ps.length then ps.getD t 0 else if t = ps.length then c else 0 := by
 simp only [List.getD_eq_getElem?_getD, List.getElem?_append]
 by_cases h : t < ps.length
 ·rw [if_pos h, if_pos h]
 ·rw [if_neg h, if_neg h]
  by_cases e : t = ps.length
  ·rw [if_pos e, e]; simp
  ·rw [if_neg e, List.getElem?_eq_none (by simp; omega)]; rfl
theorem RF.step {M : List (List G)} {ps : List Nat} {c u : Nat} (h : RF M ps c) (hu : ps.length ≤ u) (hu2 : u < M.length) (hp : co (row M u) c ≠ 0) : RF (elim M ps.length c u) (ps ++ [c]) (c + 1) := by
 have ha : ps.length < M.length := by omega
 have hpz : ∀ j, j < c → co (piv M c u) j = 0 := fun j hj => by rw [co_piv, h.low u j hu hu2 hj, mul_zero]
 have hpc : co (piv M c u) c = 1 := by rw [co_piv, inv_mul hp]
 have hsl : ∀ k, ps.length < k → k < M.length → ∀ j, j < c → co (swp M ps.length u k) j = 0 := by
  intro k hk hk2 j hj
  unfold swp
  rw [if_neg (by omega)]
  split
  ·exact h.low _ j (Nat.le_refl _) ha hj
  ·exact h.low _ j (by omega) hk2 hj
 have hsk : ∀ k, k < ps.length → swp M ps.length u k = row M k := by
  intro k hk
  unfold swp
  rw [if_neg (by omega), if_neg (by omega)]
 have hcol : ∀ i, i < M.length → co (row (elim M ps.length c u) i) c = if i = ps.length then 1 else 0 := by
  intro i hi
  by_cases e : i = ps.length
  ·rw [if_pos e, e, co_elim_at ha, hpc]
  ·rw [if_neg e, co_elim hi e, hpc, mul_one, add_self]
 have hbel : ∀ i j, i < M.length → j < c → co (row (elim M ps.length c u) i) j = if i < ps.length then co (row M i) j else 0 := by
  intro i j hi hj
  by_cases e : i = ps.length
  ·rw [e, co_elim_at ha, hpz j hj, if_neg (Nat.lt_irrefl _)]
  ·rw [co_elim hi e, hpz j hj, mul_zero, add_zero]
   by_cases hlt : i < ps.length
   ·rw [if_pos hlt, hsk i hlt]
   ·rw [if_neg hlt, hsl i (by omega) hi j hj]
 have hget : ∀ t, t < ps.length → (ps ++ [c]).getD t 0 = ps.getD t 0 := fun t ht => by rw [getD_snoc, if_pos ht]
 have hend : (ps ++ [c]).getD ps.length 0 = c := by rw [getD_snoc, if_neg (Nat.lt_irrefl _), if_pos rfl]
 have hl : (ps ++ [c]).length = ps.length + 1 := by simp
 constructor
 ·rw [hl, elim_length]; omega
 ·intro t ht
  rw [hl] at ht
  by_cases e : t = ps.length
  ·rw [e, hend]; omega
  ·rw [hget t (by omega)]
   have := h.lt t (by omega)
   omega
 ·intro s t hst ht
  rw [hl] at ht
  rw [hget s (by omega)]
  by_cases e : t = ps.length
  ·rw [e, hend]
   exact h.lt s (by omega)
  ·rw [hget t (by omega)]
   exact h.asc s t hst (by omega)
 ·intro i t hi ht
  rw [hl] at ht
  rw [elim_length] at hi
  by_cases e : t = ps.length
  ·rw [e, hend, hcol i hi]
  ·rw [hget t (by omega), hbel i _ hi (h.lt t (by omega))]
   by_cases hlt : i < ps.length
   ·rw [if_pos hlt, h.unit i t hi (by omega)]
   ·rw [if_neg hlt, if_neg (by omega)]
 ·intro i j hi hi2 hj
  rw [hl] at hi
  rw [elim_length] at hi2
  by_cases e : j = c
  ·rw [e, hcol i hi2, if_neg (by omega)]
  ·rw [hbel i j hi2 (by omega), if_neg (by omega)]
 ·intro t j ht hj
  rw [hl] at ht
  by_cases e : t = ps.length
  ·rw [e, hend] at hj
   rw [e, hbel _ j ha hj, if_neg (Nat.lt_irrefl _)]
  ·rw [hget t (by omega)] at hj
   have := h.lt t (by omega)
   rw [hbel t j (by omega) (by omega), if_pos (by omega)]
   exact h.lead t j (by omega) hj
def Ld (M : List (List G)) (j : Nat) : Prop := ∃ v, Sp M v ∧ (∀ i, i < j → v i = 0) ∧ v j ≠ 0
theorem Ld.of {M N : List (List G)} (h : ∀ v, Sp M v → Sp N v) {j : Nat} (hl : Ld M j) : Ld N j := by
 obtain ⟨v, h1, h2⟩ := hl
 exact ⟨v, h v h1, h2⟩
end Go.Proofs.Ytcdmgppjhdpgkaa.Al
namespace Go.Proofs.Ytcdmgppjhdpgkaa.Al
set_option linter.unusedVariables false
set_option linter.unusedSimpArgs false
def one (n : Nat) (x : Nat → G) (j : Nat) : G := if j < n then x j else 1
end Go.Proofs.Ytcdmgppjhdpgkaa.Al
namespace Go.Proofs.Ytcdmgppjhdpgkaa.Al
open Go Go.RowKit Go.Proofs.YtcdmgppjhdpgkaaW.PrintWords Go.Proofs.YtcdmgppjhdpgkaaW.PrintMore Go.Proofs.Ytcdmgppjhdpgkaa.P
set_option linter.unusedVariables false
set_option linter.unusedSimpArgs false
def bss (M : List (List G)) : List (List Int) := M.map bs
theorem bss_length (M : List (List G)) : (bss M).length = M.length := List.length_map _
theorem rd_bss (M : List (List G)) (i : Nat) : rd_L1 (bss M) (i : Int) = bs (row M i) := by
 simp only [rd_L1, bss, Int.toNat_natCast, row, List.getD_eq_getElem?_getD, List.getElem?_map]
 cases M[i]? <;> rfl
theorem rd_bss0 (M : List (List G)) : rd_L1 (bss M) 0 = bs (row M 0) := rd_bss M 0
theorem bss_set (M : List (List G)) (n : Nat) (r : List G) : (bss M).set n (bs r) = bss (M.set n r) := List.map_set.symm
theorem bss_snoc (M : List (List G)) (r : List G) : bss M ++ [bs r] = bss (M ++ [r]) := by simp [bss]
theorem rows_in : ∀ l : List (List Int), (∀ x ∈ l, ∀ y ∈ x, (Lit.int .u8 y).wf = true) → ∃ M, l = bss M := by
 intro l
 induction l with
 | nil => intro _; exact ⟨[], rfl⟩
 | cons a l ih =>
  intro h
  obtain ⟨M, rfl⟩ := ih (fun x hx => h x (List.mem_cons_of_mem _ hx))
  obtain ⟨p, rfl⟩ := bytes_in (h a List.mem_cons_self)
  exact ⟨p :: M, rfl⟩
def wid (M : List (List G)) : Nat := (row M 0).length
def Rt (M : List (List G)) : Prop := Wd M (wid M)
instance (M : List (List G)) : Decidable (Rt M) := Nat.decidableBallLT M.length (fun i _ => (row M i).length = wid M)
theorem row_snoc_take {M : List (List G)} {n : Nat} (h : n < M.length) : M.take n ++ [row M n] = M.take (n + 1) := by
 rw [List.take_succ_eq_append_getElem h, row_lt h]
def Fit (M : List (List G)) : Prop := M.length < 1000000 ∧ ∀ i, i < M.length → (row M i).length < 1000000
theorem Fit.of {M : List (List G)} {w : Nat} (h1 : M.length < 1000000) (hw : Wd M w) (h2 : w < 1000000) : Fit M := ⟨h1, fun i hi => by rw [hw i hi]; exact h2⟩
theorem Fit.wid {M : List (List G)} (h : Fit M) : wid M < 1000000 := by
 unfold Al.wid
 by_cases e : 0 < M.length
 ·exact h.2 0 e
 ·rw [row_ge (by omega)]; decide
theorem fidx_idx {α : Type} (p : α → Bool) : ∀ (l : List α) (i : Nat), fidx p l i = if l.findIdx p < l.length then ((i + l.findIdx p : Nat) : Int) else -1 := by
 intro l
 induction l with
 | nil => intro i; rfl
 | cons a l ih =>
  intro i
  rw [fidx, List.findIdx_cons]
  cases h : p a with
  | true => simp
  | false =>
   rw [if_neg (by simp), ih]
   simp only [Bool.cond_false, List.length_cons]
   by_cases e : l.findIdx p < l.length
   ·rw [if_pos e, if_pos (by omega)]; omega
   ·rw [if_neg e, if_neg (by omega)]
theorem findIdx_bss (p : List Int → Bool) (q : List G → Bool) (h : ∀ r, p (bs r) = q r) (M : List (List G)) : (bss M).findIdx p = M.findIdx q := by
 rw [bss, List.findIdx_map]
 congr 1
 funext r
 exact h r
end Go.Proofs.Ytcdmgppjhdpgkaa.Al
namespace Go.Proofs.Ytcdmgppjhdpgkaa.Al
open Go Go.RowKit Go.Proofs.YtcdmgppjhdpgkaaW.PrintWords Go.Proofs.YtcdmgppjhdpgkaaW.PrintMore Go.Proofs.Ytcdmgppjhdpgkaa.P
set_option linter.unusedVariables false
set_option linter.unusedSimpArgs false
def crow (M : List (List G)) (i : Nat) : List G := M.map (fun c => co c i)
theorem crow_length (M : List (List G)) (i : Nat) : (crow M i).length = M.length := List.length_map _
theorem crow_snoc (M : List (List G)) (n i : Nat) (h : n < M.length) : crow (M.take n) i ++ [co (row M n) i] = crow (M.take (n + 1)) i := by
 rw [← row_snoc_take h, crow, crow, List.map_append]; rfl
theorem row_l0 (M : List (List G)) (i w : Nat) (hM : Fit M) (hw : Wd M w) (hi : i < w) (d : Nat) : ∀ n : Nat, n + d = M.length →
 Ev (fun k => stripe_row.l0 k (i : Int) (bs (crow (M.take n) i)) (bss M) (M.length : Int) (n : Int)) (bs (crow M i)) := by
 have h1 := hM.1
 induction d with
 | zero =>
  intro n hn
  obtain rfl : n = M.length := by omega
  exact Ev.step (fun k => stripe_row.l0.eq_2 _ _ _ _ _ _) (Ev.neg (by omega) (evc (Ev.now _) (by rw [List.take_length])))
 | succ d ih =>
  intro n hn
  have hr := hw n (by omega)
  have hl := hM.2 n (by omega)
  refine Ev.step (fun k => stripe_row.l0.eq_2 _ _ _ _ _ _) (Ev.pos (by omega) (Ev.pos (by omega) (Ev.pos (by rw [bss_length]; omega) (Ev.pos (by omega) ?_))))
  rw [rd_bss, bs_length, rd_bs, wrap_succ (by omega)]
  refine Ev.pos (by omega) (Ev.pos (by rw [bs_length, crow_length, List.length_take]; omega) ?_)
  have e : bs (crow (M.take n) i) ++ [(co (row M n) i).i] = bs (crow (M.take (n + 1)) i) := by
   rw [← crow_snoc M n i (by omega), bs_append]; rfl
  rw [e]
  exact ih (n + 1) (by omega)
theorem row_ev (M : List (List G)) (i w : Nat) (hM : Fit M) (hw : Wd M w) (hi : i < w) : Ev (fun k => stripe_row.f k (bss M) (i : Int)) (bs (crow M i)) := by
 refine Ev.congr (fun k => stripe_row.f.eq_1 _ _ _) ?_
 rw [bss_length]
 exact row_l0 M i w hM hw hi M.length 0 (by omega)
def par (M : List (List G)) (k w : Nat) : List (List G) := tabR k (fun j => tab w (fun i => co (more (crow M i) k) j))
theorem par_length (M : List (List G)) (k w : Nat) : (par M k w).length = k := tabR_length _ _
theorem row_par (M : List (List G)) {k w j : Nat} (h : j < k) : row (par M k w) j = tab w (fun i => co (more (crow M i) k) j) := row_tabR _ _ _ h
def parm (M : List (List G)) (k w m : Nat) : List (List G) := tabR k (fun j => tab (if j < m then w + 1 else w) (fun i => co (more (crow M i) k) j))
theorem parm_zero (M : List (List G)) (k w : Nat) : parm M k w 0 = par M k w := by
 unfold parm par
 congr 1
theorem parm_all (M : List (List G)) (k w : Nat) : parm M k w k = par M k (w + 1) := by
 apply ext_row
 ·rw [parm, par, tabR_length, tabR_length]
 ·intro j hj
  rw [parm, tabR_length] at hj
  rw [parm, par, row_tabR _ _ _ hj, row_tabR _ _ _ hj, if_pos hj]
theorem parm_set (M : List (List G)) (k w m : Nat) (hm : m < k) : (parm M k w m).set m (row (parm M k w m) m ++ [co (more (crow M w) k) m]) = parm M k w (m + 1) := by
 apply ext_row
 ·rw [List.length_set, parm, parm, tabR_length, tabR_length]
 ·intro j hj
  rw [List.length_set, parm, tabR_length] at hj
  have e1 : (parm M k w m).length = k := tabR_length _ _
  have e2 : ∀ m' j', j' < k → row (parm M k w m') j' = tab (if j' < m' then w + 1 else w) (fun i => co (more (crow M i) k) j') := fun m' j' h => row_tabR _ _ _ h
  rw [row_set _ _ _ _ (by rw [e1]; exact hm), e2 _ _ hm, e2 _ _ hj, e2 _ _ hj]
  by_cases e : j = m
  ·subst e
   rw [if_pos rfl, if_neg (Nat.lt_irrefl _), if_pos (Nat.lt_succ_self _), tab_succ]
  ·rw [if_neg e]
   by_cases e3 : j < m
   ·rw [if_pos e3, if_pos (show j < m + 1 by omega)]
   ·rw [if_neg e3, if_neg (show ¬ j < m + 1 by omega)]
theorem parity_l1 (M : List (List G)) (k w i : Nat) (hk : k ≤ 255) (hi : i < 1000000) (d : Nat) : ∀ (m : Nat) (r : List (List Int) × Int), m + d = k →
 Ev (fun f => stripe_Parity.l0 f (k : Int) (bss M) (bss (par M k (i + 1))) (w : Int) (wrap64 ((i : Int) + 1))) r →
 Ev (fun f => stripe_Parity.l1 f (k : Int) (bss M) (bss (parm M k i m)) (w : Int) (i : Int) (bs (more (crow M i) k)) (k : Int) (m : Int)) r := by
 induction d with
 | zero =>
  intro m r hm h
  obtain rfl : m = k := by omega
  refine Ev.step (fun f => stripe_Parity.l1.eq_2 _ _ _ _ _ _ _ _ _) (Ev.neg (by omega) ?_)
  rw [parm_all]
  exact h
 | succ d ih =>
  intro m r hm h
  have hl : (parm M k i m).length = k := tabR_length _ _
  have hr : (row (parm M k i m) m).length = i := by rw [parm, row_tabR _ _ _ (by omega), tab_length, if_neg (by omega)]
  refine Ev.step (fun f => stripe_Parity.l1.eq_2 _ _ _ _ _ _ _ _ _) (Ev.pos (by omega) (Ev.pos (by omega) (Ev.pos (by rw [bs_length, more_length]; omega) (Ev.pos (by rw [bss_length, hl]; omega) ?_))))
  rw [rd_bss, rd_bs, wrap_succ (by omega), Int.toNat_natCast]
  have e : bs (row (parm M k i m) m) ++ [(co (more (crow M i) k) m).i] = bs (row (parm M k i m) m ++ [co (more (crow M i) k) m]) := by rw [bs_append]; rfl
  refine Ev.pos (by rw [bs_length, hr]; omega) ?_
  rw [e, bss_set, parm_set M k i m (by omega)]
  exact ih (m + 1) r (by omega) h
theorem parity_l0 (M : List (List G)) (k w : Nat) (hM : Fit M) (hw : Wd M w) (h0 : 0 < M.length) (hk : M.length + k ≤ 255) (d : Nat) : ∀ i : Nat, i + d = w →
 Ev (fun f => stripe_Parity.l0 f (k : Int) (bss M) (bss (par M k i)) (w : Int) (i : Int)) (bss (par M k w), 0) := by
 have hww : w < 1000000 := by rw [← hw 0 h0]; exact hM.2 0 h0
 induction d with
 | zero =>
  intro i hi
  obtain rfl : i = w := by omega
  exact Ev.step (fun k => stripe_Parity.l0.eq_2 _ _ _ _ _ _) (Ev.neg (by omega) (Ev.now _))
 | succ d ih =>
  intro i hi
  refine Ev.step (fun k => stripe_Parity.l0.eq_2 _ _ _ _ _ _) (Ev.pos (by omega) (Ev.bind (row_ev M i w hM hw (by omega)) (Ev.bind (encode_ev (crow M i) k (by rw [crow_length]; omega) (by rw [crow_length]; omega)) ?_)))
  dsimp only
  rw [bs_length, more_length, ← parm_zero]
  refine parity_l1 M k w i (by omega) (by omega) k 0 _ (by omega) ?_
  rw [wrap_succ (by omega)]
  exact ih (i + 1) (by omega)
theorem fidx_rt (M : List (List G)) : decide (fidx (fun x => (x.length : Int) != ((rd_L1 (bss M) 0).length : Int)) (bss M) 0 ≥ 0) = decide (¬ Rt M) := by
 rw [fidx_idx, findIdx_bss _ (fun r => decide (r.length ≠ wid M)) (fun r => by
  rw [rd_bss0, bs_length, bs_length]
  show (!((r.length : Int) == ((row M 0).length : Int))) = _
  unfold wid
  by_cases e : r.length = (row M 0).length
  ·rw [decide_eq_false (by simp [e])]
   simp [e]
  ·rw [decide_eq_true e]
   simp
   omega), bss_length]
 rw [decide_eq_decide]
 by_cases h : M.findIdx (fun r => decide (r.length ≠ wid M)) < M.length
 ·rw [if_pos h]
  refine iff_of_true (by omega) (fun hr => ?_)
  have h2 := List.findIdx_getElem (w := h)
  rw [← row_lt h] at h2
  exact (of_decide_eq_true h2) (hr _ h)
 ·rw [if_neg h]
  refine iff_of_false (by omega) (fun hn => hn ?_)
  intro i hi
  have h3 := List.not_of_lt_findIdx (p := fun r => decide (r.length ≠ wid M)) (xs := M) (i := i) (by omega)
  rw [← row_lt hi] at h3
  simpa using h3
theorem parity_ev (M : List (List G)) (k w : Nat) (hM : Fit M) (hw : Wd M w) (h0 : 0 < M.length) (hk : M.length + k ≤ 255) : Ev (fun f => stripe_Parity.f f (bss M) (k : Int)) (bss (par M k w), 0) := by
 have hr : wid M = w := hw 0 h0
 have hR : Rt M := by unfold Rt; rw [hr]; exact hw
 refine Ev.congr (fun k => stripe_Parity.f.eq_1 _ _ _) (Ev.neg (by rw [bss_length]; omega) (Ev.neg (by omega) ?_))
 rw [fidx_rt, decide_eq_false (fun h => h hR)]
 refine Ev.step (fun k => stripe_Parity.j0.eq_2 _ _ _ _) (Ev.neg (by simp) (Ev.neg (by omega) ?_))
 rw [bss_length, wrap_sm (by omega) (by omega), decide_eq_false (by omega)]
 refine Ev.step (fun k => stripe_Parity.j1.eq_2 _ _ _ _) (Ev.neg (by simp) (Ev.pos (by omega) (Ev.pos (by rw [Int.toNat_natCast]; omega) (Ev.pos (by rw [bss_length]; omega) ?_))))
 have e : (List.replicate (k : Int).toNat [] : List (List Int)) = bss (par M k 0) := by
  rw [Int.toNat_natCast]
  apply List.ext_getElem
  ·rw [List.length_replicate, bss_length, par_length]
  ·intro j h1 h2
   rw [List.getElem_replicate]
   have hj : j < k := by rw [List.length_replicate] at h1; exact h1
   have := rd_bss (par M k 0) j
   rw [row_par M hj, tab_zero] at this
   simp only [rd_L1, Int.toNat_natCast, List.getD_eq_getElem?_getD, List.getElem?_eq_getElem h2] at this
   exact this.symm
 rw [e, rd_bss0, bs_length]
 have : (row M 0).length = w := hr
 rw [this]
 exact parity_l0 M k w hM hw h0 hk w 0 (by omega)
theorem rows_l0 (M : List (List G)) (hM : Fit M) (d : Nat) : ∀ n : Nat, n + d = M.length → Ev (fun k => footlockerref21_Rows.l0 k (bss M) (bss M) (n : Int)) true := by
 have h1 := hM.1
 induction d with
 | zero =>
  intro n hn
  exact Ev.step (fun k => footlockerref21_Rows.l0.eq_2 _ _ _ _) (Ev.neg (by rw [bss_length]; omega) (Ev.now _))
 | succ d ih =>
  intro n hn
  have hl := hM.2 n (by omega)
  refine Ev.step (fun k => footlockerref21_Rows.l0.eq_2 _ _ _ _) (Ev.pos (by rw [bss_length]; omega) (Ev.pos (by omega) (Ev.pos (by rw [bss_length]; omega) (Ev.bind (same_true rfl (by rw [rd_bss, bs_length]; omega)) (Ev.pos rfl ?_)))))
  rw [wrap_succ (by omega)]
  exact ih (n + 1) (by omega)
theorem rows_ev (M N : List (List G)) (hM : Fit M) (h : M = N) : Ev (fun k => footlockerref21_Rows.f k (bss M) (bss N)) true := by
 subst h
 exact Ev.congr (fun k => footlockerref21_Rows.f.eq_1 _ _ _) (Ev.pos rfl (rows_l0 M hM M.length 0 (by omega)))
theorem co_more (d : List G) {k j : Nat} (hj : j < k) : co (more d k) j = ev (gen d) (pl (d.length + j)) := by rw [more, co_tab, if_pos hj]
end Go.Proofs.Ytcdmgppjhdpgkaa.Al
namespace Go.Proofs.Ytcdmgppjhdpgkaa.Al
open Go Go.RowKit Go.Proofs.YtcdmgppjhdpgkaaW.PrintWords Go.Proofs.YtcdmgppjhdpgkaaW.PrintMore Go.Proofs.Ytcdmgppjhdpgkaa.P
set_option linter.unusedVariables false
set_option linter.unusedSimpArgs false
theorem alive_ev : Ev (fun k => footlockerlaw23_alive.f k) true :=
 Ev.of (fun k => footlockerlaw23_alive.mono k) (k := 60) (by decide +kernel)
end Go.Proofs.Ytcdmgppjhdpgkaa.Al
namespace Go.Proofs.Ytcdmgppjhdpgkaa.Al
open Go Go.RowKit Go.Proofs.YtcdmgppjhdpgkaaW.PrintWords Go.Proofs.YtcdmgppjhdpgkaaW.PrintMore Go.Proofs.Ytcdmgppjhdpgkaa.P
set_option linter.unusedVariables false
set_option linter.unusedSimpArgs false
theorem refword_l0 (p : List G) (m : Nat) (hp : p.length < 1000000) (hm : m < 1000000) (d : Nat) : ∀ n : Nat, n + d = m → Ev (fun f => footlockerref04_Word.l0 f (m : Int) (bs p) (bs (vals p n)) (n : Int)) (bs (vals p m)) := by
 induction d with
 | zero =>
  intro n hn
  obtain rfl : n = m := by omega
  exact Ev.step (fun k => footlockerref04_Word.l0.eq_2 _ _ _ _ _) (Ev.neg (by omega) (Ev.now _))
 | succ d ih =>
  intro n hn
  refine Ev.step (fun k => footlockerref04_Word.l0.eq_2 _ _ _ _ _) (Ev.pos (by omega) ?_)
  rw [pl_i]
  refine Ev.bind (refeval_ev _ _ (by omega)) (Ev.pos (by rw [bs_length, vals_length]; omega) ?_)
  rw [vals, tab_bs n (fun i => ev p (pl i)), wrap_succ (by omega)]
  exact ih (n + 1) (by omega)
theorem refword_ev (xs ys : List G) (m : Nat) (hd : xs.Nodup) (hl : xs.length = ys.length) (hx : xs.length < 1000) (hm : m < 1000000) : Ev (fun f => footlockerref04_Word.f f (bs xs) (bs ys) (m : Int)) (bs (vals (interp xs ys) m)) := by
 have := (interp_facts (ys := ys) hd).1
 exact Ev.congr (fun k => footlockerref04_Word.f.eq_1 _ _ _ _) (Ev.bind (refthrough_ev xs ys hd hl (by omega)) (refword_l0 _ m (by omega) hm m 0 (by omega)))
theorem of_l0 (d : List G) (k : Nat) (hd : d.length ≤ 256) (hk : k < 100000) (e : Nat) : ∀ n : Nat, n + e = d.length → Ev (fun f => footlockerref04_Of.l0 f (bs d) (k : Int) (bs (places n)) (n : Int)) (bs (word d k)) := by
 induction e with
 | zero =>
  intro n hn
  obtain rfl : n = d.length := by omega
  have hw : wrap64 (((bs d).length : Int) + (k : Int)) = ((d.length + k : Nat) : Int) := by rw [bs_length, wrap_sm (by omega) (by omega)]; omega
  refine Ev.step (fun k => footlockerref04_Of.l0.eq_2 _ _ _ _ _) (Ev.neg (by rw [bs_length]; omega) ?_)
  rw [hw]
  exact Ev.bind (refword_ev (places d.length) d (d.length + k) (places_nodup hd) (places_length _) (by rw [places_length]; omega) (by omega)) (Ev.now _)
 | succ e ih =>
  intro n hn
  refine Ev.step (fun k => footlockerref04_Of.l0.eq_2 _ _ _ _ _) (Ev.pos (by rw [bs_length]; omega) (Ev.pos (by rw [bs_length, places_length]; omega) ?_))
  rw [pl_i, places, tab_bs n pl, wrap_succ (by omega)]
  exact ih (n + 1) (by omega)
theorem of_ev (d : List G) (k : Nat) (hd : d.length ≤ 256) (hk : k < 100000) : Ev (fun f => footlockerref04_Of.f f (bs d) (k : Int)) (bs (word d k)) :=
 Ev.congr (fun k => footlockerref04_Of.f.eq_1 _ _ _) (of_l0 d k hd hk d.length 0 (by omega))
end Go.Proofs.Ytcdmgppjhdpgkaa.Al
namespace Go.Proofs.Ytcdmgppjhdpgkaa.Al
open Go Go.RowKit Go.Proofs.YtcdmgppjhdpgkaaW.PrintWords Go.Proofs.YtcdmgppjhdpgkaaW.PrintMore Go.Proofs.Ytcdmgppjhdpgkaa.P
set_option linter.unusedVariables false
set_option linter.unusedSimpArgs false
theorem refrow_l0 (M : List (List G)) (i w : Nat) (hM : Fit M) (hw : Wd M w) (hi : i < w) (d : Nat) : ∀ n : Nat, n + d = M.length →
 Ev (fun k => footlockerref23_Row.l0 k (bss M) (i : Int) (bs (crow (M.take n) i)) (n : Int)) (bs (crow M i)) := by
 have h1 := hM.1
 induction d with
 | zero =>
  intro n hn
  obtain rfl : n = M.length := by omega
  exact Ev.step (fun k => footlockerref23_Row.l0.eq_2 _ _ _ _ _) (Ev.neg (by rw [bss_length]; omega) (evc (Ev.now _) (by rw [List.take_length])))
 | succ d ih =>
  intro n hn
  have hr := hw n (by omega)
  have hl := hM.2 n (by omega)
  refine Ev.step (fun k => footlockerref23_Row.l0.eq_2 _ _ _ _ _) (Ev.pos (by rw [bss_length]; omega) (Ev.pos (by omega) (Ev.pos (by omega) ?_)))
  rw [rd_bss, bs_length, rd_bs, wrap_succ (by omega)]
  refine Ev.pos (by omega) (Ev.pos (by rw [bs_length, crow_length, List.length_take]; omega) ?_)
  have e : bs (crow (M.take n) i) ++ [(co (row M n) i).i] = bs (crow (M.take (n + 1)) i) := by
   rw [← crow_snoc M n i (by omega), bs_append]; rfl
  rw [e]
  exact ih (n + 1) (by omega)
theorem refrow_ev (M : List (List G)) (i w : Nat) (hM : Fit M) (hw : Wd M w) (hi : i < w) : Ev (fun k => footlockerref23_Row.f k (bss M) (i : Int)) (bs (crow M i)) :=
 Ev.congr (fun k => footlockerref23_Row.f.eq_1 _ _ _) (refrow_l0 M i w hM hw hi M.length 0 (by omega))
theorem co_word_ge {d : List G} {k j : Nat} (hj : j < k) : co (word d k) (d.length + j) = co (more d k) j := by
 rw [word, co_vals (by omega), co_more _ hj]
theorem row_app (M P : List (List G)) (m : Nat) : row (M ++ P) (M.length + m) = row P m := by
 rw [row_append, if_neg (by omega)]; congr 1; omega
theorem parm_row (M : List (List G)) {k w m j : Nat} (h : j < k) : row (parm M k w m) j = tab (if j < m then w + 1 else w) (fun i => co (more (crow M i) k) j) := row_tabR _ _ _ h
theorem all_l2 (M : List (List G)) (k i : Nat) (hk : k ≤ 255) (hM : M.length ≤ 255) (hi : i < 1000000) (d : Nat) : ∀ (m : Nat) (r : List (List Int)), m + d = k →
 Ev (fun f => footlockerref23_All.l1 f (bss M) (k : Int) (bss (M ++ par M k (i + 1))) (wrap64 ((i : Int) + 1))) r →
 Ev (fun f => footlockerref23_All.l2 f (bss M) (k : Int) (bss (M ++ parm M k i m)) (i : Int) (bs (word (crow M i) k)) ((M.length + m : Nat) : Int)) r := by
 induction d with
 | zero =>
  intro m r hm h
  obtain rfl : m = k := by omega
  have hl : (parm M m i m).length = m := tabR_length _ _
  refine Ev.step (fun f => footlockerref23_All.l2.eq_2 _ _ _ _ _ _ _) (Ev.neg (by rw [bss_length, List.length_append, hl]; omega) ?_)
  rw [parm_all]
  exact h
 | succ d ih =>
  intro m r hm h
  have hl : (parm M k i m).length = k := tabR_length _ _
  have hr : (row (parm M k i m) m).length = i := by rw [parm_row M (by omega), tab_length, if_neg (by omega)]
  refine Ev.step (fun f => footlockerref23_All.l2.eq_2 _ _ _ _ _ _ _) (Ev.pos (by rw [bss_length, List.length_append, hl]; omega) (Ev.pos (by omega) (Ev.pos (by rw [bs_length, word_length, crow_length]; omega) ?_)))
  have e0 : co (word (crow M i) k) (M.length + m) = co (more (crow M i) k) m := by
   have := co_word_ge (d := crow M i) (k := k) (j := m) (by omega)
   rwa [crow_length] at this
  rw [rd_bss, rd_bs, row_app, e0, wrap_succ (by omega), Int.toNat_natCast]
  have e : bs (row (parm M k i m) m) ++ [(co (more (crow M i) k) m).i] = bs (row (parm M k i m) m ++ [co (more (crow M i) k) m]) := by rw [bs_append]; rfl
  refine Ev.pos (by rw [bs_length, hr]; omega) ?_
  rw [e, bss_set, List.set_append_right _ _ (by omega), show M.length + m - M.length = m by omega, parm_set M k i m (by omega)]
  exact ih (m + 1) r (by omega) h
theorem all_l1 (M : List (List G)) (k w : Nat) (hM : Fit M) (hw : Wd M w) (h0 : 0 < M.length) (hk : M.length + k ≤ 255) (d : Nat) : ∀ i : Nat, i + d = w →
 Ev (fun f => footlockerref23_All.l1 f (bss M) (k : Int) (bss (M ++ par M k i)) (i : Int)) (bss (M ++ par M k w)) := by
 have hww : w < 1000000 := by rw [← hw 0 h0]; exact hM.2 0 h0
 have h00 : (row M 0).length = w := hw 0 h0
 induction d with
 | zero =>
  intro i hi
  obtain rfl : i = w := by omega
  refine Ev.step (fun k => footlockerref23_All.l1.eq_2 _ _ _ _ _) (Ev.pos (by rw [bss_length]; omega) ?_)
  rw [rd_bss0, bs_length, h00]
  exact Ev.neg (by omega) (Ev.now _)
 | succ d ih =>
  intro i hi
  refine Ev.step (fun k => footlockerref23_All.l1.eq_2 _ _ _ _ _) (Ev.pos (by rw [bss_length]; omega) ?_)
  rw [rd_bss0, bs_length, h00]
  refine Ev.pos (by omega) (Ev.bind (refrow_ev M i w hM hw (by omega)) (Ev.bind (of_ev (crow M i) k (by rw [crow_length]; omega) (by omega)) ?_))
  rw [bss_length, ← parm_zero]
  refine all_l2 M k i (by omega) (by omega) (by omega) k 0 _ (by omega) ?_
  rw [wrap_succ (by omega)]
  exact ih (i + 1) (by omega)
theorem all_l0 (M : List (List G)) (k : Nat) (r : List (List Int)) (hM : M.length ≤ 255) (hk : k ≤ 255) (h : Ev (fun f => footlockerref23_All.l1 f (bss M) (k : Int) (bss (M ++ par M k 0)) 0) r) (d : Nat) : ∀ n : Nat, n + d = k →
 Ev (fun f => footlockerref23_All.l0 f (bss M) (k : Int) (bss (M ++ List.replicate n [])) (n : Int)) r := by
 induction d with
 | zero =>
  intro n hn
  obtain rfl : n = k := by omega
  refine Ev.step (fun k => footlockerref23_All.l0.eq_2 _ _ _ _ _) (Ev.neg (by omega) ?_)
  have e : (List.replicate n [] : List (List G)) = par M n 0 := by
   apply ext_row
   ·rw [List.length_replicate, par_length]
   ·intro j hj
    rw [List.length_replicate] at hj
    rw [row_par M hj, tab_zero]
    simp [row, List.getD_eq_getElem?_getD, List.getElem?_replicate, hj]
  rw [e]
  exact h
 | succ d ih =>
  intro n hn
  refine Ev.step (fun k => footlockerref23_All.l0.eq_2 _ _ _ _ _) (Ev.pos (by omega) (Ev.pos (by rw [bss_length, List.length_append, List.length_replicate]; omega) ?_))
  have e : bss (M ++ List.replicate n []) ++ [([] : List Int)] = bss (M ++ List.replicate (n + 1) []) := by
   show bss (M ++ List.replicate n []) ++ [bs []] = _
   rw [bss_snoc, List.append_assoc, ← List.replicate_succ']
  rw [e, wrap_succ (by omega)]
  exact ih (n + 1) (by omega)
theorem all_ev (M : List (List G)) (k w : Nat) (hM : Fit M) (hw : Wd M w) (h0 : 0 < M.length) (hk : M.length + k ≤ 255) : Ev (fun f => footlockerref23_All.f f (bss M) (k : Int)) (bss (M ++ par M k w)) := by
 refine Ev.congr (fun k => footlockerref23_All.f.eq_1 _ _ _) (Ev.pos (by rw [bss_length]; omega) ?_)
 have := all_l0 M k _ (by omega) (by omega) (all_l1 M k w hM hw h0 hk w 0 (by omega)) k 0 (by omega)
 rw [List.replicate_zero, List.append_nil] at this
 exact this
theorem parity_arg (M : List (List G)) (k : Int) (h : M.length = 0 ∨ k < 0 ∨ ¬ Rt M) : Ev (fun f => stripe_Parity.f f (bss M) k) ([], 1) := by
 have out : Ev (fun f => stripe_Parity.j0 f k (bss M) true) ([], 1) := Ev.step (fun k => stripe_Parity.j0.eq_2 _ _ _ _) (Ev.pos rfl (Ev.now _))
 refine Ev.congr (fun k => stripe_Parity.f.eq_1 _ _ _) ?_
 rw [bss_length]
 by_cases h0 : (M.length : Int) = 0
 ·exact Ev.pos h0 out
 refine Ev.neg h0 ?_
 by_cases h1 : k < 0
 ·exact Ev.pos h1 out
 refine Ev.neg h1 ?_
 rw [fidx_rt, decide_eq_true ((h.resolve_left (by omega)).resolve_left h1)]
 exact out
theorem parity_many (M : List (List G)) (k : Int) (h0 : M.length ≠ 0) (hl : M.length < 1000000) (hR : Rt M) (hk : 255 ≤ k) : Ev (fun f => stripe_Parity.f f (bss M) k) ([], 3) := by
 have out : Ev (fun f => stripe_Parity.j1 f k (bss M) true) ([], 3) := Ev.step (fun k => stripe_Parity.j1.eq_2 _ _ _ _) (Ev.pos rfl (Ev.now _))
 refine Ev.congr (fun k => stripe_Parity.f.eq_1 _ _ _) ?_
 rw [bss_length]
 refine Ev.neg (by omega) (Ev.neg (by omega) ?_)
 rw [fidx_rt, decide_eq_false (fun h => h hR)]
 refine Ev.step (fun k => stripe_Parity.j0.eq_2 _ _ _ _) (Ev.neg (by simp) ?_)
 by_cases h2 : k > 255
 ·exact Ev.pos h2 out
 ·refine Ev.neg h2 ?_
  rw [bss_length, wrap_sm (by omega) (by omega), decide_eq_true (by omega)]
  exact out
end Go.Proofs.Ytcdmgppjhdpgkaa.Al
namespace Go.Proofs.Ytcdmgppjhdpgkaa.Pure
open Go Go.RowKit Go.Proofs.YtcdmgppjhdpgkaaW.PrintWords Go.Proofs.YtcdmgppjhdpgkaaW.PrintMore Go.Proofs.Ytcdmgppjhdpgkaa.P Go.Proofs.Ytcdmgppjhdpgkaa.Al
set_option linter.unusedVariables false
set_option linter.unusedSimpArgs false
theorem len_in {n : Nat} (h : n ≤ maxLen) : n ≤ 9223372036854775807 := by
 unfold maxLen at h
 omega
theorem parity_j2_arg (M : List (List G)) (k : Int) : Ev (fun f => footlockerlaw23_StripeParity.j2 f (bss M) k [] 1 true) true :=
 Ev.step (fun k => footlockerlaw23_StripeParity.j2.eq_2 _ _ _ _ _ _) (Ev.pos rfl (Ev.pos rfl (Ev.now _)))
theorem parity_j1 (M : List (List G)) (k : Int) (b : Bool) (hM : Fit M) (hb : b = decide (Rt M)) (h12 : M.length ≤ 12) (hk : k ≤ 12 ∨ 255 ≤ k) : Ev (fun f => footlockerlaw23_StripeParity.j1 f (bss M) k b false) true := by
 refine Ev.step (fun k => footlockerlaw23_StripeParity.j1.eq_2 _ _ _ _ _) (Ev.neg (by simp) ?_)
 by_cases ha : M.length = 0 ∨ k < 0 ∨ ¬ Rt M
 ·refine Ev.bind (parity_arg M k ha) ?_
  dsimp only
  rw [bss_length]
  by_cases h0 : (M.length : Int) = 0
  ·exact Ev.pos h0 (parity_j2_arg M k)
  refine Ev.neg h0 ?_
  by_cases h1 : k < 0
  ·exact Ev.pos h1 (parity_j2_arg M k)
  refine Ev.neg h1 ?_
  rw [hb, decide_eq_false ((ha.resolve_left (by omega)).resolve_left h1)]
  exact parity_j2_arg M k
 ·have h0 : M.length ≠ 0 := fun e => ha (.inl e)
  have h1 : ¬ k < 0 := fun e => ha (.inr (.inl e))
  have hR : Rt M := Classical.byContradiction (fun e => ha (.inr (.inr e)))
  by_cases h2 : k ≥ 255
  ·refine Ev.bind (parity_many M k h0 hM.1 hR h2) ?_
   dsimp only
   rw [bss_length]
   refine Ev.neg (by omega) (Ev.neg h1 ?_)
   rw [hb, decide_eq_true hR]
   exact Ev.step (fun k => footlockerlaw23_StripeParity.j2.eq_2 _ _ _ _ _ _) (Ev.neg (by simp) (Ev.pos h2 (Ev.pos rfl (Ev.now _))))
  ·obtain ⟨m, rfl⟩ : ∃ m : Nat, k = (m : Int) := ⟨k.toNat, by omega⟩
   have hw := hM.wid
   have hfit : Fit (M ++ par M m (wid M)) := ⟨by rw [List.length_append, par_length]; omega, fun i hi => by
    rw [List.length_append, par_length] at hi
    rw [row_append]
    split
    ·exact hM.2 i (by assumption)
    ·rw [row_par M (by omega), tab_length]; exact hw⟩
   refine Ev.bind (parity_ev M m (wid M) hM hR (by omega) (by omega)) ?_
   dsimp only
   rw [bss_length]
   refine Ev.neg (by omega) (Ev.neg h1 ?_)
   rw [hb, decide_eq_true hR]
   refine Ev.step (fun k => footlockerlaw23_StripeParity.j2.eq_2 _ _ _ _ _ _) (Ev.neg (by simp) (Ev.neg h2 (Ev.pos rfl (Ev.somef (Ev.pos (by rw [bss_length, List.length_nil]; omega) (Ev.somef (Ev.pos (by rw [List.length_append, bss_length, bss_length, par_length, List.length_nil]; omega) ?_)))))))
   refine Ev.bind (all_ev M m (wid M) hM hR (by omega) (by omega)) ?_
   have e : ([] ++ bss M) ++ bss (par M m (wid M)) = bss (M ++ par M m (wid M)) := by rw [List.nil_append, bss, bss, bss, List.map_append]
   rw [e]
   exact Ev.bind (rows_ev _ _ hfit rfl) (Ev.now _)
theorem parity_loop (M : List (List G)) (k : Int) (hl : M.length ≤ 9223372036854775807) (d : Nat) : ∀ (n : Nat) (b : Bool), n + d = M.length → (∀ i, i < n → (row M i).length ≤ 40) → (b = true ↔ ∀ i, i < n → (row M i).length = wid M) →
 Ev (fun f => footlockerlaw23_StripeParity.l0 f (bss M) k b (bss M) (M.length : Int) (n : Int)) true := by
 induction d with
 | zero =>
  intro n b hn h40 hb
  obtain rfl : n = M.length := by omega
  have out : Ev (fun f => footlockerlaw23_StripeParity.j1 f (bss M) k b true) true := Ev.step (fun k => footlockerlaw23_StripeParity.j1.eq_2 _ _ _ _ _) (Ev.pos rfl (Ev.now _))
  refine Ev.step (fun k => footlockerlaw23_StripeParity.l0.eq_2 _ _ _ _ _ _ _) (Ev.neg (by omega) ?_)
  rw [bss_length]
  by_cases c1 : (M.length : Int) > 12
  ·exact Ev.pos c1 out
  refine Ev.neg c1 ?_
  have hF : Fit M := ⟨by omega, fun i hi => by have := h40 i hi; omega⟩
  have hbb : b = decide (Rt M) := by
   cases b with
   | true => exact (decide_eq_true (fun i hi => hb.1 rfl i hi)).symm
   | false => exact (decide_eq_false (fun hR => by have := hb.2 (fun i hi => hR i hi); cases this)).symm
  by_cases c2 : k > 12
  ·refine Ev.pos c2 ?_
   by_cases c3 : k < 255
   ·rw [decide_eq_true c3]; exact out
   ·rw [decide_eq_false c3]; exact parity_j1 M k b hF hbb (by omega) (.inr (by omega))
  ·exact Ev.neg c2 (parity_j1 M k b hF hbb (by omega) (.inl (by omega)))
 | succ d ih =>
  intro n b hn h40 hb
  refine Ev.step (fun k => footlockerlaw23_StripeParity.l0.eq_2 _ _ _ _ _ _ _) (Ev.pos (by omega) (Ev.pos (by omega) (Ev.pos (by rw [bss_length]; omega) ?_)))
  have hw1 : wrap64 ((n : Int) + 1) = ((n + 1 : Nat) : Int) := by rw [wrap_sm (by omega) (by omega)]; omega
  rw [rd_bss, rd_bss0, bs_length, bs_length, bss_length, hw1]
  by_cases c1 : ((row M n).length : Int) > 40
  ·exact Ev.pos c1 (Ev.now _)
  refine Ev.neg c1 ?_
  have h40' : ∀ i, i < n + 1 → (row M i).length ≤ 40 := fun i hi => by
   by_cases e : i < n
   ·exact h40 i e
   ·obtain rfl : i = n := by omega
    omega
  cases b with
  | false =>
   refine Ev.neg (by simp) (ih (n + 1) false (by omega) h40' ⟨fun h => (by cases h), fun h => ?_⟩)
   exact hb.2 (fun i hi => h i (by omega))
  | true =>
   refine Ev.pos rfl (Ev.pos (by omega) (ih (n + 1) _ (by omega) h40' ⟨fun h i hi => ?_, fun h => ?_⟩))
   ·have e1 : ((row M n).length : Int) = ((row M 0).length : Int) := by simpa using h
    by_cases e : i < n
    ·exact hb.1 rfl i e
    ·obtain rfl : i = n := by omega
     unfold wid; omega
   ·have := h n (by omega)
    unfold wid at this
    rw [this]
    simp
theorem StripeParity : footlockerlaw23_StripeParity.Pure := by
 rintro l0 k ⟨hl, h0⟩ _
 obtain ⟨M, rfl⟩ := rows_in l0 (fun y hy => (h0 y hy).2)
 apply Ev.rounds
 refine Ev.congr (fun k => footlockerlaw23_StripeParity.f.eq_1 _ _ _) (Ev.bind alive_ev (Ev.pos rfl ?_))
 have := len_in (by rw [bss_length] at hl; exact hl)
 rw [bss_length]
 exact parity_loop M k (by omega) M.length 0 true (by omega) (fun i hi => absurd hi (Nat.not_lt_zero _)) ⟨fun _ i hi => absurd hi (Nat.not_lt_zero _), fun _ => rfl⟩
end Go.Proofs.Ytcdmgppjhdpgkaa.Pure
namespace Go.Proofs.Ytcdmgppjhdpgkaa.Q
open Go Go.RowKit Go.ChangeShapes Go.WideShapes Go.Proofs.YtcdmgppjhdpgkaaW.PrintWords
set_option linter.unusedVariables false
set_option linter.unusedSimpArgs false
def Opens {H : Type} (enc : TypeId × Value → H) (P : Program) (W : World) (base : Nat) (t : TypeId) {α : Type} (d : Kd α) (wf : α → Prop) : Prop :=
 ∀ (spare : Nat → Bool) (held : Bool) (fuel : Nat) (cs : List Value) (x : DataW H × List MemPlace), DataW.trod enc P W base spare held fuel t cs = some x → ∃ v : α, d.K W v cs ∧ wf v
section
variable {H : Type} {enc : TypeId × Value → H} {P : Program} {W : World} {base : Nat}
theorem opens_int {t : TypeId} {k : IntKind} (ht : P.underlying t = some (.int k)) : Opens enc P W base t (Kd.int k) (fun n => (Lit.int k n).wf = true) := by
 intro spare held fuel cs x h
 obtain ⟨n, rfl, _, hw⟩ := DataW.trod_int ht h
 exact ⟨n, rfl, hw⟩
theorem mapM_get {β γ : Type} {f : β → Option γ} : ∀ {l : List β} {cs : List γ}, l.mapM f = some cs → cs.length = l.length ∧ ∀ (i : Nat) (b : β), l[i]? = some b → f b = cs[i]? := by
 intro l
 induction l with
 | nil =>
  intro cs h
  simp at h
  subst h
  exact ⟨rfl, fun i b hb => by simp at hb⟩
 | cons a l ih =>
  intro cs h
  rw [List.mapM_cons] at h
  cases hf : f a with
  | none => simp [hf] at h
  | some y =>
   cases hm : l.mapM f with
   | none => simp [hf, hm] at h
   | some ys =>
    simp [hf, hm] at h
    subst h
    obtain ⟨h1, h2⟩ := ih hm
    refine ⟨by simp [h1], fun i b hb => ?_⟩
    cases i with
    | zero =>
     simp at hb
     subst hb
     simpa using hf
    | succ i =>
     simp at hb
     simpa using h2 i b hb
theorem cells_of {a : Addr} {n : Nat} {cs : List Value} (h : W.cells? base a n = some cs) : cs.length = n ∧ ∀ (i : Nat) (u : Value), cs[i]? = some u → W.cell? (a.add i) = some u := by
 unfold World.cells? at h
 split at h
 ·obtain ⟨h1, h2⟩ := mapM_get h
  rw [List.length_range] at h1
  refine ⟨h1, fun i u hu => ?_⟩
  have hi : i < n := by
   have := (List.getElem?_eq_some_iff.1 hu).1
   omega
  rw [h2 i i (by rw [List.getElem?_range hi]), hu]
 ·cases h
theorem opens_slice {t e : TypeId} {α : Type} {d : Kd α} {wf : α → Prop} (ht : P.underlying t = some (.slice e)) (hc : P.cellsOf e = d.sz) (hm : maxLen ≤ 9223372036854775807) (ho : Opens enc P W base e d wf) [Inhabited α] :
 Opens enc P W base t (Kd.slice e d) (fun xs => xs.length ≤ maxLen ∧ ∀ x ∈ xs, wf x) := by
 intro spare held fuel cs x h
 rcases Deep.open_slice ht h with ⟨rfl, _⟩ | ⟨a, len, cap, m, n, D, Pl, rfl, hb, hl, hcm, hmm, rfl, hx⟩
 ·exact ⟨[], ⟨none, 0, rfl, Nat.le_refl _, rfl, Nat.zero_le _, fun h => absurd h (by simp)⟩, Nat.zero_le _, fun x hx => by simp at hx⟩
 ·have hlm : len ≤ m := by rw [hmm]; split <;> omega
  obtain ⟨F, hF⟩ := Deep.choose_lt (α := α) (n := len) (p := fun i v => ∃ cs', d.K W v cs' ∧ cs'.length = d.sz ∧ (∀ j u, cs'[j]? = some u → W.cell? (a.add (i * d.sz + j)) = some u) ∧ wf v) (fun i hi => by
   obtain ⟨cs', h1, h2⟩ := hx i (by omega)
   obtain ⟨v, hv, hw⟩ := ho spare held n cs' _ h2
   rw [hc] at h1
   obtain ⟨h3, h4⟩ := cells_of h1
   refine ⟨v, cs', hv, h3, fun j u hu => ?_, hw⟩
   have := h4 j u hu
   rwa [Deep.add_add] at this)
  refine ⟨(List.range len).map F, ⟨some a, cap, by simp, by simpa using hl, by simp, by simp; omega, fun _ => ⟨a, rfl, fun j p hj => ?_⟩⟩, by simp; omega, fun x hx => ?_⟩
  ·have hjl : j < len := by
    have := (List.getElem?_eq_some_iff.1 hj).1
    simpa using this
   rw [List.getElem?_map, List.getElem?_range hjl] at hj
   simp at hj
   subst hj
   obtain ⟨cs', h1, h2, h3, _⟩ := hF j hjl
   exact ⟨cs', h2, h1, h3⟩
  ·rw [List.mem_map] at hx
   obtain ⟨i, hi, rfl⟩ := hx
   obtain ⟨_, _, _, _, hw⟩ := hF i (List.mem_range.1 hi)
   exact hw
theorem slice_arg {e : TypeId} {α : Type} {d : Kd α} {xs : List α} {a : Option Addr} {len cap : Nat} (h : (Kd.slice e d).K W xs (Value.cells (.slice a len cap)).toList) : len = xs.length ∧ xs.length ≤ cap ∧ d.C W a xs.length xs := by
 obtain ⟨A, c, hcs, hl, hC⟩ := h
 simp [Value.cells] at hcs
 obtain ⟨rfl, rfl, rfl⟩ := hcs
 exact ⟨rfl, hl, hC⟩
end
end Go.Proofs.Ytcdmgppjhdpgkaa.Q
