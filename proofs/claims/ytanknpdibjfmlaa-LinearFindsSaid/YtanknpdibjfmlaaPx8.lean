/- Functions of the Go program as Lean functions, each with a proof that the Go code answers just so; each theorem states its own conditions. Written by a program. -/
import Derived.Test.YtanknpdibjfmlaaPx0
import Derived.Test.YtanknpdibjfmlaaPx3
import Derived.Test.YtanknpdibjfmlaaPx6
import Derived.Test.YtanknpdibjfmlaaPx7
namespace Go.Proofs.Ytanknpdibjfmlaa.P
open Go.RowKit Go.Proofs.YtanknpdibjfmlaaW.PrintWords Go.Proofs.YtanknpdibjfmlaaW.PrintLast Go.Proofs.YtanknpdibjfmlaaW.PrintMore
attribute [local go_sem] max2_int min2_int max_two min_two max_three min_three max_four min_four   -- for this text's walks alone
set_option linter.unusedVariables false
set_option linter.unusedSimpArgs false

def footlockerref03_Reduce.c0 : Nat → List (List Int) → List (List Int) → Int → Option (List (List Int))
  | 0, _, _, _ => none
  | k + 1, l, o, i => if i < (l.length : Int) then (if 0 ≤ i then ((footlockerref01_Copy.f (rd_L1 l i)).bind fun y => if o.length < 5864062014805 then footlockerref03_Reduce.c0 k l (o ++ [y]) (wrap64 (i + 1)) else none) else none) else some o
def footlockerref03_Reduce.u0 : Nat → List (List Int) → Int → Int → Option Int
  | 0, _, _, _ => none
  | k + 1, o, c, u => if u < (o.length : Int) then (if 0 ≤ u then (if 0 ≤ c then (if c < ((rd_L1 o u).length : Int) then (if rd (rd_L1 o u) c = 0 then footlockerref03_Reduce.u0 k o c (wrap64 (u + 1)) else some u) else none) else none) else none) else some u
def footlockerref03_Reduce.s0 : Nat → List Int → Int → Int → Option (List Int)
  | 0, _, _, _ => none
  | k + 1, y, b, j => if j < (y.length : Int) then (if 0 ≤ j then ((footlockerref01_Mul.f k (rd y j) b).bind fun z => footlockerref03_Reduce.s0 k (y.set j.toNat z) b (wrap64 (j + 1))) else none) else some y
def footlockerref03_Reduce.e1 : Nat → List (List Int) → Int → Int → Int → Int → Option (List (List Int))
  | 0, _, _, _, _, _ => none
  | k + 1, o, i, a, c, j => if j < ((rd_L1 o a).length : Int) then (if i = a then some o else (if 0 ≤ j then (if j < ((rd_L1 o i).length : Int) then ((footlockerref01_Mul.f k c (rd (rd_L1 o a) j)).bind fun z => footlockerref03_Reduce.e1 k (o.set i.toNat ((rd_L1 o i).set j.toNat (Go.bits .xor .u8 (rd (rd_L1 o i) j) z))) i a c (wrap64 (j + 1))) else none) else none)) else some o
def footlockerref03_Reduce.e0 : Nat → List (List Int) → Int → Int → Int → Option (List (List Int))
  | 0, _, _, _, _ => none
  | k + 1, o, a, c, i => if i < (o.length : Int) then (if 0 ≤ i then (if 0 ≤ c then (if c < ((rd_L1 o i).length : Int) then ((footlockerref03_Reduce.e1 k o i a (rd (rd_L1 o i) c) 0).bind fun o2 => footlockerref03_Reduce.e0 k o2 a c (wrap64 (i + 1))) else none) else none) else none) else some o
def footlockerref03_Reduce.m0 : Nat → List (List Int) → Int → List (List Int) → List Int → Int → Option (List (List Int) × List Int)
  | 0, _, _, _, _, _ => none
  | k + 1, l, cs, o, ps, c => if 0 < (l.length : Int) then (if c < cs then (if c < ((rd_L1 l 0).length : Int) then
      ((footlockerref03_Reduce.u0 k o c (ps.length : Int)).bind fun u => if u ≥ (o.length : Int) then footlockerref03_Reduce.m0 k l cs o ps (wrap64 (c + 1)) else
        (if (ps.length : Int) ≤ u then (if 0 ≤ c then (if c < ((rd_L1 o u).length : Int) then ((footlockerref01_Inv.f k (rd (rd_L1 o u) c)).bind fun b => (footlockerref03_Reduce.s0 k (rd_L1 o u) b 0).bind fun y =>
          (footlockerref03_Reduce.e0 k ((linear_pivot.sw o ps.length u.toNat).set ps.length y) (ps.length : Int) c 0).bind fun o2 => if ps.length < 17592186044416 then footlockerref03_Reduce.m0 k l cs o2 (ps ++ [c]) (wrap64 (c + 1)) else none) else none) else none) else none))
      else some (o, ps)) else some (o, ps)) else some (o, ps)
def footlockerref03_Reduce.f (k : Nat) (l0 : List (List Int)) (a1 : Int) : Option (List (List Int) × List Int) :=
  (footlockerref03_Right.f k l0).bind fun t => if t = true then ((footlockerref03_Reduce.c0 k l0 [] 0).bind fun o => footlockerref03_Reduce.m0 k l0 a1 o [] 0) else some ([], [])
theorem footlockerref03_Reduce.mono_c0 : ∀ k, ∀ y0 y1 y2, LeO (footlockerref03_Reduce.c0 k y0 y1 y2) (footlockerref03_Reduce.c0 (k + 1) y0 y1 y2)
  | 0 => fun _ _ _ r h => by simp [footlockerref03_Reduce.c0] at h
  | k + 1 => by
    have ih0 := footlockerref03_Reduce.mono_c0 k
    intro y0 y1 y2
    unfold footlockerref03_Reduce.c0
    repeat' first
      | (with_reducible exact ih0 _ _ _)
      | (with_reducible exact LeO.refl _)
      | (with_reducible exact LeO.none _)
      | (with_reducible refine LeO.ite ?_ ?_)
      | (with_reducible refine LeO.bind ?_ (fun _ => ?_))
theorem footlockerref03_Reduce.mono_u0 : ∀ k, ∀ y0 y1 y2, LeO (footlockerref03_Reduce.u0 k y0 y1 y2) (footlockerref03_Reduce.u0 (k + 1) y0 y1 y2)
  | 0 => fun _ _ _ r h => by simp [footlockerref03_Reduce.u0] at h
  | k + 1 => by
    have ih0 := footlockerref03_Reduce.mono_u0 k
    intro y0 y1 y2
    unfold footlockerref03_Reduce.u0
    repeat' first
      | (with_reducible exact ih0 _ _ _)
      | (with_reducible exact LeO.refl _)
      | (with_reducible exact LeO.none _)
      | (with_reducible refine LeO.ite ?_ ?_)
      | (with_reducible refine LeO.bind ?_ (fun _ => ?_))
theorem footlockerref03_Reduce.mono_s0 : ∀ k, ∀ y0 y1 y2, LeO (footlockerref03_Reduce.s0 k y0 y1 y2) (footlockerref03_Reduce.s0 (k + 1) y0 y1 y2)
  | 0 => fun _ _ _ r h => by simp [footlockerref03_Reduce.s0] at h
  | k + 1 => by
    have ih0 := footlockerref03_Reduce.mono_s0 k
    intro y0 y1 y2
    unfold footlockerref03_Reduce.s0
    repeat' first
      | (with_reducible exact ih0 _ _ _)
      | (with_reducible exact footlockerref01_Mul.mono _ _ _)
      | (with_reducible exact LeO.refl _)
      | (with_reducible exact LeO.none _)
      | (with_reducible refine LeO.ite ?_ ?_)
      | (with_reducible refine LeO.bind ?_ (fun _ => ?_))
theorem footlockerref03_Reduce.mono_e1 : ∀ k, ∀ y0 y1 y2 y3 y4, LeO (footlockerref03_Reduce.e1 k y0 y1 y2 y3 y4) (footlockerref03_Reduce.e1 (k + 1) y0 y1 y2 y3 y4)
  | 0 => fun _ _ _ _ _ r h => by simp [footlockerref03_Reduce.e1] at h
  | k + 1 => by
    have ih0 := footlockerref03_Reduce.mono_e1 k
    intro y0 y1 y2 y3 y4
    unfold footlockerref03_Reduce.e1
    repeat' first
      | (with_reducible exact ih0 _ _ _ _ _)
      | (with_reducible exact footlockerref01_Mul.mono _ _ _)
      | (with_reducible exact LeO.refl _)
      | (with_reducible exact LeO.none _)
      | (with_reducible refine LeO.ite ?_ ?_)
      | (with_reducible refine LeO.bind ?_ (fun _ => ?_))
theorem footlockerref03_Reduce.mono_e0 : ∀ k, ∀ y0 y1 y2 y3, LeO (footlockerref03_Reduce.e0 k y0 y1 y2 y3) (footlockerref03_Reduce.e0 (k + 1) y0 y1 y2 y3)
  | 0 => fun _ _ _ _ r h => by simp [footlockerref03_Reduce.e0] at h
  | k + 1 => by
    have ih0 := footlockerref03_Reduce.mono_e0 k
    intro y0 y1 y2 y3
    unfold footlockerref03_Reduce.e0
    repeat' first
      | (with_reducible exact ih0 _ _ _ _)
      | (with_reducible exact footlockerref03_Reduce.mono_e1 _ _ _ _ _ _)
      | (with_reducible exact LeO.refl _)
      | (with_reducible exact LeO.none _)
      | (with_reducible refine LeO.ite ?_ ?_)
      | (with_reducible refine LeO.bind ?_ (fun _ => ?_))
theorem footlockerref03_Reduce.mono_m0 : ∀ k, ∀ y0 y1 y2 y3 y4, LeO (footlockerref03_Reduce.m0 k y0 y1 y2 y3 y4) (footlockerref03_Reduce.m0 (k + 1) y0 y1 y2 y3 y4)
  | 0 => fun _ _ _ _ _ r h => by simp [footlockerref03_Reduce.m0] at h
  | k + 1 => by
    have ih0 := footlockerref03_Reduce.mono_m0 k
    intro y0 y1 y2 y3 y4
    unfold footlockerref03_Reduce.m0
    repeat' first
      | (with_reducible exact ih0 _ _ _ _ _)
      | (with_reducible exact footlockerref03_Reduce.mono_u0 _ _ _ _)
      | (with_reducible exact footlockerref03_Reduce.mono_s0 _ _ _ _)
      | (with_reducible exact footlockerref03_Reduce.mono_e0 _ _ _ _ _)
      | (with_reducible exact footlockerref01_Inv.mono _ _)
      | (with_reducible exact LeO.refl _)
      | (with_reducible exact LeO.none _)
      | (with_reducible refine LeO.ite ?_ ?_)
      | (with_reducible refine LeO.bind ?_ (fun _ => ?_))
theorem footlockerref03_Reduce.mono : ∀ a0 a1 k, LeO (footlockerref03_Reduce.f k a0 a1) (footlockerref03_Reduce.f (k + 1) a0 a1) := by
  intro a0 a1 k
  unfold footlockerref03_Reduce.f
  repeat' first
      | (with_reducible exact footlockerref03_Reduce.mono_m0 _ _ _ _ _ _)
      | (with_reducible exact footlockerref03_Reduce.mono_c0 _ _ _ _)
      | (with_reducible exact footlockerref03_Right.mono _ _)
      | (with_reducible exact LeO.refl _)
      | (with_reducible exact LeO.none _)
      | (with_reducible refine LeO.ite ?_ ?_)
      | (with_reducible refine LeO.bind ?_ (fun _ => ?_))
set_option maxHeartbeats 8000000 in
set_option maxRecDepth 100000 in
theorem footlockerref03_Reduce.calls (k : Nat) (A0 : Option Addr) (c0 : Nat) (l0 : List (List Int)) (a1 : Int) (r1 : List (List Int)) (r2 : List Int) (w : World) (hr0 : Kd.C (Kd.slice 5 (Kd.int .u8)) w A0 l0.length l0) (hc0 : l0.length ≤ c0) (h : footlockerref03_Reduce.f k l0 a1 = some (r1, r2)) :
    Calls Try.prog 12 #[.slice A0 l0.length c0, .int .i64 a1] w fun e w' => ∃ v0_ v1_ : Value, e = .returned (.tuple #[v0_, v1_]) ∧ Kd.S (Kd.slice 5 (Kd.int .u8)) 23 w' w.heap.size (fun _ => True) v0_ r1 ∧ Kd.R (Kd.int .i64) 3 w' w.heap.size (fun _ => True) v1_ r2 ∧ Below w.heap.size w w' := by
  have HR0 := Aside0.mk hr0
  have HC0 := Aside0.mk hc0
  clear hr0 hc0
  have HB := Aside0.mk (Below.refl w.heap.size w)
  unfold footlockerref03_Reduce.f at h
  replace h := Option.bind_eq_some_iff.mp h
  obtain ⟨t, ht, h⟩ := h
  have HT := Aside0.mk ht
  clear ht
  by_cases c1 : t = true
  · rw [if_pos c1] at h
    subst c1
    replace h := Option.bind_eq_some_iff.mp h
    obtain ⟨o0, hx, h⟩ := h
    have HX := Aside0.mk hx
    have H' := Aside0.mk h
    clear hx h
    go_enter Try.func12, Try.ntmps12
    go_wp2_with (first
      | (go_at_call 14; (with_reducible refine (footlockerref03_Right.calls k _ _ l0 true _ ?side1 HC0.out HT.out).mono ?_); (case side1 => exact HR0.out); rintro e w1 ⟨rfl, ⟨n1, rfl⟩⟩)
      | ((with_reducible refine gate_dst (N := 21) rfl ?_); refine Kd.S_lit (Kd.slice 5 (Kd.int .u8)) _ 23 ?hg (N := 21) ?hd (xs := ([] : List (List Int))) (inner := []) (ok := fun _ => True) (okp := fun _ => True) ?hr ?hp (fun _ hk => hk) trivial (Below.refl _ _) (Nat.le_refl _) (by simp) ?_; (case hd => rfl); (case hg => rfl); (case hr => first | (go_simp; done) | (go_simp; rfl)); (case hp => exact (Reps.none _ _)); intro v6 w2 ho4 hb hg_ hnew_; clear hg_ hnew_; have HO6 := Aside0.mk ho4; have HB2 := Aside0.mk hb; clear ho4 hb))
    go_loopg [6, 7] k (fun kq v6 v7 w' => ∃ (o : List (List Int)) (i : Int), v7 = .int .i64 i ∧ Aside0 (footlockerref03_Reduce.c0 kq l0 o i = some o0) ∧ Aside0 (kq ≤ k) ∧ Aside0 (Kd.S (Kd.slice 5 (Kd.int .u8)) 23 w' w.heap.size (fun _ => True) v6 o) ∧ Aside0 (Below w.heap.size w w'))
    case atStart => exact ⟨[], 0, rfl, HX, ⟨Nat.le_refl _⟩, ⟨Kd.S_lower HO6.out (Nat.le_refl _)⟩, ⟨below_step (pw_below_drewN HB.out n1) HB2.out⟩⟩
    case round =>
      clear HX HO6 HB2 HB
      obtain ⟨o, i, rfl, HA, HK1, HO, HB⟩ := hrel
      cases gk with
      | zero => exact absurd HA.out (by simp [footlockerref03_Reduce.c0])
      | succ k1 =>
        have H := HA.out
        clear HA
        simp only [footlockerref03_Reduce.c0] at H
        by_cases t1 : i < (l0.length : Int)
        · rw [if_pos t1] at H
          by_cases t2 : 0 ≤ i
          · rw [if_pos t2] at H
            replace H := Option.bind_eq_some_iff.mp H
            obtain ⟨y, hy, H⟩ := H
            by_cases t3 : o.length < 5864062014805
            · rw [if_pos t3] at H
              have HY := Aside0.mk hy
              have H2 := Aside0.mk H
              have HL := Aside0.mk t3
              have t1b : decide (i < (l0.length : Int)) = true := decide_eq_true t1
              obtain ⟨ad, A1, c1, e1, hx, hl, hi⟩ := at_L1 HR0.out i t2 t1
              cases e1
              replace hx := (HB.out.cell (World.block_lt_of_cell? w _ hx)).trans hx
              have HI := Aside0.mk hi
              have HC := Aside0.mk hl
              clear hy H t3 hi hl
              replace t1 := eq_true t1
              replace t2 := eq_true t2
              go_wp2_with (first
                | (go_at_call 27; (with_reducible refine (footlockerref01_Copy.calls _ _ (rd_L1 l0 i) y _ ?side1 HC.out HY.out).mono ?_); (case side1 => exact Kd.C_below HI.out HB.out); rintro e w3 ⟨v3, rfl, ho, hb⟩; have n0_ := Aside0.mk (Kd.S_elder' HO.out (Kd.R_base ho) hb); have n1_ := Aside0.mk (Kd.R_lower ho (below_size HB.out)); have n2_ := Aside0.mk (below_step HB.out hb); clear HO HB; have HO := n0_; have HN := n1_; have HB := n2_; clear n0_ n1_ n2_ hb ho; obtain ⟨A4, c4, e4⟩ := Kd.R_slice HN.out; subst e4)
                | ((with_reducible refine gate_builtin (b := .append) (xs := #[.tmp 28, .tmp 34]) rfl ?_); at_builtin; refine Kd.S_append (Kd.slice 5 (Kd.int .u8)) (w0 := w) w.heap.size rfl (.tmp 28) (.tmp 34) 22 23 (.slice none 0 0) 24 rfl Try.underlying22 info23 rfl (by decide) (by omega) u6 o y [.slice A4 y.length c4] (fun _ => True) (fun k_ => some k_ = (.slice A4 y.length c4 : Value).ownBlock) rfl rfl ?aP (fun k_ hk_ => ((Kd.R_mono (ok' := fun k_ => ((fun _ => True)) k_ ∧ some k_ ≠ (u6 : Value).ownBlock) (Kd.R_apart' (HN.out) (Kd.S_typed HO.out) (by decide)) (fun k_ hk => ⟨trivial, hk.2⟩))).1 k_ hk_.symm) ?aF ?aO ?aB ?aS ?aL ?_; (case aP => exact Kd.M_row (Kd.R_mono (Kd.R_tight rfl (Kd.R_mono (ok' := fun k_ => ((fun _ => True)) k_ ∧ some k_ ≠ (u6 : Value).ownBlock) (Kd.R_apart' (HN.out) (Kd.S_typed HO.out) (by decide)) (fun k_ hk => ⟨trivial, hk.2⟩))) (fun _ h_ => h_))); (case aB => exact HB.out); (case aF => exact (fun _ _ => trivial)); (case aO => exact Kd.S_mono HO.out (fun k_ hk => ⟨trivial, fun e_ => hk.2 e_⟩)); (case aS => exact below_size HB.out); (case aL => have := HL.out; omega); intro v7 w4 ho hb hg hat; have n0_ := Aside0.mk hb; have n1_ := Aside0.mk ho; clear HB HO HN; have HB := n0_; have HO := n1_; clear n0_ n1_ ho hb hg hat))
              go_roundg k1
              case measure => have := HK1.out; omega
              case rel => exact ⟨o ++ [y], _, rfl, H2, ⟨by have := HK1.out; omega⟩, HO, HB⟩
            · rw [if_neg t3] at H; exact absurd H (by simp)
          · rw [if_neg t2] at H; exact absurd H (by simp)
        · rw [if_neg t1] at H
          have t1b : decide (i < (l0.length : Int)) = false := decide_eq_false t1
          obtain rfl := Option.some.inj H
          clear H t1 HK1
          obtain ⟨A6, cap, e6⟩ := Kd.S_slice HO.out
          obtain ⟨n0, hn0⟩ : ∃ n, o.length = n := ⟨_, rfl⟩
          rw [hn0] at e6
          subst e6
          clear hn0
          go_wp2_with (first
            | ((with_reducible refine gate_dst (N := 36) rfl ?_); refine Kd.R_lit (Kd.int .i64) _ 3 ?hg (N := 36) ?hd (xs := ([] : List Int)) (inner := []) (ok := fun _ => True) (okp := fun _ => True) ?hr ?hp (fun _ hk => hk) trivial (Below.refl _ _) (Nat.le_refl _) (by simp) ?_; (case hd => rfl); (case hg => rfl); (case hr => first | (go_simp; done) | (go_simp; rfl)); (case hp => exact (Reps.none _ _)); intro v8 w5 ho4 hb hg_ hnew_; have n0_ := Aside0.mk (Kd.S_below HO.out hb); have n1_ := Aside0.mk (Kd.R_lower ho4 (below_size HB.out)); have n2_ := Aside0.mk (below_step HB.out hb); clear hg_ hnew_ HO HB ho4 hb; have HO := n0_; have HP := n1_; have HB := n2_; clear n0_ n1_ n2_))
          go_loopg [8, 9] k (fun kq v8 v9 w' => ∃ (o : List (List Int)) (ps : List Int) (c : Int), v9 = .int .i64 c ∧ Aside0 (footlockerref03_Reduce.m0 kq l0 a1 o ps c = some (r1, r2)) ∧ Aside0 (kq ≤ k) ∧ Aside0 (Kd.S (Kd.slice 5 (Kd.int .u8)) 23 w' w.heap.size (fun _ => True) (.slice A6 n0 cap) o) ∧ Aside0 (Kd.R (Kd.int .i64) 3 w' w.heap.size (fun _ => True) v8 ps) ∧ Aside0 (Below w.heap.size w w'))
          case atStart => exact ⟨_, [], 0, rfl, H', ⟨Nat.le_refl _⟩, HO, HP, HB⟩
          case round =>
            clear H' HO HP HB
            obtain ⟨o, ps, c, rfl, HA, HK1, HO, HP, HB⟩ := hrel
            cases gk with
            | zero => exact absurd HA.out (by simp [footlockerref03_Reduce.m0])
            | succ k1 =>
              have H := HA.out
              clear HA
              simp only [footlockerref03_Reduce.m0] at H
              obtain ⟨Ap, cp, ep⟩ := Kd.R_slice HP.out
              subst ep
              have hmax : n0 ≤ 9223372036854775807 := by have := (Kd.S_reads' HO.out).2.2.2.1; have := (Kd.S_reads' HO.out).1; omega
              have hn := (Kd.S_reads' HO.out).1
              have HN := Aside0.mk hn
              have HMX := Aside0.mk hmax
              clear hn hmax
              by_cases t1 : 0 < (l0.length : Int)
              · rw [if_pos t1] at H
                have t1b : decide (0 < (l0.length : Int)) = true := decide_eq_true t1
                have t1c : decide (0 < l0.length) = true := decide_eq_true (by omega)
                have t1n : 0 < l0.length := by omega
                by_cases t2 : c < a1
                · rw [if_pos t2] at H
                  have t2b : decide (c < a1) = true := decide_eq_true t2
                  obtain ⟨ad0, A0', c0', e1, hx0, _, hi0⟩ := at_L1 HR0.out 0 (Int.le_refl _) t1
                  cases e1
                  replace hx0 := (HB.out.cell (World.block_lt_of_cell? w _ hx0)).trans hx0
                  have hx0' : wr.cell? ad0 = some (.slice A0' (rd_L1 l0 0).length c0') := by simpa [Addr.add] using hx0
                  clear hi0
                  by_cases t3 : c < ((rd_L1 l0 0).length : Int)
                  · rw [if_pos t3] at H
                    have t3b : decide (c < ((rd_L1 l0 0).length : Int)) = true := decide_eq_true t3
                    replace H := Option.bind_eq_some_iff.mp H
                    obtain ⟨uf, hu, H⟩ := H
                    have HU := Aside0.mk hu
                    have H' := Aside0.mk H
                    clear hu H
                    replace t1 := eq_true t1
                    replace t1n := eq_true t1n
                    clear t2 t3
                    go_wp2
                    go_loopg [11] k1 (fun kq v11 w' => ∃ (u : Int), v11 = .int .i64 u ∧ Aside0 (footlockerref03_Reduce.u0 kq o c u = some uf) ∧ Aside0 (kq ≤ k1) ∧ Aside0 (Kd.S (Kd.slice 5 (Kd.int .u8)) 23 w' w.heap.size (fun _ => True) (.slice A6 n0 cap) o) ∧ Aside0 (Kd.R (Kd.int .i64) 3 w' w.heap.size (fun _ => True) (.slice Ap ps.length cp) ps) ∧ Aside0 (Below w.heap.size w w'))
                    case atStart => exact ⟨_, rfl, HU, ⟨Nat.le_refl _⟩, HO, HP, HB⟩
                    case round =>
                      clear HU HO HP HB hx0 hx0'
                      obtain ⟨u, rfl, HA, HK2, HO, HP, HB⟩ := hrel
                      cases gk with
                      | zero => exact absurd HA.out (by simp [footlockerref03_Reduce.u0])
                      | succ k2 =>
                        have H := HA.out
                        clear HA
                        simp only [footlockerref03_Reduce.u0] at H
                        have hn := HN.out
                        by_cases t4 : u < (o.length : Int)
                        · rw [if_pos t4] at H
                          by_cases t5 : 0 ≤ u
                          · rw [if_pos t5] at H
                            by_cases t6 : 0 ≤ c
                            · rw [if_pos t6] at H
                              by_cases t7 : c < ((rd_L1 o u).length : Int)
                              · rw [if_pos t7] at H
                                obtain ⟨ad, A1, c1, e1, hx1, hl1, hi1⟩ := at_L1 (Kd.S_reads' HO.out).2.2 u t5 t4
                                obtain ⟨g, rfl⟩ := Kd.R_head (Kd.S_R (e1 ▸ HO.out))
                                cases e1
                                rw [add_plain] at hx1
                                obtain ⟨ad1, e1, hy1⟩ := Kd.at_int hi1 c t6 t7
                                cases e1
                                have t4b : decide (u < (n0 : Int)) = true := decide_eq_true (by omega)
                                have t4e : decide ((n0 : Int) ≤ u) = false := decide_eq_false (by omega)
                                have t4c : u < (n0 : Int) := by omega
                                replace t4 := eq_true t4
                                replace t4c := eq_true t4c
                                replace t5 := eq_true t5
                                clear hn
                                by_cases t8 : rd (rd_L1 o u) c = 0
                                · rw [if_pos t8] at H
                                  have t8b : (rd (rd_L1 o u) c == 0) = true := by simpa using t8
                                  have H2 := Aside0.mk H
                                  clear H t8 hl1 hi1
                                  replace t6 := eq_true t6
                                  replace t7 := eq_true t7
                                  go_wp2
                                  go_roundg k2
                                  case measure => have := HK2.out; omega
                                  case rel => exact ⟨_, (by first | rfl | (simp; done) | (simp [*]; done)), H2, ⟨by have := HK2.out; omega⟩, HO, HP, HB⟩
                                · rw [if_neg t8] at H
                                  obtain rfl := Option.some.inj H
                                  have t8b : (rd (rd_L1 o u) c == 0) = false := by simpa using t8
                                  clear H t8
                                  have H := H'.out
                                  clear H'
                                  rw [if_neg (by have := of_eq_true t4; omega)] at H
                                  by_cases t9 : (ps.length : Int) ≤ u
                                  · rw [if_pos t9] at H
                                    rw [if_pos t6, if_pos t7] at H
                                    replace H := Option.bind_eq_some_iff.mp H
                                    obtain ⟨b, hb, H⟩ := H
                                    replace H := Option.bind_eq_some_iff.mp H
                                    obtain ⟨y, hy, H⟩ := H
                                    replace H := Option.bind_eq_some_iff.mp H
                                    obtain ⟨o2, ho2, H⟩ := H
                                    by_cases t10 : ps.length < 17592186044416
                                    · rw [if_pos t10] at H
                                      have HIV := Aside0.mk hb
                                      have HS0 := Aside0.mk hy
                                      have HE0 := Aside0.mk ho2
                                      have H' := Aside0.mk H
                                      have HLM := Aside0.mk t10
                                      clear hb hy ho2 H t10
                                      have hat : ps.length < n0 := by have := HN.out; have := of_eq_true t4; omega
                                      obtain ⟨u1, u2, hu1, hu2, hf2, hf1⟩ : ∃ A3 c3, wr.cell? ⟨g, ps.length, none⟩ = some (.slice A3 (rd_L1 o (ps.length : Int)).length c3) ∧ True ∧ wr.frozen? ⟨g, u.toNat, none⟩ = false ∧ True := by
                                        obtain ⟨ad, A3, c3, e1, h1, _⟩ := at_L1 (Kd.S_reads' HO.out).2.2 (ps.length : Int) (by omega) (by have := HN.out; omega)
                                        cases e1
                                        rw [add_plain, Int.toNat_natCast] at h1
                                        obtain ⟨inner, hi⟩ := Kd.S_own HO.out
                                        rw [← HN.out] at hi
                                        obtain ⟨_, _, _, h4⟩ := Mm.own_cell hi u.toNat (by have := of_eq_true t4c; omega)
                                        exact ⟨A3, c3, h1, trivial, h4, trivial⟩
                                      obtain ⟨oki, hR1, hoki, hH⟩ := Mm.S_lift HO.out ps.length u.toNat hat (by have := of_eq_true t4c; omega) hu1 hx1
                                      have hR1' : Kd.R (Kd.int .u8) 5 (wr.setCell ⟨g, u.toNat, none⟩ (.slice u1 (rd_L1 o (ps.length : Int)).length u2)) w.heap.size oki (.slice (some ad1) (rd_L1 o u).length c1) (rd_L1 o u) := hR1
                                      obtain ⟨g1, rfl⟩ := Kd.R_head hR1'
                                      have hgb : w.heap.size ≤ g := (Kd.S_base HO.out) g rfl
                                      obtain ⟨gcells, hgc⟩ := Kd.S_typed HO.out g rfl
                                      have HR1 := Aside0.mk hR1'
                                      have HH := Aside0.mk hH
                                      have HOKI := Aside0.mk hoki
                                      have HP1 := Aside0.mk (Kd.R_set HP.out hgc (by decide) u.toNat (.slice u1 (rd_L1 o (ps.length : Int)).length u2))
                                      have HB1 := Aside0.mk (below_set (j := u.toNat) (v := .slice u1 (rd_L1 o (ps.length : Int)).length u2) HB.out hgb)
                                      have HGB := Aside0.mk hgb
                                      have hat' : (ps.length : Int) < (n0 : Int) := by omega
                                      have hy1' : (wr.setCell ⟨g, u.toNat, none⟩ (.slice u1 (rd_L1 o (ps.length : Int)).length u2)).cell? ⟨g1, c.toNat, none⟩ = some (.int .u8 (rd (rd_L1 o u) c)) := by
                                        obtain ⟨ad, e1, h1⟩ := Kd.at_int (Kd.R_reads' HR1.out).2.2 c t6 t7
                                        cases e1
                                        rwa [add_plain] at h1
                                      have hgp : (0 : Int) ≤ (ps.length : Int) := by omega
                                      clear hR1 hR1' hoki hH hgb hgc hl1 hi1
                                      replace t6 := eq_true t6
                                      replace t7 := eq_true t7
                                      rw [add_plain] at hy1
                                      go_wp2_with (first
                                        | (go_at_call 28; (with_reducible refine (footlockerref01_Inv.calls k1 _ b _ HIV.out).mono ?_); rintro e w5 ⟨rfl, ⟨n5, rfl⟩⟩))
                                      go_loopg [14] k1 (fun kq v14 w' => ∃ (z : List Int) (j : Int), v14 = .int .i64 j ∧ Aside0 (footlockerref03_Reduce.s0 kq z b j = some y) ∧ Aside0 (kq ≤ k1) ∧ Aside0 (Kd.R (Kd.int .u8) 5 w' w.heap.size oki (.slice (some ⟨g1, 0, none⟩) (rd_L1 o u).length c1) z) ∧ Aside0 (Kd.H (Kd.slice 5 (Kd.int .u8)) 23 w' w.heap.size (fun _ => True) (.slice (some ⟨g, 0, none⟩) n0 cap) ((o.set ps.length (o.getD u.toNat [])).set u.toNat (o.getD ps.length [])) (ps.length : Int) oki [(.slice u1 (rd_L1 o (ps.length : Int)).length u2)]) ∧ Aside0 (Kd.R (Kd.int .i64) 3 w' w.heap.size (fun _ => True) (.slice Ap ps.length cp) ps) ∧ Aside0 (Below w.heap.size w w'))
                                      case atStart => exact ⟨_, 0, rfl, HS0, ⟨Nat.le_refl _⟩, ⟨Kd.R_drewN HR1.out n5⟩, ⟨Kd.H_drewN HH.out n5⟩, ⟨Kd.R_drewN HP1.out n5⟩, ⟨pw_below_drewN HB1.out n5⟩⟩
                                      case round =>
                                        clear HS0 HR1 HH HP1 HB1 hx1 hy1 hy1' hu1 hf2
                                        obtain ⟨z, j, rfl, HA, HK3, HR, HH, HP, HB⟩ := hrel
                                        cases gk with
                                        | zero => exact absurd HA.out (by simp [footlockerref03_Reduce.s0])
                                        | succ k3 =>
                                          have H := HA.out
                                          clear HA
                                          simp only [footlockerref03_Reduce.s0] at H
                                          have hly := (Kd.R_reads' HR.out).1
                                          by_cases v1 : j < (z.length : Int)
                                          · rw [if_pos v1] at H
                                            by_cases v2 : 0 ≤ j
                                            · rw [if_pos v2] at H
                                              replace H := Option.bind_eq_some_iff.mp H
                                              obtain ⟨m, hm, H⟩ := H
                                              have HM := Aside0.mk hm
                                              have H2 := Aside0.mk H
                                              have v1b : decide (j < ((rd_L1 o u).length : Int)) = true := decide_eq_true (by omega)
                                              have v1c : j < ((rd_L1 o u).length : Int) := by omega
                                              obtain ⟨hz, hfz⟩ := Kd.R_celln 0 HR.out j v2 v1c
                                              replace hz : wr.cell? ⟨g1, j.toNat, none⟩ = some (.int .u8 (rd z j)) := hz
                                              have HR' := Aside0.mk (fun n => Kd.R_putg (Kd.R_drewN HR.out n) j m)
                                              have hty := Kd.R_typed HR.out g1 rfl
                                              obtain ⟨cells1, hty⟩ := hty
                                              have HTY := Aside0.mk hty
                                              have hgb1 := Kd.R_base HR.out g1 rfl
                                              have HOG := Aside0.mk (HR.out.1 g1 rfl)
                                              clear hm H hly v1 hty
                                              replace v1c := eq_true v1c
                                              replace v2 := eq_true v2
                                              go_wp2_with (first
                                                | (go_at_call 29; (with_reducible refine (footlockerref01_Mul.calls k3 _ _ m _ HM.out).mono ?_); rintro e w6 ⟨rfl, ⟨n6, rfl⟩⟩; have hfn : (wr.drewN n6).frozen? ⟨g1, j.toNat, none⟩ = false := hfz))
                                              go_roundg k3
                                              case measure => have := HK3.out; omega
                                              case rel => exact ⟨_, _, (by first | rfl | (simp; done) | (simp [*]; done)), H2, ⟨by have := HK3.out; omega⟩, ⟨(HR'.out n6).1⟩, ⟨Kd.H_grown (Kd.H_drewN HH.out n6) (HR'.out n6).2 (fun k e => by cases e; exact HOG.out)⟩, ⟨Kd.R_set (Kd.R_drewN HP.out n6) HTY.out (by decide) j.toNat _⟩, ⟨below_set (pw_below_drewN HB.out n6) hgb1⟩⟩
                                            · rw [if_neg v2] at H; exact absurd H (by simp)
                                          · rw [if_neg v1] at H
                                            have v1b : decide (j < ((rd_L1 o u).length : Int)) = false := decide_eq_false (by omega)
                                            obtain rfl := Option.some.inj H
                                            clear H hly
                                            obtain ⟨hcq, hfq⟩ := Kd.H_at HH.out hgp hat'
                                            have hq : wr.cell? ⟨g, ps.length, none⟩ = some (.slice u1 (rd_L1 o (ps.length : Int)).length u2) := by
                                              have := hcq 0 _ rfl
                                              simpa [show (Kd.slice 5 (Kd.int .u8)).sz = 1 from rfl] using this
                                            have hfq' : wr.frozen? ⟨g, ps.length, none⟩ = false := by
                                              have := hfq 0
                                              simpa [show (Kd.slice 5 (Kd.int .u8)).sz = 1 from rfl] using this
                                            have hS3 := (Mm.H_put HH.out hgp hat' HR.out).1
                                            rw [Int.toNat_natCast] at hS3
                                            have HS3 := Aside0.mk hS3
                                            have hgt : ∃ cells, wr.heap[g]? = some (.cells cells 23 (0, 0)) := by
                                              obtain ⟨_, f, hR⟩ := HH.out
                                              exact Kd.R_typed hR g rfl
                                            obtain ⟨cells2, hgt⟩ := hgt
                                            have HP3 := Aside0.mk (Kd.R_set HP.out hgt (by decide) ps.length (.slice (some ⟨g1, 0, none⟩) (rd_L1 o u).length c1))
                                            have HB3 := Aside0.mk (below_set (j := ps.length) (v := (.slice (some ⟨g1, 0, none⟩) (rd_L1 o u).length c1)) HB.out HGB.out)
                                            have HC3 := Aside0.mk (show (wr.setCell ⟨g, ps.length, none⟩ (.slice (some ⟨g1, 0, none⟩) (rd_L1 o u).length c1)).cell? ⟨g, ps.length, none⟩ = some (.slice (some ⟨g1, 0, none⟩) (rd_L1 o u).length c1) from (by first | exact World.cell?_setCell_same _ hq | exact World.cell?_setCell_same _ _ hq | exact World.cell?_setCell_same _ _ _ hq))
                                            clear hcq hfq hS3 hgt v1 HR HH HP HB HK3
                                            go_wp2
                                            go_loopg [15] k1 (fun kq v15 w' => ∃ (x : List (List Int)) (i : Int), v15 = .int .i64 i ∧ Aside0 (footlockerref03_Reduce.e0 kq x (ps.length : Int) c i = some o2) ∧ Aside0 (kq ≤ k1) ∧ Aside0 (Kd.S (Kd.slice 5 (Kd.int .u8)) 23 w' w.heap.size (fun _ => True) (.slice (some ⟨g, 0, none⟩) n0 cap) x) ∧ Aside0 (Kd.R (Kd.int .i64) 3 w' w.heap.size (fun _ => True) (.slice Ap ps.length cp) ps) ∧ Aside0 (Below w.heap.size w w') ∧ Aside0 (w'.cell? ⟨g, ps.length, none⟩ = some (.slice (some ⟨g1, 0, none⟩) (rd_L1 o u).length c1)))
                                            case atStart => exact ⟨_, 0, rfl, HE0, ⟨Nat.le_refl _⟩, HS3, HP3, HB3, HC3⟩
                                            case round =>
                                              clear HE0 HS3 HP3 HB3 HC3 hq hfq'
                                              obtain ⟨x, i, rfl, HA, HK4, HO, HP, HB, HC⟩ := hrel
                                              cases gk with
                                              | zero => exact absurd HA.out (by simp [footlockerref03_Reduce.e0])
                                              | succ k4 =>
                                                have H := HA.out
                                                clear HA
                                                simp only [footlockerref03_Reduce.e0] at H
                                                have hxn := (Kd.S_reads' HO.out).1
                                                by_cases x1 : i < (x.length : Int)
                                                · rw [if_pos x1] at H
                                                  by_cases x2 : 0 ≤ i
                                                  · rw [if_pos x2, if_pos (of_eq_true t6)] at H
                                                    by_cases x3 : c < ((rd_L1 x i).length : Int)
                                                    · rw [if_pos x3] at H
                                                      replace H := Option.bind_eq_some_iff.mp H
                                                      obtain ⟨o3, ho3, H⟩ := H
                                                      obtain ⟨cc, hcc⟩ : ∃ z, rd (rd_L1 x i) c = z := ⟨_, rfl⟩
                                                      obtain ⟨ad, A7, c6, e1, hx6, hl6, hi6⟩ := at_L1 (Kd.S_reads' HO.out).2.2 i x2 x1
                                                      cases e1
                                                      rw [add_plain] at hx6
                                                      obtain ⟨ad6, e1, hy6⟩ := Kd.at_int hi6 c (of_eq_true t6) x3
                                                      cases e1
                                                      rw [hcc] at hy6 ho3
                                                      obtain ⟨oki6, _, hR6, _, _⟩ := Mm.S_turn HO.out i.toNat (by omega) (fun _ _ => trivial) hx6
                                                      obtain ⟨g6, rfl⟩ := Kd.R_head hR6
                                                      rw [add_plain] at hy6
                                                      obtain ⟨n6, hn6⟩ : ∃ n, (rd_L1 x i).length = n := ⟨_, rfl⟩
                                                      rw [hn6] at hx6 x3
                                                      have HE1 := Aside0.mk ho3
                                                      have H2 := Aside0.mk H
                                                      have x1b : decide (i < (n0 : Int)) = true := decide_eq_true (by omega)
                                                      have x1c : i < (n0 : Int) := by omega
                                                      have HX6 := Aside0.mk hx6
                                                      clear hR6 hi6 hl6 hcc H ho3 hn6 hxn x1
                                                      replace x1c := eq_true x1c
                                                      replace x2 := eq_true x2
                                                      replace x3 := eq_true x3
                                                      go_wp2
                                                      go_loopg [17] k4 (fun kq v17 w' => ∃ (x : List (List Int)) (j : Int), v17 = .int .i64 j ∧ Aside0 (footlockerref03_Reduce.e1 kq x i (ps.length : Int) cc j = some o3) ∧ Aside0 (kq ≤ k4) ∧ Aside0 (Kd.S (Kd.slice 5 (Kd.int .u8)) 23 w' w.heap.size (fun _ => True) (.slice (some ⟨g, 0, none⟩) n0 cap) x) ∧ Aside0 (Kd.R (Kd.int .i64) 3 w' w.heap.size (fun _ => True) (.slice Ap ps.length cp) ps) ∧ Aside0 (Below w.heap.size w w') ∧ Aside0 (w'.cell? ⟨g, ps.length, none⟩ = some (.slice (some ⟨g1, 0, none⟩) (rd_L1 o u).length c1)) ∧ Aside0 (w'.cell? ⟨g, i.toNat, none⟩ = some (.slice (some ⟨g6, 0, none⟩) n6 c6)))
                                                      case atStart => exact ⟨_, 0, rfl, HE1, ⟨Nat.le_refl _⟩, HO, HP, HB, HC, HX6⟩
                                                      case round =>
                                                        clear HE1 HO HP HB HC HX6 hx6 hy6
                                                        obtain ⟨x, j, rfl, HA, HK5, HO, HP, HB, HC, HX6⟩ := hrel
                                                        cases gk with
                                                        | zero => exact absurd HA.out (by simp [footlockerref03_Reduce.e1])
                                                        | succ k5 =>
                                                          have H := HA.out
                                                          clear HA
                                                          simp only [footlockerref03_Reduce.e1] at H
                                                          have hxn := (Kd.S_reads' HO.out).1
                                                          have hz1 := HX6.out
                                                          obtain ⟨ad, A8, c8, e1, hx8, hl8, hi8⟩ := at_L1 (Kd.S_reads' HO.out).2.2 (ps.length : Int) hgp (by omega)
                                                          cases e1
                                                          rw [add_plain, Int.toNat_natCast] at hx8
                                                          have e8 := Option.some.inj (hx8.symm.trans HC.out)
                                                          injection e8 with e8a e8b e8c
                                                          subst e8a
                                                          obtain ⟨ad, A9, c9, e1, hx9, hl9, hi9⟩ := at_L1 (Kd.S_reads' HO.out).2.2 i (of_eq_true x2) (by have := of_eq_true x1c; omega)
                                                          cases e1
                                                          rw [add_plain] at hx9
                                                          have e9 := Option.some.inj (hx9.symm.trans hz1)
                                                          injection e9 with e9a e9b e9c
                                                          by_cases y1 : j < ((rd_L1 x (ps.length : Int)).length : Int)
                                                          · rw [if_pos y1] at H
                                                            have y1b : decide (j < ((rd_L1 o u).length : Int)) = true := decide_eq_true (by omega)
                                                            by_cases y2 : i = (ps.length : Int)
                                                            · rw [if_pos y2] at H
                                                              obtain rfl := Option.some.inj H
                                                              have y2b : (i == (ps.length : Int)) = true := by simpa using y2
                                                              have y2c : (i != (ps.length : Int)) = false := by simp [y2]
                                                              clear H hxn e8b e8c e9a e9b e9c hi8 hi9 hl8 hl9 hx8 hx9 y1 y2
                                                              go_wp2
                                                              go_roundg k4
                                                              case measure => have := HK4.out; omega
                                                              case rel => exact ⟨_, _, (by first | rfl | (simp; done) | (simp [*]; done)), H2, ⟨by have := HK4.out; omega⟩, HO, HP, HB, HC⟩
                                                            · rw [if_neg y2] at H
                                                              have y2b : (i == (ps.length : Int)) = false := by simpa using y2
                                                              have y2c : (i != (ps.length : Int)) = true := by simpa using y2
                                                              by_cases y3 : 0 ≤ j
                                                              · rw [if_pos y3] at H
                                                                by_cases y4 : j < ((rd_L1 x i).length : Int)
                                                                · rw [if_pos y4] at H
                                                                  replace H := Option.bind_eq_some_iff.mp H
                                                                  obtain ⟨z, hz, H⟩ := H
                                                                  have HZ := Aside0.mk hz
                                                                  have H3 := Aside0.mk H
                                                                  obtain ⟨ad1, e1, hz3⟩ := Kd.at_int hi8 j y3 y1
                                                                  cases e1
                                                                  rw [add_plain] at hz3
                                                                  obtain ⟨ad2, e1, hz2⟩ := Kd.at_int hi9 j y3 y4
                                                                  rw [e9a] at e1
                                                                  cases e1
                                                                  rw [add_plain] at hz2
                                                                  have hf6 : wr.frozen? ⟨g6, j.toNat, none⟩ = false := by
                                                                    obtain ⟨oki6, _, hR6, _, _⟩ := Mm.S_turn HO.out i.toNat (by have := of_eq_true x1c; omega) (fun _ _ => trivial) hz1
                                                                    have hR6' : Kd.R (Kd.int .u8) 5 wr w.heap.size oki6 (.slice (some ⟨g6, 0, none⟩) n6 c6) (rd_L1 x i) := hR6
                                                                    exact (Kd.R_celln 0 hR6' j y3 (by omega)).2
                                                                  have y4n : j < (n6 : Int) := by omega
                                                                  have y4o : j < ((rd_L1 o u).length : Int) := by omega
                                                                  clear hz H hxn e8b e8c e9a e9b e9c hi8 hi9 hl8 hl9 hx8 hx9 y1 y2 y4
                                                                  replace y3 := eq_true y3
                                                                  replace y4n := eq_true y4n
                                                                  replace y4o := eq_true y4o
                                                                  go_wp2
                                                                  refine start_ (n := 21) (S := fun w' => w'.cell? ⟨g, i.toNat, none⟩ = some (.slice (some ⟨g6, 0, none⟩) n6 c6) ∧ w'.cell? ⟨g6, j.toNat, none⟩ = some (.int .u8 (rd (rd_L1 x i) j)) ∧ w'.cell? ⟨g1, j.toNat, none⟩ = some (.int .u8 (rd (rd_L1 x (ps.length : Int)) j))) (ds := [20]) #[false, false, false, false, false, false, false, false, false, false, false, false, false, false, false, false, false, false, false, false, false] (by kernel_rfl) rfl rfl ⟨hz1, hz2, hz3⟩ (fun hHeld => ?_)
                                                                  refine pure_ (i := 0) (N := some 137) (v := ?_) (a' := ?_) #[true, false, false, false, false, false, false, false, false, false, false, false, false, false, false, false, false, false, false, false, false] rfl rfl (by kernel_rfl) (fun _ _ _ h => h) (Or.inl ⟨by rfl, ?_⟩) ?_ ?_
                                                                  rotate_left
                                                                  · intro w'
                                                                    go_simp
                                                                    with_reducible rfl
                                                                  rotate_left
                                                                  · simp only [Act.put, List.setIfInBounds_toArray, List.set_cons_zero, List.set_cons_succ, i64_w, i32_w]
                                                                    rfl
                                                                  refine pure_ (i := 1) (N := some 138) (v := ?_) (a' := ?_) #[true, true, false, false, false, false, false, false, false, false, false, false, false, false, false, false, false, false, false, false, false] rfl rfl (by kernel_rfl) (fun _ _ _ h => h) (Or.inl ⟨by rfl, ?_⟩) ?_ ?_
                                                                  rotate_left
                                                                  · intro w'
                                                                    go_simp
                                                                    with_reducible rfl
                                                                  rotate_left
                                                                  · simp only [Act.put, List.setIfInBounds_toArray, List.set_cons_zero, List.set_cons_succ, i64_w, i32_w]
                                                                    rfl
                                                                  refine pure_ (i := 2) (N := some 139) (v := ?_) (a' := ?_) #[true, true, true, false, false, false, false, false, false, false, false, false, false, false, false, false, false, false, false, false, false] rfl rfl (by kernel_rfl) (fun _ _ _ h => h) (Or.inl ⟨by rfl, ?_⟩) ?_ ?_
                                                                  rotate_left
                                                                  · intro w'
                                                                    go_simp
                                                                    with_reducible rfl
                                                                  rotate_left
                                                                  · simp only [Act.put, List.setIfInBounds_toArray, List.set_cons_zero, List.set_cons_succ, i64_w, i32_w]
                                                                    rfl
                                                                  refine pure_ (i := 4) (N := some 141) (v := ?_) (a' := ?_) #[true, true, true, false, true, false, false, false, false, false, false, false, false, false, false, false, false, false, false, false, false] rfl rfl (by kernel_rfl) (fun _ _ _ h => h) (Or.inl ⟨by rfl, ?_⟩) ?_ ?_
                                                                  rotate_left
                                                                  · intro w'
                                                                    go_simp
                                                                    with_reducible rfl
                                                                  rotate_left
                                                                  · simp only [Act.put, List.setIfInBounds_toArray, List.set_cons_zero, List.set_cons_succ, i64_w, i32_w]
                                                                    rfl
                                                                  refine pure_ (i := 5) (N := some 142) (v := ?_) (a' := ?_) #[true, true, true, false, true, true, false, false, false, false, false, false, false, false, false, false, false, false, false, false, false] rfl rfl (by kernel_rfl) (fun _ _ _ h => h) (Or.inl ⟨by rfl, ?_⟩) ?_ ?_
                                                                  rotate_left
                                                                  · intro w'
                                                                    go_simp
                                                                    with_reducible rfl
                                                                  rotate_left
                                                                  · simp only [Act.put, List.setIfInBounds_toArray, List.set_cons_zero, List.set_cons_succ, i64_w, i32_w]
                                                                    rfl
                                                                  refine pure_ (i := 6) (N := some 143) (v := ?_) (a' := ?_) #[true, true, true, false, true, true, true, false, false, false, false, false, false, false, false, false, false, false, false, false, false] rfl rfl (by kernel_rfl) (fun _ _ _ h => h) (Or.inl ⟨by rfl, ?_⟩) ?_ ?_
                                                                  rotate_left
                                                                  · intro w'
                                                                    go_simp
                                                                    with_reducible rfl
                                                                  rotate_left
                                                                  · simp only [Act.put, List.setIfInBounds_toArray, List.set_cons_zero, List.set_cons_succ, i64_w, i32_w]
                                                                    rfl
                                                                  refine pure_ (i := 7) (N := some 144) (v := ?_) (a' := ?_) #[true, true, true, false, true, true, true, true, false, false, false, false, false, false, false, false, false, false, false, false, false] rfl rfl (by kernel_rfl) (fun _ _ _ h => h) (Or.inl ⟨by rfl, ?_⟩) ?_ ?_
                                                                  rotate_left
                                                                  · intro w'
                                                                    go_simp
                                                                    with_reducible rfl
                                                                  rotate_left
                                                                  · simp only [Act.put, List.setIfInBounds_toArray, List.set_cons_zero, List.set_cons_succ, i64_w, i32_w]
                                                                    rfl
                                                                  refine pure_ (i := 9) (N := some 146) (v := ?_) (a' := ?_) #[true, true, true, false, true, true, true, true, false, true, false, false, false, false, false, false, false, false, false, false, false] rfl rfl (by kernel_rfl) (fun _ _ _ h => h) (Or.inl ⟨by rfl, ?_⟩) ?_ ?_
                                                                  rotate_left
                                                                  · intro w'
                                                                    go_simp
                                                                    with_reducible rfl
                                                                  rotate_left
                                                                  · simp only [Act.put, List.setIfInBounds_toArray, List.set_cons_zero, List.set_cons_succ, i64_w, i32_w]
                                                                    rfl
                                                                  refine pure_ (i := 12) (N := some 149) (v := ?_) (a' := ?_) #[true, true, true, false, true, true, true, true, false, true, false, false, true, false, false, false, false, false, false, false, false] rfl rfl (by kernel_rfl) (fun _ _ _ h => h) (Or.inl ⟨by rfl, ?_⟩) ?_ ?_
                                                                  rotate_left
                                                                  · intro w'
                                                                    go_simp
                                                                    with_reducible rfl
                                                                  rotate_left
                                                                  · simp only [Act.put, List.setIfInBounds_toArray, List.set_cons_zero, List.set_cons_succ, i64_w, i32_w]
                                                                    rfl
                                                                  refine pure_ (i := 13) (N := some 150) (v := ?_) (a' := ?_) #[true, true, true, false, true, true, true, true, false, true, false, false, true, true, false, false, false, false, false, false, false] rfl rfl (by kernel_rfl) (fun _ _ _ h => h) (Or.inl ⟨by rfl, ?_⟩) ?_ ?_
                                                                  rotate_left
                                                                  · intro w'
                                                                    go_simp
                                                                    with_reducible rfl
                                                                  rotate_left
                                                                  · simp only [Act.put, List.setIfInBounds_toArray, List.set_cons_zero, List.set_cons_succ, i64_w, i32_w]
                                                                    rfl
                                                                  refine pure_ (i := 14) (N := some 151) (v := ?_) (a' := ?_) #[true, true, true, false, true, true, true, true, false, true, false, false, true, true, true, false, false, false, false, false, false] rfl rfl (by kernel_rfl) (fun _ _ _ h => h) (Or.inl ⟨by rfl, ?_⟩) ?_ ?_
                                                                  rotate_left
                                                                  · intro w'
                                                                    go_simp
                                                                    with_reducible rfl
                                                                  rotate_left
                                                                  · simp only [Act.put, List.setIfInBounds_toArray, List.set_cons_zero, List.set_cons_succ, i64_w, i32_w]
                                                                    rfl
                                                                  refine pure_ (i := 15) (N := some 152) (v := ?_) (a' := ?_) #[true, true, true, false, true, true, true, true, false, true, false, false, true, true, true, true, false, false, false, false, false] rfl rfl (by kernel_rfl) (fun _ _ _ h => h) (Or.inl ⟨by rfl, ?_⟩) ?_ ?_
                                                                  rotate_left
                                                                  · intro w'
                                                                    go_simp
                                                                    with_reducible rfl
                                                                  rotate_left
                                                                  · simp only [Act.put, List.setIfInBounds_toArray, List.set_cons_zero, List.set_cons_succ, i64_w, i32_w]
                                                                    rfl
                                                                  refine take_ (i := 3) (N := some 140) (v := ?_) (a' := ?_) #[true, true, true, true, true, true, true, true, false, true, false, false, true, true, true, true, false, false, false, false, false] rfl rfl (by kernel_rfl) (fun _ _ _ h => h) (Or.inl ⟨by rfl, ?_⟩) hHeld ?_ ?_
                                                                  rotate_left
                                                                  · rintro w' ⟨s0, s1, s2⟩
                                                                    go_simp
                                                                    with_reducible rfl
                                                                  rotate_left
                                                                  · simp only [Act.put, List.setIfInBounds_toArray, List.set_cons_zero, List.set_cons_succ, i64_w, i32_w]
                                                                    rfl
                                                                  refine take_ (i := 8) (N := some 145) (v := ?_) (a' := ?_) #[true, true, true, true, true, true, true, true, true, true, false, false, true, true, true, true, false, false, false, false, false] rfl rfl (by kernel_rfl) (fun _ _ _ h => h) (Or.inl ⟨by rfl, ?_⟩) hHeld ?_ ?_
                                                                  rotate_left
                                                                  · rintro w' ⟨s0, s1, s2⟩
                                                                    go_simp
                                                                    with_reducible rfl
                                                                  rotate_left
                                                                  · simp only [Act.put, List.setIfInBounds_toArray, List.set_cons_zero, List.set_cons_succ, i64_w, i32_w]
                                                                    rfl
                                                                  refine pure_ (i := 10) (N := some 147) (v := ?_) (a' := ?_) #[true, true, true, true, true, true, true, true, true, true, true, false, true, true, true, true, false, false, false, false, false] rfl rfl (by kernel_rfl) (fun _ _ _ h => h) (Or.inl ⟨by rfl, ?_⟩) ?_ ?_
                                                                  rotate_left
                                                                  · intro w'
                                                                    go_simp
                                                                    with_reducible rfl
                                                                  rotate_left
                                                                  · simp only [Act.put, List.setIfInBounds_toArray, List.set_cons_zero, List.set_cons_succ, i64_w, i32_w]
                                                                    rfl
                                                                  refine take_ (i := 11) (N := some 148) (v := ?_) (a' := ?_) #[true, true, true, true, true, true, true, true, true, true, true, true, true, true, true, true, false, false, false, false, false] rfl rfl (by kernel_rfl) (fun _ _ _ h => h) (Or.inl ⟨by rfl, ?_⟩) hHeld ?_ ?_
                                                                  rotate_left
                                                                  · rintro w' ⟨s0, s1, s2⟩
                                                                    go_simp
                                                                    with_reducible rfl
                                                                  rotate_left
                                                                  · simp only [Act.put, List.setIfInBounds_toArray, List.set_cons_zero, List.set_cons_succ, i64_w, i32_w]
                                                                    rfl
                                                                  refine take_ (i := 16) (N := some 153) (v := ?_) (a' := ?_) #[true, true, true, true, true, true, true, true, true, true, true, true, true, true, true, true, true, false, false, false, false] rfl rfl (by kernel_rfl) (fun _ _ _ h => h) (Or.inl ⟨by rfl, ?_⟩) hHeld ?_ ?_
                                                                  rotate_left
                                                                  · rintro w' ⟨s0, s1, s2⟩
                                                                    go_simp
                                                                    with_reducible rfl
                                                                  rotate_left
                                                                  · simp only [Act.put, List.setIfInBounds_toArray, List.set_cons_zero, List.set_cons_succ, i64_w, i32_w]
                                                                    rfl
                                                                  refine one_ (i := 17) (N := some 154) #[true, true, true, true, true, true, true, true, true, true, true, true, true, true, true, true, true, true, false, false, false] rfl rfl (by kernel_rfl) (by decide) (fun K hK => ?_)
                                                                  refine goes_ Try.func29 (by kernel_rfl) rfl #[.int .u8 cc, .int .u8 (rd (rd_L1 x (ps.length : Int)) j)] (by rfl) rfl rfl (by simp only [List.map_toArray, List.map_cons, List.map_nil]; rfl) ?_
                                                                  with_reducible refine (footlockerref01_Mul.calls k5 _ _ z _ HZ.out).mono ?_
                                                                  rintro e w7 ⟨rfl, ⟨n7, rfl⟩⟩
                                                                  refine ⟨_, rfl, ?_⟩
                                                                  have hf6' : (wr.drew.drewN n7).frozen? ⟨g6, j.toNat, none⟩ = false := hf6
                                                                  refine hK.out _ _ ⟨hHeld.1, hHeld.2.1, hHeld.2.2⟩ (fun hHeld => ?_)
                                                                  clear hK K
                                                                  refine norm_ (a' := ?_) ?_ ?_
                                                                  rotate_left
                                                                  · show Act.put _ (some 154) _ = _
                                                                    simp only [Act.put, List.setIfInBounds_toArray, List.set_cons_zero, List.set_cons_succ, i64_w, i32_w]
                                                                    rfl
                                                                  refine pure_ (i := 18) (N := some 155) (v := ?_) (a' := ?_) #[true, true, true, true, true, true, true, true, true, true, true, true, true, true, true, true, true, true, true, false, false] rfl rfl (by kernel_rfl) (fun _ _ _ h => h) (Or.inl ⟨by rfl, ?_⟩) ?_ ?_
                                                                  rotate_left
                                                                  · intro w'
                                                                    go_simp
                                                                    with_reducible rfl
                                                                  rotate_left
                                                                  · simp only [Act.put, List.setIfInBounds_toArray, List.set_cons_zero, List.set_cons_succ, i64_w, i32_w]
                                                                    rfl
                                                                  refine pure_ (i := 19) (N := some 156) (v := ?_) (a' := ?_) #[true, true, true, true, true, true, true, true, true, true, true, true, true, true, true, true, true, true, true, true, false] rfl rfl (by kernel_rfl) (fun _ _ _ h => h) (Or.inl ⟨by rfl, ?_⟩) ?_ ?_
                                                                  rotate_left
                                                                  · intro w'
                                                                    go_simp
                                                                    with_reducible rfl
                                                                  rotate_left
                                                                  · simp only [Act.put, List.setIfInBounds_toArray, List.set_cons_zero, List.set_cons_succ, i64_w, i32_w]
                                                                    rfl
                                                                  refine last_ (i := 20) (N := none) #[true, true, true, true, true, true, true, true, true, true, true, true, true, true, true, true, true, true, true, true, true] rfl rfl (by kernel_rfl) (by decide) (fun K hK => ?_)
                                                                  refine skip_ (w1 := ?_) (by rfl) rfl ?_ ?_
                                                                  rotate_left
                                                                  · go_simp
                                                                    rfl
                                                                  refine hK.out _ _ ?_
                                                                  clear hK K
                                                                  refine done_ (by kernel_rfl) ?_
                                                                  obtain ⟨oki6, hok6, hR6, _, hback⟩ := Mm.S_turn (Kd.S_drewN (Kd.S_drew HO.out) n7) i.toNat (by have := of_eq_true x1c; omega) (fun _ _ => trivial) (show (wr.drew.drewN n7).cell? ⟨g, i.toNat, none⟩ = some (.slice (some ⟨g6, 0, none⟩) n6 c6) from hz1)
                                                                  have hR6' : Kd.R (Kd.int .u8) 5 (wr.drew.drewN n7) w.heap.size oki6 (.slice (some ⟨g6, 0, none⟩) n6 c6) (rd_L1 x i) := hR6
                                                                  have hp6 := Kd.R_putg hR6' j (Go.bits .xor .u8 (rd (rd_L1 x i) j) z)
                                                                  have hg6 : g6 ≠ g := (hok6 g6 (hR6'.1 g6 rfl)).2
                                                                  obtain ⟨cells6, hty6⟩ := Kd.R_typed hR6' g6 rfl
                                                                  have HO9 := Aside0.mk (hback _ _ (Kept.setCell (p := ⟨g6, j.toNat, none⟩) (Kept.refl _ _) (.inl (hR6'.1 g6 rfl)) (.int .u8 (Go.bits .xor .u8 (rd (rd_L1 x i) j) z))) (Kd.R_mono hp6.1 (fun k hk => .inl hk)))
                                                                  have HP9 := Aside0.mk (Kd.R_set (Kd.R_drewN (Kd.R_drew HP.out) n7) hty6 (by decide) j.toNat (.int .u8 (Go.bits .xor .u8 (rd (rd_L1 x i) j) z)))
                                                                  have HB9 := Aside0.mk (below_set (j := j.toNat) (v := .int .u8 (Go.bits .xor .u8 (rd (rd_L1 x i) j) z)) (pw_below_drewN HB.out (1 + n7)) (Kd.R_base hR6' g6 rfl))
                                                                  have HC9 := Aside0.mk ((World.cell?_setCell_far (wr.drew.drewN n7) ⟨g6, j.toNat, none⟩ ⟨g, ps.length, none⟩ (.int .u8 (Go.bits .xor .u8 (rd (rd_L1 x i) j) z)) hg6).trans HC.out)
                                                                  have HX9 := Aside0.mk ((World.cell?_setCell_far (wr.drew.drewN n7) ⟨g6, j.toNat, none⟩ ⟨g, i.toNat, none⟩ (.int .u8 (Go.bits .xor .u8 (rd (rd_L1 x i) j) z)) hg6).trans HX6.out)
                                                                  clear hback hR6 hR6' hp6 hok6 hty6 hHeld
                                                                  go_wp2
                                                                  go_roundg k5
                                                                  case measure => have := HK5.out; omega
                                                                  case rel => exact ⟨_, _, (by first | rfl | (simp; done) | (simp [*]; done)), H3, ⟨by have := HK5.out; omega⟩, HO9, HP9, HB9, HC9, HX9⟩
                                                                · rw [if_neg y4] at H; exact absurd H (by simp)
                                                              · rw [if_neg y3] at H; exact absurd H (by simp)
                                                          · rw [if_neg y1] at H
                                                            obtain rfl := Option.some.inj H
                                                            have y1b : decide (j < ((rd_L1 o u).length : Int)) = false := decide_eq_false (by omega)
                                                            clear H hxn e8b e8c e9a e9b e9c hi8 hi9 hl8 hl9 hx8 hx9 y1
                                                            go_wp2
                                                            go_roundg k4
                                                            case measure => have := HK4.out; omega
                                                            case rel => exact ⟨_, _, (by first | rfl | (simp; done) | (simp [*]; done)), H2, ⟨by have := HK4.out; omega⟩, HO, HP, HB, HC⟩
                                                    · rw [if_neg x3] at H; exact absurd H (by simp)
                                                  · rw [if_neg x2] at H; exact absurd H (by simp)
                                                · rw [if_neg x1] at H
                                                  obtain rfl := Option.some.inj H
                                                  have x1b : decide (i < (n0 : Int)) = false := decide_eq_false (by omega)
                                                  clear H hxn x1
                                                  go_wp2_with (first
                                                    | ((with_reducible refine gate_builtin (b := .append) (xs := #[.tmp 157, .tmp 159]) rfl ?_); at_builtin; refine Kd.R_append (Kd.int .i64) (w0 := w) w.heap.size rfl (.tmp 157) (.tmp 159) 26 3 (.int .i64 0) 8 rfl Try.underlying26 info3 rfl (by decide) (by omega) (.slice Ap ps.length cp) ps c [.int .i64 c] (fun _ => True) (fun _ => False) rfl rfl ?aP (fun _ hk => hk.elim) ?aF ?aO ?aB ?aS ?aL ?_; (case aP => exact rfl); (case aB => exact HB.out); (case aF => exact (fun _ _ => trivial)); (case aO => exact HP.out); (case aS => exact below_size HB.out); (case aL => have := HLM.out; omega); intro v5 w5 ho hb hg hat; have HS5 := Aside0.mk (Kd.S_over' HO.out (Kd.R_typed HP.out) (by decide) hg); have HB5 := Aside0.mk hb; have HO5 := Aside0.mk ho; clear ho hb hg hat))
                                                  go_roundg k1
                                                  case measure => have := HK1.out; omega
                                                  case rel => exact ⟨_, ps ++ [c], _, rfl, H', ⟨by have := HK1.out; omega⟩, HS5, HO5, HB5⟩
                                    · rw [if_neg t10] at H; exact absurd H (by simp)
                                  · rw [if_neg t9] at H; exact absurd H (by simp)
                              · rw [if_neg t7] at H; exact absurd H (by simp)
                            · rw [if_neg t6] at H; exact absurd H (by simp)
                          · rw [if_neg t5] at H; exact absurd H (by simp)
                        · rw [if_neg t4] at H
                          have t4b : decide (u < (n0 : Int)) = false := decide_eq_false (by omega)
                          have t4e : decide ((n0 : Int) ≤ u) = true := decide_eq_true (by omega)
                          obtain rfl := Option.some.inj H
                          clear H
                          have H := H'.out
                          clear H'
                          rw [if_pos (by omega)] at H
                          have H' := Aside0.mk H
                          clear H t4 hn
                          go_wp2
                          go_roundg k1
                          case measure => have := HK1.out; omega
                          case rel => exact ⟨o, ps, _, (by first | rfl | (simp; done) | (simp [*]; done)), H', ⟨by have := HK1.out; omega⟩, HO, HP, HB⟩
                  · rw [if_neg t3] at H
                    have t3b : decide (c < ((rd_L1 l0 0).length : Int)) = false := decide_eq_false t3
                    replace t1 := eq_true t1
                    replace t1n := eq_true t1n
                    clear t3
                    obtain ⟨rfl, rfl⟩ := Prod.mk.inj (Option.some.inj H)
                    clear H
                    go_wp2
                    go_ret2
                    exact ⟨_, _, rfl, HO.out, HP.out, HB.out⟩
                · rw [if_neg t2] at H
                  have t2b : decide (c < a1) = false := decide_eq_false t2
                  clear t2
                  obtain ⟨rfl, rfl⟩ := Prod.mk.inj (Option.some.inj H)
                  clear H
                  go_wp2
                  go_ret2
                  exact ⟨_, _, rfl, HO.out, HP.out, HB.out⟩
              · rw [if_neg t1] at H
                have t1b : decide (0 < (l0.length : Int)) = false := decide_eq_false t1
                have t1c : decide (0 < l0.length) = false := decide_eq_false (by omega)
                clear t1
                obtain ⟨rfl, rfl⟩ := Prod.mk.inj (Option.some.inj H)
                clear H
                go_wp2
                go_ret2
                exact ⟨_, _, rfl, HO.out, HP.out, HB.out⟩
  · rw [if_neg c1] at h
    obtain ⟨rfl, rfl⟩ := Prod.mk.inj (Option.some.inj h)
    have hf : t = false := by simpa using c1
    subst hf
    go_enter Try.func12, Try.ntmps12
    go_wp2_with (first | (go_at_call 14; (with_reducible refine (footlockerref03_Right.calls k _ _ l0 false _ ?side1 HC0.out HT.out).mono ?_); (case side1 => exact HR0.out); rintro e w1 ⟨rfl, ⟨n1, rfl⟩⟩))
    go_ret2
    exact ⟨_, _, rfl, ⟨fun _ => 0, Kd.R_nil _ _ _ _ _⟩, Kd.R_nil _ _ _ _ _, pw_below_drewN HB.out n1⟩

end Go.Proofs.Ytanknpdibjfmlaa.P
