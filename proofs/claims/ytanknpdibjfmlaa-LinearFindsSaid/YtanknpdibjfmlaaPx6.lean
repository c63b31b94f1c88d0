/- Functions of the Go program as Lean functions, each with a proof that the Go code answers just so; each theorem states its own conditions. Written by a program. -/
import Derived.Test.YtanknpdibjfmlaaPx0
import Derived.Test.YtanknpdibjfmlaaPx1
import Derived.Test.YtanknpdibjfmlaaPx3
import Derived.Test.YtanknpdibjfmlaaPx4
import Derived.Test.YtanknpdibjfmlaaPx5
namespace Go.Proofs.Ytanknpdibjfmlaa.P
open Go.RowKit Go.Proofs.YtanknpdibjfmlaaW.PrintWords Go.Proofs.YtanknpdibjfmlaaW.PrintLast Go.Proofs.YtanknpdibjfmlaaW.PrintMore
attribute [local go_sem] max2_int min2_int max_two min_two max_three min_three max_four min_four   -- for this text's walks alone
set_option linter.unusedVariables false
set_option linter.unusedSimpArgs false

def linear_Inverse.a0 : Nat → Int → Int → List (List Int) → Int → Option (List (List Int))
  | 0, _, _, _, _ => none
  | k + 1, n, m, x, i => if i < m then (if 0 ≤ i then (if i < (x.length : Int) then ((linear_unit.f n i).bind fun y => if (rd_L1 x i).length + y.length < 140737488355328 then linear_Inverse.a0 k n m (x.set i.toNat (rd_L1 x i ++ y)) (wrap64 (i + 1)) else none) else none) else none) else some x
def linear_Inverse.b0 : Nat → Int → Int → List (List Int) → Int → Option (List (List Int))
  | 0, _, _, _, _ => none
  | k + 1, n, m, x, i => if i < m then (if 0 ≤ i then (if i < (x.length : Int) then (if n < ((rd_L1 x i).length : Int) then linear_Inverse.b0 k n m (x.set i.toNat ((rd_L1 x i).drop n.toNat)) (wrap64 (i + 1)) else none) else none) else none) else some x
def linear_Inverse.f (k : Nat) (l0 : List (List Int)) : Option (List (List Int) × Bool) :=
  (linear_Right.f l0).bind fun t => if t = true then ((linear_width.f l0).bind fun wd => if wd = (l0.length : Int) then ((linear_clone.f k l0).bind fun x => (linear_Inverse.a0 k (l0.length : Int) (x.length : Int) x 0).bind fun x1 => (linear_Reduce.f k x1 (l0.length : Int)).bind fun r => if (r.2.length : Int) < (l0.length : Int) then some ([], false) else ((linear_Inverse.b0 k (l0.length : Int) (r.1.length : Int) r.1 0).bind fun x3 => some (x3, true))) else some ([], false)) else some ([], false)
set_option maxHeartbeats 8000000 in
set_option maxRecDepth 100000 in
theorem linear_Inverse.calls (k : Nat) (A0 : Option Addr) (c0 : Nat) (l0 : List (List Int)) (r1 : List (List Int)) (r2 : Bool) (w : World) (hr0 : Kd.C (Kd.slice 5 (Kd.int .u8)) w A0 l0.length l0) (hc0 : l0.length ≤ c0) (h : linear_Inverse.f k l0 = some (r1, r2)) :
    Calls Try.prog 23 #[.slice A0 l0.length c0] w fun e w' => ∃ v0_ : Value, e = .returned (.tuple #[v0_, .bool r2]) ∧ Kd.V (Kd.slice 5 (Kd.int .u8)) 23 w' w.heap.size (fun k_ => (w.heap.size ≤ k_)) v0_ r1 ∧ Below w.heap.size w w' := by
  have HR0 := Aside0.mk hr0
  have HC0 := Aside0.mk hc0
  have HMX := Aside0.mk hr0.2.1
  clear hr0 hc0
  have HB := Aside0.mk (Below.refl w.heap.size w)
  unfold linear_Inverse.f at h
  replace h := Option.bind_eq_some_iff.mp h
  obtain ⟨t, ht, h⟩ := h
  have HT := Aside0.mk ht
  clear ht
  by_cases c1 : t = true
  · rw [if_pos c1] at h
    subst c1
    replace h := Option.bind_eq_some_iff.mp h
    obtain ⟨wd, hwd, h⟩ := h
    have HW := Aside0.mk hwd
    clear hwd
    by_cases c2 : wd = (l0.length : Int)
    · rw [if_pos c2] at h
      have c2b : (wd == (l0.length : Int)) = true := by simpa using c2
      have c2c : (wd != (l0.length : Int)) = false := by simp [c2]
      replace h := Option.bind_eq_some_iff.mp h
      obtain ⟨x0, hx, h⟩ := h
      replace h := Option.bind_eq_some_iff.mp h
      obtain ⟨x1, hx1, h⟩ := h
      replace h := Option.bind_eq_some_iff.mp h
      obtain ⟨⟨x2, ps⟩, hx2, h⟩ := h
      simp only at h
      have HX := Aside0.mk hx
      have HX1 := Aside0.mk hx1
      have HX2 := Aside0.mk hx2
      have H' := Aside0.mk h
      clear hx hx1 hx2 h c2
      go_enter Try.func23, Try.ntmps23
      go_wp2_with (first
        | (go_at_call 13; (with_reducible refine (linear_Right.calls _ _ l0 true _ ?side1 HC0.out HT.out).mono ?_); (case side1 => exact HR0.out); rintro e w1 ⟨rfl, hb⟩; have HB1 := Aside0.mk hb; clear hb)
        | (go_at_call 25; (with_reducible refine (linear_width.calls _ _ l0 wd _ ?side1 HC0.out HW.out).mono ?_); (case side1 => exact Kd.C_below HR0.out HB1.out); rintro e w3 ⟨rfl, ⟨n3, rfl⟩⟩)
        | (go_at_call 24; (with_reducible refine (linear_clone.calls k _ _ l0 x0 _ ?side1 HC0.out HX.out).mono ?_); (case side1 => exact Kd.C_drewN (Kd.C_below HR0.out HB1.out) n3); rintro e w2 ⟨v0, rfl, ho, hb⟩; obtain ⟨A5, c5, e5⟩ := Kd.S_slice ho; subst e5; have HO2 := Aside0.mk ho; have HB2 := Aside0.mk hb; clear ho hb))
      obtain ⟨n0, hn0⟩ : ∃ n, x0.length = n := ⟨_, rfl⟩
      have HX1' := Aside0.mk (show linear_Inverse.a0 k (l0.length : Int) (n0 : Int) x0 0 = some x1 from by rw [← hn0]; exact HX1.out)
      have HS2 := Aside0.mk (Kd.S_lower HO2.out (show w.heap.size ≤ (w1.drewN n3).heap.size from HB1.out.size))
      rw [hn0] at HS2 ⊢
      have HBB := Aside0.mk (below_step (pw_below_drewN (below_step HB.out HB1.out) n3) HB2.out)
      clear hn0 HO2 HB HB1 HB2 HX1
      go_loopg [24] k (fun kq v24 w' => ∃ (x : List (List Int)) (i : Int), v24 = .int .i64 i ∧ Aside0 (linear_Inverse.a0 kq (l0.length : Int) (n0 : Int) x i = some x1) ∧ Aside0 (kq ≤ k) ∧ Aside0 (Kd.S (Kd.slice 5 (Kd.int .u8)) 23 w' w.heap.size (fun _ => True) (.slice A5 n0 c5) x) ∧ Aside0 (Below w.heap.size w w'))
      case atStart => exact ⟨x0, 0, rfl, HX1', ⟨Nat.le_refl _⟩, HS2, HBB⟩
      case round =>
        clear HX1' HS2 HBB
        obtain ⟨x, i, rfl, HA, HK1, HS, HB⟩ := hrel
        cases gk with
        | zero => exact absurd HA.out (by simp [linear_Inverse.a0])
        | succ k1 =>
          have H := HA.out
          clear HA
          simp only [linear_Inverse.a0] at H
          have hxn := (Kd.S_reads' HS.out).1
          by_cases t1 : i < (n0 : Int)
          · rw [if_pos t1] at H
            by_cases t2 : 0 ≤ i
            · rw [if_pos t2] at H
              by_cases t3 : i < (x.length : Int)
              · rw [if_pos t3] at H
                replace H := Option.bind_eq_some_iff.mp H
                obtain ⟨y, hy, H⟩ := H
                by_cases t4 : (rd_L1 x i).length + y.length < 140737488355328
                · rw [if_pos t4] at H
                  have HU := Aside0.mk hy
                  have H2 := Aside0.mk H
                  have HLM := Aside0.mk t4
                  have t1b : decide (i < (n0 : Int)) = true := decide_eq_true t1
                  obtain ⟨g, rfl⟩ : ∃ g, A5 = some ⟨g, 0, none⟩ := by
                    obtain ⟨ad, _, _, e1, _⟩ := at_L1 (Kd.S_reads' HS.out).2.2 i t2 t3
                    subst e1
                    obtain ⟨g, rfl⟩ := Kd.R_head (Kd.S_R HS.out)
                    exact ⟨g, rfl⟩
                  obtain ⟨ad, A6, c6, e1, hx6, hl6, hi6⟩ := at_L1 (Kd.S_reads' HS.out).2.2 i t2 t3
                  cases e1
                  rw [add_plain] at hx6
                  have h0i : 0 ≤ i := t2
                  have h1i : i < (n0 : Int) := t1
                  clear hy H hl6 hi6 t3 t4 hxn
                  replace t1 := eq_true t1
                  replace t2 := eq_true t2
                  go_wp2
                  refine start_ (n := 12) (S := fun w' => w'.cell? ⟨g, i.toNat, none⟩ = some (.slice A6 (rd_L1 x i).length c6)) (ds := [9, 11]) #[false, false, false, false, false, false, false, false, false, false, false, false] (by kernel_rfl) rfl rfl (hx6) (fun hHeld => ?_)
                  refine pure_ (i := 0) (N := some 27) (v := ?_) (a' := ?_) #[true, false, false, false, false, false, false, false, false, false, false, false] rfl rfl (by kernel_rfl) (fun _ _ _ h => h) (Or.inl ⟨by rfl, ?_⟩) ?_ ?_
                  rotate_left
                  · intro w'
                    go_simp
                    with_reducible rfl
                  rotate_left
                  · simp only [Act.put, List.setIfInBounds_toArray, List.set_cons_zero, List.set_cons_succ, i64_w, i32_w]
                    rfl
                  refine pure_ (i := 1) (N := some 28) (v := ?_) (a' := ?_) #[true, true, false, false, false, false, false, false, false, false, false, false] rfl rfl (by kernel_rfl) (fun _ _ _ h => h) (Or.inl ⟨by rfl, ?_⟩) ?_ ?_
                  rotate_left
                  · intro w'
                    go_simp
                    with_reducible rfl
                  rotate_left
                  · simp only [Act.put, List.setIfInBounds_toArray, List.set_cons_zero, List.set_cons_succ, i64_w, i32_w]
                    rfl
                  refine pure_ (i := 2) (N := some 29) (v := ?_) (a' := ?_) #[true, true, true, false, false, false, false, false, false, false, false, false] rfl rfl (by kernel_rfl) (fun _ _ _ h => h) (Or.inl ⟨by rfl, ?_⟩) ?_ ?_
                  rotate_left
                  · intro w'
                    go_simp
                    with_reducible rfl
                  rotate_left
                  · simp only [Act.put, List.setIfInBounds_toArray, List.set_cons_zero, List.set_cons_succ, i64_w, i32_w]
                    rfl
                  refine pure_ (i := 3) (N := some 30) (v := ?_) (a' := ?_) #[true, true, true, true, false, false, false, false, false, false, false, false] rfl rfl (by kernel_rfl) (fun _ _ _ h => h) (Or.inl ⟨by rfl, ?_⟩) ?_ ?_
                  rotate_left
                  · intro w'
                    go_simp
                    with_reducible rfl
                  rotate_left
                  · simp only [Act.put, List.setIfInBounds_toArray, List.set_cons_zero, List.set_cons_succ, i64_w, i32_w]
                    rfl
                  refine pure_ (i := 4) (N := some 31) (v := ?_) (a' := ?_) #[true, true, true, true, true, false, false, false, false, false, false, false] rfl rfl (by kernel_rfl) (fun _ _ _ h => h) (Or.inl ⟨by rfl, ?_⟩) ?_ ?_
                  rotate_left
                  · intro w'
                    go_simp
                    with_reducible rfl
                  rotate_left
                  · simp only [Act.put, List.setIfInBounds_toArray, List.set_cons_zero, List.set_cons_succ, i64_w, i32_w]
                    rfl
                  refine pure_ (i := 6) (N := some 33) (v := ?_) (a' := ?_) #[true, true, true, true, true, false, true, false, false, false, false, false] rfl rfl (by kernel_rfl) (fun _ _ _ h => h) (Or.inl ⟨by rfl, ?_⟩) ?_ ?_
                  rotate_left
                  · intro w'
                    go_simp
                    with_reducible rfl
                  rotate_left
                  · simp only [Act.put, List.setIfInBounds_toArray, List.set_cons_zero, List.set_cons_succ, i64_w, i32_w]
                    rfl
                  refine pure_ (i := 7) (N := some 34) (v := ?_) (a' := ?_) #[true, true, true, true, true, false, true, true, false, false, false, false] rfl rfl (by kernel_rfl) (fun _ _ _ h => h) (Or.inl ⟨by rfl, ?_⟩) ?_ ?_
                  rotate_left
                  · intro w'
                    go_simp
                    with_reducible rfl
                  rotate_left
                  · simp only [Act.put, List.setIfInBounds_toArray, List.set_cons_zero, List.set_cons_succ, i64_w, i32_w]
                    rfl
                  refine take_ (i := 5) (N := some 32) (v := ?_) (a' := ?_) #[true, true, true, true, true, true, true, true, false, false, false, false] rfl rfl (by kernel_rfl) (fun _ _ _ h => h) (Or.inl ⟨by rfl, ?_⟩) hHeld ?_ ?_
                  rotate_left
                  · intro w' s0
                    go_simp
                    with_reducible rfl
                  rotate_left
                  · simp only [Act.put, List.setIfInBounds_toArray, List.set_cons_zero, List.set_cons_succ, i64_w, i32_w]
                    rfl
                  refine one_ (i := 8) (N := some 35) #[true, true, true, true, true, true, true, true, true, false, false, false] rfl rfl (by kernel_rfl) (by decide) (fun K hK => ?_)
                  refine goes_ Try.func35 (by kernel_rfl) rfl #[.int .i64 (l0.length : Int), .int .i64 i] (by rfl) rfl rfl (by simp only [List.map_toArray, List.map_cons, List.map_nil]; rfl) ?_
                  with_reducible refine (linear_unit.calls _ _ y _ HU.out).mono ?_
                  rintro e w7 ⟨v7, rfl, ho7, hb7⟩
                  refine ⟨_, rfl, ?_⟩
                  obtain ⟨A7, c7, e7⟩ := Kd.R_slice ho7
                  subst e7
                  have HS7 := Aside0.mk (Kd.S_below (Kd.S_drew HS.out) hb7)
                  have HB7 := Aside0.mk (below_step (below_drew1 HB.out) hb7)
                  have hx7 : w7.cell? ⟨g, i.toNat, none⟩ = some (.slice A6 (rd_L1 x i).length c6) := (hb7.cell (World.block_lt_of_cell? _ _ hHeld)).trans hHeld
                  obtain ⟨oki, c, hcl, hM, hcc, hoki, hH⟩ := Kd.S_lend HS7.out [] i h0i h1i
                  obtain ⟨vv, rfl, hR⟩ := Mm.M_one hM
                  have hvv := hcc 0 vv rfl
                  simp only [Nat.add_zero, show (Kd.slice 5 (Kd.int .u8)).sz = 1 from rfl, Nat.mul_one] at hvv
                  obtain rfl : vv = .slice A6 (rd_L1 x i).length c6 := Option.some.inj (hvv.symm.trans hx7)
                  have HR := Aside0.mk (show Kd.R (Kd.int .u8) 5 w7 w.heap.size oki (.slice A6 (rd_L1 x i).length c6) (rd_L1 x i) from hR)
                  have HH := Aside0.mk (Kd.H_widen hH)
                  have HO7 := Aside0.mk ho7
                  clear hR hH hM hcc hcl hoki ho7
                  refine hK.out _ _ (hx7) (fun hHeld => ?_)
                  clear hK K
                  refine norm_ (a' := ?_) ?_ ?_
                  rotate_left
                  · show Act.put _ (some 35) _ = _
                    simp only [Act.put, List.setIfInBounds_toArray, List.set_cons_zero, List.set_cons_succ, i64_w, i32_w]
                    rfl
                  refine last_ (i := 9) (N := some 36) #[true, true, true, true, true, true, true, true, true, true, false, false] rfl rfl (by kernel_rfl) (by decide) (fun K hK => ?_)
                  refine Kd.R_append_rows_step (Kd.int .u8) (w0 := w) w.heap.size (by rfl) (.tmp 32) (.tmp 35) 23 5 (.int .u8 0) 1 rfl Try.underlying23 info5 rfl (by decide) (by omega) (.slice A6 (rd_L1 x i).length c6) (rd_L1 x i) y A7 y.length c7 (fun k => oki k ∨ True ∧ w7.heap.size ≤ k) (fun _ => False) rfl rfl (Kd.R_mono HR.out (fun _ hk => .inl hk)) (Kd.R_reads' HO7.out).2.2 (fun _ _ h => h) (fun _ h => h.elim) (fun _ hk => .inr ⟨trivial, hk⟩) HB7.out (below_size HB7.out) (by have := HLM.out; omega) ?_
                  intro v8 w8 ho8 hb8 hg8 _
                  obtain ⟨A8, c8, e8⟩ := Kd.R_slice ho8
                  subst e8
                  have HH8 := Aside0.mk (Kd.H_grown HH.out hg8 (fun k e => .inl (HR.out.1 k e)))
                  have HO8 := Aside0.mk ho8
                  have HB8 := Aside0.mk hb8
                  obtain ⟨hcq, hfq⟩ := Kd.H_at HH8.out h0i h1i
                  have hq : w8.cell? ⟨g, i.toNat, none⟩ = some (.slice A6 (rd_L1 x i).length c6) := by
                      have := hcq 0 _ rfl
                      simpa [show (Kd.slice 5 (Kd.int .u8)).sz = 1 from rfl] using this
                  have hfq' : w8.frozen? ⟨g, i.toNat, none⟩ = false := by
                      have := hfq 0
                      simpa [show (Kd.slice 5 (Kd.int .u8)).sz = 1 from rfl] using this
                  clear hcq hfq ho8 hb8 hg8
                  refine hK.out _ _ ?_
                  clear hK K
                  refine norm_ (a' := ?_) ?_ ?_
                  rotate_left
                  · show Act.put _ (some 36) _ = _
                    simp only [Act.put, List.setIfInBounds_toArray, List.set_cons_zero, List.set_cons_succ, i64_w, i32_w]
                    rfl
                  refine pure_ (i := 10) (N := some 37) (v := ?_) (a' := ?_) #[true, true, true, true, true, true, true, true, true, true, true, false] rfl rfl (by kernel_rfl) (fun _ _ _ h => h) (Or.inl ⟨by rfl, ?_⟩) ?_ ?_
                  rotate_left
                  · intro w'
                    go_simp
                    with_reducible rfl
                  rotate_left
                  · simp only [Act.put, List.setIfInBounds_toArray, List.set_cons_zero, List.set_cons_succ, i64_w, i32_w]
                    rfl
                  refine last_ (i := 11) (N := none) #[true, true, true, true, true, true, true, true, true, true, true, true] rfl rfl (by kernel_rfl) (by decide) (fun K hK => ?_)
                  refine skip_ (w1 := ?_) (by rfl) rfl ?_ ?_
                  rotate_left
                  · go_simp
                    rfl
                  refine hK.out _ _ ?_
                  clear hK K
                  refine done_ (by kernel_rfl) ?_


                  have HS9 := Aside0.mk (Mm.H_put HH8.out h0i h1i HO8.out).1
                  have HB9 := Aside0.mk (below_set (j := i.toNat) (v := .slice A8 (rd_L1 x i ++ y).length c8) HB8.out (Kd.S_base HS.out g rfl))
                  simp only [List.length_append] at HS9 HB9
                  go_wp2
                  go_roundg k1
                  case measure => have := HK1.out; omega
                  case rel => exact ⟨_, _, (by first | rfl | (simp; done) | (simp [*]; done)), H2, ⟨by have := HK1.out; omega⟩, HS9, HB9⟩
                · rw [if_neg t4] at H; exact absurd H (by simp)
              · rw [if_neg t3] at H; exact absurd H (by simp)
            · rw [if_neg t2] at H; exact absurd H (by simp)
          · rw [if_neg t1] at H
            have t1b : decide (i < (n0 : Int)) = false := decide_eq_false t1
            obtain rfl := Option.some.inj H
            clear H t1
            have HCx := Aside0.mk (Kd.S_reads' HS.out)
            have HN0 := Aside0.mk hxn
            clear hxn
            obtain ⟨A0', n0', c5', hval⟩ : ∃ A n c, (Value.slice A5 n0 c5) = .slice A n c := ⟨_, _, _, rfl⟩
            have HRD := Aside0.mk (linear_Reduce.calls k A5 c5 x (l0.length : Int) x2 ps wr (by exact (Kd.S_reads' HS.out).2.2) (by have := HN0.out; have := (Kd.S_reads' HS.out).2.1; omega) HX2.out)
            rw [← HN0.out] at HRD
            by_cases d1 : (ps.length : Int) < (l0.length : Int)
            · have hh := H'.out
              rw [if_pos d1] at hh
              obtain ⟨rfl, rfl⟩ := Prod.mk.inj (Option.some.inj hh)
              have d1b : decide ((ps.length : Int) < (l0.length : Int)) = true := decide_eq_true d1
              have d1c : decide (ps.length < l0.length) = true := decide_eq_true (by omega)
              clear hh d1
              go_wp2_with (first
                | (go_at_call 11; (with_reducible refine HRD.out.mono ?_); rintro e w5 ⟨v5, v6, rfl, hs, ho, hb⟩; obtain ⟨A9, c9, e9⟩ := Kd.S_slice hs; subst e9; obtain ⟨A10, c10, e10⟩ := Kd.R_slice ho; subst e10; have HB5 := Aside0.mk (below_step HB.out hb); clear hb))
              go_ret2
              exact ⟨_, rfl, Kd.V_mk (c := 0) (Nat.le_refl _) (Kd.F_nil _ _ _), HB5.out⟩
            · have hh := H'.out
              rw [if_neg d1] at hh
              replace hh := Option.bind_eq_some_iff.mp hh
              obtain ⟨x3, hx3, hh⟩ := hh
              obtain ⟨rfl, rfl⟩ := Prod.mk.inj (Option.some.inj hh)
              have d1b : decide ((ps.length : Int) < (l0.length : Int)) = false := decide_eq_false d1
              have d1c : decide (ps.length < l0.length) = false := decide_eq_false (by omega)
              have HX3 := Aside0.mk hx3
              clear hh d1 hx3
              go_wp2_with (first
                | (go_at_call 11; (with_reducible refine HRD.out.mono ?_); rintro e w5 ⟨v5, v6, rfl, hs, ho, hb⟩; obtain ⟨A9, c9, e9⟩ := Kd.S_slice hs; subst e9; obtain ⟨A10, c10, e10⟩ := Kd.R_slice ho; subst e10; have HN5 := Aside0.mk (Kd.N_mono (Kd.R_N (Kd.R_lower (Kd.R_bound (Kd.S_R hs)) HB.out.size)) (ok' := fun k_ => w.heap.size ≤ k_) (fun k_ hk => Nat.le_trans HB.out.size hk.2.1)); have HB5 := Aside0.mk (below_step HB.out hb); clear hb hs ho))
              obtain ⟨n2, hn2⟩ : ∃ n, x2.length = n := ⟨_, rfl⟩
              have HX3' := Aside0.mk (show linear_Inverse.b0 k (l0.length : Int) (n2 : Int) x2 0 = some x3 from by rw [← hn2]; exact HX3.out)
              rw [hn2] at HN5 ⊢
              clear hn2 HX3 HB HS HRD
              go_loopg [51] k (fun kq v51 w' => ∃ (x : List (List Int)) (i : Int), v51 = .int .i64 i ∧ Aside0 (linear_Inverse.b0 kq (l0.length : Int) (n2 : Int) x i = some x3) ∧ Aside0 (kq ≤ k) ∧ Aside0 (Kd.N (Kd.slice 5 (Kd.int .u8)) 23 w' w.heap.size (fun k_ => w.heap.size ≤ k_) (.slice A9 n2 c9) x) ∧ Aside0 (Below w.heap.size w w'))
              case atStart => exact ⟨x2, 0, rfl, HX3', ⟨Nat.le_refl _⟩, HN5, HB5⟩
              case round =>
                clear HX3' HN5 HB5
                obtain ⟨x, i, rfl, HA, HK2, HS, HB⟩ := hrel
                cases gk with
                | zero => exact absurd HA.out (by simp [linear_Inverse.b0])
                | succ k2 =>
                  have H := HA.out
                  clear HA
                  simp only [linear_Inverse.b0] at H
                  have hxn := (Kd.N_reads' HS.out).1
                  by_cases t1 : i < (n2 : Int)
                  · rw [if_pos t1] at H
                    by_cases t2 : 0 ≤ i
                    · rw [if_pos t2] at H
                      by_cases t3 : i < (x.length : Int)
                      · rw [if_pos t3] at H
                        by_cases t4 : (l0.length : Int) < ((rd_L1 x i).length : Int)
                        · rw [if_pos t4] at H
                          have H2 := Aside0.mk H
                          have t1b : decide (i < (n2 : Int)) = true := decide_eq_true t1
                          obtain ⟨ad, A6, c6, e1, hx6, hl6, hi6⟩ := at_L1 (Kd.N_reads' HS.out).2.2 i t2 t3
                          subst e1
                          obtain ⟨g, cap9, e9, hgb, _, _⟩ := Kd.N_form HS.out (by omega)
                          injection e9 with e9 e9b e9c
                          injection e9 with e9
                          subst e9
                          clear e9b e9c
                          rw [add_plain] at hx6
                          obtain ⟨ad6, e6, _⟩ := Kd.at_int hi6 0 (by omega) (by omega)
                          subst e6
                          obtain ⟨_, _, _, _, hfr⟩ := Kd.N_elem HS.out ([] : List Int) i t2 (by omega)
                          have hf6 : wr.frozen? ⟨g, i.toNat, none⟩ = false := by
                            have := hfr 0
                            simpa [show (Kd.slice 5 (Kd.int .u8)).sz = 1 from rfl] using this
                          have HNC := Aside0.mk (Mm.N_cut HS.out i.toNat (by omega) (show wr.cell? ⟨g, i.toNat, none⟩ = some (.slice (some ad6) (rd_L1 x i).length c6) from hx6) l0.length (show l0.length < (rd_L1 x i).length by omega)).1
                          have t4n : l0.length ≤ (rd_L1 x i).length := by omega
                          have t4m : l0.length < (rd_L1 x i).length := by omega
                          have t4c : (rd_L1 x i).length ≤ c6 := hl6
                          clear H hl6 hi6 t3 hxn hfr
                          replace t1 := eq_true t1
                          replace t2 := eq_true t2
                          go_wp2
                          have HB9 := Aside0.mk (below_set (j := i.toNat) (v := .slice (some (ad6.add l0.length)) ((rd_L1 x i).length - l0.length) (c6 - l0.length)) HB.out hgb)
                          have HN9 := Aside0.mk (show Kd.N (Kd.slice 5 (Kd.int .u8)) 23 (wr.setCell ⟨g, i.toNat, none⟩ (.slice (some (ad6.add l0.length)) ((rd_L1 x i).length - l0.length) (c6 - l0.length))) w.heap.size (fun k_ => w.heap.size ≤ k_) (.slice (some ⟨g, 0, none⟩) n2 c9) (x.set i.toNat ((rd_L1 x i).drop l0.length)) from by
                            have := HNC.out
                            rw [show l0.length * (Kd.int .u8).sz = l0.length from Nat.mul_one _] at this
                            exact this)
                          have H3 := Aside0.mk (show linear_Inverse.b0 k2 (l0.length : Int) (n2 : Int) (x.set i.toNat ((rd_L1 x i).drop l0.length)) (wrap64 (i + 1)) = some x3 from by
                            have := H2.out
                            rwa [Int.toNat_natCast] at this)
                          go_roundg k2
                          case measure => have := HK2.out; omega
                          case rel => exact ⟨_, _, (by first | rfl | (simp; done) | (simp [*]; done)), H3, ⟨by have := HK2.out; omega⟩, HN9, HB9⟩
                        · rw [if_neg t4] at H; exact absurd H (by simp)
                      · rw [if_neg t3] at H; exact absurd H (by simp)
                    · rw [if_neg t2] at H; exact absurd H (by simp)
                  · rw [if_neg t1] at H
                    have t1b : decide (i < (n2 : Int)) = false := decide_eq_false t1
                    obtain rfl := Option.some.inj H
                    clear H t1 hxn
                    go_wp2
                    go_ret2
                    exact ⟨_, rfl, Kd.N_V HS.out, HB.out⟩
    · rw [if_neg c2] at h
      obtain ⟨rfl, rfl⟩ := Prod.mk.inj (Option.some.inj h)
      have c2b : (wd == (l0.length : Int)) = false := by simpa using c2
      have c2c : (wd != (l0.length : Int)) = true := by simpa using c2
      clear h c2
      go_enter Try.func23, Try.ntmps23
      go_wp2_with (first
        | (go_at_call 13; (with_reducible refine (linear_Right.calls _ _ l0 true _ ?side1 HC0.out HT.out).mono ?_); (case side1 => exact HR0.out); rintro e w1 ⟨rfl, hb⟩; have HB1 := Aside0.mk hb; clear hb)
        | (go_at_call 25; (with_reducible refine (linear_width.calls _ _ l0 wd _ ?side1 HC0.out HW.out).mono ?_); (case side1 => exact Kd.C_below HR0.out HB1.out); rintro e w3 ⟨rfl, ⟨n3, rfl⟩⟩))
      go_ret2
      exact ⟨_, rfl, Kd.V_mk (c := 0) (Nat.le_refl _) (Kd.F_nil _ _ _), pw_below_drewN HB1.out n3⟩
  · rw [if_neg c1] at h
    obtain ⟨rfl, rfl⟩ := Prod.mk.inj (Option.some.inj h)
    have hf : t = false := by simpa using c1
    subst hf
    clear h
    go_enter Try.func23, Try.ntmps23
    go_wp2_with (first | (go_at_call 13; (with_reducible refine (linear_Right.calls _ _ l0 false _ ?side1 HC0.out HT.out).mono ?_); (case side1 => exact HR0.out); rintro e w1 ⟨rfl, hb⟩; have HB1 := Aside0.mk hb; clear hb))
    go_ret2
    exact ⟨_, rfl, Kd.V_mk (c := 0) (Nat.le_refl _) (Kd.F_nil _ _ _), HB1.out⟩
theorem linear_Inverse.mono_a0 : ∀ k, ∀ y0 y1 y2 y3, LeO (linear_Inverse.a0 k y0 y1 y2 y3) (linear_Inverse.a0 (k + 1) y0 y1 y2 y3)
  | 0 => fun _ _ _ _ r h => by simp [linear_Inverse.a0] at h
  | k + 1 => by
    have ih0 := linear_Inverse.mono_a0 k
    intro y0 y1 y2 y3
    unfold linear_Inverse.a0
    repeat' first
      | (with_reducible exact ih0 _ _ _ _)
      | (with_reducible exact LeO.refl _)
      | (with_reducible exact LeO.none _)
      | (with_reducible refine LeO.ite ?_ ?_)
      | (with_reducible refine LeO.bind ?_ (fun _ => ?_))
theorem linear_Inverse.mono_b0 : ∀ k, ∀ y0 y1 y2 y3, LeO (linear_Inverse.b0 k y0 y1 y2 y3) (linear_Inverse.b0 (k + 1) y0 y1 y2 y3)
  | 0 => fun _ _ _ _ r h => by simp [linear_Inverse.b0] at h
  | k + 1 => by
    have ih0 := linear_Inverse.mono_b0 k
    intro y0 y1 y2 y3
    unfold linear_Inverse.b0
    repeat' first
      | (with_reducible exact ih0 _ _ _ _)
      | (with_reducible exact LeO.refl _)
      | (with_reducible exact LeO.none _)
      | (with_reducible refine LeO.ite ?_ ?_)
      | (with_reducible refine LeO.bind ?_ (fun _ => ?_))
theorem linear_Inverse.mono : ∀ a0 k, LeO (linear_Inverse.f k a0) (linear_Inverse.f (k + 1) a0) := by
  intro a0 k
  unfold linear_Inverse.f
  repeat' first
      | (with_reducible exact linear_Inverse.mono_a0 _ _ _ _ _)
      | (with_reducible exact linear_Inverse.mono_b0 _ _ _ _ _)
      | (with_reducible exact linear_clone.mono _ _)
      | (with_reducible exact linear_Reduce.mono _ _ _)
      | (with_reducible exact LeO.refl _)
      | (with_reducible exact LeO.none _)
      | (with_reducible refine LeO.ite ?_ ?_)
      | (with_reducible refine LeO.bind ?_ (fun _ => ?_))

/-! ### footlockerlaw03_alive: function 9 -/
def footlockerlaw03_alive.f (k : Nat)  : Option (Bool) := (some (([(([1, 1] : List Int)), (([1, 2] : List Int))] : List (List Int)) : List (List Int))).bind fun y178 => ((linear_Solve.f k y178 (([3, 0] : List Int))).bind fun bt184 => ((linear_Solve.f k (([(([1] : List Int)), (([1] : List Int))] : List (List Int))) (([1, 2] : List Int))).bind fun bt200 => ((linear_Inverse.f k y178).bind fun bt204 => ((linear_Reduce.f k y178 2).bind fun bt208 => (if (bt184.1.length : Int) = 2 then (if (bt204.1.length : Int) = 2 then (if (bt208.1.length : Int) = 2 then (if bt184.2 = true then (if (strOfNums bt184.1).toList = ([2, 1] : List UInt8) then (if bt200.2 = true then (none) else (if bt204.2 = true then (if (bt208.2.length : Int) = 2 then ((linear_Rank.f k y178).bind fun t214 => (if t214 = 2 then ((linear_Right.f y178).bind fun t215 => (if t215 = true then ((linear_Right.f (([(([1] : List Int)), (([] : List Int))] : List (List Int)))).bind fun t225 => (if t225 = true then (none) else ((linear_Times.f k y178 bt184.1).bind fun t226 => (some ((strOfNums t226).toList == ([3, 0] : List UInt8)))))) else (none))) else (none))) else (none)) else (none))) else (none)) else (none)) else (none)) else (none)) else (none))))))
theorem footlockerlaw03_alive.mono : ∀ k, LeO (footlockerlaw03_alive.f k ) (footlockerlaw03_alive.f (k + 1) ) := by
  intro  k
  unfold footlockerlaw03_alive.f
  repeat' first
      | (with_reducible exact linear_Inverse.mono _ _)
      | (with_reducible exact linear_Rank.mono _ _)
      | (with_reducible exact linear_Reduce.mono _ _ _)
      | (with_reducible exact linear_Solve.mono _ _ _)
      | (with_reducible exact linear_Times.mono _ _ _)
      | (with_reducible exact LeO.refl _)
      | (with_reducible exact LeO.none _)
      | (with_reducible refine LeO.ite ?_ ?_)
      | (with_reducible refine LeO.bind ?_ (fun _ => ?_))
      | exact linear_Inverse.mono _ _
      | exact linear_Rank.mono _ _
      | exact linear_Reduce.mono _ _ _
      | exact linear_Solve.mono _ _ _
      | exact linear_Times.mono _ _ _
      | exact LeO.none _
      | refine LeO.ite ?_ ?_
      | refine LeO.bind ?_ (fun _ => ?_)
set_option maxHeartbeats 8000000 in
set_option maxRecDepth 100000 in
theorem footlockerlaw03_alive.calls (k : Nat)  (r : Bool) (w : World) (h : footlockerlaw03_alive.f k  = some r) :
    Calls Try.prog 9 #[] w fun e w' => e = .returned (.bool r) ∧ Below w.heap.size w w' := by
  have HB := Aside0.mk (Below.refl w.heap.size w)
  have H : ((some (([(([1, 1] : List Int)), (([1, 2] : List Int))] : List (List Int)) : List (List Int))).bind fun y178 => ((linear_Solve.f k y178 (([3, 0] : List Int))).bind fun bt184 => ((linear_Solve.f k (([(([1] : List Int)), (([1] : List Int))] : List (List Int))) (([1, 2] : List Int))).bind fun bt200 => ((linear_Inverse.f k y178).bind fun bt204 => ((linear_Reduce.f k y178 2).bind fun bt208 => (if (bt184.1.length : Int) = 2 then (if (bt204.1.length : Int) = 2 then (if (bt208.1.length : Int) = 2 then (if bt184.2 = true then (if (strOfNums bt184.1).toList = ([2, 1] : List UInt8) then (if bt200.2 = true then (none) else (if bt204.2 = true then (if (bt208.2.length : Int) = 2 then ((linear_Rank.f k y178).bind fun t214 => (if t214 = 2 then ((linear_Right.f y178).bind fun t215 => (if t215 = true then ((linear_Right.f (([(([1] : List Int)), (([] : List Int))] : List (List Int)))).bind fun t225 => (if t225 = true then (none) else ((linear_Times.f k y178 bt184.1).bind fun t226 => (some ((strOfNums t226).toList == ([3, 0] : List UInt8)))))) else (none))) else (none))) else (none)) else (none))) else (none)) else (none)) else (none)) else (none)) else (none))))))) = some r := h
  clear h
  obtain ⟨y172, hy172⟩ : ∃ y_ : List Int, y_ = (([1, 1] : List Int)) := ⟨_, rfl⟩
  replace H : ((some (([y172, (([1, 2] : List Int))] : List (List Int)) : List (List Int))).bind fun y178 => ((linear_Solve.f k y178 (([3, 0] : List Int))).bind fun bt184 => ((linear_Solve.f k (([(([1] : List Int)), (([1] : List Int))] : List (List Int))) (([1, 2] : List Int))).bind fun bt200 => ((linear_Inverse.f k y178).bind fun bt204 => ((linear_Reduce.f k y178 2).bind fun bt208 => (if (bt184.1.length : Int) = 2 then (if (bt204.1.length : Int) = 2 then (if (bt208.1.length : Int) = 2 then (if bt184.2 = true then (if (strOfNums bt184.1).toList = ([2, 1] : List UInt8) then (if bt200.2 = true then (none) else (if bt204.2 = true then (if (bt208.2.length : Int) = 2 then ((linear_Rank.f k y178).bind fun t214 => (if t214 = 2 then ((linear_Right.f y178).bind fun t215 => (if t215 = true then ((linear_Right.f (([(([1] : List Int)), (([] : List Int))] : List (List Int)))).bind fun t225 => (if t225 = true then (none) else ((linear_Times.f k y178 bt184.1).bind fun t226 => (some ((strOfNums t226).toList == ([3, 0] : List UInt8)))))) else (none))) else (none))) else (none)) else (none))) else (none)) else (none)) else (none)) else (none)) else (none))))))) = some r := by first | (rw [hy172]; with_reducible exact H) | (have H2_ := (Option.bind_some _ _).symm.trans H; rw [hy172]; with_reducible exact H2_) | (have H2_ := (Option.bind_some _ _).symm.trans H; with_reducible exact H2_) | with_reducible exact H | (rw [hy172]; exact H) | exact H
  have Ny172 := Aside0.mk hy172
  clear hy172
  obtain ⟨y175, hy175⟩ : ∃ y_ : List Int, y_ = (([1, 2] : List Int)) := ⟨_, rfl⟩
  replace H : ((some (([y172, y175] : List (List Int)) : List (List Int))).bind fun y178 => ((linear_Solve.f k y178 (([3, 0] : List Int))).bind fun bt184 => ((linear_Solve.f k (([(([1] : List Int)), (([1] : List Int))] : List (List Int))) (([1, 2] : List Int))).bind fun bt200 => ((linear_Inverse.f k y178).bind fun bt204 => ((linear_Reduce.f k y178 2).bind fun bt208 => (if (bt184.1.length : Int) = 2 then (if (bt204.1.length : Int) = 2 then (if (bt208.1.length : Int) = 2 then (if bt184.2 = true then (if (strOfNums bt184.1).toList = ([2, 1] : List UInt8) then (if bt200.2 = true then (none) else (if bt204.2 = true then (if (bt208.2.length : Int) = 2 then ((linear_Rank.f k y178).bind fun t214 => (if t214 = 2 then ((linear_Right.f y178).bind fun t215 => (if t215 = true then ((linear_Right.f (([(([1] : List Int)), (([] : List Int))] : List (List Int)))).bind fun t225 => (if t225 = true then (none) else ((linear_Times.f k y178 bt184.1).bind fun t226 => (some ((strOfNums t226).toList == ([3, 0] : List UInt8)))))) else (none))) else (none))) else (none)) else (none))) else (none)) else (none)) else (none)) else (none)) else (none))))))) = some r := by first | (rw [hy175]; with_reducible exact H) | (have H2_ := (Option.bind_some _ _).symm.trans H; rw [hy175]; with_reducible exact H2_) | (have H2_ := (Option.bind_some _ _).symm.trans H; with_reducible exact H2_) | with_reducible exact H | (rw [hy175]; exact H) | exact H
  have Ny175 := Aside0.mk hy175
  clear hy175
  obtain ⟨y178, hy178⟩ : ∃ y_ : List (List Int), y_ = (([y172, y175] : List (List Int))) := ⟨_, rfl⟩
  replace H : ((linear_Solve.f k y178 (([3, 0] : List Int))).bind fun bt184 => ((linear_Solve.f k (([(([1] : List Int)), (([1] : List Int))] : List (List Int))) (([1, 2] : List Int))).bind fun bt200 => ((linear_Inverse.f k y178).bind fun bt204 => ((linear_Reduce.f k y178 2).bind fun bt208 => (if (bt184.1.length : Int) = 2 then (if (bt204.1.length : Int) = 2 then (if (bt208.1.length : Int) = 2 then (if bt184.2 = true then (if (strOfNums bt184.1).toList = ([2, 1] : List UInt8) then (if bt200.2 = true then (none) else (if bt204.2 = true then (if (bt208.2.length : Int) = 2 then ((linear_Rank.f k y178).bind fun t214 => (if t214 = 2 then ((linear_Right.f y178).bind fun t215 => (if t215 = true then ((linear_Right.f (([(([1] : List Int)), (([] : List Int))] : List (List Int)))).bind fun t225 => (if t225 = true then (none) else ((linear_Times.f k y178 bt184.1).bind fun t226 => (some ((strOfNums t226).toList == ([3, 0] : List UInt8)))))) else (none))) else (none))) else (none)) else (none))) else (none)) else (none)) else (none)) else (none)) else (none)))))) = some r := by first | (rw [hy178]; with_reducible exact H) | (have H2_ := (Option.bind_some _ _).symm.trans H; rw [hy178]; with_reducible exact H2_) | (have H2_ := (Option.bind_some _ _).symm.trans H; with_reducible exact H2_) | with_reducible exact H | (rw [hy178]; exact H) | exact H
  have Ny178 := Aside0.mk hy178
  clear hy178
  obtain ⟨y181, hy181⟩ : ∃ y_ : List Int, y_ = (([3, 0] : List Int)) := ⟨_, rfl⟩
  replace H : ((linear_Solve.f k y178 y181).bind fun bt184 => ((linear_Solve.f k (([(([1] : List Int)), (([1] : List Int))] : List (List Int))) (([1, 2] : List Int))).bind fun bt200 => ((linear_Inverse.f k y178).bind fun bt204 => ((linear_Reduce.f k y178 2).bind fun bt208 => (if (bt184.1.length : Int) = 2 then (if (bt204.1.length : Int) = 2 then (if (bt208.1.length : Int) = 2 then (if bt184.2 = true then (if (strOfNums bt184.1).toList = ([2, 1] : List UInt8) then (if bt200.2 = true then (none) else (if bt204.2 = true then (if (bt208.2.length : Int) = 2 then ((linear_Rank.f k y178).bind fun t214 => (if t214 = 2 then ((linear_Right.f y178).bind fun t215 => (if t215 = true then ((linear_Right.f (([(([1] : List Int)), (([] : List Int))] : List (List Int)))).bind fun t225 => (if t225 = true then (none) else ((linear_Times.f k y178 bt184.1).bind fun t226 => (some ((strOfNums t226).toList == ([3, 0] : List UInt8)))))) else (none))) else (none))) else (none)) else (none))) else (none)) else (none)) else (none)) else (none)) else (none)))))) = some r := by first | (rw [hy181]; with_reducible exact H) | (have H2_ := (Option.bind_some _ _).symm.trans H; rw [hy181]; with_reducible exact H2_) | (have H2_ := (Option.bind_some _ _).symm.trans H; with_reducible exact H2_) | with_reducible exact H | (rw [hy181]; exact H) | exact H
  have Ny181 := Aside0.mk hy181
  clear hy181
  replace H := Option.bind_eq_some_iff.mp H
  obtain ⟨⟨t184, t185⟩, A10, H⟩ := H
  replace H : ((linear_Solve.f k (([(([1] : List Int)), (([1] : List Int))] : List (List Int))) (([1, 2] : List Int))).bind fun bt200 => ((linear_Inverse.f k y178).bind fun bt204 => ((linear_Reduce.f k y178 2).bind fun bt208 => (if (t184.length : Int) = 2 then (if (bt204.1.length : Int) = 2 then (if (bt208.1.length : Int) = 2 then (if t185 = true then (if (strOfNums t184).toList = ([2, 1] : List UInt8) then (if bt200.2 = true then (none) else (if bt204.2 = true then (if (bt208.2.length : Int) = 2 then ((linear_Rank.f k y178).bind fun t214 => (if t214 = 2 then ((linear_Right.f y178).bind fun t215 => (if t215 = true then ((linear_Right.f (([(([1] : List Int)), (([] : List Int))] : List (List Int)))).bind fun t225 => (if t225 = true then (none) else ((linear_Times.f k y178 t184).bind fun t226 => (some ((strOfNums t226).toList == ([3, 0] : List UInt8)))))) else (none))) else (none))) else (none)) else (none))) else (none)) else (none)) else (none)) else (none)) else (none))))) = some r := H
  have A1 := Aside0.mk A10
  clear A10
  obtain ⟨y188, hy188⟩ : ∃ y_ : List Int, y_ = (([1] : List Int)) := ⟨_, rfl⟩
  replace H : ((linear_Solve.f k (([y188, (([1] : List Int))] : List (List Int))) (([1, 2] : List Int))).bind fun bt200 => ((linear_Inverse.f k y178).bind fun bt204 => ((linear_Reduce.f k y178 2).bind fun bt208 => (if (t184.length : Int) = 2 then (if (bt204.1.length : Int) = 2 then (if (bt208.1.length : Int) = 2 then (if t185 = true then (if (strOfNums t184).toList = ([2, 1] : List UInt8) then (if bt200.2 = true then (none) else (if bt204.2 = true then (if (bt208.2.length : Int) = 2 then ((linear_Rank.f k y178).bind fun t214 => (if t214 = 2 then ((linear_Right.f y178).bind fun t215 => (if t215 = true then ((linear_Right.f (([(([1] : List Int)), (([] : List Int))] : List (List Int)))).bind fun t225 => (if t225 = true then (none) else ((linear_Times.f k y178 t184).bind fun t226 => (some ((strOfNums t226).toList == ([3, 0] : List UInt8)))))) else (none))) else (none))) else (none)) else (none))) else (none)) else (none)) else (none)) else (none)) else (none))))) = some r := by first | (rw [hy188]; with_reducible exact H) | (have H2_ := (Option.bind_some _ _).symm.trans H; rw [hy188]; with_reducible exact H2_) | (have H2_ := (Option.bind_some _ _).symm.trans H; with_reducible exact H2_) | with_reducible exact H | (rw [hy188]; exact H) | exact H
  have Ny188 := Aside0.mk hy188
  clear hy188
  obtain ⟨y191, hy191⟩ : ∃ y_ : List Int, y_ = (([1] : List Int)) := ⟨_, rfl⟩
  replace H : ((linear_Solve.f k (([y188, y191] : List (List Int))) (([1, 2] : List Int))).bind fun bt200 => ((linear_Inverse.f k y178).bind fun bt204 => ((linear_Reduce.f k y178 2).bind fun bt208 => (if (t184.length : Int) = 2 then (if (bt204.1.length : Int) = 2 then (if (bt208.1.length : Int) = 2 then (if t185 = true then (if (strOfNums t184).toList = ([2, 1] : List UInt8) then (if bt200.2 = true then (none) else (if bt204.2 = true then (if (bt208.2.length : Int) = 2 then ((linear_Rank.f k y178).bind fun t214 => (if t214 = 2 then ((linear_Right.f y178).bind fun t215 => (if t215 = true then ((linear_Right.f (([(([1] : List Int)), (([] : List Int))] : List (List Int)))).bind fun t225 => (if t225 = true then (none) else ((linear_Times.f k y178 t184).bind fun t226 => (some ((strOfNums t226).toList == ([3, 0] : List UInt8)))))) else (none))) else (none))) else (none)) else (none))) else (none)) else (none)) else (none)) else (none)) else (none))))) = some r := by first | (rw [hy191]; with_reducible exact H) | (have H2_ := (Option.bind_some _ _).symm.trans H; rw [hy191]; with_reducible exact H2_) | (have H2_ := (Option.bind_some _ _).symm.trans H; with_reducible exact H2_) | with_reducible exact H | (rw [hy191]; exact H) | exact H
  have Ny191 := Aside0.mk hy191
  clear hy191
  obtain ⟨y194, hy194⟩ : ∃ y_ : List (List Int), y_ = (([y188, y191] : List (List Int))) := ⟨_, rfl⟩
  replace H : ((linear_Solve.f k y194 (([1, 2] : List Int))).bind fun bt200 => ((linear_Inverse.f k y178).bind fun bt204 => ((linear_Reduce.f k y178 2).bind fun bt208 => (if (t184.length : Int) = 2 then (if (bt204.1.length : Int) = 2 then (if (bt208.1.length : Int) = 2 then (if t185 = true then (if (strOfNums t184).toList = ([2, 1] : List UInt8) then (if bt200.2 = true then (none) else (if bt204.2 = true then (if (bt208.2.length : Int) = 2 then ((linear_Rank.f k y178).bind fun t214 => (if t214 = 2 then ((linear_Right.f y178).bind fun t215 => (if t215 = true then ((linear_Right.f (([(([1] : List Int)), (([] : List Int))] : List (List Int)))).bind fun t225 => (if t225 = true then (none) else ((linear_Times.f k y178 t184).bind fun t226 => (some ((strOfNums t226).toList == ([3, 0] : List UInt8)))))) else (none))) else (none))) else (none)) else (none))) else (none)) else (none)) else (none)) else (none)) else (none))))) = some r := by first | (rw [hy194]; with_reducible exact H) | (have H2_ := (Option.bind_some _ _).symm.trans H; rw [hy194]; with_reducible exact H2_) | (have H2_ := (Option.bind_some _ _).symm.trans H; with_reducible exact H2_) | with_reducible exact H | (rw [hy194]; exact H) | exact H
  have Ny194 := Aside0.mk hy194
  clear hy194
  obtain ⟨y197, hy197⟩ : ∃ y_ : List Int, y_ = (([1, 2] : List Int)) := ⟨_, rfl⟩
  replace H : ((linear_Solve.f k y194 y197).bind fun bt200 => ((linear_Inverse.f k y178).bind fun bt204 => ((linear_Reduce.f k y178 2).bind fun bt208 => (if (t184.length : Int) = 2 then (if (bt204.1.length : Int) = 2 then (if (bt208.1.length : Int) = 2 then (if t185 = true then (if (strOfNums t184).toList = ([2, 1] : List UInt8) then (if bt200.2 = true then (none) else (if bt204.2 = true then (if (bt208.2.length : Int) = 2 then ((linear_Rank.f k y178).bind fun t214 => (if t214 = 2 then ((linear_Right.f y178).bind fun t215 => (if t215 = true then ((linear_Right.f (([(([1] : List Int)), (([] : List Int))] : List (List Int)))).bind fun t225 => (if t225 = true then (none) else ((linear_Times.f k y178 t184).bind fun t226 => (some ((strOfNums t226).toList == ([3, 0] : List UInt8)))))) else (none))) else (none))) else (none)) else (none))) else (none)) else (none)) else (none)) else (none)) else (none))))) = some r := by first | (rw [hy197]; with_reducible exact H) | (have H2_ := (Option.bind_some _ _).symm.trans H; rw [hy197]; with_reducible exact H2_) | (have H2_ := (Option.bind_some _ _).symm.trans H; with_reducible exact H2_) | with_reducible exact H | (rw [hy197]; exact H) | exact H
  have Ny197 := Aside0.mk hy197
  clear hy197
  replace H := Option.bind_eq_some_iff.mp H
  obtain ⟨⟨t200, t201⟩, A20, H⟩ := H
  replace H : ((linear_Inverse.f k y178).bind fun bt204 => ((linear_Reduce.f k y178 2).bind fun bt208 => (if (t184.length : Int) = 2 then (if (bt204.1.length : Int) = 2 then (if (bt208.1.length : Int) = 2 then (if t185 = true then (if (strOfNums t184).toList = ([2, 1] : List UInt8) then (if t201 = true then (none) else (if bt204.2 = true then (if (bt208.2.length : Int) = 2 then ((linear_Rank.f k y178).bind fun t214 => (if t214 = 2 then ((linear_Right.f y178).bind fun t215 => (if t215 = true then ((linear_Right.f (([(([1] : List Int)), (([] : List Int))] : List (List Int)))).bind fun t225 => (if t225 = true then (none) else ((linear_Times.f k y178 t184).bind fun t226 => (some ((strOfNums t226).toList == ([3, 0] : List UInt8)))))) else (none))) else (none))) else (none)) else (none))) else (none)) else (none)) else (none)) else (none)) else (none)))) = some r := H
  have A2 := Aside0.mk A20
  clear A20
  replace H := Option.bind_eq_some_iff.mp H
  obtain ⟨⟨t204, t207⟩, A30, H⟩ := H
  replace H : ((linear_Reduce.f k y178 2).bind fun bt208 => (if (t184.length : Int) = 2 then (if (t204.length : Int) = 2 then (if (bt208.1.length : Int) = 2 then (if t185 = true then (if (strOfNums t184).toList = ([2, 1] : List UInt8) then (if t201 = true then (none) else (if t207 = true then (if (bt208.2.length : Int) = 2 then ((linear_Rank.f k y178).bind fun t214 => (if t214 = 2 then ((linear_Right.f y178).bind fun t215 => (if t215 = true then ((linear_Right.f (([(([1] : List Int)), (([] : List Int))] : List (List Int)))).bind fun t225 => (if t225 = true then (none) else ((linear_Times.f k y178 t184).bind fun t226 => (some ((strOfNums t226).toList == ([3, 0] : List UInt8)))))) else (none))) else (none))) else (none)) else (none))) else (none)) else (none)) else (none)) else (none)) else (none))) = some r := H
  have A3 := Aside0.mk A30
  clear A30
  replace H := Option.bind_eq_some_iff.mp H
  obtain ⟨⟨t208, t209⟩, A40, H⟩ := H
  replace H : (if (t184.length : Int) = 2 then (if (t204.length : Int) = 2 then (if (t208.length : Int) = 2 then (if t185 = true then (if (strOfNums t184).toList = ([2, 1] : List UInt8) then (if t201 = true then (none) else (if t207 = true then (if (t209.length : Int) = 2 then ((linear_Rank.f k y178).bind fun t214 => (if t214 = 2 then ((linear_Right.f y178).bind fun t215 => (if t215 = true then ((linear_Right.f (([(([1] : List Int)), (([] : List Int))] : List (List Int)))).bind fun t225 => (if t225 = true then (none) else ((linear_Times.f k y178 t184).bind fun t226 => (some ((strOfNums t226).toList == ([3, 0] : List UInt8)))))) else (none))) else (none))) else (none)) else (none))) else (none)) else (none)) else (none)) else (none)) else (none)) = some r := H
  have A4 := Aside0.mk A40
  clear A40
  by_cases c5 : (t184.length : Int) = 2
  · rw [if_pos c5] at H
    have c5b0 : ((t184.length : Int) == 2) = true := beq_iff_eq.mpr c5
    have c5b1 : ((t184.length : Int) != 2) = false := bne_eq_false_iff_eq.mpr c5
    clear c5
    by_cases c6 : (t204.length : Int) = 2
    · rw [if_pos c6] at H
      have c6b0 : ((t204.length : Int) == 2) = true := beq_iff_eq.mpr c6
      have c6b1 : ((t204.length : Int) != 2) = false := bne_eq_false_iff_eq.mpr c6
      clear c6
      by_cases c7 : (t208.length : Int) = 2
      · rw [if_pos c7] at H
        have c7b0 : ((t208.length : Int) == 2) = true := beq_iff_eq.mpr c7
        have c7b1 : ((t208.length : Int) != 2) = false := bne_eq_false_iff_eq.mpr c7
        clear c7
        by_cases c8 : t185 = true
        · subst c8
          have H1 : (if (strOfNums t184).toList = ([2, 1] : List UInt8) then (if t201 = true then (none) else (if t207 = true then (if (t209.length : Int) = 2 then ((linear_Rank.f k y178).bind fun t214 => (if t214 = 2 then ((linear_Right.f y178).bind fun t215 => (if t215 = true then ((linear_Right.f (([(([1] : List Int)), (([] : List Int))] : List (List Int)))).bind fun t225 => (if t225 = true then (none) else ((linear_Times.f k y178 t184).bind fun t226 => (some ((strOfNums t226).toList == ([3, 0] : List UInt8)))))) else (none))) else (none))) else (none)) else (none))) else (none)) = some r := by rw [if_pos rfl] at H; exact H
          clear H
          have H := H1
          clear H1
          by_cases c9 : (strOfNums t184).toList = ([2, 1] : List UInt8)
          · rw [if_pos c9] at H
            have c9b0 : ((strOfNums t184).toList == ([2, 1] : List UInt8)) = true := beq_iff_eq.mpr c9
            have c9b1 : ((strOfNums t184).toList != ([2, 1] : List UInt8)) = false := bne_eq_false_iff_eq.mpr c9
            clear c9
            by_cases c10 : t201 = true
            · subst c10
              have H1 : (none) = some r := by rw [if_pos rfl] at H; exact H
              clear H
              have H := H1
              clear H1
              exact absurd H (by simp)
            · replace c10 := Bool.eq_false_iff.mpr c10
              subst c10
              have H1 : (if t207 = true then (if (t209.length : Int) = 2 then ((linear_Rank.f k y178).bind fun t214 => (if t214 = 2 then ((linear_Right.f y178).bind fun t215 => (if t215 = true then ((linear_Right.f (([(([1] : List Int)), (([] : List Int))] : List (List Int)))).bind fun t225 => (if t225 = true then (none) else ((linear_Times.f k y178 t184).bind fun t226 => (some ((strOfNums t226).toList == ([3, 0] : List UInt8)))))) else (none))) else (none))) else (none)) else (none)) = some r := by rw [if_neg (show ¬ (false = true) by decide)] at H; exact H
              clear H
              have H := H1
              clear H1
              by_cases c11 : t207 = true
              · subst c11
                have H1 : (if (t209.length : Int) = 2 then ((linear_Rank.f k y178).bind fun t214 => (if t214 = 2 then ((linear_Right.f y178).bind fun t215 => (if t215 = true then ((linear_Right.f (([(([1] : List Int)), (([] : List Int))] : List (List Int)))).bind fun t225 => (if t225 = true then (none) else ((linear_Times.f k y178 t184).bind fun t226 => (some ((strOfNums t226).toList == ([3, 0] : List UInt8)))))) else (none))) else (none))) else (none)) = some r := by rw [if_pos rfl] at H; exact H
                clear H
                have H := H1
                clear H1
                by_cases c12 : (t209.length : Int) = 2
                · rw [if_pos c12] at H
                  have c12b0 : ((t209.length : Int) == 2) = true := beq_iff_eq.mpr c12
                  have c12b1 : ((t209.length : Int) != 2) = false := bne_eq_false_iff_eq.mpr c12
                  clear c12
                  replace H := Option.bind_eq_some_iff.mp H
                  obtain ⟨t214, A130, H⟩ := H
                  replace H : (if t214 = 2 then ((linear_Right.f y178).bind fun t215 => (if t215 = true then ((linear_Right.f (([(([1] : List Int)), (([] : List Int))] : List (List Int)))).bind fun t225 => (if t225 = true then (none) else ((linear_Times.f k y178 t184).bind fun t226 => (some ((strOfNums t226).toList == ([3, 0] : List UInt8)))))) else (none))) else (none)) = some r := H
                  have A13 := Aside0.mk A130
                  clear A130
                  by_cases c14 : t214 = 2
                  · rw [if_pos c14] at H
                    have c14b0 : (t214 == 2) = true := beq_iff_eq.mpr c14
                    have c14b1 : (t214 != 2) = false := bne_eq_false_iff_eq.mpr c14
                    clear c14
                    replace H := Option.bind_eq_some_iff.mp H
                    obtain ⟨t215, A150, H⟩ := H
                    replace H : (if t215 = true then ((linear_Right.f (([(([1] : List Int)), (([] : List Int))] : List (List Int)))).bind fun t225 => (if t225 = true then (none) else ((linear_Times.f k y178 t184).bind fun t226 => (some ((strOfNums t226).toList == ([3, 0] : List UInt8)))))) else (none)) = some r := H
                    have A15 := Aside0.mk A150
                    clear A150
                    by_cases c16 : t215 = true
                    · subst c16
                      have H1 : ((linear_Right.f (([(([1] : List Int)), (([] : List Int))] : List (List Int)))).bind fun t225 => (if t225 = true then (none) else ((linear_Times.f k y178 t184).bind fun t226 => (some ((strOfNums t226).toList == ([3, 0] : List UInt8)))))) = some r := by rw [if_pos rfl] at H; exact H
                      clear H
                      have H := H1
                      clear H1
                      obtain ⟨y216, hy216⟩ : ∃ y_ : List Int, y_ = (([1] : List Int)) := ⟨_, rfl⟩
                      replace H : ((linear_Right.f (([y216, (([] : List Int))] : List (List Int)))).bind fun t225 => (if t225 = true then (none) else ((linear_Times.f k y178 t184).bind fun t226 => (some ((strOfNums t226).toList == ([3, 0] : List UInt8)))))) = some r := by first | (rw [hy216]; with_reducible exact H) | (have H2_ := (Option.bind_some _ _).symm.trans H; rw [hy216]; with_reducible exact H2_) | (have H2_ := (Option.bind_some _ _).symm.trans H; with_reducible exact H2_) | with_reducible exact H | (rw [hy216]; exact H) | exact H
                      have Ny216 := Aside0.mk hy216
                      clear hy216
                      obtain ⟨y219, hy219⟩ : ∃ y_ : List Int, y_ = (([] : List Int)) := ⟨_, rfl⟩
                      replace H : ((linear_Right.f (([y216, y219] : List (List Int)))).bind fun t225 => (if t225 = true then (none) else ((linear_Times.f k y178 t184).bind fun t226 => (some ((strOfNums t226).toList == ([3, 0] : List UInt8)))))) = some r := by first | (rw [hy219]; with_reducible exact H) | (have H2_ := (Option.bind_some _ _).symm.trans H; rw [hy219]; with_reducible exact H2_) | (have H2_ := (Option.bind_some _ _).symm.trans H; with_reducible exact H2_) | with_reducible exact H | (rw [hy219]; exact H) | exact H
                      have Ny219 := Aside0.mk hy219
                      clear hy219
                      obtain ⟨y222, hy222⟩ : ∃ y_ : List (List Int), y_ = (([y216, y219] : List (List Int))) := ⟨_, rfl⟩
                      replace H : ((linear_Right.f y222).bind fun t225 => (if t225 = true then (none) else ((linear_Times.f k y178 t184).bind fun t226 => (some ((strOfNums t226).toList == ([3, 0] : List UInt8)))))) = some r := by first | (rw [hy222]; with_reducible exact H) | (have H2_ := (Option.bind_some _ _).symm.trans H; rw [hy222]; with_reducible exact H2_) | (have H2_ := (Option.bind_some _ _).symm.trans H; with_reducible exact H2_) | with_reducible exact H | (rw [hy222]; exact H) | exact H
                      have Ny222 := Aside0.mk hy222
                      clear hy222
                      replace H := Option.bind_eq_some_iff.mp H
                      obtain ⟨t225, A170, H⟩ := H
                      replace H : (if t225 = true then (none) else ((linear_Times.f k y178 t184).bind fun t226 => (some ((strOfNums t226).toList == ([3, 0] : List UInt8))))) = some r := H
                      have A17 := Aside0.mk A170
                      clear A170
                      by_cases c18 : t225 = true
                      · subst c18
                        have H1 : (none) = some r := by rw [if_pos rfl] at H; exact H
                        clear H
                        have H := H1
                        clear H1
                        exact absurd H (by simp)
                      · replace c18 := Bool.eq_false_iff.mpr c18
                        subst c18
                        have H1 : ((linear_Times.f k y178 t184).bind fun t226 => (some ((strOfNums t226).toList == ([3, 0] : List UInt8)))) = some r := by rw [if_neg (show ¬ (false = true) by decide)] at H; exact H
                        clear H
                        have H := H1
                        clear H1
                        replace H := Option.bind_eq_some_iff.mp H
                        obtain ⟨t226, A190, H⟩ := H
                        replace H : (some ((strOfNums t226).toList == ([3, 0] : List UInt8))) = some r := H
                        have A19 := Aside0.mk A190
                        clear A190
                        obtain rfl := Option.some.inj H
                        go_enter Try.func9, Try.ntmps9
                        go_wp2_with (first | ((with_reducible refine gate_dst (N := 10) rfl ?_); (try (refine gate_guard (by rfl) ?_; dsimp only)); refine Kd.R_lit (Kd.int .u8) _ 5 ?hg (N := 10) ?hd (xs := ([1, 1] : List Int)) (inner := [.int .u8 1, .int .u8 1]) (ok := fun _ => True) (okp := fun _ => True) ?hr ?hp (fun _ hk => hk) trivial (Below.refl _ _) (Nat.le_refl _) (by simp) ?_; (case hd => rfl); (case hg => rfl); (case hr => first | (go_simp; done) | (go_simp; rfl)); (case hp => exact (Reps.one (show Kd.M (Kd.int .u8) _ _ _ 1 [.int .u8 1] from rfl) (Reps.one (show Kd.M (Kd.int .u8) _ _ _ 1 [.int .u8 1] from rfl) (Reps.none _ _)))); intro v173 w20 ho21 hb hg_ hnew_; clear hg_ hnew_; (first | rw [← Ny172.out] at ho21 | (simp only [Int.reduceToNat] at ho21; rw [← Ny172.out] at ho21)); have n0_ := Aside0.mk (Kd.R_lower ho21 (below_size (by repeat (first | (with_reducible first | exact HB.out | apply below_alloc | apply pw_below_drewN | apply below_drew1) | exact HB.out)))); have n1_ := Aside0.mk (below_step (by repeat (first | (with_reducible first | exact HB.out | apply below_alloc | apply pw_below_drewN | apply below_drew1) | exact HB.out)) hb); clear HB; have HO174 := n0_; have HB := n1_; clear n0_ n1_; clear hb ho21) | ((with_reducible refine gate_dst (N := 11) rfl ?_); (try (refine gate_guard (by rfl) ?_; dsimp only)); refine Kd.R_lit (Kd.int .u8) _ 5 ?hg (N := 11) ?hd (xs := ([1, 2] : List Int)) (inner := [.int .u8 1, .int .u8 2]) (ok := fun _ => True) (okp := fun _ => True) ?hr ?hp (fun _ hk => hk) trivial (Below.refl _ _) (Nat.le_refl _) (by simp) ?_; (case hd => rfl); (case hg => rfl); (case hr => first | (go_simp; done) | (go_simp; rfl)); (case hp => exact (Reps.one (show Kd.M (Kd.int .u8) _ _ _ 1 [.int .u8 1] from rfl) (Reps.one (show Kd.M (Kd.int .u8) _ _ _ 2 [.int .u8 2] from rfl) (Reps.none _ _)))); intro v176 w22 ho23 hb hg_ hnew_; clear hg_ hnew_; (first | rw [← Ny175.out] at ho23 | (simp only [Int.reduceToNat] at ho23; rw [← Ny175.out] at ho23)); have n0_ := Aside0.mk (Kd.R_elder' (by (with_reducible repeat (first | apply Kd.R_alloc | apply Kd.R_drewN | apply Kd.R_drew)); exact HO174.out) (Kd.R_base ho23) hb); have n1_ := Aside0.mk (Kd.R_lower (Kd.R_new' ho23 (Kd.R_lt (by (with_reducible repeat (first | apply Kd.R_alloc | apply Kd.R_drewN | apply Kd.R_drew)); exact HO174.out))) (below_size (by repeat (first | (with_reducible first | exact HB.out | apply below_alloc | apply pw_below_drewN | apply below_drew1) | exact HB.out)))); have n2_ := Aside0.mk (below_step (by repeat (first | (with_reducible first | exact HB.out | apply below_alloc | apply pw_below_drewN | apply below_drew1) | exact HB.out)) hb); clear HO174; clear HB; have HO174 := n0_; have HO177 := n1_; have HB := n2_; clear n0_ n1_ n2_; clear hb ho23; obtain ⟨Ao24, co24, eo24⟩ := Kd.R_slice HO174.out; subst eo24; obtain ⟨Ao25, co25, eo25⟩ := Kd.R_slice HO177.out; subst eo25) | ((with_reducible refine gate_dst (N := 12) rfl ?_); (try (refine gate_guard (by rfl) ?_; dsimp only)); refine Kd.N_lit (Kd.slice 5 (Kd.int .u8)) _ 23 ?hg (N' := 12) ?hd (xs := ([y172, y175] : List (List Int))) (inner := [.slice Ao24 y172.length co24, .slice Ao25 y175.length co25]) (ok := (fun _ => True)) (okp := (fun _ => True)) ?hr ?hp (fun _ hk => hk) ((show ∀ k_, w22.heap.size ≤ k_ → (fun _ => True) k_ from fun k_ hk => trivial) _ (Nat.le_refl _)) (Below.refl _ _) (Nat.le_refl _) (by simp) ?_; (case hd => rfl); (case hg => rfl); (case hr => first | (go_simp; done) | (go_simp; rfl)); (case hp => exact (Reps.one (show Kd.FK (Kd.slice 5 (Kd.int .u8)) _ _ y172 [.slice Ao24 y172.length co24] from (Kd.FK_slice_mk (Kd.R_reads' (Kd.R_mono (ok' := (fun _ => True)) (HO174.out) (fun k_ hk => trivial))).2.1 (Kd.R_F (Kd.R_mono (ok' := (fun _ => True)) (HO174.out) (fun k_ hk => trivial))))) (Reps.one (show Kd.FK (Kd.slice 5 (Kd.int .u8)) _ _ y175 [.slice Ao25 y175.length co25] from (Kd.FK_slice_mk (Kd.R_reads' (Kd.R_mono (ok' := (fun _ => True)) (HO177.out) (fun k_ hk => trivial))).2.1 (Kd.R_F (Kd.R_mono (ok' := (fun _ => True)) (HO177.out) (fun k_ hk => trivial))))) (Reps.none _ _)))); intro v179 w26 ho27 hb hg_ hnew_; clear hg_ hnew_; (first | rw [← Ny178.out] at ho27 | (simp only [Int.reduceToNat] at ho27; rw [← Ny178.out] at ho27)); have n0_ := Aside0.mk (Kd.N_lower ho27 (below_size (by repeat (first | (with_reducible first | exact HB.out | apply below_alloc | apply pw_below_drewN | apply below_drew1) | exact HB.out)))); have n1_ := Aside0.mk (below_step (by repeat (first | (with_reducible first | exact HB.out | apply below_alloc | apply pw_below_drewN | apply below_drew1) | exact HB.out)) hb); clear HB; clear HO174; clear HO177; have HO180 := n0_; have HB := n1_; clear n0_ n1_; clear hb ho27) | ((with_reducible refine gate_dst (N := 15) rfl ?_); (try (refine gate_guard (by rfl) ?_; dsimp only)); refine Kd.R_lit (Kd.int .u8) _ 5 ?hg (N := 15) ?hd (xs := ([3, 0] : List Int)) (inner := [.int .u8 3, .int .u8 0]) (ok := fun _ => True) (okp := fun _ => True) ?hr ?hp (fun _ hk => hk) trivial (Below.refl _ _) (Nat.le_refl _) (by simp) ?_; (case hd => rfl); (case hg => rfl); (case hr => first | (go_simp; done) | (go_simp; rfl)); (case hp => exact (Reps.one (show Kd.M (Kd.int .u8) _ _ _ 3 [.int .u8 3] from rfl) (Reps.one (show Kd.M (Kd.int .u8) _ _ _ 0 [.int .u8 0] from rfl) (Reps.none _ _)))); intro v182 w28 ho29 hb hg_ hnew_; clear hg_ hnew_; (first | rw [← Ny181.out] at ho29 | (simp only [Int.reduceToNat] at ho29; rw [← Ny181.out] at ho29)); have n0_ := Aside0.mk (Kd.N_elder' (by (with_reducible repeat (first | apply Kd.N_alloc | apply Kd.N_drewN | apply Kd.N_drew)); exact HO180.out) (Kd.R_base ho29) hb); have n1_ := Aside0.mk (Kd.R_lower ho29 (below_size (by repeat (first | (with_reducible first | exact HB.out | apply below_alloc | apply pw_below_drewN | apply below_drew1) | exact HB.out)))); have n2_ := Aside0.mk (below_step (by repeat (first | (with_reducible first | exact HB.out | apply below_alloc | apply pw_below_drewN | apply below_drew1) | exact HB.out)) hb); clear HO180; clear HB; have HO180 := n0_; have HO183 := n1_; have HB := n2_; clear n0_ n1_ n2_; clear hb ho29; obtain ⟨Ao30, co30, eo30⟩ := Kd.N_slice HO180.out; subst eo30; obtain ⟨Ao31, co31, eo31⟩ := Kd.R_slice HO183.out; subst eo31) | ((with_reducible refine gate_callee (f := 21) rfl ?_); refine goesL_ (some 16) rfl rfl Try.func21 (by kernel_rfl) rfl #[.slice Ao30 y178.length co30, .slice Ao31 y181.length co31] rfl (by (try simp only [List.map_toArray, List.map_cons, List.map_nil]); first | done | rfl | (simp only [List.length_drop, List.length_take]; rfl)) ?_; (with_reducible refine (linear_Solve.calls k _ _ y178 _ _ y181 t184 true _ ?side1 ?side2 ?side3 ?side4 A1.out).mono ?_); (case side1 => repeat (first | exact (Kd.N_reads' HO180.out).2.2 | (with_reducible refine Kd.C_alloc ?_ _) | (with_reducible refine Kd.C_drewN ?_ _) | (with_reducible refine Kd.C_drew ?_))); (case side2 => exact (Kd.N_reads' HO180.out).2.1); (case side3 => repeat (first | exact (Kd.R_reads' HO183.out).2.2 | (with_reducible refine Kd.C_alloc ?_ _) | (with_reducible refine Kd.C_drewN ?_ _) | (with_reducible refine Kd.C_drew ?_))); (case side4 => exact (Kd.R_reads' HO183.out).2.1); rintro e w32 ⟨v186, rfl, ho0, hb⟩; refine ⟨_, rfl, ?_⟩; have n0_ := Aside0.mk (Kd.N_elder' (by (with_reducible repeat (first | apply Kd.N_alloc | apply Kd.N_drewN | apply Kd.N_drew)); exact HO180.out) (Kd.R_base ho0) hb); have n1_ := Aside0.mk (Kd.R_elder' (by (with_reducible repeat (first | apply Kd.R_alloc | apply Kd.R_drewN | apply Kd.R_drew)); exact HO183.out) (Kd.R_base ho0) hb); have n2_ := Aside0.mk (Kd.R_lower (Kd.R_new' ho0 (Kd.R_lt (by (with_reducible repeat (first | apply Kd.R_alloc | apply Kd.R_drewN | apply Kd.R_drew)); exact HO183.out))) (below_size (by repeat (first | (with_reducible first | exact HB.out | apply below_alloc | apply pw_below_drewN | apply below_drew1) | exact HB.out)))); have n3_ := Aside0.mk (below_step (by repeat (first | (with_reducible first | exact HB.out | apply below_alloc | apply pw_below_drewN | apply below_drew1) | exact HB.out)) hb); clear HO180; clear HO183; clear HB; have HO180 := n0_; have HO183 := n1_; have HO187 := n2_; have HB := n3_; clear n0_ n1_ n2_ n3_; (try clear hb); (try clear hb2); (try clear hk); (try clear hi); (try clear ho0)) | ((with_reducible refine gate_dst (N := 20) rfl ?_); (try (refine gate_guard (by rfl) ?_; dsimp only)); refine Kd.R_lit (Kd.int .u8) _ 5 ?hg (N := 20) ?hd (xs := ([1] : List Int)) (inner := [.int .u8 1]) (ok := fun _ => True) (okp := fun _ => True) ?hr ?hp (fun _ hk => hk) trivial (Below.refl _ _) (Nat.le_refl _) (by simp) ?_; (case hd => rfl); (case hg => rfl); (case hr => first | (go_simp; done) | (go_simp; rfl)); (case hp => exact (Reps.one (show Kd.M (Kd.int .u8) _ _ _ 1 [.int .u8 1] from rfl) (Reps.none _ _))); intro v189 w33 ho34 hb hg_ hnew_; clear hg_ hnew_; (first | rw [← Ny188.out] at ho34 | (simp only [Int.reduceToNat] at ho34; rw [← Ny188.out] at ho34)); have n0_ := Aside0.mk (Kd.N_elder' (by (with_reducible repeat (first | apply Kd.N_alloc | apply Kd.N_drewN | apply Kd.N_drew)); exact HO180.out) (Kd.R_base ho34) hb); have n1_ := Aside0.mk (Kd.R_elder' (by (with_reducible repeat (first | apply Kd.R_alloc | apply Kd.R_drewN | apply Kd.R_drew)); exact HO183.out) (Kd.R_base ho34) hb); have n2_ := Aside0.mk (Kd.R_elder' (by (with_reducible repeat (first | apply Kd.R_alloc | apply Kd.R_drewN | apply Kd.R_drew)); exact HO187.out) (Kd.R_base ho34) hb); have n3_ := Aside0.mk (Kd.R_lower (Kd.R_new' (Kd.R_new' ho34 (Kd.R_lt (by (with_reducible repeat (first | apply Kd.R_alloc | apply Kd.R_drewN | apply Kd.R_drew)); exact HO183.out))) (Kd.R_lt (by (with_reducible repeat (first | apply Kd.R_alloc | apply Kd.R_drewN | apply Kd.R_drew)); exact HO187.out))) (below_size (by repeat (first | (with_reducible first | exact HB.out | apply below_alloc | apply pw_below_drewN | apply below_drew1) | exact HB.out)))); have n4_ := Aside0.mk (below_step (by repeat (first | (with_reducible first | exact HB.out | apply below_alloc | apply pw_below_drewN | apply below_drew1) | exact HB.out)) hb); clear HO180; clear HO183; clear HO187; clear HB; have HO180 := n0_; have HO183 := n1_; have HO187 := n2_; have HO190 := n3_; have HB := n4_; clear n0_ n1_ n2_ n3_ n4_; clear hb ho34) | ((with_reducible refine gate_dst (N := 21) rfl ?_); (try (refine gate_guard (by rfl) ?_; dsimp only)); refine Kd.R_lit (Kd.int .u8) _ 5 ?hg (N := 21) ?hd (xs := ([1] : List Int)) (inner := [.int .u8 1]) (ok := fun _ => True) (okp := fun _ => True) ?hr ?hp (fun _ hk => hk) trivial (Below.refl _ _) (Nat.le_refl _) (by simp) ?_; (case hd => rfl); (case hg => rfl); (case hr => first | (go_simp; done) | (go_simp; rfl)); (case hp => exact (Reps.one (show Kd.M (Kd.int .u8) _ _ _ 1 [.int .u8 1] from rfl) (Reps.none _ _))); intro v192 w35 ho36 hb hg_ hnew_; clear hg_ hnew_; (first | rw [← Ny191.out] at ho36 | (simp only [Int.reduceToNat] at ho36; rw [← Ny191.out] at ho36)); have n0_ := Aside0.mk (Kd.N_elder' (by (with_reducible repeat (first | apply Kd.N_alloc | apply Kd.N_drewN | apply Kd.N_drew)); exact HO180.out) (Kd.R_base ho36) hb); have n1_ := Aside0.mk (Kd.R_elder' (by (with_reducible repeat (first | apply Kd.R_alloc | apply Kd.R_drewN | apply Kd.R_drew)); exact HO183.out) (Kd.R_base ho36) hb); have n2_ := Aside0.mk (Kd.R_elder' (by (with_reducible repeat (first | apply Kd.R_alloc | apply Kd.R_drewN | apply Kd.R_drew)); exact HO187.out) (Kd.R_base ho36) hb); have n3_ := Aside0.mk (Kd.R_elder' (by (with_reducible repeat (first | apply Kd.R_alloc | apply Kd.R_drewN | apply Kd.R_drew)); exact HO190.out) (Kd.R_base ho36) hb); have n4_ := Aside0.mk (Kd.R_lower (Kd.R_new' (Kd.R_new' (Kd.R_new' ho36 (Kd.R_lt (by (with_reducible repeat (first | apply Kd.R_alloc | apply Kd.R_drewN | apply Kd.R_drew)); exact HO183.out))) (Kd.R_lt (by (with_reducible repeat (first | apply Kd.R_alloc | apply Kd.R_drewN | apply Kd.R_drew)); exact HO187.out))) (Kd.R_lt (by (with_reducible repeat (first | apply Kd.R_alloc | apply Kd.R_drewN | apply Kd.R_drew)); exact HO190.out))) (below_size (by repeat (first | (with_reducible first | exact HB.out | apply below_alloc | apply pw_below_drewN | apply below_drew1) | exact HB.out)))); have n5_ := Aside0.mk (below_step (by repeat (first | (with_reducible first | exact HB.out | apply below_alloc | apply pw_below_drewN | apply below_drew1) | exact HB.out)) hb); clear HO180; clear HO183; clear HO187; clear HO190; clear HB; have HO180 := n0_; have HO183 := n1_; have HO187 := n2_; have HO190 := n3_; have HO193 := n4_; have HB := n5_; clear n0_ n1_ n2_ n3_ n4_ n5_; clear hb ho36; obtain ⟨Ao37, co37, eo37⟩ := Kd.R_slice HO190.out; subst eo37; obtain ⟨Ao38, co38, eo38⟩ := Kd.R_slice HO193.out; subst eo38) | ((with_reducible refine gate_dst (N := 22) rfl ?_); (try (refine gate_guard (by rfl) ?_; dsimp only)); refine Kd.N_lit (Kd.slice 5 (Kd.int .u8)) _ 23 ?hg (N' := 22) ?hd (xs := ([y188, y191] : List (List Int))) (inner := [.slice Ao37 y188.length co37, .slice Ao38 y191.length co38]) (ok := (fun k_ => some k_ ≠ (.slice Ao30 y178.length co30 : Value).ownBlock ∧ some k_ ≠ (.slice Ao31 y181.length co31 : Value).ownBlock ∧ some k_ ≠ (v186 : Value).ownBlock)) (okp := (fun k_ => some k_ ≠ (.slice Ao30 y178.length co30 : Value).ownBlock ∧ some k_ ≠ (.slice Ao31 y181.length co31 : Value).ownBlock ∧ some k_ ≠ (v186 : Value).ownBlock)) ?hr ?hp (fun _ hk => hk) ((show ∀ k_, w35.heap.size ≤ k_ → (fun k_ => some k_ ≠ (.slice Ao30 y178.length co30 : Value).ownBlock ∧ some k_ ≠ (.slice Ao31 y181.length co31 : Value).ownBlock ∧ some k_ ≠ (v186 : Value).ownBlock) k_ from fun k_ hk => ⟨Kd.fresh' (Kd.N_lt (by (with_reducible repeat (first | apply Kd.N_alloc | apply Kd.N_drewN | apply Kd.N_drew)); exact HO180.out)) k_ hk, Kd.fresh' (Kd.R_lt (by (with_reducible repeat (first | apply Kd.R_alloc | apply Kd.R_drewN | apply Kd.R_drew)); exact HO183.out)) k_ hk, Kd.fresh' (Kd.R_lt (by (with_reducible repeat (first | apply Kd.R_alloc | apply Kd.R_drewN | apply Kd.R_drew)); exact HO187.out)) k_ hk⟩) _ (Nat.le_refl _)) (Below.refl _ _) (Nat.le_refl _) (by simp) ?_; (case hd => rfl); (case hg => rfl); (case hr => first | (go_simp; done) | (go_simp; rfl)); (case hp => exact (Reps.one (show Kd.FK (Kd.slice 5 (Kd.int .u8)) _ _ y188 [.slice Ao37 y188.length co37] from (Kd.FK_slice_mk (Kd.R_reads' (Kd.R_mono (ok' := (fun k_ => some k_ ≠ (.slice Ao30 y178.length co30 : Value).ownBlock ∧ some k_ ≠ (.slice Ao31 y181.length co31 : Value).ownBlock ∧ some k_ ≠ (v186 : Value).ownBlock)) (Kd.R_apart' (HO190.out) (Kd.N_typed HO180.out) (by decide)) (fun k_ hk => ⟨hk.2, ⟨hk.1.1.1.2, hk.1.1.2⟩⟩))).2.1 (Kd.R_F (Kd.R_mono (ok' := (fun k_ => some k_ ≠ (.slice Ao30 y178.length co30 : Value).ownBlock ∧ some k_ ≠ (.slice Ao31 y181.length co31 : Value).ownBlock ∧ some k_ ≠ (v186 : Value).ownBlock)) (Kd.R_apart' (HO190.out) (Kd.N_typed HO180.out) (by decide)) (fun k_ hk => ⟨hk.2, ⟨hk.1.1.1.2, hk.1.1.2⟩⟩))))) (Reps.one (show Kd.FK (Kd.slice 5 (Kd.int .u8)) _ _ y191 [.slice Ao38 y191.length co38] from (Kd.FK_slice_mk (Kd.R_reads' (Kd.R_mono (ok' := (fun k_ => some k_ ≠ (.slice Ao30 y178.length co30 : Value).ownBlock ∧ some k_ ≠ (.slice Ao31 y181.length co31 : Value).ownBlock ∧ some k_ ≠ (v186 : Value).ownBlock)) (Kd.R_apart' (HO193.out) (Kd.N_typed HO180.out) (by decide)) (fun k_ hk => ⟨hk.2, ⟨hk.1.1.1.2, hk.1.1.2⟩⟩))).2.1 (Kd.R_F (Kd.R_mono (ok' := (fun k_ => some k_ ≠ (.slice Ao30 y178.length co30 : Value).ownBlock ∧ some k_ ≠ (.slice Ao31 y181.length co31 : Value).ownBlock ∧ some k_ ≠ (v186 : Value).ownBlock)) (Kd.R_apart' (HO193.out) (Kd.N_typed HO180.out) (by decide)) (fun k_ hk => ⟨hk.2, ⟨hk.1.1.1.2, hk.1.1.2⟩⟩))))) (Reps.none _ _)))); intro v195 w39 ho40 hb hg_ hnew_; clear hg_ hnew_; (first | rw [← Ny194.out] at ho40 | (simp only [Int.reduceToNat] at ho40; rw [← Ny194.out] at ho40)); have n0_ := Aside0.mk (Kd.N_elder' (by (with_reducible repeat (first | apply Kd.N_alloc | apply Kd.N_drewN | apply Kd.N_drew)); exact HO180.out) (by first | exact Kd.N_base ho40 | exact Kd.S_base ho40) hb); have n1_ := Aside0.mk (Kd.R_below (by (with_reducible repeat (first | apply Kd.R_alloc | apply Kd.R_drewN | apply Kd.R_drew)); exact HO183.out) hb); have n2_ := Aside0.mk (Kd.R_below (by (with_reducible repeat (first | apply Kd.R_alloc | apply Kd.R_drewN | apply Kd.R_drew)); exact HO187.out) hb); have n3_ := Aside0.mk (Kd.N_lower ho40 (below_size (by repeat (first | (with_reducible first | exact HB.out | apply below_alloc | apply pw_below_drewN | apply below_drew1) | exact HB.out)))); have n4_ := Aside0.mk (below_step (by repeat (first | (with_reducible first | exact HB.out | apply below_alloc | apply pw_below_drewN | apply below_drew1) | exact HB.out)) hb); clear HO180; clear HO183; clear HO187; clear HB; clear HO190; clear HO193; have HO180 := n0_; have HO183 := n1_; have HO187 := n2_; have HO196 := n3_; have HB := n4_; clear n0_ n1_ n2_ n3_ n4_; clear hb ho40) | ((with_reducible refine gate_dst (N := 23) rfl ?_); (try (refine gate_guard (by rfl) ?_; dsimp only)); refine Kd.R_lit (Kd.int .u8) _ 5 ?hg (N := 23) ?hd (xs := ([1, 2] : List Int)) (inner := [.int .u8 1, .int .u8 2]) (ok := fun _ => True) (okp := fun _ => True) ?hr ?hp (fun _ hk => hk) trivial (Below.refl _ _) (Nat.le_refl _) (by simp) ?_; (case hd => rfl); (case hg => rfl); (case hr => first | (go_simp; done) | (go_simp; rfl)); (case hp => exact (Reps.one (show Kd.M (Kd.int .u8) _ _ _ 1 [.int .u8 1] from rfl) (Reps.one (show Kd.M (Kd.int .u8) _ _ _ 2 [.int .u8 2] from rfl) (Reps.none _ _)))); intro v198 w41 ho42 hb hg_ hnew_; clear hg_ hnew_; (first | rw [← Ny197.out] at ho42 | (simp only [Int.reduceToNat] at ho42; rw [← Ny197.out] at ho42)); have n0_ := Aside0.mk (Kd.N_elder' (by (with_reducible repeat (first | apply Kd.N_alloc | apply Kd.N_drewN | apply Kd.N_drew)); exact HO180.out) (Kd.R_base ho42) hb); have n1_ := Aside0.mk (Kd.R_elder' (by (with_reducible repeat (first | apply Kd.R_alloc | apply Kd.R_drewN | apply Kd.R_drew)); exact HO183.out) (Kd.R_base ho42) hb); have n2_ := Aside0.mk (Kd.R_elder' (by (with_reducible repeat (first | apply Kd.R_alloc | apply Kd.R_drewN | apply Kd.R_drew)); exact HO187.out) (Kd.R_base ho42) hb); have n3_ := Aside0.mk (Kd.N_elder' (by (with_reducible repeat (first | apply Kd.N_alloc | apply Kd.N_drewN | apply Kd.N_drew)); exact HO196.out) (Kd.R_base ho42) hb); have n4_ := Aside0.mk (Kd.R_lower (Kd.R_new' (Kd.R_new' ho42 (Kd.R_lt (by (with_reducible repeat (first | apply Kd.R_alloc | apply Kd.R_drewN | apply Kd.R_drew)); exact HO183.out))) (Kd.R_lt (by (with_reducible repeat (first | apply Kd.R_alloc | apply Kd.R_drewN | apply Kd.R_drew)); exact HO187.out))) (below_size (by repeat (first | (with_reducible first | exact HB.out | apply below_alloc | apply pw_below_drewN | apply below_drew1) | exact HB.out)))); have n5_ := Aside0.mk (below_step (by repeat (first | (with_reducible first | exact HB.out | apply below_alloc | apply pw_below_drewN | apply below_drew1) | exact HB.out)) hb); clear HO180; clear HO183; clear HO187; clear HO196; clear HB; have HO180 := n0_; have HO183 := n1_; have HO187 := n2_; have HO196 := n3_; have HO199 := n4_; have HB := n5_; clear n0_ n1_ n2_ n3_ n4_ n5_; clear hb ho42; obtain ⟨Ao43, co43, eo43⟩ := Kd.N_slice HO196.out; subst eo43; obtain ⟨Ao44, co44, eo44⟩ := Kd.R_slice HO199.out; subst eo44) | ((with_reducible refine gate_callee (f := 21) rfl ?_); refine goesL_ (some 24) rfl rfl Try.func21 (by kernel_rfl) rfl #[.slice Ao43 y194.length co43, .slice Ao44 y197.length co44] rfl (by (try simp only [List.map_toArray, List.map_cons, List.map_nil]); first | done | rfl | (simp only [List.length_drop, List.length_take]; rfl)) ?_; (with_reducible refine (linear_Solve.calls k _ _ y194 _ _ y197 t200 false _ ?side1 ?side2 ?side3 ?side4 A2.out).mono ?_); (case side1 => repeat (first | exact (Kd.N_reads' HO196.out).2.2 | (with_reducible refine Kd.C_alloc ?_ _) | (with_reducible refine Kd.C_drewN ?_ _) | (with_reducible refine Kd.C_drew ?_))); (case side2 => exact (Kd.N_reads' HO196.out).2.1); (case side3 => repeat (first | exact (Kd.R_reads' HO199.out).2.2 | (with_reducible refine Kd.C_alloc ?_ _) | (with_reducible refine Kd.C_drewN ?_ _) | (with_reducible refine Kd.C_drew ?_))); (case side4 => exact (Kd.R_reads' HO199.out).2.1); rintro e w45 ⟨v202, rfl, ho0, hb⟩; refine ⟨_, rfl, ?_⟩; have n0_ := Aside0.mk (Kd.N_elder' (by (with_reducible repeat (first | apply Kd.N_alloc | apply Kd.N_drewN | apply Kd.N_drew)); exact HO180.out) (Kd.R_base ho0) hb); have n1_ := Aside0.mk (Kd.R_elder' (by (with_reducible repeat (first | apply Kd.R_alloc | apply Kd.R_drewN | apply Kd.R_drew)); exact HO183.out) (Kd.R_base ho0) hb); have n2_ := Aside0.mk (Kd.R_elder' (by (with_reducible repeat (first | apply Kd.R_alloc | apply Kd.R_drewN | apply Kd.R_drew)); exact HO187.out) (Kd.R_base ho0) hb); have n3_ := Aside0.mk (Kd.N_elder' (by (with_reducible repeat (first | apply Kd.N_alloc | apply Kd.N_drewN | apply Kd.N_drew)); exact HO196.out) (Kd.R_base ho0) hb); have n4_ := Aside0.mk (Kd.R_elder' (by (with_reducible repeat (first | apply Kd.R_alloc | apply Kd.R_drewN | apply Kd.R_drew)); exact HO199.out) (Kd.R_base ho0) hb); have n5_ := Aside0.mk (Kd.R_lower (Kd.R_new' (Kd.R_new' (Kd.R_new' ho0 (Kd.R_lt (by (with_reducible repeat (first | apply Kd.R_alloc | apply Kd.R_drewN | apply Kd.R_drew)); exact HO183.out))) (Kd.R_lt (by (with_reducible repeat (first | apply Kd.R_alloc | apply Kd.R_drewN | apply Kd.R_drew)); exact HO187.out))) (Kd.R_lt (by (with_reducible repeat (first | apply Kd.R_alloc | apply Kd.R_drewN | apply Kd.R_drew)); exact HO199.out))) (below_size (by repeat (first | (with_reducible first | exact HB.out | apply below_alloc | apply pw_below_drewN | apply below_drew1) | exact HB.out)))); have n6_ := Aside0.mk (below_step (by repeat (first | (with_reducible first | exact HB.out | apply below_alloc | apply pw_below_drewN | apply below_drew1) | exact HB.out)) hb); clear HO180; clear HO183; clear HO187; clear HO196; clear HO199; clear HB; have HO180 := n0_; have HO183 := n1_; have HO187 := n2_; have HO196 := n3_; have HO199 := n4_; have HO203 := n5_; have HB := n6_; clear n0_ n1_ n2_ n3_ n4_ n5_ n6_; (try clear hb); (try clear hb2); (try clear hk); (try clear hi); (try clear ho0)) | ((with_reducible refine gate_callee (f := 23) rfl ?_); refine goesL_ (some 29) rfl rfl Try.func23 (by kernel_rfl) rfl #[.slice Ao30 y178.length co30] rfl (by (try simp only [List.map_toArray, List.map_cons, List.map_nil]); first | done | rfl | (simp only [List.length_drop, List.length_take]; rfl)) ?_; (with_reducible refine (linear_Inverse.calls k _ _ y178 t204 true _ ?side1 ?side2 A3.out).mono ?_); (case side1 => repeat (first | exact (Kd.N_reads' HO180.out).2.2 | (with_reducible refine Kd.C_alloc ?_ _) | (with_reducible refine Kd.C_drewN ?_ _) | (with_reducible refine Kd.C_drew ?_))); (case side2 => exact (Kd.N_reads' HO180.out).2.1); rintro e w46 ⟨v205, rfl, ho0, hb⟩; refine ⟨_, rfl, ?_⟩; have n0_ := Aside0.mk (Kd.N_below (by (with_reducible repeat (first | apply Kd.N_alloc | apply Kd.N_drewN | apply Kd.N_drew)); exact HO180.out) hb); have n1_ := Aside0.mk (Kd.R_below (by (with_reducible repeat (first | apply Kd.R_alloc | apply Kd.R_drewN | apply Kd.R_drew)); exact HO183.out) hb); have n2_ := Aside0.mk (Kd.R_below (by (with_reducible repeat (first | apply Kd.R_alloc | apply Kd.R_drewN | apply Kd.R_drew)); exact HO187.out) hb); have n3_ := Aside0.mk (Kd.N_below (by (with_reducible repeat (first | apply Kd.N_alloc | apply Kd.N_drewN | apply Kd.N_drew)); exact HO196.out) hb); have n4_ := Aside0.mk (Kd.R_below (by (with_reducible repeat (first | apply Kd.R_alloc | apply Kd.R_drewN | apply Kd.R_drew)); exact HO199.out) hb); have n5_ := Aside0.mk (Kd.R_below (by (with_reducible repeat (first | apply Kd.R_alloc | apply Kd.R_drewN | apply Kd.R_drew)); exact HO203.out) hb); have n6_ := Aside0.mk (Kd.V_lower (Kd.V_mono (ok' := fun k_ => some k_ ≠ (.slice Ao30 y178.length co30 : Value).ownBlock ∧ some k_ ≠ (.slice Ao31 y181.length co31 : Value).ownBlock ∧ some k_ ≠ (v186 : Value).ownBlock ∧ some k_ ≠ (.slice Ao43 y194.length co43 : Value).ownBlock ∧ some k_ ≠ (.slice Ao44 y197.length co44 : Value).ownBlock ∧ some k_ ≠ (v202 : Value).ownBlock) ho0 (fun k_ hk_ => ⟨(Kd.fresh' (Kd.N_lt (by (with_reducible repeat (first | apply Kd.N_alloc | apply Kd.N_drewN | apply Kd.N_drew)); exact HO180.out)) k_ hk_), (Kd.fresh' (Kd.R_lt (by (with_reducible repeat (first | apply Kd.R_alloc | apply Kd.R_drewN | apply Kd.R_drew)); exact HO183.out)) k_ hk_), (Kd.fresh' (Kd.R_lt (by (with_reducible repeat (first | apply Kd.R_alloc | apply Kd.R_drewN | apply Kd.R_drew)); exact HO187.out)) k_ hk_), (Kd.fresh' (Kd.N_lt (by (with_reducible repeat (first | apply Kd.N_alloc | apply Kd.N_drewN | apply Kd.N_drew)); exact HO196.out)) k_ hk_), (Kd.fresh' (Kd.R_lt (by (with_reducible repeat (first | apply Kd.R_alloc | apply Kd.R_drewN | apply Kd.R_drew)); exact HO199.out)) k_ hk_), (Kd.fresh' (Kd.R_lt (by (with_reducible repeat (first | apply Kd.R_alloc | apply Kd.R_drewN | apply Kd.R_drew)); exact HO203.out)) k_ hk_)⟩)) (below_size (by repeat (first | (with_reducible first | exact HB.out | apply below_alloc | apply pw_below_drewN | apply below_drew1) | exact HB.out)))); have n7_ := Aside0.mk (below_step (by repeat (first | (with_reducible first | exact HB.out | apply below_alloc | apply pw_below_drewN | apply below_drew1) | exact HB.out)) hb); clear HO180; clear HO183; clear HO187; clear HO196; clear HO199; clear HO203; clear HB; have HO180 := n0_; have HO183 := n1_; have HO187 := n2_; have HO196 := n3_; have HO199 := n4_; have HO203 := n5_; have HO206 := n6_; have HB := n7_; clear n0_ n1_ n2_ n3_ n4_ n5_ n6_ n7_; (try clear hb); (try clear hb2); (try clear hk); (try clear hi); (try clear ho0)) | ((with_reducible refine gate_callee (f := 11) rfl ?_); refine goesL_ (some 34) rfl rfl Try.func11 (by kernel_rfl) rfl #[.slice Ao30 y178.length co30, .int .i64 2] rfl (by (try simp only [List.map_toArray, List.map_cons, List.map_nil]); first | done | rfl | (simp only [List.length_drop, List.length_take]; rfl)) ?_; (with_reducible refine (linear_Reduce.calls k _ _ y178 2 t208 t209 _ ?side1 ?side2 A4.out).mono ?_); (case side1 => repeat (first | exact (Kd.N_reads' HO180.out).2.2 | (with_reducible refine Kd.C_alloc ?_ _) | (with_reducible refine Kd.C_drewN ?_ _) | (with_reducible refine Kd.C_drew ?_))); (case side2 => exact (Kd.N_reads' HO180.out).2.1); rintro e w47 ⟨v210, v212, rfl, ho0, ho1, hb⟩; refine ⟨_, rfl, ?_⟩; have n0_ := Aside0.mk (Kd.N_mono (Kd.N_told (Kd.N_told (Kd.N_old (by (with_reducible repeat (first | apply Kd.N_alloc | apply Kd.N_drewN | apply Kd.N_drew)); exact HO180.out) hb) (by first | exact Kd.N_base ho0 | exact Kd.S_base ho0)) (Kd.R_base ho1)) (fun _ h_ => h_.1)); have n1_ := Aside0.mk (Kd.R_below (by (with_reducible repeat (first | apply Kd.R_alloc | apply Kd.R_drewN | apply Kd.R_drew)); exact HO183.out) hb); have n2_ := Aside0.mk (Kd.R_below (by (with_reducible repeat (first | apply Kd.R_alloc | apply Kd.R_drewN | apply Kd.R_drew)); exact HO187.out) hb); have n3_ := Aside0.mk (Kd.N_mono (Kd.N_told (Kd.N_told (Kd.N_old (by (with_reducible repeat (first | apply Kd.N_alloc | apply Kd.N_drewN | apply Kd.N_drew)); exact HO196.out) hb) (by first | exact Kd.N_base ho0 | exact Kd.S_base ho0)) (Kd.R_base ho1)) (fun _ h_ => h_.1)); have n4_ := Aside0.mk (Kd.R_below (by (with_reducible repeat (first | apply Kd.R_alloc | apply Kd.R_drewN | apply Kd.R_drew)); exact HO199.out) hb); have n5_ := Aside0.mk (Kd.R_below (by (with_reducible repeat (first | apply Kd.R_alloc | apply Kd.R_drewN | apply Kd.R_drew)); exact HO203.out) hb); have n6_ := Aside0.mk (Kd.V_mono (Kd.V_told (Kd.V_told (Kd.V_old (by (with_reducible repeat (first | apply Kd.V_alloc | apply Kd.V_drewN | apply Kd.V_drew)); exact HO206.out) hb) (by first | exact Kd.N_base ho0 | exact Kd.S_base ho0)) (Kd.R_base ho1)) (fun _ h_ => h_.1)); have n7_ := Aside0.mk (Kd.N_lower (Kd.N_mono (ok' := fun k_ => some k_ ≠ (v212 : Value).ownBlock ∧ some k_ ≠ (.slice Ao30 y178.length co30 : Value).ownBlock ∧ some k_ ≠ (.slice Ao31 y181.length co31 : Value).ownBlock ∧ some k_ ≠ (v186 : Value).ownBlock ∧ some k_ ≠ (.slice Ao43 y194.length co43 : Value).ownBlock ∧ some k_ ≠ (.slice Ao44 y197.length co44 : Value).ownBlock ∧ some k_ ≠ (v202 : Value).ownBlock) (Kd.S_N (Kd.S_bound (Kd.S_apart' ho0 (Kd.R_typed ho1) (by decide)))) (fun k_ hk_ => ⟨hk_.1.2, (Kd.fresh' (Kd.N_lt (by (with_reducible repeat (first | apply Kd.N_alloc | apply Kd.N_drewN | apply Kd.N_drew)); exact HO180.out)) k_ hk_.2.1), (Kd.fresh' (Kd.R_lt (by (with_reducible repeat (first | apply Kd.R_alloc | apply Kd.R_drewN | apply Kd.R_drew)); exact HO183.out)) k_ hk_.2.1), (Kd.fresh' (Kd.R_lt (by (with_reducible repeat (first | apply Kd.R_alloc | apply Kd.R_drewN | apply Kd.R_drew)); exact HO187.out)) k_ hk_.2.1), (Kd.fresh' (Kd.N_lt (by (with_reducible repeat (first | apply Kd.N_alloc | apply Kd.N_drewN | apply Kd.N_drew)); exact HO196.out)) k_ hk_.2.1), (Kd.fresh' (Kd.R_lt (by (with_reducible repeat (first | apply Kd.R_alloc | apply Kd.R_drewN | apply Kd.R_drew)); exact HO199.out)) k_ hk_.2.1), (Kd.fresh' (Kd.R_lt (by (with_reducible repeat (first | apply Kd.R_alloc | apply Kd.R_drewN | apply Kd.R_drew)); exact HO203.out)) k_ hk_.2.1)⟩)) (below_size (by repeat (first | (with_reducible first | exact HB.out | apply below_alloc | apply pw_below_drewN | apply below_drew1) | exact HB.out)))); have n8_ := Aside0.mk (Kd.R_lower ho1 (below_size (by repeat (first | (with_reducible first | exact HB.out | apply below_alloc | apply pw_below_drewN | apply below_drew1) | exact HB.out)))); have n9_ := Aside0.mk (below_step (by repeat (first | (with_reducible first | exact HB.out | apply below_alloc | apply pw_below_drewN | apply below_drew1) | exact HB.out)) hb); clear HO180; clear HO183; clear HO187; clear HO196; clear HO199; clear HO203; clear HO206; clear HB; have HO180 := n0_; have HO183 := n1_; have HO187 := n2_; have HO196 := n3_; have HO199 := n4_; have HO203 := n5_; have HO206 := n6_; have HO211 := n7_; have HO213 := n8_; have HB := n9_; clear n0_ n1_ n2_ n3_ n4_ n5_ n6_ n7_ n8_ n9_; (try clear hb); (try clear hb2); (try clear hk); (try clear hi); (try clear ho0); (try clear ho1); obtain ⟨Ao48, co48, eo48⟩ := Kd.R_slice HO187.out; subst eo48; obtain ⟨Ao49, co49, eo49⟩ := Kd.V_slice HO206.out; subst eo49; obtain ⟨Ao50, co50, eo50⟩ := Kd.N_slice HO211.out; subst eo50; have hcv51 := own_string (P := Try.prog) Try.underlying23 Try.underlying5 Try.underlying9 (Kd.own_of_R HO187.out); obtain ⟨Ao52, co52, eo52⟩ := Kd.R_slice HO213.out; subst eo52) | (go_at_call 17; (with_reducible refine (linear_Rank.calls k _ _ y178 t214 _ ?side1 ?side2 A13.out).mono ?_); (case side1 => repeat (first | exact (Kd.N_reads' HO180.out).2.2 | (with_reducible refine Kd.C_alloc ?_ _) | (with_reducible refine Kd.C_drewN ?_ _) | (with_reducible refine Kd.C_drew ?_))); (case side2 => exact (Kd.N_reads' HO180.out).2.1); rintro e w53 ⟨rfl, hb⟩; have n0_ := Aside0.mk (Kd.N_below (by (with_reducible repeat (first | apply Kd.N_alloc | apply Kd.N_drewN | apply Kd.N_drew)); exact HO180.out) hb); have n1_ := Aside0.mk (Kd.R_below (by (with_reducible repeat (first | apply Kd.R_alloc | apply Kd.R_drewN | apply Kd.R_drew)); exact HO183.out) hb); have n2_ := Aside0.mk (Kd.R_below (by (with_reducible repeat (first | apply Kd.R_alloc | apply Kd.R_drewN | apply Kd.R_drew)); exact HO187.out) hb); have n3_ := Aside0.mk (Kd.N_below (by (with_reducible repeat (first | apply Kd.N_alloc | apply Kd.N_drewN | apply Kd.N_drew)); exact HO196.out) hb); have n4_ := Aside0.mk (Kd.R_below (by (with_reducible repeat (first | apply Kd.R_alloc | apply Kd.R_drewN | apply Kd.R_drew)); exact HO199.out) hb); have n5_ := Aside0.mk (Kd.R_below (by (with_reducible repeat (first | apply Kd.R_alloc | apply Kd.R_drewN | apply Kd.R_drew)); exact HO203.out) hb); have n6_ := Aside0.mk (Kd.V_below (by (with_reducible repeat (first | apply Kd.V_alloc | apply Kd.V_drewN | apply Kd.V_drew)); exact HO206.out) hb); have n7_ := Aside0.mk (Kd.N_below (by (with_reducible repeat (first | apply Kd.N_alloc | apply Kd.N_drewN | apply Kd.N_drew)); exact HO211.out) hb); have n8_ := Aside0.mk (Kd.R_below (by (with_reducible repeat (first | apply Kd.R_alloc | apply Kd.R_drewN | apply Kd.R_drew)); exact HO213.out) hb); have n9_ := Aside0.mk (below_step (by repeat (first | (with_reducible first | exact HB.out | apply below_alloc | apply pw_below_drewN | apply below_drew1) | exact HB.out)) hb); clear HO180; clear HO183; clear HO187; clear HO196; clear HO199; clear HO203; clear HO206; clear HO211; clear HO213; clear HB; have HO180 := n0_; have HO183 := n1_; have HO187 := n2_; have HO196 := n3_; have HO199 := n4_; have HO203 := n5_; have HO206 := n6_; have HO211 := n7_; have HO213 := n8_; have HB := n9_; clear n0_ n1_ n2_ n3_ n4_ n5_ n6_ n7_ n8_ n9_; (try clear hb); (try clear hb2); (try clear hk); (try clear hi)) | (go_at_call 13; (with_reducible refine (linear_Right.calls _ _ y178 true _ ?side1 ?side2 A15.out).mono ?_); (case side1 => repeat (first | exact (Kd.N_reads' HO180.out).2.2 | (with_reducible refine Kd.C_alloc ?_ _) | (with_reducible refine Kd.C_drewN ?_ _) | (with_reducible refine Kd.C_drew ?_))); (case side2 => exact (Kd.N_reads' HO180.out).2.1); rintro e w54 ⟨rfl, hb⟩; have n0_ := Aside0.mk (Kd.N_below (by (with_reducible repeat (first | apply Kd.N_alloc | apply Kd.N_drewN | apply Kd.N_drew)); exact HO180.out) hb); have n1_ := Aside0.mk (Kd.R_below (by (with_reducible repeat (first | apply Kd.R_alloc | apply Kd.R_drewN | apply Kd.R_drew)); exact HO183.out) hb); have n2_ := Aside0.mk (Kd.R_below (by (with_reducible repeat (first | apply Kd.R_alloc | apply Kd.R_drewN | apply Kd.R_drew)); exact HO187.out) hb); have n3_ := Aside0.mk (Kd.N_below (by (with_reducible repeat (first | apply Kd.N_alloc | apply Kd.N_drewN | apply Kd.N_drew)); exact HO196.out) hb); have n4_ := Aside0.mk (Kd.R_below (by (with_reducible repeat (first | apply Kd.R_alloc | apply Kd.R_drewN | apply Kd.R_drew)); exact HO199.out) hb); have n5_ := Aside0.mk (Kd.R_below (by (with_reducible repeat (first | apply Kd.R_alloc | apply Kd.R_drewN | apply Kd.R_drew)); exact HO203.out) hb); have n6_ := Aside0.mk (Kd.V_below (by (with_reducible repeat (first | apply Kd.V_alloc | apply Kd.V_drewN | apply Kd.V_drew)); exact HO206.out) hb); have n7_ := Aside0.mk (Kd.N_below (by (with_reducible repeat (first | apply Kd.N_alloc | apply Kd.N_drewN | apply Kd.N_drew)); exact HO211.out) hb); have n8_ := Aside0.mk (Kd.R_below (by (with_reducible repeat (first | apply Kd.R_alloc | apply Kd.R_drewN | apply Kd.R_drew)); exact HO213.out) hb); have n9_ := Aside0.mk (below_step (by repeat (first | (with_reducible first | exact HB.out | apply below_alloc | apply pw_below_drewN | apply below_drew1) | exact HB.out)) hb); clear HO180; clear HO183; clear HO187; clear HO196; clear HO199; clear HO203; clear HO206; clear HO211; clear HO213; clear HB; have HO180 := n0_; have HO183 := n1_; have HO187 := n2_; have HO196 := n3_; have HO199 := n4_; have HO203 := n5_; have HO206 := n6_; have HO211 := n7_; have HO213 := n8_; have HB := n9_; clear n0_ n1_ n2_ n3_ n4_ n5_ n6_ n7_ n8_ n9_; (try clear hb); (try clear hb2); (try clear hk); (try clear hi)) | ((with_reducible refine gate_dst (N := 78) rfl ?_); (try (refine gate_guard (by rfl) ?_; dsimp only)); refine Kd.R_lit (Kd.int .u8) _ 5 ?hg (N := 78) ?hd (xs := ([1] : List Int)) (inner := [.int .u8 1]) (ok := fun _ => True) (okp := fun _ => True) ?hr ?hp (fun _ hk => hk) trivial (Below.refl _ _) (Nat.le_refl _) (by simp) ?_; (case hd => rfl); (case hg => rfl); (case hr => first | (go_simp; done) | (go_simp; rfl)); (case hp => exact (Reps.one (show Kd.M (Kd.int .u8) _ _ _ 1 [.int .u8 1] from rfl) (Reps.none _ _))); intro v217 w55 ho56 hb hg_ hnew_; clear hg_ hnew_; (first | rw [← Ny216.out] at ho56 | (simp only [Int.reduceToNat] at ho56; rw [← Ny216.out] at ho56)); have n0_ := Aside0.mk (Kd.N_elder' (by (with_reducible repeat (first | apply Kd.N_alloc | apply Kd.N_drewN | apply Kd.N_drew)); exact HO180.out) (Kd.R_base ho56) hb); have n1_ := Aside0.mk (Kd.R_elder' (by (with_reducible repeat (first | apply Kd.R_alloc | apply Kd.R_drewN | apply Kd.R_drew)); exact HO183.out) (Kd.R_base ho56) hb); have n2_ := Aside0.mk (Kd.R_elder' (by (with_reducible repeat (first | apply Kd.R_alloc | apply Kd.R_drewN | apply Kd.R_drew)); exact HO187.out) (Kd.R_base ho56) hb); have n3_ := Aside0.mk (Kd.N_elder' (by (with_reducible repeat (first | apply Kd.N_alloc | apply Kd.N_drewN | apply Kd.N_drew)); exact HO196.out) (Kd.R_base ho56) hb); have n4_ := Aside0.mk (Kd.R_elder' (by (with_reducible repeat (first | apply Kd.R_alloc | apply Kd.R_drewN | apply Kd.R_drew)); exact HO199.out) (Kd.R_base ho56) hb); have n5_ := Aside0.mk (Kd.R_elder' (by (with_reducible repeat (first | apply Kd.R_alloc | apply Kd.R_drewN | apply Kd.R_drew)); exact HO203.out) (Kd.R_base ho56) hb); have n6_ := Aside0.mk (Kd.V_elder' (by (with_reducible repeat (first | apply Kd.V_alloc | apply Kd.V_drewN | apply Kd.V_drew)); exact HO206.out) (Kd.R_base ho56) hb); have n7_ := Aside0.mk (Kd.N_elder' (by (with_reducible repeat (first | apply Kd.N_alloc | apply Kd.N_drewN | apply Kd.N_drew)); exact HO211.out) (Kd.R_base ho56) hb); have n8_ := Aside0.mk (Kd.R_below (by (with_reducible repeat (first | apply Kd.R_alloc | apply Kd.R_drewN | apply Kd.R_drew)); exact HO213.out) hb); have n9_ := Aside0.mk (Kd.R_lower (Kd.R_new' (Kd.R_new' (Kd.R_new' (Kd.R_new' ho56 (Kd.R_lt (by (with_reducible repeat (first | apply Kd.R_alloc | apply Kd.R_drewN | apply Kd.R_drew)); exact HO183.out))) (Kd.R_lt (by (with_reducible repeat (first | apply Kd.R_alloc | apply Kd.R_drewN | apply Kd.R_drew)); exact HO187.out))) (Kd.R_lt (by (with_reducible repeat (first | apply Kd.R_alloc | apply Kd.R_drewN | apply Kd.R_drew)); exact HO199.out))) (Kd.R_lt (by (with_reducible repeat (first | apply Kd.R_alloc | apply Kd.R_drewN | apply Kd.R_drew)); exact HO203.out))) (below_size (by repeat (first | (with_reducible first | exact HB.out | apply below_alloc | apply pw_below_drewN | apply below_drew1) | exact HB.out)))); have n10_ := Aside0.mk (below_step (by repeat (first | (with_reducible first | exact HB.out | apply below_alloc | apply pw_below_drewN | apply below_drew1) | exact HB.out)) hb); clear HO180; clear HO183; clear HO187; clear HO196; clear HO199; clear HO203; clear HO206; clear HO211; clear HO213; clear HB; have HO180 := n0_; have HO183 := n1_; have HO187 := n2_; have HO196 := n3_; have HO199 := n4_; have HO203 := n5_; have HO206 := n6_; have HO211 := n7_; have HO213 := n8_; have HO218 := n9_; have HB := n10_; clear n0_ n1_ n2_ n3_ n4_ n5_ n6_ n7_ n8_ n9_ n10_; clear hb ho56) | ((with_reducible refine gate_dst (N := 79) rfl ?_); (try (refine gate_guard (by rfl) ?_; dsimp only)); refine Kd.R_lit (Kd.int .u8) _ 5 ?hg (N := 79) ?hd (xs := ([] : List Int)) (inner := []) (ok := fun _ => True) (okp := fun _ => True) ?hr ?hp (fun _ hk => hk) trivial (Below.refl _ _) (Nat.le_refl _) (by simp) ?_; (case hd => rfl); (case hg => rfl); (case hr => first | (go_simp; done) | (go_simp; rfl)); (case hp => exact (Reps.none _ _)); intro v220 w57 ho58 hb hg_ hnew_; clear hg_ hnew_; (first | rw [← Ny219.out] at ho58 | (simp only [Int.reduceToNat] at ho58; rw [← Ny219.out] at ho58)); have n0_ := Aside0.mk (Kd.N_elder' (by (with_reducible repeat (first | apply Kd.N_alloc | apply Kd.N_drewN | apply Kd.N_drew)); exact HO180.out) (Kd.R_base ho58) hb); have n1_ := Aside0.mk (Kd.R_elder' (by (with_reducible repeat (first | apply Kd.R_alloc | apply Kd.R_drewN | apply Kd.R_drew)); exact HO183.out) (Kd.R_base ho58) hb); have n2_ := Aside0.mk (Kd.R_elder' (by (with_reducible repeat (first | apply Kd.R_alloc | apply Kd.R_drewN | apply Kd.R_drew)); exact HO187.out) (Kd.R_base ho58) hb); have n3_ := Aside0.mk (Kd.N_elder' (by (with_reducible repeat (first | apply Kd.N_alloc | apply Kd.N_drewN | apply Kd.N_drew)); exact HO196.out) (Kd.R_base ho58) hb); have n4_ := Aside0.mk (Kd.R_elder' (by (with_reducible repeat (first | apply Kd.R_alloc | apply Kd.R_drewN | apply Kd.R_drew)); exact HO199.out) (Kd.R_base ho58) hb); have n5_ := Aside0.mk (Kd.R_elder' (by (with_reducible repeat (first | apply Kd.R_alloc | apply Kd.R_drewN | apply Kd.R_drew)); exact HO203.out) (Kd.R_base ho58) hb); have n6_ := Aside0.mk (Kd.V_elder' (by (with_reducible repeat (first | apply Kd.V_alloc | apply Kd.V_drewN | apply Kd.V_drew)); exact HO206.out) (Kd.R_base ho58) hb); have n7_ := Aside0.mk (Kd.N_elder' (by (with_reducible repeat (first | apply Kd.N_alloc | apply Kd.N_drewN | apply Kd.N_drew)); exact HO211.out) (Kd.R_base ho58) hb); have n8_ := Aside0.mk (Kd.R_below (by (with_reducible repeat (first | apply Kd.R_alloc | apply Kd.R_drewN | apply Kd.R_drew)); exact HO213.out) hb); have n9_ := Aside0.mk (Kd.R_elder' (by (with_reducible repeat (first | apply Kd.R_alloc | apply Kd.R_drewN | apply Kd.R_drew)); exact HO218.out) (Kd.R_base ho58) hb); have n10_ := Aside0.mk (Kd.R_lower (Kd.R_new' (Kd.R_new' (Kd.R_new' (Kd.R_new' (Kd.R_new' ho58 (Kd.R_lt (by (with_reducible repeat (first | apply Kd.R_alloc | apply Kd.R_drewN | apply Kd.R_drew)); exact HO183.out))) (Kd.R_lt (by (with_reducible repeat (first | apply Kd.R_alloc | apply Kd.R_drewN | apply Kd.R_drew)); exact HO187.out))) (Kd.R_lt (by (with_reducible repeat (first | apply Kd.R_alloc | apply Kd.R_drewN | apply Kd.R_drew)); exact HO199.out))) (Kd.R_lt (by (with_reducible repeat (first | apply Kd.R_alloc | apply Kd.R_drewN | apply Kd.R_drew)); exact HO203.out))) (Kd.R_lt (by (with_reducible repeat (first | apply Kd.R_alloc | apply Kd.R_drewN | apply Kd.R_drew)); exact HO218.out))) (below_size (by repeat (first | (with_reducible first | exact HB.out | apply below_alloc | apply pw_below_drewN | apply below_drew1) | exact HB.out)))); have n11_ := Aside0.mk (below_step (by repeat (first | (with_reducible first | exact HB.out | apply below_alloc | apply pw_below_drewN | apply below_drew1) | exact HB.out)) hb); clear HO180; clear HO183; clear HO187; clear HO196; clear HO199; clear HO203; clear HO206; clear HO211; clear HO213; clear HO218; clear HB; have HO180 := n0_; have HO183 := n1_; have HO187 := n2_; have HO196 := n3_; have HO199 := n4_; have HO203 := n5_; have HO206 := n6_; have HO211 := n7_; have HO213 := n8_; have HO218 := n9_; have HO221 := n10_; have HB := n11_; clear n0_ n1_ n2_ n3_ n4_ n5_ n6_ n7_ n8_ n9_ n10_ n11_; clear hb ho58; obtain ⟨Ao59, co59, eo59⟩ := Kd.R_slice HO218.out; subst eo59; obtain ⟨Ao60, co60, eo60⟩ := Kd.R_slice HO221.out; subst eo60) | ((with_reducible refine gate_dst (N := 80) rfl ?_); (try (refine gate_guard (by rfl) ?_; dsimp only)); refine Kd.N_lit (Kd.slice 5 (Kd.int .u8)) _ 23 ?hg (N' := 80) ?hd (xs := ([y216, y219] : List (List Int))) (inner := [.slice Ao59 y216.length co59, .slice Ao60 y219.length co60]) (ok := (fun k_ => some k_ ≠ (.slice Ao30 y178.length co30 : Value).ownBlock ∧ some k_ ≠ (.slice Ao31 y181.length co31 : Value).ownBlock ∧ some k_ ≠ (.slice Ao48 t184.length co48 : Value).ownBlock ∧ some k_ ≠ (.slice Ao43 y194.length co43 : Value).ownBlock ∧ some k_ ≠ (.slice Ao44 y197.length co44 : Value).ownBlock ∧ some k_ ≠ (v202 : Value).ownBlock ∧ some k_ ≠ (.slice Ao50 t208.length co50 : Value).ownBlock ∧ some k_ ≠ (.slice Ao52 t209.length co52 : Value).ownBlock)) (okp := (fun k_ => some k_ ≠ (.slice Ao30 y178.length co30 : Value).ownBlock ∧ some k_ ≠ (.slice Ao31 y181.length co31 : Value).ownBlock ∧ some k_ ≠ (.slice Ao48 t184.length co48 : Value).ownBlock ∧ some k_ ≠ (.slice Ao43 y194.length co43 : Value).ownBlock ∧ some k_ ≠ (.slice Ao44 y197.length co44 : Value).ownBlock ∧ some k_ ≠ (v202 : Value).ownBlock ∧ some k_ ≠ (.slice Ao50 t208.length co50 : Value).ownBlock ∧ some k_ ≠ (.slice Ao52 t209.length co52 : Value).ownBlock)) ?hr ?hp (fun _ hk => hk) ((show ∀ k_, w57.heap.size ≤ k_ → (fun k_ => some k_ ≠ (.slice Ao30 y178.length co30 : Value).ownBlock ∧ some k_ ≠ (.slice Ao31 y181.length co31 : Value).ownBlock ∧ some k_ ≠ (.slice Ao48 t184.length co48 : Value).ownBlock ∧ some k_ ≠ (.slice Ao43 y194.length co43 : Value).ownBlock ∧ some k_ ≠ (.slice Ao44 y197.length co44 : Value).ownBlock ∧ some k_ ≠ (v202 : Value).ownBlock ∧ some k_ ≠ (.slice Ao50 t208.length co50 : Value).ownBlock ∧ some k_ ≠ (.slice Ao52 t209.length co52 : Value).ownBlock) k_ from fun k_ hk => ⟨Kd.fresh' (Kd.N_lt (by (with_reducible repeat (first | apply Kd.N_alloc | apply Kd.N_drewN | apply Kd.N_drew)); exact HO180.out)) k_ hk, Kd.fresh' (Kd.R_lt (by (with_reducible repeat (first | apply Kd.R_alloc | apply Kd.R_drewN | apply Kd.R_drew)); exact HO183.out)) k_ hk, Kd.fresh' (Kd.R_lt (by (with_reducible repeat (first | apply Kd.R_alloc | apply Kd.R_drewN | apply Kd.R_drew)); exact HO187.out)) k_ hk, Kd.fresh' (Kd.N_lt (by (with_reducible repeat (first | apply Kd.N_alloc | apply Kd.N_drewN | apply Kd.N_drew)); exact HO196.out)) k_ hk, Kd.fresh' (Kd.R_lt (by (with_reducible repeat (first | apply Kd.R_alloc | apply Kd.R_drewN | apply Kd.R_drew)); exact HO199.out)) k_ hk, Kd.fresh' (Kd.R_lt (by (with_reducible repeat (first | apply Kd.R_alloc | apply Kd.R_drewN | apply Kd.R_drew)); exact HO203.out)) k_ hk, Kd.fresh' (Kd.N_lt (by (with_reducible repeat (first | apply Kd.N_alloc | apply Kd.N_drewN | apply Kd.N_drew)); exact HO211.out)) k_ hk, Kd.fresh' (Kd.R_lt (by (with_reducible repeat (first | apply Kd.R_alloc | apply Kd.R_drewN | apply Kd.R_drew)); exact HO213.out)) k_ hk⟩) _ (Nat.le_refl _)) (Below.refl _ _) (Nat.le_refl _) (by simp) ?_; (case hd => rfl); (case hg => rfl); (case hr => first | (go_simp; done) | (go_simp; rfl)); (case hp => exact (Reps.one (show Kd.FK (Kd.slice 5 (Kd.int .u8)) _ _ y216 [.slice Ao59 y216.length co59] from (Kd.FK_slice_mk (Kd.R_reads' (Kd.R_mono (ok' := (fun k_ => some k_ ≠ (.slice Ao30 y178.length co30 : Value).ownBlock ∧ some k_ ≠ (.slice Ao31 y181.length co31 : Value).ownBlock ∧ some k_ ≠ (.slice Ao48 t184.length co48 : Value).ownBlock ∧ some k_ ≠ (.slice Ao43 y194.length co43 : Value).ownBlock ∧ some k_ ≠ (.slice Ao44 y197.length co44 : Value).ownBlock ∧ some k_ ≠ (v202 : Value).ownBlock ∧ some k_ ≠ (.slice Ao50 t208.length co50 : Value).ownBlock ∧ some k_ ≠ (.slice Ao52 t209.length co52 : Value).ownBlock)) (Kd.R_apart' (Kd.R_apart' (Kd.R_apart' (Kd.R_apart' (HO218.out) (Kd.N_typed HO180.out) (by decide)) (Kd.N_typed HO196.out) (by decide)) (Kd.N_typed HO211.out) (by decide)) (Kd.R_typed HO213.out) (by decide)) (fun k_ hk => ⟨hk.1.1.1.2, ⟨hk.1.1.1.1.1.1.1.1.2, ⟨hk.1.1.1.1.1.1.1.2, ⟨hk.1.1.2, ⟨hk.1.1.1.1.1.1.2, ⟨hk.1.1.1.1.1.2, ⟨hk.1.2, hk.2⟩⟩⟩⟩⟩⟩⟩))).2.1 (Kd.R_F (Kd.R_mono (ok' := (fun k_ => some k_ ≠ (.slice Ao30 y178.length co30 : Value).ownBlock ∧ some k_ ≠ (.slice Ao31 y181.length co31 : Value).ownBlock ∧ some k_ ≠ (.slice Ao48 t184.length co48 : Value).ownBlock ∧ some k_ ≠ (.slice Ao43 y194.length co43 : Value).ownBlock ∧ some k_ ≠ (.slice Ao44 y197.length co44 : Value).ownBlock ∧ some k_ ≠ (v202 : Value).ownBlock ∧ some k_ ≠ (.slice Ao50 t208.length co50 : Value).ownBlock ∧ some k_ ≠ (.slice Ao52 t209.length co52 : Value).ownBlock)) (Kd.R_apart' (Kd.R_apart' (Kd.R_apart' (Kd.R_apart' (HO218.out) (Kd.N_typed HO180.out) (by decide)) (Kd.N_typed HO196.out) (by decide)) (Kd.N_typed HO211.out) (by decide)) (Kd.R_typed HO213.out) (by decide)) (fun k_ hk => ⟨hk.1.1.1.2, ⟨hk.1.1.1.1.1.1.1.1.2, ⟨hk.1.1.1.1.1.1.1.2, ⟨hk.1.1.2, ⟨hk.1.1.1.1.1.1.2, ⟨hk.1.1.1.1.1.2, ⟨hk.1.2, hk.2⟩⟩⟩⟩⟩⟩⟩))))) (Reps.one (show Kd.FK (Kd.slice 5 (Kd.int .u8)) _ _ y219 [.slice Ao60 y219.length co60] from (Kd.FK_slice_mk (Kd.R_reads' (Kd.R_mono (ok' := (fun k_ => some k_ ≠ (.slice Ao30 y178.length co30 : Value).ownBlock ∧ some k_ ≠ (.slice Ao31 y181.length co31 : Value).ownBlock ∧ some k_ ≠ (.slice Ao48 t184.length co48 : Value).ownBlock ∧ some k_ ≠ (.slice Ao43 y194.length co43 : Value).ownBlock ∧ some k_ ≠ (.slice Ao44 y197.length co44 : Value).ownBlock ∧ some k_ ≠ (v202 : Value).ownBlock ∧ some k_ ≠ (.slice Ao50 t208.length co50 : Value).ownBlock ∧ some k_ ≠ (.slice Ao52 t209.length co52 : Value).ownBlock)) (Kd.R_apart' (Kd.R_apart' (Kd.R_apart' (Kd.R_apart' (HO221.out) (Kd.N_typed HO180.out) (by decide)) (Kd.N_typed HO196.out) (by decide)) (Kd.N_typed HO211.out) (by decide)) (Kd.R_typed HO213.out) (by decide)) (fun k_ hk => ⟨hk.1.1.1.2, ⟨hk.1.1.1.1.1.1.1.1.2, ⟨hk.1.1.1.1.1.1.1.2, ⟨hk.1.1.2, ⟨hk.1.1.1.1.1.1.2, ⟨hk.1.1.1.1.1.2, ⟨hk.1.2, hk.2⟩⟩⟩⟩⟩⟩⟩))).2.1 (Kd.R_F (Kd.R_mono (ok' := (fun k_ => some k_ ≠ (.slice Ao30 y178.length co30 : Value).ownBlock ∧ some k_ ≠ (.slice Ao31 y181.length co31 : Value).ownBlock ∧ some k_ ≠ (.slice Ao48 t184.length co48 : Value).ownBlock ∧ some k_ ≠ (.slice Ao43 y194.length co43 : Value).ownBlock ∧ some k_ ≠ (.slice Ao44 y197.length co44 : Value).ownBlock ∧ some k_ ≠ (v202 : Value).ownBlock ∧ some k_ ≠ (.slice Ao50 t208.length co50 : Value).ownBlock ∧ some k_ ≠ (.slice Ao52 t209.length co52 : Value).ownBlock)) (Kd.R_apart' (Kd.R_apart' (Kd.R_apart' (Kd.R_apart' (HO221.out) (Kd.N_typed HO180.out) (by decide)) (Kd.N_typed HO196.out) (by decide)) (Kd.N_typed HO211.out) (by decide)) (Kd.R_typed HO213.out) (by decide)) (fun k_ hk => ⟨hk.1.1.1.2, ⟨hk.1.1.1.1.1.1.1.1.2, ⟨hk.1.1.1.1.1.1.1.2, ⟨hk.1.1.2, ⟨hk.1.1.1.1.1.1.2, ⟨hk.1.1.1.1.1.2, ⟨hk.1.2, hk.2⟩⟩⟩⟩⟩⟩⟩))))) (Reps.none _ _)))); intro v223 w61 ho62 hb hg_ hnew_; clear hg_ hnew_; (first | rw [← Ny222.out] at ho62 | (simp only [Int.reduceToNat] at ho62; rw [← Ny222.out] at ho62)); have n0_ := Aside0.mk (Kd.N_elder' (by (with_reducible repeat (first | apply Kd.N_alloc | apply Kd.N_drewN | apply Kd.N_drew)); exact HO180.out) (by first | exact Kd.N_base ho62 | exact Kd.S_base ho62) hb); have n1_ := Aside0.mk (Kd.R_below (by (with_reducible repeat (first | apply Kd.R_alloc | apply Kd.R_drewN | apply Kd.R_drew)); exact HO183.out) hb); have n2_ := Aside0.mk (Kd.R_below (by (with_reducible repeat (first | apply Kd.R_alloc | apply Kd.R_drewN | apply Kd.R_drew)); exact HO187.out) hb); have n3_ := Aside0.mk (Kd.N_elder' (by (with_reducible repeat (first | apply Kd.N_alloc | apply Kd.N_drewN | apply Kd.N_drew)); exact HO196.out) (by first | exact Kd.N_base ho62 | exact Kd.S_base ho62) hb); have n4_ := Aside0.mk (Kd.R_below (by (with_reducible repeat (first | apply Kd.R_alloc | apply Kd.R_drewN | apply Kd.R_drew)); exact HO199.out) hb); have n5_ := Aside0.mk (Kd.R_below (by (with_reducible repeat (first | apply Kd.R_alloc | apply Kd.R_drewN | apply Kd.R_drew)); exact HO203.out) hb); have n6_ := Aside0.mk (Kd.V_elder' (by (with_reducible repeat (first | apply Kd.V_alloc | apply Kd.V_drewN | apply Kd.V_drew)); exact HO206.out) (by first | exact Kd.N_base ho62 | exact Kd.S_base ho62) hb); have n7_ := Aside0.mk (Kd.N_elder' (by (with_reducible repeat (first | apply Kd.N_alloc | apply Kd.N_drewN | apply Kd.N_drew)); exact HO211.out) (by first | exact Kd.N_base ho62 | exact Kd.S_base ho62) hb); have n8_ := Aside0.mk (Kd.R_below (by (with_reducible repeat (first | apply Kd.R_alloc | apply Kd.R_drewN | apply Kd.R_drew)); exact HO213.out) hb); have n9_ := Aside0.mk (Kd.N_lower ho62 (below_size (by repeat (first | (with_reducible first | exact HB.out | apply below_alloc | apply pw_below_drewN | apply below_drew1) | exact HB.out)))); have n10_ := Aside0.mk (below_step (by repeat (first | (with_reducible first | exact HB.out | apply below_alloc | apply pw_below_drewN | apply below_drew1) | exact HB.out)) hb); clear HO180; clear HO183; clear HO187; clear HO196; clear HO199; clear HO203; clear HO206; clear HO211; clear HO213; clear HB; clear HO218; clear HO221; have HO180 := n0_; have HO183 := n1_; have HO187 := n2_; have HO196 := n3_; have HO199 := n4_; have HO203 := n5_; have HO206 := n6_; have HO211 := n7_; have HO213 := n8_; have HO224 := n9_; have HB := n10_; clear n0_ n1_ n2_ n3_ n4_ n5_ n6_ n7_ n8_ n9_ n10_; clear hb ho62; obtain ⟨Ao63, co63, eo63⟩ := Kd.N_slice HO224.out; subst eo63) | (go_at_call 13; (with_reducible refine (linear_Right.calls _ _ y222 false _ ?side1 ?side2 A17.out).mono ?_); (case side1 => repeat (first | exact (Kd.N_reads' HO224.out).2.2 | (with_reducible refine Kd.C_alloc ?_ _) | (with_reducible refine Kd.C_drewN ?_ _) | (with_reducible refine Kd.C_drew ?_))); (case side2 => exact (Kd.N_reads' HO224.out).2.1); rintro e w64 ⟨rfl, hb⟩; have n0_ := Aside0.mk (Kd.N_below (by (with_reducible repeat (first | apply Kd.N_alloc | apply Kd.N_drewN | apply Kd.N_drew)); exact HO180.out) hb); have n1_ := Aside0.mk (Kd.R_below (by (with_reducible repeat (first | apply Kd.R_alloc | apply Kd.R_drewN | apply Kd.R_drew)); exact HO183.out) hb); have n2_ := Aside0.mk (Kd.R_below (by (with_reducible repeat (first | apply Kd.R_alloc | apply Kd.R_drewN | apply Kd.R_drew)); exact HO187.out) hb); have n3_ := Aside0.mk (Kd.N_below (by (with_reducible repeat (first | apply Kd.N_alloc | apply Kd.N_drewN | apply Kd.N_drew)); exact HO196.out) hb); have n4_ := Aside0.mk (Kd.R_below (by (with_reducible repeat (first | apply Kd.R_alloc | apply Kd.R_drewN | apply Kd.R_drew)); exact HO199.out) hb); have n5_ := Aside0.mk (Kd.R_below (by (with_reducible repeat (first | apply Kd.R_alloc | apply Kd.R_drewN | apply Kd.R_drew)); exact HO203.out) hb); have n6_ := Aside0.mk (Kd.V_below (by (with_reducible repeat (first | apply Kd.V_alloc | apply Kd.V_drewN | apply Kd.V_drew)); exact HO206.out) hb); have n7_ := Aside0.mk (Kd.N_below (by (with_reducible repeat (first | apply Kd.N_alloc | apply Kd.N_drewN | apply Kd.N_drew)); exact HO211.out) hb); have n8_ := Aside0.mk (Kd.R_below (by (with_reducible repeat (first | apply Kd.R_alloc | apply Kd.R_drewN | apply Kd.R_drew)); exact HO213.out) hb); have n9_ := Aside0.mk (Kd.N_below (by (with_reducible repeat (first | apply Kd.N_alloc | apply Kd.N_drewN | apply Kd.N_drew)); exact HO224.out) hb); have n10_ := Aside0.mk (below_step (by repeat (first | (with_reducible first | exact HB.out | apply below_alloc | apply pw_below_drewN | apply below_drew1) | exact HB.out)) hb); clear HO180; clear HO183; clear HO187; clear HO196; clear HO199; clear HO203; clear HO206; clear HO211; clear HO213; clear HO224; clear HB; have HO180 := n0_; have HO183 := n1_; have HO187 := n2_; have HO196 := n3_; have HO199 := n4_; have HO203 := n5_; have HO206 := n6_; have HO211 := n7_; have HO213 := n8_; have HO224 := n9_; have HB := n10_; clear n0_ n1_ n2_ n3_ n4_ n5_ n6_ n7_ n8_ n9_ n10_; (try clear hb); (try clear hb2); (try clear hk); (try clear hi)) | (go_at_call 19; (with_reducible refine (linear_Times.calls k _ _ y178 _ _ t184 t226 _ ?side1 ?side2 ?side3 ?side4 A19.out).mono ?_); (case side1 => repeat (first | exact (Kd.N_reads' HO180.out).2.2 | (with_reducible refine Kd.C_alloc ?_ _) | (with_reducible refine Kd.C_drewN ?_ _) | (with_reducible refine Kd.C_drew ?_))); (case side2 => exact (Kd.N_reads' HO180.out).2.1); (case side3 => repeat (first | exact (Kd.R_reads' HO187.out).2.2 | (with_reducible refine Kd.C_alloc ?_ _) | (with_reducible refine Kd.C_drewN ?_ _) | (with_reducible refine Kd.C_drew ?_))); (case side4 => exact (Kd.R_reads' HO187.out).2.1); rintro e w65 ⟨v227, rfl, ho0, hb⟩; have n0_ := Aside0.mk (Kd.N_elder' (by (with_reducible repeat (first | apply Kd.N_alloc | apply Kd.N_drewN | apply Kd.N_drew)); exact HO180.out) (Kd.R_base ho0) hb); have n1_ := Aside0.mk (Kd.R_elder' (by (with_reducible repeat (first | apply Kd.R_alloc | apply Kd.R_drewN | apply Kd.R_drew)); exact HO183.out) (Kd.R_base ho0) hb); have n2_ := Aside0.mk (Kd.R_elder' (by (with_reducible repeat (first | apply Kd.R_alloc | apply Kd.R_drewN | apply Kd.R_drew)); exact HO187.out) (Kd.R_base ho0) hb); have n3_ := Aside0.mk (Kd.N_elder' (by (with_reducible repeat (first | apply Kd.N_alloc | apply Kd.N_drewN | apply Kd.N_drew)); exact HO196.out) (Kd.R_base ho0) hb); have n4_ := Aside0.mk (Kd.R_elder' (by (with_reducible repeat (first | apply Kd.R_alloc | apply Kd.R_drewN | apply Kd.R_drew)); exact HO199.out) (Kd.R_base ho0) hb); have n5_ := Aside0.mk (Kd.R_elder' (by (with_reducible repeat (first | apply Kd.R_alloc | apply Kd.R_drewN | apply Kd.R_drew)); exact HO203.out) (Kd.R_base ho0) hb); have n6_ := Aside0.mk (Kd.V_elder' (by (with_reducible repeat (first | apply Kd.V_alloc | apply Kd.V_drewN | apply Kd.V_drew)); exact HO206.out) (Kd.R_base ho0) hb); have n7_ := Aside0.mk (Kd.N_elder' (by (with_reducible repeat (first | apply Kd.N_alloc | apply Kd.N_drewN | apply Kd.N_drew)); exact HO211.out) (Kd.R_base ho0) hb); have n8_ := Aside0.mk (Kd.R_below (by (with_reducible repeat (first | apply Kd.R_alloc | apply Kd.R_drewN | apply Kd.R_drew)); exact HO213.out) hb); have n9_ := Aside0.mk (Kd.N_elder' (by (with_reducible repeat (first | apply Kd.N_alloc | apply Kd.N_drewN | apply Kd.N_drew)); exact HO224.out) (Kd.R_base ho0) hb); have n10_ := Aside0.mk (Kd.R_lower (Kd.R_new' (Kd.R_new' (Kd.R_new' (Kd.R_new' ho0 (Kd.R_lt (by (with_reducible repeat (first | apply Kd.R_alloc | apply Kd.R_drewN | apply Kd.R_drew)); exact HO183.out))) (Kd.R_lt (by (with_reducible repeat (first | apply Kd.R_alloc | apply Kd.R_drewN | apply Kd.R_drew)); exact HO187.out))) (Kd.R_lt (by (with_reducible repeat (first | apply Kd.R_alloc | apply Kd.R_drewN | apply Kd.R_drew)); exact HO199.out))) (Kd.R_lt (by (with_reducible repeat (first | apply Kd.R_alloc | apply Kd.R_drewN | apply Kd.R_drew)); exact HO203.out))) (below_size (by repeat (first | (with_reducible first | exact HB.out | apply below_alloc | apply pw_below_drewN | apply below_drew1) | exact HB.out)))); have n11_ := Aside0.mk (below_step (by repeat (first | (with_reducible first | exact HB.out | apply below_alloc | apply pw_below_drewN | apply below_drew1) | exact HB.out)) hb); clear HO180; clear HO183; clear HO187; clear HO196; clear HO199; clear HO203; clear HO206; clear HO211; clear HO213; clear HO224; clear HB; have HO180 := n0_; have HO183 := n1_; have HO187 := n2_; have HO196 := n3_; have HO199 := n4_; have HO203 := n5_; have HO206 := n6_; have HO211 := n7_; have HO213 := n8_; have HO224 := n9_; have HO228 := n10_; have HB := n11_; clear n0_ n1_ n2_ n3_ n4_ n5_ n6_ n7_ n8_ n9_ n10_ n11_; (try clear hb); (try clear hb2); (try clear hk); (try clear hi); (try clear ho0); have hcv66 := own_string (P := Try.prog) Try.underlying23 Try.underlying5 Try.underlying9 (Kd.own_of_R HO228.out)))
                        go_ret
                        exact ⟨by first | rfl | (simp [errW_none, errW_some] <;> rfl) | (simp [*, errW_none, errW_some] <;> rfl), by repeat (first | (with_reducible first | exact HB.out | apply below_alloc | apply pw_below_drewN | apply below_drew1) | exact HB.out)⟩
                    · replace c16 := Bool.eq_false_iff.mpr c16
                      subst c16
                      have H1 : (none) = some r := by rw [if_neg (show ¬ (false = true) by decide)] at H; exact H
                      clear H
                      have H := H1
                      clear H1
                      exact absurd H (by simp)
                  · rw [if_neg c14] at H
                    exact absurd H (by simp)
                · rw [if_neg c12] at H
                  exact absurd H (by simp)
              · replace c11 := Bool.eq_false_iff.mpr c11
                subst c11
                have H1 : (none) = some r := by rw [if_neg (show ¬ (false = true) by decide)] at H; exact H
                clear H
                have H := H1
                clear H1
                exact absurd H (by simp)
          · rw [if_neg c9] at H
            exact absurd H (by simp)
        · replace c8 := Bool.eq_false_iff.mpr c8
          subst c8
          have H1 : (none) = some r := by rw [if_neg (show ¬ (false = true) by decide)] at H; exact H
          clear H
          have H := H1
          clear H1
          exact absurd H (by simp)
      · rw [if_neg c7] at H
        exact absurd H (by simp)
    · rw [if_neg c6] at H
      exact absurd H (by simp)
  · rw [if_neg c5] at H
    exact absurd H (by simp)

/-! ### footlockerlaw03_small: function 10 -/
def footlockerlaw03_small.l0 : Nat → List (List Int) → List (List Int) → Int → Int → Option (Bool)
  | 0, _, _, _, _ => none
  | k + 1, x0, x5, x6, x7 => if x7 < x6 then (if 0 ≤ x7 then (if x7 < (x5.length : Int) then (if ((rd_L1 x5 x7).length : Int) > 20 then (some false) else (footlockerlaw03_small.l0 k x0 x5 x6 (wrap64 (x7 + 1)))) else (none)) else (none)) else (some (decide ((x0.length : Int) ≤ 20)))
def footlockerlaw03_small.f (k : Nat) (l0 : List (List Int)) : Option (Bool) := footlockerlaw03_small.l0 k l0 l0 (l0.length : Int) 0
theorem footlockerlaw03_small.mono_l : ∀ k, (∀ y0 y1 y2 y3, LeO (footlockerlaw03_small.l0 k y0 y1 y2 y3) (footlockerlaw03_small.l0 (k + 1) y0 y1 y2 y3))
  | 0 => fun _ _ _ _ r h => by simp [footlockerlaw03_small.l0] at h
  | k + 1 => by
    have ih0 := footlockerlaw03_small.mono_l k
    · intro y0 y1 y2 y3
      unfold footlockerlaw03_small.l0
      repeat' first
      | (with_reducible exact ih0 _ _ _ _)
      | (with_reducible exact LeO.refl _)
      | (with_reducible exact LeO.none _)
      | (with_reducible refine LeO.ite ?_ ?_)
      | (with_reducible refine LeO.bind ?_ (fun _ => ?_))
      | exact ih0 _ _ _ _
      | exact LeO.none _
      | refine LeO.ite ?_ ?_
      | refine LeO.bind ?_ (fun _ => ?_)
theorem footlockerlaw03_small.mono : ∀ a0 k, LeO (footlockerlaw03_small.f k a0) (footlockerlaw03_small.f (k + 1) a0) := by
  intro a0 k
  have ih0 := footlockerlaw03_small.mono_l k
  unfold footlockerlaw03_small.f
  repeat' first
      | (with_reducible exact ih0 _ _ _ _)
      | (with_reducible exact LeO.refl _)
      | (with_reducible exact LeO.none _)
      | (with_reducible refine LeO.ite ?_ ?_)
      | (with_reducible refine LeO.bind ?_ (fun _ => ?_))
      | exact ih0 _ _ _ _
      | exact LeO.none _
      | refine LeO.ite ?_ ?_
      | refine LeO.bind ?_ (fun _ => ?_)
set_option maxHeartbeats 8000000 in
set_option maxRecDepth 100000 in
theorem footlockerlaw03_small.calls (k : Nat) (A0 : Option Addr) (c0 : Nat) (l0 : List (List Int)) (r : Bool) (w : World) (hr0 : Kd.C (Kd.slice 5 (Kd.int .u8)) w A0 l0.length l0) (hc0 : l0.length ≤ c0) (h : footlockerlaw03_small.f k l0 = some r) :
    Calls Try.prog 10 #[.slice A0 l0.length c0] w fun e w' => e = .returned (.bool r) ∧ Drawn0 w w' := by
  have HR0 := Aside0.mk hr0
  have HC0 := Aside0.mk hc0
  clear hr0 hc0
  have H : (footlockerlaw03_small.l0 k l0 l0 (l0.length : Int) 0) = some r := h
  clear h
  have H' := Aside0.mk H
  clear H
  go_enter Try.func10, Try.ntmps10
  go_wp2
  go_loopg [7] k (fun kq v7 w' => ∃ (x7_1 : Int), v7 = .int .i64 x7_1 ∧ Aside0 (footlockerlaw03_small.l0 kq l0 l0 (l0.length : Int) x7_1 = some r) ∧ Aside0 (kq ≤ k) ∧ Drawn0 w w')
  case atStart => exact ⟨(0), (by first | rfl | (simp; done) | (simp [*]; done)), H', ⟨Nat.le_refl _⟩, by repeat (first | exact Drawn0.refl _ | apply Drawn0.step)⟩
  case round =>
    clear H'
    try clear c1
    obtain ⟨x7_1, rfl, HA, HK1, ⟨m1, rfl⟩⟩ := hrel
    cases gk with
    | zero => exact absurd HA.out (by simp [footlockerlaw03_small.l0])
    | succ k1 =>
      have H := HA.out
      clear HA
      simp only [footlockerlaw03_small.l0] at H
      by_cases c2 : x7_1 < (l0.length : Int)
      · rw [if_pos c2] at H
        have c2b0 : decide (x7_1 < (l0.length : Int)) = true := decide_eq_true c2
        clear c2
        by_cases c3 : 0 ≤ x7_1
        · rw [if_pos c3] at H
          have c3b0 : decide (0 ≤ x7_1) = true := decide_eq_true c3
          clear c3
          by_cases c4 : x7_1 < (l0.length : Int)
          · rw [if_pos c4] at H
            have c4b0 : decide (x7_1 < (l0.length : Int)) = true := decide_eq_true c4
            clear c4
            by_cases c5 : ((rd_L1 l0 x7_1).length : Int) > 20
            · rw [if_pos c5] at H
              have c5b0 : decide (20 < ((rd_L1 l0 x7_1).length : Int)) = true := decide_eq_true c5
              have c5b1 : decide (20 < (rd_L1 l0 x7_1).length) = true := decide_eq_true (by omega)
              clear c5
              obtain rfl := Option.some.inj H
              have p229 : 0 ≤ (x7_1 : Int) := of_decide_eq_true (by first | (with_reducible assumption) | assumption)
              have q229 : x7_1 < (l0.length : Int) := of_decide_eq_true (by first | (with_reducible assumption) | assumption)
              obtain ⟨ad229, A229_0, c229_0, e229, hx229_0, hl229_0, hi229_0⟩ := at_L1 HR0.out x7_1 p229 q229
              cases e229
              have HR229_0 := Aside0.mk hi229_0
              have HC229_0 := Aside0.mk hl229_0
              clear hi229_0 hl229_0
              replace p229 := eq_true p229
              replace q229 := eq_true q229
              go_wp2
              go_ret
              exact ⟨by first | rfl | (simp; done) | (simp [*]; done), by repeat (first | exact Drawn0.refl _ | apply Drawn0.step)⟩
            · rw [if_neg c5] at H
              have c5b0 : decide (20 < ((rd_L1 l0 x7_1).length : Int)) = false := decide_eq_false c5
              have c5b1 : decide (20 < (rd_L1 l0 x7_1).length) = false := decide_eq_false (by omega)
              clear c5
              have H' := Aside0.mk H
              clear H
              have p229 : 0 ≤ (x7_1 : Int) := of_decide_eq_true (by first | (with_reducible assumption) | assumption)
              have q229 : x7_1 < (l0.length : Int) := of_decide_eq_true (by first | (with_reducible assumption) | assumption)
              obtain ⟨ad229, A229_0, c229_0, e229, hx229_0, hl229_0, hi229_0⟩ := at_L1 HR0.out x7_1 p229 q229
              cases e229
              have HR229_0 := Aside0.mk hi229_0
              have HC229_0 := Aside0.mk hl229_0
              clear hi229_0 hl229_0
              replace p229 := eq_true p229
              replace q229 := eq_true q229
              go_wp2
              go_roundg k1
              case measure => have := HK1.out; omega
              case rel => exact ⟨(wrap64 (x7_1 + 1)), (by first | rfl | (simp; done) | (simp [*]; done)), H', ⟨by have := HK1.out; omega⟩, by repeat (first | exact Drawn0.refl _ | apply Drawn0.step)⟩
          · rw [if_neg c4] at H
            exact absurd H (by simp)
        · rw [if_neg c3] at H
          exact absurd H (by simp)
      · rw [if_neg c2] at H
        have c2b0 : decide (x7_1 < (l0.length : Int)) = false := decide_eq_false c2
        clear c2
        obtain rfl := Option.some.inj H
        go_wp2
        go_ret
        exact ⟨by first | rfl | (simp; done) | (simp [*]; done), by repeat (first | exact Drawn0.refl _ | apply Drawn0.step)⟩

/-! ### footlockerref03_Right: function 14 -/
def footlockerref03_Right.l0 : Nat → List (List Int) → Int → Option (Bool)
  | 0, _, _ => none
  | k + 1, x0, x3 => if x3 < (x0.length : Int) then (if 0 ≤ x3 then (if 0 < (x0.length : Int) then (if ((rd_L1 x0 x3).length : Int) = ((rd_L1 x0 0).length : Int) then (footlockerref03_Right.l0 k x0 (wrap64 (x3 + 1))) else (some false)) else (none)) else (none)) else (some true)
def footlockerref03_Right.f (k : Nat) (l0 : List (List Int)) : Option (Bool) := footlockerref03_Right.l0 k l0 1
theorem footlockerref03_Right.mono_l : ∀ k, (∀ y0 y1, LeO (footlockerref03_Right.l0 k y0 y1) (footlockerref03_Right.l0 (k + 1) y0 y1))
  | 0 => fun _ _ r h => by simp [footlockerref03_Right.l0] at h
  | k + 1 => by
    have ih0 := footlockerref03_Right.mono_l k
    · intro y0 y1
      unfold footlockerref03_Right.l0
      repeat' first
      | (with_reducible exact ih0 _ _)
      | (with_reducible exact LeO.refl _)
      | (with_reducible exact LeO.none _)
      | (with_reducible refine LeO.ite ?_ ?_)
      | (with_reducible refine LeO.bind ?_ (fun _ => ?_))
      | exact ih0 _ _
      | exact LeO.none _
      | refine LeO.ite ?_ ?_
      | refine LeO.bind ?_ (fun _ => ?_)
theorem footlockerref03_Right.mono : ∀ a0 k, LeO (footlockerref03_Right.f k a0) (footlockerref03_Right.f (k + 1) a0) := by
  intro a0 k
  have ih0 := footlockerref03_Right.mono_l k
  unfold footlockerref03_Right.f
  repeat' first
      | (with_reducible exact ih0 _ _)
      | (with_reducible exact LeO.refl _)
      | (with_reducible exact LeO.none _)
      | (with_reducible refine LeO.ite ?_ ?_)
      | (with_reducible refine LeO.bind ?_ (fun _ => ?_))
      | exact ih0 _ _
      | exact LeO.none _
      | refine LeO.ite ?_ ?_
      | refine LeO.bind ?_ (fun _ => ?_)
set_option maxHeartbeats 8000000 in
set_option maxRecDepth 100000 in
theorem footlockerref03_Right.calls (k : Nat) (A0 : Option Addr) (c0 : Nat) (l0 : List (List Int)) (r : Bool) (w : World) (hr0 : Kd.C (Kd.slice 5 (Kd.int .u8)) w A0 l0.length l0) (hc0 : l0.length ≤ c0) (h : footlockerref03_Right.f k l0 = some r) :
    Calls Try.prog 14 #[.slice A0 l0.length c0] w fun e w' => e = .returned (.bool r) ∧ Drawn0 w w' := by
  have HR0 := Aside0.mk hr0
  have HC0 := Aside0.mk hc0
  clear hr0 hc0
  have H : (footlockerref03_Right.l0 k l0 1) = some r := h
  clear h
  have H' := Aside0.mk H
  clear H
  go_enter Try.func14, Try.ntmps14
  go_wp2
  repeat (go_quiet (fail); try go_wp2)
  go_loopg [3] k (fun kq v3 w' => ∃ (x3_1 : Int), v3 = .int .i64 x3_1 ∧ Aside0 (footlockerref03_Right.l0 kq l0 x3_1 = some r) ∧ Aside0 (kq ≤ k) ∧ Drawn0 w w')
  case atStart => exact ⟨(1), (by first | rfl | (simp; done) | (simp [*]; done)), H', ⟨Nat.le_refl _⟩, by repeat (first | exact Drawn0.refl _ | apply Drawn0.step)⟩
  case round =>
    clear H'
    try clear c1
    obtain ⟨x3_1, rfl, HA, HK1, ⟨m1, rfl⟩⟩ := hrel
    cases gk with
    | zero => exact absurd HA.out (by simp [footlockerref03_Right.l0])
    | succ k1 =>
      have H := HA.out
      clear HA
      simp only [footlockerref03_Right.l0] at H
      by_cases c2 : x3_1 < (l0.length : Int)
      · rw [if_pos c2] at H
        have c2b0 : decide (x3_1 < (l0.length : Int)) = true := decide_eq_true c2
        clear c2
        by_cases c3 : 0 ≤ x3_1
        · rw [if_pos c3] at H
          have c3b0 : decide (0 ≤ x3_1) = true := decide_eq_true c3
          clear c3
          by_cases c4 : 0 < (l0.length : Int)
          · rw [if_pos c4] at H
            have c4b0 : decide (0 < (l0.length : Int)) = true := decide_eq_true c4
            have c4b1 : decide (0 < l0.length) = true := decide_eq_true (by omega)
            clear c4
            by_cases c5 : ((rd_L1 l0 x3_1).length : Int) = ((rd_L1 l0 0).length : Int)
            · rw [if_pos c5] at H
              have c5b0 : (((rd_L1 l0 x3_1).length : Int) == ((rd_L1 l0 0).length : Int)) = true := beq_iff_eq.mpr c5
              have c5b1 : (((rd_L1 l0 x3_1).length : Int) != ((rd_L1 l0 0).length : Int)) = false := bne_eq_false_iff_eq.mpr c5
              have c5b2 : ((rd_L1 l0 x3_1).length == (rd_L1 l0 0).length) = true := by first | simpa using c5 | (simp at c5 ⊢; omega)
              clear c5
              have H' := Aside0.mk H
              clear H
              have p230 : 0 ≤ (x3_1 : Int) := of_decide_eq_true (by first | (with_reducible assumption) | assumption)
              have q230 : x3_1 < (l0.length : Int) := of_decide_eq_true (by first | (with_reducible assumption) | assumption)
              obtain ⟨ad230, A230_0, c230_0, e230, hx230_0, hl230_0, hi230_0⟩ := at_L1 HR0.out x3_1 p230 q230
              cases e230
              have HR230_0 := Aside0.mk hi230_0
              have HC230_0 := Aside0.mk hl230_0
              clear hi230_0 hl230_0
              replace p230 := eq_true p230
              replace q230 := eq_true q230
              have p231 : 0 ≤ (0 : Int) := (by omega)
              have q231 : 0 < (l0.length : Int) := of_decide_eq_true (by first | (with_reducible assumption) | assumption)
              obtain ⟨ad231, A231_0, c231_0, e231, hx231_0, hl231_0, hi231_0⟩ := at_L1 HR0.out 0 p231 q231
              obtain rfl : ad230 = ad231 := (by injection e231)
              have qi231 : (0 < l0.length) = True := eq_true (by omega)
              (try rw [show ((0 : Int)).toNat = 0 from rfl] at hx231_0)
              (try rw [Addr.add_zero'] at hx231_0)
              have HR231_0 := Aside0.mk hi231_0
              have HC231_0 := Aside0.mk hl231_0
              clear hi231_0 hl231_0
              replace p231 := eq_true p231
              replace q231 := eq_true q231
              go_wp2
              repeat (go_quiet (fail); try go_wp2)
              go_roundg k1
              case measure => have := HK1.out; omega
              case rel => exact ⟨(wrap64 (x3_1 + 1)), (by first | rfl | (simp; done) | (simp [*]; done)), H', ⟨by have := HK1.out; omega⟩, by repeat (first | exact Drawn0.refl _ | apply Drawn0.step)⟩
            · rw [if_neg c5] at H
              have c5b0 : (((rd_L1 l0 x3_1).length : Int) == ((rd_L1 l0 0).length : Int)) = false := beq_eq_false_iff_ne.mpr c5
              have c5b1 : (((rd_L1 l0 x3_1).length : Int) != ((rd_L1 l0 0).length : Int)) = true := bne_iff_ne.mpr c5
              have c5b2 : ((rd_L1 l0 x3_1).length == (rd_L1 l0 0).length) = false := by first | simpa using c5 | (simp at c5 ⊢; omega)
              obtain rfl := Option.some.inj H
              have p230 : 0 ≤ (x3_1 : Int) := of_decide_eq_true (by first | (with_reducible assumption) | assumption)
              have q230 : x3_1 < (l0.length : Int) := of_decide_eq_true (by first | (with_reducible assumption) | assumption)
              obtain ⟨ad230, A230_0, c230_0, e230, hx230_0, hl230_0, hi230_0⟩ := at_L1 HR0.out x3_1 p230 q230
              cases e230
              have HR230_0 := Aside0.mk hi230_0
              have HC230_0 := Aside0.mk hl230_0
              clear hi230_0 hl230_0
              replace p230 := eq_true p230
              replace q230 := eq_true q230
              have p231 : 0 ≤ (0 : Int) := (by omega)
              have q231 : 0 < (l0.length : Int) := of_decide_eq_true (by first | (with_reducible assumption) | assumption)
              obtain ⟨ad231, A231_0, c231_0, e231, hx231_0, hl231_0, hi231_0⟩ := at_L1 HR0.out 0 p231 q231
              obtain rfl : ad230 = ad231 := (by injection e231)
              have qi231 : (0 < l0.length) = True := eq_true (by omega)
              (try rw [show ((0 : Int)).toNat = 0 from rfl] at hx231_0)
              (try rw [Addr.add_zero'] at hx231_0)
              have HR231_0 := Aside0.mk hi231_0
              have HC231_0 := Aside0.mk hl231_0
              clear hi231_0 hl231_0
              replace p231 := eq_true p231
              replace q231 := eq_true q231
              go_wp2
              repeat (go_quiet (fail); try go_wp2)
              go_ret
              exact ⟨by first | rfl | (simp; done) | (simp [*]; done), by repeat (first | exact Drawn0.refl _ | apply Drawn0.step)⟩
          · rw [if_neg c4] at H
            exact absurd H (by simp)
        · rw [if_neg c3] at H
          exact absurd H (by simp)
      · rw [if_neg c2] at H
        have c2b0 : decide (x3_1 < (l0.length : Int)) = false := decide_eq_false c2
        clear c2
        obtain rfl := Option.some.inj H
        go_wp2
        repeat (go_quiet (fail); try go_wp2)
        go_ret
        exact ⟨by first | rfl | (simp; done) | (simp [*]; done), by repeat (first | exact Drawn0.refl _ | apply Drawn0.step)⟩

end Go.Proofs.Ytanknpdibjfmlaa.P
